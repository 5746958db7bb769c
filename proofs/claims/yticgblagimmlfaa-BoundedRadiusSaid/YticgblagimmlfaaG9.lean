/- Euclid's algorithm. -/
import Derived.Test.YticgblagimmlfaaG8
namespace Go.Proofs.Yticgblagimmlfaa
open Go.RowKit Go.Proofs.YticgblagimmlfaaW.PrintWords Go.Proofs.YticgblagimmlfaaW.PrintLast Go.Proofs.YticgblagimmlfaaW.PrintMore
set_option linter.unusedVariables false
set_option linter.unusedSimpArgs false

/-- A slice that reads as l. -/
structure Rd (w : World) (v : Value) (l : List Int) : Prop where mk ::
  out : ∃ A c, v = .slice A l.length c ∧ l.length ≤ c ∧ Kd.C (Kd.int .i64) w A l.length l
theorem Rd.below {w w1 : World} {v : Value} {l : List Int} (h : Rd w v l) (hb : Below w.heap.size w w1) : Rd w1 v l := by
  obtain ⟨A, c, e, hc, hC⟩ := h.out
  exact ⟨A, c, e, hc, Kd.C_below hC hb⟩
theorem Rd.aside {w : World} {v : Value} {l : List Int} (h : Rd w v l) : Aside0 (Rd w v l) := ⟨h⟩
theorem Own.rd {w : World} {base : Nat} {v : Value} {l : List Int} (h : Own w base v l) : Rd w v l := ⟨h.slice⟩
theorem Rd.nil (w : World) : Rd w (.slice none 0 0) [] := ⟨none, 0, rfl, Nat.le_refl _, Kd.C_nil _ _⟩

theorem divC_length (D : GFD) (p q : List Int) : (D.divC p q).1.length ≤ p.length + 1 - q.length ∧ (D.divC p q).2.length ≤ p.length := by
  have h := divLoop_length D q (D.inv (q.getD (q.length - 1) 0)) (p.length + 1 - q.length) p (List.replicate (p.length + 1 - q.length) 0)
  have h1 := trimZ_length_le (D.divLoop q (D.inv (q.getD (q.length - 1) 0)) (p.length + 1 - q.length) p (List.replicate (p.length + 1 - q.length) 0)).1
  have h2 := trimZ_length_le (D.divLoop q (D.inv (q.getD (q.length - 1) 0)) (p.length + 1 - q.length) p (List.replicate (p.length + 1 - q.length) 0)).2
  rw [h.1, List.length_replicate] at h1
  rw [h.2] at h2
  exact ⟨h1, h2⟩
theorem cell_alloc2_0 (W : World) (u v : Value) (t : TypeId) : (W.alloc (.cells #[u, v] t)).cell? ⟨W.heap.size, 0, none⟩ = some u :=
  (blk_cell (heap_alloc_new W (.cells #[u, v] t)) 0).trans rfl
theorem cell_alloc2_1 (W : World) (u v : Value) (t : TypeId) : (W.alloc (.cells #[u, v] t)).cell? ⟨W.heap.size, 1, none⟩ = some v :=
  (blk_cell (heap_alloc_new W (.cells #[u, v] t)) 1).trans rfl
theorem rd_lit0 (w : World) : Rd (w.alloc (.cells #[] 3)) (.slice (some ⟨w.heap.size, 0, none⟩) 0 0) [] := ⟨_, 0, rfl, Nat.le_refl _, ⟨rfl, by simp, fun h => absurd h (Nat.lt_irrefl 0)⟩⟩

set_option maxRecDepth 100000 in
theorem euclid_any {g : Nat} {D : GFD} {w : World} (h : GFat w g D) (hD : D.ok) {va vb : Value} {a b : List Int} (ha : Rd w va a) (hb : Rd w vb b) (bound : Int) (hb0 : 0 ≤ bound) (hb1 : bound ≤ 1000000)
    (k : Nat) (hk : k ≤ 1000000) (la : a.length ≤ 1000000) (lb : b.length ≤ 1000000) {R : List Int × List Int} (hR : D.euclid bound k a b [] [1] = some R) :
    Calls Try.prog 104 #[.pointer (some ⟨g, 0, none⟩), va, vb, .int .i64 bound] w fun e w' => ∃ v1 v2, e = .returned (.tuple #[v1, v2]) ∧ Rd w' v1 R.1 ∧ Rd w' v2 R.2 ∧ R.1.length ≤ 1000000 ∧ R.2.length ≤ 1000000000001 ∧ Below w.heap.size w w' := by
  have H := Aside0.mk h
  have HA := Aside0.mk ha
  have HB := Aside0.mk hb
  have HR := Aside0.mk hR
  clear h ha hb hR
  go_enter Try.func104, Try.ntmps104
  go_wp2
  have hB1 := below_alloc (Below.refl w.heap.size w) (.cells #[] 3)
  have hB2 := Aside0.mk (below_alloc hB1 (.cells #[.int .i64 1] 3))
  have Ht : Aside0 (Rd ((w.alloc (.cells #[] 3)).alloc (.cells #[.int .i64 1] 3)) (.slice (some ⟨w.heap.size + 1, 0, none⟩) 1 1) [1]) := ⟨by have := (own_lit1 (w.alloc (.cells #[] 3)) 1).rd; simpa using this⟩
  obtain ⟨T0, hT0, hT1⟩ : ∃ T0, 1 + k * 1000000 ≤ T0 ∧ T0 ≤ 1000000000001 := ⟨1 + k * 1000000, Nat.le_refl _, by omega⟩
  have Ho := Aside0.mk ((rd_lit0 w).below (below_alloc (Below.refl _ _) (.cells #[.int .i64 1] 3)))
  have HA1 := Aside0.mk (HA.out.below hB2.out)
  have HB1 := Aside0.mk (HB.out.below hB2.out)
  clear hB1
  go_loopg [1, 2, 9, 10] k (fun kq v1 v2 v9 v10 w' => ∃ (a b old t : List Int), Aside0 (Rd w' v1 a) ∧ Aside0 (Rd w' v2 b) ∧ Aside0 (Rd w' v9 t) ∧ Aside0 (Rd w' v10 old) ∧ Aside0 (D.euclid bound kq a b old t = some R) ∧ kq ≤ k ∧ a.length ≤ 1000000 ∧ b.length ≤ 1000000 ∧ t.length + kq * 1000000 ≤ T0 ∧ old.length + kq * 1000000 ≤ T0 ∧ Aside0 (Below w.heap.size w w'))
  case atStart => exact ⟨a, b, [], [1], HA1, HB1, Ht, Ho, HR, Nat.le_refl _, la, lb, hT0, Nat.le_trans (by simp) hT0, hB2⟩
  case round =>
    clear HA1 HB1 Ht Ho HR hB2 HA HB la lb
    obtain ⟨a, b, old, t, HA, HB, HT, HO, HE, hkq, la, lb, lt, lo, HBl⟩ := hrel
    cases gk with
    | zero => exact absurd HE.out (by simp [GFD.euclid])
    | succ k1 =>
      have he := HE.out
      obtain ⟨K1, hK1⟩ : ∃ K1, k1 * 1000000 = K1 := ⟨_, rfl⟩
      rw [Nat.succ_mul, hK1] at lt lo
      have lcb := canon_length_le D b
      have HG := Aside0.mk (H.out.below HBl.out)
      simp only [GFD.euclid] at he
      obtain ⟨A1, c1, rfl, hc1, hC1⟩ := HA.out.out
      obtain ⟨A2, c2, rfl, hc2, hC2⟩ := HB.out.out
      obtain ⟨A3, c3, rfl, hc3, hC3⟩ := HT.out.out
      obtain ⟨A4, c4, rfl, hc4, hC4⟩ := HO.out.out
      have HC1 := Aside0.mk hC1
      have HC2 := Aside0.mk hC2
      have HC3 := Aside0.mk hC3
      have HC4 := Aside0.mk hC4
      clear hC1 hC2 hC3 hC4 HE
      by_cases hge : 2 * (((D.canon b).length : Int) - 1) ≥ bound
      · rw [if_pos hge] at he
        have hne : D.canon b ≠ [] := fun e => by rw [e] at hge; simp at hge; omega
        have hdm : D.divMod a b = ((D.divC (D.canon a) (D.canon b)).1, (D.divC (D.canon a) (D.canon b)).2, 0) := by unfold GFD.divMod; rw [if_neg hne]
        rw [hdm] at he
        obtain ⟨hl1, hl2⟩ := divC_length D (D.canon a) (D.canon b)
        have lca := canon_length_le D a
        have hDM := fun (w1 : World) (h1 : Below wr.heap.size wr w1) => Aside0.mk (divMod_some (c := c1) (d := c2) (HG.out.below h1) hD (Kd.C_below HC1.out h1) (Kd.C_below HC2.out h1) (by omega) (by omega) hne)
        obtain ⟨q, hq⟩ : ∃ q, (D.divC (D.canon a) (D.canon b)).1 = q := ⟨_, rfl⟩
        obtain ⟨r, hr⟩ : ∃ r, (D.divC (D.canon a) (D.canon b)).2 = r := ⟨_, rfl⟩
        simp only [hq, hr] at he hl1 hl2 hDM
        obtain ⟨nl, hnl⟩ : ∃ n, (D.canon b).length = n := ⟨_, rfl⟩
        have hdeg := fun (w1 : World) (h1 : Below wr.heap.size wr w1) => Aside0.mk (degree_any (c := c2) (HG.out.below h1) (Kd.C_below HC2.out h1) (by omega))
        simp only [hnl] at hdeg lcb hge hl1
        have m1 := product_length_le D [1] q
        have m2 := product_length_le D (D.product [1] q) t
        simp only [List.length_cons, List.length_nil] at m1
        obtain ⟨M, hM⟩ : ∃ M, D.product (D.product [1] q) t = M := ⟨_, rfl⟩
        have hs := combine_length_le D old (D.neg 1) M
        have hs' : (D.subP old M).length ≤ max old.length M.length := hs
        rw [hM] at m2 he
        obtain ⟨T, hT⟩ : ∃ T, D.subP old M = T := ⟨_, rfl⟩
        rw [hT] at hs' he
        have HE := Aside0.mk he
        have HM := Aside0.mk hM
        have HT' := Aside0.mk hT
        have hlM : M.length + K1 ≤ T0 := by omega
        have hlT : T.length + K1 ≤ T0 := by omega
        have hlq : q.length ≤ 1000000 := by omega
        have hlt : t.length + K1 ≤ T0 := by omega
        have hlr : r.length ≤ 1000000 := by omega
        have hB0 := Below.refl wr.heap.size wr
        clear he hdm hq hr hnl hM hT hs hs' m1 m2 hne
        go_wp2_with (first
          | (go_at_call 139; refine (hdeg _ hB0).out.mono ?_; rintro e w1 ⟨rfl, hB⟩; have HB1 := Aside0.mk hB; clear hB)
          | (go_at_call 106; refine (hDM _ HB1.out).out.mono ?_; rintro e w2 ⟨v1, v2, rfl, hO1, hO2, hB⟩; obtain ⟨Aq, cq, rfl, hcq, hCq⟩ := hO1.slice; have HCq := Aside0.mk hCq; have HR2 := Aside0.mk hO2.rd; have HB2 := Aside0.mk (below_later HB1.out HB1.out.size hB); clear hO1 hO2 hB hCq)
          | (go_at_call 141; (with_reducible refine (mul2_any (p := q) (q := t) (HG.out.below (below_alloc HB2.out _)) hD (Kd.C_below HCq.out (below_alloc (Below.refl _ _) _)) (Kd.C_below HC3.out (below_alloc HB2.out _)) (cell_alloc2_0 _ _ _ _) (cell_alloc2_1 _ _ _ _) (by omega)).mono ?_); rw [HM.out]; rintro e w3 ⟨v3, rfl, hO3, hB⟩; obtain ⟨Am, cm, rfl, hcm, hCm⟩ := hO3.slice; have HCm := Aside0.mk hCm; have HB3 := Aside0.mk (below_later (below_alloc HB2.out _) (below_alloc HB2.out _).size hB); have HR3 := Aside0.mk ((HR2.out.below (below_alloc (Below.refl _ _) _)).below hB); clear hO3 hB hCm)
          | (go_at_call 140; (with_reducible refine (subP_any (HG.out.below HB3.out) hD (Kd.C_below HC4.out HB3.out) HCm.out (by omega) (by omega)).mono ?_); rw [HT'.out]; rintro e w4 ⟨v4, rfl, hO4, hB⟩; have HO4 := Aside0.mk hO4.rd; have HB4 := Aside0.mk (below_later HB3.out HB3.out.size hB); have HR4 := Aside0.mk (HR3.out.below hB); clear hO4 hB))
        have hB4 := Aside0.mk (below_later HBl.out HBl.out.size HB4.out)
        go_roundg k1
        case measure => omega
        case rel => exact ⟨b, r, t, T, (HB.out.below HB4.out).aside, HR4, HO4, ((Rd.mk ⟨A3, c3, rfl, hc3, HC3.out⟩).below HB4.out).aside, HE, by omega, lb, hlr, by rw [hK1]; exact hlT, by rw [hK1]; exact hlt, hB4⟩
      · rw [if_neg hge] at he
        have hR := Option.some.inj he
        have HRR := Aside0.mk hR
        have hdeg := fun (w1 : World) (h1 : Below wr.heap.size wr w1) => Aside0.mk (degree_any (c := c2) (HG.out.below h1) (Kd.C_below HC2.out h1) (by omega))
        obtain ⟨nl, hnl⟩ : ∃ n, (D.canon b).length = n := ⟨_, rfl⟩
        simp only [hnl] at hdeg hge lcb
        have hB0 := Below.refl wr.heap.size wr
        clear he hR hnl
        go_wp2_with (go_at_call 139; refine (hdeg _ hB0).out.mono ?_; rintro e w1 ⟨rfl, hB⟩; have HB1 := Aside0.mk hB; clear hB)
        go_ret2
        obtain rfl := HRR.out
        exact ⟨_, _, rfl, (HB.out.below HB1.out), ((Rd.mk ⟨A3, c3, rfl, hc3, HC3.out⟩).below HB1.out), lb, by show t.length ≤ _; omega, below_later HBl.out HBl.out.size HB1.out⟩
end Go.Proofs.Yticgblagimmlfaa
