/- Parts of the proof: R10, R11, R12, R13, R14, R15, WTab, WFour, WAt, WEqStruct (those that begin with W: words that print.sh wrote, shortened to what this claim uses). -/
import Derived.Test.YticgblagimmlfaaX817
import Derived.Test.YticgblagimmlfaaX812
import Derived.Test.YticgblagimmlfaaX801
import Derived.Test.YticgblagimmlfaaX800
import Derived.Test.YticgblagimmlfaaX816
import Derived.Laws.StructEq
section
/- The reference: Canon. -/
namespace Go.Proofs.Yticgblagimmlfaa
open Go.RowKit Go.Proofs.YticgblagimmlfaaW.PrintWords Go.Proofs.YticgblagimmlfaaW.PrintLast Go.Proofs.YticgblagimmlfaaW.PrintMore
set_option linter.unusedVariables false
set_option linter.unusedSimpArgs false

theorem OA.take {w : World} {base t : Nat} {A : Option Addr} {ls : List (List Int)} (h : OA w base A ls) (ht : t ≤ ls.length) : OA w base A (ls.take t) :=
  ⟨fun i hi => by
    have hl : (ls.take t).length = t := by simp; omega
    rw [hl] at hi
    obtain ⟨g, v, e, hb, hc, hf, hr⟩ := h.out i (by omega)
    exact ⟨g, v, e, hb, hc, hf, by rw [List.getD_eq_getElem?_getD, List.getElem?_take_of_lt hi, ← List.getD_eq_getElem?_getD]; exact hr⟩,
  fun i hi g v k e hc h0 hk => by
    have hl : (ls.take t).length = t := by simp; omega
    rw [hl] at hi
    rw [List.getD_eq_getElem?_getD, List.getElem?_take_of_lt hi, ← List.getD_eq_getElem?_getD] at h0
    exact h.inb i (by omega) g v k e hc h0 hk,
  fun g e hp => h.blk g e (by simp at hp; omega)⟩
/-- What Canon returns. -/
structure CanonOut (R : Nat → Nat → List (List Int) → List Int → Prop) (n N : Nat) (w' : World) (base : Nat) (e : Ending) : Prop where mk ::
  out : ∃ (A1 : Option Addr) (c1 : Nat) (l : List (List Int)) (v2 : Value) (pv : List Int) (t cc : Nat), e = .returned (.tuple #[.slice A1 t c1, v2]) ∧ OA w' base A1 (l.take t) ∧ (l.take t).length = t ∧ t ≤ c1 ∧ t ≤ N ∧ R cc t l pv ∧ cc ≤ n ∧ (cc = n ∨ t = N)
set_option maxHeartbeats 8000000 in
set_option maxRecDepth 100000 in
theorem rCanon {w : World} {A B : Option Addr} {c d n : Nat} (K : FD) (hC : Kd.C (Kd.int .i64) w A K.Mod.length K.Mod) {ls : List (List Int)} (hl : Kd.C (Kd.slice 3 (Kd.int .i64)) w B ls.length ls) (h1 : ls.length ≤ 1000) (hn : n ≤ 1000) (hs : Shp K.D n ls) :
    Calls Try.prog 114 #[.agg #[.int .i64 K.P, .int .i64 (K.m : Int), .slice A K.Mod.length c], .slice B ls.length d, .int .i64 n] w fun e w' => CanonOut (Reach K.D ls) n ls.length w' w.heap.size e ∧ Below w.heap.size w w' := by
  have hF0 := FAt.new w K.P (K.m : Int) A K.Mod.length c
  obtain ⟨w0, hw0⟩ : ∃ w0, w.alloc (.cells #[.int .i64 K.P, .int .i64 (K.m : Int), .slice A K.Mod.length c] 27) = w0 := ⟨_, rfl⟩
  have hB0 : Below w.heap.size w w0 := by rw [← hw0]; exact below_alloc (Below.refl _ _) _
  rw [hw0] at hF0
  have HB0 := Aside0.mk hB0
  have HW := Aside0.mk hw0
  have hE := rElim (c := c) (d := d) K (Kd.C_below hC hB0) (Kd.C_below hl hB0) h1 hn hs
  have HFacts := Aside0.mk (fun (cc t : Nat) (l : List (List Int)) (pv : List Int) (h : Reach K.D ls cc t l pv) => Reach.facts hs h)
  obtain ⟨RR, hRR⟩ : ∃ R : Nat → Nat → List (List Int) → List Int → Prop, Reach K.D ls = R := ⟨_, rfl⟩
  rw [hRR] at hE HFacts ⊢
  obtain ⟨N, hN⟩ : ∃ N, ls.length = N := ⟨_, rfl⟩
  rw [hN] at hE HFacts h1 ⊢
  have HE := Aside0.mk hE
  obtain ⟨cP, cM, cD⟩ := hF0
  clear hB0 hw0 hC hl hs hN hRR hE
  go_enter Try.func114, Try.ntmps114
  go_upto_region 1 with (fail)
  rw [HW.out]
  go_upto_region 2 with (go_at_call 146; refine HE.out.mono ?_; rintro e w1 ⟨hO, hB⟩; obtain ⟨A1, c1, l, v2, pv, t, cc, rfl, ho, hc1, hv2, hr, hcn, hend⟩ := hO.out; obtain ⟨A2, c2, rfl, -, -⟩ := hv2.slice; obtain ⟨f1, f2, f3, f4, -⟩ := HFacts.out _ _ _ _ hr; rw [f1] at f2; rw [f4]; have HO1 := Aside0.mk ho; have HR := Aside0.mk hr; have HEnd := Aside0.mk hend; have HB1 := Aside0.mk hB; have F1 := Aside0.mk f1; have F4 := Aside0.mk f4; clear ho hO hB hv2 hr hend f1 f4)
  have it0 : (0 : Int) ≤ (t : Int) := by omega
  have it1 : (t : Int) ≤ (c1 : Int) := by omega
  have it2 : (t : Int) ≤ (N : Int) := by omega
  go_wp2
  go_ret2
  exact ⟨⟨A1, c1, l, _, pv, t, cc, rfl, (HO1.out.take (by rw [F1.out]; exact f2)).lower HB0.out.size, by rw [List.length_take, F1.out]; omega, by omega, f2, HR.out, hcn, HEnd.out⟩, below_later HB0.out HB0.out.size HB1.out⟩

/-- The pivots' list. -/
def pvZ (p : Nat → Nat) (k : Nat) : List Int := (List.range k).map fun i => (p i : Int)
theorem pvZ_succ (p : Nat → Nat) (k : Nat) : pvZ p (k + 1) = pvZ p k ++ [(p k : Int)] := by simp [pvZ, List.range_succ]
theorem pvZ_length (p : Nat → Nat) (k : Nat) : (pvZ p k).length = k := by simp [pvZ]
theorem pvZ_getD (p : Nat → Nat) (k i : Nat) (h : i < k) : (pvZ p k).getD i 0 = (p i : Int) := range_map_getD _ _ _ h
set_option maxHeartbeats 8000000 in
set_option maxRecDepth 100000 in
theorem rPivots {w : World} {A : Option Addr} {c n : Nat} (K : FD) {G : List (List Int)} {p : Nat → Nat} (hG : K.RRE n G p) (hl : Kd.C (Kd.slice 3 (Kd.int .i64)) w A G.length G) (h1 : G.length ≤ 1000) (hn : n ≤ 1000) :
    Calls Try.prog 144 #[.slice A G.length c] w fun e w' => ∃ v, e = .returned v ∧ Own w' w.heap.size v (pvZ p G.length) ∧ Below w.heap.size w w' := by
  have HL := Aside0.mk hl
  have HG := Aside0.mk hG
  have HBz := Aside0.mk (Below.refl w.heap.size w)
  obtain ⟨f, hf⟩ : ∃ f, pvZ p = f := ⟨_, rfl⟩
  have HS : Aside0 (∀ k, f (k + 1) = f k ++ [(p k : Int)]) := ⟨fun k => by rw [← hf]; exact pvZ_succ p k⟩
  have HFl : Aside0 (∀ k, (f k).length = k) := ⟨fun k => by rw [← hf]; exact pvZ_length p k⟩
  have H0 : Aside0 (Own w w.heap.size (.slice none 0 0) (f 0)) := ⟨by rw [← hf]; exact Own.nil _ _⟩
  rw [hf]
  obtain ⟨N, hN⟩ : ∃ N, G.length = N := ⟨_, rfl⟩
  have HN := Aside0.mk hN
  rw [hN] at HL h1 ⊢
  clear hl hG hf hN
  go_enter Try.func144, Try.ntmps144
  go_wp2
  go_loopw [3, 4] (fun v3 v4 w' => ∃ k : Nat, v4 = .int .i64 k ∧ k ≤ N ∧ Aside0 (Own w' w.heap.size v3 (f k)) ∧ Aside0 (Below w.heap.size w w')) (fun _ v4 _ => N - (intOf v4).toNat)
  case atStart => exact ⟨0, rfl, by omega, H0, HBz⟩
  case round =>
    clear H0 HBz
    obtain ⟨k, rfl, hk, HO, HB⟩ := hrel
    obtain ⟨A3, c3, e3, -, -⟩ := HO.out.slice
    rw [HFl.out] at e3
    by_cases hlk : k < N
    · obtain ⟨ad, B, d, e, hx, hx2, hx3⟩ := rows_at (Kd.C_below HL.out HB.out) k hlk
      cases e
      have hrl := (HG.out.shp _ (getD_mem_rows (by rw [HN.out]; exact hlk))).1
      have hone := HG.out.one k k (by rw [HN.out]; exact hlk) (by rw [HN.out]; exact hlk)
      have hlow := fun q hq => HG.out.low k q (by rw [HN.out]; exact hlk) hq
      have hpn := HG.out.lt k (by rw [HN.out]; exact hlk)
      rw [if_pos rfl] at hone
      obtain ⟨r, hr⟩ : ∃ r, G.getD k [] = r := ⟨_, rfl⟩
      rw [hr] at hx hx2 hx3 hrl hone
      simp only [hr] at hlow
      rw [hrl] at hx hx2
      have HX3 := Aside0.mk hx3
      have HRl := Aside0.mk hrl
      have HOne := Aside0.mk hone
      have HLow := Aside0.mk hlow
      subst e3
      clear hr hx3 hrl hone hlow
      have i0 : (0 : Int) ≤ (k : Int) := by omega
      have i1 : (k : Int) < (N : Int) := by omega
      go_upto_region 6 with (fail)
      go_loop [5] (fun v5 => ∃ q : Nat, v5 = .int .i64 q ∧ q ≤ p k) (fun v5 => n - (intOf v5).toNat)
      case atStart => exact ⟨0, rfl, by omega⟩
      case round =>
        obtain ⟨q, rfl, hq⟩ := hrel
        obtain ⟨ad2, e, hy⟩ := C_nat HX3.out q (by rw [HRl.out]; omega)
        cases e
        have iq0 : (0 : Int) ≤ (q : Int) := by omega
        have iq1 : (q : Int) < (n : Int) := by omega
        by_cases hqp : q = p k
        · subst hqp
          rw [HOne.out] at hy
          go_wp2_with ((with_reducible refine gate_builtin (b := .append) (xs := #[.tmp 31, .tmp 33]) rfl ?_); at_builtin; refine append_own4 (w0 := w) w.heap.size rfl (.tmp 31) (.tmp 33) rfl (v := .slice A3 k c3) (xs := f k) (p k : Int) rfl rfl HO.out HB.out HB.out.size (by rw [HFl.out]; omega) ?_; intro v5 w5 h5 hb5 hg5 hat5; rw [← HS.out] at h5; have HO7 := Aside0.mk h5; have HB7 := Aside0.mk hb5; clear h5 hb5 hg5 hat5)
          go_roundw
          case rel => exact ⟨k + 1, by go_num, by omega, HO7, HB7⟩
          case measure => simp [intOf]; omega
        · rw [HLow.out q (by omega)] at hy
          go_wp2
          go_round
          case rel => exact ⟨q + 1, by go_num, by omega⟩
          case measure => simp [intOf]; omega
    · obtain rfl : k = N := by omega
      subst e3
      go_wp2
      go_ret
      exact ⟨_, rfl, HO.out, HB.out⟩

set_option maxHeartbeats 8000000 in
set_option maxRecDepth 100000 in
theorem rRest {w : World} {A B V : Option Addr} {c d n cv : Nat} (K : FD) (hC : Kd.C (Kd.int .i64) w A K.Mod.length K.Mod) {G : List (List Int)} {p : Nat → Nat} (hG : K.RRE n G p) (hl : Kd.C (Kd.slice 3 (Kd.int .i64)) w B G.length G) (h1 : G.length ≤ 1000) (hn : n ≤ 1000) {v : List Int} (hv : Kd.C (Kd.int .i64) w V v.length v) (hvl : v.length = n) :
    Calls Try.prog 113 #[.agg #[.int .i64 K.P, .int .i64 (K.m : Int), .slice A K.Mod.length c], .slice B G.length d, .slice V v.length cv] w fun e w' => ∃ u, e = .returned u ∧ Own w' w.heap.size u (restZ K.D G p v G.length) ∧ Below w.heap.size w w' := by
  have hF0 := FAt.new w K.P (K.m : Int) A K.Mod.length c
  obtain ⟨w0, hw0⟩ : ∃ w0, w.alloc (.cells #[.int .i64 K.P, .int .i64 (K.m : Int), .slice A K.Mod.length c] 27) = w0 := ⟨_, rfl⟩
  have hB0 : Below w.heap.size w w0 := by rw [← hw0]; exact below_alloc (Below.refl _ _) _
  rw [hw0] at hF0
  have HB0 := Aside0.mk hB0
  have HW := Aside0.mk hw0
  have HF := Aside0.mk hF0
  have HL := Aside0.mk (Kd.C_below hl hB0)
  have HV := Aside0.mk (Kd.C_below hv hB0)
  have HMod := Aside0.mk (Kd.C_below hC hB0)
  have HG := Aside0.mk hG
  have HPv := Aside0.mk (rPivots (c := d) K hG (Kd.C_below hl hB0) h1 hn)
  have HNeg := Aside0.mk (fun (w1 : World) (y : Int) => rNeg (w := w1) (A := A) (n := K.Mod.length) (c := c) K y)
  have HAdT := Aside0.mk (fun (w1 : World) (hb : Below w0.heap.size w0 w1) (x : Int) (D E : Option Addr) (dd ee : Nat) (a b : List Int) (ha : Kd.C (Kd.int .i64) w1 D a.length a) (hb' : Kd.C (Kd.int .i64) w1 E b.length b) (hab : a.length ≤ b.length) (hal : a.length ≤ 1000) => rAddTo (c := c) (d := dd) (ee := ee) K (Kd.C_below HMod.out hb) x ha hb' hab hal)
  obtain ⟨f, hf⟩ : ∃ f, restZ K.D G p v = f := ⟨_, rfl⟩
  have HS : Aside0 (∀ k, f (k + 1) = addToZ K.D (f k) (K.D.neg (v.getD (p k) 0)) (G.getD k [])) := ⟨fun k => by rw [← hf]; rfl⟩
  have HFl : Aside0 (∀ k, (f k).length = n) := ⟨fun k => by rw [← hf, restZ_length]; exact hvl⟩
  have HF0e : Aside0 (f 0 = v) := ⟨by rw [← hf]; rfl⟩
  have HPg := Aside0.mk (fun i h => pvZ_getD p G.length i h)
  have HPl := Aside0.mk (pvZ_length p G.length)
  obtain ⟨PV, hPV⟩ : ∃ PV, pvZ p G.length = PV := ⟨_, rfl⟩
  rw [hPV] at HPv HPg HPl
  rw [hf]
  obtain ⟨N, hN⟩ : ∃ N, G.length = N := ⟨_, rfl⟩
  have HN := Aside0.mk hN
  have HVl := Aside0.mk hvl
  rw [hN] at HL h1 HPv HPg HPl ⊢
  clear hF0 hB0 hw0 hC hl hG hf hN hPV hv hvl
  go_enter Try.func113, Try.ntmps113
  go_upto_region 1 with (fail)
  rw [HW.out]
  go_upto_region 2 with (go_at_call 144; refine HPv.out.mono ?_; rintro e w1 ⟨v1, rfl, hO, hB⟩; obtain ⟨Ap, cp, rfl, hcp, hCp⟩ := hO.slice; rw [HPl.out]; rw [HPl.out] at hCp; have HCp := Aside0.mk hCp; have HB1 := Aside0.mk hB; have HLit := Aside0.mk (own_lit0 w1); have HBa := Aside0.mk (below_alloc (Below.refl w1.heap.size w1) (.cells #[] 3)); clear hO hB hcp hCp)
  go_wp2_with ((with_reducible refine gate_builtin (b := .append) (xs := #[.tmp 12, .tmp 13]) rfl ?_); at_builtin; refine append_list (w0 := w1) (base := w1.heap.size) rfl (.tmp 12) (.tmp 13) rfl rfl rfl HLit.out HBa.out.size (Kd.C_below (Kd.C_below HV.out HB1.out) HBa.out) HBa.out (by simp; have := HVl.out; omega) ?_; intro v6 w6 h6 hb6; rw [List.nil_append] at h6; obtain ⟨A6, c6, rfl, -, -⟩ := h6.slice; have HO6 := Aside0.mk h6; have HB6 := Aside0.mk (below_later HB1.out HB1.out.size hb6); have HB6a := Aside0.mk hb6; clear h6 hb6)
  have H0 : Aside0 (Own w6 w0.heap.size (.slice A6 v.length c6) (f 0)) := ⟨by rw [HF0e.out]; exact HO6.out.lower HB1.out.size⟩
  go_loopw [8, 9] (fun v8 v9 w' => ∃ k : Nat, v9 = .int .i64 k ∧ k ≤ N ∧ Aside0 (Own w' w0.heap.size v8 (f k)) ∧ Aside0 (Below w0.heap.size w0 w') ∧ Aside0 (Below w1.heap.size w1 w')) (fun _ v9 _ => N - (intOf v9).toNat)
  case atStart => exact ⟨0, rfl, by omega, H0, HB6, HB6a⟩
  case round =>
    clear H0 HB6 HB6a
    obtain ⟨k, rfl, hk, HO, HB, HB1r⟩ := hrel
    obtain ⟨A8, c8, e8, -, hC8⟩ := HO.out.slice
    rw [HFl.out] at e8 hC8
    subst e8
    by_cases hlk : k < N
    · obtain ⟨ad, B2, d2, e, hx, hx2, hx3⟩ := rows_at (Kd.C_below HL.out HB.out) k hlk
      cases e
      have hrl := (HG.out.shp _ (getD_mem_rows (by rw [HN.out]; exact hlk))).1
      have hpn := HG.out.lt k (by rw [HN.out]; exact hlk)
      obtain ⟨r, hr⟩ : ∃ r, G.getD k [] = r := ⟨_, rfl⟩
      rw [hr] at hx hx2 hx3 hrl
      have hCp : Kd.C (Kd.int .i64) w1 Ap PV.length PV := by rw [HPl.out]; exact HCp.out
      obtain ⟨adp, e, hy⟩ := C_nat (Kd.C_below hCp HB1r.out) k (by rw [HPl.out]; exact hlk)
      clear hCp
      cases e
      rw [HPg.out k hlk] at hy
      obtain ⟨adv, e, hz⟩ := C_nat (Kd.C_below HV.out HB.out) (p k) (by rw [HVl.out]; exact hpn)
      cases e
      have hsk := HS.out k
      rw [hr] at hsk
      obtain ⟨y, hye⟩ : ∃ y, v.getD (p k) 0 = y := ⟨_, rfl⟩
      rw [hye] at hz hsk
      obtain ⟨nz, hnz⟩ : ∃ nz, K.D.neg y = nz := ⟨_, rfl⟩
      rw [hnz] at hsk
      obtain ⟨q, hq⟩ : ∃ q : Nat, p k = q := ⟨_, rfl⟩
      rw [hq] at hy hz hpn
      have HNz : Aside0 (∀ w4 : World, Calls Try.prog 84 #[.agg #[.int .i64 K.P, .int .i64 (K.m : Int), .slice A K.Mod.length c], .int .i64 y] w4 fun e w' => e = .returned (.int .i64 nz) ∧ Below w4.heap.size w4 w') := ⟨fun w4 => by rw [← hnz]; exact HNeg.out w4 y⟩
      have HX3 := Aside0.mk hx3
      have HC8 := Aside0.mk hC8
      have HAd1 := Aside0.mk (fun (w4 : World) (hb : Below wr.heap.size wr w4) => HAdT.out w4 (below_later HB.out HB.out.size hb) nz A8 B2 c8 d2 (f k) r (Kd.C_below (by rw [HFl.out]; exact HC8.out) hb) (Kd.C_below HX3.out hb) (by rw [HFl.out, hrl]; exact Nat.le_refl _) (by rw [HFl.out]; exact hn))
      simp only [HFl.out] at HAd1
      rw [← hsk] at HAd1
      obtain ⟨cP, cM, cD⟩ := HF.out.below HB.out
      have i0 : (0 : Int) ≤ (k : Int) := by omega
      have i1 : (k : Int) < (N : Int) := by omega
      have iq0 : (0 : Int) ≤ (q : Int) := by omega
      have iq1 : (q : Int) < (v.length : Int) := by have := HVl.out; omega
      clear hr hye hnz hq hsk hx3 hC8 hrl
      go_upto_region 6 with (fail)
      go_region_held3 (fun w' => w'.cell? ⟨w.heap.size, 0, none⟩ = some (.int .i64 K.P) ∧ w'.cell? ⟨w.heap.size, 1, none⟩ = some (.int .i64 (K.m : Int)) ∧ w'.cell? ⟨w.heap.size, 2, none⟩ = some (.slice A K.Mod.length c) ∧ w'.cell? (ad.add k) = some (.slice B2 r.length d2) ∧ w'.cell? (adp.add k) = some (.int .i64 q) ∧ w'.cell? (adv.add q) = some (.int .i64 y)) (first | exact ⟨‹_›, ‹_›, ‹_›, ‹_›, ‹_›, ‹_›⟩ | go_keep) (first
        | (go_at_call 84; refine Calls.mono (HNz.out _) ?_; rintro e w4 ⟨rfl, hB⟩; have HB4 : Aside0 (Below wr.heap.size wr w4) := ⟨below_step (below_drew1 (Below.refl _ _)) hB⟩; have cP4 := pw_cell_below HB4.out cP; have cM4 := pw_cell_below HB4.out cM; have cD4 := pw_cell_below HB4.out cD; have hx4 := pw_cell_below HB4.out hx; have hy4 := pw_cell_below HB4.out hy; have hz4 := pw_cell_below HB4.out hz; clear hB)
        | (go_at_call 145; (with_reducible refine Calls.mono (HAd1.out _ HB4.out) ?_); rintro e w5 ⟨v5, rfl, hO, hB⟩; have HO5 := Aside0.mk hO; have HB5 : Aside0 (Below wr.heap.size wr w5) := ⟨below_later HB4.out HB4.out.size hB⟩; have HB5s := Aside0.mk HB4.out.size; have cP5 := pw_cell_below HB5.out cP; have cM5 := pw_cell_below HB5.out cM; have cD5 := pw_cell_below HB5.out cD; have hx5 := pw_cell_below HB5.out hx; have hy5 := pw_cell_below HB5.out hy; have hz5 := pw_cell_below HB5.out hz; clear hO hB))
      have HO6 := Aside0.mk (HO5.out.lower (Nat.le_trans HB.out.size HB5s.out))
      have HB6 := Aside0.mk (below_later HB.out HB.out.size HB5.out)
      have HB7 := Aside0.mk (below_later HB1r.out HB1r.out.size HB5.out)
      go_wp2_with (fail)
      go_roundw
      case rel => exact ⟨k + 1, by go_num, by omega, HO6, HB6, HB7⟩
      case measure => simp [intOf]; omega
    · obtain rfl : k = N := by omega
      go_wp2
      go_ret
      exact ⟨_, rfl, HO.out.lower HB0.out.size, below_later HB0.out HB0.out.size HB.out⟩

end Go.Proofs.Yticgblagimmlfaa
end
section
/- The reference: SameRows. -/
namespace Go.Proofs.Yticgblagimmlfaa
open Go.RowKit Go.Proofs.YticgblagimmlfaaW.PrintWords Go.Proofs.YticgblagimmlfaaW.PrintLast Go.Proofs.YticgblagimmlfaaW.PrintMore
set_option linter.unusedVariables false
set_option linter.unusedSimpArgs false

set_option maxHeartbeats 8000000 in
set_option maxRecDepth 100000 in
theorem rSameRows {w : World} {A B : Option Addr} {c d : Nat} {G : List (List Int)} (ha : Kd.C (Kd.slice 3 (Kd.int .i64)) w A G.length G) (hb : Kd.C (Kd.slice 3 (Kd.int .i64)) w B G.length G) :
    Calls Try.prog 161 #[.slice A G.length c, .slice B G.length d] w fun e w' => e = .returned (.bool true) ∧ Below w.heap.size w w' := by
  have HA := Aside0.mk ha
  have HBb := Aside0.mk hb
  have hmx := Kd.C_max ha
  have HBz := Aside0.mk (Below.refl w.heap.size w)
  have hnn : ((G.length : Int) != (G.length : Int)) = false := by simp
  clear ha hb
  go_enter Try.func161, Try.ntmps161
  go_wp2
  go_loopw [5] (fun v5 w' => ∃ k : Nat, v5 = .int .i64 k ∧ k ≤ G.length ∧ Aside0 (Below w.heap.size w w')) (fun v5 _ => G.length - (intOf v5).toNat)
  case atStart => exact ⟨0, rfl, by omega, HBz⟩
  case round =>
    clear HBz
    obtain ⟨k, rfl, hk, HB⟩ := hrel
    by_cases hlk : k < G.length
    · obtain ⟨ad, B1, d1, e, hx, -, hx3⟩ := rows_at (Kd.C_below HA.out HB.out) k hlk
      cases e
      obtain ⟨ad2, B2, d2, e, hy, -, hy3⟩ := rows_at (Kd.C_below HBb.out HB.out) k hlk
      cases e
      obtain ⟨r, hr⟩ : ∃ r, G.getD k [] = r := ⟨_, rfl⟩
      rw [hr] at hx hx3 hy hy3
      have i0 : (0 : Int) ≤ (k : Int) := by omega
      have i1 : (k : Int) < (G.length : Int) := by omega
      have HS1 := Aside0.mk (fun (w1 : World) (hb : Below wr.heap.size wr w1) => rSameInts (c := d1) (d := d2) (Kd.C_below hx3 hb) (Kd.C_below hy3 hb))
      have hcx : ∀ j : Ext wr, j.wd.cell? (ad.add k) = some (.slice B1 r.length d1) := fun j => j.cell hx
      have hcy : ∀ j : Ext wr, j.wd.cell? (ad2.add k) = some (.slice B2 r.length d2) := fun j => j.cell hy
      clear hr hx3 hy3 hx hy
      go_wp2
      refine wp_region_ext (by kernel_rfl) (by kernel_rfl) ?_
      repeat (go_big_quiet_step ((go_at_call 173; with_reducible exact Ext.call _ (HS1.out _ (Ext.below _)))))
      refine wpQuiet_nil ?_
      intro w1 hB1
      have HB1 := Aside0.mk (below_later HB.out HB.out.size hB1)
      clear hcx hcy hB1
      go_wp2
      go_roundw
      case rel => exact ⟨k + 1, by go_num, by omega, HB1⟩
      case measure => simp [intOf]; omega
    · obtain rfl : k = G.length := by omega
      go_wp2
      go_ret
      exact ⟨rfl, HB.out⟩
end Go.Proofs.Yticgblagimmlfaa
end
section
/- The reference: In. -/
namespace Go.Proofs.Yticgblagimmlfaa
open Go.RowKit Go.Proofs.YticgblagimmlfaaW.PrintWords Go.Proofs.YticgblagimmlfaaW.PrintLast Go.Proofs.YticgblagimmlfaaW.PrintMore
set_option linter.unusedVariables false
set_option linter.unusedSimpArgs false

set_option maxHeartbeats 8000000 in
set_option maxRecDepth 100000 in
theorem rIn {w : World} {A B V : Option Addr} {c d n cv : Nat} (K : FD) (hC : Kd.C (Kd.int .i64) w A K.Mod.length K.Mod) {G : List (List Int)} {p : Nat → Nat} (hG : K.RRE n G p) (hl : Kd.C (Kd.slice 3 (Kd.int .i64)) w B G.length G) (h1 : G.length ≤ 1000) (hn : n ≤ 1000) {v : List Int} (hv : Kd.C (Kd.int .i64) w V v.length v) (hvl : v.length = n) :
    Calls Try.prog 74 #[.agg #[.int .i64 K.P, .int .i64 (K.m : Int), .slice A K.Mod.length c], .slice B G.length d, .slice V v.length cv] w fun e w' => e = .returned (.bool (inZ K.D G p v)) ∧ Below w.heap.size w w' := by
  have hF0 := FAt.new w K.P (K.m : Int) A K.Mod.length c
  obtain ⟨w0, hw0⟩ : ∃ w0, w.alloc (.cells #[.int .i64 K.P, .int .i64 (K.m : Int), .slice A K.Mod.length c] 27) = w0 := ⟨_, rfl⟩
  have hB0 : Below w.heap.size w w0 := by rw [← hw0]; exact below_alloc (Below.refl _ _) _
  rw [hw0] at hF0
  have HB0 := Aside0.mk hB0
  have HW := Aside0.mk hw0
  have HRe := Aside0.mk (rRest (c := c) (d := d) (cv := cv) K (Kd.C_below hC hB0) hG (Kd.C_below hl hB0) h1 hn (Kd.C_below hv hB0) hvl)
  obtain ⟨u, hu⟩ : ∃ u, restZ K.D G p v G.length = u := ⟨_, rfl⟩
  obtain ⟨b, hb⟩ : ∃ b, inZ K.D G p v = b := ⟨_, rfl⟩
  rw [hu] at HRe
  rw [hb]
  have hub : u.all (fun x => decide (x = 0)) = b := by rw [← hb, ← hu]; rfl
  have HZ := Aside0.mk (fun (w1 : World) (D : Option Addr) (dd : Nat) (h : Kd.C (Kd.int .i64) w1 D u.length u) => rZero (c := dd) h b hub)
  obtain ⟨cP, cM, cD⟩ := hF0
  clear hB0 hw0 hC hG hl hv hu hb hub hvl
  go_enter Try.func74, Try.ntmps74
  go_upto_region 1 with (fail)
  rw [HW.out]
  go_wp2_with (first
    | (go_at_call 113; (with_reducible refine Calls.mono HRe.out ?_); rintro e w1 ⟨v1, rfl, hO, hB⟩; obtain ⟨Ap, cp, rfl, -, hCp⟩ := hO.slice; have HCp := Aside0.mk hCp; have HB1 := Aside0.mk hB; clear hO hB hCp)
    | (go_at_call 112; (with_reducible refine Calls.mono (HZ.out _ _ _ HCp.out) ?_); rintro e w2 ⟨rfl, hB⟩; have HB2 := Aside0.mk (below_later HB1.out HB1.out.size hB); clear hB))
  go_ret
  exact ⟨rfl, below_later HB0.out HB0.out.size HB2.out⟩
end Go.Proofs.Yticgblagimmlfaa
end
section
/- The reference: Check of a matrix, of a space. -/
namespace Go.Proofs.Yticgblagimmlfaa
open Go.RowKit Go.Proofs.YticgblagimmlfaaW.PrintWords Go.Proofs.YticgblagimmlfaaW.PrintLast Go.Proofs.YticgblagimmlfaaW.PrintMore
set_option linter.unusedVariables false
set_option linter.unusedSimpArgs false

theorem FD.fcheck_zero (K : FD) : fcheckR K.P (K.m : Int) K.Mod = 0 := (fcheckR_iff K.P (K.m : Int) K.Mod).2 K.fok

set_option maxHeartbeats 8000000 in
set_option maxRecDepth 100000 in
theorem rMCheck {w : World} {A B : Option Addr} {c d n : Nat} (K : FD) (hC : Kd.C (Kd.int .i64) w A K.Mod.length K.Mod) {G : List (List Int)} (hG : Shp K.D n G) (hl : Kd.C (Kd.slice 3 (Kd.int .i64)) w B G.length G) (h1 : G.length ≤ 256) (hn : n ≤ 256) :
    Calls Try.prog 160 #[.agg #[.int .i64 K.P, .int .i64 (K.m : Int), .slice A K.Mod.length c], .agg #[.int .i64 n, .slice B G.length d]] w fun e w' => e = .returned (.int .i64 0) ∧ Below w.heap.size w w' := by
  have hF0 := FAt.new w K.P (K.m : Int) A K.Mod.length c
  obtain ⟨w0, hw0⟩ : ∃ w0, w.alloc (.cells #[.int .i64 K.P, .int .i64 (K.m : Int), .slice A K.Mod.length c] 27) = w0 := ⟨_, rfl⟩
  have hB0 : Below w.heap.size w w0 := by rw [← hw0]; exact below_alloc (Below.refl _ _) _
  have hz0 : w0.heap.size = w.heap.size + 1 := by rw [← hw0]; simp
  rw [hw0] at hF0
  have hc0 := cell_alloc2_0 w0 (.int .i64 n) (.slice B G.length d) 85
  have hc1 := cell_alloc2_1 w0 (.int .i64 n) (.slice B G.length d) 85
  obtain ⟨w1, hw1⟩ : ∃ w1, w0.alloc (.cells #[.int .i64 n, .slice B G.length d] 85) = w1 := ⟨_, rfl⟩
  have hB1 : Below w0.heap.size w0 w1 := by rw [← hw1]; exact below_alloc (Below.refl _ _) _
  rw [hw1, hz0] at hc0 hc1
  have HB1 := Aside0.mk (below_later hB0 hB0.size hB1)
  have HF := Aside0.mk (hF0.below hB1)
  have HW0 := Aside0.mk hw0
  have HW1 := Aside0.mk hw1
  have HC0 := Aside0.mk hc0
  have HC1 := Aside0.mk hc1
  have HL := Aside0.mk (Kd.C_below hl HB1.out)
  have HMod := Aside0.mk (Kd.C_below hC HB1.out)
  have HG := Aside0.mk hG
  have HFc := Aside0.mk (fun (w2 : World) (hb : Below w1.heap.size w1 w2) => by have q := refFCheck_any (c := c) K.P (K.m : Int) (Kd.C_below HMod.out hb); rw [K.fcheck_zero] at q; exact q)
  have HBz := Aside0.mk (Below.refl w1.heap.size w1)
  obtain ⟨cP, cM, cD⟩ := HF.out
  clear hF0 hB0 hw0 hw1 hz0 hC hl hG hB1
  have in0 : (0 : Int) ≤ (n : Int) := by omega
  have in1 : (n : Int) ≤ 256 := by omega
  have in2 : (G.length : Int) ≤ 256 := by omega
  go_enter Try.func160, Try.ntmps160
  go_upto_region 1 with (fail)
  rw [HW0.out, HW1.out]
  go_wp2_with (go_at_call 42; refine (HFc.out _ HBz.out).mono ?_; rintro e w2 ⟨rfl, hB⟩; have HB2 := Aside0.mk hB; have cP2 := pw_cell_below hB cP; have cM2 := pw_cell_below hB cM; have cD2 := pw_cell_below hB cD; have hc02 := pw_cell_below hB HC0.out; have hc12 := pw_cell_below hB HC1.out; clear hB)
  clear cP cM cD hc0 hc1
  go_loopw [6] (fun v6 w' => ∃ k : Nat, v6 = .int .i64 k ∧ k ≤ G.length ∧ Aside0 (Below w1.heap.size w1 w')) (fun v6 _ => G.length - (intOf v6).toNat)
  case atStart => exact ⟨0, rfl, by omega, HB2⟩
  case round =>
    clear HB2 cP2 cM2 cD2 hc02 hc12
    obtain ⟨k, rfl, hk, HB⟩ := hrel
    have hc0 := pw_cell_below HB.out HC0.out
    have hc1 := pw_cell_below HB.out HC1.out
    by_cases hlk : k < G.length
    · obtain ⟨ad, B1, d1, e, hx, -, -⟩ := rows_at (Kd.C_below HL.out HB.out) k hlk
      cases e
      rw [(HG.out _ (getD_mem_rows hlk)).1] at hx
      have i0 : (0 : Int) ≤ (k : Int) := by omega
      have i1 : (k : Int) < (G.length : Int) := by omega
      have hnn : ((n : Int) != (n : Int)) = false := by simp
      have hcx : ∀ j : Ext wr, j.wd.cell? (ad.add k) = some (.slice B1 n d1) := fun j => j.cell hx
      have hc0' : ∀ j : Ext wr, j.wd.cell? ⟨w.heap.size + 1, 0, none⟩ = some (.int .i64 n) := fun j => j.cell hc0
      have hc1' : ∀ j : Ext wr, j.wd.cell? ⟨w.heap.size + 1, 1, none⟩ = some (.slice (some ad) G.length d) := fun j => j.cell hc1
      go_upto_region 9 with (fail)
      clear hx hc0 hc1
      refine wp_region_ext (by kernel_rfl) (by kernel_rfl) ?_
      repeat (go_big_quiet_step (fail))
      refine wpQuiet_nil ?_
      intro w3 hB3
      have HB3 := Aside0.mk (below_later HB.out HB.out.size hB3)
      clear hcx hc0' hc1' hB3
      go_wp2
      go_roundw
      case rel => exact ⟨k + 1, by go_num, by omega, HB3⟩
      case measure => simp [intOf]; omega
    · obtain rfl : k = G.length := by omega
      go_wp2
      go_loopw [5, 7] (fun v5 v7 w' => ∃ k : Nat, v5 = .int .i64 0 ∧ v7 = .int .i64 k ∧ k ≤ G.length ∧ Aside0 (Below w1.heap.size w1 w')) (fun _ v7 _ => G.length - (intOf v7).toNat)
      case atStart => exact ⟨0, rfl, rfl, by omega, HB⟩
      case round =>
        clear HB hc0 hc1
        obtain ⟨k, rfl, rfl, hk, HB⟩ := hrel
        have hc0 := pw_cell_below HB.out HC0.out
        have hc1 := pw_cell_below HB.out HC1.out
        by_cases hlk : k < G.length
        · obtain ⟨ad, B1, d1, e, hx, -, hx3⟩ := rows_at (Kd.C_below HL.out HB.out) k hlk
          cases e
          have hri := (HG.out _ (getD_mem_rows hlk)).2
          obtain ⟨r, hr⟩ : ∃ r, G.getD k [] = r := ⟨_, rfl⟩
          rw [hr] at hx hx3 hri
          have HEn := Aside0.mk (fun (w3 : World) (hb : Below wr.heap.size wr w3) => rEntries (A := A) (n := K.Mod.length) (c := c) (d := d1) K (Kd.C_below hx3 hb) (fun i _ => hri i))
          obtain ⟨cP, cM, cD⟩ := HF.out.below HB.out
          have i0 : (0 : Int) ≤ (k : Int) := by omega
          have i1 : (k : Int) < (G.length : Int) := by omega
          have hcx : ∀ j : Ext wr, j.wd.cell? (ad.add k) = some (.slice B1 r.length d1) := fun j => j.cell hx
          have hc1' : ∀ j : Ext wr, j.wd.cell? ⟨w.heap.size + 1, 1, none⟩ = some (.slice (some ad) G.length d) := fun j => j.cell hc1
          have hcP : ∀ j : Ext wr, j.wd.cell? ⟨w.heap.size, 0, none⟩ = some (.int .i64 K.P) := fun j => j.cell cP
          have hcM : ∀ j : Ext wr, j.wd.cell? ⟨w.heap.size, 1, none⟩ = some (.int .i64 (K.m : Int)) := fun j => j.cell cM
          have hcD : ∀ j : Ext wr, j.wd.cell? ⟨w.heap.size, 2, none⟩ = some (.slice A K.Mod.length c) := fun j => j.cell cD
          clear hr hri hx3
          go_upto_region 14 with (fail)
          clear hx hc0 hc1 cP cM cD
          refine wp_region_ext (by kernel_rfl) (by kernel_rfl) ?_
          repeat (go_big_quiet_step ((go_at_call 143; with_reducible exact Ext.call _ (HEn.out _ (Ext.below _)))))
          refine wpQuiet_nil ?_
          intro w3 hB3
          have HB3 := Aside0.mk (below_later HB.out HB.out.size hB3)
          clear hcx hc1' hcP hcM hcD hB3
          go_wp2
          go_roundw
          case rel => exact ⟨k + 1, by first | rfl | go_num, by go_num, by omega, HB3⟩
          case measure => simp [intOf]; omega
        · obtain rfl : k = G.length := by omega
          go_wp2
          go_ret
          exact ⟨rfl, below_later HB1.out HB1.out.size HB.out⟩
end Go.Proofs.Yticgblagimmlfaa
end
section
/- The reference: Check of a space. -/
namespace Go.Proofs.Yticgblagimmlfaa
open Go.RowKit Go.Proofs.YticgblagimmlfaaW.PrintWords Go.Proofs.YticgblagimmlfaaW.PrintLast Go.Proofs.YticgblagimmlfaaW.PrintMore
set_option linter.unusedVariables false
set_option linter.unusedSimpArgs false

set_option maxHeartbeats 8000000 in
set_option maxRecDepth 100000 in
theorem rSCheck {w : World} {A B : Option Addr} {c d n : Nat} (K : FD) (hC : Kd.C (Kd.int .i64) w A K.Mod.length K.Mod) {G : List (List Int)} {p : Nat → Nat} (hG : K.RRE n G p) (hl : Kd.C (Kd.slice 3 (Kd.int .i64)) w B G.length G) (h1 : G.length ≤ 256) (hn : n ≤ 256) :
    Calls Try.prog 142 #[.agg #[.int .i64 K.P, .int .i64 (K.m : Int), .slice A K.Mod.length c], .agg #[.int .i64 n, .slice B G.length d]] w fun e w' => e = .returned (.int .i64 0) ∧ Below w.heap.size w w' := by
  have hF0 := FAt.new w K.P (K.m : Int) A K.Mod.length c
  obtain ⟨w0, hw0⟩ : ∃ w0, w.alloc (.cells #[.int .i64 K.P, .int .i64 (K.m : Int), .slice A K.Mod.length c] 27) = w0 := ⟨_, rfl⟩
  have hB0 : Below w.heap.size w w0 := by rw [← hw0]; exact below_alloc (Below.refl _ _) _
  have hz0 : w0.heap.size = w.heap.size + 1 := by rw [← hw0]; simp
  rw [hw0] at hF0
  have hc0 := cell_alloc2_0 w0 (.int .i64 n) (.slice B G.length d) 85
  have hc1 := cell_alloc2_1 w0 (.int .i64 n) (.slice B G.length d) 85
  obtain ⟨w1, hw1⟩ : ∃ w1, w0.alloc (.cells #[.int .i64 n, .slice B G.length d] 85) = w1 := ⟨_, rfl⟩
  have hB1 : Below w0.heap.size w0 w1 := by rw [← hw1]; exact below_alloc (Below.refl _ _) _
  rw [hw1, hz0] at hc0 hc1
  have HB1 := Aside0.mk (below_later hB0 hB0.size hB1)
  have HF := Aside0.mk (hF0.below hB1)
  have HW0 := Aside0.mk hw0
  have HW1 := Aside0.mk hw1
  have HC0 := Aside0.mk hc0
  have HC1 := Aside0.mk hc1
  have HL := Aside0.mk (Kd.C_below hl HB1.out)
  have HMod := Aside0.mk (Kd.C_below hC HB1.out)
  have HG := Aside0.mk hG
  have hmx := Kd.C_max hl
  have HMc := Aside0.mk (rMCheck (c := c) (d := d) K HMod.out hG.shp HL.out h1 hn)
  have HCa := Aside0.mk (fun (w2 : World) (hb : Below w1.heap.size w1 w2) => rCanon (c := c) (d := d) K (Kd.C_below HMod.out hb) (Kd.C_below HL.out hb) (by omega) (by omega : n ≤ 1000) hG.shp)
  have HFix : Aside0 (∀ (cc t : Nat) (l : List (List Int)) (pv : List Int), Reach K.D G cc t l pv → (cc = n ∨ t = G.length) → l.take t = G ∧ t = G.length) := ⟨fun cc t l pv hr he => by
    obtain ⟨e1, e2⟩ := hG.fix K hr he
    rw [e1, e2]
    exact ⟨List.take_length, rfl⟩⟩
  have HSr := Aside0.mk (fun (w2 : World) (D : Option Addr) (dd : Nat) (hb : Below w1.heap.size w1 w2) (ha : Kd.C (Kd.slice 3 (Kd.int .i64)) w2 D G.length G) => rSameRows (c := dd) (d := d) ha (Kd.C_below HL.out hb))
  have HGl := Aside0.mk hmx
  obtain ⟨RR, hRR⟩ : ∃ R : Nat → Nat → List (List Int) → List Int → Prop, Reach K.D G = R := ⟨_, rfl⟩
  rw [hRR] at HCa HFix
  obtain ⟨cP, cM, cD⟩ := HF.out
  clear hF0 hB0 hw0 hw1 hz0 hC hl hG hB1 hmx hRR
  go_enter Try.func142, Try.ntmps142
  go_upto_region 1 with (fail)
  rw [HW0.out, HW1.out]
  go_wp2_with (first
    | (go_at_call 160; (with_reducible refine Calls.mono HMc.out ?_); rintro e w2 ⟨rfl, hB⟩; have HB2 := Aside0.mk hB; have cP2 := pw_cell_below hB cP; have cM2 := pw_cell_below hB cM; have cD2 := pw_cell_below hB cD; have hc02 := pw_cell_below hB HC0.out; have hc12 := pw_cell_below hB HC1.out; clear hB)
    | (go_at_call 114; (with_reducible refine Calls.mono (HCa.out _ HB2.out) ?_); rintro e w3 ⟨hO, hB⟩; obtain ⟨A1, c1, l, v2, pv, t, cc, rfl, ho, hlt, hc1, htN, hr, hcn, hend⟩ := hO.out; obtain ⟨e1, rfl⟩ := HFix.out _ _ _ _ hr hend; rw [e1] at ho; have HO3 := Aside0.mk ho; have HB3 := Aside0.mk (below_later HB2.out HB2.out.size hB); have hc03 := pw_cell_below HB3.out HC0.out; have hc13 := pw_cell_below HB3.out HC1.out; clear hO hB ho hr hend e1 hlt hcn htN)
    | (go_at_call 161; (with_reducible refine Calls.mono (HSr.out _ _ _ HB3.out (HO3.out.C HGl.out)) ?_); rintro e w4 ⟨rfl, hB⟩; have HB4 := Aside0.mk (below_later HB3.out HB3.out.size hB); clear hB))
  go_ret
  exact ⟨rfl, below_later HB1.out HB1.out.size HB4.out⟩
end Go.Proofs.Yticgblagimmlfaa
end
section
/- The reference: Check, Word, Has of a code. -/
namespace Go.Proofs.Yticgblagimmlfaa
open Go.RowKit Go.Proofs.YticgblagimmlfaaW.PrintWords Go.Proofs.YticgblagimmlfaaW.PrintLast Go.Proofs.YticgblagimmlfaaW.PrintMore
set_option linter.unusedVariables false
set_option linter.unusedSimpArgs false

/-- The boxed code. -/
structure CAt (w : World) (b : Nat) (P M : Int) (A : Option Addr) (m c : Nat) (n : Int) (B : Option Addr) (g d : Nat) : Prop where
  x0 : w.cell? ⟨b, 0, none⟩ = some (.int .i64 P)
  x1 : w.cell? ⟨b, 1, none⟩ = some (.int .i64 M)
  x2 : w.cell? ⟨b, 2, none⟩ = some (.slice A m c)
  x3 : w.cell? ⟨b, 3, none⟩ = some (.int .i64 n)
  x4 : w.cell? ⟨b, 4, none⟩ = some (.slice B g d)
theorem CAt.below {w w1 : World} {b : Nat} {P M : Int} {A : Option Addr} {m c : Nat} {n : Int} {B : Option Addr} {g d : Nat} (h : CAt w b P M A m c n B g d) (hb : Below w.heap.size w w1) : CAt w1 b P M A m c n B g d :=
  ⟨pw_cell_below hb h.x0, pw_cell_below hb h.x1, pw_cell_below hb h.x2, pw_cell_below hb h.x3, pw_cell_below hb h.x4⟩
theorem CAt.new (w : World) (P M : Int) (A : Option Addr) (m c : Nat) (n : Int) (B : Option Addr) (g d : Nat) :
    CAt (w.alloc (.cells #[.int .i64 P, .int .i64 M, .slice A m c, .int .i64 n, .slice B g d] 63)) w.heap.size P M A m c n B g d :=
  ⟨(blk_cell (heap_alloc_new w _) 0).trans rfl, (blk_cell (heap_alloc_new w _) 1).trans rfl, (blk_cell (heap_alloc_new w _) 2).trans rfl, (blk_cell (heap_alloc_new w _) 3).trans rfl, (blk_cell (heap_alloc_new w _) 4).trans rfl⟩

set_option maxHeartbeats 8000000 in
set_option maxRecDepth 100000 in
theorem rCCheck {w : World} {A B : Option Addr} {c d n : Nat} (K : FD) (hC : Kd.C (Kd.int .i64) w A K.Mod.length K.Mod) {G : List (List Int)} {p : Nat → Nat} (hG : K.RRE n G p) (hl : Kd.C (Kd.slice 3 (Kd.int .i64)) w B G.length G) (h1 : G.length ≤ 64) (hn1 : 1 ≤ n) (hn : n ≤ 64) :
    Calls Try.prog 110 #[.agg #[.int .i64 K.P, .int .i64 (K.m : Int), .slice A K.Mod.length c, .int .i64 n, .slice B G.length d]] w fun e w' => e = .returned (.int .i64 0) ∧ Below w.heap.size w w' := by
  have hF0 := CAt.new w K.P (K.m : Int) A K.Mod.length c n B G.length d
  obtain ⟨w0, hw0⟩ : ∃ w0, w.alloc (.cells #[.int .i64 K.P, .int .i64 (K.m : Int), .slice A K.Mod.length c, .int .i64 n, .slice B G.length d] 63) = w0 := ⟨_, rfl⟩
  have hB0 : Below w.heap.size w w0 := by rw [← hw0]; exact below_alloc (Below.refl _ _) _
  rw [hw0] at hF0
  have HB0 := Aside0.mk hB0
  have HW := Aside0.mk hw0
  have HF := Aside0.mk hF0
  have HBz := Aside0.mk (Below.refl w0.heap.size w0)
  have HL := Aside0.mk (Kd.C_below hl hB0)
  have HMod := Aside0.mk (Kd.C_below hC hB0)
  have HFc := Aside0.mk (fun (w2 : World) (hb : Below w0.heap.size w0 w2) => refFCheck_any (c := c) K.P (K.m : Int) (Kd.C_below HMod.out hb))
  rw [K.fcheck_zero] at HFc
  have HSc := Aside0.mk (fun (w2 : World) (hb : Below w0.heap.size w0 w2) => rSCheck (c := c) (d := d) K (Kd.C_below HMod.out hb) hG (Kd.C_below HL.out hb) (by omega) (by omega))
  have in0 : (1 : Int) ≤ (n : Int) := by omega
  have in1 : (n : Int) ≤ 64 := by omega
  have in2 : decide ((n : Int) < 1) = false := decide_eq_false (by omega)
  have in3 : decide ((n : Int) > 64) = false := decide_eq_false (by omega)
  have in4 : decide ((64 : Int) < (n : Int)) = false := decide_eq_false (by omega)
  obtain ⟨cP, cM, cD, cN, cG⟩ := hF0
  clear hB0 hw0 hC hl hG
  go_enter Try.func110, Try.ntmps110
  go_upto_region 1 with (fail)
  rw [HW.out]
  go_wp2_with (first
    | (go_at_call 42; (with_reducible refine Calls.mono (HFc.out _ HBz.out) ?_); rintro e w2 ⟨rfl, hB⟩; have HB2 := Aside0.mk hB; obtain ⟨cP2, cM2, cD2, cN2, cG2⟩ := HF.out.below hB; clear hB)
    | (go_at_call 142; (with_reducible refine Calls.mono (HSc.out _ HB2.out) ?_); rintro e w3 ⟨rfl, hB⟩; have HB3 := Aside0.mk (below_later HB2.out HB2.out.size hB); clear hB))
  go_ret
  exact ⟨rfl, below_later HB0.out HB0.out.size HB3.out⟩

set_option maxHeartbeats 8000000 in
set_option maxRecDepth 100000 in
theorem rList {w : World} {A B : Option Addr} {c d n m : Nat} (K : FD) {l : List Int} (hl : Kd.C (Kd.int .i64) w B l.length l) (hall : ∀ i, i < l.length → K.D.is (l.getD i 0) = true) :
    Calls Try.prog 111 #[.agg #[.int .i64 K.P, .int .i64 (K.m : Int), .slice A m c], .slice B l.length d, .int .i64 l.length] w fun e w' => e = .returned (.int .i64 0) ∧ Below w.heap.size w w' := by
  have hF0 := FAt.new w K.P (K.m : Int) A m c
  obtain ⟨w0, hw0⟩ : ∃ w0, w.alloc (.cells #[.int .i64 K.P, .int .i64 (K.m : Int), .slice A m c] 27) = w0 := ⟨_, rfl⟩
  have hB0 : Below w.heap.size w w0 := by rw [← hw0]; exact below_alloc (Below.refl _ _) _
  rw [hw0] at hF0
  have HB0 := Aside0.mk hB0
  have HW := Aside0.mk hw0
  have HEn := Aside0.mk (rEntries (A := A) (n := m) (c := c) (d := d) K (Kd.C_below hl hB0) hall)
  have hnn : ((l.length : Int) != (l.length : Int)) = false := by simp
  obtain ⟨cP, cM, cD⟩ := hF0
  clear hB0 hw0 hl hall
  go_enter Try.func111, Try.ntmps111
  go_upto_region 1 with (fail)
  rw [HW.out]
  go_wp2_with (go_at_call 143; (with_reducible refine Calls.mono HEn.out ?_); rintro e w2 ⟨rfl, hB⟩; have HB2 := Aside0.mk hB; clear hB)
  go_ret
  exact ⟨rfl, below_later HB0.out HB0.out.size HB2.out⟩

set_option maxHeartbeats 8000000 in
set_option maxRecDepth 100000 in
theorem rCWord {w : World} {A B V : Option Addr} {c d n cv : Nat} (K : FD) (hC : Kd.C (Kd.int .i64) w A K.Mod.length K.Mod) {G : List (List Int)} {p : Nat → Nat} (hG : K.RRE n G p) (hl : Kd.C (Kd.slice 3 (Kd.int .i64)) w B G.length G) (h1 : G.length ≤ 64) (hn1 : 1 ≤ n) (hn : n ≤ 64) {v : List Int} (hv : Kd.C (Kd.int .i64) w V v.length v) (hvl : v.length = n) (hva : ∀ j, K.D.is (v.getD j 0) = true) :
    Calls Try.prog 73 #[.agg #[.int .i64 K.P, .int .i64 (K.m : Int), .slice A K.Mod.length c, .int .i64 n, .slice B G.length d], .slice V v.length cv] w fun e w' => e = .returned (.int .i64 0) ∧ Below w.heap.size w w' := by
  have hF0 := CAt.new w K.P (K.m : Int) A K.Mod.length c n B G.length d
  obtain ⟨w0, hw0⟩ : ∃ w0, w.alloc (.cells #[.int .i64 K.P, .int .i64 (K.m : Int), .slice A K.Mod.length c, .int .i64 n, .slice B G.length d] 63) = w0 := ⟨_, rfl⟩
  have hB0 : Below w.heap.size w w0 := by rw [← hw0]; exact below_alloc (Below.refl _ _) _
  rw [hw0] at hF0
  have HB0 := Aside0.mk hB0
  have HW := Aside0.mk hw0
  have HF := Aside0.mk hF0
  have HBz := Aside0.mk (Below.refl w0.heap.size w0)
  have HL := Aside0.mk (Kd.C_below hl hB0)
  have HMod := Aside0.mk (Kd.C_below hC hB0)
  have HCc := Aside0.mk (rCCheck (c := c) (d := d) K HMod.out hG HL.out h1 hn1 hn)
  have HV := Aside0.mk (Kd.C_below hv hB0)
  have HLi := Aside0.mk (fun (w2 : World) (hb : Below w0.heap.size w0 w2) => rList (A := A) (c := c) (d := cv) (m := K.Mod.length) (n := 0) K (Kd.C_below HV.out hb) (fun i _ => hva i))
  have HN : Aside0 ((n : Int) = (v.length : Int)) := ⟨by omega⟩
  rw [HN.out] at hF0 HF HW HCc ⊢
  obtain ⟨cP, cM, cD, cN, cG⟩ := hF0
  clear hB0 hw0 hC hl hG hv hvl hva HN
  go_enter Try.func73, Try.ntmps73
  go_upto_region 1 with (fail)
  rw [HW.out]
  go_wp2_with (first
    | (go_at_call 110; (with_reducible refine Calls.mono HCc.out ?_); rintro e w2 ⟨rfl, hB⟩; have HB2 := Aside0.mk hB; obtain ⟨cP2, cM2, cD2, cN2, cG2⟩ := HF.out.below hB; clear hB)
    | (go_at_call 111; (with_reducible refine Calls.mono (HLi.out _ HB2.out) ?_); rintro e w3 ⟨rfl, hB⟩; have HB3 := Aside0.mk (below_later HB2.out HB2.out.size hB); clear hB))
  go_ret
  exact ⟨rfl, below_later HB0.out HB0.out.size HB3.out⟩

set_option maxHeartbeats 8000000 in
set_option maxRecDepth 100000 in
theorem rCHas {w : World} {A B V : Option Addr} {c d n cv : Nat} (K : FD) (hC : Kd.C (Kd.int .i64) w A K.Mod.length K.Mod) {G : List (List Int)} {p : Nat → Nat} (hG : K.RRE n G p) (hl : Kd.C (Kd.slice 3 (Kd.int .i64)) w B G.length G) (h1 : G.length ≤ 64) (hn1 : 1 ≤ n) (hn : n ≤ 64) {v : List Int} (hv : Kd.C (Kd.int .i64) w V v.length v) (hvl : v.length = n) (hva : ∀ j, K.D.is (v.getD j 0) = true) :
    Calls Try.prog 44 #[.agg #[.int .i64 K.P, .int .i64 (K.m : Int), .slice A K.Mod.length c, .int .i64 n, .slice B G.length d], .slice V v.length cv] w fun e w' => e = .returned (.tuple #[.bool (inZ K.D G p v), .int .i64 0]) ∧ Below w.heap.size w w' := by
  have hF0 := CAt.new w K.P (K.m : Int) A K.Mod.length c n B G.length d
  obtain ⟨w0, hw0⟩ : ∃ w0, w.alloc (.cells #[.int .i64 K.P, .int .i64 (K.m : Int), .slice A K.Mod.length c, .int .i64 n, .slice B G.length d] 63) = w0 := ⟨_, rfl⟩
  have hB0 : Below w.heap.size w w0 := by rw [← hw0]; exact below_alloc (Below.refl _ _) _
  rw [hw0] at hF0
  have HB0 := Aside0.mk hB0
  have HW := Aside0.mk hw0
  have HF := Aside0.mk hF0
  have HBz := Aside0.mk (Below.refl w0.heap.size w0)
  have HL := Aside0.mk (Kd.C_below hl hB0)
  have HMod := Aside0.mk (Kd.C_below hC hB0)
  have HV := Aside0.mk (Kd.C_below hv hB0)
  have HCw := Aside0.mk (rCWord (c := c) (d := d) (cv := cv) K HMod.out hG HL.out h1 hn1 hn HV.out hvl hva)
  have HIn := Aside0.mk (fun (w2 : World) (hb : Below w0.heap.size w0 w2) => rIn (c := c) (d := d) (cv := cv) K (Kd.C_below HMod.out hb) hG (Kd.C_below HL.out hb) (by omega) (by omega) (Kd.C_below HV.out hb) hvl)
  obtain ⟨b, hb⟩ : ∃ b, inZ K.D G p v = b := ⟨_, rfl⟩
  rw [hb] at HIn ⊢
  obtain ⟨cP, cM, cD, cN, cG⟩ := hF0
  clear hB0 hw0 hC hl hG hv hvl hva hb
  go_enter Try.func44, Try.ntmps44
  go_upto_region 1 with (fail)
  rw [HW.out]
  go_wp2_with (first
    | (go_at_call 73; (with_reducible refine Calls.mono HCw.out ?_); rintro e w2 ⟨rfl, hB⟩; have HB2 := Aside0.mk hB; obtain ⟨cP2, cM2, cD2, cN2, cG2⟩ := HF.out.below hB; clear hB)
    | (go_at_call 74; (with_reducible refine Calls.mono (HIn.out _ HB2.out) ?_); rintro e w3 ⟨rfl, hB⟩; have HB3 := Aside0.mk (below_later HB2.out HB2.out.size hB); clear hB))
  go_ret2
  exact ⟨rfl, below_later HB0.out HB0.out.size HB3.out⟩
end Go.Proofs.Yticgblagimmlfaa
end
section
/-! ### 50. A region's order in a table, made once a region: each step asks the table (numbers alone), not the operations -/
namespace Go.Proofs.YticgblagimmlfaaW.PrintLast
open Go.Proofs.YticgblagimmlfaaW.PrintWords (Aside0)
def needsOf (md : Region.Mode) (o : Oper) : List Nat := (o.after.toList.filter (fun e => Region.binds md e)).map (fun e => e.on)
def clashOf (md : Region.Mode) (ops : Array Oper) (i : Nat) (oi : Oper) : List Nat := (List.range ops.size).filter fun j => !(j == i) && match ops[j]? with
  | some oj => !(oj.after.any (fun e => Region.binds md e && e.on == i) || oi.apart ops oj)
  | none => false
/-- No select in it; for each operation: what must have come up before it, and what may not come up behind it if it is taken first. -/
def rtab (md : Region.Mode) (ops : Array Oper) : Bool × List (List Nat × List Nat) := (Region.noSelect ops, (List.range ops.size).map fun i => match ops[i]? with
  | some o => (needsOf md o, clashOf md ops i o)
  | none => ([], []))
def readyAt (T : List (List Nat × List Nat)) (l : List Bool) (i : Nat) : Bool := !l.getD i true && match T[i]? with
  | some r => r.1.all (fun j => l.getD j false)
  | none => false
def readyT (T : List (List Nat × List Nat)) (l : List Bool) : List Nat := (List.range T.length).filter (readyAt T l)
def freeT (T : List (List Nat × List Nat)) (l : List Bool) (i : Nat) : Bool := match T[i]? with
  | some r => r.2.all (fun j => l.getD j true)
  | none => false
def closedT (T : List (List Nat × List Nat)) (l : List Bool) : Bool := (List.range T.length).all fun j => !l.getD j false || match T[j]? with
  | some r => r.1.all (fun k => l.getD k false)
  | none => true
def reachT (T : List (List Nat × List Nat)) (i : Nat) : Nat → Nat → Bool
  | 0, _ => false
  | fuel + 1, d => match T[d]? with
    | some r => r.1.any fun j => j == i || reachT T i fuel j
    | none => false
def lastT (T : List (List Nat × List Nat)) (l : List Bool) (ds : List Nat) (i : Nat) : Bool := ds.all fun d => l.getD d true || reachT T i T.length d
section
variable {md : Region.Mode} {ops : Array Oper} {T : Bool × List (List Nat × List Nat)} {l l' li lj lk : Array Bool} {ds : List Nat} {i j k : Nat}
theorem gd (l : Array Bool) (j : Nat) (b : Bool) : l.getD j b = l.toList.getD j b := by simp [Array.getD_eq_getD_getElem?, List.getD_eq_getElem?_getD]
theorem needs_all (o : Oper) (p : Nat → Bool) : o.after.all (fun e => !Region.binds md e || p e.on) = (needsOf md o).all p := by
  unfold needsOf
  rw [← Array.all_toList]
  induction o.after.toList with
  | nil => rfl
  | cons e r ih =>
    rw [List.all_cons, ih, List.filter_cons]
    cases h : Region.binds md e <;> simp
theorem needs_any (o : Oper) (p : Nat → Bool) : o.after.any (fun e => Region.binds md e && p e.on) = (needsOf md o).any p := by
  unfold needsOf
  rw [← Array.any_toList]
  induction o.after.toList with
  | nil => rfl
  | cons e r ih =>
    rw [List.any_cons, ih, List.filter_cons]
    cases h : Region.binds md e <;> simp
theorem rtab_length : (rtab md ops).2.length = ops.size := by simp [rtab]
theorem rtab_some {o : Oper} (h : ops[i]? = some o) : (rtab md ops).2[i]? = some (needsOf md o, clashOf md ops i o) := by
  have hi := (Array.getElem?_eq_some_iff.1 h).1
  unfold rtab
  rw [List.getElem?_map, List.getElem?_range hi, Option.map_some, h]
theorem rtab_none (h : ops[i]? = none) : (rtab md ops).2[i]? = none := by
  have hi : ops.size ≤ i := Array.getElem?_eq_none_iff.1 h
  exact List.getElem?_eq_none (by rw [rtab_length]; exact hi)
theorem readyAt_eq : readyAt (rtab md ops).2 l.toList i = (!l.getD i true && ((ops[i]?).map (·.after.all fun e => !Region.binds md e || l.getD e.on false)).getD false) := by
  unfold readyAt
  rw [gd]
  cases h : ops[i]? with
  | none => rw [rtab_none h]; rfl
  | some o =>
    rw [rtab_some h]
    simp only [Option.map_some, Option.getD_some]
    rw [← needs_all]
    simp only [gd]
theorem ready_eq : Region.ready md ops l = readyT (rtab md ops).2 l.toList := by
  unfold Region.ready readyT
  rw [rtab_length]
  refine List.filter_congr (fun i _ => ?_)
  rw [readyAt_eq]
theorem free_eq : Region.free md ops l i = freeT (rtab md ops).2 l.toList i := by
  unfold Region.free freeT
  cases h : ops[i]? with
  | none => rw [rtab_none h]
  | some oi =>
    rw [rtab_some h]
    simp only [clashOf]
    rw [List.all_filter]
    congr 1
    funext j
    rw [gd]
    cases hj : ops[j]? with
    | none => cases (j == i) <;> cases (l.toList.getD j true) <;> simp
    | some oj =>
      cases (j == i) <;> cases (l.toList.getD j true) <;> cases (oj.after.any (fun e => Region.binds md e && e.on == i) || oi.apart ops oj) <;> simp_all
theorem closed_eq : Region.closedB md ops l = closedT (rtab md ops).2 l.toList := by
  unfold Region.closedB closedT
  rw [rtab_length]
  congr 1
  funext j
  rw [gd]
  cases h : ops[j]? with
  | none => rw [rtab_none h]
  | some o =>
    rw [rtab_some h]
    simp only
    rw [← needs_all]
    simp only [gd]
theorem reach_eq : ∀ (fuel d : Nat), Region.reachB md ops i fuel d = reachT (rtab md ops).2 i fuel d
  | 0, _ => rfl
  | fuel + 1, d => by
    unfold Region.reachB reachT
    cases h : ops[d]? with
    | none => rw [rtab_none h]
    | some o =>
      rw [rtab_some h]
      simp only
      rw [← needs_any]
      congr 1
      funext e
      rw [reach_eq fuel]
theorem last_eq : Region.lastB md ops l ds i = lastT (rtab md ops).2 l.toList ds i := by
  unfold Region.lastB lastT
  rw [rtab_length]
  congr 1
  funext d
  rw [gd, reach_eq]
theorem readyAt_mem (h : readyAt T.2 l.toList i = true) (hT : rtab md ops = T) : (Region.ready md ops l).contains i = true := by
  subst hT
  rw [ready_eq]
  unfold readyT
  rw [List.contains_iff_mem, List.mem_filter, List.mem_range]
  refine ⟨?_, h⟩
  unfold readyAt at h
  rw [Bool.and_eq_true] at h
  cases hq : (rtab md ops).2[i]? with
  | none => rw [hq] at h; simp at h
  | some r => exact (List.getElem?_eq_some_iff.1 hq).1
theorem set_of (h : (l.toList.set i true == l'.toList) = true) : (l.setIfInBounds i true == l') = true := by
  rw [beq_iff_eq] at h ⊢
  apply Array.ext'
  rw [Array.toList_setIfInBounds]
  exact h
def anyT (T : Bool × List (List Nat × List Nat)) (l l' : List Bool) (i : Nat) : Bool := T.1 && freeT T.2 l i && readyAt T.2 l i && (l.set i true == l')
/-- pure_'s condition out of the table. -/
theorem any_of (hT : rtab md ops = T) (h : anyT T l.toList l'.toList i = true) : anyB md ops l l' i = true := by
  simp only [anyT, Bool.and_eq_true] at h
  obtain ⟨⟨⟨h1, h2⟩, h3⟩, h4⟩ := h
  have h5 := readyAt_mem h3 hT
  have h6 := set_of h4
  subst hT
  simp only [anyB, Bool.and_eq_true]
  exact ⟨⟨⟨h1, by rw [free_eq]; exact h2⟩, h5⟩, h6⟩
def takeT (T : Bool × List (List Nat × List Nat)) (ds : List Nat) (l l' : List Bool) (i : Nat) : Bool := T.1 && freeT T.2 l i && readyAt T.2 l i && closedT T.2 l && lastT T.2 l ds i && (l.set i true == l')
/-- take_'s. -/
theorem take_of (hT : rtab md ops = T) (h : takeT T ds l.toList l'.toList i = true) : takeB md ops ds l l' i = true := by
  simp only [takeT, Bool.and_eq_true] at h
  obtain ⟨⟨⟨⟨⟨h1, h2⟩, h3⟩, h4⟩, h5⟩, h6⟩ := h
  have h7 := readyAt_mem h3 hT
  have h8 := set_of h6
  subst hT
  simp only [takeB, Bool.and_eq_true]
  exact ⟨⟨⟨⟨⟨h1, by rw [free_eq]; exact h2⟩, h7⟩, by rw [closed_eq]; exact h4⟩, by rw [last_eq]; exact h5⟩, h8⟩
/-- one_'s and last_'s. -/
theorem one_of (hT : rtab md ops = T) (h : (readyT T.2 l.toList == [i] && l.toList.set i true == l'.toList) = true) : readyB md ops l l' i = true := by
  simp only [Bool.and_eq_true] at h
  obtain ⟨h1, h2⟩ := h
  subst hT
  simp only [readyB, Bool.and_eq_true]
  exact ⟨by rw [ready_eq]; exact h1, set_of h2⟩
/-- done_'s. -/
theorem done_of (hT : rtab md ops = T) (h : (readyT T.2 l.toList == []) = true) : (Region.ready md ops l == []) = true := by
  subst hT
  rw [ready_eq]
  exact h
/-- What d waits for, as_ bits: told in the table (B), checked in one pass: each bit is a need of d, or a bit of an earlier need's. -/
def upM (B : List Nat) (d : Nat) : List Nat → Nat
  | [] => 0
  | n :: r => (2 ^ n ||| (if n < d then B.getD n 0 else 0)) ||| upM B d r
def waitsOk (T : List (List Nat × List Nat)) (B : List Nat) : Bool := (List.range T.length).all fun d => match T[d]? with
  | some r => (B.getD d 0 ||| upM B d r.1) == upM B d r.1
  | none => false
theorem upM_bit {B : List Nat} {d i : Nat} : ∀ {ns : List Nat}, (upM B d ns).testBit i = true → ∃ n ∈ ns, n = i ∨ (n < d ∧ (B.getD n 0).testBit i = true)
  | [], h => by simp [upM] at h
  | n :: r, h => by
    unfold upM at h
    rw [Nat.testBit_or, Nat.testBit_or, Bool.or_eq_true, Bool.or_eq_true] at h
    rcases h with (h | h) | h
    · rw [Nat.testBit_two_pow] at h
      exact ⟨n, List.mem_cons_self, .inl (by simpa using h)⟩
    · by_cases hn : n < d
      · rw [if_pos hn] at h
        exact ⟨n, List.mem_cons_self, .inr ⟨hn, h⟩⟩
      · rw [if_neg hn] at h
        simp at h
    · obtain ⟨m, hm, h2⟩ := upM_bit h
      exact ⟨m, List.mem_cons_of_mem _ hm, h2⟩
theorem reach_bit {T : List (List Nat × List Nat)} {B : List Nat} (hB : waitsOk T B = true) : ∀ (fuel d : Nat), d < fuel → d < T.length → (B.getD d 0).testBit i = true → reachT T i fuel d = true
  | 0, d, h, _, _ => by omega
  | fuel + 1, d, h, hd, hb => by
    have h1 := List.all_eq_true.1 hB d (List.mem_range.2 hd)
    cases hr : T[d]? with
    | none => rw [hr] at h1; simp at h1
    | some r =>
      rw [hr] at h1
      simp only [beq_iff_eq] at h1
      have h2 : (upM B d r.1).testBit i = true := by rw [← h1, Nat.testBit_or, hb, Bool.true_or]
      obtain ⟨n, hn, h3⟩ := upM_bit h2
      unfold reachT
      rw [hr]
      simp only
      rw [List.any_eq_true]
      refine ⟨n, hn, ?_⟩
      rcases h3 with rfl | ⟨h4, h5⟩
      · simp
      · rw [reach_bit hB fuel n (by omega) (by omega) h5, Bool.or_true]
def lastW (T : List (List Nat × List Nat)) (B : List Nat) (l : List Bool) (ds : List Nat) (i : Nat) : Bool := ds.all fun d => l.getD d true || (decide (d < T.length) && (B.getD d 0).testBit i)
def takeW (T : Bool × List (List Nat × List Nat)) (B : List Nat) (ds : List Nat) (l l' : List Bool) (i : Nat) : Bool := T.1 && freeT T.2 l i && readyAt T.2 l i && closedT T.2 l && lastW T.2 B l ds i && (l.set i true == l')
/-- take_'s, by the bits. -/
theorem take_ofW {B : List Nat} (hT : rtab md ops = T) (hB : waitsOk T.2 B = true) (h : takeW T B ds l.toList l'.toList i = true) : takeB md ops ds l l' i = true := by
  refine take_of hT ?_
  simp only [takeW, takeT, Bool.and_eq_true] at h ⊢
  obtain ⟨⟨⟨⟨⟨h1, h2⟩, h3⟩, h4⟩, h5⟩, h6⟩ := h
  refine ⟨⟨⟨⟨⟨h1, h2⟩, h3⟩, h4⟩, ?_⟩, h6⟩
  unfold lastW at h5
  unfold lastT
  rw [List.all_eq_true] at h5 ⊢
  intro d hd
  have h7 := h5 d hd
  rw [Bool.or_eq_true, Bool.and_eq_true, decide_eq_true_eq] at h7
  rcases h7 with h7 | ⟨h8, h9⟩
  · rw [h7, Bool.true_or]
  · rw [reach_bit hB _ d h8 h8 h9, Bool.or_true]
theorem with_tabW {P : Program} {Q : Exit → Act → World → Prop} {S : World → Prop} {n : Nat} {a : Act} {w : World} {B : List Nat} (hT : rtab md ops = T) (hB : waitsOk T.2 B = true) (h : Aside0 (rtab md ops = T) → Aside0 (waitsOk T.2 B = true) → wpAnyLast P md ops Q S ds n l a w) : wpAnyLast P md ops Q S ds n l a w := h ⟨hT⟩ ⟨hB⟩
end
/-- The operations of a region, by its number. -/
def opsIn : Code → Nat → Option (Array Oper)
  | .region id ops _, k => if id == k then some ops else none
  | .seq a b, k => match opsIn a k with
    | some o => some o
    | none => opsIn b k
  | .cond _ a b, k => match opsIn a k with
    | some o => some o
    | none => opsIn b k
  | .block _ c, k => opsIn c k
  | .loop c, k => opsIn c k
  | .scope c, k => opsIn c k
  | .rangeFunc _ _ a b, k => match opsIn a k with
    | some o => some o
    | none => opsIn b k
  | _, _ => none
def opsOf (f : Func) (k : Nat) : Array Oper := ((f.body.bind fun c => opsIn c k)).getD #[]
end Go.Proofs.YticgblagimmlfaaW.PrintLast
end
section
/-! ### 56. Four, five, six operations that may come up next, in any order -/
namespace Go.Proofs.YticgblagimmlfaaW.PrintLast
section
variable {P : Program} {ops : Array Oper} {Q : Exit → Act → World → Prop} {md : Region.Mode} {S : World → Prop} {ds : List Nat} {T : Bool × List (List Nat × List Nat)}
end
end Go.Proofs.YticgblagimmlfaaW.PrintLast
end
section
/-! ### 54. Behind orders that were drawn quietly: the same facts at the world's new name; a flat row's foot -/
namespace Go.Proofs.YticgblagimmlfaaW.PrintWords
open Go.RowKit
section
variable {w w' u : World} {m B g : Nat} {o : Obj} {row : Option Nat} {S : Nat → Prop} {a : Addr} {v : Value}
end
namespace Kd
section
variable {α : Type} {d : Kd α} {e base n m : Nat} {ok : Nat → Prop} {w w' : World} {v : Value} {A : Option Addr} {xs : List α}
end
end Kd
end Go.Proofs.YticgblagimmlfaaW.PrintWords
end
section
/-! ### 53. '==' of structs as_ one Bool -/
namespace Go.Proofs.YticgblagimmlfaaW.PrintWords
open Go.RowKit
section
variable {P : Program} {d : Nat} {xs ys : Array Value} {f : Field} {fs : List Field} {a b : Value} {r s : Bool} {w : World}
end
end Go.Proofs.YticgblagimmlfaaW.PrintWords
end
