/- The reference: Eliminate. -/
import Derived.Test.YticgblagimmlfaaX816
namespace Go.Proofs.Yticgblagimmlfaa
open Go.RowKit Go.Proofs.YticgblagimmlfaaW.PrintWords Go.Proofs.YticgblagimmlfaaW.PrintLast Go.Proofs.YticgblagimmlfaaW.PrintMore
set_option linter.unusedVariables false
set_option linter.unusedSimpArgs false

/-- What Eliminate returns. -/
structure ElimOut (R : Nat → Nat → List (List Int) → List Int → Prop) (n N : Nat) (w' : World) (base : Nat) (e : Ending) : Prop where mk ::
  out : ∃ (A1 : Option Addr) (c1 : Nat) (l : List (List Int)) (v2 : Value) (pv : List Int) (t cc : Nat), e = .returned (.tuple #[.slice A1 N c1, v2]) ∧ OA w' base A1 l ∧ N ≤ c1 ∧ Own w' base v2 pv ∧ R cc t l pv ∧ cc ≤ n ∧ (cc = n ∨ t = N)
theorem prog_states (T l : List (List Int)) (hl : T.length = l.length) : ∃ f : Nat → List (List Int), f 0 = l ∧ f l.length = T ∧ (∀ i, i < l.length → (f i).set i (T.getD i []) = f (i + 1)) ∧ (∀ i, i ≤ l.length → (f i).length = l.length) ∧ (∀ i j, i ≤ j → j < l.length → (f i).getD j [] = l.getD j []) ∧ (∀ i j, j < i → i ≤ l.length → (f i).getD j [] = T.getD j []) := by
  refine ⟨fun i => T.take i ++ l.drop i, by simp, by simp [← hl], fun i hi => ?_, fun i hi => by simp; omega, fun i j hij hj => ?_, fun i j hij hi => ?_⟩
  · apply List.ext_getElem?
    intro j
    have hT : T.getD i [] = T[i]'(by omega) := by rw [List.getD_eq_getElem?_getD, List.getElem?_eq_getElem (by omega)]; rfl
    by_cases hji : j = i
    · subst hji
      rw [List.getElem?_set_self (by simp; omega), List.getElem?_append_left (by simp; omega), List.getElem?_take_of_lt (by omega), hT, List.getElem?_eq_getElem (by omega)]
    · rw [List.getElem?_set_ne (fun e => hji e.symm)]
      by_cases hlt : j < i
      · rw [List.getElem?_append_left (by simp; omega), List.getElem?_append_left (by simp; omega), List.getElem?_take_of_lt hlt, List.getElem?_take_of_lt (by omega)]
      · rw [List.getElem?_append_right (by simp; omega), List.getElem?_append_right (by simp; omega), List.getElem?_drop, List.getElem?_drop]
        congr 1
        simp
        omega
  · rw [List.getD_eq_getElem?_getD, List.getElem?_append_right (by simp; omega), List.getElem?_drop, List.getD_eq_getElem?_getD]
    congr 2
    simp
    omega
  · rw [List.getD_eq_getElem?_getD, List.getElem?_append_left (by simp; omega), List.getElem?_take_of_lt hij, List.getD_eq_getElem?_getD]
theorem swapL_at (t k : Nat) (l : List (List Int)) (ht : t < l.length) (hk : k < l.length) : (swapL l t k).getD t [] = l.getD k [] := by
  unfold swapL
  by_cases h : k = t
  · subst h
    rw [List.getD_eq_getElem?_getD, List.getElem?_set_self (by rw [List.length_set]; exact ht)]
    rfl
  · rw [List.getD_eq_getElem?_getD, List.getElem?_set_ne h, List.getElem?_set_self ht]
    rfl
theorem set_same_row (l : List (List Int)) (i : Nat) (h : i < l.length) : l.set i (l.getD i []) = l := by
  rw [List.getD_eq_getElem?_getD, List.getElem?_eq_getElem h]
  exact List.set_getElem_self h

set_option maxHeartbeats 8000000 in
set_option maxRecDepth 100000 in
theorem rElim {w : World} {A B : Option Addr} {c d n : Nat} (K : FD) (hC : Kd.C (Kd.int .i64) w A K.Mod.length K.Mod) {ls : List (List Int)} (hl : Kd.C (Kd.slice 3 (Kd.int .i64)) w B ls.length ls) (h1 : ls.length ≤ 1000) (hn : n ≤ 1000) (hs : Shp K.D n ls) :
    Calls Try.prog 146 #[.agg #[.int .i64 K.P, .int .i64 (K.m : Int), .slice A K.Mod.length c], .slice B ls.length d, .int .i64 n] w fun e w' => ElimOut (Reach K.D ls) n ls.length w' w.heap.size e ∧ Below w.heap.size w w' := by
  have hF0 := FAt.new w K.P (K.m : Int) A K.Mod.length c
  obtain ⟨w0, hw0⟩ : ∃ w0, w.alloc (.cells #[.int .i64 K.P, .int .i64 (K.m : Int), .slice A K.Mod.length c] 27) = w0 := ⟨_, rfl⟩
  have hB0 : Below w.heap.size w w0 := by rw [← hw0]; exact below_alloc (Below.refl _ _) _
  rw [hw0] at hF0
  have HB0 := Aside0.mk hB0
  have HZs : Aside0 (w.heap.size + 1 ≤ w0.heap.size) := ⟨by rw [← hw0]; simp⟩
  have HW := Aside0.mk hw0
  have HF := Aside0.mk hF0
  have HL := Aside0.mk (Kd.C_below hl hB0)
  have HMod := Aside0.mk (Kd.C_below hC hB0)
  have HSh := Aside0.mk hs
  have H2 : Aside0 (∀ i, i < ls.length → (ls.getD i []).length ≤ 1000) := ⟨fun i hi => by rw [(hs _ (getD_mem_rows hi)).1]; exact hn⟩
  have HCp := Aside0.mk (fun (w1 : World) (hb : Below w0.heap.size w0 w1) => rCopy (c := d) (Kd.C_below HL.out hb) h1 H2.out)
  have HNeg := Aside0.mk (fun (w1 : World) (y : Int) => rNeg (w := w1) (A := A) (n := K.Mod.length) (c := c) K y)
  have HInv := Aside0.mk (fun (w1 : World) (hb : Below w0.heap.size w0 w1) (x : Int) (hx : K.D.is x = true) (h0 : x ≠ 0) => rInv (c := c) K (Kd.C_below HMod.out hb) hx h0)
  have HSc := Aside0.mk (fun (w1 : World) (hb : Below w0.heap.size w0 w1) (x : Int) (D : Option Addr) (dd : Nat) (a : List Int) (ha : Kd.C (Kd.int .i64) w1 D a.length a) (hal : a.length ≤ 1000) => rScale (c := c) (d := dd) K (Kd.C_below HMod.out hb) x ha hal)
  have HAdT := Aside0.mk (fun (w1 : World) (hb : Below w0.heap.size w0 w1) (x : Int) (D E : Option Addr) (dd ee : Nat) (a b : List Int) (ha : Kd.C (Kd.int .i64) w1 D a.length a) (hb' : Kd.C (Kd.int .i64) w1 E b.length b) (hab : a.length ≤ b.length) (hal : a.length ≤ 1000) => rAddTo (c := c) (d := dd) (ee := ee) K (Kd.C_below HMod.out hb) x ha hb' hab hal)
  have HStart : Aside0 (Reach K.D ls 0 0 ls []) := ⟨Reach.start⟩
  have HFacts := Aside0.mk (fun (cc t : Nat) (l : List (List Int)) (pv : List Int) (h : Reach K.D ls cc t l pv) => Reach.facts hs h)
  obtain ⟨N, hN⟩ : ∃ N, ls.length = N := ⟨_, rfl⟩
  obtain ⟨RR, hRR⟩ : ∃ R : Nat → Nat → List (List Int) → List Int → Prop, Reach K.D ls = R := ⟨_, rfl⟩
  have HRR := Aside0.mk hRR
  have HN := Aside0.mk hN
  rw [hRR] at HStart HFacts ⊢
  rw [hN] at HCp h1 HFacts ⊢
  clear hF0 hB0 hw0 hC hl hs hN hRR
  go_enter Try.func146, Try.ntmps146
  go_upto_region 1 with (fail)
  rw [HW.out]
  go_upto_region 4 with (go_at_call 162; refine (HCp.out _ (Below.refl _ _)).mono ?_; rintro e w1 ⟨v1, rfl, hO, hB⟩; obtain ⟨A1, c1, rfl, hc1, hc2, hO1⟩ := hO.oa; have HO1 := Aside0.mk hO1; have HB1 := Aside0.mk hB; have Hc1 := Aside0.mk hc1; clear hO hB hc1 hc2 hO1)
  have HP0 : Aside0 (Own w1 w0.heap.size (.slice none 0 0) []) := ⟨Own.nil _ _⟩
  simp only [HN.out] at *
  go_wp2
  go_loopw [9, 10, 11] (fun v9 v10 v11 w' => ∃ (cc t : Nat) (l : List (List Int)) (pv : List Int), v11 = .int .i64 cc ∧ v10 = .int .i64 t ∧ cc ≤ n ∧ Aside0 (RR cc t l pv) ∧ Aside0 (OA w' w0.heap.size A1 l) ∧ Aside0 (Own w' w0.heap.size v9 pv) ∧ Aside0 (Apt w' A1 v9 N) ∧ Aside0 (Below w0.heap.size w0 w')) (fun _ _ v11 _ => n - (intOf v11).toNat)
  case atStart => exact ⟨0, 0, ls, [], rfl, rfl, by omega, HStart, HO1, HP0, ⟨fun i hi g v k e hc hk h => by cases h⟩, HB1⟩
  case round =>
    clear HStart HO1 HP0 HB1
    obtain ⟨cc, t, l, pv, rfl, rfl, hcn, HR, HO, HP, HAp, HB⟩ := hrel
    obtain ⟨f1, f2, f3, f4, f5⟩ := HFacts.out _ _ _ _ HR.out
    rw [f1] at f2
    have F1 := Aside0.mk f1
    have F5 := Aside0.mk f5
    clear f1 f5
    by_cases hlt : cc < n ∧ t < N
    · obtain ⟨hc, ht⟩ := hlt
      obtain ⟨g, -, -, e, hg, -⟩ := HO.out.at t (by rw [F1.out]; exact ht)
      cases e
      go_upto_region 8 with (fail)
      go_loop [12] (fun v12 => ∃ k : Nat, v12 = .int .i64 k ∧ t ≤ k ∧ k ≤ N ∧ Aside0 (∀ j, t ≤ j → j < k → (l.getD j []).getD cc 0 = 0)) (fun v12 => N - (intOf v12).toNat)
      case atStart => exact ⟨t, rfl, by omega, by omega, ⟨fun j h1 h2 => by omega⟩⟩
      case round =>
        obtain ⟨k, rfl, htk, hkN, HZ⟩ := hrel
        by_cases hk : k < N
        · obtain ⟨g', B2, d2, e, -, hx, hfx, hx2, hx3⟩ := HO.out.at k (by rw [F1.out]; exact hk)
          cases e
          have hlen : (l.getD k []).length = n := (F5.out _ (getD_mem_rows (by rw [F1.out]; exact hk))).1
          have hel := (F5.out _ (getD_mem_rows (by rw [F1.out]; exact hk))).2 cc
          rw [hlen] at hx hx2
          obtain ⟨ad, e, hy⟩ := C_nat hx3 cc (by rw [hlen]; exact hc)
          cases e
          obtain ⟨x, hxe⟩ : ∃ x, (l.getD k []).getD cc 0 = x := ⟨_, rfl⟩
          rw [hxe] at hy hel
          by_cases hx0 : x = 0
          · have HZ2 : Aside0 (∀ j, t ≤ j → j < k + 1 → (l.getD j []).getD cc 0 = 0) := ⟨fun j h1 h2 => by
              by_cases hjk : j = k
              · rw [hjk, hxe, hx0]
              · exact HZ.out j h1 (by omega)⟩
            subst hx0
            clear hxe hlen
            go_wp2
            go_round
            case rel => exact ⟨k + 1, by go_num, by omega, by omega, HZ2⟩
            case measure => simp [intOf]; omega
          · have hxb : (x == 0) = false := by simp [hx0]
            have hkNb : ((k : Int) == (N : Int)) = false := by simp; omega
            have hkNe : k ≠ N := by omega
            have HXe := Aside0.mk hxe
            have Hel := Aside0.mk hel
            have Hlen := Aside0.mk hlen
            clear hxe hlen hel
            go_upto_region 11 with (fail)
            obtain ⟨g', Bt, dt, e, -, hxt, hfxt, hxt2, hxt3⟩ := HO.out.at t (by rw [F1.out]; exact ht)
            cases e
            have hlent : (l.getD t []).length = n := (F5.out _ (getD_mem_rows (by rw [F1.out]; exact ht))).1
            rw [hlent] at hxt hxt2
            have HCk := Aside0.mk (show Rd wr (.slice (some ad) n d2) (l.getD k []) from ⟨_, _, by rw [Hlen.out], by rw [Hlen.out]; exact hx2, hx3⟩)
            have HCt := Aside0.mk (show Rd wr (.slice Bt n dt) (l.getD t []) from ⟨_, _, by rw [hlent], by rw [hlent]; exact hxt2, hxt3⟩)
            have ik0 : (0 : Int) ≤ (k : Int) := by omega
            have ik1 : (k : Int) < (N : Int) := by omega
            have it0 : (0 : Int) ≤ (t : Int) := by omega
            have it1 : (t : Int) < (N : Int) := by omega
            have HIk := Aside0.mk (fun b (hb : (Value.slice (some ad) n d2).ownBlock = some b) => HO.out.inb k (by rw [F1.out]; exact hk) g _ b rfl hx (by rw [Hlen.out]; omega) hb)
            have HIt := Aside0.mk (fun b (hb : (Value.slice Bt n dt).ownBlock = some b) => HO.out.inb t (by rw [F1.out]; exact ht) g _ b rfl hxt (by rw [hlent]; omega) hb)
            obtain ⟨g', vk2, e, -, hxk2, hfk2, -⟩ := (HO.out.set (by rw [F1.out]; exact ht) HCk.out HIk.out).out k (by rw [List.length_set, F1.out]; exact hk)
            cases e
            clear hx3 hxt3 hlent
            refine wp_region_last (S := fun w' => w'.cell? ⟨g, t, none⟩ = some (.slice Bt n dt) ∧ w'.cell? ⟨g, k, none⟩ = some (.slice (some ad) n d2)) (L := 13) (by kernel_rfl) ⟨hxt, hx⟩ (fun hHeld => ?_)
            refine wpAnyZ_pure 0 (v := ?_) rfl (by kernel_rfl) (by kernel_rfl) (by kernel_rfl) (by decide) (fun _ _ _ h => h) (by rfl) ?_ (fun _ => by assumption) ?_
            rotate_left
            focus (intro wq; go_simp; try (with_reducible rfl))
            try simp only [Act.put, List.setIfInBounds_toArray, List.set_cons_zero, List.set_cons_succ]
            refine wpAnyZ_pure 1 (v := ?_) rfl (by kernel_rfl) (by kernel_rfl) (by kernel_rfl) (by decide) (fun _ _ _ h => h) (by rfl) ?_ (fun _ => by assumption) ?_
            rotate_left
            focus (intro wq; go_simp; try (with_reducible rfl))
            try simp only [Act.put, List.setIfInBounds_toArray, List.set_cons_zero, List.set_cons_succ]
            refine wpAnyZ_pure 2 (v := ?_) rfl (by kernel_rfl) (by kernel_rfl) (by kernel_rfl) (by decide) (fun _ _ _ h => h) (by rfl) ?_ (fun _ => by assumption) ?_
            rotate_left
            focus (intro wq; go_simp; try (with_reducible rfl))
            try simp only [Act.put, List.setIfInBounds_toArray, List.set_cons_zero, List.set_cons_succ]
            refine wpAnyZ_pure 3 (v := ?_) rfl (by kernel_rfl) (by kernel_rfl) (by kernel_rfl) (by decide) (fun _ _ _ h => h) (by rfl) ?_ (fun _ => by assumption) ?_
            rotate_left
            focus (intro wq; go_simp; try (with_reducible rfl))
            try simp only [Act.put, List.setIfInBounds_toArray, List.set_cons_zero, List.set_cons_succ]
            refine wpAnyZ_pure 4 (v := ?_) rfl (by kernel_rfl) (by kernel_rfl) (by kernel_rfl) (by decide) (fun _ _ _ h => h) (by rfl) ?_ (fun _ => by assumption) ?_
            rotate_left
            focus (intro wq; go_simp; try (with_reducible rfl))
            try simp only [Act.put, List.setIfInBounds_toArray, List.set_cons_zero, List.set_cons_succ]
            refine wpAnyZ_pure 5 (v := ?_) rfl (by kernel_rfl) (by kernel_rfl) (by kernel_rfl) (by decide) (fun _ _ _ h => h) (by rfl) ?_ (fun _ => by assumption) ?_
            rotate_left
            focus (intro wq; go_simp; try (with_reducible rfl))
            try simp only [Act.put, List.setIfInBounds_toArray, List.set_cons_zero, List.set_cons_succ]
            refine wpAnyZ_pure 6 (v := ?_) rfl (by kernel_rfl) (by kernel_rfl) (by kernel_rfl) (by decide) (fun _ _ _ h => h) (by rfl) ?_ (fun _ => by assumption) ?_
            rotate_left
            focus (intro wq; go_simp; try (with_reducible rfl))
            try simp only [Act.put, List.setIfInBounds_toArray, List.set_cons_zero, List.set_cons_succ]
            refine wpAnyZ_load 7 (v := ?_) rfl (by kernel_rfl) (by kernel_rfl) (by kernel_rfl) (by kernel_rfl) (by kernel_rfl) (fun _ _ _ h => h) (by rfl) ?_ (by assumption) ?_
            rotate_left
            focus (intro wq hq; (try dsimp only at hq); go_split_ands; go_simp; try (with_reducible rfl))
            try simp only [Act.put, List.setIfInBounds_toArray, List.set_cons_zero, List.set_cons_succ]
            refine wpAnyZ_pure 8 (v := ?_) rfl (by kernel_rfl) (by kernel_rfl) (by kernel_rfl) (by decide) (fun _ _ _ h => h) (by rfl) ?_ (fun _ => by assumption) ?_
            rotate_left
            focus (intro wq; go_simp; try (with_reducible rfl))
            try simp only [Act.put, List.setIfInBounds_toArray, List.set_cons_zero, List.set_cons_succ]
            refine wpAnyZ_pure 9 (v := ?_) rfl (by kernel_rfl) (by kernel_rfl) (by kernel_rfl) (by decide) (fun _ _ _ h => h) (by rfl) ?_ (fun _ => by assumption) ?_
            rotate_left
            focus (intro wq; go_simp; try (with_reducible rfl))
            try simp only [Act.put, List.setIfInBounds_toArray, List.set_cons_zero, List.set_cons_succ]
            refine wpAnyZ_pure 10 (v := ?_) rfl (by kernel_rfl) (by kernel_rfl) (by kernel_rfl) (by decide) (fun _ _ _ h => h) (by rfl) ?_ (fun _ => by assumption) ?_
            rotate_left
            focus (intro wq; go_simp; try (with_reducible rfl))
            try simp only [Act.put, List.setIfInBounds_toArray, List.set_cons_zero, List.set_cons_succ]
            refine wpAnyZ_load 11 (v := ?_) rfl (by kernel_rfl) (by kernel_rfl) (by kernel_rfl) (by kernel_rfl) (by kernel_rfl) (fun _ _ _ h => h) (by rfl) ?_ (by assumption) ?_
            rotate_left
            focus (intro wq hq; (try dsimp only at hq); go_split_ands; go_simp; try (with_reducible rfl))
            try simp only [Act.put, List.setIfInBounds_toArray, List.set_cons_zero, List.set_cons_succ]
            refine wpAnyZ_pure 12 (v := ?_) rfl (by kernel_rfl) (by kernel_rfl) (by kernel_rfl) (by decide) (fun _ _ _ h => h) (by rfl) ?_ (fun _ => by assumption) ?_
            rotate_left
            focus (intro wq; go_simp; try (with_reducible rfl))
            try simp only [Act.put, List.setIfInBounds_toArray, List.set_cons_zero, List.set_cons_succ]
            refine wpAnyZ_one 13 rfl (by kernel_rfl) (fun K' hK => ?_)
            go_simp
            refine hK.out _ _ (unlistedZ (by kernel_rfl)) ?_
            clear hK K'
            try simp only [Act.put, List.setIfInBounds_toArray, List.set_cons_zero, List.set_cons_succ]
            refine wpAnyZ_pure 14 (v := ?_) rfl (by kernel_rfl) (by kernel_rfl) (by kernel_rfl) (by decide) (fun _ _ _ h => h) (by rfl) ?_ (unlistedZ (by kernel_rfl)) ?_
            rotate_left
            focus (intro wq; go_simp; try (with_reducible rfl))
            try simp only [Act.put, List.setIfInBounds_toArray, List.set_cons_zero, List.set_cons_succ]
            refine wpAnyZ_one 15 rfl (by kernel_rfl) (fun K' hK => ?_)
            go_simp
            refine hK.out _ _ (unlistedZ (by kernel_rfl)) ?_
            clear hK K'
            try simp only [Act.put, List.setIfInBounds_toArray, List.set_cons_zero, List.set_cons_succ]
            refine wpAnyZ_done (by kernel_rfl) ?_ _
            have hO1 := HO.out.set (by rw [F1.out]; exact ht) HCk.out HIk.out
            have hO2 := hO1.set (k := k) (by rw [List.length_set, F1.out]; exact hk) (HCt.out.setSlot hxt _) HIt.out
            obtain ⟨cs1, hcs1⟩ := HO.out.blk g rfl (by rw [F1.out]; omega)
            have hP2 := (HP.out.setRow hcs1 t (.slice (some ad) n d2)).setRow (blk_set hcs1 t _) k (.slice Bt n dt)
            have hA1 := HAp.out.set HO.out F1.out (j := t) ht (HAp.out.at hk hx)
            have hA2 := hA1.set (HO.out.set (by rw [F1.out]; exact ht) HCk.out HIk.out) (by rw [List.length_set]; exact F1.out) (j := k) hk (HAp.out.at ht hxt)
            have hB2 := (HB.out.setCell (p := ⟨g, t, none⟩) hg (.slice (some ad) n d2)).setCell (p := ⟨g, k, none⟩) hg (.slice Bt n dt)
            obtain ⟨w3, hw3⟩ : ∃ w3, ((wr.setCell ⟨g, t, none⟩ (.slice (some ad) n d2)).setCell ⟨g, k, none⟩ (.slice Bt n dt)).drew = w3 := ⟨_, rfl⟩
            have hd3 := below_drew1 (Below.refl ((wr.setCell ⟨g, t, none⟩ (.slice (some ad) n d2)).setCell ⟨g, k, none⟩ (.slice Bt n dt)).heap.size ((wr.setCell ⟨g, t, none⟩ (.slice (some ad) n d2)).setCell ⟨g, k, none⟩ (.slice Bt n dt)))
            rw [hw3] at hd3
            have HAs := Aside0.mk (hA2.below hO2 (by rw [List.length_set, List.length_set]; exact F1.out) hd3)
            obtain ⟨l1, hl1⟩ : ∃ l1, swapL l t k = l1 := ⟨_, rfl⟩
            have HOs : Aside0 (OA w3 w0.heap.size (some ⟨g, 0, none⟩) l1) := ⟨by rw [← hl1]; exact hO2.below hd3⟩
            have HPs := Aside0.mk (hP2.below hd3)
            have HBs := Aside0.mk (below_later hB2 hB2.size hd3)
            have HW3 := Aside0.mk hw3
            have HL1 := Aside0.mk hl1
            have F1s : Aside0 (l1.length = N) := ⟨by rw [← hl1, swapL_length]; exact F1.out⟩
            have F5s : Aside0 (Shp K.D n l1) := ⟨by rw [← hl1]; exact K.shp_swap F5.out (by rw [F1.out]; exact ht) (by rw [F1.out]; exact hk)⟩
            have HRs : Aside0 (RR (cc + 1) (t + 1) (clearL K.D cc t (normL K.D cc t l1)) (pv ++ [(cc : Int)])) := ⟨by
              have h := HR.out
              rw [← HRR.out] at h ⊢
              have h2 := Reach.step h (k := k) htk (by rw [F1.out]; exact hk) HZ.out (by rw [HXe.out]; exact hx0)
              unfold nextL at h2
              rw [hl1] at h2
              exact h2⟩
            rw [hw3]
            have HkN : Aside0 (k < l.length) := ⟨by rw [F1.out]; exact hk⟩
            have HtN : Aside0 (t < l.length) := ⟨by rw [F1.out]; exact ht⟩
            have HXe2 := HXe
            clear hO1 hO2 hA1 hA2 HAp hcs1 hP2 hB2 hw3 hd3 hl1 HO HP HB F1 F5 HR HZ hx hfx hxt hfxt hxk2 hfk2 HIk HIt HCk HCt hHeld hy HXe Hel Hlen hx2 hxt2
            obtain ⟨g', Bp, dp, e, -, hp, hfp, hp2, hp3⟩ := HOs.out.at t (by rw [F1s.out]; exact ht)
            cases e
            have hlp := (F5s.out _ (getD_mem_rows (by rw [F1s.out]; exact ht)))
            rw [hlp.1] at hp hp2
            obtain ⟨adp, e, hyp⟩ := C_nat hp3 cc (by rw [hlp.1]; exact hc)
            cases e
            have hely := hlp.2 cc
            obtain ⟨r1, hr1⟩ : ∃ r, l1.getD t [] = r := ⟨_, rfl⟩
            obtain ⟨y, hye⟩ : ∃ y, r1.getD cc 0 = y := ⟨_, rfl⟩
            rw [hr1] at hp3 hlp
            rw [hr1, hye] at hyp hely
            have hnorm : normL K.D cc t l1 = l1.set t (if y ≠ 1 then scaleZ K.D (K.D.inv y) r1 else r1) := by unfold normL normR; rw [hr1, hye]
            have HNorm := Aside0.mk hnorm
            have HLp := Aside0.mk hlp
            have HYe := Aside0.mk hye
            have HR1 := Aside0.mk hr1
            have HP3 := Aside0.mk hp3
            have HEly := Aside0.mk hely
            have it0 : (0 : Int) ≤ (t : Int) := by omega
            have it1 : (t : Int) < (N : Int) := by omega
            have ic0 : (0 : Int) ≤ (cc : Int) := by omega
            have ic1 : (cc : Int) < (n : Int) := by omega
            obtain ⟨l2, hl2⟩ : ∃ l2, normL K.D cc t l1 = l2 := ⟨_, rfl⟩
            rw [hl2] at hnorm
            have hnn : y ≠ 0 := by
              rw [← hye, ← hr1, ← HL1.out, swapL_at t k l HtN.out HkN.out, HXe2.out]
              exact hx0
            have HL2 := Aside0.mk hnorm
            have HL2e := Aside0.mk hl2
            clear hnorm hl2 hlp hr1 hye hp3 hely
            go_upto_if 69 with (fail)
            go_cut [] (fun wc => Aside0 (OA wc w0.heap.size (some ⟨g, 0, none⟩) l2) ∧ Aside0 (Own wc w0.heap.size u9 pv) ∧ Aside0 (Apt wc (some ⟨g, 0, none⟩) u9 N) ∧ Aside0 (Below w0.heap.size w0 wc))
            case first =>
              by_cases hy1 : y = 1
              · have hyb : (y != 1) = false := by simp [hy1]
                have h2 := HL2.out
                rw [if_neg (by simp [hy1]), ← HR1.out, set_same_row _ _ (by rw [F1s.out]; exact ht)] at h2
                clear hp hfp hyp
                go_wp2_with (fail)
                go_meet
                rw [h2]
                exact ⟨HOs, HPs, HAs, HBs⟩
              · have hyb : (y != 1) = true := by simp [hy1]
                have h2 := HL2.out
                rw [if_pos hy1] at h2
                obtain ⟨iv, hiv⟩ : ∃ iv, K.D.inv y = iv := ⟨_, rfl⟩
                obtain ⟨r2, hr2⟩ : ∃ r2, scaleZ K.D iv r1 = r2 := ⟨_, rfl⟩
                have hr2l : r2.length = n := by rw [← hr2, scaleZ_length]; exact HLp.out.1
                have HIv := Aside0.mk (fun (w4 : World) (hb : Below w3.heap.size w3 w4) => HInv.out w4 (below_later HBs.out HBs.out.size hb) y HEly.out hnn)
                have HSc1 := Aside0.mk (fun (w4 : World) (hb : Below w3.heap.size w3 w4) => HSc.out w4 (below_later HBs.out HBs.out.size hb) iv (some adp) dp r1 (Kd.C_below HP3.out hb) (by rw [HLp.out.1]; exact hn))
                rw [hiv] at HIv h2
                simp only [HLp.out.1, hr2] at HSc1
                rw [hr2] at h2
                have H2 := Aside0.mk h2
                have HR2l := Aside0.mk hr2l
                obtain ⟨cP, cM, cD⟩ := HF.out.below HBs.out
                clear h2 hiv hr2 hr2l
                go_upto_region 13 with (fail)
                refine wp_region_last (S := fun w' => w'.cell? ⟨w.heap.size, 0, none⟩ = some (.int .i64 K.P) ∧ w'.cell? ⟨w.heap.size, 1, none⟩ = some (.int .i64 (K.m : Int)) ∧ w'.cell? ⟨w.heap.size, 2, none⟩ = some (.slice A K.Mod.length c) ∧ w'.cell? ⟨g, t, none⟩ = some (.slice (some adp) n dp) ∧ w'.cell? (adp.add cc) = some (.int .i64 y)) (L := 18) (by kernel_rfl) ⟨cP, cM, cD, hp, hyp⟩ (fun hHeld => ?_)
                refine wpAnyZ_pure 0 (v := ?_) rfl (by kernel_rfl) (by kernel_rfl) (by kernel_rfl) (by decide) (fun _ _ _ h => h) (by rfl) ?_ (fun _ => by assumption) ?_
                rotate_left
                focus (intro wq; go_simp; try (with_reducible rfl))
                try simp only [Act.put, List.setIfInBounds_toArray, List.set_cons_zero, List.set_cons_succ]
                refine wpAnyZ_pure 1 (v := ?_) rfl (by kernel_rfl) (by kernel_rfl) (by kernel_rfl) (by decide) (fun _ _ _ h => h) (by rfl) ?_ (fun _ => by assumption) ?_
                rotate_left
                focus (intro wq; go_simp; try (with_reducible rfl))
                try simp only [Act.put, List.setIfInBounds_toArray, List.set_cons_zero, List.set_cons_succ]
                refine wpAnyZ_load 2 (v := ?_) rfl (by kernel_rfl) (by kernel_rfl) (by kernel_rfl) (by kernel_rfl) (by kernel_rfl) (fun _ _ _ h => h) (by rfl) ?_ (by assumption) ?_
                rotate_left
                focus (intro wq hq; (try dsimp only at hq); go_split_ands; go_simp; try (with_reducible rfl))
                try simp only [Act.put, List.setIfInBounds_toArray, List.set_cons_zero, List.set_cons_succ]
                refine wpAnyZ_load 3 (v := ?_) rfl (by kernel_rfl) (by kernel_rfl) (by kernel_rfl) (by kernel_rfl) (by kernel_rfl) (fun _ _ _ h => h) (by rfl) ?_ (by assumption) ?_
                rotate_left
                focus (intro wq hq; (try dsimp only at hq); go_split_ands; go_simp; try (with_reducible rfl))
                try simp only [Act.put, List.setIfInBounds_toArray, List.set_cons_zero, List.set_cons_succ]
                refine wpAnyZ_pure 4 (v := ?_) rfl (by kernel_rfl) (by kernel_rfl) (by kernel_rfl) (by decide) (fun _ _ _ h => h) (by rfl) ?_ (fun _ => by assumption) ?_
                rotate_left
                focus (intro wq; go_simp; try (with_reducible rfl))
                try simp only [Act.put, List.setIfInBounds_toArray, List.set_cons_zero, List.set_cons_succ]
                refine wpAnyZ_pure 5 (v := ?_) rfl (by kernel_rfl) (by kernel_rfl) (by kernel_rfl) (by decide) (fun _ _ _ h => h) (by rfl) ?_ (fun _ => by assumption) ?_
                rotate_left
                focus (intro wq; go_simp; try (with_reducible rfl))
                try simp only [Act.put, List.setIfInBounds_toArray, List.set_cons_zero, List.set_cons_succ]
                refine wpAnyZ_pure 6 (v := ?_) rfl (by kernel_rfl) (by kernel_rfl) (by kernel_rfl) (by decide) (fun _ _ _ h => h) (by rfl) ?_ (fun _ => by assumption) ?_
                rotate_left
                focus (intro wq; go_simp; try (with_reducible rfl))
                try simp only [Act.put, List.setIfInBounds_toArray, List.set_cons_zero, List.set_cons_succ]
                refine wpAnyZ_load 7 (v := ?_) rfl (by kernel_rfl) (by kernel_rfl) (by kernel_rfl) (by kernel_rfl) (by kernel_rfl) (fun _ _ _ h => h) (by rfl) ?_ (by assumption) ?_
                rotate_left
                focus (intro wq hq; (try dsimp only at hq); go_split_ands; go_simp; try (with_reducible rfl))
                try simp only [Act.put, List.setIfInBounds_toArray, List.set_cons_zero, List.set_cons_succ]
                refine wpAnyZ_pure 8 (v := ?_) rfl (by kernel_rfl) (by kernel_rfl) (by kernel_rfl) (by decide) (fun _ _ _ h => h) (by rfl) ?_ (fun _ => by assumption) ?_
                rotate_left
                focus (intro wq; go_simp; try (with_reducible rfl))
                try simp only [Act.put, List.setIfInBounds_toArray, List.set_cons_zero, List.set_cons_succ]
                refine wpAnyZ_pure 9 (v := ?_) rfl (by kernel_rfl) (by kernel_rfl) (by kernel_rfl) (by decide) (fun _ _ _ h => h) (by rfl) ?_ (fun _ => by assumption) ?_
                rotate_left
                focus (intro wq; go_simp; try (with_reducible rfl))
                try simp only [Act.put, List.setIfInBounds_toArray, List.set_cons_zero, List.set_cons_succ]
                refine wpAnyZ_load 10 (v := ?_) rfl (by kernel_rfl) (by kernel_rfl) (by kernel_rfl) (by kernel_rfl) (by kernel_rfl) (fun _ _ _ h => h) (by rfl) ?_ (by assumption) ?_
                rotate_left
                focus (intro wq hq; (try dsimp only at hq); go_split_ands; go_simp; try (with_reducible rfl))
                try simp only [Act.put, List.setIfInBounds_toArray, List.set_cons_zero, List.set_cons_succ]
                refine wpAnyZ_pure 12 (v := ?_) rfl (by kernel_rfl) (by kernel_rfl) (by kernel_rfl) (by decide) (fun _ _ _ h => h) (by rfl) ?_ (fun _ => by assumption) ?_
                rotate_left
                focus (intro wq; go_simp; try (with_reducible rfl))
                try simp only [Act.put, List.setIfInBounds_toArray, List.set_cons_zero, List.set_cons_succ]
                refine wpAnyZ_pure 13 (v := ?_) rfl (by kernel_rfl) (by kernel_rfl) (by kernel_rfl) (by decide) (fun _ _ _ h => h) (by rfl) ?_ (fun _ => by assumption) ?_
                rotate_left
                focus (intro wq; go_simp; try (with_reducible rfl))
                try simp only [Act.put, List.setIfInBounds_toArray, List.set_cons_zero, List.set_cons_succ]
                refine wpAnyZ_pure 14 (v := ?_) rfl (by kernel_rfl) (by kernel_rfl) (by kernel_rfl) (by decide) (fun _ _ _ h => h) (by rfl) ?_ (fun _ => by assumption) ?_
                rotate_left
                focus (intro wq; go_simp; try (with_reducible rfl))
                try simp only [Act.put, List.setIfInBounds_toArray, List.set_cons_zero, List.set_cons_succ]
                refine wpAnyZ_load 15 (v := ?_) rfl (by kernel_rfl) (by kernel_rfl) (by kernel_rfl) (by kernel_rfl) (by kernel_rfl) (fun _ _ _ h => h) (by rfl) ?_ (by assumption) ?_
                rotate_left
                focus (intro wq hq; (try dsimp only at hq); go_split_ands; go_simp; try (with_reducible rfl))
                try simp only [Act.put, List.setIfInBounds_toArray, List.set_cons_zero, List.set_cons_succ]
                refine wpAnyZ_one 11 rfl (by kernel_rfl) (fun K' hK => ?_)
                go_simp
                go_at_call 54; refine Calls.mono (HIv.out _ (below_drew1 (Below.refl _ _))) ?_; rintro e w4 ⟨rfl, hB⟩; have HB4 : Aside0 (Below w3.heap.size w3 w4) := ⟨below_step (below_drew1 (Below.refl _ _)) hB⟩; have cP4 := pw_cell_below HB4.out cP; have cM4 := pw_cell_below HB4.out cM; have cD4 := pw_cell_below HB4.out cD; have hp4 := pw_cell_below HB4.out hp; have hyp4 := pw_cell_below HB4.out hyp; clear hB
                refine hK.out _ _ (fun _ => ⟨cP4, cM4, cD4, hp4, hyp4⟩) ?_
                clear hK K'
                try simp only [Act.put, List.setIfInBounds_toArray, List.set_cons_zero, List.set_cons_succ]
                refine wpAnyZ_one 16 rfl (by kernel_rfl) (fun K' hK => ?_)
                go_simp
                go_at_call 163; refine Calls.mono (HSc1.out _ HB4.out) ?_; rintro e w5 ⟨v5, rfl, hO, hB⟩; obtain ⟨A5, c5, rfl, hc5, hC5⟩ := hO.slice; have HA5 := Aside0.mk (hO.apt (HPs.out.below HB4.out) (Nat.le_refl _)); have HI5 := Aside0.mk (fun b hb => Nat.le_trans HB4.out.size (hO.base_le b hb)); have HC5 := Aside0.mk hC5; have Hc5 := Aside0.mk hc5; have HB5 : Aside0 (Below w3.heap.size w3 w5) := ⟨below_later HB4.out HB4.out.size hB⟩; have cP5 := pw_cell_below HB5.out cP; have cM5 := pw_cell_below HB5.out cM; have cD5 := pw_cell_below HB5.out cD; have hp5 := pw_cell_below HB5.out hp; have hyp5 := pw_cell_below HB5.out hyp; clear hO hB hC5 hc5
                refine hK.out _ _ (fun _ => ⟨cP5, cM5, cD5, hp5, hyp5⟩) ?_
                clear hK K'
                try simp only [Act.put, List.setIfInBounds_toArray, List.set_cons_zero, List.set_cons_succ]
                have hfp5 : w5.frozen? ⟨g, t, none⟩ = false := (HB5.out.frozen (World.block_lt_of_cell? w3 _ hp)).trans hfp
                refine wpAnyZ_pure 17 (v := ?_) rfl (by kernel_rfl) (by kernel_rfl) (by kernel_rfl) (by decide) (fun _ _ _ h => h) (by rfl) ?_ (fun _ => ⟨cP5, cM5, cD5, hp5, hyp5⟩) ?_
                rotate_left
                focus (intro wq; go_simp; try (with_reducible rfl))
                try simp only [Act.put, List.setIfInBounds_toArray, List.set_cons_zero, List.set_cons_succ]
                refine wpAnyZ_one 18 rfl (by kernel_rfl) (fun K' hK => ?_)
                go_simp
                refine hK.out _ _ (unlistedZ (by kernel_rfl)) ?_
                clear hK K'
                try simp only [Act.put, List.setIfInBounds_toArray, List.set_cons_zero, List.set_cons_succ]
                refine wpAnyZ_done (by kernel_rfl) ?_ _
                go_wp2_with (fail)
                go_meet
                obtain ⟨cs5, hcs5⟩ := (HOs.out.below HB5.out).blk g rfl (by rw [F1s.out]; omega)
                rw [H2.out]
                exact ⟨⟨(HOs.out.below HB5.out).set (k := t) (by rw [F1s.out]; exact ht) ⟨A5, c5, rfl, Hc5.out, HC5.out⟩ (fun b hb => Nat.le_trans HBs.out.size (HI5.out b hb))⟩, ⟨(HPs.out.below HB5.out).setRow hcs5 _ _⟩,
                  ⟨(HAs.out.below HOs.out F1s.out HB5.out).set (HOs.out.below HB5.out) F1s.out ht HA5.out⟩, ⟨(below_later HBs.out HBs.out.size HB5.out).setCell (p := ⟨g, t, none⟩) hg _⟩⟩
            case rest =>
              obtain ⟨HO2, HP2, HA2, HB2⟩ := hcut
              have F12 : Aside0 (l2.length = N) := ⟨by rw [← HL2e.out, normL_length]; exact F1s.out⟩
              have F52 : Aside0 (Shp K.D n l2) := ⟨by rw [← HL2e.out]; exact K.shp_normL F5s.out (by rw [F1s.out]; exact ht)⟩
              rw [HL2e.out] at HRs
              clear HL2 HL2e HNorm HR1 HYe HLp HEly HP3 hnn hp hfp hyp HOs HPs HAs HBs F1s F5s HL1 HW3 HkN HtN HXe2 ik0 ik1 hxb hkNb hkNe hx0
              obtain ⟨T, hT⟩ : ∃ T, clearL K.D cc t l2 = T := ⟨_, rfl⟩
              have hTl : T.length = l2.length := by rw [← hT, clearL_length]
              have hTg : ∀ i, i < N → T.getD i [] = if i ≠ t then clearRow K.D cc (l2.getD t []) (l2.getD i []) else l2.getD i [] := fun i hi => by rw [← hT]; exact clearL_getD _ _ _ _ _ (by rw [F12.out]; exact hi)
              rw [hT] at HRs
              obtain ⟨f, q0, qN, qs, ql, qg, qt⟩ := prog_states T l2 hTl
              rw [F12.out] at qN qs ql qg qt
              obtain ⟨rt, hrt⟩ : ∃ r, l2.getD t [] = r := ⟨_, rfl⟩
              rw [hrt] at hTg
              have hrtl : rt.length = n := by rw [← hrt]; exact (F52.out _ (getD_mem_rows (by rw [F12.out]; exact ht))).1
              have hft : ∀ i, i ≤ N → (f i).getD t [] = rt := fun i hi => by
                by_cases h : i ≤ t
                · rw [qg i t h ht, hrt]
                · rw [qt i t (by omega) hi, hTg t ht, if_neg (by simp), hrt]
              rw [← q0] at HO2
              have QN := Aside0.mk qN
              have QS := Aside0.mk qs
              have QL := Aside0.mk ql
              have QG := Aside0.mk qg
              have QT := Aside0.mk hft
              have HTg := Aside0.mk hTg
              have HTl := Aside0.mk hTl
              have HRtl := Aside0.mk hrtl
              clear qN qs ql qg qt hft hTg hTl hrtl hT hrt q0
              go_wp2_with (fail)
              go_loopw [13] (fun v13 w' => ∃ i : Nat, v13 = .int .i64 i ∧ i ≤ N ∧ Aside0 (OA w' w0.heap.size (some ⟨g, 0, none⟩) (f i)) ∧ Aside0 (Own w' w0.heap.size u9 pv) ∧ Aside0 (Apt w' (some ⟨g, 0, none⟩) u9 N) ∧ Aside0 (Below w0.heap.size w0 w')) (fun v13 _ => N - (intOf v13).toNat)
              case atStart => exact ⟨0, rfl, by omega, HO2, HP2, HA2, HB2⟩
              case round =>
                clear HO2 HP2 HA2 HB2
                obtain ⟨i, rfl, hi, HOi, HPi, HAi, HBi⟩ := hrel
                by_cases hiN : i < N
                · have hTi := HTg.out i hiN
                  have hst := QS.out i hiN
                  have hvl := (F52.out _ (getD_mem_rows (by rw [F12.out]; exact hiN)))
                  rw [← QG.out i i (Nat.le_refl _) hiN] at hTi hvl
                  have hfl := QL.out i hi
                  obtain ⟨v, hv⟩ : ∃ v, (f i).getD i [] = v := ⟨_, rfl⟩
                  rw [hv] at hTi hvl
                  by_cases hit : i = t
                  · have hib : ((i : Int) != (t : Int)) = false := by simp [hit]
                    rw [if_neg (by simp [hit])] at hTi
                    rw [hTi, ← hv, set_same_row _ _ (by rw [hfl]; exact hiN)] at hst
                    have HSt := Aside0.mk hst
                    rw [HSt.out] at HOi
                    clear hTi hst hvl hfl hv HSt
                    go_wp2_with (fail)
                    go_roundw
                    case rel => exact ⟨i + 1, by go_num, by omega, HOi, HPi, HAi, HBi⟩
                    case measure => simp [intOf]; omega
                  · have hib : ((i : Int) != (t : Int)) = true := by simp; omega
                    rw [if_pos hit] at hTi
                    obtain ⟨g', Bi, di, e, -, hx, hfx, hx2, hx3⟩ := HOi.out.at i (by rw [hfl]; exact hiN)
                    cases e
                    rw [hv, hvl.1] at hx hx2
                    rw [hv] at hx3
                    obtain ⟨adi, e, hy⟩ := C_nat hx3 cc (by rw [hvl.1]; exact hc)
                    cases e
                    obtain ⟨z, hz⟩ : ∃ z, v.getD cc 0 = z := ⟨_, rfl⟩
                    rw [hz] at hy
                    have hTi2 : T.getD i [] = if z ≠ 0 then addToZ K.D v (K.D.neg z) rt else v := by rw [hTi]; unfold clearRow; rw [hz]
                    have HVl := Aside0.mk hvl
                    have HV := Aside0.mk hv
                    have HFl := Aside0.mk hfl
                    have HX3 := Aside0.mk hx3
                    have ii0 : (0 : Int) ≤ (i : Int) := by omega
                    have ii1 : (i : Int) < (N : Int) := by omega
                    clear hTi hvl hfl hz hx3 hv
                    by_cases hz0 : z = 0
                    · have hzb : (z != 0) = false := by simp [hz0]
                      rw [if_neg (by simp [hz0])] at hTi2
                      rw [hTi2, ← HV.out, set_same_row _ _ (by rw [HFl.out]; exact hiN)] at hst
                      have HSt := Aside0.mk hst
                      rw [HSt.out] at HOi
                      clear hTi2 hst HSt
                      subst hz0
                      go_wp2_with (fail)
                      go_roundw
                      case rel => exact ⟨i + 1, by go_num, by omega, HOi, HPi, HAi, HBi⟩
                      case measure => simp [intOf]; omega
                    · have hzb : (z != 0) = true := by simp [hz0]
                      rw [if_pos hz0] at hTi2
                      obtain ⟨nz, hnz⟩ : ∃ nz, K.D.neg z = nz := ⟨_, rfl⟩
                      obtain ⟨r2, hr2⟩ : ∃ r2, addToZ K.D v nz rt = r2 := ⟨_, rfl⟩
                      rw [hnz, hr2] at hTi2
                      rw [hTi2] at hst
                      have hr2l : r2.length = n := by rw [← hr2, addToZ_length]; exact HVl.out.1
                      obtain ⟨g', Bt, dt, e, -, hxt, hfxt, hxt2, hxt3⟩ := HOi.out.at t (by rw [HFl.out]; exact ht)
                      cases e
                      rw [QT.out i hi, HRtl.out] at hxt hxt2
                      rw [QT.out i hi] at hxt3
                      have HXt3 := Aside0.mk hxt3
                      have HNz : Aside0 (∀ w4 : World, Calls Try.prog 84 #[.agg #[.int .i64 K.P, .int .i64 (K.m : Int), .slice A K.Mod.length c], .int .i64 z] w4 fun e w' => e = .returned (.int .i64 nz) ∧ Below w4.heap.size w4 w') := ⟨fun w4 => by rw [← hnz]; exact HNeg.out w4 z⟩
                      have HAd1 := Aside0.mk (fun (w4 : World) (hb : Below wr.heap.size wr w4) => HAdT.out w4 (below_later HBi.out HBi.out.size hb) nz (some adi) Bt di dt v rt (Kd.C_below HX3.out hb) (Kd.C_below HXt3.out hb) (by rw [HVl.out.1, HRtl.out]; exact Nat.le_refl _) (by rw [HVl.out.1]; exact hn))
                      simp only [HVl.out.1, HRtl.out, hr2] at HAd1
                      have HSt := Aside0.mk hst
                      have HR2l := Aside0.mk hr2l
                      obtain ⟨cP, cM, cD⟩ := HF.out.below HBi.out
                      clear hTi2 hst hnz hr2 hr2l hxt3 hxt2
                      go_upto_region 18 with (fail)
                      refine wp_region_last (S := fun w' => w'.cell? ⟨w.heap.size, 0, none⟩ = some (.int .i64 K.P) ∧ w'.cell? ⟨w.heap.size, 1, none⟩ = some (.int .i64 (K.m : Int)) ∧ w'.cell? ⟨w.heap.size, 2, none⟩ = some (.slice A K.Mod.length c) ∧ w'.cell? ⟨g, i, none⟩ = some (.slice (some adi) n di) ∧ w'.cell? (adi.add cc) = some (.int .i64 z) ∧ w'.cell? ⟨g, t, none⟩ = some (.slice Bt n dt)) (L := 22) (by kernel_rfl) ⟨cP, cM, cD, hx, hy, hxt⟩ (fun hHeld => ?_)
                      refine wpAnyZ_pure 0 (v := ?_) rfl (by kernel_rfl) (by kernel_rfl) (by kernel_rfl) (by decide) (fun _ _ _ h => h) (by rfl) ?_ (fun _ => by assumption) ?_
                      rotate_left
                      focus (intro wq; go_simp; try (with_reducible rfl))
                      try simp only [Act.put, List.setIfInBounds_toArray, List.set_cons_zero, List.set_cons_succ]
                      refine wpAnyZ_pure 1 (v := ?_) rfl (by kernel_rfl) (by kernel_rfl) (by kernel_rfl) (by decide) (fun _ _ _ h => h) (by rfl) ?_ (fun _ => by assumption) ?_
                      rotate_left
                      focus (intro wq; go_simp; try (with_reducible rfl))
                      try simp only [Act.put, List.setIfInBounds_toArray, List.set_cons_zero, List.set_cons_succ]
                      refine wpAnyZ_load 2 (v := ?_) rfl (by kernel_rfl) (by kernel_rfl) (by kernel_rfl) (by kernel_rfl) (by kernel_rfl) (fun _ _ _ h => h) (by rfl) ?_ (by assumption) ?_
                      rotate_left
                      focus (intro wq hq; (try dsimp only at hq); go_split_ands; go_simp; try (with_reducible rfl))
                      try simp only [Act.put, List.setIfInBounds_toArray, List.set_cons_zero, List.set_cons_succ]
                      refine wpAnyZ_pure 3 (v := ?_) rfl (by kernel_rfl) (by kernel_rfl) (by kernel_rfl) (by decide) (fun _ _ _ h => h) (by rfl) ?_ (fun _ => by assumption) ?_
                      rotate_left
                      focus (intro wq; go_simp; try (with_reducible rfl))
                      try simp only [Act.put, List.setIfInBounds_toArray, List.set_cons_zero, List.set_cons_succ]
                      refine wpAnyZ_pure 4 (v := ?_) rfl (by kernel_rfl) (by kernel_rfl) (by kernel_rfl) (by decide) (fun _ _ _ h => h) (by rfl) ?_ (fun _ => by assumption) ?_
                      rotate_left
                      focus (intro wq; go_simp; try (with_reducible rfl))
                      try simp only [Act.put, List.setIfInBounds_toArray, List.set_cons_zero, List.set_cons_succ]
                      refine wpAnyZ_pure 5 (v := ?_) rfl (by kernel_rfl) (by kernel_rfl) (by kernel_rfl) (by decide) (fun _ _ _ h => h) (by rfl) ?_ (fun _ => by assumption) ?_
                      rotate_left
                      focus (intro wq; go_simp; try (with_reducible rfl))
                      try simp only [Act.put, List.setIfInBounds_toArray, List.set_cons_zero, List.set_cons_succ]
                      refine wpAnyZ_load 6 (v := ?_) rfl (by kernel_rfl) (by kernel_rfl) (by kernel_rfl) (by kernel_rfl) (by kernel_rfl) (fun _ _ _ h => h) (by rfl) ?_ (by assumption) ?_
                      rotate_left
                      focus (intro wq hq; (try dsimp only at hq); go_split_ands; go_simp; try (with_reducible rfl))
                      try simp only [Act.put, List.setIfInBounds_toArray, List.set_cons_zero, List.set_cons_succ]
                      refine wpAnyZ_load 7 (v := ?_) rfl (by kernel_rfl) (by kernel_rfl) (by kernel_rfl) (by kernel_rfl) (by kernel_rfl) (fun _ _ _ h => h) (by rfl) ?_ (by assumption) ?_
                      rotate_left
                      focus (intro wq hq; (try dsimp only at hq); go_split_ands; go_simp; try (with_reducible rfl))
                      try simp only [Act.put, List.setIfInBounds_toArray, List.set_cons_zero, List.set_cons_succ]
                      refine wpAnyZ_pure 8 (v := ?_) rfl (by kernel_rfl) (by kernel_rfl) (by kernel_rfl) (by decide) (fun _ _ _ h => h) (by rfl) ?_ (fun _ => by assumption) ?_
                      rotate_left
                      focus (intro wq; go_simp; try (with_reducible rfl))
                      try simp only [Act.put, List.setIfInBounds_toArray, List.set_cons_zero, List.set_cons_succ]
                      refine wpAnyZ_pure 9 (v := ?_) rfl (by kernel_rfl) (by kernel_rfl) (by kernel_rfl) (by decide) (fun _ _ _ h => h) (by rfl) ?_ (fun _ => by assumption) ?_
                      rotate_left
                      focus (intro wq; go_simp; try (with_reducible rfl))
                      try simp only [Act.put, List.setIfInBounds_toArray, List.set_cons_zero, List.set_cons_succ]
                      refine wpAnyZ_pure 10 (v := ?_) rfl (by kernel_rfl) (by kernel_rfl) (by kernel_rfl) (by decide) (fun _ _ _ h => h) (by rfl) ?_ (fun _ => by assumption) ?_
                      rotate_left
                      focus (intro wq; go_simp; try (with_reducible rfl))
                      try simp only [Act.put, List.setIfInBounds_toArray, List.set_cons_zero, List.set_cons_succ]
                      refine wpAnyZ_load 11 (v := ?_) rfl (by kernel_rfl) (by kernel_rfl) (by kernel_rfl) (by kernel_rfl) (by kernel_rfl) (fun _ _ _ h => h) (by rfl) ?_ (by assumption) ?_
                      rotate_left
                      focus (intro wq hq; (try dsimp only at hq); go_split_ands; go_simp; try (with_reducible rfl))
                      try simp only [Act.put, List.setIfInBounds_toArray, List.set_cons_zero, List.set_cons_succ]
                      refine wpAnyZ_pure 12 (v := ?_) rfl (by kernel_rfl) (by kernel_rfl) (by kernel_rfl) (by decide) (fun _ _ _ h => h) (by rfl) ?_ (fun _ => by assumption) ?_
                      rotate_left
                      focus (intro wq; go_simp; try (with_reducible rfl))
                      try simp only [Act.put, List.setIfInBounds_toArray, List.set_cons_zero, List.set_cons_succ]
                      refine wpAnyZ_pure 13 (v := ?_) rfl (by kernel_rfl) (by kernel_rfl) (by kernel_rfl) (by decide) (fun _ _ _ h => h) (by rfl) ?_ (fun _ => by assumption) ?_
                      rotate_left
                      focus (intro wq; go_simp; try (with_reducible rfl))
                      try simp only [Act.put, List.setIfInBounds_toArray, List.set_cons_zero, List.set_cons_succ]
                      refine wpAnyZ_load 14 (v := ?_) rfl (by kernel_rfl) (by kernel_rfl) (by kernel_rfl) (by kernel_rfl) (by kernel_rfl) (fun _ _ _ h => h) (by rfl) ?_ (by assumption) ?_
                      rotate_left
                      focus (intro wq hq; (try dsimp only at hq); go_split_ands; go_simp; try (with_reducible rfl))
                      try simp only [Act.put, List.setIfInBounds_toArray, List.set_cons_zero, List.set_cons_succ]
                      refine wpAnyZ_pure 16 (v := ?_) rfl (by kernel_rfl) (by kernel_rfl) (by kernel_rfl) (by decide) (fun _ _ _ h => h) (by rfl) ?_ (fun _ => by assumption) ?_
                      rotate_left
                      focus (intro wq; go_simp; try (with_reducible rfl))
                      try simp only [Act.put, List.setIfInBounds_toArray, List.set_cons_zero, List.set_cons_succ]
                      refine wpAnyZ_pure 17 (v := ?_) rfl (by kernel_rfl) (by kernel_rfl) (by kernel_rfl) (by decide) (fun _ _ _ h => h) (by rfl) ?_ (fun _ => by assumption) ?_
                      rotate_left
                      focus (intro wq; go_simp; try (with_reducible rfl))
                      try simp only [Act.put, List.setIfInBounds_toArray, List.set_cons_zero, List.set_cons_succ]
                      refine wpAnyZ_pure 18 (v := ?_) rfl (by kernel_rfl) (by kernel_rfl) (by kernel_rfl) (by decide) (fun _ _ _ h => h) (by rfl) ?_ (fun _ => by assumption) ?_
                      rotate_left
                      focus (intro wq; go_simp; try (with_reducible rfl))
                      try simp only [Act.put, List.setIfInBounds_toArray, List.set_cons_zero, List.set_cons_succ]
                      refine wpAnyZ_load 19 (v := ?_) rfl (by kernel_rfl) (by kernel_rfl) (by kernel_rfl) (by kernel_rfl) (by kernel_rfl) (fun _ _ _ h => h) (by rfl) ?_ (by assumption) ?_
                      rotate_left
                      focus (intro wq hq; (try dsimp only at hq); go_split_ands; go_simp; try (with_reducible rfl))
                      try simp only [Act.put, List.setIfInBounds_toArray, List.set_cons_zero, List.set_cons_succ]
                      refine wpAnyZ_one 15 rfl (by kernel_rfl) (fun K' hK => ?_)
                      go_simp
                      go_at_call 84; refine Calls.mono (HNz.out _) ?_; rintro e w4 ⟨rfl, hB⟩; have HB4 : Aside0 (Below wr.heap.size wr w4) := ⟨below_step (below_drew1 (Below.refl _ _)) hB⟩; have cP4 := pw_cell_below HB4.out cP; have cM4 := pw_cell_below HB4.out cM; have cD4 := pw_cell_below HB4.out cD; have hx4 := pw_cell_below HB4.out hx; have hy4 := pw_cell_below HB4.out hy; have hxt4 := pw_cell_below HB4.out hxt; clear hB
                      refine hK.out _ _ (fun _ => ⟨cP4, cM4, cD4, hx4, hy4, hxt4⟩) ?_
                      clear hK K'
                      try simp only [Act.put, List.setIfInBounds_toArray, List.set_cons_zero, List.set_cons_succ]
                      refine wpAnyZ_one 20 rfl (by kernel_rfl) (fun K' hK => ?_)
                      go_simp
                      go_at_call 145; refine Calls.mono (HAd1.out _ HB4.out) ?_; rintro e w5 ⟨v5, rfl, hO, hB⟩; obtain ⟨A5, c5, rfl, hc5, hC5⟩ := hO.slice; have HA5 := Aside0.mk (hO.apt (HPi.out.below HB4.out) (Nat.le_refl _)); have HI5 := Aside0.mk (fun b hb => Nat.le_trans HB4.out.size (hO.base_le b hb)); have HC5 := Aside0.mk hC5; have Hc5 := Aside0.mk hc5; have HB5 : Aside0 (Below wr.heap.size wr w5) := ⟨below_later HB4.out HB4.out.size hB⟩; have cP5 := pw_cell_below HB5.out cP; have cM5 := pw_cell_below HB5.out cM; have cD5 := pw_cell_below HB5.out cD; have hx5 := pw_cell_below HB5.out hx; have hy5 := pw_cell_below HB5.out hy; have hxt5 := pw_cell_below HB5.out hxt; clear hO hB hC5 hc5
                      refine hK.out _ _ (fun _ => ⟨cP5, cM5, cD5, hx5, hy5, hxt5⟩) ?_
                      clear hK K'
                      try simp only [Act.put, List.setIfInBounds_toArray, List.set_cons_zero, List.set_cons_succ]
                      have hfp5 : w5.frozen? ⟨g, i, none⟩ = false := (HB5.out.frozen (World.block_lt_of_cell? wr _ hx)).trans hfx
                      refine wpAnyZ_pure 21 (v := ?_) rfl (by kernel_rfl) (by kernel_rfl) (by kernel_rfl) (by decide) (fun _ _ _ h => h) (by rfl) ?_ (fun _ => ⟨cP5, cM5, cD5, hx5, hy5, hxt5⟩) ?_
                      rotate_left
                      focus (intro wq; go_simp; try (with_reducible rfl))
                      try simp only [Act.put, List.setIfInBounds_toArray, List.set_cons_zero, List.set_cons_succ]
                      refine wpAnyZ_one 22 rfl (by kernel_rfl) (fun K' hK => ?_)
                      go_simp
                      refine hK.out _ _ (unlistedZ (by kernel_rfl)) ?_
                      clear hK K'
                      try simp only [Act.put, List.setIfInBounds_toArray, List.set_cons_zero, List.set_cons_succ]
                      refine wpAnyZ_done (by kernel_rfl) ?_ _
                      obtain ⟨cs5, hcs5⟩ := (HOi.out.below HB5.out).blk g rfl (by rw [HFl.out]; omega)
                      have hO6 := (HOi.out.below HB5.out).set (k := i) (by rw [HFl.out]; exact hiN) (⟨A5, c5, rfl, Hc5.out, HC5.out⟩ : Rd w5 (.slice A5 r2.length c5) r2) (fun b hb => Nat.le_trans HBi.out.size (HI5.out b hb))
                      rw [HSt.out] at hO6
                      have HO6 := Aside0.mk hO6
                      have HP6 := Aside0.mk ((HPi.out.below HB5.out).setRow hcs5 i (.slice A5 r2.length c5))
                      have HA6 := Aside0.mk ((HAi.out.below HOi.out HFl.out HB5.out).set (HOi.out.below HB5.out) HFl.out hiN HA5.out)
                      have HB6 := Aside0.mk ((below_later HBi.out HBi.out.size HB5.out).setCell (p := ⟨g, i, none⟩) hg (.slice A5 r2.length c5))
                      clear hO6 hcs5
                      go_wp2_with (fail)
                      go_roundw
                      case rel => exact ⟨i + 1, by go_num, by omega, HO6, HP6, HA6, HB6⟩
                      case measure => simp [intOf]; omega
                · obtain rfl : i = N := by omega
                  rw [QN.out] at HOi
                  obtain ⟨A9, c9, e9, -, -⟩ := HPi.out.slice
                  obtain ⟨nb, hnb⟩ : ∃ m, pv.length = m := ⟨_, rfl⟩
                  rw [hnb] at e9
                  subst e9
                  have HNb : Aside0 (nb ≤ 1000) := ⟨by omega⟩
                  have HNe := Aside0.mk hnb
                  have hba := below_alloc (Below.refl wr.heap.size wr) (.cells #[.int .i64 (cc : Int)] 3)
                  have HOT : Aside0 (∀ j, j < i → 0 < (T.getD j []).length) := ⟨fun j hj => by
                    have h := HTg.out j hj
                    have h2 := (F52.out _ (getD_mem_rows (i := j) (by rw [F12.out]; exact hj))).1
                    rw [h]
                    split
                    · unfold clearRow
                      split
                      · rw [addToZ_length, h2]; omega
                      · rw [h2]; omega
                    · rw [h2]; omega⟩
                  clear hnb hba
                  go_wp2_with ((with_reducible refine gate_builtin (b := .append) (xs := #[.tmp 129, .tmp 131]) rfl ?_); at_builtin; refine append_own4 (w0 := w0) w0.heap.size rfl (.tmp 129) (.tmp 131) rfl (v := .slice A9 nb c9) (xs := pv) (cc : Int) rfl rfl HPi.out HBi.out HBi.out.size (by have := HNb.out; have := HNe.out; omega) ?_; intro v5 w5 h5 hb5 hg5 hat5; have HO7 := Aside0.mk (HOi.out.grown (by rw [HTl.out]; exact F12.out) HAi.out HPi.out hg5); have HA7 := Aside0.mk (Apt.grown HOi.out (by rw [HTl.out]; exact F12.out) HAi.out HPi.out hg5 HOT.out hat5); have HP7 := Aside0.mk h5; have HB7 := Aside0.mk hb5; clear h5 hb5 hg5 hat5)
                  go_roundw
                  case rel => exact ⟨cc + 1, t + 1, T, pv ++ [(cc : Int)], by go_num, by go_num, by omega, HRs, HO7, HP7, HA7, HB7⟩
                  case measure => simp [intOf]; omega
        · obtain rfl : k = N := by omega
          have HR2 : Aside0 (RR (cc + 1) t l pv) := ⟨by
            have h := HR.out
            rw [← HRR.out] at h ⊢
            exact Reach.skip h (by rw [F1.out]; exact ht) (fun j h1 h2 => HZ.out j h1 (by rw [F1.out] at h2; exact h2))⟩
          go_wp2
          go_roundw
          case rel => exact ⟨cc + 1, t, l, pv, by go_num, by first | rfl | go_num, by omega, HR2, HO, HP, HAp, HB⟩
          case measure => simp [intOf]; omega
    · have hend : cc = n ∨ t = N := by omega
      have Hend := Aside0.mk hend
      clear hend
      by_cases hc : cc < n
      · obtain rfl : t = N := by omega
        go_wp2
        go_ret2
        exact ⟨⟨_, _, l, _, pv, t, cc, rfl, HO.out.lower HB0.out.size, Hc1.out, HP.out.lower HB0.out.size, HR.out, hcn, by omega⟩, below_later HB0.out HB0.out.size HB.out⟩
      · obtain rfl : cc = n := by omega
        go_wp2
        go_ret2
        exact ⟨⟨_, _, l, _, pv, t, cc, rfl, HO.out.lower HB0.out.size, Hc1.out, HP.out.lower HB0.out.size, HR.out, hcn, by omega⟩, below_later HB0.out HB0.out.size HB.out⟩

end Go.Proofs.Yticgblagimmlfaa
