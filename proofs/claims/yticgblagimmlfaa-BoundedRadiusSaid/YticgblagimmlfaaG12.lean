/- multiply. -/
import Derived.Test.YticgblagimmlfaaG11
import Derived.Laws.CopyOwn
import Derived.Deep.RegionHeld3
namespace Go.Proofs.Yticgblagimmlfaa
open Go.RowKit Go.Proofs.YticgblagimmlfaaW.PrintWords Go.Proofs.YticgblagimmlfaaW.PrintLast Go.Proofs.YticgblagimmlfaaW.PrintMore
set_option linter.unusedVariables false
set_option linter.unusedSimpArgs false

/-! ### a row's block; a row moved up by one -/
theorem Own.block {w : World} {base g n cap : Nat} {l : List Int} (h : Own w base (.slice (some ⟨g, 0, none⟩) n cap) l) (hp : 0 < n) :
    ∃ cur : Array Value, w.heap[g]? = some (.cells cur 3 (0, 0)) ∧ n ≤ cap ∧ cap ≤ maxLen ∧ cur.size = cap ∧ cur.toList.take n = l.map (Value.int .i64) ∧ n = l.length ∧ base ≤ g := by
  have hn := h.reads.1
  have ho := Kd.own_of_R (enc := Value.int .i64) h.out
  obtain ⟨h1, h2⟩ := ho
  rcases h2 with ⟨h2, _⟩ | ⟨g', cap', cur, e, hb, hh, hc1, hc2, hcs, ht⟩
  · cases h2
  · cases e
    refine ⟨cur, hh, hc1, hc2, by simpa using hcs, ?_, hn, hb⟩
    rw [Nat.mul_one] at ht
    exact ht
theorem Own.of_block {w : World} {base g n cap : Nat} {l : List Int} {cur : Array Value} (hh : w.heap[g]? = some (.cells cur 3 (0, 0))) (hc1 : n ≤ cap) (hc2 : cap ≤ maxLen) (hcs : cur.size = cap)
    (ht : cur.toList.take n = l.map (Value.int .i64)) (hn : n = l.length) (hb : base ≤ g) : Own w base (.slice (some ⟨g, 0, none⟩) n cap) l := by
  subst hn
  refine ⟨Kd.R_of_own (enc := Value.int .i64) ⟨by simp [encs], .inr ⟨g, cap, cur, rfl, hb, hh, hc1, hc2, by simpa using hcs, ?_⟩⟩ (fun _ _ => trivial)⟩
  rw [Nat.mul_one]; exact ht

section
variable {ops : Array Oper} {rest : List Oper} {o : Oper} {a : Act} {Q : Exit → Act → World → Prop}
/-- copy(out[1:], out[:n-1]): the row is moved up by one. -/
theorem copy_up {w w0 : World} {base g n cap : Nat} {l : List Int} (hgd : o.guard = none) (d s : Operand) (ho : o.op = .call { callee := .builtin .copy, args := #[d, s], argTypes := #[25, 25] })
    (h : Own w base (.slice (some ⟨g, 0, none⟩) n cap) l) (hp : 1 ≤ n) {X : Option Addr} {c1 : Nat} (hX : X = if cap = 1 then some ⟨g, 0, none⟩ else some ⟨g, 1, none⟩)
    (hd : a.eval d = .slice X (n - 1) c1) (hs : a.eval s = .slice (some ⟨g, 0, none⟩) (n - 1) cap) (hB : Below base w0 w)
    (hk : ∀ w', Own w' base (.slice (some ⟨g, 0, none⟩) n cap) (l.getD 0 0 :: l.take (n - 1)) → Below base w0 w' → wpList Try.prog ops Q rest (a.put o.dst (goInt ((l.take (n - 1)).map (Value.int .i64)).length)) w') :
    wpList Try.prog ops Q (o :: rest) a w := by
  obtain ⟨cur, hh, hc1, hc2, hcs, ht, hn, hb⟩ := h.block hp
  have hcl : ((l.take (n - 1)).map (Value.int .i64)).length = n - 1 := by simp; omega
  refine wpList_copy_splice hgd d s 25 25 ho 3 Try.underlying25 (by kernel_rfl) X (some ⟨g, 0, none⟩) (n - 1) c1 (n - 1) cap hd hs g 1 cur.toList 3 (by simpa using hh) ((l.take (n - 1)).map (Value.int .i64)) (by rw [hcl]; exact (Nat.min_self _).symm) ?_ ?_ ?_ base w0 hB hb ?_
  · intro hpos
    rw [hcl] at hpos
    refine ⟨by rw [hX, if_neg (by omega)], _, rfl, fun j v hj => ?_⟩
    have hj' : j < n - 1 := by have := (List.getElem?_eq_some_iff.1 hj).1; omega
    have hc := (h.cell' hn j (by omega)).1
    have ha : (⟨g, 0, none⟩ : Addr).add j = ⟨g, j, none⟩ := by have := add_plain g j; exact this
    rw [ha, hc]
    rw [List.getElem?_map, List.getElem?_take, if_pos hj'] at hj
    rw [List.getD_eq_getElem?_getD]
    cases hl : l[j]? with
    | none => rw [hl] at hj; simp at hj
    | some x => rw [hl] at hj; simpa using hj
  · rw [hcl, Array.length_toList]; omega
  · intro v hv
    obtain ⟨x, _, rfl⟩ := List.mem_map.1 hv
    rfl
  · intro w' hh' hB'
    refine hk w' (Own.of_block hh'.out hc1 hc2 ?_ ?_ ?_ hb) hB'
    · rw [List.size_toArray, length_splice _ _ _ (by rw [hcl, Array.length_toList]; omega), Array.length_toList]; exact hcs
    · obtain ⟨m, rfl⟩ : ∃ m, n = m + 1 := ⟨n - 1, by omega⟩
      simp only [Nat.add_sub_cancel] at hcl ⊢
      cases hcu : cur.toList with
      | nil =>
        have := Array.length_toList (xs := cur)
        rw [hcu] at this
        simp at this
        omega
      | cons c0 cr =>
        rw [hcu] at ht
        cases l with
        | nil => simp at hn
        | cons l0 lr =>
          simp only [List.take_succ_cons, List.map_cons, List.cons.injEq] at ht
          simp only [splice, List.take_succ_cons, List.take_zero, List.cons_append, List.nil_append, List.map_cons, List.getD_cons_zero]
          rw [ht.1, List.take_append_of_le_length (by omega), List.take_of_length_le (by omega)]
    · simp only [List.length_cons, List.length_take]; omega
end

/-- The description of a field at block b. -/
structure FAt (w : World) (b : Nat) (P M : Int) (A : Option Addr) (n c : Nat) : Prop where
  p : w.cell? ⟨b, 0, none⟩ = some (.int .i64 P)
  m : w.cell? ⟨b, 1, none⟩ = some (.int .i64 M)
  mod : w.cell? ⟨b, 2, none⟩ = some (.slice A n c)
theorem FAt.below {w w1 : World} {b : Nat} {P M : Int} {A : Option Addr} {n c : Nat} (h : FAt w b P M A n c) (hb : Below w.heap.size w w1) : FAt w1 b P M A n c :=
  ⟨pw_cell_below hb h.p, pw_cell_below hb h.m, pw_cell_below hb h.mod⟩
theorem FAt.new (w : World) (P M : Int) (A : Option Addr) (n c : Nat) : FAt (w.alloc (.cells #[.int .i64 P, .int .i64 M, .slice A n c] 27)) w.heap.size P M A n c :=
  ⟨(blk_cell (heap_alloc_new w _) 0).trans rfl, (blk_cell (heap_alloc_new w _) 1).trans rfl, (blk_cell (heap_alloc_new w _) 2).trans rfl⟩

theorem multiply_any {w : World} {A : Option Addr} {c : Nat} (P : Int) (M : Nat) {Mod : List Int} (hl : Kd.C (Kd.int .i64) w A Mod.length Mod) (hP : 2 ≤ P) (hP2 : P ≤ 256) (hM : 1 ≤ M) (hM2 : M ≤ 8) (hq : P ^ M ≤ 256)
    (hMod : 1 < M → Mod.length = M) (hm : ∀ d ∈ Mod, 0 ≤ d ∧ d < P) (x y : Int) (hx : 0 ≤ x) (hx2 : x ≤ 256) (hy : 0 ≤ y) (hy2 : y ≤ 256) :
    Calls Try.prog 102 #[.agg #[.int .i64 P, .int .i64 M, .slice A Mod.length c], .int .i64 x, .int .i64 y] w fun e w' => e = .returned (.int .i64 (mulZ P M Mod x y)) ∧ Below w.heap.size w w' := by
  have HL := Aside0.mk hl
  have HMod := Aside0.mk hMod
  have HM := Aside0.mk hm
  have HQ := Aside0.mk hq
  have hF0 := FAt.new w P M A Mod.length c
  obtain ⟨w0, hw0⟩ : ∃ w0, w.alloc (.cells #[.int .i64 P, .int .i64 M, .slice A Mod.length c] 27) = w0 := ⟨_, rfl⟩
  have hB0 : Below w.heap.size w w0 := by rw [← hw0]; exact below_alloc (Below.refl _ _) _
  rw [hw0] at hF0
  have HF := Aside0.mk hF0
  have HB0 := Aside0.mk hB0
  have HW := Aside0.mk hw0
  clear hl hMod hm hq hF0 hB0 hw0
  go_enter Try.func102, Try.ntmps102
  go_wp2
  rw [HW.out]
  obtain ⟨b, hb⟩ : ∃ b, w.heap.size = b := ⟨_, rfl⟩
  rw [hb] at HF ⊢
  have Hb := Aside0.mk hb
  clear hb
  have cP := HF.out.p
  have cM := HF.out.m
  have hDa := fun (w1 : World) => digitsOf_any x P M hx (by omega) hP (by omega) w1
  have hDb := fun (w1 : World) => digitsOf_any y P M hy (by omega) hP (by omega) w1
  go_region_held3 (fun w' => w'.cell? ⟨b, 0, none⟩ = some (.int .i64 P) ∧ w'.cell? ⟨b, 1, none⟩ = some (.int .i64 M)) (first | exact ⟨‹_›, ‹_›⟩ | go_keep)
    (first
      | (go_at_call 135; (with_reducible refine (hDa _).mono ?_); rintro e w1 ⟨v1, rfl, hO1, hB1⟩; have hb1 := Below.trans (below_drew (Below.refl w0.heap.size w0)) hB1; have cP1 := (HF.out.below hb1).p; have cM1 := (HF.out.below hb1).m; have HB1 := Aside0.mk hb1; have HO1 := Aside0.mk hO1; clear hb1 hO1 hB1)
      | (go_at_call 135; (with_reducible refine (hDb _).mono ?_); rintro e w2 ⟨v2, rfl, hO2, hB2⟩; have hb2 := below_later HB1.out HB1.out.size hB2; have cP2 := (HF.out.below hb2).p; have cM2 := (HF.out.below hb2).m; have HB2 := Aside0.mk hb2; have HO2 := Aside0.mk hO2; have HO1b := Aside0.mk (HO1.out.below hB2); clear hb2 hO2 hB2))
  have hD := digs_length P M x
  have hE := digs_length P M y
  have hEm := digs_mem P hP M y
  have hDm := digs_mem P hP M x
  obtain ⟨Da, hDa'⟩ : ∃ l, digs P M x = l := ⟨_, rfl⟩
  obtain ⟨Db, hDb'⟩ : ∃ l, digs P M y = l := ⟨_, rfl⟩
  have hmulz : mulZ P M Mod x y = val P (Db.foldr (mrow P M Mod Da) (List.replicate M 0)) := by unfold mulZ; rw [hDa', hDb']
  rw [hDa'] at hD hDm HO1b
  rw [hDb'] at hE hEm HO2
  obtain ⟨A1, c1, e1, hc1, hC1⟩ := HO1b.out.slice
  obtain ⟨A2, c2, e2, hc2, hC2⟩ := HO2.out.slice
  subst e1 e2
  have HDl := Aside0.mk hD
  have HEl := Aside0.mk hE
  have HEm := Aside0.mk hEm
  have HDm := Aside0.mk hDm
  have HMz := Aside0.mk hmulz
  have HC1 := Aside0.mk hC1
  have HC2 := Aside0.mk hC2
  have HF2 := Aside0.mk (HF.out.below HB2.out)
  have HL2 := Aside0.mk (Kd.C_below HL.out (below_later HB0.out HB0.out.size HB2.out))
  clear hD hE hEm hDm hDa' hDb' hmulz hC1 hC2 HO1b HO2 HO1 hDa hDb cP cM cP1 cM1
  go_wp2_with ((with_reducible refine gate_dst (N := 28) rfl ?_); refine make_own (n := M) rfl (N := 28) rfl _ _ rfl rfl rfl (by omega) ?_; intro v w3 hO hB; have HO := Aside0.mk hO; have HB := Aside0.mk hB; have cM3 := (HF2.out.below hB).m; clear hO hB)
  have hz0 : (List.replicate M (0 : Int)).length = M := List.length_replicate
  obtain ⟨Z, hZ⟩ : ∃ Z : List Int, List.replicate M 0 = Z := ⟨_, rfl⟩
  rw [hZ] at HO HMz hz0
  have HZl := Aside0.mk hz0
  have HZm : Aside0 (∀ d ∈ Z, 0 ≤ d ∧ d < P) := ⟨by rw [← hZ]; intro d hd; rw [List.eq_of_mem_replicate hd]; omega⟩
  clear hz0 hZ cM3
  go_loopw [10] (fun v10 w' => ∃ (k : Nat) (O : List Int), v10 = .int .i64 ((k : Int) - 1) ∧ k ≤ M ∧ Aside0 (O.length = M) ∧ Aside0 (∀ d ∈ O, 0 ≤ d ∧ d < P) ∧ Aside0 (O = (Db.drop k).foldr (mrow P M Mod Da) Z) ∧ Aside0 (Own w' w2.heap.size v O) ∧ Aside0 (Below w2.heap.size w2 w')) (fun v10 _ => (intOf v10 + 1).toNat)
  case atStart => exact ⟨M, Z, rfl, Nat.le_refl _, HZl, HZm, ⟨by rw [List.drop_of_length_le (by rw [HEl.out]; exact Nat.le_refl _)]; rfl⟩, HO, HB⟩
  case round =>
    clear HO HB HZl HZm cP2 cM2
    obtain ⟨k, O, rfl, hk, HOl, HOm, HOe, HO, HB⟩ := hrel
    have HFr := HF2.out.below HB.out
    have cP := HFr.p
    have cM := HFr.m
    have cMod := HFr.mod
    clear HFr
    by_cases hk0 : 0 < k
    · obtain ⟨i, rfl⟩ : ∃ i, k = i + 1 := ⟨k - 1, by omega⟩
      obtain ⟨s, cap, es, hs1, hs2⟩ := HO.out.form (by rw [HOl.out]; omega)
      rw [HOl.out] at es
      subst es
      obtain ⟨ht1, ht2⟩ := HO.out.cell' HOl.out.symm (M - 1) (by omega)
      obtain ⟨top, htop⟩ : ∃ t, O.getD (M - 1) 0 = t := ⟨_, rfl⟩
      rw [htop] at ht1
      obtain ⟨htp1, htp2⟩ := getD_range P hP O HOm.out (M - 1)
      rw [htop] at htp1 htp2
      obtain ⟨i0, hi, _, hsz, _⟩ := info_parts info3
      have hcutA := cut_from (P := Try.prog) 25 3 .i64 Try.underlying25 hi 1 hsz (some ⟨s, 0, none⟩) M cap 1 (by omega) (by omega)
      have hcutB := cut_to (P := Try.prog) 25 3 .i64 Try.underlying25 hi (some ⟨s, 0, none⟩) M cap ((M : Int) - 1) (by omega) (by omega) (by have := HO.out.reads; omega)
      have htn : ((M : Int) - 1).toNat = M - 1 := by omega
      rw [htn] at hcutB
      have htn1 : ((1 : Int)).toNat = 1 := rfl
      rw [htn1] at hcutA
      obtain ⟨X, hX⟩ : ∃ X, (if cap = 1 then some (⟨s, 0, none⟩ : Addr) else Option.map (fun x => x.add (1 * 1)) (some (⟨s, 0, none⟩ : Addr))) = X := ⟨_, rfl⟩
      rw [hX] at hcutA
      have hXX : X = if cap = 1 then some ⟨s, 0, none⟩ else some ⟨s, 1, none⟩ := by rw [← hX]; rfl
      have HX := Aside0.mk hXX
      have Htop := Aside0.mk htop
      clear hi hsz hX hXX htop htn htn1
      go_wp2
      refine wp_region_quiet_tail 7 (by kernel_rfl) (by kernel_rfl) ?_
      simp only [List.take_succ_cons, List.take_zero, List.drop_succ_cons, List.drop_zero]
      repeat (first | go_big_quiet_step (fail) | quiet_step (fail))
      refine wpQuiet_nil ?_
      intro _ hw'
      obtain ⟨nq, hw''⟩ := hw'
      subst hw''
      refine copy_up (n := M) (cap := cap) (l := O) (g := s) rfl (.tmp 43) (.tmp 48) rfl (HO.out.drewN nq) hM HX.out rfl rfl (pw_below_drewN HB.out nq) ?_
      intro w5 hO5 hB5
      have hsl : (O.getD 0 0 :: O.take (M - 1)).length = M := by rw [List.length_cons, List.length_take, HOl.out]; omega
      obtain ⟨hc50, hf50⟩ := hO5.cell' hsl.symm 0 (by omega)
      have hO6 := hO5.set hsl.symm 0 0
      rw [List.set_cons_zero] at hO6
      have hsl2 : ((0 : Int) :: O.take (M - 1)).length = M := by rw [List.length_cons, List.length_take, HOl.out]; omega
      have HO6 := Aside0.mk hO6
      have HB6 := Aside0.mk (hB5.setCell (p := ⟨s, 0, none⟩) hs1 (.int .i64 0))
      have Hsl := Aside0.mk hsl2
      obtain ⟨cl, hcl⟩ : ∃ n, goInt ((O.take (M - 1)).map (Value.int .i64)).length = n := ⟨_, rfl⟩
      rw [hcl]
      clear hcl hsl hsl2 hO5 hB5 hO6 cP cM cMod HO HB ht1 ht2 hcutA hcutB
      obtain ⟨bi, hbi⟩ : ∃ x, Db.getD i 0 = x := ⟨_, rfl⟩
      obtain ⟨hb1, hb2⟩ := getD_range P hP Db HEm.out i
      rw [hbi] at hb1 hb2
      obtain ⟨S, hS⟩ : ∃ S : List Int, (0 : Int) :: O.take (M - 1) = S := ⟨_, rfl⟩
      have hSm : ∀ d ∈ S, 0 ≤ d ∧ d < P := by
        rw [← hS]
        intro d hd
        rcases List.mem_cons.1 hd with rfl | hd
        · omega
        · exact HOm.out d (List.mem_of_mem_take hd)
      rw [hS] at HO6 Hsl
      obtain ⟨T, hT⟩ : ∃ T : List Int, (List.range M).map (mterm P M Mod Da top bi) = T := ⟨_, rfl⟩
      obtain ⟨F, hF⟩ : ∃ F : Int → Int → Int, (fun o t => (o + t) % P) = F := ⟨_, rfl⟩
      have hTl : T.length = M := by rw [← hT]; simp
      have hrow : mrow P M Mod Da bi O = updZ F S T := by unfold mrow; rw [Htop.out, hS, hT, hF]
      have hdrop : Db.drop i = bi :: Db.drop (i + 1) := by
        rw [List.drop_eq_getElem_cons (by rw [HEl.out]; omega), ← hbi]
        simp [List.getD_eq_getElem?_getD, HEl.out, show i < M from by omega]
      have hnew : updZ F S T = (Db.drop i).foldr (mrow P M Mod Da) Z := by
        rw [hdrop, List.foldr_cons, ← HOe.out, hrow]
      have hnm := mrow_mem P hP M Mod Da bi O HOl.out hM
      have hnl := mrow_length P M Mod Da bi O HOl.out hM
      rw [hrow] at hnm hnl
      have HTl := Aside0.mk hTl
      have HT := Aside0.mk hT
      have HFn := Aside0.mk hF
      have HSm := Aside0.mk hSm
      have Hnew := Aside0.mk hnew
      have Hnm := Aside0.mk hnm
      have Hnl := Aside0.mk hnl
      have Hbi := Aside0.mk hbi
      have hiM : i < M := by omega
      clear hbi hS hSm hT hF hTl hrow hdrop hnew hnm hnl HOe HOm HOl Htop HX
      go_wp2
      go_loopw [54] (fun v54 w' => ∃ (j : Nat), v54 = .int .i64 j ∧ j ≤ M ∧ Aside0 (Own w' w2.heap.size (.slice (some ⟨s, 0, none⟩) M cap) (updZ F S (T.take j))) ∧ Aside0 (Below w2.heap.size w2 w')) (fun v54 _ => M - (intOf v54).toNat)
      case atStart => exact ⟨0, rfl, by omega, ⟨by simpa [updZ_nil] using HO6.out⟩, HB6⟩
      case round =>
        clear HO6 HB6
        obtain ⟨j, rfl, hj, HO, HB⟩ := hrel
        have HFr := HF2.out.below HB.out
        have cP := HFr.p
        have cM := HFr.m
        have cMod := HFr.mod
        clear HFr
        have hlen : (updZ F S (T.take j)).length = M := by rw [updZ_length]; exact Hsl.out
        by_cases hlj : j < M
        · obtain ⟨hcl, hfz⟩ := HO.out.cell' hlen.symm j hlj
          have hget := updZ_get F 0 j S T
          obtain ⟨o, ho⟩ : ∃ o, S.getD j 0 = o := ⟨_, rfl⟩
          obtain ⟨ho1, ho2⟩ := getD_range P hP S HSm.out j
          rw [ho] at hget ho1 ho2
          rw [hget] at hcl
          obtain ⟨low, hlow⟩ : ∃ x, lowZ M Mod j = x := ⟨_, rfl⟩
          obtain ⟨aj, haj⟩ : ∃ x, Da.getD j 0 = x := ⟨_, rfl⟩
          obtain ⟨ha1, ha2⟩ := getD_range P hP Da HDm.out j
          rw [haj] at ha1 ha2
          have hlo : 0 ≤ low ∧ low < P := by
            rw [← hlow]
            unfold lowZ
            split
            · exact getD_range P hP Mod HM.out j
            · omega
          obtain ⟨hlo1, hlo2⟩ := hlo
          have hTj : T.getD j 0 = (P - top) * low + bi * aj := by rw [← HT.out, range_map_getD _ _ _ hlj]; unfold mterm; rw [hlow, haj]
          have hstep := updZ_set F 0 j S T (by rw [HTl.out]; exact hlj) (by rw [Hsl.out]; exact hlj)
          rw [ho, hTj] at hstep
          have hm1 : (P - top) * low ≤ 256 * 256 := Int.mul_le_mul (by omega) (by omega) (by omega) (by omega)
          have hm2 : bi * aj ≤ 256 * 256 := Int.mul_le_mul (by omega) (by omega) (by omega) (by omega)
          have hm3 : 0 ≤ (P - top) * low := Int.mul_nonneg (by omega) (by omega)
          have hm4 : 0 ≤ bi * aj := Int.mul_nonneg (by omega) (by omega)
          obtain ⟨u1, hu1⟩ : ∃ x, (P - top) * low = x := ⟨_, rfl⟩
          obtain ⟨u2, hu2⟩ : ∃ x, bi * aj = x := ⟨_, rfl⟩
          have e1 : IntKind.i64.wrap (P - top) = P - top := w64 _ (by omega) (by omega)
          have e2 : IntKind.i64.wrap ((P - top) * low) = u1 := by rw [hu1]; exact w64 _ (by omega) (by omega)
          have e3 : IntKind.i64.wrap (bi * aj) = u2 := by rw [hu2]; exact w64 _ (by omega) (by omega)
          rw [hu1] at hm1 hm3
          rw [hu2] at hm2 hm4
          rw [hu1, hu2] at hstep
          have e4 : IntKind.i64.wrap (o + u1) = o + u1 := w64 _ (by omega) (by omega)
          have e5 : IntKind.i64.wrap (o + u1 + u2) = o + u1 + u2 := w64 _ (by omega) (by omega)
          obtain ⟨r, hr⟩ : ∃ r, (o + u1 + u2) % P = r := ⟨_, rfl⟩
          have e6 : Int.tmod (o + u1 + u2) P = r := by rw [Int.tmod_eq_emod_of_nonneg (by omega)]; exact hr
          have e7 : (P == 0) = false := by simp only [beq_eq_false_iff_ne]; omega
          have hFo : F o (u1 + u2) = r := by rw [← HFn.out, ← hr, Int.add_assoc]
          rw [hFo] at hstep
          have HO2 := Aside0.mk (HO.out.set hlen.symm j r)
          rw [hstep] at HO2
          obtain ⟨ad1, ea1, hx1⟩ := C_nat (Kd.C_below HC1.out HB.out) j (by rw [HDl.out]; exact hlj)
          cases ea1
          rw [haj] at hx1
          obtain ⟨ad2, ea2, hx2⟩ := C_nat (Kd.C_below HC2.out HB.out) i (by rw [HEl.out]; exact hiM)
          cases ea2
          rw [Hbi.out] at hx2
          have hjD : j < Da.length := by rw [HDl.out]; exact hlj
          have hiD : i < Db.length := by rw [HEl.out]; exact hiM
          have Hlow := Aside0.mk hlow
          have HU1 := Aside0.mk hu1
          clear hget ho haj hTj hstep hu1 hu2 hr hFo hlen HO hlow
          by_cases hM1 : 1 < M
          · have hlowe : Mod.getD j 0 = low := by rw [← Hlow.out]; unfold lowZ; rw [if_pos hM1]
            have hjMod : j < Mod.length := by rw [HMod.out hM1]; exact hlj
            obtain ⟨ad3, ea3, hx3⟩ := C_nat (Kd.C_below HL2.out HB.out) j hjMod
            cases ea3
            rw [hlowe] at hx3
            clear hlowe
            go_wp2
            refine wp_region_quiet_tail 27 (by kernel_rfl) (by kernel_rfl) ?_
            simp only [List.take_succ_cons, List.take_zero, List.drop_succ_cons, List.drop_zero]
            repeat (first | go_big_quiet_step (fail) | quiet_step (fail))
            refine wpQuiet_nil ?_
            intro _ hw'
            obtain ⟨nq, hw''⟩ := hw'
            subst hw''
            go_wp2
            go_roundw
            case rel => exact ⟨j + 1, by go_num, by omega, ⟨HO2.out.drewN _⟩, ⟨pw_below_drewN (HB.out.setCell (p := ⟨s, j, none⟩) hs1 _) _⟩⟩
            case measure => simp [intOf]; omega
          · have hlow0 : low = 0 := by rw [← Hlow.out]; unfold lowZ; rw [if_neg hM1]
            subst hlow0
            obtain rfl : u1 = 0 := by rw [← HU1.out, Int.mul_zero]
            rw [Int.add_zero] at e4 e5 e6
            clear HU1
            go_wp2
            refine wp_region_quiet_tail 27 (by kernel_rfl) (by kernel_rfl) ?_
            simp only [List.take_succ_cons, List.take_zero, List.drop_succ_cons, List.drop_zero]
            repeat (first | go_big_quiet_step (fail) | quiet_step (fail))
            refine wpQuiet_nil ?_
            intro _ hw'
            obtain ⟨nq, hw''⟩ := hw'
            subst hw''
            go_wp2
            go_roundw
            case rel => exact ⟨j + 1, by go_num, by omega, ⟨HO2.out.drewN _⟩, ⟨pw_below_drewN (HB.out.setCell (p := ⟨s, j, none⟩) hs1 _) _⟩⟩
            case measure => simp [intOf]; omega
        · obtain rfl : j = M := by omega
          rw [List.take_of_length_le (by rw [HTl.out]; exact Nat.le_refl _)] at HO
          clear hlen cP cM cMod
          go_wp2
          go_roundw
          case rel => exact ⟨i, _, rfl, by omega, Hnl, Hnm, Hnew, HO, HB⟩
          case measure => simp [intOf]
    · obtain rfl : k = 0 := by omega
      rw [List.drop_zero] at HOe
      obtain ⟨A5, c5, rfl, hc5, hC5⟩ := HO.out.slice
      have hv : val P O = mulZ P M Mod x y := by rw [HMz.out, ← HOe.out]
      have HV := Aside0.mk hv
      have HC5 := Aside0.mk hC5
      have hqO : P ^ O.length ≤ 256 := by rw [HOl.out]; exact HQ.out
      have HQO := Aside0.mk hqO
      clear hv hC5 HO hqO cM cMod
      go_wp2_with (go_at_call 136; (with_reducible refine (valueOf_any HC5.out P hP hP2 HOm.out HQO.out).mono ?_); rw [HV.out]; rintro e w' ⟨rfl, ⟨n1, rfl⟩⟩)
      go_ret
      exact ⟨rfl, pw_below_drewN (below_later (below_later HB0.out HB0.out.size HB2.out) (below_later HB0.out HB0.out.size HB2.out).size HB.out) _⟩
end Go.Proofs.Yticgblagimmlfaa
