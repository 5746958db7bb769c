/- Parts of the proof: P2, P3. -/
import Derived.Test.YticgblagimmlfaaX807
import Derived.Test.YticgblagimmlfaaX813
section
/- The program: the copy of a description. -/
namespace Go.Proofs.Yticgblagimmlfaa
open Go.RowKit Go.Proofs.YticgblagimmlfaaW.PrintWords Go.Proofs.YticgblagimmlfaaW.PrintLast Go.Proofs.YticgblagimmlfaaW.PrintMore
set_option linter.unusedVariables false
set_option linter.unusedSimpArgs false

/-- What copied returns. -/
structure CopyOut (s : GD) (w' : World) (base : Nat) (e : Ending) : Prop where mk ::
  out : ∃ (AM AX AY : Option Addr) (cM cX cY : Nat), e = .returned (.agg #[.int .i64 s.P, .int .i64 s.M, .slice AM s.Mod.length cM, .int .i64 s.K, .slice AX s.pts.length cX, .slice AY s.mults.length cY]) ∧ Own w' base (.slice AM s.Mod.length cM) s.Mod ∧ Own w' base (.slice AX s.pts.length cX) s.pts ∧ Own w' base (.slice AY s.mults.length cY) s.mults ∧ Dj (.slice AX s.pts.length cX) (.slice AY s.mults.length cY) ∧ Dj (.slice AM s.Mod.length cM) (.slice AY s.mults.length cY)
set_option maxHeartbeats 8000000 in
set_option maxRecDepth 100000 in
theorem copied_any {g : Nat} {w : World} {v : Value} {s : GD} (K : FD) (hK : s.over K) (hg : GFat w g K.D) (h : GArg w v s) (hp1 : 1 ≤ s.pts.length) (hm1 : 1 ≤ s.mults.length) (hpl : s.pts.length ≤ 1000) (hml : s.mults.length ≤ 1000) :
    Calls Try.prog 78 #[.pointer (some ⟨g, 0, none⟩), v] w fun e w' => CopyOut s w' w.heap.size e ∧ Below w.heap.size w w' := by
  obtain ⟨P, M, Mod, kk, pts, mults⟩ := s
  obtain ⟨rfl, rfl, rfl⟩ := hK
  simp only at hp1 hm1 hpl hml
  obtain ⟨A1, c1, A2, c2, A3, c3, rfl, g1, l1, g2, l2, g3, l3⟩ := h.out
  simp only at g1 l1 g2 l2 g3 l3
  have hS0 := SAt.new w ⟨K.P, (K.m : Int), K.Mod, kk, pts, mults⟩ A1 c1 A2 c2 A3 c3
  obtain ⟨w0, hw0⟩ : ∃ w0, w.alloc (.cells #[.int .i64 K.P, .int .i64 (K.m : Int), .slice A1 K.Mod.length c1, .int .i64 kk, .slice A2 pts.length c2, .slice A3 mults.length c3] 29) = w0 := ⟨_, rfl⟩
  have hB0 : Below w.heap.size w w0 := by rw [← hw0]; exact below_alloc (Below.refl _ _) _
  simp only at hS0
  rw [hw0] at hS0
  obtain ⟨w1, hw1⟩ : ∃ w1, w0.alloc (.cells #[.int .i64 0, .int .i64 0, .slice none 0 0, .int .i64 0, .slice none 0 0, .slice none 0 0] 29) = w1 := ⟨_, rfl⟩
  have hB1 : Below w0.heap.size w0 w1 := by rw [← hw1]; exact below_alloc (Below.refl _ _) _
  have hz0 : w0.heap.size = w.heap.size + 1 := by rw [← hw0]; simp
  have hz : w1.heap[w0.heap.size]? = some (.cells #[.int .i64 0, .int .i64 0, .slice none 0 0, .int .i64 0, .slice none 0 0, .slice none 0 0] 29 (0, 0)) := by rw [← hw1]; exact blk_new _ _
  rw [hz0] at hz
  have HB1 := Aside0.mk (below_later hB0 hB0.size hB1)
  have HS := Aside0.mk (hS0.below hB1)
  have HZ := Aside0.mk hz
  have HW0 := Aside0.mk hw0
  have HW1 := Aside0.mk hw1
  have HP := Aside0.mk (Kd.C_below g2 HB1.out)
  have HU := Aside0.mk (Kd.C_below g3 HB1.out)
  have HFld := Aside0.mk (fun (w2 : World) (hb : Below w1.heap.size w1 w2) => field_any K.D ((hg.below HB1.out).below hb) (by
    show K.Mod.length ≤ 1000
    by_cases h : K.m = 1
    · rw [K.one h]; exact Nat.zero_le _
    · rw [K.len (by have := K.m1; omega)]; have := K.m8; omega))
  have HP1 := Aside0.mk hp1
  have HM1 := Aside0.mk hm1
  have HPl := Aside0.mk hpl
  have HMl := Aside0.mk hml
  obtain ⟨cP, cM, cD, cK, cS, cU⟩ := HS.out
  simp only at cP cM cD cK cS cU
  have HSS : Aside0 (∀ w' : World, Below w1.heap.size w1 w' → w'.cell? ⟨w.heap.size, 3, none⟩ = some (.int .i64 kk) ∧ w'.cell? ⟨w.heap.size, 4, none⟩ = some (.slice A2 pts.length c2) ∧ w'.cell? ⟨w.heap.size, 5, none⟩ = some (.slice A3 mults.length c3)) := ⟨fun w' hb => ⟨pw_cell_below hb cK, pw_cell_below hb cS, pw_cell_below hb cU⟩⟩
  clear h hg g1 g2 g3 hS0 hB0 hB1 hw0 hw1 hz hz0 hp1 hm1 hpl hml cP cM cD
  go_enter Try.func78, Try.ntmps78
  go_upto_region 1 with (fail)
  rw [HW0.out, HW1.out]
  refine wp_region_last (S := fun w' => w'.cell? ⟨w.heap.size, 3, none⟩ = some (.int .i64 kk) ∧ w'.cell? ⟨w.heap.size, 4, none⟩ = some (.slice A2 pts.length c2) ∧ w'.cell? ⟨w.heap.size, 5, none⟩ = some (.slice A3 mults.length c3)) (L := 13) (by kernel_rfl) ⟨cK, cS, cU⟩ (fun hHeld => ?_)
  refine wpAnyZ_pure 0 (v := ?_) rfl (by kernel_rfl) (by kernel_rfl) (by kernel_rfl) (by decide) (fun _ _ _ h => h) (by rfl) ?_ (fun _ => by assumption) ?_
  rotate_left
  focus (intro wq; go_simp; try (with_reducible rfl))
  try simp only [Act.put, List.setIfInBounds_toArray, List.set_cons_zero, List.set_cons_succ]
  refine wpAnyZ_pure 2 (v := ?_) rfl (by kernel_rfl) (by kernel_rfl) (by kernel_rfl) (by decide) (fun _ _ _ h => h) (by rfl) ?_ (fun _ => by assumption) ?_
  rotate_left
  focus (intro wq; go_simp; try (with_reducible rfl))
  try simp only [Act.put, List.setIfInBounds_toArray, List.set_cons_zero, List.set_cons_succ]
  refine wpAnyZ_load 3 (v := ?_) rfl (by kernel_rfl) (by kernel_rfl) (by kernel_rfl) (by kernel_rfl) (by kernel_rfl) (fun _ _ _ h => h) (by rfl) ?_ (by assumption) ?_
  rotate_left
  focus (intro wq hq; (try dsimp only at hq); go_split_ands; go_simp; try (with_reducible rfl))
  try simp only [Act.put, List.setIfInBounds_toArray, List.set_cons_zero, List.set_cons_succ]
  refine wpAnyZ_pure 5 (v := ?_) rfl (by kernel_rfl) (by kernel_rfl) (by kernel_rfl) (by decide) (fun _ _ _ h => h) (by rfl) ?_ (fun _ => by assumption) ?_
  rotate_left
  focus (intro wq; go_simp; try (with_reducible rfl))
  try simp only [Act.put, List.setIfInBounds_toArray, List.set_cons_zero, List.set_cons_succ]
  refine wpAnyZ_load 6 (v := ?_) rfl (by kernel_rfl) (by kernel_rfl) (by kernel_rfl) (by kernel_rfl) (by kernel_rfl) (fun _ _ _ h => h) (by rfl) ?_ (by assumption) ?_
  rotate_left
  focus (intro wq hq; (try dsimp only at hq); go_split_ands; go_simp; try (with_reducible rfl))
  try simp only [Act.put, List.setIfInBounds_toArray, List.set_cons_zero, List.set_cons_succ]
  refine wpAnyZ_pure 9 (v := ?_) rfl (by kernel_rfl) (by kernel_rfl) (by kernel_rfl) (by decide) (fun _ _ _ h => h) (by rfl) ?_ (fun _ => by assumption) ?_
  rotate_left
  focus (intro wq; go_simp; try (with_reducible rfl))
  try simp only [Act.put, List.setIfInBounds_toArray, List.set_cons_zero, List.set_cons_succ]
  refine wpAnyZ_load 10 (v := ?_) rfl (by kernel_rfl) (by kernel_rfl) (by kernel_rfl) (by kernel_rfl) (by kernel_rfl) (fun _ _ _ h => h) (by rfl) ?_ (by assumption) ?_
  rotate_left
  focus (intro wq hq; (try dsimp only at hq); go_split_ands; go_simp; try (with_reducible rfl))
  try simp only [Act.put, List.setIfInBounds_toArray, List.set_cons_zero, List.set_cons_succ]
  refine wpAnyZ_gen (fun G hG => ?_)
  have HG := Aside0.mk hG
  clear hHeld hG
  have H122 : ∀ (w' : World) (AM : Option Addr) (cM : Nat) (b9 : Addr) (AX : Option Addr) (cX : Nat) (b13 : Addr) (AY : Option Addr) (cY : Nat), Aside0 (Below w1.heap.size w1 w') → Aside0 (Own w' w1.heap.size (.slice AM K.Mod.length cM) K.Mod) → Aside0 (Own w' w1.heap.size (.slice AX pts.length cX) pts) → Aside0 (Own w' w1.heap.size (.slice AY mults.length cY) mults) → Aside0 (Dj (.slice AX pts.length cX) (.slice AY mults.length cY)) → Aside0 (Dj (.slice AM K.Mod.length cM) (.slice AY mults.length cY)) → G 2 #[true, true, true, true, true, true, true, true, true, true, true, true, false, false] ⟨#[.pointer (some ⟨g, 0, none⟩), .agg #[.int .i64 K.P, .int .i64 (K.m : Int), .slice A1 K.Mod.length c1, .int .i64 kk, .slice A2 pts.length c2, .slice A3 mults.length c3], undef, .pointer (some ⟨w.heap.size, 0, none⟩), .pointer (some ⟨w.heap.size + 1, 0, none⟩), .pointer (some ⟨g, 0, none⟩), .agg #[.int .i64 K.P, .int .i64 (K.m : Int), .slice AM K.Mod.length cM], .pointer (some ⟨w.heap.size, 3, none⟩), .int .i64 kk, .slice (some b9) 0 0, .pointer (some ⟨w.heap.size, 4, none⟩), .slice A2 pts.length c2, .slice AX pts.length cX, .slice (some b13) 0 0, .pointer (some ⟨w.heap.size, 5, none⟩), .slice A3 mults.length c3, .slice AY mults.length cY, undef], []⟩ w' := by
    intro w' AM cM b9 AX cX b13 AY cY HB HM HX HY DXY DMY
    rw [← HG.out]
    have HZ2 := Aside0.mk (blk_below HZ.out HB.out)
    have z0 := blk_cell HZ2.out 0
    have z1 := blk_cell HZ2.out 1
    have z2 := blk_cell HZ2.out 2
    have z3 := blk_cell HZ2.out 3
    have z4 := blk_cell HZ2.out 4
    have z5 := blk_cell HZ2.out 5
    have f0 := blk_frozen HZ2.out 0
    have f1 := blk_frozen HZ2.out 1
    have f2 := blk_frozen HZ2.out 2
    have f3 := blk_frozen HZ2.out 3
    have f4 := blk_frozen HZ2.out 4
    have f5 := blk_frozen HZ2.out 5
    simp at z0 z1 z2 z3 z4 z5
    refine wpAnyZ_one 12 rfl (by kernel_rfl) (fun K' hK => ?_)
    go_simp
    refine hK.out _ _ (fun _ => HSS.out _ HB.out) ?_
    clear hK K'
    try simp only [Act.put, List.setIfInBounds_toArray, List.set_cons_zero, List.set_cons_succ]
    refine wpAnyZ_one 13 rfl (by kernel_rfl) (fun K' hK => ?_)
    go_simp
    refine hK.out _ _ (unlistedZ (by kernel_rfl)) ?_
    clear hK K'
    try simp only [Act.put, List.setIfInBounds_toArray, List.set_cons_zero, List.set_cons_succ]
    refine wpAnyZ_done (by kernel_rfl) ?_ _
    go_wp2_with (fail)
    have hb := blk_set (blk_set (blk_set (blk_set (blk_set (blk_set HZ2.out 0 (.int .i64 K.P)) 1 (.int .i64 (K.m : Int))) 2 (.slice AM K.Mod.length cM)) 3 (.int .i64 kk)) 4 (.slice AX pts.length cX)) 5 (.slice AY mults.length cY)
    refine bodyPost_ret (results_cell_row rfl _ _ _ _ _ _ _ rfl hb Try.underlying29 rfl (by kernel_rfl)) rfl ?_
    have hlt : w.heap.size + 1 < w1.heap.size := blk_lt HZ.out
    have hle : w.heap.size ≤ w.heap.size + 1 := Nat.le_succ _
    have hO1 := (((((((HM.out).far (p := ⟨w.heap.size + 1, 0, none⟩) hlt (.int .i64 K.P)).far (p := ⟨w.heap.size + 1, 1, none⟩) hlt (.int .i64 (K.m : Int))).far (p := ⟨w.heap.size + 1, 2, none⟩) hlt (.slice AM K.Mod.length cM)).far (p := ⟨w.heap.size + 1, 3, none⟩) hlt (.int .i64 kk)).far (p := ⟨w.heap.size + 1, 4, none⟩) hlt (.slice AX pts.length cX)).far (p := ⟨w.heap.size + 1, 5, none⟩) hlt (.slice AY mults.length cY)).lower HB1.out.size
    have hO2 := (((((((HX.out).far (p := ⟨w.heap.size + 1, 0, none⟩) hlt (.int .i64 K.P)).far (p := ⟨w.heap.size + 1, 1, none⟩) hlt (.int .i64 (K.m : Int))).far (p := ⟨w.heap.size + 1, 2, none⟩) hlt (.slice AM K.Mod.length cM)).far (p := ⟨w.heap.size + 1, 3, none⟩) hlt (.int .i64 kk)).far (p := ⟨w.heap.size + 1, 4, none⟩) hlt (.slice AX pts.length cX)).far (p := ⟨w.heap.size + 1, 5, none⟩) hlt (.slice AY mults.length cY)).lower HB1.out.size
    have hO3 := (((((((HY.out).far (p := ⟨w.heap.size + 1, 0, none⟩) hlt (.int .i64 K.P)).far (p := ⟨w.heap.size + 1, 1, none⟩) hlt (.int .i64 (K.m : Int))).far (p := ⟨w.heap.size + 1, 2, none⟩) hlt (.slice AM K.Mod.length cM)).far (p := ⟨w.heap.size + 1, 3, none⟩) hlt (.int .i64 kk)).far (p := ⟨w.heap.size + 1, 4, none⟩) hlt (.slice AX pts.length cX)).far (p := ⟨w.heap.size + 1, 5, none⟩) hlt (.slice AY mults.length cY)).lower HB1.out.size
    have hBe := ((((((below_later HB1.out HB1.out.size HB.out).setCell (p := ⟨w.heap.size + 1, 0, none⟩) hle (.int .i64 K.P)).setCell (p := ⟨w.heap.size + 1, 1, none⟩) hle (.int .i64 (K.m : Int))).setCell (p := ⟨w.heap.size + 1, 2, none⟩) hle (.slice AM K.Mod.length cM)).setCell (p := ⟨w.heap.size + 1, 3, none⟩) hle (.int .i64 kk)).setCell (p := ⟨w.heap.size + 1, 4, none⟩) hle (.slice AX pts.length cX)).setCell (p := ⟨w.heap.size + 1, 5, none⟩) hle (.slice AY mults.length cY)
    exact ⟨⟨AM, AX, AY, cM, cX, cY, rfl, hO1, hO2, hO3, DXY.out, DMY.out⟩, hBe⟩
  have H121 : ∀ (w' : World) (AM : Option Addr) (cM : Nat) (b9 : Addr) (AX : Option Addr) (cX : Nat) (b13 : Addr), Aside0 (Below w1.heap.size w1 w') → Aside0 (Own w' w1.heap.size (.slice AM K.Mod.length cM) K.Mod) → Aside0 (Own w' w1.heap.size (.slice AX pts.length cX) pts) → G 3 #[true, true, true, true, true, true, true, true, true, true, true, false, false, false] ⟨#[.pointer (some ⟨g, 0, none⟩), .agg #[.int .i64 K.P, .int .i64 (K.m : Int), .slice A1 K.Mod.length c1, .int .i64 kk, .slice A2 pts.length c2, .slice A3 mults.length c3], undef, .pointer (some ⟨w.heap.size, 0, none⟩), .pointer (some ⟨w.heap.size + 1, 0, none⟩), .pointer (some ⟨g, 0, none⟩), .agg #[.int .i64 K.P, .int .i64 (K.m : Int), .slice AM K.Mod.length cM], .pointer (some ⟨w.heap.size, 3, none⟩), .int .i64 kk, .slice (some b9) 0 0, .pointer (some ⟨w.heap.size, 4, none⟩), .slice A2 pts.length c2, .slice AX pts.length cX, .slice (some b13) 0 0, .pointer (some ⟨w.heap.size, 5, none⟩), .slice A3 mults.length c3, undef, undef], []⟩ w' := by
    intro w' AM cM b9 AX cX b13 HB HM HX
    rw [← HG.out]
    refine wpAnyZ_split [11] (by kernel_rfl) (by simp) (List.forall_mem_cons.2 ⟨?_, fun _ h => absurd h List.not_mem_nil⟩)
    · refine wpAnyZ_at 11 rfl (fun K' hK => ?_)
      refine append_new_step (ys := mults) (by rfl) (.tmp 13) (.tmp 15) rfl rfl rfl (Kd.C_below HU.out HB.out) HM1.out (by have := HMl.out; omega) ?_
      intro v2 w2 hO hB
      obtain ⟨AY, cY, rfl, -, -⟩ := hO.slice
      have HB2 := Aside0.mk (below_later HB.out HB.out.size hB)
      refine hK.out _ _ (fun _ => HSS.out _ HB2.out) ?_
      clear hK K'
      try simp only [Act.put, List.setIfInBounds_toArray, List.set_cons_zero, List.set_cons_succ]
      rw [HG.out]
      exact H122 w2 AM cM b9 AX cX b13 AY cY HB2 ⟨HM.out.below hB⟩ ⟨HX.out.below hB⟩ ⟨hO.lower HB.out.size⟩ ⟨Dj.later HX.out hO⟩ ⟨Dj.later HM.out hO⟩
  have H111 : ∀ (w' : World) (AM : Option Addr) (cM : Nat) (b9 : Addr) (b13 : Addr), Aside0 (Below w1.heap.size w1 w') → Aside0 (Own w' w1.heap.size (.slice AM K.Mod.length cM) K.Mod) → G 4 #[true, true, true, true, true, true, true, false, true, true, true, false, false, false] ⟨#[.pointer (some ⟨g, 0, none⟩), .agg #[.int .i64 K.P, .int .i64 (K.m : Int), .slice A1 K.Mod.length c1, .int .i64 kk, .slice A2 pts.length c2, .slice A3 mults.length c3], undef, .pointer (some ⟨w.heap.size, 0, none⟩), .pointer (some ⟨w.heap.size + 1, 0, none⟩), .pointer (some ⟨g, 0, none⟩), .agg #[.int .i64 K.P, .int .i64 (K.m : Int), .slice AM K.Mod.length cM], .pointer (some ⟨w.heap.size, 3, none⟩), .int .i64 kk, .slice (some b9) 0 0, .pointer (some ⟨w.heap.size, 4, none⟩), .slice A2 pts.length c2, undef, .slice (some b13) 0 0, .pointer (some ⟨w.heap.size, 5, none⟩), .slice A3 mults.length c3, undef, undef], []⟩ w' := by
    intro w' AM cM b9 b13 HB HM
    rw [← HG.out]
    refine wpAnyZ_split [7] (by kernel_rfl) (by simp) (List.forall_mem_cons.2 ⟨?_, fun _ h => absurd h List.not_mem_nil⟩)
    · refine wpAnyZ_at 7 rfl (fun K' hK => ?_)
      refine append_new_step (ys := pts) (by rfl) (.tmp 9) (.tmp 11) rfl rfl rfl (Kd.C_below HP.out HB.out) HP1.out (by have := HPl.out; omega) ?_
      intro v2 w2 hO hB
      obtain ⟨AX, cX, rfl, -, -⟩ := hO.slice
      have HB2 := Aside0.mk (below_later HB.out HB.out.size hB)
      refine hK.out _ _ (fun _ => HSS.out _ HB2.out) ?_
      clear hK K'
      try simp only [Act.put, List.setIfInBounds_toArray, List.set_cons_zero, List.set_cons_succ]
      rw [HG.out]
      exact H121 w2 AM cM b9 AX cX b13 HB2 ⟨HM.out.below hB⟩ ⟨hO.lower HB.out.size⟩
  have H120 : ∀ (w' : World) (AM : Option Addr) (cM : Nat) (b9 : Addr) (AX : Option Addr) (cX : Nat), Aside0 (Below w1.heap.size w1 w') → Aside0 (Own w' w1.heap.size (.slice AM K.Mod.length cM) K.Mod) → Aside0 (Own w' w1.heap.size (.slice AX pts.length cX) pts) → G 4 #[true, true, true, true, true, true, true, true, false, true, true, false, false, false] ⟨#[.pointer (some ⟨g, 0, none⟩), .agg #[.int .i64 K.P, .int .i64 (K.m : Int), .slice A1 K.Mod.length c1, .int .i64 kk, .slice A2 pts.length c2, .slice A3 mults.length c3], undef, .pointer (some ⟨w.heap.size, 0, none⟩), .pointer (some ⟨w.heap.size + 1, 0, none⟩), .pointer (some ⟨g, 0, none⟩), .agg #[.int .i64 K.P, .int .i64 (K.m : Int), .slice AM K.Mod.length cM], .pointer (some ⟨w.heap.size, 3, none⟩), .int .i64 kk, .slice (some b9) 0 0, .pointer (some ⟨w.heap.size, 4, none⟩), .slice A2 pts.length c2, .slice AX pts.length cX, undef, .pointer (some ⟨w.heap.size, 5, none⟩), .slice A3 mults.length c3, undef, undef], []⟩ w' := by
    intro w' AM cM b9 AX cX HB HM HX
    rw [← HG.out]
    refine wpAnyZ_split [8] (by kernel_rfl) (by simp) (List.forall_mem_cons.2 ⟨?_, fun _ h => absurd h List.not_mem_nil⟩)
    · refine wpAnyZ_at 8 rfl (fun K' hK => ?_)
      go_simp
      have hB : Below w'.heap.size w' (w'.alloc (.cells #[] 3)) := below_alloc (Below.refl _ _) _
      obtain ⟨w2, hw2⟩ : ∃ w2, w'.alloc (.cells #[] 3) = w2 := ⟨_, rfl⟩
      obtain ⟨b13, hb9⟩ : ∃ b : Addr, (⟨w'.heap.size, 0, none⟩ : Addr) = b := ⟨_, rfl⟩
      rw [hw2, hb9]
      rw [hw2] at hB
      clear hw2 hb9
      have HB2 := Aside0.mk (below_later HB.out HB.out.size hB)
      refine hK.out _ _ (fun _ => HSS.out _ HB2.out) ?_
      clear hK K'
      try simp only [Act.put, List.setIfInBounds_toArray, List.set_cons_zero, List.set_cons_succ]
      rw [HG.out]
      exact H121 w2 AM cM b9 AX cX b13 HB2 ⟨HM.out.below hB⟩ ⟨HX.out.below hB⟩
  have H011 : ∀ (w' : World) (b9 : Addr) (b13 : Addr), Aside0 (Below w1.heap.size w1 w') → G 5 #[true, false, true, true, true, true, true, false, true, true, true, false, false, false] ⟨#[.pointer (some ⟨g, 0, none⟩), .agg #[.int .i64 K.P, .int .i64 (K.m : Int), .slice A1 K.Mod.length c1, .int .i64 kk, .slice A2 pts.length c2, .slice A3 mults.length c3], undef, .pointer (some ⟨w.heap.size, 0, none⟩), .pointer (some ⟨w.heap.size + 1, 0, none⟩), .pointer (some ⟨g, 0, none⟩), undef, .pointer (some ⟨w.heap.size, 3, none⟩), .int .i64 kk, .slice (some b9) 0 0, .pointer (some ⟨w.heap.size, 4, none⟩), .slice A2 pts.length c2, undef, .slice (some b13) 0 0, .pointer (some ⟨w.heap.size, 5, none⟩), .slice A3 mults.length c3, undef, undef], []⟩ w' := by
    intro w' b9 b13 HB
    rw [← HG.out]
    refine wpAnyZ_split [1] (by kernel_rfl) (by simp) (List.forall_mem_cons.2 ⟨?_, fun _ h => absurd h List.not_mem_nil⟩)
    · refine wpAnyZ_at 1 rfl (fun K' hK => ?_)
      go_simp
      go_at_call 117; (with_reducible refine Calls.mono (HFld.out _ HB.out) ?_); rintro e w2 ⟨vM, rfl, hO, hB⟩; obtain ⟨AM, cM, rfl, -, -⟩ := hO.slice
      have HB2 := Aside0.mk (below_later HB.out HB.out.size hB)
      refine hK.out _ _ (fun _ => HSS.out _ HB2.out) ?_
      clear hK K'
      try simp only [Act.put, List.setIfInBounds_toArray, List.set_cons_zero, List.set_cons_succ]
      rw [HG.out]
      exact H111 w2 AM cM b9 b13 HB2 ⟨hO.lower HB.out.size⟩
  have H101 : ∀ (w' : World) (AM : Option Addr) (cM : Nat) (b13 : Addr), Aside0 (Below w1.heap.size w1 w') → Aside0 (Own w' w1.heap.size (.slice AM K.Mod.length cM) K.Mod) → G 5 #[true, true, true, true, false, true, true, false, true, true, true, false, false, false] ⟨#[.pointer (some ⟨g, 0, none⟩), .agg #[.int .i64 K.P, .int .i64 (K.m : Int), .slice A1 K.Mod.length c1, .int .i64 kk, .slice A2 pts.length c2, .slice A3 mults.length c3], undef, .pointer (some ⟨w.heap.size, 0, none⟩), .pointer (some ⟨w.heap.size + 1, 0, none⟩), .pointer (some ⟨g, 0, none⟩), .agg #[.int .i64 K.P, .int .i64 (K.m : Int), .slice AM K.Mod.length cM], .pointer (some ⟨w.heap.size, 3, none⟩), .int .i64 kk, undef, .pointer (some ⟨w.heap.size, 4, none⟩), .slice A2 pts.length c2, undef, .slice (some b13) 0 0, .pointer (some ⟨w.heap.size, 5, none⟩), .slice A3 mults.length c3, undef, undef], []⟩ w' := by
    intro w' AM cM b13 HB HM
    rw [← HG.out]
    refine wpAnyZ_split [4] (by kernel_rfl) (by simp) (List.forall_mem_cons.2 ⟨?_, fun _ h => absurd h List.not_mem_nil⟩)
    · refine wpAnyZ_at 4 rfl (fun K' hK => ?_)
      go_simp
      have hB : Below w'.heap.size w' (w'.alloc (.cells #[] 3)) := below_alloc (Below.refl _ _) _
      obtain ⟨w2, hw2⟩ : ∃ w2, w'.alloc (.cells #[] 3) = w2 := ⟨_, rfl⟩
      obtain ⟨b9, hb9⟩ : ∃ b : Addr, (⟨w'.heap.size, 0, none⟩ : Addr) = b := ⟨_, rfl⟩
      rw [hw2, hb9]
      rw [hw2] at hB
      clear hw2 hb9
      have HB2 := Aside0.mk (below_later HB.out HB.out.size hB)
      refine hK.out _ _ (fun _ => HSS.out _ HB2.out) ?_
      clear hK K'
      try simp only [Act.put, List.setIfInBounds_toArray, List.set_cons_zero, List.set_cons_succ]
      rw [HG.out]
      exact H111 w2 AM cM b9 b13 HB2 ⟨HM.out.below hB⟩
  have H110 : ∀ (w' : World) (AM : Option Addr) (cM : Nat) (b9 : Addr), Aside0 (Below w1.heap.size w1 w') → Aside0 (Own w' w1.heap.size (.slice AM K.Mod.length cM) K.Mod) → G 5 #[true, true, true, true, true, true, true, false, false, true, true, false, false, false] ⟨#[.pointer (some ⟨g, 0, none⟩), .agg #[.int .i64 K.P, .int .i64 (K.m : Int), .slice A1 K.Mod.length c1, .int .i64 kk, .slice A2 pts.length c2, .slice A3 mults.length c3], undef, .pointer (some ⟨w.heap.size, 0, none⟩), .pointer (some ⟨w.heap.size + 1, 0, none⟩), .pointer (some ⟨g, 0, none⟩), .agg #[.int .i64 K.P, .int .i64 (K.m : Int), .slice AM K.Mod.length cM], .pointer (some ⟨w.heap.size, 3, none⟩), .int .i64 kk, .slice (some b9) 0 0, .pointer (some ⟨w.heap.size, 4, none⟩), .slice A2 pts.length c2, undef, undef, .pointer (some ⟨w.heap.size, 5, none⟩), .slice A3 mults.length c3, undef, undef], []⟩ w' := by
    intro w' AM cM b9 HB HM
    rw [← HG.out]
    refine wpAnyZ_split [7, 8] (by kernel_rfl) (by simp) (List.forall_mem_cons.2 ⟨?_, List.forall_mem_cons.2 ⟨?_, fun _ h => absurd h List.not_mem_nil⟩⟩)
    · refine wpAnyZ_at 7 rfl (fun K' hK => ?_)
      refine append_new_step (ys := pts) (by rfl) (.tmp 9) (.tmp 11) rfl rfl rfl (Kd.C_below HP.out HB.out) HP1.out (by have := HPl.out; omega) ?_
      intro v2 w2 hO hB
      obtain ⟨AX, cX, rfl, -, -⟩ := hO.slice
      have HB2 := Aside0.mk (below_later HB.out HB.out.size hB)
      refine hK.out _ _ (fun _ => HSS.out _ HB2.out) ?_
      clear hK K'
      try simp only [Act.put, List.setIfInBounds_toArray, List.set_cons_zero, List.set_cons_succ]
      rw [HG.out]
      exact H120 w2 AM cM b9 AX cX HB2 ⟨HM.out.below hB⟩ ⟨hO.lower HB.out.size⟩
    · refine wpAnyZ_at 8 rfl (fun K' hK => ?_)
      go_simp
      have hB : Below w'.heap.size w' (w'.alloc (.cells #[] 3)) := below_alloc (Below.refl _ _) _
      obtain ⟨w2, hw2⟩ : ∃ w2, w'.alloc (.cells #[] 3) = w2 := ⟨_, rfl⟩
      obtain ⟨b13, hb9⟩ : ∃ b : Addr, (⟨w'.heap.size, 0, none⟩ : Addr) = b := ⟨_, rfl⟩
      rw [hw2, hb9]
      rw [hw2] at hB
      clear hw2 hb9
      have HB2 := Aside0.mk (below_later HB.out HB.out.size hB)
      refine hK.out _ _ (fun _ => HSS.out _ HB2.out) ?_
      clear hK K'
      try simp only [Act.put, List.setIfInBounds_toArray, List.set_cons_zero, List.set_cons_succ]
      rw [HG.out]
      exact H111 w2 AM cM b9 b13 HB2 ⟨HM.out.below hB⟩
  have H001 : ∀ (w' : World) (b13 : Addr), Aside0 (Below w1.heap.size w1 w') → G 6 #[true, false, true, true, false, true, true, false, true, true, true, false, false, false] ⟨#[.pointer (some ⟨g, 0, none⟩), .agg #[.int .i64 K.P, .int .i64 (K.m : Int), .slice A1 K.Mod.length c1, .int .i64 kk, .slice A2 pts.length c2, .slice A3 mults.length c3], undef, .pointer (some ⟨w.heap.size, 0, none⟩), .pointer (some ⟨w.heap.size + 1, 0, none⟩), .pointer (some ⟨g, 0, none⟩), undef, .pointer (some ⟨w.heap.size, 3, none⟩), .int .i64 kk, undef, .pointer (some ⟨w.heap.size, 4, none⟩), .slice A2 pts.length c2, undef, .slice (some b13) 0 0, .pointer (some ⟨w.heap.size, 5, none⟩), .slice A3 mults.length c3, undef, undef], []⟩ w' := by
    intro w' b13 HB
    rw [← HG.out]
    refine wpAnyZ_split [1, 4] (by kernel_rfl) (by simp) (List.forall_mem_cons.2 ⟨?_, List.forall_mem_cons.2 ⟨?_, fun _ h => absurd h List.not_mem_nil⟩⟩)
    · refine wpAnyZ_at 1 rfl (fun K' hK => ?_)
      go_simp
      go_at_call 117; (with_reducible refine Calls.mono (HFld.out _ HB.out) ?_); rintro e w2 ⟨vM, rfl, hO, hB⟩; obtain ⟨AM, cM, rfl, -, -⟩ := hO.slice
      have HB2 := Aside0.mk (below_later HB.out HB.out.size hB)
      refine hK.out _ _ (fun _ => HSS.out _ HB2.out) ?_
      clear hK K'
      try simp only [Act.put, List.setIfInBounds_toArray, List.set_cons_zero, List.set_cons_succ]
      rw [HG.out]
      exact H101 w2 AM cM b13 HB2 ⟨hO.lower HB.out.size⟩
    · refine wpAnyZ_at 4 rfl (fun K' hK => ?_)
      go_simp
      have hB : Below w'.heap.size w' (w'.alloc (.cells #[] 3)) := below_alloc (Below.refl _ _) _
      obtain ⟨w2, hw2⟩ : ∃ w2, w'.alloc (.cells #[] 3) = w2 := ⟨_, rfl⟩
      obtain ⟨b9, hb9⟩ : ∃ b : Addr, (⟨w'.heap.size, 0, none⟩ : Addr) = b := ⟨_, rfl⟩
      rw [hw2, hb9]
      rw [hw2] at hB
      clear hw2 hb9
      have HB2 := Aside0.mk (below_later HB.out HB.out.size hB)
      refine hK.out _ _ (fun _ => HSS.out _ HB2.out) ?_
      clear hK K'
      try simp only [Act.put, List.setIfInBounds_toArray, List.set_cons_zero, List.set_cons_succ]
      rw [HG.out]
      exact H011 w2 b9 b13 HB2
  have H010 : ∀ (w' : World) (b9 : Addr), Aside0 (Below w1.heap.size w1 w') → G 6 #[true, false, true, true, true, true, true, false, false, true, true, false, false, false] ⟨#[.pointer (some ⟨g, 0, none⟩), .agg #[.int .i64 K.P, .int .i64 (K.m : Int), .slice A1 K.Mod.length c1, .int .i64 kk, .slice A2 pts.length c2, .slice A3 mults.length c3], undef, .pointer (some ⟨w.heap.size, 0, none⟩), .pointer (some ⟨w.heap.size + 1, 0, none⟩), .pointer (some ⟨g, 0, none⟩), undef, .pointer (some ⟨w.heap.size, 3, none⟩), .int .i64 kk, .slice (some b9) 0 0, .pointer (some ⟨w.heap.size, 4, none⟩), .slice A2 pts.length c2, undef, undef, .pointer (some ⟨w.heap.size, 5, none⟩), .slice A3 mults.length c3, undef, undef], []⟩ w' := by
    intro w' b9 HB
    rw [← HG.out]
    refine wpAnyZ_split [1, 8] (by kernel_rfl) (by simp) (List.forall_mem_cons.2 ⟨?_, List.forall_mem_cons.2 ⟨?_, fun _ h => absurd h List.not_mem_nil⟩⟩)
    · refine wpAnyZ_at 1 rfl (fun K' hK => ?_)
      go_simp
      go_at_call 117; (with_reducible refine Calls.mono (HFld.out _ HB.out) ?_); rintro e w2 ⟨vM, rfl, hO, hB⟩; obtain ⟨AM, cM, rfl, -, -⟩ := hO.slice
      have HB2 := Aside0.mk (below_later HB.out HB.out.size hB)
      refine hK.out _ _ (fun _ => HSS.out _ HB2.out) ?_
      clear hK K'
      try simp only [Act.put, List.setIfInBounds_toArray, List.set_cons_zero, List.set_cons_succ]
      rw [HG.out]
      exact H110 w2 AM cM b9 HB2 ⟨hO.lower HB.out.size⟩
    · refine wpAnyZ_at 8 rfl (fun K' hK => ?_)
      go_simp
      have hB : Below w'.heap.size w' (w'.alloc (.cells #[] 3)) := below_alloc (Below.refl _ _) _
      obtain ⟨w2, hw2⟩ : ∃ w2, w'.alloc (.cells #[] 3) = w2 := ⟨_, rfl⟩
      obtain ⟨b13, hb9⟩ : ∃ b : Addr, (⟨w'.heap.size, 0, none⟩ : Addr) = b := ⟨_, rfl⟩
      rw [hw2, hb9]
      rw [hw2] at hB
      clear hw2 hb9
      have HB2 := Aside0.mk (below_later HB.out HB.out.size hB)
      refine hK.out _ _ (fun _ => HSS.out _ HB2.out) ?_
      clear hK K'
      try simp only [Act.put, List.setIfInBounds_toArray, List.set_cons_zero, List.set_cons_succ]
      rw [HG.out]
      exact H011 w2 b9 b13 HB2
  have H100 : ∀ (w' : World) (AM : Option Addr) (cM : Nat), Aside0 (Below w1.heap.size w1 w') → Aside0 (Own w' w1.heap.size (.slice AM K.Mod.length cM) K.Mod) → G 6 #[true, true, true, true, false, true, true, false, false, true, true, false, false, false] ⟨#[.pointer (some ⟨g, 0, none⟩), .agg #[.int .i64 K.P, .int .i64 (K.m : Int), .slice A1 K.Mod.length c1, .int .i64 kk, .slice A2 pts.length c2, .slice A3 mults.length c3], undef, .pointer (some ⟨w.heap.size, 0, none⟩), .pointer (some ⟨w.heap.size + 1, 0, none⟩), .pointer (some ⟨g, 0, none⟩), .agg #[.int .i64 K.P, .int .i64 (K.m : Int), .slice AM K.Mod.length cM], .pointer (some ⟨w.heap.size, 3, none⟩), .int .i64 kk, undef, .pointer (some ⟨w.heap.size, 4, none⟩), .slice A2 pts.length c2, undef, undef, .pointer (some ⟨w.heap.size, 5, none⟩), .slice A3 mults.length c3, undef, undef], []⟩ w' := by
    intro w' AM cM HB HM
    rw [← HG.out]
    refine wpAnyZ_split [4, 8] (by kernel_rfl) (by simp) (List.forall_mem_cons.2 ⟨?_, List.forall_mem_cons.2 ⟨?_, fun _ h => absurd h List.not_mem_nil⟩⟩)
    · refine wpAnyZ_at 4 rfl (fun K' hK => ?_)
      go_simp
      have hB : Below w'.heap.size w' (w'.alloc (.cells #[] 3)) := below_alloc (Below.refl _ _) _
      obtain ⟨w2, hw2⟩ : ∃ w2, w'.alloc (.cells #[] 3) = w2 := ⟨_, rfl⟩
      obtain ⟨b9, hb9⟩ : ∃ b : Addr, (⟨w'.heap.size, 0, none⟩ : Addr) = b := ⟨_, rfl⟩
      rw [hw2, hb9]
      rw [hw2] at hB
      clear hw2 hb9
      have HB2 := Aside0.mk (below_later HB.out HB.out.size hB)
      refine hK.out _ _ (fun _ => HSS.out _ HB2.out) ?_
      clear hK K'
      try simp only [Act.put, List.setIfInBounds_toArray, List.set_cons_zero, List.set_cons_succ]
      rw [HG.out]
      exact H110 w2 AM cM b9 HB2 ⟨HM.out.below hB⟩
    · refine wpAnyZ_at 8 rfl (fun K' hK => ?_)
      go_simp
      have hB : Below w'.heap.size w' (w'.alloc (.cells #[] 3)) := below_alloc (Below.refl _ _) _
      obtain ⟨w2, hw2⟩ : ∃ w2, w'.alloc (.cells #[] 3) = w2 := ⟨_, rfl⟩
      obtain ⟨b13, hb9⟩ : ∃ b : Addr, (⟨w'.heap.size, 0, none⟩ : Addr) = b := ⟨_, rfl⟩
      rw [hw2, hb9]
      rw [hw2] at hB
      clear hw2 hb9
      have HB2 := Aside0.mk (below_later HB.out HB.out.size hB)
      refine hK.out _ _ (fun _ => HSS.out _ HB2.out) ?_
      clear hK K'
      try simp only [Act.put, List.setIfInBounds_toArray, List.set_cons_zero, List.set_cons_succ]
      rw [HG.out]
      exact H101 w2 AM cM b13 HB2 ⟨HM.out.below hB⟩
  have H000 : ∀ (w' : World), Aside0 (Below w1.heap.size w1 w') → G 7 #[true, false, true, true, false, true, true, false, false, true, true, false, false, false] ⟨#[.pointer (some ⟨g, 0, none⟩), .agg #[.int .i64 K.P, .int .i64 (K.m : Int), .slice A1 K.Mod.length c1, .int .i64 kk, .slice A2 pts.length c2, .slice A3 mults.length c3], undef, .pointer (some ⟨w.heap.size, 0, none⟩), .pointer (some ⟨w.heap.size + 1, 0, none⟩), .pointer (some ⟨g, 0, none⟩), undef, .pointer (some ⟨w.heap.size, 3, none⟩), .int .i64 kk, undef, .pointer (some ⟨w.heap.size, 4, none⟩), .slice A2 pts.length c2, undef, undef, .pointer (some ⟨w.heap.size, 5, none⟩), .slice A3 mults.length c3, undef, undef], []⟩ w' := by
    intro w' HB
    rw [← HG.out]
    refine wpAnyZ_split [1, 4, 8] (by kernel_rfl) (by simp) (List.forall_mem_cons.2 ⟨?_, List.forall_mem_cons.2 ⟨?_, List.forall_mem_cons.2 ⟨?_, fun _ h => absurd h List.not_mem_nil⟩⟩⟩)
    · refine wpAnyZ_at 1 rfl (fun K' hK => ?_)
      go_simp
      go_at_call 117; (with_reducible refine Calls.mono (HFld.out _ HB.out) ?_); rintro e w2 ⟨vM, rfl, hO, hB⟩; obtain ⟨AM, cM, rfl, -, -⟩ := hO.slice
      have HB2 := Aside0.mk (below_later HB.out HB.out.size hB)
      refine hK.out _ _ (fun _ => HSS.out _ HB2.out) ?_
      clear hK K'
      try simp only [Act.put, List.setIfInBounds_toArray, List.set_cons_zero, List.set_cons_succ]
      rw [HG.out]
      exact H100 w2 AM cM HB2 ⟨hO.lower HB.out.size⟩
    · refine wpAnyZ_at 4 rfl (fun K' hK => ?_)
      go_simp
      have hB : Below w'.heap.size w' (w'.alloc (.cells #[] 3)) := below_alloc (Below.refl _ _) _
      obtain ⟨w2, hw2⟩ : ∃ w2, w'.alloc (.cells #[] 3) = w2 := ⟨_, rfl⟩
      obtain ⟨b9, hb9⟩ : ∃ b : Addr, (⟨w'.heap.size, 0, none⟩ : Addr) = b := ⟨_, rfl⟩
      rw [hw2, hb9]
      rw [hw2] at hB
      clear hw2 hb9
      have HB2 := Aside0.mk (below_later HB.out HB.out.size hB)
      refine hK.out _ _ (fun _ => HSS.out _ HB2.out) ?_
      clear hK K'
      try simp only [Act.put, List.setIfInBounds_toArray, List.set_cons_zero, List.set_cons_succ]
      rw [HG.out]
      exact H010 w2 b9 HB2
    · refine wpAnyZ_at 8 rfl (fun K' hK => ?_)
      go_simp
      have hB : Below w'.heap.size w' (w'.alloc (.cells #[] 3)) := below_alloc (Below.refl _ _) _
      obtain ⟨w2, hw2⟩ : ∃ w2, w'.alloc (.cells #[] 3) = w2 := ⟨_, rfl⟩
      obtain ⟨b13, hb9⟩ : ∃ b : Addr, (⟨w'.heap.size, 0, none⟩ : Addr) = b := ⟨_, rfl⟩
      rw [hw2, hb9]
      rw [hw2] at hB
      clear hw2 hb9
      have HB2 := Aside0.mk (below_later HB.out HB.out.size hB)
      refine hK.out _ _ (fun _ => HSS.out _ HB2.out) ?_
      clear hK K'
      try simp only [Act.put, List.setIfInBounds_toArray, List.set_cons_zero, List.set_cons_succ]
      rw [HG.out]
      exact H001 w2 b13 HB2
  exact H000 _ ⟨below_drew1 (Below.refl _ _)⟩
end Go.Proofs.Yticgblagimmlfaa
end
section
/- The program: Dot of a field, Dual. -/
namespace Go.Proofs.Yticgblagimmlfaa
open Go.RowKit Go.Proofs.YticgblagimmlfaaW.PrintWords Go.Proofs.YticgblagimmlfaaW.PrintLast Go.Proofs.YticgblagimmlfaaW.PrintMore
set_option linter.unusedVariables false
set_option linter.unusedSimpArgs false

set_option maxHeartbeats 8000000 in
set_option maxRecDepth 100000 in
theorem gfdot_any {g : Nat} {D : GFD} {w : World} (h : GFat w g D) (hD : D.ok) {A B : Option Addr} {c d : Nat} {a b : List Int} {n : Nat} (han : a.length = n) (hbn : b.length = n) (ha : Kd.C (Kd.int .i64) w A n a) (hb : Kd.C (Kd.int .i64) w B n b) :
    Calls Try.prog 51 #[.pointer (some ⟨g, 0, none⟩), .slice A n c, .slice B n d] w fun e w' => e = .returned (.int .i64 (dotZ D a b n)) ∧ Drawn0 w w' := by
  have H := Aside0.mk h
  have hm := Kd.C_max ha
  have HA : Aside0 (∀ (w1 : World), Below w.heap.size w w1 → ∀ k, k < n → ∃ ad, A = some ad ∧ w1.cell? (ad.add k) = some (.int .i64 (a.getD k 0))) := by
    subst han
    exact ⟨fun w1 hb1 k hk => C_nat (Kd.C_below ha hb1) k hk⟩
  have HB : Aside0 (∀ (w1 : World), Below w.heap.size w w1 → ∀ k, k < n → ∃ ad, B = some ad ∧ w1.cell? (ad.add k) = some (.int .i64 (b.getD k 0))) := by
    subst hbn
    exact ⟨fun w1 hb1 k hk => C_nat (Kd.C_below hb hb1) k hk⟩
  obtain ⟨evf, hev⟩ : ∃ f, dotZ D a b = f := ⟨_, rfl⟩
  have h0e : evf 0 = 0 := by rw [← hev]; rfl
  have hse : ∀ k, evf (k + 1) = D.add (evf k) (D.mul (a.getD k 0) (b.getD k 0)) := by intro k; rw [← hev]; rfl
  rw [hev]
  have H0e := Aside0.mk h0e.symm
  have Hse := Aside0.mk hse
  clear h ha hb hev h0e hse han hbn
  go_enter Try.func51, Try.ntmps51
  go_wp2
  go_loopw [7, 14] (fun v7 v14 w' => ∃ (k : Nat) (ev : Int), v14 = .int .i64 k ∧ v7 = .int .i64 ev ∧ k ≤ n ∧ Aside0 (ev = evf k) ∧ Drawn0 w w') (fun _ v14 _ => n - (intOf v14).toNat)
  case atStart => exact ⟨0, 0, rfl, rfl, by omega, H0e, Drawn0.refl _⟩
  case round =>
    obtain ⟨k, ev, rfl, rfl, hk, HEv, hd⟩ := hrel
    by_cases hlk : k < n
    · obtain ⟨ad, e, hx⟩ := HA.out _ hd.below k hlk
      cases e
      obtain ⟨ad2, e, hy⟩ := HB.out _ hd.below k hlk
      cases e
      obtain ⟨z, hz⟩ : ∃ z, a.getD k 0 = z := ⟨_, rfl⟩
      obtain ⟨y, hy2⟩ : ∃ z, b.getD k 0 = z := ⟨_, rfl⟩
      rw [hz] at hx
      rw [hy2] at hy
      have h1 := Hse.out k
      rw [← HEv.out, hz, hy2] at h1
      have HS := Aside0.mk h1.symm
      have HG := Aside0.mk (H.out.drawn hd)
      have i0 : (0 : Int) ≤ (k : Int) := by omega
      have i1 : (k : Int) < (n : Int) := by omega
      clear hz hy2 h1
      go_wp2
      go_quiet (first | (go_at_call 79; exact quiet_d (mul_any (HG.out.drewN _) hD _ _)) | (go_at_call 83; exact quiet_d (add_any (HG.out.drewN _) hD _ _)))
      go_wp2
      go_roundw
      case rel => exact ⟨k + 1, _, by go_num, rfl, by omega, HS, hd.step _⟩
      case measure => simp [intOf]; omega
    · obtain rfl : k = n := by omega
      have he := HEv.out
      subst he
      go_wp2
      go_ret
      exact ⟨rfl, hd⟩

theorem Own.apart {w : World} {base : Nat} {v : Value} {l : List Int} (h : Own w base v l) {p : Addr} (hp : ∀ k, v.ownBlock = some k → k ≠ p.block) (u : Value) : Own (w.setCell p u) base v l :=
  h.keep fun k hk => Below.heap_setCell w p u k (hp k hk)
theorem results29 {fn : Func} {p u : Tmp} (h : fn.results = #[.cell p 29, .tmp u]) {a : Act} {w : World} {b : Nat} {v0 v1 v2 v3 v4 v5 : Value} (hp : a.tmps.getD p undef = .pointer (some ⟨b, 0, none⟩)) (hb : w.heap[b]? = some (.cells #[v0, v1, v2, v3, v4, v5] 29 (0, 0))) {R : Ending → World → Prop} (hd : a.defers = [])
    (hR : R (.returned (.tuple #[.agg #[v0, v1, v2, v3, v4, v5], a.tmps.getD u undef])) w) : bodyPost Try.prog fn R .ret a w := by
  have c0 := blk_cell hb 0
  have c1 := blk_cell hb 1
  have c2 := blk_cell hb 2
  have c3 := blk_cell hb 3
  have c4 := blk_cell hb 4
  have c5 := blk_cell hb 5
  simp at c0 c1 c2 c3 c4 c5
  refine bodyPost_ret (v := .tuple #[.agg #[v0, v1, v2, v3, v4, v5], a.tmps.getD u undef]) ?_ hd hR
  rw [results_cell_tmp h, hp]
  go_simp

theorem fit_of_open (s : GD) (ho : s.open = 0) : ∃ K : FD, s.fit K ∧ s.D = K.D := by
  obtain ⟨f1, n1, n2, f4, f5, f6, f7, f8, f9, f10⟩ := open_factsP s ho
  obtain ⟨K, q1, q2, q3, q4⟩ := exists_K s f1
  rw [q4] at f5 f6
  refine ⟨K, ⟨⟨q1, q2, q3⟩, f4, n2, n1, f9, f10, fun j => ?_, fun i j hi hj e => ?_, fun j hj => ⟨all_getD _ _ f6 j (by omega), fun e => ?_⟩⟩, q4⟩
  · by_cases hj : j < s.pts.length
    · exact all_getD _ _ f5 j hj
    · rw [FD.getD_ge (by omega)]; exact K.is_zero
  · rw [List.getD_eq_getElem?_getD, List.getD_eq_getElem?_getD, List.getElem?_eq_getElem hi, List.getElem?_eq_getElem hj] at e
    have hp := List.pairwise_iff_getElem.1 f7
    rcases Nat.lt_trichotomy i j with hij | hij | hij
    · exact absurd e (hp i j hi hj hij)
    · exact hij
    · exact absurd e.symm (hp j i hj hi hij)
  · exact f8 (e ▸ mem_getD _ _ (by omega))

set_option maxHeartbeats 8000000 in
set_option maxRecDepth 100000 in
theorem dual_bad {w : World} {v : Value} {s : GD} (h : GArg w v s) (ho : s.open ≠ 0) :
    Calls Try.prog 49 #[v] w fun e w' => e = .returned (.tuple #[.agg #[.int .i64 0, .int .i64 0, .slice none 0 0, .int .i64 0, .slice none 0 0, .slice none 0 0], .int .i64 s.open]) ∧ Below w.heap.size w w' := by
  obtain ⟨A1, c1, A2, c2, A3, c3, rfl, g1, l1, g2, l2, g3, l3⟩ := h.out
  have hS0 := SAt.new w s A1 c1 A2 c2 A3 c3
  obtain ⟨w0, hw0⟩ : ∃ w0, w.alloc (.cells #[.int .i64 s.P, .int .i64 s.M, .slice A1 s.Mod.length c1, .int .i64 s.K, .slice A2 s.pts.length c2, .slice A3 s.mults.length c3] 29) = w0 := ⟨_, rfl⟩
  have hB0 : Below w.heap.size w w0 := by rw [← hw0]; exact below_alloc (Below.refl _ _) _
  rw [hw0] at hS0
  obtain ⟨w1, hw1⟩ : ∃ w1, w0.alloc (.cells #[.int .i64 0, .int .i64 0, .slice none 0 0, .int .i64 0, .slice none 0 0, .slice none 0 0] 29) = w1 := ⟨_, rfl⟩
  have hB1 : Below w0.heap.size w0 w1 := by rw [← hw1]; exact below_alloc (Below.refl _ _) _
  have hz0 : w0.heap.size = w.heap.size + 1 := by rw [← hw0]; simp
  have hz : w1.heap[w0.heap.size]? = some (.cells #[.int .i64 0, .int .i64 0, .slice none 0 0, .int .i64 0, .slice none 0 0, .slice none 0 0] 29 (0, 0)) := by rw [← hw1]; exact blk_new _ _
  rw [hz0] at hz
  have HB1 := Aside0.mk (below_later hB0 hB0.size hB1)
  have HS := Aside0.mk (hS0.below hB1)
  have HZb := Aside0.mk hz
  have HW0 := Aside0.mk hw0
  have HW1 := Aside0.mk hw1
  have HOp := Aside0.mk (open_any (h.below HB1.out))
  obtain ⟨cP, cM, cD, cK, cS, cU⟩ := HS.out
  obtain ⟨op, hop⟩ : ∃ op, s.open = op := ⟨_, rfl⟩
  have HOe := Aside0.mk hop
  rw [hop] at HOp ho ⊢
  have hb : (op != 0) = true := by simp [ho]
  clear h g1 g2 g3 hS0 hB0 hB1 hw0 hw1 hz hz0 hop
  go_enter Try.func49, Try.ntmps49
  go_upto_region 1 with (fail)
  rw [HW0.out, HW1.out]
  go_wp2_with (go_at_call 62; (with_reducible refine Calls.mono HOp.out ?_); rintro e w2 ⟨pv, rfl, hr, hB⟩; obtain rfl : pv = .pointer none := (hr.resolve_right (fun hh => ho (by rw [← HOe.out]; exact hh.1))).2; have HB2 := Aside0.mk hB; have HZ2 := Aside0.mk (blk_below HZb.out hB); have z0 := blk_cell HZ2.out 0; have z1 := blk_cell HZ2.out 1; have z2 := blk_cell HZ2.out 2; have z3 := blk_cell HZ2.out 3; have z4 := blk_cell HZ2.out 4; have z5 := blk_cell HZ2.out 5; have f0 := blk_frozen HZ2.out 0; have f1 := blk_frozen HZ2.out 1; have f2 := blk_frozen HZ2.out 2; have f3 := blk_frozen HZ2.out 3; have f4 := blk_frozen HZ2.out 4; have f5 := blk_frozen HZ2.out 5; simp at z0 z1 z2 z3 z4 z5; clear hr hB)
  have hb := blk_set (blk_set (blk_set (blk_set (blk_set (blk_set HZ2.out 0 (.int .i64 0)) 1 (.int .i64 0)) 2 (.slice none 0 0)) 3 (.int .i64 0)) 4 (.slice none 0 0)) 5 (.slice none 0 0)
  refine results29 rfl rfl hb rfl ?_
  have hle : w.heap.size ≤ w.heap.size + 1 := Nat.le_succ _
  exact ⟨rfl, ((((((below_later HB1.out HB1.out.size HB2.out).setCell (p := ⟨w.heap.size + 1, 0, none⟩) hle (.int .i64 0)).setCell (p := ⟨w.heap.size + 1, 1, none⟩) hle (.int .i64 0)).setCell (p := ⟨w.heap.size + 1, 2, none⟩) hle (.slice none 0 0)).setCell (p := ⟨w.heap.size + 1, 3, none⟩) hle (.int .i64 0)).setCell (p := ⟨w.heap.size + 1, 4, none⟩) hle (.slice none 0 0)).setCell (p := ⟨w.heap.size + 1, 5, none⟩) hle (.slice none 0 0)⟩
end Go.Proofs.Yticgblagimmlfaa
end
