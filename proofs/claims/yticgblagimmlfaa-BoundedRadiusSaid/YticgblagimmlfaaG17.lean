/- New, where there is a field. -/
import Derived.Test.YticgblagimmlfaaG16
import Derived.Deep.RegionHeld3
import Derived.Deep.DeepCutAuto
namespace Go.Proofs.Yticgblagimmlfaa
open Go.RowKit Go.Proofs.YticgblagimmlfaaW.PrintWords Go.Proofs.YticgblagimmlfaaW.PrintLast Go.Proofs.YticgblagimmlfaaW.PrintMore
set_option linter.unusedVariables false
set_option linter.unusedSimpArgs false

theorem own_lit0 (w : World) : Own (w.alloc (.cells #[] 3)) w.heap.size (.slice (some ⟨w.heap.size, 0, none⟩) 0 0) [] :=
  ⟨Kd.R_of_own (enc := Value.int .i64) (own_lit_of w w.heap.size 3 ([] : List Int) (Nat.le_refl _) (by simp)) (fun _ _ => trivial)⟩

section
variable {ops : Array Oper} {o : Oper} {a : Act} {Q : Exit → Act → World → Prop} {Kc : Act → World → Prop}
/-- append(own row, a list that is read), in a region of open order. -/
theorem append_list_step {w0 W : World} (hw : Region.wanted o (yielded ops a.tmps) = true) (s x : Operand) (ho : o.op = .call { callee := .builtin .append, args := #[s, x], argTypes := #[25, 25] })
    {base : Nat} {v : Value} {xs ys : List Int} {A : Option Addr} {c : Nat} (hs : a.eval s = v) (hx : a.eval x = .slice A ys.length c) (HO : Own W base v xs) (hbase : base ≤ W.heap.size) (HR : Kd.C (Kd.int .i64) W A ys.length ys) (HB : Below base w0 W) (hl : xs.length + ys.length ≤ 1000000000000)
    (h : ∀ v1 w1, Own w1 base v1 (xs ++ ys) → Below base w0 w1 → W.grownBy w1 v.ownBlock → (v1.ownBlock = v.ownBlock ∨ ∃ b, v1.ownBlock = some b ∧ W.heap.size ≤ b) → Kc (a.put o.dst v1) w1) :
    if Region.wanted o (yielded ops a.tmps) = true then Oper.wp Try.prog o a W Kc Q else Kc (a.put o.dst undef) W := by
  refine Kd.R_append_rows_step (Kd.int .i64) (w0 := w0) base hw s x 25 3 (.int .i64 0) 8 ho Try.underlying25 info3 rfl (by decide) (by omega) v xs ys A ys.length c (fun _ => True) (fun _ => False) hs hx HO.out HR (fun x cs hK => hK) (fun _ hk => hk.elim) (fun _ _ => trivial) HB hbase (by omega) ?_
  intro v1 w1 h1 h2 h3 h4
  exact h v1 w1 ⟨h1⟩ h2 h3 h4
end

theorem own_lit0_at (w : World) (u : Nat) (h : u = w.heap.size) : Own (w.alloc (.cells #[] 3)) u (.slice (some ⟨u, 0, none⟩) 0 0) [] := by subst h; exact own_lit0 w

/-- The new field's block, its log still empty. -/
structure NewS (w3 W : World) (P : Int) (m : Nat) (Mod : List Int) (qn : Nat) (El ge ce g : Nat) : Prop where mk ::
  out : ∃ gl A7 c7, W.heap[g]? = some (.cells #[.int .i64 P, .int .i64 m, .slice A7 Mod.length c7, .int .i64 qn, .slice (some ⟨ge, 0, none⟩) El ce, .slice (some ⟨gl, 0, none⟩) qn qn] 107 (0, 0)) ∧
    Own W w3.heap.size (.slice (some ⟨gl, 0, none⟩) qn qn) (List.replicate qn 0) ∧ Own W w3.heap.size (.slice A7 Mod.length c7) Mod ∧ (∀ k, (Value.slice A7 Mod.length c7).ownBlock = some k → k ≠ gl) ∧ gl ≠ g ∧ w3.heap.size ≤ g ∧ Below w3.heap.size w3 W
theorem own_made (w : World) (q : Nat) (hq : q ≤ 1000) : Own (w.alloc (.cells (madeCells #[.int .i64 0] q) 3)) w.heap.size (.slice (some ⟨w.heap.size, 0, none⟩) q q) (List.replicate q 0) := by
  have h1 := own_lit_of (enc := Value.int .i64) w w.heap.size 3 (List.replicate q (0 : Int)) (Nat.le_refl _) (by simp; omega)
  have h2 : (encs (Value.int .i64) (List.replicate q (0 : Int))).toArray = madeCells #[Value.int .i64 0] q := by
    apply Array.ext
    · simp [encs, madeCells]
    · intro i h3 h4
      simp [encs, madeCells, Nat.mod_one]
  rw [h2, List.length_replicate] at h1
  exact ⟨Kd.R_of_own (enc := Value.int .i64) (by rw [List.length_replicate]; exact h1) (fun _ _ => trivial)⟩

theorem Own.grown {w w1 : World} {base : Nat} {v : Value} {l : List Int} (h : Own w base v l) {row : Option Nat} (hg : w.grownBy w1 row) (hne : ∀ k, v.ownBlock = some k → some k ≠ row) : Own w1 base v l :=
  h.keep fun k hk => hg.block k (by
    obtain ⟨c, hc⟩ := Kd.R_typed h.out k hk
    exact (Array.getElem?_eq_some_iff.1 hc).1) (hne k hk)
theorem log_B (w3 w7 : World) (q : Nat) (hq : q ≤ 1000) (v7 : Value) (hg : (((w3.alloc (.cells #[] 3)).alloc (.cells (madeCells #[.int .i64 0] q) 3)).drew).grownBy w7 (Value.ownBlock (.slice (some ⟨w3.heap.size, 0, none⟩) 0 0)))
    (ha : v7.ownBlock = Value.ownBlock (.slice (some ⟨w3.heap.size, 0, none⟩) 0 0) ∨ ∃ b, v7.ownBlock = some b ∧ (((w3.alloc (.cells #[] 3)).alloc (.cells (madeCells #[.int .i64 0] q) 3)).drew).heap.size ≤ b) :
    Own w7 w3.heap.size (.slice (some ⟨w3.heap.size + 1, 0, none⟩) q q) (List.replicate q 0) ∧ ∀ k, v7.ownBlock = some k → k ≠ w3.heap.size + 1 := by
  have h1 := own_made (w3.alloc (.cells #[] 3)) q hq
  have hsz : (w3.alloc (.cells #[] 3)).heap.size = w3.heap.size + 1 := by simp
  have hsz2 : (((w3.alloc (.cells #[] 3)).alloc (.cells (madeCells #[.int .i64 0] q) 3)).drew).heap.size = w3.heap.size + 2 := by simp
  rw [hsz] at h1
  rw [hsz2] at ha
  refine ⟨((h1.drewN 1).grown hg (fun k hk => ?_)).lower (by omega), fun k hk => ?_⟩
  · intro e
    simp only [Value.ownBlock, Option.some.injEq] at hk e
    omega
  · rcases ha with ha | ⟨b, hb, hb2⟩
    · rw [hk] at ha; simp only [Value.ownBlock, Option.some.injEq] at ha; omega
    · rw [hk] at hb; simp only [Option.some.injEq] at hb; omega
theorem log_C (w3 w7 : World) (q : Nat) (hq : q ≤ 1000) (v7 : Value) (hg : (((w3.alloc (.cells (madeCells #[.int .i64 0] q) 3)).alloc (.cells #[] 3)).drew).grownBy w7 (Value.ownBlock (.slice (some ⟨w3.heap.size + 1, 0, none⟩) 0 0)))
    (ha : v7.ownBlock = Value.ownBlock (.slice (some ⟨w3.heap.size + 1, 0, none⟩) 0 0) ∨ ∃ b, v7.ownBlock = some b ∧ (((w3.alloc (.cells (madeCells #[.int .i64 0] q) 3)).alloc (.cells #[] 3)).drew).heap.size ≤ b) :
    Own w7 w3.heap.size (.slice (some ⟨w3.heap.size, 0, none⟩) q q) (List.replicate q 0) ∧ ∀ k, v7.ownBlock = some k → k ≠ w3.heap.size := by
  have h1 := (own_made w3 q hq).below (below_alloc (Below.refl _ _) (.cells #[] 3))
  have hsz2 : (((w3.alloc (.cells (madeCells #[.int .i64 0] q) 3)).alloc (.cells #[] 3)).drew).heap.size = w3.heap.size + 2 := by simp
  rw [hsz2] at ha
  refine ⟨(h1.drewN 1).grown hg (fun k hk => ?_), fun k hk => ?_⟩
  · intro e
    simp only [Value.ownBlock, Option.some.injEq] at hk e
    omega
  · rcases ha with ha | ⟨b, hb, hb2⟩
    · rw [hk] at ha; simp only [Value.ownBlock, Option.some.injEq] at ha; omega
    · rw [hk] at hb; simp only [Option.some.injEq] at hb; omega
/-- The struct is made behind the log and the copied modulus. -/
theorem newS_last (w3 w7 : World) (P : Int) (m : Nat) (Mod : List Int) (qn El ge ce gl : Nat) (A7 : Option Addr) (c7 : Nat) (hb : Below w3.heap.size w3 w7) (hl : Own w7 w3.heap.size (.slice (some ⟨gl, 0, none⟩) qn qn) (List.replicate qn 0) ∧ ∀ k, (Value.slice A7 Mod.length c7).ownBlock = some k → k ≠ gl)
    (hq : 0 < qn) (ho : Own w7 w3.heap.size (.slice A7 Mod.length c7) Mod) :
    NewS w3 (w7.alloc (.cells #[.int .i64 P, .int .i64 m, .slice A7 Mod.length c7, .int .i64 qn, .slice (some ⟨ge, 0, none⟩) El ce, .slice (some ⟨gl, 0, none⟩) qn qn] 107)) P m Mod qn El ge ce w7.heap.size := by
  have hlt : gl < w7.heap.size := by
    obtain ⟨c, hc⟩ := Kd.R_typed hl.1.out gl rfl
    exact (Array.getElem?_eq_some_iff.1 hc).1
  exact ⟨gl, A7, c7, heap_alloc_new w7 _, hl.1.below (below_alloc (Below.refl _ _) _), ho.below (below_alloc (Below.refl _ _) _), hl.2, by omega, hb.size, below_alloc hb _⟩
theorem newS_A (w3 w7 : World) (P : Int) (m : Nat) (Mod : List Int) (qn El ge ce : Nat) (A7 : Option Addr) (c7 : Nat) (hb : Below w3.heap.size w3 w7) (hq : 0 < qn) (hq2 : qn ≤ 1000) (ho : Own w7 w3.heap.size (.slice A7 Mod.length c7) Mod) :
    NewS w3 ((w7.alloc (.cells (madeCells #[.int .i64 0] qn) 3)).alloc (.cells #[.int .i64 P, .int .i64 m, .slice A7 Mod.length c7, .int .i64 qn, .slice (some ⟨ge, 0, none⟩) El ce, .slice (some ⟨w7.heap.size, 0, none⟩) qn qn] 107)) P m Mod qn El ge ce (w7.heap.size + 1) := by
  have hsz : (w7.alloc (.cells (madeCells #[.int .i64 0] qn) 3)).heap.size = w7.heap.size + 1 := by simp
  have h := newS_last w3 (w7.alloc (.cells (madeCells #[.int .i64 0] qn) 3)) P m Mod qn El ge ce w7.heap.size A7 c7 (below_alloc hb _) ⟨(own_made w7 qn hq2).lower hb.size, fun k hk => by
    obtain ⟨c, hc⟩ := Kd.R_typed ho.out k hk
    have := (Array.getElem?_eq_some_iff.1 hc).1
    omega⟩ hq (ho.below (below_alloc (Below.refl _ _) _))
  rw [hsz] at h
  exact h

set_option maxRecDepth 100000 in
theorem new_good {w : World} {A : Option Addr} {c : Nat} (P : Int) (m : Nat) {Mod : List Int} (hl : Kd.C (Kd.int .i64) w A Mod.length Mod) (hb : fieldOk P m Mod = true) :
    Calls Try.prog 37 #[.agg #[.int .i64 P, .int .i64 m, .slice A Mod.length c]] w fun e w' => ∃ g, e = .returned (.tuple #[.pointer (some ⟨g, 0, none⟩), .int .i64 0]) ∧ GFat w' g (fieldD P m Mod) ∧ w.heap.size ≤ g ∧ Below w.heap.size w w' := by
  have HL := Aside0.mk hl
  have hF0 := FAt.new w P m A Mod.length c
  obtain ⟨w0, hw0⟩ : ∃ w0, w.alloc (.cells #[.int .i64 P, .int .i64 m, .slice A Mod.length c] 27) = w0 := ⟨_, rfl⟩
  have hB0 : Below w.heap.size w w0 := by rw [← hw0]; exact below_alloc (Below.refl _ _) _
  rw [hw0] at hF0
  have HF := Aside0.mk hF0
  have HB0 := Aside0.mk hB0
  have HW := Aside0.mk hw0
  have HS := fun (w1 : World) (hb1 : Below w.heap.size w w1) => Aside0.mk (shape_any (c := c) P m (Kd.C_below hl hb1))
  unfold fieldOk at hb
  rw [Bool.and_eq_true] at hb
  obtain ⟨hs, hne⟩ := hb
  rw [hs] at HS
  obtain ⟨p1, p2, p3, p4, p5, p6, p7, p8, p9, p10⟩ := shapeZ_true P m Mod hs
  rw [Int.toNat_natCast] at p5 p6 p8 hne
  have hne' : genZ P m Mod (P ^ m) ≠ [] := fun e => by rw [e] at hne; simp at hne
  obtain ⟨g1, g2⟩ := genZ_cases P p1 m (by omega) Mod p6 hne'
  have HG := fun (w1 : World) (hb1 : Below w.heap.size w w1) => Aside0.mk (generator_any (c := c) P m (Kd.C_below HL.out hb1) p1 p2 (by omega) (by omega) p6 p8 p9 _ rfl)
  have hD : fieldD P m Mod = { P := P, M := m, Mod := Mod, q := P ^ m, exp := genZ P m Mod (P ^ m), log := setLog (genZ P m Mod (P ^ m)) 0 (List.replicate (P ^ m).toNat 0) } := rfl
  rw [hD]
  obtain ⟨E, hE⟩ : ∃ E, genZ P m Mod (P ^ m) = E := ⟨_, rfl⟩
  rw [hE] at HG hne' g1 g2 ⊢
  have hlM : Mod.length ≤ 8 := by
    by_cases h1 : 1 < m
    · rw [p8 h1]; omega
    · rw [p10 (by omega)]; simp
  obtain ⟨q, hq⟩ : ∃ q, P ^ m = q := ⟨_, rfl⟩
  rw [hq] at p5 p6 HG g1 g2 ⊢
  obtain ⟨qn, hqn⟩ := Int.eq_ofNat_of_zero_le (by omega : 0 ≤ q)
  subst hqn
  have HO := fun (w1 : World) => order_fn P (m : Int) w1
  simp only [p5] at HO
  have hEl : 0 < E.length := List.length_pos_iff.2 hne'
  have HEr := Aside0.mk g2
  clear hs hne hne' hD hE p1 p2 p3 p4 p5 p7 p8 p9 p10 hq hl hw0 hF0 hB0 g2
  rw [Int.toNat_natCast]
  obtain ⟨Lf, hLf⟩ : ∃ L, setLog E 0 (List.replicate qn 0) = L := ⟨_, rfl⟩
  have HLf := Aside0.mk hLf
  rw [hLf]
  have hLl : Lf.length = qn := by rw [← hLf, setLog_length, List.length_replicate]
  have HLl := Aside0.mk hLl
  clear hLf hLl
  have hnil := fun (w1 : World) (a : Option Addr) (n c n' c' : Nat) => Lib.run_eql_slice_nil (P := Try.prog) w1 25 3 a n c n' c' Try.underlying25
  go_enter Try.func37, Try.ntmps37
  go_wp2_with fail
  rw [HW.out]
  have cP := HF.out.p
  have cM := HF.out.m
  have cMod := HF.out.mod
  go_wp2_with (first
    | (go_at_call 63; refine (HS _ HB0.out).out.mono ?_; rintro e w1 ⟨rfl, hB1⟩; have HB01 := Aside0.mk hB1; have HB1 := Aside0.mk (below_later HB0.out HB0.out.size hB1); have cP1 := (HF.out.below hB1).p; have cM1 := (HF.out.below hB1).m; have cMod1 := (HF.out.below hB1).mod; clear hB1)
    | (go_at_call 64; (with_reducible refine (HO _).mono ?_); rintro e w2 ⟨rfl, rfl⟩)
    | (go_at_call 65; refine (HG _ HB1.out).out.mono ?_; rintro e w3 ⟨v3, rfl, hN, hB3⟩; obtain ⟨-, hN⟩ := hN.resolve_left (fun h => by rw [h.1] at hEl; simp at hEl); obtain ⟨ge, ce, ee, hg1, hg2⟩ := hN.form hEl; subst ee; have HN := Aside0.mk hN; have hb03 := below_later HB01.out HB01.out.size hB3; have HB03 := Aside0.mk hb03; have HB3 := Aside0.mk (below_later HB1.out HB1.out.size hB3); have cP3 := (HF.out.below hb03).p; have cM3 := (HF.out.below hb03).m; have cMod3 := (HF.out.below hb03).mod; clear hB3 hN hb03))
  clear hnil cP cM cMod cP1 cM1 cMod1 HO HS HG
  have hmk := fun (W : World) => print_make_of (P := Try.prog) 25 3 (.int .i64 0) 8 Try.underlying25 info3 rfl (by decide) qn (by omega) W
  have HLd := Aside0.mk (Kd.C_below HL.out HB3.out)
  have hlM0 : ([] : List Int).length + Mod.length ≤ 1000000000000 := by simp; omega
  have hq1 : 0 < qn := by omega
  go_cut [6] (fun v6 wc => ∃ g, v6 = .pointer (some ⟨g, 0, none⟩) ∧ NewS w3 wc P m Mod qn E.length ge ce g)
  case first =>
   go_region_held3 (fun w' => w'.cell? ⟨w.heap.size, 0, none⟩ = some (.int .i64 P) ∧ w'.cell? ⟨w.heap.size, 1, none⟩ = some (.int .i64 m) ∧ w'.cell? ⟨w.heap.size, 2, none⟩ = some (.slice A Mod.length c)) (first | exact ⟨‹_›, ‹_›, ‹_›⟩ | go_keep)
    (first
      | (refine append_list_step (w0 := w3) (base := w3.heap.size) (xs := []) (ys := Mod) (by rfl) (.tmp 26) (.tmp 28) rfl rfl rfl ?HO ?hbase ?HR ?HB hlM0 ?_; (case HO => first | exact (own_lit0 _).drewN 1 | exact ((own_lit0 _).below (below_alloc (Below.refl _ _) _)).drewN 1 | exact (((own_lit0_at _ _ (by simp)).lower (by simp)).drewN 1)); (case hbase => first | exact (below_drew (below_alloc (Below.refl _ _) _)).size | exact (below_drew (below_alloc (below_alloc (Below.refl _ _) _) _)).size); (case HR => first | exact Kd.C_below HLd.out (below_drew (below_alloc (Below.refl _ _) _)) | exact Kd.C_below HLd.out (below_drew (below_alloc (below_alloc (Below.refl _ _) _) _))); (case HB => first | exact below_drew (below_alloc (Below.refl _ _) _) | exact below_drew (below_alloc (below_alloc (Below.refl _ _) _) _)); intro v7 w7 hO7 hB7 hg7 ha7; rw [List.nil_append] at hO7; (first | (have HLg := Aside0.mk (log_B w3 w7 qn (by omega) v7 hg7 ha7)) | (have HLg := Aside0.mk (log_C w3 w7 qn (by omega) v7 hg7 ha7)) | (have HLg := Aside0.mk trivial)); clear hg7 ha7; obtain ⟨A7, c7, rfl, hc7, hC7⟩ := hO7.slice; have HC7 := Aside0.mk hC7; clear hC7; have cP7 := pw_cell_below hB7 cP3; have cM7 := pw_cell_below hB7 cM3; have cMod7 := pw_cell_below hB7 cMod3; have HO7 := Aside0.mk hO7; have HB7 := Aside0.mk hB7; clear hO7 hB7))
   all_goals go_wp2
   all_goals go_meet
   case rel => exact ⟨_, rfl, newS_A w3 w7 P m Mod qn E.length ge ce A7 c7 HB7.out hq1 (by omega) HO7.out⟩
   case rel => exact ⟨_, rfl, newS_last w3 w7 P m Mod qn E.length ge ce _ A7 c7 HB7.out HLg.out hq1 HO7.out⟩
   case rel => exact ⟨_, rfl, newS_last w3 w7 P m Mod qn E.length ge ce _ A7 c7 HB7.out HLg.out hq1 HO7.out⟩
  case rest =>
   obtain ⟨g, rfl, HS⟩ := hcut
   obtain ⟨gl, A7, c7, hblk, hol, hom, hdis, hglg, hg3, hbz⟩ := HS.out
   have Hblk := Aside0.mk hblk
   have HOl := Aside0.mk hol
   have HOm := Aside0.mk hom
   have Hdis := Aside0.mk hdis
   have HBz := Aside0.mk hbz
   clear hblk hol hom hdis hbz HS hmk
   go_wp2
   go_loopw [39] (fun v39 w' => ∃ (k : Nat) (L : List Int), v39 = .int .i64 k ∧ k ≤ E.length ∧ Aside0 (L.length = qn) ∧ Aside0 (setLog (E.drop k) k L = Lf) ∧
     Aside0 (w'.heap[g]? = some (.cells #[.int .i64 P, .int .i64 m, .slice A7 Mod.length c7, .int .i64 qn, .slice (some ⟨ge, 0, none⟩) E.length ce, .slice (some ⟨gl, 0, none⟩) qn qn] 107 (0, 0))) ∧
     Aside0 (Own w' w3.heap.size (.slice (some ⟨gl, 0, none⟩) qn qn) L) ∧ Aside0 (Own w' w3.heap.size (.slice A7 Mod.length c7) Mod) ∧ Aside0 (Below w3.heap.size w3 w')) (fun v39 _ => E.length - (intOf v39).toNat)
   case atStart => exact ⟨0, _, rfl, by omega, ⟨List.length_replicate⟩, HLf, Hblk, HOl, HOm, HBz⟩
   case round =>
     clear Hblk HOl HOm HBz HLf
     obtain ⟨k, L, rfl, hk, HLl2, HSt, Hblk, HOl, HOm, HBz⟩ := hrel
     have HNw := HN.out.below HBz.out
     by_cases hlk : k < E.length
     · obtain ⟨hx, -⟩ := HNw.cell k hlk
       obtain ⟨x, hx'⟩ : ∃ x, E.getD k 0 = x := ⟨_, rfl⟩
       rw [hx'] at hx
       have hmem : x ∈ E := by rw [← hx', List.getD_eq_getElem?_getD, List.getElem?_eq_getElem hlk]; exact List.getElem_mem hlk
       obtain ⟨hx0, hx1⟩ := HEr.out x hmem
       obtain ⟨xn, rfl⟩ := Int.eq_ofNat_of_zero_le hx0
       have hxq : xn < qn := by omega
       have hst := HSt.out
       have hdr : E.drop k = (xn : Int) :: E.drop (k + 1) := by
         rw [List.drop_eq_getElem_cons hlk, ← hx']; simp [List.getD_eq_getElem?_getD, hlk]
       rw [hdr] at hst
       simp only [setLog, Int.toNat_natCast] at hst
       have HSt2 := Aside0.mk hst
       obtain ⟨hcl, hfz⟩ := HOl.out.cell' HLl2.out.symm xn hxq
       have c5 : wr.cell? ⟨g, 5, none⟩ = some (.slice (some ⟨gl, 0, none⟩) qn qn) := (blk_cell Hblk.out 5).trans rfl
       have HOl2 := Aside0.mk (HOl.out.set HLl2.out.symm xn (k : Int))
       have HLl3 : Aside0 ((L.set xn (k : Int)).length = qn) := ⟨by rw [List.length_set]; exact HLl2.out⟩
       have Hblk2 := Aside0.mk (blk_far (p := ⟨gl, xn, none⟩) Hblk.out (Ne.symm hglg) (.int .i64 (k : Int)))
       have HOm2 := Aside0.mk (HOm.out.keep (w1 := wr.setCell ⟨gl, xn, none⟩ (.int .i64 (k : Int))) (fun j hj => Below.heap_setCell wr _ _ j (Hdis.out j hj)))
       have HB2 := Aside0.mk (HBz.out.setCell (p := ⟨gl, xn, none⟩) (HOl.out.base_le gl rfl) (.int .i64 (k : Int)))
       clear hx' hmem hst hdr HSt HOl HOm Hblk HNw
       go_wp2
       go_roundw
       case rel => exact ⟨k + 1, _, by go_num, by omega, HLl3, HSt2, Hblk2, HOl2, HOm2, HB2⟩
       case measure => simp [intOf]; omega
     · obtain rfl : k = E.length := by omega
       have hst := HSt.out
       rw [List.drop_length] at hst
       have hst' : L = Lf := hst
       subst hst'
       have hC7 := HOm.out.reads.2
       have hCl := HOl.out.reads.2.2
       have hGF : GFat wr g { P := P, M := m, Mod := Mod, q := qn, exp := E, log := L } := ⟨A7, c7, _, ce, _, qn, (by rw [HLl2.out]; exact Hblk.out), hC7.2, hC7.1, HNw.reads.2.2, hCl⟩
       have HGF := Aside0.mk hGF
       clear hst HSt HNw hC7 hCl hGF
       go_wp2
       go_ret2
       exact ⟨g, rfl, HGF.out, Nat.le_trans HB3.out.size hg3, below_later HB3.out HB3.out.size HBz.out⟩
end Go.Proofs.Yticgblagimmlfaa
