/- powers. -/
import Derived.Test.YticgblagimmlfaaG12
namespace Go.Proofs.Yticgblagimmlfaa
open Go.RowKit Go.Proofs.YticgblagimmlfaaW.PrintWords Go.Proofs.YticgblagimmlfaaW.PrintLast Go.Proofs.YticgblagimmlfaaW.PrintMore
set_option linter.unusedVariables false
set_option linter.unusedSimpArgs false

section
variable {ops : Array Oper} {rest : List Oper} {o : Oper} {a : Act} {Q : Exit → Act → World → Prop}
theorem append_own {w0 W : World} (base : Nat) (hgd : o.guard = none) (s x : Operand) (ho : o.op = .call { callee := .builtin .append, args := #[s, x], argTypes := #[25, 25] })
    {v : Value} {xs : List Int} (p : Int) (hs : a.eval s = v) (hx : a.eval x = .slice (some ⟨W.heap.size, 0, none⟩) 1 1) (HO : Own W base v xs) (HB : Below base w0 W) (hbase : base ≤ W.heap.size) (hl : xs.length ≤ 1000000000000)
    (h : ∀ v1 w1, Own w1 base v1 (xs ++ [p]) → Below base w0 w1 → W.grownBy w1 v.ownBlock → wpList Try.prog ops Q rest (a.put o.dst v1) w1) :
    wpList Try.prog ops Q (o :: rest) a (W.alloc (.cells #[.int .i64 p] 3)) := by
  refine Kd.R_append (Kd.int .i64) (w0 := w0) base hgd s x 25 3 (.int .i64 0) 8 ho Try.underlying25 info3 rfl (by decide) (by omega) v xs p [.int .i64 p] (fun _ => True) (fun _ => False) hs hx rfl (fun _ hk => hk.elim) (fun _ _ => trivial) HO.out HB hbase (by omega) ?_
  intro v1 w1 h1 h2 h3 _
  exact h v1 w1 ⟨h1⟩ h2 h3
end

/-- Numbers and bools lie in different blocks. -/
theorem own_ne_ownB {w : World} {base base' g n c : Nat} {v : Value} {l : List Int} {B : List Bool} (h : Own w base v l) (hb : OwnB w base' (.slice (some ⟨g, 0, none⟩) n c) B) : v.ownBlock ≠ some g := by
  intro e
  obtain ⟨c1, h1⟩ := Kd.R_typed h.out g e
  obtain ⟨c2, h2⟩ := Kd.R_typed hb.out g rfl
  rw [h1] at h2
  injection h2 with h2
  injection h2 with _ h3
  cases h3
theorem OwnB.grown {w w1 : World} {base : Nat} {v : Value} {l : List Bool} (h : OwnB w base v l) {row : Option Nat} (hg : w.grownBy w1 row) (hne : ∀ k, v.ownBlock = some k → some k ≠ row) : OwnB w1 base v l :=
  h.keep fun k hk => hg.block k (by
    obtain ⟨c, hc⟩ := Kd.R_typed h.out k hk
    exact (Array.getElem?_eq_some_iff.1 hc).1) (hne k hk)
theorem Own.setB {w : World} {base base' g n c : Nat} {v : Value} {l : List Int} {B : List Bool} (h : Own w base v l) (hb : OwnB w base' (.slice (some ⟨g, 0, none⟩) n c) B) (k : Nat) (u : Value) : Own (w.setCell ⟨g, k, none⟩ u) base v l :=
  h.keep fun j hj => Below.heap_setCell w _ u j (by
    intro e
    exact own_ne_ownB h hb (by rw [hj, e]))

theorem powers_any {w : World} {A : Option Addr} {c : Nat} (P : Int) (M : Nat) {Mod : List Int} (hl : Kd.C (Kd.int .i64) w A Mod.length Mod) (hP : 2 ≤ P) (hP2 : P ≤ 256) (hM : 1 ≤ M) (hM2 : M ≤ 8) (hq : P ^ M ≤ 256)
    (hMod : 1 < M → Mod.length = M) (hm : ∀ d ∈ Mod, 0 ≤ d ∧ d < P) (q : Int) (hqe : q = P ^ M) (x : Int) (hx : 0 ≤ x) (hx2 : x < q) (fuel : Nat) {R : List Int} (hfu : fuel ≤ 1000000)
    (hR : powLoop (fun y => mulZ P M Mod y x) fuel [1] x = some R) :
    Calls Try.prog 101 #[.agg #[.int .i64 P, .int .i64 M, .slice A Mod.length c], .int .i64 q, .int .i64 x] w fun e w' => ∃ v, e = .returned v ∧ Own w' w.heap.size v R ∧ Below w.heap.size w w' := by
  have HL := Aside0.mk hl
  have HMod := Aside0.mk hMod
  have HM := Aside0.mk hm
  have HQ := Aside0.mk hq
  have HQe := Aside0.mk hqe
  have HR := Aside0.mk hR
  have hq256 : q ≤ 256 := by omega
  have hq2 : 2 ≤ q := by
    have := pow_le_pow P hP 1 M hM
    rw [Int.pow_one] at this
    omega
  obtain ⟨qn, hqn⟩ := Int.eq_ofNat_of_zero_le (by omega : 0 ≤ q)
  have HQN := Aside0.mk hqn
  have hqn1 : 1 < qn := by omega
  have hqn2 : qn ≤ 256 := by omega
  have hF0 := FAt.new w P M A Mod.length c
  obtain ⟨w0, hw0⟩ : ∃ w0, w.alloc (.cells #[.int .i64 P, .int .i64 M, .slice A Mod.length c] 27) = w0 := ⟨_, rfl⟩
  have hB0 : Below w.heap.size w w0 := by rw [← hw0]; exact below_alloc (Below.refl _ _) _
  have hsz : w0.heap.size = w.heap.size + 1 := by rw [← hw0]; simp
  rw [hw0] at hF0
  have HF := Aside0.mk hF0
  have HB0 := Aside0.mk hB0
  have HW := Aside0.mk hw0
  have HSz := Aside0.mk hsz
  clear hl hMod hm hq hqe hR hqn hF0 hB0 hw0 hsz
  go_enter Try.func101, Try.ntmps101
  go_wp2_with ((with_reducible refine gate_dst (N := 12) rfl ?_); refine make_ownbI rfl (N := 12) rfl _ _ rfl HQN rfl rfl (by omega) ?_; intro v w2 hO hB; have hO1 := hO.form (by rw [List.length_replicate]; omega); obtain ⟨s, cs, es, hs1, hs2⟩ := hO1; rw [List.length_replicate] at es; subst es; have hrl : (List.replicate qn false).length = qn := List.length_replicate; obtain ⟨hcl, hfz⟩ := hO.cell' hrl.symm 1 hqn1; have HO := Aside0.mk hO; have HB := Aside0.mk hB; clear hO hB hrl)
  rw [HW.out] at HO HB hs1
  have hlit := own_lit1 w0 1
  have hlit2 := (hlit.below HB.out).setB HO.out 1 (.bool true)
  have HOut : Aside0 (Own (w2.setCell ⟨s, 1, none⟩ (.bool true)) w0.heap.size (.slice (some ⟨w.heap.size + 1, 0, none⟩) 1 1) [1]) := ⟨by rw [← HSz.out]; exact hlit2⟩
  have HSe := Aside0.mk ((HO.out.set List.length_replicate.symm 1 true).lower (below_alloc (Below.refl w0.heap.size w0) (.cells #[.int .i64 1] 3)).size)
  have hbb := below_alloc (Below.refl w0.heap.size w0) (.cells #[.int .i64 1] 3)
  have HBz := Aside0.mk ((below_later hbb hbb.size HB.out).setCell (p := ⟨s, 1, none⟩) (Nat.le_trans hbb.size hs1) (.bool true))
  have HSn : Aside0 (SeenIs ((List.replicate qn false).set 1 true) qn [1]) := ⟨(SeenIs.start qn).step 1 hqn1⟩
  obtain ⟨b, hb⟩ : ∃ b, w.heap.size = b := ⟨_, rfl⟩
  have Hb := Aside0.mk hb
  rw [hb] at HF HOut ⊢
  clear hlit hlit2 hbb hcl hfz hs1 hs2 HB HO HSz HW hb
  obtain ⟨wi, hwi⟩ : ∃ wi, w2.setCell ⟨s, 1, none⟩ (.bool true) = wi := ⟨_, rfl⟩
  rw [hwi] at HOut HSe HBz ⊢
  clear hwi
  go_loopg [7, 9] fuel (fun kq v7 v9 w' => ∃ (out : List Int) (y : Int) (S : List Bool), v9 = .int .i64 y ∧ 0 ≤ y ∧ y < q ∧ out.length + kq ≤ fuel + 1 ∧ kq ≤ fuel ∧ Aside0 (powLoop (fun y => mulZ P M Mod y x) kq out y = some R) ∧ Aside0 (SeenIs S qn out) ∧
    Aside0 (Own w' w0.heap.size v7 out) ∧ Aside0 (OwnB w' w0.heap.size (.slice (some ⟨s, 0, none⟩) qn cs) S) ∧ Aside0 (Below w0.heap.size w0 w'))
  case atStart => exact ⟨[1], x, _, rfl, hx, hx2, by simp; omega, Nat.le_refl _, HR, HSn, HOut, HSe, HBz⟩
  case round =>
    clear HOut HSe HBz HSn HR
    obtain ⟨out, y, S, rfl, hy1, hy2, hol, hkq, HR, HSn, HO, HS, HB⟩ := hrel
    cases gk with
    | zero => exact absurd HR.out (by simp [powLoop])
    | succ k1 =>
      have hr := HR.out
      simp only [powLoop] at hr
      obtain ⟨Ao, co, rfl, hco, hCo⟩ := HO.out.slice
      by_cases hy0 : y = 0
      · rw [if_pos hy0] at hr
        have hrr := Option.some.inj hr
        subst hy0
        have HRR := Aside0.mk hrr
        clear hr hrr HR hCo
        go_wp2
        go_ret
        exact ⟨_, rfl, by rw [← HRR.out]; exact HO.out.lower HB0.out.size, below_later HB0.out HB0.out.size HB.out⟩
      · rw [if_neg hy0] at hr
        have hyb : (y == 0) = false := by simp [hy0]
        have hyb2 : (y != 0) = true := by simp [hy0]
        obtain ⟨yn, hyn⟩ := Int.eq_ofNat_of_zero_le hy1
        have hynq : yn < qn := by have := HQN.out; omega
        have hSl := HSn.out.1
        obtain ⟨hcs, hfs⟩ := HS.out.cell' hSl.symm yn hynq
        subst hyn
        by_cases hin : (yn : Int) ∈ out
        · rw [if_pos hin] at hr
          have hrr := Option.some.inj hr
          have htr := (HSn.out.2 yn hynq).2 hin
          rw [htr] at hcs
          have HRR := Aside0.mk hrr
          clear hr hrr HR hCo hSl htr hin hy0
          go_wp2
          go_ret
          exact ⟨_, rfl, by rw [← HRR.out]; exact HO.out.lower HB0.out.size, below_later HB0.out HB0.out.size HB.out⟩
        · rw [if_neg hin] at hr
          have hfa := HSn.out.no yn hynq hin
          rw [hfa] at hcs
          have HSn2 := Aside0.mk (HSn.out.step yn hynq)
          have HS2 := Aside0.mk (HS.out.set hSl.symm yn true)
          have HO2 := Aside0.mk (HO.out.setB HS.out yn (.bool true))
          have HB2 := Aside0.mk (HB.out.setCell (p := ⟨s, yn, none⟩) (HS.out.base_le s rfl) (.bool true))
          have HR2 := Aside0.mk hr
          have hmr := val_digs_range P hP M hM Mod (yn : Int) x HQ.out
          rw [← HQe.out] at hmr
          obtain ⟨hmr1, hmr2⟩ := hmr
          clear hr HR hCo hSl hfa hin hy0
          have hszw : (wr.setCell ⟨s, yn, none⟩ (.bool true)).heap.size = wr.heap.size := by simp [World.setCell]
          have HSzw := Aside0.mk hszw
          clear hszw
          go_wp2_with (first
            | ((with_reducible refine gate_builtin (b := .append) (xs := #[.tmp 32, .tmp 34]) rfl ?_); at_builtin; refine append_own (w0 := w0) w0.heap.size rfl (.tmp 32) (.tmp 34) rfl (v := .slice Ao out.length co) (xs := out) (yn : Int) rfl (by rw [HSzw.out]; rfl) HO2.out HB2.out HB2.out.size (by omega) ?_; intro v5 w5 h5 hb5 hg5; have HO5 := Aside0.mk h5; have HB5 := Aside0.mk hb5; have HS5 := Aside0.mk (HS2.out.grown hg5 (by intro k hk; exact fun e => own_ne_ownB HO2.out HS2.out (by rw [← e, ← hk]; rfl))); have cP5 := (HF.out.below hb5).p; have cM5 := (HF.out.below hb5).m; have cMod5 := (HF.out.below hb5).mod; clear h5 hb5 hg5)
            | (go_at_call 102; refine (multiply_any (c := c) P M (Kd.C_below HL.out (below_later HB0.out HB0.out.size HB5.out)) hP hP2 hM hM2 HQ.out HMod.out HM.out (yn : Int) x (by omega) (by omega) hx (by omega)).mono ?_; rintro e w6 ⟨rfl, hB6⟩; have HO6 := Aside0.mk (HO5.out.below hB6); have HS6 := Aside0.mk (HS5.out.below hB6); have HB6 := Aside0.mk (below_later HB5.out HB5.out.size hB6); clear hB6))
          go_roundg k1
          case measure => omega
          case rel => exact ⟨out ++ [(yn : Int)], _, _, rfl, hmr1, hmr2, by rw [List.length_append]; simp only [List.length_cons, List.length_nil]; omega, by omega, HR2, HSn2, HO6, HS6, HB6⟩
end Go.Proofs.Yticgblagimmlfaa
