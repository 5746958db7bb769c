/- bounded.result. -/
import Derived.Test.YticgblagimmlfaaG21
import Derived.Laws.ResultCell
namespace Go.Proofs.Yticgblagimmlfaa
open Go.RowKit Go.Proofs.YticgblagimmlfaaW.PrintWords Go.Proofs.YticgblagimmlfaaW.PrintLast Go.Proofs.YticgblagimmlfaaW.PrintMore
set_option linter.unusedVariables false
set_option linter.unusedSimpArgs false

/-- A decoded word, as a value. -/
def DecIs (w : World) (v : Value) (r : List Int × List Int × Int) : Prop := ∃ v1 v2, v = .agg #[v1, v2] ∧ Rd w v1 r.1 ∧ Rd w v2 r.2.1

/-- The two boxed results on the way. -/
structure RSt (w : World) (b : Nat) (vc ve : Value) : Prop where
  r0 : w.cell? ⟨b, 0, none⟩ = some (.slice none 0 0)
  r1 : w.cell? ⟨b, 1, none⟩ = some (.slice none 0 0)
  f0 : w.frozen? ⟨b, 0, none⟩ = false
  f1 : w.frozen? ⟨b, 1, none⟩ = false
  c0 : w.cell? ⟨b + 1, 0, none⟩ = some vc
  c1 : w.cell? ⟨b + 1, 1, none⟩ = some ve
  f2 : w.frozen? ⟨b + 1, 1, none⟩ = false
theorem RSt.new (w : World) (vc ve : Value) : RSt ((w.alloc (.cells #[.slice none 0 0, .slice none 0 0] 34)).alloc (.cells #[vc, ve] 34)) w.heap.size vc ve := by
  have hs : (w.alloc (.cells #[.slice none 0 0, .slice none 0 0] 34)).heap.size = w.heap.size + 1 := by simp
  have h1 := (blk_cell (heap_alloc_new (w.alloc (.cells #[.slice none 0 0, .slice none 0 0] 34)) (.cells #[vc, ve] 34)) 0)
  have h2 := (blk_cell (heap_alloc_new (w.alloc (.cells #[.slice none 0 0, .slice none 0 0] 34)) (.cells #[vc, ve] 34)) 1)
  rw [hs] at h1 h2
  have hb := below_alloc (Below.refl (w.alloc (.cells #[.slice none 0 0, .slice none 0 0] 34)).heap.size (w.alloc (.cells #[.slice none 0 0, .slice none 0 0] 34))) (.cells #[vc, ve] 34)
  exact ⟨pw_cell_below hb (cell_alloc2_0 _ _ _ _), pw_cell_below hb (cell_alloc2_1 _ _ _ _), World.frozen?_alloc2_first _ _ _ _, World.frozen?_alloc2_first _ _ _ _, h1.trans rfl, h2.trans rfl, World.frozen?_alloc2_new _ _ _ _⟩
theorem RSt.below {w w1 : World} {b : Nat} {vc ve : Value} (h : RSt w b vc ve) (hb : Below (b + 2) w w1) : RSt w1 b vc ve :=
  ⟨(hb.cell (by simp)).trans h.r0, (hb.cell (by simp)).trans h.r1, (hb.frozen (by simp)).trans h.f0, (hb.frozen (by simp)).trans h.f1, (hb.cell (by simp)).trans h.c0, (hb.cell (by simp)).trans h.c1, (hb.frozen (by simp)).trans h.f2⟩
theorem RSt.drewN {w : World} {b : Nat} {vc ve : Value} (h : RSt w b vc ve) (n : Nat) : RSt (w.drewN n) b vc ve := h.below (pw_below_drewN (Below.refl _ _) n)
theorem RSt.set {w : World} {b : Nat} {vc ve : Value} (h : RSt w b vc ve) (v : Value) : RSt (w.setCell ⟨b + 1, 1, none⟩ v) b vc v := by
  refine ⟨?_, ?_, ?_, ?_, ?_, World.cell?_setCell_same _ _ _ h.c1, ?_⟩
  · rw [World.cell?_setCell_other _ _ _ _ (by simp)]; exact h.r0
  · rw [World.cell?_setCell_other _ _ _ _ (by simp)]; exact h.r1
  · rw [World.frozen?_setCell]; exact h.f0
  · rw [World.frozen?_setCell]; exact h.f1
  · rw [World.cell?_setCell_other _ _ _ _ (by simp)]; exact h.c0
  · rw [World.frozen?_setCell]; exact h.f2
theorem RSt.last {w : World} {b : Nat} {vc ve : Value} (h : RSt w b vc ve) (v0 v1 : Value) : ((w.setCell ⟨b, 0, none⟩ v0).setCell ⟨b, 1, none⟩ v1).cell? ⟨b, 0, none⟩ = some v0 ∧ ((w.setCell ⟨b, 0, none⟩ v0).setCell ⟨b, 1, none⟩ v1).cell? ⟨b, 1, none⟩ = some v1 := by
  refine ⟨?_, World.cell?_setCell_same _ _ _ (u := .slice none 0 0) ?_⟩
  · rw [World.cell?_setCell_other _ _ _ _ (by simp)]
    exact World.cell?_setCell_same _ _ _ h.r0
  · rw [World.cell?_setCell_other _ _ _ _ (by simp)]; exact h.r1
theorem results34 {fn : Func} {p u : Tmp} (h : fn.results = #[.cell p 34, .tmp u]) {a : Act} {w : World} {b : Nat} {v0 v1 : Value} (hp : a.tmps.getD p undef = .pointer (some ⟨b, 0, none⟩)) (c0 : w.cell? ⟨b, 0, none⟩ = some v0) (c1 : w.cell? ⟨b, 1, none⟩ = some v1) {R : Ending → World → Prop} (hd : a.defers = [])
    (hR : R (.returned (.tuple #[.agg #[v0, v1], a.tmps.getD u undef])) w) : bodyPost Try.prog fn R .ret a w := by
  refine bodyPost_ret (v := .tuple #[.agg #[v0, v1], a.tmps.getD u undef]) ?_ hd hR
  rw [results_cell_tmp h, hp]
  go_simp
theorem result_any {w : World} {A B E : Option Addr} {cc dd ee : Nat} {c l : List Int} {er : List Bool} (t : Int) (hc : Kd.C (Kd.int .i64) w A c.length c) (hcc : c.length ≤ cc) (hl : Kd.C (Kd.int .i64) w B l.length l) (he : Kd.bool.C w E er.length er) (h1 : l.length = c.length) (h2 : er.length = c.length) (hb : c.length ≤ 1000) :
    Calls Try.prog 41 #[.slice A c.length cc, .slice B l.length dd, .slice E er.length ee, .int .i64 t] w fun e w' => ∃ v, e = .returned (.tuple #[v, .int .i64 (resultZ c l er t).2.2]) ∧ DecIs w' v (resultZ c l er t) ∧ Below w.heap.size w w' := by
  have HC := Aside0.mk hc
  have HL := Aside0.mk hl
  have HE := Aside0.mk he
  obtain ⟨R, hR⟩ : ∃ R, resultZ c l er t = R := ⟨_, rfl⟩
  rw [hR]
  have HR := Aside0.mk hR
  have H1 := Aside0.mk h1
  have H2 := Aside0.mk h2
  have HB := Aside0.mk (Below.refl w.heap.size w)
  clear hc hl he hR h1 h2
  go_enter Try.func41, Try.ntmps41
  go_wp2
  have HS := Aside0.mk (RSt.new w (.slice A c.length cc) (.slice none 0 0))
  have HB := Aside0.mk (below_alloc (below_alloc (Below.refl w.heap.size w) (.cells #[.slice none 0 0, .slice none 0 0] 34)) (.cells #[.slice A c.length cc, .slice none 0 0] 34))
  obtain ⟨b, hbb⟩ : ∃ b, w.heap.size = b := ⟨_, rfl⟩
  have HOz := Aside0.mk (Own.nil ((w.alloc (.cells #[.slice none 0 0, .slice none 0 0] 34)).alloc (.cells #[.slice A c.length cc, .slice none 0 0] 34)) (b + 2))
  have HZ : Aside0 (b + 2 ≤ ((w.alloc (.cells #[.slice none 0 0, .slice none 0 0] 34)).alloc (.cells #[.slice A c.length cc, .slice none 0 0] 34)).heap.size) := ⟨by simp; omega⟩
  have Hb := Aside0.mk hbb
  rw [hbb] at HS HB ⊢
  obtain ⟨wi, hwi⟩ : ∃ wi, ((w.alloc (.cells #[.slice none 0 0, .slice none 0 0] 34)).alloc (.cells #[.slice A c.length cc, .slice none 0 0] 34)) = wi := ⟨_, rfl⟩
  rw [hwi] at HS HB HOz HZ ⊢
  clear hwi hbb
  go_loopw [11, 16] (fun v11 v16 w' => ∃ (k : Nat) (ve : Value), v16 = .int .i64 k ∧ k ≤ c.length ∧ Aside0 (RSt w' b (.slice A c.length cc) ve) ∧ Aside0 (Own w' (b + 2) ve (diffZ c l er k)) ∧ Aside0 (b + 2 ≤ w'.heap.size) ∧ Aside0 (Below b w w')) (fun _ v16 _ => c.length - (intOf v16).toNat)
  case atStart => exact ⟨0, _, rfl, by omega, HS, HOz, HZ, HB⟩
  case round =>
    clear HS HOz HZ HB
    obtain ⟨k, ve, rfl, hk, HS, HO, HZ, HB⟩ := hrel
    have hdl := diffZ_length c l er k
    by_cases hlk : k < c.length
    · have hwb : Below w.heap.size w wr := by rw [Hb.out]; exact HB.out
      have hdk := diffZ_succ c l er k
      obtain ⟨d0, hd0⟩ : ∃ d0, diffZ c l er k = d0 := ⟨_, rfl⟩
      rw [hd0] at hdk HO hdl
      obtain ⟨ad, e, hx⟩ := C_nat (Kd.C_below HC.out hwb) k hlk
      cases e
      obtain ⟨ad2, e, hy⟩ := C_nat (Kd.C_below HL.out hwb) k (by have := H1.out; omega)
      cases e
      obtain ⟨ad3, e, hz⟩ := CB_nat (Kd.C_below HE.out hwb) k (by have := H2.out; omega)
      cases e
      have hk1 : k < l.length := by have := H1.out; omega
      have hk2 : k < er.length := by have := H2.out; omega
      obtain ⟨x, hx'⟩ : ∃ x, c.getD k 0 = x := ⟨_, rfl⟩
      rw [hx'] at hx hdk
      obtain ⟨y, hy'⟩ : ∃ x, l.getD k 0 = x := ⟨_, rfl⟩
      rw [hy'] at hy hdk
      obtain ⟨z, hz'⟩ : ∃ x, er.getD k false = x := ⟨_, rfl⟩
      rw [hz'] at hz hdk
      cases hzc : (!z && (x != y)) with
      | false =>
        rw [hzc, if_neg (by simp)] at hdk
        have HO2 : Aside0 (Own wr (b + 2) ve (diffZ c l er (k + 1))) := ⟨by rw [hdk]; exact HO.out⟩
        have HS2 := HS
        clear hx' hy' hz' hdk hd0 HS hwb
        cases z with
        | true =>
          clear hzc
          go_wp2
          go_quiet (fail)
          go_wp2
          go_roundw
          case rel => exact ⟨k + 1, ve, by go_num, by omega, ⟨HS2.out.drewN _⟩, ⟨HO2.out.drewN _⟩, by simpa using HZ, ⟨pw_below_drewN HB.out _⟩⟩
          case measure => simp [intOf]; omega
        | false =>
          have hxy : (x != y) = false := by simpa using hzc
          clear hzc
          go_wp2
          go_quiet (fail)
          go_wp2
          go_roundw
          case rel => exact ⟨k + 1, ve, by go_num, by omega, ⟨HS2.out.drewN _⟩, ⟨HO2.out.drewN _⟩, by simpa using HZ, ⟨pw_below_drewN HB.out _⟩⟩
          case measure => simp [intOf]; omega
      | true =>
        rw [hzc, if_pos rfl] at hdk
        rw [Bool.and_eq_true] at hzc
        obtain ⟨hz1, hxy⟩ := hzc
        have hz2 : z = false := by simpa using hz1
        subst hz2
        have HDK := Aside0.mk hdk
        clear hx' hy' hz' hdk hd0 hz1 hwb
        go_wp2
        go_quiet (fail)
        obtain ⟨wq, hwq⟩ : ∃ wq : World, wr.drewN nq = wq := ⟨_, rfl⟩
        have HOq := Aside0.mk (HO.out.drewN nq)
        have HSq := Aside0.mk (HS.out.drewN nq)
        have HBq := Aside0.mk (pw_below_drewN HB.out nq)
        have HZq : Aside0 (b + 2 ≤ (wr.drewN nq).heap.size) := by simpa using HZ
        rw [hwq] at HOq HSq HBq HZq ⊢
        clear hwq HO HS HB HZ
        have hHS := HSq.out
        have c1 := hHS.c1
        have f2 := hHS.f2
        clear hHS
        go_wp2_with ((with_reducible refine gate_builtin (b := .append) (xs := #[.tmp 36, .tmp 38]) rfl ?_); at_builtin; refine append_own (w0 := wq) (b + 2) rfl (.tmp 36) (.tmp 38) rfl (v := ve) (xs := d0) (k : Int) rfl rfl HOq.out (Below.refl _ _) HZq.out (by omega) ?_; intro v5 w5 h5 hb5 hg5; obtain ⟨A5, c5, e5, -, -⟩ := h5.slice; subst e5; have HO5 := Aside0.mk h5; have HB5 := Aside0.mk hb5; have hS5 := HSq.out.below hb5; have c15 := hS5.c1; have f25 := hS5.f2; have HS5 := Aside0.mk hS5; clear h5 hb5 hg5 hS5)
        go_roundw
        case rel => exact ⟨k + 1, _, by go_num, by omega, ⟨HS5.out.set _⟩, ⟨by rw [HDK.out]; have q := HO5.out.far (p := ⟨b + 1, 1, none⟩) (Nat.lt_succ_self _) (.slice A5 (d0 ++ [(k : Int)]).length c5); rw [show (d0 ++ [(k : Int)]).length = d0.length + 1 from by simp] at q; exact q⟩, ⟨by rw [World.size_setCell]; exact Nat.le_trans HZq.out HB5.out.size⟩, ⟨(Below.trans HBq.out (HB5.out.mono (by omega))).setCell (by simp) _⟩⟩
        case measure => simp [intOf]; omega
    · obtain rfl : k = c.length := by omega
      obtain ⟨Ae, ce, rfl, hce, hCe⟩ := HO.out.slice
      obtain ⟨d0, hd0⟩ : ∃ d0, diffZ c l er c.length = d0 := ⟨_, rfl⟩
      have hrr := HR.out
      unfold resultZ at hrr
      rw [hd0] at hrr hCe HO HS hdl hce
      rw [hd0] at *
      clear hd0 HR
      have r0 := HS.out.r0
      have r1 := HS.out.r1
      have f0 := HS.out.f0
      have f1 := HS.out.f1
      have c0 := HS.out.c0
      have c1 := HS.out.c1
      by_cases ht : (d0.length : Int) > t
      · rw [if_pos ht] at hrr
        subst hrr
        obtain ⟨q0, q1⟩ := HS.out.last (.slice none 0 0) (.slice none 0 0)
        clear hCe
        go_wp2
        refine results34 rfl rfl q0 q1 rfl ?_
        exact ⟨_, rfl, ⟨_, _, rfl, Rd.nil _, Rd.nil _⟩, by rw [Hb.out]; exact (HB.out.setCell (by simp) _).setCell (by simp) _⟩
      · rw [if_neg ht] at hrr
        have htb : decide (t < (d0.length : Int)) = false := by simp; omega
        subst hrr
        obtain ⟨q0, q1⟩ := HS.out.last (.slice A c.length cc) (.slice Ae d0.length ce)
        have HCe := Aside0.mk hCe
        clear hCe ht
        go_wp2
        refine results34 rfl rfl q0 q1 rfl ?_
        have hbz : Below b wr ((wr.setCell ⟨b, 0, none⟩ (.slice A c.length cc)).setCell ⟨b, 1, none⟩ (.slice Ae d0.length ce)) := ((Below.refl _ _).setCell (by simp) _).setCell (by simp) _
        have hwz := Below.trans HB.out hbz
        refine ⟨_, rfl, ⟨_, _, rfl, ⟨A, cc, rfl, hcc, Kd.C_below HC.out (by rw [Hb.out]; exact hwz)⟩, ((HO.out.far (p := ⟨b, 0, none⟩) (by simp) _).far (p := ⟨b, 1, none⟩) (by simp) _).rd⟩, by rw [Hb.out]; exact hwz⟩
end Go.Proofs.Yticgblagimmlfaa
