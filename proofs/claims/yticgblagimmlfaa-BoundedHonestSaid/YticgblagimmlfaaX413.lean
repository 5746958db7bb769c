/- Rows in memory that are written. -/
import Derived.Test.YticgblagimmlfaaX412
import Derived.Test.YticgblagimmlfaaX406
namespace Go.Proofs.Yticgblagimmlfaa
open Go.RowKit Go.Proofs.YticgblagimmlfaaW.PrintWords Go.Proofs.YticgblagimmlfaaW.PrintLast Go.Proofs.YticgblagimmlfaaW.PrintMore
set_option linter.unusedVariables false
set_option linter.unusedSimpArgs false

structure OA (w : World) (base : Nat) (A : Option Addr) (ls : List (List Int)) : Prop where mk ::
  out : ∀ i, i < ls.length → ∃ g v, A = some ⟨g, 0, none⟩ ∧ base ≤ g ∧ w.cell? ⟨g, i, none⟩ = some v ∧ w.frozen? ⟨g, i, none⟩ = false ∧ Rd w v (ls.getD i [])
  inb : ∀ i, i < ls.length → ∀ g v k, A = some ⟨g, 0, none⟩ → w.cell? ⟨g, i, none⟩ = some v → 0 < (ls.getD i []).length → v.ownBlock = some k → base ≤ k
  blk : ∀ g, A = some ⟨g, 0, none⟩ → 0 < ls.length → ∃ cs, w.heap[g]? = some (.cells cs 25 (0, 0))
theorem OA.at {w : World} {base : Nat} {A : Option Addr} {ls : List (List Int)} (h : OA w base A ls) (i : Nat) (hi : i < ls.length) :
    ∃ g B d, A = some ⟨g, 0, none⟩ ∧ base ≤ g ∧ w.cell? ⟨g, i, none⟩ = some (.slice B (ls.getD i []).length d) ∧ w.frozen? ⟨g, i, none⟩ = false ∧ (ls.getD i []).length ≤ d ∧ Kd.C (Kd.int .i64) w B (ls.getD i []).length (ls.getD i []) := by
  obtain ⟨g, v, e, hb, hc, hf, hr⟩ := h.out i hi
  obtain ⟨B, d, rfl, hl, hC⟩ := hr.out
  exact ⟨g, B, d, e, hb, hc, hf, hl, hC⟩
theorem OA.lower {w : World} {base b2 : Nat} {A : Option Addr} {ls : List (List Int)} (h : OA w base A ls) (hb : b2 ≤ base) : OA w b2 A ls :=
  ⟨fun i hi => by obtain ⟨g, v, e, hb', hr⟩ := h.out i hi; exact ⟨g, v, e, Nat.le_trans hb hb', hr⟩, fun i hi g v k e hc h0 hk => Nat.le_trans hb (h.inb i hi g v k e hc h0 hk), h.blk⟩
theorem OA.below {w w1 : World} {base : Nat} {A : Option Addr} {ls : List (List Int)} (h : OA w base A ls) (hb : Below w.heap.size w w1) : OA w1 base A ls :=
  ⟨fun i hi => by
    obtain ⟨g, v, e, hb', hc, hf, hr⟩ := h.out i hi
    exact ⟨g, v, e, hb', pw_cell_below hb hc, (hb.frozen (World.block_lt_of_cell? w _ hc)).trans hf, hr.below hb⟩,
  fun i hi g v k e hc h0 hk => by
    obtain ⟨g', v', e', -, hc', -, -⟩ := h.out i hi
    rw [e] at e'
    cases e'
    have := pw_cell_below hb hc'
    rw [hc] at this
    cases this
    exact h.inb i hi g v k e hc' h0 hk,
  fun g e hp => by obtain ⟨cs, hc⟩ := h.blk g e hp; exact ⟨cs, blk_below hc hb⟩⟩
theorem OA.set {w : World} {base g k : Nat} {ls : List (List Int)} (h : OA w base (some ⟨g, 0, none⟩) ls) (hk : k < ls.length) {v : Value} {r : List Int} (hr : Rd w v r) (hin : ∀ b, v.ownBlock = some b → base ≤ b) : OA (w.setCell ⟨g, k, none⟩ v) base (some ⟨g, 0, none⟩) (ls.set k r) :=
  ⟨fun i hi => by
    rw [List.length_set] at hi
    obtain ⟨g', B, d, e, hb', hc, hf, hl, hC⟩ := h.at k hk
    cases e
    obtain ⟨g', v', e, hb2, hc2, hf2, hr2⟩ := h.out i hi
    cases e
    by_cases hik : i = k
    · subst hik
      refine ⟨g, v, rfl, hb', World.cell?_setCell_same _ _ _ hc, by rw [World.frozen?_setCell]; exact hf, ?_⟩
      rw [List.getD_eq_getElem?_getD, List.getElem?_set_self hi]
      exact hr.setSlot hc _
    · refine ⟨g, v', rfl, hb', by rw [World.cell?_setCell_other _ _ _ _ (by simp)]; exact hc2, by rw [World.frozen?_setCell]; exact hf2, ?_⟩
      rw [List.getD_eq_getElem?_getD, List.getElem?_set_ne (fun e => hik e.symm), ← List.getD_eq_getElem?_getD]
      exact hr2.setSlot hc _,
  fun i hi g' v' b e hc h0 hb => by
    cases e
    rw [List.length_set] at hi
    by_cases hik : i = k
    · subst hik
      obtain ⟨g', v2, e', -, hc', -, -⟩ := h.out i hi
      cases e'
      rw [World.cell?_setCell_same _ _ _ hc'] at hc
      cases hc
      exact hin b hb
    · rw [World.cell?_setCell_other _ _ _ _ (by simp)] at hc
      rw [List.getD_eq_getElem?_getD, List.getElem?_set_ne (fun e => hik e.symm), ← List.getD_eq_getElem?_getD] at h0
      exact h.inb i hi g v' b rfl hc h0 hb,
  fun g' e hp => by
    cases e
    rw [List.length_set] at hp
    obtain ⟨cs, hc⟩ := h.blk g rfl hp
    exact ⟨_, blk_set hc k v⟩⟩
theorem Own.setRow {w : World} {base : Nat} {v : Value} {l : List Int} (h : Own w base v l) {g : Nat} {cs : Array Value} (hg : w.heap[g]? = some (.cells cs 25 (0, 0))) (k : Nat) (u : Value) : Own (w.setCell ⟨g, k, none⟩ u) base v l :=
  h.keep fun b hb => Below.heap_setCell w ⟨g, k, none⟩ u b (by
    rintro rfl
    obtain ⟨cells, hc⟩ := Kd.R_typed h.out _ hb
    rw [hg] at hc
    injection hc with hc
    injection hc with _ ht
    cases ht)
theorem add_block (a : Addr) (n : Nat) : (a.add n).block = a.block := by unfold Addr.add; split <;> rfl
theorem Rd.keepBlk {w w1 : World} {v : Value} {l : List Int} (h : Rd w v l) (hk : ∀ k, v.ownBlock = some k → k < w.heap.size → w1.heap[k]? = w.heap[k]?) : Rd w1 v l := by
  obtain ⟨A, c, rfl, hl, hC⟩ := h.out
  have hR : ReadsOf (Value.int .i64) 0 w A l.length l := Kd.reads_of_C hC
  refine ⟨A, c, rfl, hl, Kd.C_of_reads (enc := Value.int .i64) (d := 0) ⟨hR.1, hR.2.1, fun hn => ?_⟩⟩
  obtain ⟨ad, rfl, hcc⟩ := hR.2.2 hn
  refine ⟨ad, rfl, fun j hj => ?_⟩
  rw [← hcc j hj]
  have hb : w1.heap[ad.block]? = w.heap[ad.block]? := hk _ rfl (by have := World.block_lt_of_cell? w _ (hcc j hj); rwa [show (ad.add j).block = ad.block from add_block ad j] at this)
  unfold World.cell?
  rw [show (ad.add j).block = ad.block from add_block ad j, hb]
/-- The rows lie in other blocks than vP's. -/
def Apt (w : World) (A : Option Addr) (vP : Value) (N : Nat) : Prop := ∀ i, i < N → ∀ g v k, A = some ⟨g, 0, none⟩ → w.cell? ⟨g, i, none⟩ = some v → v.ownBlock = some k → vP.ownBlock ≠ some k
theorem Apt.below {w w1 : World} {base N : Nat} {A : Option Addr} {vP : Value} {ls : List (List Int)} (h : Apt w A vP N) (ho : OA w base A ls) (hN : ls.length = N) (hb : Below w.heap.size w w1) : Apt w1 A vP N := by
  intro i hi g v k e hc hk
  obtain ⟨g', v', e', -, hc', -, -⟩ := ho.out i (by omega)
  rw [e] at e'
  cases e'
  have := pw_cell_below hb hc'
  rw [hc] at this
  cases this
  exact h i hi g v k e hc' hk
theorem Apt.set {w : World} {base N g j : Nat} {vP u : Value} {ls : List (List Int)} (h : Apt w (some ⟨g, 0, none⟩) vP N) (ho : OA w base (some ⟨g, 0, none⟩) ls) (hN : ls.length = N) (hj : j < N) (hu : ∀ b, u.ownBlock = some b → vP.ownBlock ≠ some b) : Apt (w.setCell ⟨g, j, none⟩ u) (some ⟨g, 0, none⟩) vP N := by
  intro i hi g' v k e hc hk
  cases e
  by_cases hij : i = j
  · subst hij
    obtain ⟨g', v', e', -, hc', -, -⟩ := ho.out i (by omega)
    cases e'
    rw [World.cell?_setCell_same _ _ _ hc'] at hc
    cases hc
    exact hu k hk
  · rw [World.cell?_setCell_other _ _ _ _ (by simp)] at hc
    exact h i hi g v k rfl hc hk
theorem Apt.at {w : World} {N g i : Nat} {vP v : Value} (h : Apt w (some ⟨g, 0, none⟩) vP N) (hi : i < N) (hc : w.cell? ⟨g, i, none⟩ = some v) : ∀ b, v.ownBlock = some b → vP.ownBlock ≠ some b := fun b hb => h i hi g v b rfl hc hb
theorem Own.apt {w w1 : World} {base b2 : Nat} {v vP : Value} {l pv : List Int} (h : Own w1 base v l) (hP : Own w b2 vP pv) (hb : w.heap.size ≤ base) : ∀ b, v.ownBlock = some b → vP.ownBlock ≠ some b := fun b hk hk2 => by
  have h1 := h.base_le b hk
  have h2 := hP.lt_size b hk2
  omega
theorem OA.grown {w w1 : World} {base b2 N : Nat} {A : Option Addr} {vP : Value} {ls : List (List Int)} {pv : List Int} (ho : OA w base A ls) (hN : ls.length = N) (hA : Apt w A vP N) (hP : Own w b2 vP pv) (hg : w.grownBy w1 vP.ownBlock) : OA w1 base A ls := by
  have hgb : ∀ g, A = some ⟨g, 0, none⟩ → 0 < ls.length → w1.heap[g]? = w.heap[g]? := fun g e hp => by
    obtain ⟨cs, hcs⟩ := ho.blk g e hp
    refine hg.block g (blk_lt hcs) (fun hk => ?_)
    obtain ⟨cells, hc⟩ := Kd.R_typed hP.out g hk.symm
    rw [hcs] at hc
    injection hc with hc
    injection hc with _ ht
    cases ht
  refine ⟨fun i hi => ?_, fun i hi g v k e hc h0 hk => ?_, fun g e hp => ?_⟩
  · obtain ⟨g, v, e, hb, hc, hf, hr⟩ := ho.out i hi
    have hgg := hgb g e (by omega)
    refine ⟨g, v, e, hb, ?_, ?_, hr.keepBlk fun k hk hkl => ?_⟩
    · unfold World.cell? at hc ⊢
      rw [hgg]; exact hc
    · rw [World.frozen?_of_block (w := w) (a := ⟨g, i, none⟩) hgg]; exact hf
    · exact hg.block k hkl (fun hh => hA i (by omega) g v k e hc hk hh.symm)
  · have hgg := hgb g e (by omega)
    have : w1.cell? ⟨g, i, none⟩ = w.cell? ⟨g, i, none⟩ := by unfold World.cell?; rw [hgg]
    rw [this] at hc
    exact ho.inb i hi g v k e hc h0 hk
  · obtain ⟨cs, hcs⟩ := ho.blk g e hp
    exact ⟨cs, (hgb g e hp).trans hcs⟩
theorem Apt.grown {w w1 : World} {base b2 N : Nat} {A : Option Addr} {vP vP1 : Value} {ls : List (List Int)} {pv : List Int} (ho : OA w base A ls) (hN : ls.length = N) (hA : Apt w A vP N) (hP : Own w b2 vP pv) (hg : w.grownBy w1 vP.ownBlock) (h0 : ∀ i, i < N → 0 < (ls.getD i []).length)
    (hat : vP1.ownBlock = vP.ownBlock ∨ ∃ b, vP1.ownBlock = some b ∧ w.heap.size ≤ b) : Apt w1 A vP1 N := by
  intro i hi g v k e hc hk
  obtain ⟨g', v', e', hb, hc', hf, hr⟩ := ho.out i (by omega)
  rw [e] at e'
  cases e'
  obtain ⟨g', v2, e', hb2, hc2, hf2, hr2⟩ := (ho.grown hN hA hP hg).out i (by omega)
  rw [e] at e'
  cases e'
  have hv : v = v' := by
    obtain ⟨cs, hcs⟩ := ho.blk g e (by omega)
    have hgg : w1.heap[g]? = w.heap[g]? := by
      refine hg.block g (blk_lt hcs) (fun hk => ?_)
      obtain ⟨cells, hc⟩ := Kd.R_typed hP.out g hk.symm
      rw [hcs] at hc
      injection hc with hc
      injection hc with _ ht
      cases ht
    have : w1.cell? ⟨g, i, none⟩ = w.cell? ⟨g, i, none⟩ := by unfold World.cell?; rw [hgg]
    rw [hc, hc'] at this
    cases this
    rfl
  subst hv
  rcases hat with hat | ⟨b, hat, hbb⟩
  · rw [hat]; exact hA i hi g v k e hc' hk
  · rw [hat]
    intro hbk
    cases hbk
    obtain ⟨B, d, rfl, hl, hC⟩ := hr.out
    obtain ⟨ad, rfl, hcc⟩ := C_nat hC 0 (h0 i hi)
    have := World.block_lt_of_cell? w _ hcc
    rw [show (ad.add 0).block = ad.block from add_block ad 0] at this
    cases hk
    omega
theorem NR.oa {w : World} {base : Nat} {v : Value} {ls : List (List Int)} (h : NR w base v ls) : ∃ A c, v = .slice A ls.length c ∧ ls.length ≤ c ∧ ls.length ≤ 9223372036854775807 ∧ OA w base A ls := by
  obtain ⟨A, c, e, hl, hC⟩ := h.slice
  refine ⟨A, c, e, hl, Kd.C_max hC, ⟨fun i hi => ?_, fun i hi g v' k eg hc h0 hk => ?_, fun g eg hp => ?_⟩⟩
  rotate_left
  · obtain ⟨-, rows, hlr, hR, hf⟩ := h.out
    obtain ⟨A2, c2, ev, -, hC2⟩ := Kd.R_reads hR
    rw [e] at ev
    have eA : A = A2 := by injection ev
    obtain ⟨ad, ea, hcell⟩ := hC2.2.2 (by omega)
    rw [← eA, eg] at ea
    cases ea
    obtain ⟨c', hcl, hK, hcc⟩ := hcell i _ (List.getElem?_eq_getElem (by omega))
    have hK1 : c' = rows[i]'(by omega) := hK.1
    have hfk := hf i (ls.getD i []) c' (by rw [List.getD_eq_getElem?_getD, List.getElem?_eq_getElem hi]; rfl) (by rw [hK1]; exact List.getElem?_eq_getElem (by omega))
    obtain ⟨B, d, e3, -, hF⟩ := Kd.FK_slice_open hfk
    have h4 : w.cell? ⟨g, i, none⟩ = some (.slice B (ls.getD i []).length d) := by
      have := hcc 0 (.slice B (ls.getD i []).length d) (by rw [e3]; rfl)
      rw [add_plain] at this
      have e5 : i * (Kd.raw (Kd.slice 3 (Kd.int .i64)).sz).sz + 0 = i := by show i * 1 + 0 = i; omega
      rwa [e5] at this
    rw [h4] at hc
    cases hc
    cases B with
    | none => cases hk
    | some ad' =>
      have h5 := Kd.F_in hF rfl h0 (by decide)
      cases hk
      exact h5.1
  · obtain ⟨g', cap, e2, hb, hg, cells, hcells⟩ := Kd.N_form h.out hp
    rw [e] at e2
    cases e2
    cases eg
    exact ⟨cells, hcells⟩
  obtain ⟨g, cap, e2, hb, hg, cells, hcells⟩ := Kd.N_form h.out (by omega)
  rw [e] at e2
  cases e2
  obtain ⟨ad, B, d, e3, hx, hx2, hx3⟩ := rows_at hC i hi
  cases e3
  rw [add_plain] at hx
  exact ⟨g, _, rfl, hb, hx, blk_frozen hcells i, ⟨B, d, rfl, hx2, hx3⟩⟩
theorem OA.C {w : World} {base : Nat} {A : Option Addr} {ls : List (List Int)} (h : OA w base A ls) (hm : ls.length ≤ 9223372036854775807) : Kd.C (Kd.slice 3 (Kd.int .i64)) w A ls.length ls := by
  refine ⟨rfl, hm, fun hp => ?_⟩
  obtain ⟨g, -, -, e, -⟩ := h.at 0 hp
  refine ⟨_, e, fun j p hj => ?_⟩
  have hjl := (List.getElem?_eq_some_iff.1 hj).1
  obtain ⟨g', B, d, e', -, hc, -, hl, hC⟩ := h.at j hjl
  rw [e] at e'
  cases e'
  have hp' : ls.getD j [] = p := by rw [List.getD_eq_getElem?_getD, hj]; rfl
  rw [hp'] at hc hl hC
  refine ⟨[.slice B p.length d], rfl, ⟨B, d, rfl, hl, hC⟩, fun i u hu => ?_⟩
  have hi : i = 0 := by have := (List.getElem?_eq_some_iff.1 hu).1; simp at this; omega
  subst hi
  simp only [List.getElem?_cons_zero, Option.some.injEq] at hu
  subst hu
  show w.cell? (Addr.add ⟨g, 0, none⟩ (j * 1 + 0)) = _
  rw [add_plain, Nat.mul_one, Nat.add_zero]
  exact hc
end Go.Proofs.Yticgblagimmlfaa
