/- Sub, FromRoots, Mul. -/
import Derived.Test.YticgblagimmlfaaG4
namespace Go.Proofs.Yticgblagimmlfaa
open Go.RowKit Go.Proofs.YticgblagimmlfaaW.PrintWords Go.Proofs.YticgblagimmlfaaW.PrintLast Go.Proofs.YticgblagimmlfaaW.PrintMore
set_option linter.unusedVariables false
set_option linter.unusedSimpArgs false

theorem _root_.Go.RowKit.Below.below'' {w0 w w1 : World} (h : Below w0.heap.size w0 w) (hd : Drawn0 w w1) : Below w0.heap.size w0 w1 := by
  obtain ⟨n, rfl⟩ := hd
  exact pw_below_drewN h n
theorem own_lit1 (w : World) (x : Int) : Own (w.alloc (.cells #[.int .i64 x] 3)) w.heap.size (.slice (some ⟨w.heap.size, 0, none⟩) 1 1) [x] :=
  ⟨Kd.R_of_own (enc := Value.int .i64) (own_lit_of w w.heap.size 3 [x] (Nat.le_refl _) (by simp)) (fun _ _ => trivial)⟩
theorem own_lit2 (w : World) (x y : Int) : Own (w.alloc (.cells #[.int .i64 x, .int .i64 y] 3)) w.heap.size (.slice (some ⟨w.heap.size, 0, none⟩) 2 2) [x, y] :=
  ⟨Kd.R_of_own (enc := Value.int .i64) (own_lit_of w w.heap.size 3 [x, y] (Nat.le_refl _) (by simp)) (fun _ _ => trivial)⟩
theorem Own.reads {w : World} {base n c : Nat} {A : Option Addr} {l : List Int} (h : Own w base (.slice A n c) l) : n = l.length ∧ l.length ≤ c ∧ Kd.C (Kd.int .i64) w A l.length l := by
  obtain ⟨h1, h2, h3⟩ := Kd.R_reads' h.out
  exact ⟨h1, by omega, h3⟩
theorem subP_any {g : Nat} {D : GFD} {w : World} (h : GFat w g D) (hD : D.ok) {A B : Option Addr} {c d : Nat} {p q : List Int} (hp : Kd.C (Kd.int .i64) w A p.length p) (hq : Kd.C (Kd.int .i64) w B q.length q)
    (hbp : p.length ≤ 35184372088832) (hbq : q.length ≤ 35184372088832) :
    Calls Try.prog 140 #[.pointer (some ⟨g, 0, none⟩), .slice A p.length c, .slice B q.length d] w fun e w' => ∃ v, e = .returned v ∧ Own w' w.heap.size v (D.subP p q) ∧ Below w.heap.size w w' := by
  have H := Aside0.mk h
  have HP := Aside0.mk hp
  have HQ := Aside0.mk hq
  have hs : D.subP p q = D.combine p (D.neg 1) q := rfl
  rw [hs]
  clear h hp hq hs
  go_enter Try.func140, Try.ntmps140
  go_wp2_with (first | (go_at_call 119; (with_reducible refine (neg_any H.out hD 1).mono ?_); rintro e w1 ⟨rfl, hd⟩; have HD := Aside0.mk hd; clear hd) | (go_at_call 137; (with_reducible refine (combine_any (H.out.drawn HD.out) hD (Kd.C_below HP.out HD.out.below) (Kd.C_below HQ.out HD.out.below) _ hbp hbq).mono ?_); rintro e w2 ⟨v, rfl, hO, hB⟩; have HO := Aside0.mk hO; have HB := Aside0.mk hB; clear hO hB))
  go_ret
  have hz := HD.out.below.size
  exact ⟨_, rfl, HO.out.lower hz, below_later HD.out.below hz HB.out⟩

theorem fromRoots_any {g : Nat} {D : GFD} {w : World} (h : GFat w g D) (hD : D.ok) {A : Option Addr} {c : Nat} {l : List Int} (hl : Kd.C (Kd.int .i64) w A l.length l) (hb : l.length ≤ 35184372088000) :
    Calls Try.prog 105 #[.pointer (some ⟨g, 0, none⟩), .slice A l.length c] w fun e w' => ∃ v, e = .returned v ∧ Own w' w.heap.size v (D.fromRoots l) ∧ Below w.heap.size w w' := by
  have H := Aside0.mk h
  have HL := Aside0.mk hl
  clear h hl
  go_enter Try.func105, Try.ntmps105
  go_wp2
  have HO := Aside0.mk (own_lit1 w 1)
  have HB := Aside0.mk (below_alloc (Below.refl w.heap.size w) (.cells #[.int .i64 1] 3))
  go_loopw [5, 11] (fun v5 v11 w' => ∃ (k : Nat) (O : List Int), v11 = .int .i64 k ∧ k ≤ l.length ∧ O.length ≤ k + 1 ∧ Aside0 (O = D.fromRoots (l.take k)) ∧ Aside0 (Own w' w.heap.size v5 O) ∧ Aside0 (Below w.heap.size w w')) (fun _ v11 _ => l.length - (intOf v11).toNat)
  case atStart => exact ⟨0, [1], rfl, by omega, by simp, ⟨by simp [GFD.fromRoots]⟩, HO, HB⟩
  case round =>
    clear HO HB
    obtain ⟨k, O, rfl, hk, hOl, HOe, HO, HB⟩ := hrel
    obtain ⟨A5, c5, rfl, hc5, hC5⟩ := HO.out.slice
    by_cases hlk : k < l.length
    · obtain ⟨ad, e, hx⟩ := C_nat (Kd.C_below HL.out HB.out) k hlk
      cases e
      obtain ⟨x, hx'⟩ : ∃ x, l.getD k 0 = x := ⟨_, rfl⟩
      rw [hx'] at hx
      have hfr : D.fromRoots (l.take (k + 1)) = D.product O [D.neg x, 1] := by
        rw [take_succ_rd l k hlk, hx', HOe.out]; simp [GFD.fromRoots]
      have HFR := Aside0.mk hfr.symm
      have HC5 := Aside0.mk hC5
      have hpl := product_length_le D O [D.neg x, 1]
      obtain ⟨O', hO'⟩ : ∃ O', D.product O [D.neg x, 1] = O' := ⟨_, rfl⟩
      rw [hO'] at hpl HFR
      simp only [List.length_cons, List.length_nil] at hpl
      have HO' := Aside0.mk hO'
      clear hx' hfr hC5 hO'
      go_wp2_with (first | (go_at_call 119; (with_reducible refine (neg_any (H.out.below HB.out) hD x).mono ?_); rintro e w1 ⟨rfl, hd⟩; have HD := Aside0.mk hd; clear hd) | (go_at_call 138; refine (product_any (p := O) (q := [D.neg x, 1]) ((H.out.below HB.out).drawn HD.out |>.below (below_alloc (Below.refl _ _) _)) hD (Kd.C_below (Kd.C_below HC5.out HD.out.below) (below_alloc (Below.refl _ _) _)) (own_lit2 w1 (D.neg x) 1).reads.2.2 (by simp only [List.length_cons, List.length_nil]; omega)).mono ?_; rintro e w2 ⟨v, rfl, hO, hB⟩; rw [HO'.out] at hO; have HO2 := Aside0.mk hO; have HB2 := Aside0.mk hB; clear hO hB))
      have hz := HD.out.below.size
      have HBd := Aside0.mk (below_alloc (HB.out.below'' HD.out) (.cells #[.int .i64 (D.neg x), .int .i64 1] 3))
      go_roundw
      case rel => exact ⟨k + 1, O', by go_num, by omega, by omega, HFR, ⟨HO2.out.lower HBd.out.size⟩, ⟨below_later HBd.out HBd.out.size HB2.out⟩⟩
      case measure => simp [intOf]; omega
    · obtain rfl : k = l.length := by omega
      have he := HOe.out
      rw [List.take_length] at he
      have HE := Aside0.mk he
      clear he HOe hC5
      go_wp2
      go_ret
      exact ⟨_, rfl, by rw [← HE.out]; exact HO.out, HB.out⟩
end Go.Proofs.Yticgblagimmlfaa
