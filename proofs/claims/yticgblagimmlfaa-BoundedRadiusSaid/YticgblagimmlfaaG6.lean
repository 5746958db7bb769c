/- Mul at two factors. -/
import Derived.Test.YticgblagimmlfaaG5
namespace Go.Proofs.Yticgblagimmlfaa
open Go.RowKit Go.Proofs.YticgblagimmlfaaW.PrintWords Go.Proofs.YticgblagimmlfaaW.PrintLast Go.Proofs.YticgblagimmlfaaW.PrintMore
set_option linter.unusedVariables false
set_option linter.unusedSimpArgs false

def mulK (D : GFD) (p q : List Int) : Nat → List Int
  | 0 => [1]
  | 1 => D.product [1] p
  | _ => D.product (D.product [1] p) q

theorem mul2_any {g : Nat} {D : GFD} {w : World} (h : GFat w g D) (hD : D.ok) {A B : Option Addr} {c d b : Nat} {p q : List Int} (hp : Kd.C (Kd.int .i64) w A p.length p) (hq : Kd.C (Kd.int .i64) w B q.length q)
    (h0 : w.cell? ⟨b, 0, none⟩ = some (.slice A p.length c)) (h1 : w.cell? ⟨b, 1, none⟩ = some (.slice B q.length d)) (hb : p.length + q.length ≤ 35184372088000) :
    Calls Try.prog 141 #[.pointer (some ⟨g, 0, none⟩), .slice (some ⟨b, 0, none⟩) 2 2] w fun e w' => ∃ v, e = .returned v ∧ Own w' w.heap.size v (D.product (D.product [1] p) q) ∧ Below w.heap.size w w' := by
  have H := Aside0.mk h
  have HP := Aside0.mk hp
  have HQ := Aside0.mk hq
  have H0 := Aside0.mk h0
  have H1 := Aside0.mk h1
  clear h hp hq h0 h1
  go_enter Try.func141, Try.ntmps141
  go_wp2
  have HO := Aside0.mk (own_lit1 w 1)
  have HB := Aside0.mk (below_alloc (Below.refl w.heap.size w) (.cells #[.int .i64 1] 3))
  go_loopw [5, 11] (fun v5 v11 w' => ∃ (k : Nat), v11 = .int .i64 k ∧ k ≤ 2 ∧ Aside0 (Own w' w.heap.size v5 (mulK D p q k)) ∧ Aside0 (Below w.heap.size w w')) (fun _ v11 _ => 2 - (intOf v11).toNat)
  case atStart => exact ⟨0, rfl, by omega, HO, HB⟩
  case round =>
    clear HO HB
    obtain ⟨k, rfl, hk, HO, HB⟩ := hrel
    by_cases hlk : k < 2
    · have hk01 : k = 0 ∨ k = 1 := by omega
      rcases hk01 with rfl | rfl
      · obtain ⟨A5, c5, rfl, hc5, hC5⟩ := HO.out.slice
        have HC5 := Aside0.mk hC5
        have hx := pw_cell_below HB.out H0.out
        have HPb := Aside0.mk (Kd.C_below HP.out HB.out)
        have HGb := Aside0.mk (H.out.below HB.out)
        clear hC5
        have hlen : (mulK D p q 0).length + p.length ≤ 35184372088832 := by show 1 + p.length ≤ _; omega
        have HPr := Aside0.mk (show D.product (mulK D p q 0) p = mulK D p q 1 from rfl)
        obtain ⟨K1, hK1⟩ : ∃ K1, mulK D p q 1 = K1 := ⟨_, rfl⟩
        obtain ⟨K0, hK0⟩ : ∃ K0, mulK D p q 0 = K0 := ⟨_, rfl⟩
        rw [hK0] at hlen HPr HC5
        rw [hK1] at HPr
        rw [hK0]
        have HK1 := Aside0.mk hK1
        clear hK0 hK1
        go_wp2_with (go_at_call 138; refine (product_any (p := K0) (q := p) HGb.out hD HC5.out HPb.out hlen).mono ?_; rintro e w2 ⟨v, rfl, hO, hB⟩; rw [HPr.out] at hO; have HO2 := Aside0.mk hO; have HB2 := Aside0.mk hB; clear hO hB)
        go_roundw
        case rel => exact ⟨1, by go_num, by omega, ⟨by rw [HK1.out]; exact HO2.out.lower HB.out.size⟩, ⟨below_later HB.out HB.out.size HB2.out⟩⟩
        case measure => simp [intOf]
      · obtain ⟨A5, c5, rfl, hc5, hC5⟩ := HO.out.slice
        have HC5 := Aside0.mk hC5
        have hx := pw_cell_below HB.out H1.out
        have HQb := Aside0.mk (Kd.C_below HQ.out HB.out)
        have HGb := Aside0.mk (H.out.below HB.out)
        clear hC5
        have hlen : (mulK D p q 1).length + q.length ≤ 35184372088832 := by
          have : (D.product [1] p).length ≤ 1 + p.length - 1 := product_length_le D [1] p
          show (D.product [1] p).length + q.length ≤ _
          omega
        have HPr := Aside0.mk (show D.product (mulK D p q 1) q = mulK D p q 2 from rfl)
        obtain ⟨K1, hK1⟩ : ∃ K1, mulK D p q 2 = K1 := ⟨_, rfl⟩
        obtain ⟨K0, hK0⟩ : ∃ K0, mulK D p q 1 = K0 := ⟨_, rfl⟩
        rw [hK0] at hlen HPr HC5
        rw [hK1] at HPr
        rw [hK0]
        have HK1 := Aside0.mk hK1
        clear hK0 hK1
        go_wp2_with (go_at_call 138; refine (product_any (p := K0) (q := q) HGb.out hD HC5.out HQb.out hlen).mono ?_; rintro e w2 ⟨v, rfl, hO, hB⟩; rw [HPr.out] at hO; have HO2 := Aside0.mk hO; have HB2 := Aside0.mk hB; clear hO hB)
        go_roundw
        case rel => exact ⟨2, by go_num, by omega, ⟨by rw [HK1.out]; exact HO2.out.lower HB.out.size⟩, ⟨below_later HB.out HB.out.size HB2.out⟩⟩
        case measure => simp [intOf]
    · obtain rfl : k = 2 := by omega
      go_wp2
      go_ret
      exact ⟨_, rfl, HO.out, HB.out⟩
end Go.Proofs.Yticgblagimmlfaa
