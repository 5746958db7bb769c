/- Interpolate, where it finds a polynomial. -/
import Derived.Test.YticgblagimmlfaaGB
namespace Go.Proofs.Yticgblagimmlfaa
open Go.RowKit Go.Proofs.YticgblagimmlfaaW.PrintWords Go.Proofs.YticgblagimmlfaaW.PrintLast Go.Proofs.YticgblagimmlfaaW.PrintMore
set_option linter.unusedVariables false
set_option linter.unusedSimpArgs false

/-- B tells which of the numbers below its length are in l. -/
def SeenIs (B : List Bool) (q : Nat) (l : List Int) : Prop := B.length = q ∧ ∀ i, i < q → (B.getD i false = true ↔ (i : Int) ∈ l)
theorem SeenIs.start (q : Nat) : SeenIs (List.replicate q false) q [] := ⟨by simp, fun i hi => by simp [List.getD_eq_getElem?_getD, hi]⟩
theorem SeenIs.step {B : List Bool} {q : Nat} {l : List Int} (h : SeenIs B q l) (x : Nat) (hx : x < q) : SeenIs (B.set x true) q (l ++ [(x : Int)]) := by
  refine ⟨by rw [List.length_set]; exact h.1, fun i hi => ?_⟩
  have hl := h.1
  by_cases hix : x = i
  · subst hix
    simp [List.getD_eq_getElem?_getD, hl, hx]
  · have := h.2 i hi
    rw [List.getD_eq_getElem?_getD] at this ⊢
    rw [List.getElem?_set_ne hix, this]
    simp only [List.mem_append, List.mem_singleton]
    constructor
    · exact .inl
    · rintro (h | h)
      · exact h
      · exact absurd (by omega) hix
theorem SeenIs.no {B : List Bool} {q : Nat} {l : List Int} (h : SeenIs B q l) (x : Nat) (hx : x < q) (hn : (x : Int) ∉ l) : B.getD x false = false := by
  cases e : B.getD x false with
  | false => rfl
  | true => exact absurd ((h.2 x hx).1 e) hn
theorem nodup_take_succ {l : List Int} (h : l.Nodup) (k : Nat) (hk : k < l.length) : l.getD k 0 ∉ l.take k := by
  rw [← List.take_append_drop k l, List.nodup_append] at h
  obtain ⟨_, _, h3⟩ := h
  intro hm
  refine h3 _ hm (l.getD k 0) ?_ rfl
  rw [List.getD_eq_getElem?_getD, List.getElem?_eq_getElem hk, List.drop_eq_getElem_cons hk]
  exact List.mem_cons_self

theorem interpolate_ok {g : Nat} {D : GFD} {w : World} (h : GFat w g D) (hD : D.ok) {A B : Option Addr} {c d : Nat} {xs ys : List Int} (hp : Kd.C (Kd.int .i64) w A xs.length xs) (hq : Kd.C (Kd.int .i64) w B ys.length ys)
    (hb : xs.length ≤ 35184372080000) (hlen : ys.length = xs.length) (hnd : (xs.map D.inn).Nodup) :
    Calls Try.prog 103 #[.pointer (some ⟨g, 0, none⟩), .slice A xs.length c, .slice B ys.length d] w fun e w' => ∃ v, e = .returned (.tuple #[v, .int .i64 0]) ∧ Own w' w.heap.size v (D.inter xs ys xs.length).1 ∧ Below w.heap.size w w' := by
  have H := Aside0.mk h
  have HP := Aside0.mk hp
  have HQ := Aside0.mk hq
  have Hlen := Aside0.mk hlen
  have hl1 : ((xs.length : Int) != (ys.length : Int)) = false := by simp [hlen]
  clear h hp hq
  have hq2 := hD.q2
  have hq3 := hD.q256
  obtain ⟨qn, hqn⟩ := Int.eq_ofNat_of_zero_le (by omega : 0 ≤ D.q)
  have HQN := Aside0.mk hqn
  have hqb : qn ≤ 256 := by omega
  clear hqn hlen
  go_enter Try.func103, Try.ntmps103
  go_wp2_with (first | (go_at_call 91; (with_reducible refine (order_any H.out).mono ?_); rintro e w1 ⟨rfl, hd⟩; have HD := Aside0.mk hd; clear hd) | ((with_reducible refine gate_dst (N := 25) rfl ?_); refine make_ownbI rfl (N := 25) rfl _ _ rfl HQN rfl rfl (by omega) ?_; intro v w2 hO hB; have HO := Aside0.mk (hO.lower HD.out.below.size); have HB := Aside0.mk (below_later HD.out.below HD.out.below.size hB); clear hO hB))
  go_loopw [28] (fun v28 w' => ∃ (k : Nat) (S : List Bool), v28 = .int .i64 k ∧ k ≤ xs.length ∧ Aside0 (SeenIs S qn ((xs.take k).map D.inn)) ∧ Aside0 (OwnB w' w.heap.size v S) ∧ Aside0 (Below w.heap.size w w')) (fun v28 _ => xs.length - (intOf v28).toNat)
  case atStart => exact ⟨0, _, rfl, by omega, ⟨SeenIs.start qn⟩, HO, HB⟩
  case round =>
    clear HO HB
    obtain ⟨k, S, rfl, hk, HS, HO, HB⟩ := hrel
    by_cases hlk : k < xs.length
    · obtain ⟨ad, e, hx⟩ := C_nat (Kd.C_below HP.out HB.out) k hlk
      cases e
      obtain ⟨x, hx'⟩ : ∃ x, xs.getD k 0 = x := ⟨_, rfl⟩
      rw [hx'] at hx
      have hadd := D.add_zero_right hD x
      obtain ⟨hi1, hi2⟩ := D.inn_lt hD x
      obtain ⟨y, hy⟩ := Int.eq_ofNat_of_zero_le hi1
      have hyq : y < qn := by have := HQN.out; omega
      have hnot := nodup_take_succ hnd k (by simpa using hlk)
      have hgetm : (xs.map D.inn).getD k 0 = (y : Int) := by
        rw [← hy, ← hx']; simp [List.getD_eq_getElem?_getD, hlk]
      rw [hgetm, ← List.map_take] at hnot
      have hfalse := HS.out.no y hyq hnot
      have hSl := HS.out.1
      have hnew := HS.out.step y hyq
      have htk : (xs.take (k + 1)).map D.inn = (xs.take k).map D.inn ++ [(y : Int)] := by
        rw [take_succ_rd xs k hlk, List.map_append, hx', ← hy]; rfl
      rw [← htk] at hnew
      obtain ⟨s, cs, es, hs1, hs2⟩ := HO.out.form (by omega)
      rw [hSl] at es
      subst es
      obtain ⟨hcs, hfs⟩ := HO.out.cell' hSl.symm y hyq
      rw [hfalse] at hcs
      have HO2 := Aside0.mk (HO.out.set hSl.symm y true)
      have HN := Aside0.mk hnew
      have HG := Aside0.mk (H.out.below HB.out)
      have HA : Aside0 (D.add x 0 = (y : Int)) := ⟨hadd.trans hy⟩
      clear hx' hadd hi1 hi2 hy hnot hgetm hfalse hSl hnew htk HO HS
      go_wp2_with (go_at_call 83; (with_reducible refine (add_any ?side1 hD x 0).mono ?_); (case side1 => exact HG.out.drawn (by repeat (first | exact Drawn0.refl _ | apply Drawn0.step))); rw [HA.out]; rintro e w' ⟨rfl, ⟨n1, rfl⟩⟩)
      go_roundw
      case rel => exact ⟨k + 1, _, by go_num, by omega, HN, ⟨HO2.out.drewN _⟩, ⟨pw_below_drewN (HB.out.setCell (p := ⟨s, y, none⟩) hs1 _) _⟩⟩
      case measure => simp [intOf]; omega
    · obtain rfl : k = xs.length := by omega
      clear HS HO
      go_wp2
      have HOz := Aside0.mk ((own_lit1 wr 1).lower HB.out.size)
      have HBz := Aside0.mk (below_alloc HB.out (.cells #[.int .i64 1] 3))
      clear HB
      go_loopw [11, 12, 46] (fun v11 v12 v46 w' => ∃ (k : Nat) (O Z : List Int), v46 = .int .i64 k ∧ k ≤ xs.length ∧ O.length ≤ k + 1 ∧ Z.length ≤ k + 1 ∧ Aside0 (D.inter xs ys k = (O, Z)) ∧ Aside0 (Own w' w.heap.size v11 O) ∧ Aside0 (Own w' w.heap.size v12 Z) ∧ Aside0 (Below w.heap.size w w')) (fun _ _ v46 _ => xs.length - (intOf v46).toNat)
      case atStart => exact ⟨0, [], [1], rfl, by omega, by simp, by simp, ⟨rfl⟩, ⟨Own.nil _ _⟩, HOz, HBz⟩
      case round =>
        clear HOz HBz
        obtain ⟨k, O, Z, rfl, hk, hOl, hZl, HI, HO, HZ, HB⟩ := hrel
        obtain ⟨A5, c5, rfl, hc5, hC5⟩ := HO.out.slice
        obtain ⟨A6, c6, rfl, hc6, hC6⟩ := HZ.out.slice
        have HC5 := Aside0.mk hC5
        have HC6 := Aside0.mk hC6
        clear hC5 hC6
        by_cases hlk : k < xs.length
        · obtain ⟨ad, e, hx⟩ := C_nat (Kd.C_below HP.out HB.out) k hlk
          cases e
          obtain ⟨x, hx'⟩ : ∃ x, xs.getD k 0 = x := ⟨_, rfl⟩
          rw [hx'] at hx
          have hlky : k < ys.length := by have := Hlen.out; omega
          obtain ⟨ad2, e, hy⟩ := C_nat (Kd.C_below HQ.out HB.out) k hlky
          cases e
          obtain ⟨y, hy'⟩ : ∃ y, ys.getD k 0 = y := ⟨_, rfl⟩
          rw [hy'] at hy
          have hsucc := D.inter_succ xs ys k hlk hlky
          rw [HI.out, hx', hy'] at hsucc
          have HG := Aside0.mk (H.out.below HB.out)
          clear hx' hy'
          go_wp2
          go_quiet (first | (go_at_call 92; exact quiet_d (eval_any (HG.out.drewN _) hD (Kd.C_drewN HC5.out _) _)) | (go_at_call 80; exact quiet_d (sub_any (HG.out.drewN _) hD _ _)))
          obtain ⟨av, hav⟩ : ∃ a, D.div (D.sub y (D.eval O x)) (D.eval Z x) = a := ⟨_, rfl⟩
          have hstep : D.interStep (O, Z) (x, y) = (D.combine O av Z, D.product Z [D.neg x, 1]) := by rw [← hav]; rfl
          rw [hstep] at hsucc
          have hl1 := combine_length_le D O av Z
          have hl2 := product_length_le D Z [D.neg x, 1]
          simp only [List.length_cons, List.length_nil] at hl2
          obtain ⟨O', hO'⟩ : ∃ O', D.combine O av Z = O' := ⟨_, rfl⟩
          obtain ⟨Z', hZ'⟩ : ∃ Z', D.product Z [D.neg x, 1] = Z' := ⟨_, rfl⟩
          rw [hO'] at hl1 hsucc
          rw [hZ'] at hl2 hsucc
          have HS := Aside0.mk hsucc
          have HA := Aside0.mk hav
          have HO' := Aside0.mk hO'
          have HZ' := Aside0.mk hZ'
          have HGd := Aside0.mk (HG.out.drewN nq)
          have HCd := Aside0.mk (Kd.C_drewN HC6.out nq)
          have HBd := Aside0.mk (pw_below_drewN HB.out nq)
          clear hav hstep hsucc hO' hZ' HI
          obtain ⟨wq, hwq⟩ : ∃ wq : World, wr.drewN nq = wq := ⟨_, rfl⟩
          have HC5d := Aside0.mk (Kd.C_drewN HC5.out nq)
          rw [hwq] at HGd HCd HBd HC5d ⊢
          clear hwq
          go_wp2_with (first | (go_at_call 92; (with_reducible refine (eval_any HGd.out hD HCd.out x).mono ?_); rintro e w1 ⟨rfl, hd⟩; have HD1 := Aside0.mk hd; clear hd) | (go_at_call 67; ((with_reducible refine (div_any (HGd.out.drawn HD1.out) hD _ _).mono ?_); rw [HA.out]; rintro e w2 ⟨rfl, hd⟩; have HD2 := Aside0.mk (Drawn0.trans HD1.out hd); clear hd)) | (go_at_call 137; (with_reducible refine (combine_any (HGd.out.drawn HD2.out) hD (Kd.C_below HC5d.out HD2.out.below) (Kd.C_below HCd.out HD2.out.below) _ (by omega) (by omega)).mono ?_); rw [HO'.out]; rintro e w3 ⟨v3, rfl, hO3, hB3⟩; have hB3' := below_later HD2.out.below HD2.out.below.size hB3; have HO3 := Aside0.mk (hO3.lower HD2.out.below.size); have HB3 := Aside0.mk hB3'; have HC3 := Aside0.mk (Kd.C_below HCd.out hB3'); clear hO3 hB3 hB3') | (go_at_call 119; (with_reducible refine (neg_any (HGd.out.below HB3.out) hD x).mono ?_); rintro e w4 ⟨rfl, hd⟩; have HD4 := Aside0.mk hd; clear hd) | (go_at_call 138; refine (product_any (p := Z) (q := [D.neg x, 1]) (((HGd.out.below HB3.out).drawn HD4.out).below (below_alloc (Below.refl _ _) _)) hD (Kd.C_below (Kd.C_below HC3.out HD4.out.below) (below_alloc (Below.refl _ _) _)) (own_lit2 w4 (D.neg x) 1).reads.2.2 (by simp only [List.length_cons, List.length_nil]; omega)).mono ?_; rintro e w5 ⟨v, rfl, hO, hB⟩; rw [HZ'.out] at hO; have HO5 := Aside0.mk hO; have HB5 := Aside0.mk hB; clear hO hB))

          have b3 := below_later HBd.out HBd.out.size HB3.out
          have b4 := below_alloc (b3.below'' HD4.out) (.cells #[.int .i64 (D.neg x), .int .i64 1] 3)
          have b5 := Aside0.mk (below_later b4 b4.size HB5.out)
          have q3 := (HO3.out.below HD4.out.below).below (below_alloc (Below.refl _ _) (.cells #[.int .i64 (D.neg x), .int .i64 1] 3))
          have Q3 := Aside0.mk ((q3.below HB5.out).lower HBd.out.size)
          have Q5 := Aside0.mk (HO5.out.lower b4.size)
          clear b3 b4 q3
          go_roundw
          case rel => exact ⟨k + 1, O', Z', by go_num, by omega, by omega, by omega, HS, Q3, Q5, b5⟩
          case measure => simp [intOf]; omega
        · obtain rfl : k = xs.length := by omega
          have hi : (D.inter xs ys xs.length).1 = O := by rw [HI.out]
          have HI1 := Aside0.mk hi
          clear hi HI
          go_wp2
          go_ret2
          exact ⟨_, rfl, by rw [HI1.out]; exact HO.out, HB.out⟩
end Go.Proofs.Yticgblagimmlfaa
