/- elements, twice. -/
import Derived.Test.YticgblagimmlfaaG17
namespace Go.Proofs.Yticgblagimmlfaa
open Go.RowKit Go.Proofs.YticgblagimmlfaaW.PrintWords Go.Proofs.YticgblagimmlfaaW.PrintLast Go.Proofs.YticgblagimmlfaaW.PrintMore
set_option linter.unusedVariables false
set_option linter.unusedSimpArgs false

theorem all_take_succ (f : Int → Bool) (l : List Int) (k : Nat) (h : k < l.length) : (l.take (k + 1)).all f = ((l.take k).all f && f (l.getD k 0)) := by
  rw [take_succ_rd l k h]; simp
theorem all_of_take (f : Int → Bool) (l : List Int) (k : Nat) (h : (l.take k).all f = false) : l.all f = false := by
  cases e : l.all f with
  | false => rfl
  | true =>
    rw [List.all_eq_true] at e
    have : (l.take k).all f = true := List.all_eq_true.2 fun x hx => e x (List.mem_of_mem_take hx)
    rw [this] at h; cases h

theorem elements_any {g : Nat} {D : GFD} {w : World} (h : GFat w g D) {A : Option Addr} {c : Nat} {l : List Int} (hl : Kd.C (Kd.int .i64) w A l.length l) :
    Calls Try.prog 98 #[.pointer (some ⟨g, 0, none⟩), .slice A l.length c] w fun e w' => e = .returned (.bool (l.all D.is)) ∧ Drawn0 w w' := by
  have H := Aside0.mk h
  have HL := Aside0.mk hl
  have hm := Kd.C_max hl
  obtain ⟨R, hR⟩ : ∃ R, l.all D.is = R := ⟨_, rfl⟩
  rw [hR]
  have HR := Aside0.mk hR
  clear h hl hR
  go_enter Try.func98, Try.ntmps98
  go_wp2
  go_loopw [9] (fun v9 w' => ∃ k : Nat, v9 = .int .i64 k ∧ k ≤ l.length ∧ Aside0 ((l.take k).all D.is = true) ∧ Drawn0 w w') (fun v9 _ => l.length - (intOf v9).toNat)
  case atStart => exact ⟨0, rfl, by omega, ⟨rfl⟩, Drawn0.refl _⟩
  case round =>
    obtain ⟨k, rfl, hk, HT, hd⟩ := hrel
    by_cases hlk : k < l.length
    · obtain ⟨ad, e, hx⟩ := C_nat (Kd.C_below HL.out hd.below) k hlk
      cases e
      have hs := all_take_succ D.is l k hlk
      obtain ⟨x, hx'⟩ : ∃ x, l.getD k 0 = x := ⟨_, rfl⟩
      rw [hx'] at hx hs
      rw [HT.out, Bool.true_and] at hs
      have HI := fun (w1 : World) (h1 : Drawn0 wr w1) => Aside0.mk (is_any (H.out.drawn (Drawn0.trans hd h1)) x)
      cases hb : D.is x with
      | true =>
        rw [hb] at HI hs
        have HT2 := Aside0.mk hs
        clear hx' hs HT hb
        go_wp2_with (go_at_call 66; refine (HI _ ?side1).out.mono ?_; (case side1 => repeat (first | exact Drawn0.refl _ | apply Drawn0.step)); rintro e w' ⟨rfl, ⟨n, rfl⟩⟩)
        go_roundw
        case rel => exact ⟨k + 1, by go_num, by omega, HT2, hd.step _⟩
        case measure => simp [intOf]; omega
      | false =>
        rw [hb] at HI hs
        have hf := all_of_take D.is l (k + 1) hs
        have hRf : false = R := by rw [← HR.out]; exact hf.symm
        subst hRf
        clear hx' hs HT hb hf HR
        go_wp2_with (go_at_call 66; refine (HI _ ?side1).out.mono ?_; (case side1 => repeat (first | exact Drawn0.refl _ | apply Drawn0.step)); rintro e w' ⟨rfl, ⟨n, rfl⟩⟩)
        go_ret
        exact ⟨rfl, hd.step _⟩
    · obtain rfl : k = l.length := by omega
      rw [List.take_length] at HT
      have hRt : true = R := by rw [← HR.out]; exact HT.out.symm
      subst hRt
      clear HT HR
      go_wp2
      go_ret
      exact ⟨rfl, hd⟩

theorem twice_any {w : World} {A : Option Addr} {c : Nat} {l : List Int} (hl : Kd.C (Kd.int .i64) w A l.length l) (hc : l.length ≤ c) :
    Calls Try.prog 99 #[.slice A l.length c] w fun e w' => e = .returned (.bool (decide (¬ l.Nodup))) ∧ w = w' := by
  have HL := Aside0.mk hl
  have hm := Kd.C_max hl
  obtain ⟨R, hR⟩ : ∃ R, decide (¬ l.Nodup) = R := ⟨_, rfl⟩
  rw [hR]
  have HR := Aside0.mk hR
  clear hl hR
  go_enter Try.func99, Try.ntmps99
  go_wp2
  go_loop [9] (fun v9 => ∃ k : Nat, v9 = .int .i64 k ∧ k ≤ l.length ∧ Aside0 ((l.take k).Nodup)) (fun v9 => l.length - (intOf v9).toNat)
  case atStart => exact ⟨0, rfl, by omega, ⟨List.nodup_nil⟩⟩
  case round =>
    obtain ⟨k, rfl, hk, HT⟩ := hrel
    by_cases hlk : k < l.length
    · obtain ⟨ad, e, hx⟩ := C_nat HL.out k hlk
      cases e
      obtain ⟨x, hx'⟩ : ∃ x, l.getD k 0 = x := ⟨_, rfl⟩
      rw [hx'] at hx
      have HX := Aside0.mk hx'
      obtain ⟨i0, hi, _, hsz, _⟩ := info_parts info3
      have hcut := cut_to (P := Try.prog) 25 3 .i64 Try.underlying25 hi (some ad) l.length c (k : Int) (by omega) (by omega) hc
      rw [Int.toNat_natCast] at hcut
      clear hx' hi hsz
      go_wp2
      go_loop [18] (fun v18 => ∃ j : Nat, v18 = .int .i64 j ∧ j ≤ k ∧ Aside0 (x ∉ l.take j)) (fun v18 => k - (intOf v18).toNat)
      case atStart => exact ⟨0, rfl, by omega, ⟨by simp⟩⟩
      case round =>
        obtain ⟨j, rfl, hj, HN⟩ := hrel
        by_cases hlj : j < k
        · obtain ⟨ad2, e2, hy⟩ := C_nat HL.out j (by omega)
          cases e2
          obtain ⟨y, hy'⟩ : ∃ y, l.getD j 0 = y := ⟨_, rfl⟩
          rw [hy'] at hy
          by_cases hxy : x = y
          · have hmem : x ∈ l.take k := by rw [hxy, ← hy']; exact mem_take_getD l k j hlj hk
            have hnn : ¬ l.Nodup := nodup_of_take l (k + 1) (by rw [nodup_take_succ_iff l k hlk, HX.out]; exact fun h => h.2 hmem)
            have hRt : true = R := by rw [← HR.out]; simp [hnn]
            subst hRt hxy
            clear hy' hmem hnn HR HN
            go_wp2
            go_ret
            exact ⟨rfl, rfl⟩
          · have hxb : (x == y) = false := by simp [hxy]
            have HN2 : Aside0 (x ∉ l.take (j + 1)) := ⟨by
              rw [take_succ_rd l j (by omega), hy']
              simp only [List.mem_append, List.mem_singleton, not_or]
              exact ⟨HN.out, hxy⟩⟩
            clear hy' hxy HN
            go_wp2
            go_round
            case rel => exact ⟨j + 1, by go_num, by omega, HN2⟩
            case measure => simp [intOf]; omega
        · obtain rfl : j = k := by omega
          have HT2 : Aside0 ((l.take (j + 1)).Nodup) := ⟨by rw [nodup_take_succ_iff l j hlk, HX.out]; exact ⟨HT.out, HN.out⟩⟩
          clear HN
          go_wp2
          go_round
          case rel => exact ⟨j + 1, by go_num, by omega, HT2⟩
          case measure => simp [intOf]; omega
    · obtain rfl : k = l.length := by omega
      rw [List.take_length] at HT
      have hRf : false = R := by rw [← HR.out]; simp [HT.out]
      subst hRf
      clear HR HT
      go_wp2
      go_ret
      exact ⟨rfl, rfl⟩
end Go.Proofs.Yticgblagimmlfaa
