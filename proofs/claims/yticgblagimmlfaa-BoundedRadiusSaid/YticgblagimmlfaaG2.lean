/- Eval, Degree, combine. -/
import Derived.Test.YticgblagimmlfaaG1
namespace Go.Proofs.Yticgblagimmlfaa
open Go.RowKit Go.Proofs.YticgblagimmlfaaW.PrintWords Go.Proofs.YticgblagimmlfaaW.PrintLast Go.Proofs.YticgblagimmlfaaW.PrintMore
set_option linter.unusedVariables false
set_option linter.unusedSimpArgs false

theorem quiet_d {P : Program} {f : FuncId} {args : Array Value} {w : World} {n : Nat} {v : Value}
    (h : Calls P f args (w.drewN n) fun e w' => e = .returned v ∧ Drawn0 (w.drewN n) w') : Calls P f args (w.drewN n) fun e w'' => e = .returned v ∧ ∃ m, w'' = w.drewN m :=
  h.mono fun _ _ ⟨he, hd⟩ => by
    obtain ⟨m, hm⟩ := hd
    exact ⟨he, n + m, by rw [hm, World.drewN_drewN]⟩
theorem drawn_drewN (w : World) (n : Nat) : Drawn0 w (w.drewN n) := Drawn0.step (Drawn0.refl _) _
theorem GFat.drewN {w : World} {g : Nat} {D : GFD} (h : GFat w g D) (n : Nat) : GFat (w.drewN n) g D := h.drawn (drawn_drewN w n)
theorem Drawn0.trans {w w1 w2 : World} (h : Drawn0 w w1) (k : Drawn0 w1 w2) : Drawn0 w w2 := by
  obtain ⟨n, rfl⟩ := k
  exact h.step n

theorem eval_drop (D : GFD) (l : List Int) (x : Int) (k : Nat) (h : k < l.length) : D.eval (l.drop k) x = D.add (D.mul (D.eval (l.drop (k + 1)) x) x) (l.getD k 0) := by
  rw [List.drop_eq_getElem_cons h, List.getD_eq_getElem?_getD, List.getElem?_eq_getElem h]
  rfl

theorem eval_any {g : Nat} {D : GFD} {w : World} (h : GFat w g D) (hD : D.ok) {A : Option Addr} {c : Nat} {l : List Int} (hl : Kd.C (Kd.int .i64) w A l.length l) (x : Int) :
    Calls Try.prog 92 #[.pointer (some ⟨g, 0, none⟩), .slice A l.length c, .int .i64 x] w fun e w' => e = .returned (.int .i64 (D.eval l x)) ∧ Drawn0 w w' := by
  have H := Aside0.mk h
  have HL := Aside0.mk hl
  have hm := Kd.C_max hl
  clear h hl
  go_enter Try.func92, Try.ntmps92
  go_wp2
  go_loopw [7, 8] (fun v7 v8 w' => ∃ (k : Nat) (y : Int), v8 = .int .i64 ((k : Int) - 1) ∧ v7 = .int .i64 y ∧ k ≤ l.length ∧ Aside0 (y = D.eval (l.drop k) x) ∧ Drawn0 w w') (fun _ v8 _ => (intOf v8 + 1).toNat)
  case atStart => exact ⟨l.length, 0, rfl, rfl, Nat.le_refl _, ⟨by simp [GFD.eval]⟩, Drawn0.refl _⟩
  case round =>
    obtain ⟨k, y, rfl, rfl, hk, HY, hd⟩ := hrel
    by_cases h0 : 0 < k
    · obtain ⟨j, rfl⟩ : ∃ j, k = j + 1 := ⟨k - 1, by omega⟩
      have hstep := eval_drop D l x j (by omega)
      rw [← HY.out] at hstep
      have HS := Aside0.mk hstep
      obtain ⟨ad, e, hx⟩ := C_nat (Kd.C_below HL.out hd.below) j (by omega)
      cases e
      obtain ⟨z, hz⟩ : ∃ z, l.getD j 0 = z := ⟨_, rfl⟩
      rw [hz] at hx hstep
      have HZ := Aside0.mk hstep.symm
      have HG := Aside0.mk (H.out.drawn hd)
      clear hz hstep HS
      have hj : j < l.length := by omega
      go_wp2
      go_quiet (first | (go_at_call 79; exact quiet_d (mul_any (HG.out.drewN _) hD _ _)) | (go_at_call 83; exact quiet_d (add_any (HG.out.drewN _) hD _ _)))
      go_wp2
      go_roundw
      case rel => exact ⟨j, _, by go_num, rfl, by omega, HZ, hd.step _⟩
      case measure => simp [intOf]
    · obtain rfl : k = 0 := by omega
      rw [List.drop_zero] at HY
      go_wp2
      go_ret
      exact ⟨by rw [HY.out]; rfl, hd⟩

theorem degree_any {g : Nat} {D : GFD} {w : World} (h : GFat w g D) {A : Option Addr} {c : Nat} {l : List Int} (hl : Kd.C (Kd.int .i64) w A l.length l) (hb : l.length ≤ 35184372088832) :
    Calls Try.prog 139 #[.pointer (some ⟨g, 0, none⟩), .slice A l.length c] w fun e w' => e = .returned (.int .i64 (((D.canon l).length : Int) - 1)) ∧ Below w.heap.size w w' := by
  have H := Aside0.mk h
  have HL := Aside0.mk hl
  have hle : (D.canon l).length ≤ l.length := by
    unfold GFD.canon
    refine Nat.le_trans (trimZ_length_le _) ?_
    rw [updZ_length]; simp
  clear h hl
  go_enter Try.func139, Try.ntmps139
  go_wp2_with (go_at_call 120; refine (canon_any H.out HL.out hb).mono ?_; rintro e w1 ⟨v, rfl, hO, hB⟩; obtain ⟨A1, c1, rfl, -, -⟩ := hO.slice; clear hO)
  go_ret
  exact ⟨rfl, hB⟩

end Go.Proofs.Yticgblagimmlfaa
