/- trim. -/
import Derived.Test.YticgblagimmlfaaG0
namespace Go.Proofs.Yticgblagimmlfaa
open Go.RowKit Go.Proofs.YticgblagimmlfaaW.PrintWords Go.Proofs.YticgblagimmlfaaW.PrintLast Go.Proofs.YticgblagimmlfaaW.PrintMore
set_option linter.unusedVariables false
set_option linter.unusedSimpArgs false

theorem info3 : (Try.prog.info? 3).map (fun i => (i.zero, i.size, i.bytes)) = some (some (.int .i64 0), 1, 8) := by kernel_rfl
theorem info4 : (Try.prog.info? 4).map (fun i => (i.zero, i.size, i.bytes)) = some (some (.bool false), 1, 1) := by kernel_rfl

theorem trim_any {w : World} {A : Option Addr} {c : Nat} {l : List Int} (h : Kd.C (Kd.int .i64) w A l.length l) (hc : l.length ≤ c) :
    Calls Try.prog 122 #[.slice A l.length c] w fun e w' => e = .returned (.slice A (trimZ l).length c) ∧ Drawn0 w w' := by
  have H := Aside0.mk h
  have hm := Kd.C_max h
  clear h
  have hB := Drawn0.refl w
  go_enter Try.func122, Try.ntmps122
  go_wp2
  go_loopw [0] (fun v0 w' => ∃ n : Nat, v0 = .slice A n c ∧ n ≤ l.length ∧ Aside0 (trimZ (l.take n) = trimZ l) ∧ Drawn0 w w') (fun v0 _ => match v0 with | .slice _ n _ => n | _ => 0)
  case atStart => exact ⟨l.length, rfl, Nat.le_refl _, ⟨by simp⟩, Drawn0.refl _⟩
  case round =>
    obtain ⟨n, rfl, hn, HT, ⟨m, rfl⟩⟩ := hrel
    by_cases h0 : 0 < n
    · obtain ⟨k, rfl⟩ : ∃ k, n = k + 1 := ⟨n - 1, by omega⟩
      obtain ⟨ad, e0, hx⟩ := C_nat H.out k (by omega)
      cases e0
      obtain ⟨i0, hi, _, hsz, _⟩ := info_parts info3
      have hcut := cut_to (P := Try.prog) 25 3 .i64 Try.underlying25 hi (some ad) (k + 1) c (k : Int) (by omega) (by omega) (by omega)
      clear hi hsz
      by_cases hz : l.getD k 0 = 0
      · have ht := trimZ_take_zero l k (by omega) hz
        have HT' := Aside0.mk (ht.symm.trans HT.out)
        rw [hz] at hx
        clear HT hz ht
        go_wp2
        go_roundw
        case rel => exact ⟨k, rfl, by omega, HT', Drawn0.step (Drawn0.refl _) _⟩
        case measure => simp
      · have ht := trimZ_take_ne l k (by omega) hz
        have HT' := Aside0.mk (ht.symm.trans HT.out)
        obtain ⟨x, hx'⟩ : ∃ x, l.getD k 0 = x := ⟨_, rfl⟩
        rw [hx'] at hx hz
        have hz' : (x == 0) = false := by simp [hz]
        clear HT hz ht hx'
        go_wp2
        go_ret
        exact ⟨by rw [← HT'.out]; simp; omega, Drawn0.step (Drawn0.refl _) _⟩
    · obtain rfl : n = 0 := by omega
      have HT' := Aside0.mk HT.out
      simp only [List.take_zero, trimZ] at HT'
      clear HT hn
      go_wp2
      go_ret
      exact ⟨by rw [← HT'.out]; rfl, Drawn0.step (Drawn0.refl _) _⟩

/-! ### rows of the call's own -/
/-- Whole numbers in new memory, from block base on. -/
structure Own (w : World) (base : Nat) (v : Value) (l : List Int) : Prop where mk ::
  out : Kd.R (Kd.int .i64) 3 w base (fun _ => True) v l
theorem Own.below {w w1 : World} {base : Nat} {v : Value} {l : List Int} (h : Own w base v l) (hb : Below w.heap.size w w1) : Own w1 base v l := ⟨Kd.R_below h.out hb⟩
theorem Own.drewN {w : World} {base : Nat} {v : Value} {l : List Int} (h : Own w base v l) (n : Nat) : Own (w.drewN n) base v l := ⟨Kd.R_drewN h.out n⟩
theorem Own.lower {w : World} {base base' : Nat} {v : Value} {l : List Int} (h : Own w base v l) (hb : base' ≤ base) : Own w base' v l := ⟨Kd.R_lower h.out hb⟩
theorem Own.slice {w : World} {base : Nat} {v : Value} {l : List Int} (h : Own w base v l) : ∃ A c, v = .slice A l.length c ∧ l.length ≤ c ∧ Kd.C (Kd.int .i64) w A l.length l := Kd.R_reads h.out
theorem Own.form {w : World} {base : Nat} {v : Value} {l : List Int} (h : Own w base v l) (hp : 0 < l.length) : ∃ g cap, v = .slice (some ⟨g, 0, none⟩) l.length cap ∧ base ≤ g ∧ g < w.heap.size := by
  obtain ⟨g, cap, e, h1, h2, -⟩ := Kd.R_form h.out hp
  exact ⟨g, cap, e, h1, h2⟩
theorem Own.cell {w : World} {base g cap : Nat} {l : List Int} (h : Own w base (.slice (some ⟨g, 0, none⟩) l.length cap) l) (k : Nat) (hk : k < l.length) :
    w.cell? ⟨g, k, none⟩ = some (.int .i64 (l.getD k 0)) ∧ w.frozen? ⟨g, k, none⟩ = false := by
  have := Kd.R_cell (enc := Value.int .i64) (0 : Int) h.out (k : Int) (by omega) (by omega)
  simpa [rdOf] using this
theorem Own.cell' {w : World} {base g cap n : Nat} {l : List Int} (h : Own w base (.slice (some ⟨g, 0, none⟩) n cap) l) (hn : n = l.length) (k : Nat) (hk : k < n) :
    w.cell? ⟨g, k, none⟩ = some (.int .i64 (l.getD k 0)) ∧ w.frozen? ⟨g, k, none⟩ = false := by
  subst hn; exact h.cell k hk
theorem Own.set {w : World} {base g cap n : Nat} {l : List Int} (h : Own w base (.slice (some ⟨g, 0, none⟩) n cap) l) (hn : n = l.length) (k : Nat) (x : Int) :
    Own (w.setCell ⟨g, k, none⟩ (.int .i64 x)) base (.slice (some ⟨g, 0, none⟩) n cap) (l.set k x) := by
  subst hn
  have := (Kd.R_put (enc := Value.int .i64) h.out (k : Int) x).1
  rw [Int.toNat_natCast] at this
  exact ⟨this⟩
theorem Own.take {w : World} {base n c m : Nat} {A : Option Addr} {l : List Int} (h : Own w base (.slice A n c) l) (hm : m ≤ l.length) : Own w base (.slice A m c) (l.take m) := ⟨Kd.R_take h.out hm⟩
theorem Own.trim {w : World} {base n c : Nat} {A : Option Addr} {l : List Int} (h : Own w base (.slice A n c) l) : Own w base (.slice A (trimZ l).length c) (trimZ l) := by
  have := h.take (m := (trimZ l).length) (trimZ_length_le l)
  rwa [← trimZ_eq_take] at this

section
variable {P : Program} {ops : Array Oper} {rest : List Oper} {o : Oper} {a : Act} {Q : Exit → Act → World → Prop}
theorem make_own {W : World} (hgd : o.guard = none) {N : Tmp} (hd : o.dst = some N) (x y : Operand) (ho : o.op = .makeSlice 25 x y) (n : Nat) (hx : a.eval x = .int .i64 n) (hy : a.eval y = .int .i64 n) (hl : n ≤ 35184372088832)
    (h : ∀ v1 w1, Own w1 W.heap.size v1 (List.replicate n 0) → Below W.heap.size W w1 → wpList Try.prog ops Q rest (a.put o.dst v1) w1) : wpList Try.prog ops Q (o :: rest) a W := by
  refine Kd.R_make (Kd.int .i64) W.heap.size 3 hgd (N := N) hd 25 x y ho (n : Int) hx hy Try.underlying25 (.int .i64 0) 8 info3 rfl (by decide) (by omega) 0 (ok := fun _ => True) (okp := fun _ => True) rfl (fun _ hk => hk) trivial (by omega) (by omega) (Below.refl _ _) (Nat.le_refl _) ?_
  intro v1 w1 h1 h2 _ _
  exact h v1 w1 ⟨by simpa using h1⟩ h2
theorem make_ownI {W : World} (hgd : o.guard = none) {N : Tmp} (hd : o.dst = some N) (x y : Operand) (ho : o.op = .makeSlice 25 x y) {m : Int} {n : Nat} (hm : Aside0 (m = n)) (hx : a.eval x = .int .i64 m) (hy : a.eval y = .int .i64 m) (hl : n ≤ 35184372088832)
    (h : ∀ v1 w1, Own w1 W.heap.size v1 (List.replicate n 0) → Below W.heap.size W w1 → wpList Try.prog ops Q rest (a.put o.dst v1) w1) : wpList Try.prog ops Q (o :: rest) a W := by
  have hm := hm.out
  subst hm
  exact make_own hgd hd x y ho n hx hy hl h
end
theorem below_later {B : Nat} {w w1 w2 : World} (h : Below B w w1) (hB : B ≤ w1.heap.size) (k : Below w1.heap.size w1 w2) : Below B w w2 := below_then h hB k

theorem canon_any {g : Nat} {D : GFD} {w : World} (h : GFat w g D) {A : Option Addr} {c : Nat} {l : List Int} (hl : Kd.C (Kd.int .i64) w A l.length l) (hb : l.length ≤ 35184372088832) :
    Calls Try.prog 120 #[.pointer (some ⟨g, 0, none⟩), .slice A l.length c] w fun e w' => ∃ v, e = .returned v ∧ Own w' w.heap.size v (D.canon l) ∧ Below w.heap.size w w' := by
  have H := Aside0.mk h
  have HL := Aside0.mk hl
  clear h hl
  obtain ⟨F, hF⟩ : ∃ F : Int → Int → Int, F = (fun o c => if D.is c = true then c else o) := ⟨_, rfl⟩
  obtain ⟨Z, hZ⟩ : ∃ Z : List Int, Z = List.replicate l.length 0 := ⟨_, rfl⟩
  have hcan : D.canon l = trimZ (updZ F Z l) := by rw [hF, hZ]; rfl
  rw [hcan]
  have hZl : Z.length = l.length := by rw [hZ]; simp
  have HF := Aside0.mk hF
  have HZ := Aside0.mk hZ
  have HZl := Aside0.mk hZl
  clear hcan hF hZ hZl
  go_enter Try.func120, Try.ntmps120
  go_wp2_with ((with_reducible refine gate_dst (N := 10) rfl ?_); refine make_own rfl (N := 10) rfl _ _ rfl l.length rfl rfl hb ?_; intro v w1 hO hB; rw [← HZ.out] at hO; have HO := Aside0.mk hO; clear hO)
  go_loopw [13] (fun v13 w' => ∃ k : Nat, v13 = .int .i64 k ∧ k ≤ l.length ∧ Aside0 (Own w' w.heap.size v (updZ F Z (l.take k))) ∧ Below w.heap.size w w') (fun v13 _ => l.length - (intOf v13).toNat)
  case atStart => exact ⟨0, rfl, by omega, ⟨by simpa [updZ_nil] using HO.out⟩, hB⟩
  case round =>
    obtain ⟨k, rfl, hk, HO, hB⟩ := hrel
    by_cases hlt : k < l.length
    · obtain ⟨ad, e, hx⟩ := C_nat HL.out k hlt
      cases e
      obtain ⟨x, hx'⟩ : ∃ x, l.getD k 0 = x := ⟨_, rfl⟩
      rw [hx'] at hx
      have HX := Aside0.mk hx'
      clear hx'
      replace hx := pw_cell_below hB hx
      obtain ⟨b, hb'⟩ : ∃ b, D.is x = b := ⟨_, rfl⟩
      have HBx := Aside0.mk hb'
      have hlen : (updZ F Z (l.take k)).length = l.length := by rw [updZ_length]; exact HZl.out
      have hstep := updZ_set F 0 k Z l hlt (by rw [HZl.out]; exact hlt)
      rw [HX.out] at hstep
      obtain ⟨gb, cap, e, hg1, hg2⟩ := HO.out.form (by omega)
      rw [hlen] at e
      subst e
      cases b with
      | true =>
        have hFx : F (Z.getD k 0) x = x := by rw [HF.out]; simp [hb']
        rw [hFx] at hstep
        have HO2 := Aside0.mk (HO.out.set hlen.symm k x)
        rw [hstep] at HO2
        obtain ⟨hcl, hfz⟩ := HO.out.cell' hlen.symm k hlt
        have HG := Aside0.mk (H.out.below hB)
        have HI := fun (w1 : World) (hd : Drawn0 wr w1) => Aside0.mk (is_any (HG.out.drawn hd) x)
        rw [hb'] at HI
        clear hstep hlen hFx HO hb'
        go_wp2_with (go_at_call 66; refine (HI _ ?side1).out.mono ?_; (case side1 => repeat (first | exact Drawn0.refl _ | apply Drawn0.step)); rintro e w' ⟨rfl, ⟨n, rfl⟩⟩)
        go_roundw
        case rel => exact ⟨k + 1, by go_num, by omega, ⟨HO2.out.drewN _⟩, pw_below_drewN (hB.setCell hg1 _) _⟩
        case measure => simp [intOf]; omega
      | false =>
        have hFx : F (Z.getD k 0) x = Z.getD k 0 := by rw [HF.out]; simp [hb']
        rw [hFx] at hstep
        have hsame : (updZ F Z (l.take k)).set k (Z.getD k 0) = updZ F Z (l.take k) := by
          have := updZ_get F 0 k Z l
          rw [← this]
          exact List.ext_getElem? (fun i => by
            rw [List.getElem?_set]
            split
            · subst_vars; simp [List.getD_eq_getElem?_getD, hlen, hlt]
            · rfl)
        rw [hsame] at hstep
        have HO2 := HO
        rw [hstep] at HO2
        have HG := Aside0.mk (H.out.below hB)
        have HI := fun (w1 : World) (hd : Drawn0 wr w1) => Aside0.mk (is_any (HG.out.drawn hd) x)
        rw [hb'] at HI
        clear hstep hlen hFx HO hb' hsame
        go_wp2_with (go_at_call 66; refine (HI _ ?side1).out.mono ?_; (case side1 => repeat (first | exact Drawn0.refl _ | apply Drawn0.step)); rintro e w' ⟨rfl, ⟨n, rfl⟩⟩)
        go_roundw
        case rel => exact ⟨k + 1, by go_num, by omega, ⟨HO2.out.drewN _⟩, pw_below_drewN hB _⟩
        case measure => simp [intOf]; omega
    · obtain rfl : k = l.length := by omega
      rw [List.take_length] at HO
      have hlen : (updZ F Z l).length = l.length := by rw [updZ_length]; exact HZl.out
      obtain ⟨A', c', rfl, hc', hC⟩ := HO.out.slice
      have HT := Aside0.mk (HO.out.trim)
      have HCC := Aside0.mk hC
      clear hlen hC HO
      go_wp2_with (go_at_call 122; refine (trim_any HCC.out hc').mono ?_; rintro e w' ⟨rfl, ⟨n, rfl⟩⟩)
      go_ret
      exact ⟨_, rfl, HT.out.drewN _, pw_below_drewN hB _⟩
end Go.Proofs.Yticgblagimmlfaa
