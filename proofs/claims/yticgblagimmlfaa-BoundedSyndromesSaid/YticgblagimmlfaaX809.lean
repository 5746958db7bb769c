/- Parts of the proof: Sp4, R1, R2. -/
import Derived.Test.YticgblagimmlfaaX803
import Derived.Test.YticgblagimmlfaaX808
section
/- What the reference's arithmetic computes; plain Lean. -/
namespace Go.Proofs.Yticgblagimmlfaa
set_option linter.unusedVariables false
set_option linter.unusedSimpArgs false

def inR (P M x : Int) : Int := if isR P M x = true then x else 0
/-- The order is right. -/
structure FOK (P : Int) (m : Nat) : Prop where
  nz : orderZ P m ≠ 0
theorem FOK.facts {P : Int} {m : Nat} (h : FOK P m) : 2 ≤ P ∧ P ≤ 256 ∧ 1 ≤ m ∧ m ≤ 8 ∧ P ^ m ≤ 256 ∧ orderZ P m = P ^ m := by
  obtain ⟨h1, h2, h3, h4⟩ := orderZ_range P m h.nz
  obtain ⟨h5, h6⟩ := orderZ_pow P m h.nz
  rw [Int.toNat_natCast] at h5 h6
  exact ⟨h1, h2, by omega, by omega, h6, h5⟩
theorem inR_range {P : Int} {m : Nat} (h : FOK P m) (x : Int) : 0 ≤ inR P m x ∧ inR P m x < P ^ m ∧ inR P m x ≤ 256 := by
  obtain ⟨h1, h2, h3, h4, h5, h6⟩ := h.facts
  have h7 : 0 < P ^ m := Int.pow_pos (by omega)
  unfold inR isR
  rw [h6]
  split
  · rename_i hb
    have := of_decide_eq_true hb
    omega
  · omega
/-- The first k entries are turned by f. -/
def mapPre (f : Int → Int) (l : List Int) (k : Nat) : List Int := (l.take k).map f ++ l.drop k
theorem mapPre_zero (f : Int → Int) (l : List Int) : mapPre f l 0 = l := by simp [mapPre]
theorem mapPre_all (f : Int → Int) (l : List Int) : mapPre f l l.length = l.map f := by simp [mapPre]
theorem mapPre_length (f : Int → Int) (l : List Int) (k : Nat) : (mapPre f l k).length = l.length := by simp [mapPre]; omega
theorem mapPre_get (f : Int → Int) (l : List Int) (k : Nat) (h : k < l.length) : (mapPre f l k).getD k 0 = l.getD k 0 := by
  unfold mapPre
  have hl : ((l.take k).map f).length = k := by simp; omega
  rw [List.getD_eq_getElem?_getD, List.getElem?_append_right (by omega), hl, Nat.sub_self, List.getElem?_drop, Nat.add_zero, ← List.getD_eq_getElem?_getD]
theorem mapPre_set (f : Int → Int) (l : List Int) (k : Nat) (h : k < l.length) : (mapPre f l k).set k (f (l.getD k 0)) = mapPre f l (k + 1) := by
  unfold mapPre
  have hl : ((l.take k).map f).length = k := by simp; omega
  rw [List.set_append_right _ _ (by omega), hl, Nat.sub_self, take_succ_rd l k h, List.map_append, List.append_assoc, List.drop_eq_getElem_cons h, List.set_cons_zero]
  simp
/-- The reference's sum, negative and difference. -/
def addR (P : Int) (m : Nat) (x y : Int) : Int := val P (updZ (fun o c => (o + c) % P) (digs P m (inR P m x)) (digs P m (inR P m y)))
def negR (P : Int) (m : Nat) (x : Int) : Int := val P ((digs P m (inR P m x)).map fun d => (P - d) % P)
def subR (P : Int) (m : Nat) (x y : Int) : Int := addR P m x (negR P m y)
/-- The product's coefficients behind k rows. -/
def convTo (P : Int) (a b c0 : List Int) : Nat → List Int
  | 0 => c0
  | k + 1 => updAt (fun o t => (o + a.getD k 0 * t) % P) k (convTo P a b c0 k) b
theorem convTo_length (P : Int) (a b c0 : List Int) : ∀ k, (convTo P a b c0 k).length = c0.length
  | 0 => rfl
  | k + 1 => by rw [convTo, updAt_length, convTo_length P a b c0 k]
theorem convTo_mem (P : Int) (hP : 2 ≤ P) (a b c0 : List Int) (h : ∀ d ∈ c0, 0 ≤ d ∧ d < P) : ∀ k, ∀ d ∈ convTo P a b c0 k, 0 ≤ d ∧ d < P
  | 0 => h
  | k + 1 => updAt_mem _ (fun d => 0 ≤ d ∧ d < P) (fun o t => ⟨Int.emod_nonneg _ (by omega), Int.emod_lt_of_pos _ (by omega)⟩) _ _ _ (convTo_mem P hP a b c0 h k)
/-- The coefficients from m + n - 1 down to m are taken away. -/
def redRun (P : Int) (m : Nat) (Mod : List Int) : Nat → List Int → List Int
  | 0, c => c
  | n + 1, c => redRun P m Mod n (updAt (fun o t => (o + (P - c.getD (m + n) 0) * t) % P) n c Mod)
theorem redRun_length (P : Int) (m : Nat) (Mod : List Int) : ∀ n c, (redRun P m Mod n c).length = c.length
  | 0, c => rfl
  | n + 1, c => by rw [redRun, redRun_length P m Mod n, updAt_length]
theorem redRun_mem (P : Int) (hP : 2 ≤ P) (m : Nat) (Mod : List Int) : ∀ n c, (∀ d ∈ c, 0 ≤ d ∧ d < P) → ∀ d ∈ redRun P m Mod n c, 0 ≤ d ∧ d < P
  | 0, c, h => h
  | n + 1, c, h => redRun_mem P hP m Mod n _ (updAt_mem _ (fun d => 0 ≤ d ∧ d < P) (fun o t => ⟨Int.emod_nonneg _ (by omega), Int.emod_lt_of_pos _ (by omega)⟩) _ _ _ h)
def prodR (P : Int) (m : Nat) (Mod : List Int) (x y : Int) : List Int :=
  redRun P m Mod (m - 1) (convTo P (digs P m (inR P m x)) (digs P m (inR P m y)) (List.replicate (2 * m - 1) 0) m)
def mulR (P : Int) (m : Nat) (Mod : List Int) (x y : Int) : Int := val P ((prodR P m Mod x y).take m)
end Go.Proofs.Yticgblagimmlfaa
end
section
/- The reference: In, Digits, Value, Add, Neg, Sub. -/
namespace Go.Proofs.Yticgblagimmlfaa
open Go.RowKit Go.Proofs.YticgblagimmlfaaW.PrintWords Go.Proofs.YticgblagimmlfaaW.PrintLast Go.Proofs.YticgblagimmlfaaW.PrintMore
set_option linter.unusedVariables false
set_option linter.unusedSimpArgs false

theorem Own.setFar {w : World} {base : Nat} {v : Value} {l : List Int} (h : Own w base v l) {p : Addr} (hne : v.ownBlock ≠ some p.block) (u : Value) : Own (w.setCell p u) base v l :=
  h.keep fun j hj => Below.heap_setCell w p u j (fun e => hne (by rw [hj, e]))
theorem Own.setFar' {w : World} {base g n c g' k : Nat} {l : List Int} (h : Own w base (.slice (some ⟨g, 0, none⟩) n c) l) (hne : g ≠ g') (u : Value) : Own (w.setCell ⟨g', k, none⟩ u) base (.slice (some ⟨g, 0, none⟩) n c) l :=
  h.setFar (p := ⟨g', k, none⟩) (fun e => hne (Option.some.inj (show some g = some g' from e))) u

set_option maxRecDepth 100000 in
theorem refIn_any {w : World} {A : Option Addr} {n c : Nat} (P M x : Int) :
    Calls Try.prog 116 #[.agg #[.int .i64 P, .int .i64 M, .slice A n c], .int .i64 x] w fun e w' => e = .returned (.int .i64 (inR P M x)) ∧ Below w.heap.size w w' := by
  have hF0 := FAt.new w P M A n c
  obtain ⟨w0, hw0⟩ : ∃ w0, w.alloc (.cells #[.int .i64 P, .int .i64 M, .slice A n c] 27) = w0 := ⟨_, rfl⟩
  have hB0 : Below w.heap.size w w0 := by rw [← hw0]; exact below_alloc (Below.refl _ _) _
  rw [hw0] at hF0
  have HB0 := Aside0.mk hB0
  have HW := Aside0.mk hw0
  have HF := Aside0.mk hF0
  have HI := fun (w1 : World) => Aside0.mk (refIs_any (w := w1) (A := A) (n := n) (c := c) P M x)
  obtain ⟨b, hb⟩ : ∃ b, isR P M x = b := ⟨_, rfl⟩
  have hR : inR P M x = if b = true then x else 0 := by unfold inR; rw [hb]
  rw [hR]
  rw [hb] at HI
  have HI := Aside0.mk HI
  clear hF0 hB0 hw0 hb hR
  cases b with
  | true =>
    simp only [if_true]
    go_enter Try.func116, Try.ntmps116
    go_upto_region 1 with (fail)
    rw [HW.out]
    have cP := HF.out.p
    have cM := HF.out.m
    have cD := HF.out.mod
    go_wp2_with (go_at_call 43; refine (HI.out _).out.mono ?_; rintro e w1 ⟨rfl, hB⟩; have HB1 := Aside0.mk (below_later HB0.out HB0.out.size hB); clear hB)
    go_ret
    exact ⟨rfl, HB1.out⟩
  | false =>
    rw [if_neg (by simp)]
    go_enter Try.func116, Try.ntmps116
    go_upto_region 1 with (fail)
    rw [HW.out]
    have cP := HF.out.p
    have cM := HF.out.m
    have cD := HF.out.mod
    go_wp2_with (go_at_call 43; refine (HI.out _).out.mono ?_; rintro e w1 ⟨rfl, hB⟩; have HB1 := Aside0.mk (below_later HB0.out HB0.out.size hB); clear hB)
    go_ret
    exact ⟨rfl, HB1.out⟩

set_option maxRecDepth 100000 in
theorem refDig_any {w : World} {A : Option Addr} {n c : Nat} {P : Int} {m : Nat} (hf : FOK P m) (x : Int) :
    Calls Try.prog 76 #[.agg #[.int .i64 P, .int .i64 (m : Int), .slice A n c], .int .i64 x] w fun e w' => ∃ v, e = .returned v ∧ Own w' w.heap.size v (digs P m (inR P m x)) ∧ Below w.heap.size w w' := by
  obtain ⟨hP, hP2, hm1, hm8, hq, ho⟩ := hf.facts
  have hF0 := FAt.new w P (m : Int) A n c
  obtain ⟨w0, hw0⟩ : ∃ w0, w.alloc (.cells #[.int .i64 P, .int .i64 (m : Int), .slice A n c] 27) = w0 := ⟨_, rfl⟩
  have hB0 : Below w.heap.size w w0 := by rw [← hw0]; exact below_alloc (Below.refl _ _) _
  rw [hw0] at hF0
  have HB0 := Aside0.mk hB0
  have HW := Aside0.mk hw0
  have HF := Aside0.mk hF0
  have HI := Aside0.mk (fun (w1 : World) => refIn_any (w := w1) (A := A) (n := n) (c := c) P (m : Int) x)
  have hy := inR_range hf x
  obtain ⟨y, hy'⟩ : ∃ y, inR P m x = y := ⟨_, rfl⟩
  rw [hy'] at HI hy
  rw [hy']
  have HD := Aside0.mk (fun (w1 : World) => refDigits_any y P m (by omega) (by omega) hP (by omega) w1)
  obtain ⟨L, hL⟩ : ∃ L, digs P m y = L := ⟨_, rfl⟩
  rw [hL] at HD
  rw [hL]
  clear hF0 hB0 hw0 hy' hL hq ho
  go_enter Try.func76, Try.ntmps76
  go_upto_region 1 with (fail)
  rw [HW.out]
  have hcP : ∀ j : Ext w0, j.wd.cell? ⟨w.heap.size, 0, none⟩ = some (.int .i64 P) := fun j => j.cell HF.out.p
  have hcM : ∀ j : Ext w0, j.wd.cell? ⟨w.heap.size, 1, none⟩ = some (.int .i64 (m : Int)) := fun j => j.cell HF.out.m
  have hcD : ∀ j : Ext w0, j.wd.cell? ⟨w.heap.size, 2, none⟩ = some (.slice A n c) := fun j => j.cell HF.out.mod
  refine wp_region_ext_tail 7 (by kernel_rfl) (by kernel_rfl) ?_
  simp only [List.take_succ_cons, List.take_zero, List.drop_succ_cons, List.drop_zero]
  repeat (go_big_quiet_step ((go_at_call 116; with_reducible exact Ext.call _ (HI.out _))))
  refine wpQuiet_nil ?_
  intro w1 hB1
  have HB1 := Aside0.mk (below_later HB0.out HB0.out.size hB1)
  clear hcP hcM hcD hB1
  go_wp2_with (go_at_call 109; refine (HD.out _).mono ?_; rintro e w2 ⟨v, rfl, hO, hB⟩; have HO := Aside0.mk hO; have HB2 := Aside0.mk hB; clear hO hB)
  go_ret
  exact ⟨_, rfl, HO.out.lower HB1.out.size, below_later HB1.out HB1.out.size HB2.out⟩

set_option maxHeartbeats 1000000 in
set_option maxRecDepth 100000 in
theorem refValue_any {w : World} {A B : Option Addr} {n c d : Nat} (P M : Int) {l : List Int} (hl : Kd.C (Kd.int .i64) w B l.length l) (hP : 2 ≤ P) (hP2 : P ≤ 256) (hm : ∀ d ∈ l, 0 ≤ d ∧ d < P) (hb : P ^ l.length ≤ 256) :
    Calls Try.prog 77 #[.agg #[.int .i64 P, .int .i64 M, .slice A n c], .slice B l.length d] w fun e w' => e = .returned (.int .i64 (val P l)) ∧ Below w.heap.size w w' := by
  have hF0 := FAt.new w P M A n c
  obtain ⟨w0, hw0⟩ : ∃ w0, w.alloc (.cells #[.int .i64 P, .int .i64 M, .slice A n c] 27) = w0 := ⟨_, rfl⟩
  have hB0 : Below w.heap.size w w0 := by rw [← hw0]; exact below_alloc (Below.refl _ _) _
  rw [hw0] at hF0
  have HB0 := Aside0.mk hB0
  have HW := Aside0.mk hw0
  have HF := Aside0.mk hF0
  have HL := Aside0.mk (Kd.C_below hl hB0)
  have hmx := Kd.C_max hl
  have HM := Aside0.mk hm
  have HBd := Aside0.mk hb
  have HD0 := Aside0.mk (Drawn0.refl w0)
  clear hl hm hb hF0 hB0 hw0
  go_enter Try.func77, Try.ntmps77
  go_upto_region 1 with (fail)
  rw [HW.out]
  go_wp2
  go_loopw [5, 6] (fun v5 v6 w' => ∃ (k : Nat) (y : Int), v6 = .int .i64 ((k : Int) - 1) ∧ v5 = .int .i64 y ∧ k ≤ l.length ∧ Aside0 (y = val P (l.drop k)) ∧ Aside0 (Drawn0 w0 w')) (fun _ v6 _ => (intOf v6 + 1).toNat)
  case atStart => exact ⟨l.length, 0, rfl, rfl, Nat.le_refl _, ⟨by simp [val]⟩, HD0⟩
  case round =>
    clear HD0
    obtain ⟨k, y, rfl, rfl, hk, HY, hd⟩ := hrel
    by_cases h0 : 0 < k
    · obtain ⟨j, rfl⟩ : ∃ j, k = j + 1 := ⟨k - 1, by omega⟩
      have hstep := val_drop P l j (by omega)
      rw [← HY.out] at hstep
      obtain ⟨hy1, hy2⟩ := val_drop_bound P hP l HM.out HBd.out (j + 1)
      rw [← HY.out] at hy1 hy2
      obtain ⟨hs1, hs2⟩ := val_drop_bound P hP l HM.out HBd.out j
      obtain ⟨ad, e, hx⟩ := C_nat (Kd.C_below HL.out hd.out.below) j (by omega)
      cases e
      obtain ⟨z, hz⟩ : ∃ z, l.getD j 0 = z := ⟨_, rfl⟩
      rw [hz] at hx hstep
      obtain ⟨T, hT⟩ : ∃ T, val P (l.drop j) = T := ⟨_, rfl⟩
      rw [hT] at hstep hs1 hs2
      have HT := Aside0.mk hT.symm
      obtain ⟨m, hm⟩ : ∃ m, y * P = m := ⟨_, rfl⟩
      have hm1 : m ≤ 256 * 256 := by rw [← hm]; exact Int.mul_le_mul hy2 hP2 (by omega) (by omega)
      have hm0 : 0 ≤ m := by rw [← hm]; exact Int.mul_nonneg hy1 (by omega)
      rw [Int.mul_comm P y, hm] at hstep
      have e1 : IntKind.i64.wrap (y * P) = m := by rw [hm]; exact w64 _ (by omega) (by omega)
      have e2 : IntKind.i64.wrap (m + z) = T := by rw [hstep, Int.add_comm]; exact w64 _ (by omega) (by omega)
      have cP := (HF.out.below hd.out.below).p
      have i0 : (0 : Int) ≤ (j : Int) := by omega
      have i1 : (j : Int) < (l.length : Int) := by omega
      clear hz hstep hT hm HY
      go_wp2
      go_quiet (fail)
      go_wp2
      go_roundw
      case rel => exact ⟨j, _, by go_num, rfl, by omega, HT, ⟨Drawn0.trans hd.out ⟨_, rfl⟩⟩⟩
      case measure => simp [intOf]
    · obtain rfl : k = 0 := by omega
      rw [List.drop_zero] at HY
      go_wp2
      go_ret
      exact ⟨by rw [HY.out]; rfl, HB0.out.below'' hd.out⟩

set_option maxHeartbeats 1000000 in
set_option maxRecDepth 100000 in
theorem refAdd_any {w : World} {A : Option Addr} {n c : Nat} {P : Int} {m : Nat} (hf : FOK P m) (x y : Int) :
    Calls Try.prog 48 #[.agg #[.int .i64 P, .int .i64 (m : Int), .slice A n c], .int .i64 x, .int .i64 y] w fun e w' => e = .returned (.int .i64 (addR P m x y)) ∧ Below w.heap.size w w' := by
  obtain ⟨hP, hP2, hm1, hm8, hq, ho⟩ := hf.facts
  have hF0 := FAt.new w P (m : Int) A n c
  obtain ⟨w0, hw0⟩ : ∃ w0, w.alloc (.cells #[.int .i64 P, .int .i64 (m : Int), .slice A n c] 27) = w0 := ⟨_, rfl⟩
  have hB0 : Below w.heap.size w w0 := by rw [← hw0]; exact below_alloc (Below.refl _ _) _
  rw [hw0] at hF0
  have HB0 := Aside0.mk hB0
  have HW := Aside0.mk hw0
  have HF := Aside0.mk hF0
  have HDx := Aside0.mk (fun (w1 : World) => refDig_any (w := w1) (A := A) (n := n) (c := c) hf x)
  have HDy := Aside0.mk (fun (w1 : World) => refDig_any (w := w1) (A := A) (n := n) (c := c) hf y)
  have hxl := digs_length P m (inR P m x)
  have hyl := digs_length P m (inR P m y)
  have hxm := digs_mem P hP m (inR P m x)
  have hym := digs_mem P hP m (inR P m y)
  have hR : addR P m x y = val P (updZ (fun o c => (o + c) % P) (digs P m (inR P m x)) (digs P m (inR P m y))) := rfl
  rw [hR]
  obtain ⟨a, ha⟩ : ∃ a, digs P m (inR P m x) = a := ⟨_, rfl⟩
  obtain ⟨b, hb⟩ : ∃ b, digs P m (inR P m y) = b := ⟨_, rfl⟩
  rw [ha] at HDx hxl hxm ⊢
  rw [hb] at HDy hyl hym ⊢
  obtain ⟨F, hF⟩ : ∃ F : Int → Int → Int, (fun o c => (o + c) % P) = F := ⟨_, rfl⟩
  rw [hF]
  have hFm : ∀ (k : Nat), ∀ d ∈ updZ F a (b.take k), 0 ≤ d ∧ d < P := fun k => updZ_mem' F (fun d => 0 ≤ d ∧ d < P) (fun o t => by rw [← hF]; exact ⟨Int.emod_nonneg _ (by omega), Int.emod_lt_of_pos _ (by omega)⟩) a _ hxm
  have HFm := Aside0.mk hFm
  have HFe := Aside0.mk hF
  have Hxl := Aside0.mk hxl
  have Hyl := Aside0.mk hyl
  have Hxm := Aside0.mk hxm
  have Hym := Aside0.mk hym
  have HQ := Aside0.mk hq
  have HVal := Aside0.mk (fun (w1 : World) (l : List Int) (B : Option Addr) (d : Nat) (hl : Kd.C (Kd.int .i64) w1 B l.length l) (hm : ∀ d ∈ l, 0 ≤ d ∧ d < P) (hb : P ^ l.length ≤ 256) => refValue_any (A := A) (n := n) (c := c) (d := d) P (m : Int) hl hP hP2 hm hb)
  clear hF0 hB0 hw0 ha hb hxl hyl hxm hym hR hF hFm hq ho
  go_enter Try.func48, Try.ntmps48
  go_upto_region 1 with (fail)
  rw [HW.out]
  have cP := HF.out.p
  have cM := HF.out.m
  have cD := HF.out.mod
  go_wp2_with (first
    | (go_at_call 76; (with_reducible refine Calls.mono (HDx.out _) ?_); rintro e w1 ⟨v1, rfl, hO, hB⟩; have HO1 := Aside0.mk hO; have HB1 := Aside0.mk hB; obtain ⟨cP1, cM1, cD1⟩ := HF.out.below hB; clear hO hB)
    | (go_at_call 76; (with_reducible refine Calls.mono (HDy.out _) ?_); rintro e w2 ⟨v2, rfl, hO, hB⟩; have HO2 := Aside0.mk hO; have HO1b := Aside0.mk (HO1.out.below hB); have HB2 := Aside0.mk (below_later HB1.out HB1.out.size hB); obtain ⟨cP2, cM2, cD2⟩ := HF.out.below HB2.out; clear hO hB))
  obtain ⟨g1, c1, e1, h11, h12⟩ := HO1.out.form (by rw [Hxl.out]; omega)
  obtain ⟨g2, c2, e2, h21, h22⟩ := HO2.out.form (by rw [Hyl.out]; omega)
  rw [Hxl.out] at e1
  rw [Hyl.out] at e2
  subst e1 e2
  have hgg : g2 ≠ g1 := by omega
  have H0 : Aside0 (Own w2 w0.heap.size (.slice (some ⟨g1, 0, none⟩) m c1) (updZ F a (b.take 0))) := ⟨by simpa [updZ_nil] using HO1b.out⟩
  have HS1 := HB1.out.size
  have H2 : Aside0 (Own w2 w0.heap.size (.slice (some ⟨g2, 0, none⟩) m c2) b) := ⟨HO2.out.lower HS1⟩
  have HGG := Aside0.mk hgg
  have HG1 := h11
  clear cP cM cD cP1 cM1 cD1 cP2 cM2 cD2 HO1 HO1b HO2 hgg h11 h12 h21 h22 HS1
  go_wp2
  go_loopw [9] (fun v9 w' => ∃ k : Nat, v9 = .int .i64 k ∧ k ≤ m ∧ Aside0 (Own w' w0.heap.size (.slice (some ⟨g1, 0, none⟩) m c1) (updZ F a (b.take k))) ∧ Aside0 (Below w0.heap.size w0 w') ∧ Aside0 (Own w' w0.heap.size (.slice (some ⟨g2, 0, none⟩) m c2) b)) (fun v9 _ => m - (intOf v9).toNat)
  case atStart => exact ⟨0, rfl, by omega, H0, HB2, H2⟩
  case round =>
    clear H0 H2
    obtain ⟨k, rfl, hk, HOa, HB, HOb⟩ := hrel
    have hlen : (updZ F a (b.take k)).length = m := by rw [updZ_length]; exact Hxl.out
    have cP := (HF.out.below HB.out).p
    have cM := (HF.out.below HB.out).m
    have cD := (HF.out.below HB.out).mod
    by_cases hlk : k < m
    · obtain ⟨hcl, hfz⟩ := HOa.out.cell' hlen.symm k hlk
      obtain ⟨hcb, -⟩ := HOb.out.cell' Hyl.out.symm k hlk
      have hget := updZ_get F 0 k a b
      have hstep := updZ_set F 0 k a b (by rw [Hyl.out]; exact hlk) (by rw [Hxl.out]; exact hlk)
      have hor := getD_range P hP a Hxm.out k
      have hzr := getD_range P hP b Hym.out k
      obtain ⟨o, ho⟩ : ∃ o, a.getD k 0 = o := ⟨_, rfl⟩
      obtain ⟨z, hz⟩ : ∃ z, b.getD k 0 = z := ⟨_, rfl⟩
      rw [hget, ho] at hcl
      rw [hz] at hcb
      rw [ho] at hor
      rw [hz] at hzr
      rw [ho, hz, ← HFe.out] at hstep
      obtain ⟨u, hu⟩ : ∃ u, (o + z) % P = u := ⟨_, rfl⟩
      simp only [hu] at hstep
      rw [HFe.out] at hstep
      have e1 : IntKind.i64.wrap (o + z) = o + z := w64 _ (by omega) (by omega)
      have e2 : Int.tmod (o + z) P = u := by rw [Int.tmod_eq_emod_of_nonneg (by omega)]; exact hu
      have e3 : (P == 0) = false := by simp only [beq_eq_false_iff_ne]; omega
      have HO2 := Aside0.mk (HOa.out.set hlen.symm k u)
      rw [hstep] at HO2
      have HOb2 := Aside0.mk (HOb.out.setFar' (k := k) HGG.out (.int .i64 u))
      have i0 : (0 : Int) ≤ (k : Int) := by omega
      have i1 : (k : Int) < (m : Int) := by omega
      clear hget hstep ho hz hu HOa HOb hlen
      go_wp2
      refine wp_region_quiet_tail 14 (by kernel_rfl) (by kernel_rfl) ?_
      simp only [List.take_succ_cons, List.take_zero, List.drop_succ_cons, List.drop_zero]
      repeat (first | go_big_quiet_step (fail) | quiet_step (fail))
      refine wpQuiet_nil ?_
      intro _ hw'
      obtain ⟨nq, hw''⟩ := hw'
      subst hw''
      go_wp2
      go_roundw
      case rel => exact ⟨k + 1, by go_num, by omega, ⟨HO2.out.drewN _⟩, ⟨pw_below_drewN (HB.out.setCell (p := ⟨g1, k, none⟩) HG1 _) _⟩, ⟨HOb2.out.drewN _⟩⟩
      case measure => simp [intOf]; omega
    · obtain rfl : k = m := by omega
      have HFm1 := HFm.out k
      rw [← Hyl.out, List.take_length] at HOa hlen HFm1
      obtain ⟨A7, c7, e7, hc7, hC7⟩ := HOa.out.slice
      rw [hlen, Hyl.out] at e7
      have hC8 := hC7
      rw [hlen, Hyl.out] at hC7
      cases e7
      have HV := Aside0.mk (HVal.out wr _ _ c1 hC8 HFm1 (by rw [hlen, Hyl.out]; exact HQ.out))
      have hl8 : Aside0 ((updZ F a b).length = k) := ⟨by rw [hlen, Hyl.out]⟩
      rw [hl8.out] at HV
      clear hC7 hC8 HFm1 hlen HOa
      go_wp2_with (go_at_call 77; refine HV.out.mono ?_; rintro e w5 ⟨rfl, hB⟩; have HB5 := Aside0.mk (below_later HB.out HB.out.size hB); clear hB)
      go_ret
      exact ⟨rfl, below_later HB0.out HB0.out.size HB5.out⟩

set_option maxHeartbeats 1000000 in
set_option maxRecDepth 100000 in
theorem refNeg_any {w : World} {A : Option Addr} {n c : Nat} {P : Int} {m : Nat} (hf : FOK P m) (x : Int) :
    Calls Try.prog 84 #[.agg #[.int .i64 P, .int .i64 (m : Int), .slice A n c], .int .i64 x] w fun e w' => e = .returned (.int .i64 (negR P m x)) ∧ Below w.heap.size w w' := by
  obtain ⟨hP, hP2, hm1, hm8, hq, ho⟩ := hf.facts
  have hF0 := FAt.new w P (m : Int) A n c
  obtain ⟨w0, hw0⟩ : ∃ w0, w.alloc (.cells #[.int .i64 P, .int .i64 (m : Int), .slice A n c] 27) = w0 := ⟨_, rfl⟩
  have hB0 : Below w.heap.size w w0 := by rw [← hw0]; exact below_alloc (Below.refl _ _) _
  rw [hw0] at hF0
  have HB0 := Aside0.mk hB0
  have HW := Aside0.mk hw0
  have HF := Aside0.mk hF0
  have HDx := Aside0.mk (fun (w1 : World) => refDig_any (w := w1) (A := A) (n := n) (c := c) hf x)
  have hxl := digs_length P m (inR P m x)
  have hxm := digs_mem P hP m (inR P m x)
  have hR : negR P m x = val P ((digs P m (inR P m x)).map fun d => (P - d) % P) := rfl
  rw [hR]
  obtain ⟨a, ha⟩ : ∃ a, digs P m (inR P m x) = a := ⟨_, rfl⟩
  rw [ha] at HDx hxl hxm ⊢
  obtain ⟨F, hF⟩ : ∃ F : Int → Int, (fun d => (P - d) % P) = F := ⟨_, rfl⟩
  rw [hF]
  have hFm : ∀ d ∈ a.map F, 0 ≤ d ∧ d < P := fun d hd => by
    obtain ⟨y, -, rfl⟩ := List.mem_map.1 hd
    rw [← hF]; exact ⟨Int.emod_nonneg _ (by omega), Int.emod_lt_of_pos _ (by omega)⟩
  have HFm := Aside0.mk hFm
  have HFe := Aside0.mk hF
  have Hxl := Aside0.mk hxl
  have Hxm := Aside0.mk hxm
  have HQ := Aside0.mk hq
  have HVal := Aside0.mk (fun (w1 : World) (l : List Int) (B : Option Addr) (d : Nat) (hl : Kd.C (Kd.int .i64) w1 B l.length l) (hm : ∀ d ∈ l, 0 ≤ d ∧ d < P) (hb : P ^ l.length ≤ 256) => refValue_any (A := A) (n := n) (c := c) (d := d) P (m : Int) hl hP hP2 hm hb)
  clear hF0 hB0 hw0 ha hxl hxm hR hF hFm hq ho
  go_enter Try.func84, Try.ntmps84
  go_upto_region 1 with (fail)
  rw [HW.out]
  have cP := HF.out.p
  have cM := HF.out.m
  have cD := HF.out.mod
  go_wp2_with (go_at_call 76; (with_reducible refine Calls.mono (HDx.out _) ?_); rintro e w1 ⟨v1, rfl, hO, hB⟩; have HO1 := Aside0.mk hO; have HB1 := Aside0.mk hB; obtain ⟨cP1, cM1, cD1⟩ := HF.out.below hB; clear hO hB)
  obtain ⟨g1, c1, e1, h11, h12⟩ := HO1.out.form (by rw [Hxl.out]; omega)
  rw [Hxl.out] at e1
  subst e1
  have H0 : Aside0 (Own w1 w0.heap.size (.slice (some ⟨g1, 0, none⟩) m c1) (mapPre F a 0)) := ⟨by simpa [mapPre_zero] using HO1.out⟩
  have HG1 := h11
  clear cP cM cD cP1 cM1 cD1 HO1 h11 h12
  go_wp2
  go_loopw [6] (fun v6 w' => ∃ k : Nat, v6 = .int .i64 k ∧ k ≤ m ∧ Aside0 (Own w' w0.heap.size (.slice (some ⟨g1, 0, none⟩) m c1) (mapPre F a k)) ∧ Aside0 (Below w0.heap.size w0 w')) (fun v6 _ => m - (intOf v6).toNat)
  case atStart => exact ⟨0, rfl, by omega, H0, HB1⟩
  case round =>
    clear H0
    obtain ⟨k, rfl, hk, HOa, HB⟩ := hrel
    have hlen : (mapPre F a k).length = m := by rw [mapPre_length]; exact Hxl.out
    have cP := (HF.out.below HB.out).p
    have cM := (HF.out.below HB.out).m
    have cD := (HF.out.below HB.out).mod
    by_cases hlk : k < m
    · obtain ⟨hcl, hfz⟩ := HOa.out.cell' hlen.symm k hlk
      have hget := mapPre_get F a k (by rw [Hxl.out]; exact hlk)
      have hstep := mapPre_set F a k (by rw [Hxl.out]; exact hlk)
      have hor := getD_range P hP a Hxm.out k
      obtain ⟨o, ho⟩ : ∃ o, a.getD k 0 = o := ⟨_, rfl⟩
      rw [hget, ho] at hcl
      rw [ho] at hor
      rw [ho, ← HFe.out] at hstep
      obtain ⟨u, hu⟩ : ∃ u, (P - o) % P = u := ⟨_, rfl⟩
      simp only [hu] at hstep
      rw [HFe.out] at hstep
      have e1 : IntKind.i64.wrap (P - o) = P - o := w64 _ (by omega) (by omega)
      have e2 : Int.tmod (P - o) P = u := by rw [Int.tmod_eq_emod_of_nonneg (by omega)]; exact hu
      have e3 : (P == 0) = false := by simp only [beq_eq_false_iff_ne]; omega
      have HO2 := Aside0.mk (HOa.out.set hlen.symm k u)
      rw [hstep] at HO2
      have i0 : (0 : Int) ≤ (k : Int) := by omega
      have i1 : (k : Int) < (m : Int) := by omega
      clear hget hstep ho hu HOa hlen
      go_wp2
      refine wp_region_quiet_tail 12 (by kernel_rfl) (by kernel_rfl) ?_
      simp only [List.take_succ_cons, List.take_zero, List.drop_succ_cons, List.drop_zero]
      repeat (first | go_big_quiet_step (fail) | quiet_step (fail))
      refine wpQuiet_nil ?_
      intro _ hw'
      obtain ⟨nq, hw''⟩ := hw'
      subst hw''
      go_wp2
      go_roundw
      case rel => exact ⟨k + 1, by go_num, by omega, ⟨HO2.out.drewN _⟩, ⟨pw_below_drewN (HB.out.setCell (p := ⟨g1, k, none⟩) HG1 _) _⟩⟩
      case measure => simp [intOf]; omega
    · obtain rfl : k = m := by omega
      have HFm1 := HFm.out
      have hall := mapPre_all F a
      rw [Hxl.out] at hall
      rw [hall] at HOa hlen
      obtain ⟨A7, c7, e7, hc7, hC7⟩ := HOa.out.slice
      rw [hlen] at e7
      have hC8 := hC7
      cases e7
      have HV := Aside0.mk (HVal.out wr _ _ c1 hC8 HFm1 (by rw [hlen]; exact HQ.out))
      rw [hlen] at HV
      clear hC7 hC8 HFm1 hlen HOa hall
      go_wp2_with (go_at_call 77; refine HV.out.mono ?_; rintro e w5 ⟨rfl, hB⟩; have HB5 := Aside0.mk (below_later HB.out HB.out.size hB); clear hB)
      go_ret
      exact ⟨rfl, below_later HB0.out HB0.out.size HB5.out⟩

set_option maxRecDepth 100000 in
theorem refSub_any {w : World} {A : Option Addr} {n c : Nat} {P : Int} {m : Nat} (hf : FOK P m) (x y : Int) :
    Calls Try.prog 53 #[.agg #[.int .i64 P, .int .i64 (m : Int), .slice A n c], .int .i64 x, .int .i64 y] w fun e w' => e = .returned (.int .i64 (subR P m x y)) ∧ Below w.heap.size w w' := by
  have hF0 := FAt.new w P (m : Int) A n c
  obtain ⟨w0, hw0⟩ : ∃ w0, w.alloc (.cells #[.int .i64 P, .int .i64 (m : Int), .slice A n c] 27) = w0 := ⟨_, rfl⟩
  have hB0 : Below w.heap.size w w0 := by rw [← hw0]; exact below_alloc (Below.refl _ _) _
  rw [hw0] at hF0
  have HB0 := Aside0.mk hB0
  have HW := Aside0.mk hw0
  have HF := Aside0.mk hF0
  have HN := Aside0.mk (fun (w1 : World) => refNeg_any (w := w1) (A := A) (n := n) (c := c) hf y)
  have HA := Aside0.mk (fun (w1 : World) => refAdd_any (w := w1) (A := A) (n := n) (c := c) hf x (negR P m y))
  have hR : subR P m x y = addR P m x (negR P m y) := rfl
  rw [hR]
  obtain ⟨ny, hny⟩ : ∃ ny, negR P m y = ny := ⟨_, rfl⟩
  rw [hny] at HN HA ⊢
  obtain ⟨R, hRR⟩ : ∃ R, addR P m x ny = R := ⟨_, rfl⟩
  rw [hRR] at HA ⊢
  clear hF0 hB0 hw0 hny hR hRR
  go_enter Try.func53, Try.ntmps53
  go_upto_region 1 with (fail)
  rw [HW.out]
  have hcP : ∀ j : Ext w0, j.wd.cell? ⟨w.heap.size, 0, none⟩ = some (.int .i64 P) := fun j => j.cell HF.out.p
  have hcM : ∀ j : Ext w0, j.wd.cell? ⟨w.heap.size, 1, none⟩ = some (.int .i64 (m : Int)) := fun j => j.cell HF.out.m
  have hcD : ∀ j : Ext w0, j.wd.cell? ⟨w.heap.size, 2, none⟩ = some (.slice A n c) := fun j => j.cell HF.out.mod
  refine wp_region_ext (by kernel_rfl) (by kernel_rfl) ?_
  repeat (go_big_quiet_step (first | (go_at_call 84; with_reducible exact Ext.call _ (HN.out _)) | (go_at_call 48; with_reducible exact Ext.call _ (HA.out _))))
  refine wpQuiet_nil ?_
  intro w1 hB1
  have HB1 := Aside0.mk (below_later HB0.out HB0.out.size hB1)
  clear hcP hcM hcD hB1
  go_wp2
  go_ret
  exact ⟨rfl, HB1.out⟩
end Go.Proofs.Yticgblagimmlfaa
end
section
/- The reference: Mul. -/
namespace Go.Proofs.Yticgblagimmlfaa
open Go.RowKit Go.Proofs.YticgblagimmlfaaW.PrintWords Go.Proofs.YticgblagimmlfaaW.PrintLast Go.Proofs.YticgblagimmlfaaW.PrintMore
set_option linter.unusedVariables false
set_option linter.unusedSimpArgs false

set_option maxHeartbeats 4000000 in
set_option maxRecDepth 100000 in
theorem refMul_raw {w : World} {A : Option Addr} {c : Nat} {P : Int} {m : Nat} {Mod : List Int} (hf : FOK P m) (hMod : 1 < m → Mod.length = m) (hMr : ∀ d ∈ Mod, 0 ≤ d ∧ d < P) (hC : Kd.C (Kd.int .i64) w A Mod.length Mod) (x y : Int) :
    Calls Try.prog 46 #[.agg #[.int .i64 P, .int .i64 (m : Int), .slice A Mod.length c], .int .i64 x, .int .i64 y] w fun e w' => e = .returned (.int .i64 (mulR P m Mod x y)) ∧ Below w.heap.size w w' := by
  obtain ⟨hP, hP2, hm1, hm8, hq, ho⟩ := hf.facts
  have hF0 := FAt.new w P (m : Int) A Mod.length c
  obtain ⟨w0, hw0⟩ : ∃ w0, w.alloc (.cells #[.int .i64 P, .int .i64 (m : Int), .slice A Mod.length c] 27) = w0 := ⟨_, rfl⟩
  have hB0 : Below w.heap.size w w0 := by rw [← hw0]; exact below_alloc (Below.refl _ _) _
  rw [hw0] at hF0
  have HB0 := Aside0.mk hB0
  have HW := Aside0.mk hw0
  have HF := Aside0.mk hF0
  have HMod := Aside0.mk (Kd.C_below hC hB0)
  have HDx := Aside0.mk (fun (w1 : World) => refDig_any (w := w1) (A := A) (n := Mod.length) (c := c) hf x)
  have HDy := Aside0.mk (fun (w1 : World) => refDig_any (w := w1) (A := A) (n := Mod.length) (c := c) hf y)
  have hxl := digs_length P m (inR P m x)
  have hyl := digs_length P m (inR P m y)
  have hxm := digs_mem P hP m (inR P m x)
  have hym := digs_mem P hP m (inR P m y)
  have hR : mulR P m Mod x y = val P ((redRun P m Mod (m - 1) (convTo P (digs P m (inR P m x)) (digs P m (inR P m y)) (List.replicate (2 * m - 1) 0) m)).take m) := rfl
  rw [hR]
  obtain ⟨a, ha⟩ : ∃ a, digs P m (inR P m x) = a := ⟨_, rfl⟩
  obtain ⟨b, hb⟩ : ∃ b, digs P m (inR P m y) = b := ⟨_, rfl⟩
  rw [ha] at HDx hxl hxm ⊢
  rw [hb] at HDy hyl hym ⊢
  obtain ⟨Z, hZ⟩ : ∃ Z, List.replicate (2 * m - 1) (0 : Int) = Z := ⟨_, rfl⟩
  have hZm : ∀ d ∈ Z, 0 ≤ d ∧ d < P := fun d hd => by rw [← hZ] at hd; rw [List.eq_of_mem_replicate hd]; omega
  have hZl : Z.length = 2 * m - 1 := by rw [← hZ]; exact List.length_replicate
  rw [hZ]
  have hcm := convTo_mem P hP a b Z hZm
  have hcl := convTo_length P a b Z
  obtain ⟨CV, hCV⟩ : ∃ CV, convTo P a b Z = CV := ⟨_, rfl⟩
  have hCV0 : CV 0 = Z := by rw [← hCV]; rfl
  have hCVs : ∀ k, CV (k + 1) = updAt (fun o t => (o + a.getD k 0 * t) % P) k (CV k) b := by intro k; rw [← hCV]; rfl
  rw [hCV] at hcm hcl ⊢
  rw [hZl] at hcl
  obtain ⟨R, hRR⟩ : ∃ R, val P ((redRun P m Mod (m - 1) (CV m)).take m) = R := ⟨_, rfl⟩
  rw [hRR]
  have HRR := Aside0.mk hRR
  have Hcm := Aside0.mk hcm
  have Hcl := Aside0.mk hcl
  have HCV0 := Aside0.mk hCV0
  have HCVs := Aside0.mk hCVs
  have HZe := Aside0.mk hZ
  have HMl := Aside0.mk hMod
  have HMr := Aside0.mk hMr
  have Hxl := Aside0.mk hxl
  have Hyl := Aside0.mk hyl
  have Hxm := Aside0.mk hxm
  have Hym := Aside0.mk hym
  have HQ := Aside0.mk hq
  have HN : Aside0 (2 * (m : Int) - 1 = ((2 * m - 1 : Nat) : Int)) := ⟨by omega⟩
  have HVal := Aside0.mk (fun (w1 : World) (l : List Int) (B : Option Addr) (d : Nat) (hl : Kd.C (Kd.int .i64) w1 B l.length l) (hm : ∀ d ∈ l, 0 ≤ d ∧ d < P) (hb : P ^ l.length ≤ 256) => refValue_any (A := A) (n := Mod.length) (c := c) (d := d) P (m : Int) hl hP hP2 hm hb)
  clear hF0 hB0 hw0 ha hb hxl hyl hxm hym hR hq ho hZ hZm hZl hcm hcl hCV hCV0 hCVs hRR hMod hMr hC hf
  go_enter Try.func46, Try.ntmps46
  go_upto_region 1 with (fail)
  rw [HW.out]
  obtain ⟨cP, cM, cD⟩ := HF.out
  go_wp2_with (first
    | (go_at_call 76; (with_reducible refine Calls.mono (HDx.out _) ?_); rintro e w1 ⟨v1, rfl, hO, hB⟩; have HO1 := Aside0.mk hO; have HB1 := Aside0.mk hB; obtain ⟨cP1, cM1, cD1⟩ := HF.out.below hB; clear hO hB)
    | (go_at_call 76; (with_reducible refine Calls.mono (HDy.out _) ?_); rintro e w2 ⟨v2, rfl, hO, hB⟩; have HO2 := Aside0.mk hO; have HO1b := Aside0.mk (HO1.out.below hB); have HB2 := Aside0.mk (below_later HB1.out HB1.out.size hB); obtain ⟨cP2, cM2, cD2⟩ := HF.out.below HB2.out; clear hO hB)
    | ((with_reducible refine gate_dst (N := 24) rfl ?_); refine make_ownI rfl (N := 24) rfl _ _ rfl HN rfl rfl (by omega) ?_; intro v3 w3 hO hB; rw [HZe.out] at hO; have HO3 := Aside0.mk hO; have HO1c := Aside0.mk (HO1b.out.below hB); have HO2c := Aside0.mk (HO2.out.below hB); have HB3 := Aside0.mk (below_later HB2.out HB2.out.size hB); obtain ⟨cP3, cM3, cD3⟩ := HF.out.below HB3.out; clear hO hB))
  obtain ⟨g1, c1, e1, h11, h12⟩ := HO1.out.form (by rw [Hxl.out]; omega)
  obtain ⟨g2, c2, e2, h21, h22⟩ := HO2.out.form (by rw [Hyl.out]; omega)
  have hz3 : Z.length = 2 * m - 1 := by rw [← HZe.out]; exact List.length_replicate
  obtain ⟨g3, c3, e3, h31, h32⟩ := HO3.out.form (by rw [hz3]; omega)
  rw [Hxl.out] at e1
  rw [Hyl.out] at e2
  rw [hz3] at e3
  subst e1 e2 e3
  have HG13 : Aside0 (g1 ≠ g3) := ⟨by have := HO1b.out.form (by rw [Hxl.out]; omega); obtain ⟨_, _, e, _, hh⟩ := this; cases e; omega⟩
  have HG23 : Aside0 (g2 ≠ g3) := ⟨by omega⟩
  have HG3 : w0.heap.size ≤ g3 := by have := HB2.out.size; omega
  have H3 : Aside0 (Own w3 w0.heap.size (.slice (some ⟨g3, 0, none⟩) (2 * m - 1) c3) (CV 0)) := ⟨by rw [HCV0.out]; exact HO3.out.lower HB2.out.size⟩
  have H1 : Aside0 (Own w3 w0.heap.size (.slice (some ⟨g1, 0, none⟩) m c1) a) := HO1c
  have H2 : Aside0 (Own w3 w0.heap.size (.slice (some ⟨g2, 0, none⟩) m c2) b) := ⟨HO2c.out.lower HB1.out.size⟩
  clear cP cM cD cP1 cM1 cD1 cP2 cM2 cD2 cP3 cM3 cD3 HO1 HO1b HO1c HO2 HO2c HO3 h11 h12 h21 h22 h31 h32 hz3 HCV0
  go_wp2
  go_loopw [10] (fun v10 w' => ∃ k : Nat, v10 = .int .i64 k ∧ k ≤ m ∧ Aside0 (Own w' w0.heap.size (.slice (some ⟨g3, 0, none⟩) (2 * m - 1) c3) (CV k)) ∧ Aside0 (Below w0.heap.size w0 w') ∧ Aside0 (Own w' w0.heap.size (.slice (some ⟨g1, 0, none⟩) m c1) a) ∧ Aside0 (Own w' w0.heap.size (.slice (some ⟨g2, 0, none⟩) m c2) b)) (fun v10 _ => m - (intOf v10).toNat)
  case atStart => exact ⟨0, rfl, by omega, H3, HB3, H1, H2⟩
  case round =>
    clear H1 H2 H3
    obtain ⟨k, rfl, hk, HOc, HB, HOa, HOb⟩ := hrel
    obtain ⟨cP, cM, cD⟩ := HF.out.below HB.out
    by_cases hlk : k < m
    · obtain ⟨C0, hC0⟩ : ∃ C0, CV k = C0 := ⟨_, rfl⟩
      have hC1 := HCVs.out k
      have hCm0 := Hcm.out k
      have hCl0 := Hcl.out k
      rw [hC0] at HOc hC1 hCm0 hCl0
      have hax := getD_range P hP a Hxm.out k
      obtain ⟨ax, haxe⟩ : ∃ ax, a.getD k 0 = ax := ⟨_, rfl⟩
      rw [haxe] at hC1 hax
      obtain ⟨F, hF⟩ : ∃ F : Int → Int → Int, (fun o t => (o + ax * t) % P) = F := ⟨_, rfl⟩
      rw [hF] at hC1
      have HFe := Aside0.mk hF
      have HC1 := Aside0.mk hC1
      have HCm0 := Aside0.mk hCm0
      have HCl0 := Aside0.mk hCl0
      have HAx := Aside0.mk haxe
      have H0 : Aside0 (Own wr w0.heap.size (.slice (some ⟨g3, 0, none⟩) (2 * m - 1) c3) (updAt F k C0 (b.take 0))) := ⟨by simpa [updAt_nil] using HOc.out⟩
      clear hC0 hC1 hCm0 hCl0 haxe hF HOc
      go_wp2
      obtain ⟨wo, hwo⟩ : ∃ wo : World, wo = wr := ⟨_, rfl⟩
      subst hwo
      go_loopw [11] (fun v11 w' => ∃ j : Nat, v11 = .int .i64 j ∧ j ≤ m ∧ Aside0 (Own w' w0.heap.size (.slice (some ⟨g3, 0, none⟩) (2 * m - 1) c3) (updAt F k C0 (b.take j))) ∧ Aside0 (Below w0.heap.size w0 w') ∧ Aside0 (Own w' w0.heap.size (.slice (some ⟨g1, 0, none⟩) m c1) a) ∧ Aside0 (Own w' w0.heap.size (.slice (some ⟨g2, 0, none⟩) m c2) b)) (fun v11 _ => m - (intOf v11).toNat)
      case atStart => exact ⟨0, rfl, by omega, H0, HB, HOa, HOb⟩
      case round =>
        clear H0 HB HOa HOb cP cM cD
        obtain ⟨j, rfl, hj, HOc, HB, HOa, HOb⟩ := hrel
        obtain ⟨cP, cM, cD⟩ := HF.out.below HB.out
        have hlen : (updAt F k C0 (b.take j)).length = 2 * m - 1 := by rw [updAt_length]; exact HCl0.out
        by_cases hlj : j < m
        · have hkj : k + j < 2 * m - 1 := by omega
          obtain ⟨hcl, hfz⟩ := HOc.out.cell' hlen.symm (k + j) hkj
          obtain ⟨hca, -⟩ := HOa.out.cell' Hxl.out.symm k hlk
          obtain ⟨hcb, -⟩ := HOb.out.cell' Hyl.out.symm j hlj
          rw [HAx.out] at hca
          have hget := updAt_get F 0 k j C0 b (by rw [HCl0.out]; exact hkj)
          have hstep := updAt_set F 0 k j C0 b (by rw [Hyl.out]; exact hlj) (by rw [HCl0.out]; exact hkj)
          have hor := getD_range P hP C0 HCm0.out (k + j)
          have hzr := getD_range P hP b Hym.out j
          obtain ⟨o, ho⟩ : ∃ o, C0.getD (k + j) 0 = o := ⟨_, rfl⟩
          obtain ⟨z, hz⟩ : ∃ z, b.getD j 0 = z := ⟨_, rfl⟩
          rw [hget, ho] at hcl
          rw [hz] at hcb hzr
          rw [ho] at hor
          obtain ⟨pr, hpr⟩ : ∃ pr, ax * z = pr := ⟨_, rfl⟩
          have hpr0 : 0 ≤ pr := by rw [← hpr]; exact Int.mul_nonneg (by omega) (by omega)
          have hpr1 : pr ≤ 256 * 256 := by rw [← hpr]; exact Int.mul_le_mul (by omega) (by omega) (by omega) (by omega)
          obtain ⟨u, hu⟩ : ∃ u, (o + pr) % P = u := ⟨_, rfl⟩
          rw [ho, hz, show F o z = u from by rw [← HFe.out]; simp only [hpr]; exact hu] at hstep
          have e1 : IntKind.i64.wrap (ax * z) = pr := by rw [hpr]; exact w64 _ (by omega) (by omega)
          have e2 : IntKind.i64.wrap (o + pr) = o + pr := w64 _ (by omega) (by omega)
          have e3 : Int.tmod (o + pr) P = u := by rw [Int.tmod_eq_emod_of_nonneg (by omega)]; exact hu
          have e4 : (P == 0) = false := by simp only [beq_eq_false_iff_ne]; omega
          have e5 : IntKind.i64.wrap ((k : Int) + (j : Int)) = (k : Int) + (j : Int) := w64 _ (by omega) (by omega)
          have e6 : ((k : Int) + (j : Int)).toNat = k + j := by omega
          have e7 : 0 ≤ (k : Int) + (j : Int) := by omega
          have e8 : (k : Int) + (j : Int) < ((2 * m - 1 : Nat) : Int) := by omega
          have i0 : (0 : Int) ≤ (k : Int) := by omega
          have i1 : (k : Int) < (m : Int) := by omega
          have i2 : (0 : Int) ≤ (j : Int) := by omega
          have i3 : (j : Int) < (m : Int) := by omega
          have HO2 := Aside0.mk (HOc.out.set hlen.symm (k + j) u)
          rw [hstep] at HO2
          have HOa2 := Aside0.mk (HOa.out.setFar' (k := k + j) HG13.out (.int .i64 u))
          have HOb2 := Aside0.mk (HOb.out.setFar' (k := k + j) HG23.out (.int .i64 u))
          clear hget hstep ho hz hu hpr HOa HOb HOc hlen
          go_wp2
          refine wp_region_quiet_tail 23 (by kernel_rfl) (by kernel_rfl) ?_
          simp only [List.take_succ_cons, List.take_zero, List.drop_succ_cons, List.drop_zero]
          repeat (first | go_big_quiet_step (fail) | quiet_step (fail))
          refine wpQuiet_nil ?_
          intro _ hw'
          obtain ⟨nq, hw''⟩ := hw'
          subst hw''
          go_wp2
          go_roundw
          case rel => exact ⟨j + 1, by go_num, by omega, ⟨HO2.out.drewN _⟩, ⟨pw_below_drewN (HB.out.setCell (p := ⟨g3, k + j, none⟩) HG3 _) _⟩, ⟨HOa2.out.drewN _⟩, ⟨HOb2.out.drewN _⟩⟩
          case measure => simp [intOf]; omega
        · obtain rfl : j = m := by omega
          rw [← Hyl.out, List.take_length, ← HC1.out, Hyl.out] at HOc
          go_wp2
          go_roundw
          case rel => exact ⟨k + 1, by go_num, by omega, HOc, HB, HOa, HOb⟩
          case measure => simp [intOf]; omega
    · obtain rfl : k = m := by omega
      obtain ⟨C0, hC0⟩ : ∃ C0, CV k = C0 := ⟨_, rfl⟩
      have hCm0 := Hcm.out k
      have hCl0 := Hcl.out k
      have hRR := HRR.out
      rw [hC0] at HOc hCm0 hCl0 hRR
      have H0 : Aside0 (val P ((redRun P k Mod (k - 1) C0).take k) = R) := ⟨hRR⟩
      have HCl0 := Aside0.mk hCl0
      have HCm0 := Aside0.mk hCm0
      have H12 : Aside0 (2 * (k : Int) - 2 = (k : Int) - 1 + ((k - 1 : Nat) : Int)) := ⟨by omega⟩
      clear hC0 hCm0 hCl0 hRR HRR Hcm Hcl HCVs HOa HOb Hxl Hyl Hxm Hym HDx HDy HG13 HG23
      obtain ⟨wo, hwo⟩ : ∃ wo : World, wo = wr := ⟨_, rfl⟩
      subst hwo
      go_wp2
      go_loopw [12] (fun v12 w' => ∃ (i : Int) (n : Nat) (r : List Int), v12 = .int .i64 i ∧ -1 ≤ i ∧ i ≤ 20 ∧ Aside0 (i = (k : Int) - 1 + n) ∧ n ≤ k - 1 ∧ Aside0 (r.length = 2 * k - 1) ∧ Aside0 (∀ d ∈ r, 0 ≤ d ∧ d < P) ∧ Aside0 (val P ((redRun P k Mod n r).take k) = R) ∧ Aside0 (Own w' w0.heap.size (.slice (some ⟨g3, 0, none⟩) (2 * k - 1) c3) r) ∧ Aside0 (Below w0.heap.size w0 w')) (fun v12 _ => (intOf v12 + 1).toNat)
      case atStart => exact ⟨2 * (k : Int) - 2, k - 1, C0, rfl, by omega, by omega, H12, by omega, HCl0, HCm0, H0, HOc, HB⟩
      case round =>
        clear H0 H12 HCl0 HCm0 HOc HB cP cM cD
        obtain ⟨i, n, r, rfl, hi1, hi2, HI, hn, Hrl, Hrm, HRv, HOc, HB⟩ := hrel
        obtain ⟨cP, cM, cD⟩ := HF.out.below HB.out
        cases n with
        | succ n =>
          have hk2 : 1 < k := by omega
          have hml := HMl.out hk2
          have hv := HRv.out
          rw [redRun] at hv
          have hcr := getD_range P hP r Hrm.out (k + n)
          obtain ⟨cc, hcc⟩ : ∃ cc, r.getD (k + n) 0 = cc := ⟨_, rfl⟩
          rw [hcc] at hv hcr
          obtain ⟨G, hG⟩ : ∃ G : Int → Int → Int, (fun o t => (o + (P - cc) * t) % P) = G := ⟨_, rfl⟩
          rw [hG] at hv
          have hmS := updAt_mem G (fun d => 0 ≤ d ∧ d < P) (fun o t => by rw [← hG]; exact ⟨Int.emod_nonneg _ (by omega), Int.emod_lt_of_pos _ (by omega)⟩) n r Mod Hrm.out
          have HmS := Aside0.mk hmS
          have HlS : Aside0 ((updAt G n r Mod).length = 2 * k - 1) := ⟨by rw [updAt_length]; exact Hrl.out⟩
          have HV2 := Aside0.mk hv
          have HGe := Aside0.mk hG
          have HCc := Aside0.mk hcc
          have Hml := Aside0.mk hml
          have H0 : Aside0 (Own wr w0.heap.size (.slice (some ⟨g3, 0, none⟩) (2 * k - 1) c3) (updAt G n r (Mod.take 0))) := ⟨by simpa [updAt_nil] using HOc.out⟩
          have hge : (k : Int) ≤ i := by have := HI.out; omega
          clear hv hcc hG hmS hml HRv HOc
          go_wp2
          obtain ⟨wo2, hwo2⟩ : ∃ wo2 : World, wo2 = wr := ⟨_, rfl⟩
          subst hwo2
          go_loopw [13] (fun v13 w' => ∃ j : Nat, v13 = .int .i64 j ∧ j ≤ k ∧ Aside0 (Own w' w0.heap.size (.slice (some ⟨g3, 0, none⟩) (2 * k - 1) c3) (updAt G n r (Mod.take j))) ∧ Aside0 (Below w0.heap.size w0 w')) (fun v13 _ => k - (intOf v13).toNat)
          case atStart => exact ⟨0, rfl, by omega, H0, HB⟩
          case round =>
            clear H0 HB cP cM cD
            obtain ⟨j, rfl, hj, HOc, HB⟩ := hrel
            obtain ⟨cP, cM, cD⟩ := HF.out.below HB.out
            have hlen : (updAt G n r (Mod.take j)).length = 2 * k - 1 := by rw [updAt_length]; exact Hrl.out
            by_cases hlj : j < k
            · have hkj : n + j < 2 * k - 1 := by omega
              obtain ⟨hcl, hfz⟩ := HOc.out.cell' hlen.symm (n + j) hkj
              obtain ⟨hci, -⟩ := HOc.out.cell' hlen.symm (k + n) (by omega)
              obtain ⟨ad, e, hcm⟩ := C_nat (Kd.C_below HMod.out HB.out) j (by rw [Hml.out]; exact hlj)
              cases e
              have habv := updAt_above G n j (k + n) r Mod (by omega) (by rw [Hrl.out]; omega)
              rw [habv, HCc.out] at hci
              have hget := updAt_get G 0 n j r Mod (by rw [Hrl.out]; exact hkj)
              have hstep := updAt_set G 0 n j r Mod (by rw [Hml.out]; exact hlj) (by rw [Hrl.out]; exact hkj)
              have hor := getD_range P hP r Hrm.out (n + j)
              have hzr := getD_range P hP Mod HMr.out j
              obtain ⟨o, ho⟩ : ∃ o, r.getD (n + j) 0 = o := ⟨_, rfl⟩
              obtain ⟨z, hz⟩ : ∃ z, Mod.getD j 0 = z := ⟨_, rfl⟩
              rw [hget, ho] at hcl
              rw [hz] at hcm hzr
              rw [ho] at hor
              obtain ⟨pr, hpr⟩ : ∃ pr, (P - cc) * z = pr := ⟨_, rfl⟩
              have hpr0 : 0 ≤ pr := by rw [← hpr]; exact Int.mul_nonneg (by omega) (by omega)
              have hpr1 : pr ≤ 256 * 256 := by rw [← hpr]; exact Int.mul_le_mul (by omega) (by omega) (by omega) (by omega)
              obtain ⟨u, hu⟩ : ∃ u, (o + pr) % P = u := ⟨_, rfl⟩
              rw [ho, hz, show G o z = u from by rw [← HGe.out]; simp only [hpr]; exact hu] at hstep
              have e0 : IntKind.i64.wrap (P - cc) = P - cc := w64 _ (by omega) (by omega)
              have e1 : IntKind.i64.wrap ((P - cc) * z) = pr := by rw [hpr]; exact w64 _ (by omega) (by omega)
              have e2 : IntKind.i64.wrap (o + pr) = o + pr := w64 _ (by omega) (by omega)
              have e3 : Int.tmod (o + pr) P = u := by rw [Int.tmod_eq_emod_of_nonneg (by omega)]; exact hu
              have e4 : (P == 0) = false := by simp only [beq_eq_false_iff_ne]; omega
              have e5 : IntKind.i64.wrap (i - (k : Int)) = (n : Int) := by rw [w64 _ (by omega) (by omega)]; have := HI.out; omega
              have e6 : IntKind.i64.wrap ((n : Int) + (j : Int)) = (n : Int) + (j : Int) := w64 _ (by omega) (by omega)
              have e7 : ((n : Int) + (j : Int)).toNat = n + j := by omega
              have e8 : 0 ≤ (n : Int) + (j : Int) := by omega
              have e9 : (n : Int) + (j : Int) < ((2 * k - 1 : Nat) : Int) := by omega
              have f1 : i.toNat = k + n := by have := HI.out; omega
              have f2 : 0 ≤ i := by omega
              have f3 : i < ((2 * k - 1 : Nat) : Int) := by have := HI.out; omega
              have i2 : (0 : Int) ≤ (j : Int) := by omega
              have i3 : (j : Int) < (Mod.length : Int) := by have := Hml.out; omega
              have i4 : (j : Int) < (k : Int) := by omega
              have HO2 := Aside0.mk (HOc.out.set hlen.symm (n + j) u)
              rw [hstep] at HO2
              clear hget hstep ho hz hu hpr HOc hlen habv
              go_wp2
              refine wp_region_quiet_tail 33 (by kernel_rfl) (by kernel_rfl) ?_
              simp only [List.take_succ_cons, List.take_zero, List.drop_succ_cons, List.drop_zero]
              repeat (first | go_big_quiet_step (fail) | quiet_step (fail))
              refine wpQuiet_nil ?_
              intro _ hw'
              obtain ⟨nq, hw''⟩ := hw'
              subst hw''
              go_wp2
              go_roundw
              case rel => exact ⟨j + 1, by go_num, by omega, ⟨HO2.out.drewN _⟩, ⟨pw_below_drewN (HB.out.setCell (p := ⟨g3, n + j, none⟩) HG3 _) _⟩⟩
              case measure => simp [intOf]; omega
            · obtain rfl : j = k := by omega
              rw [← Hml.out, List.take_length, Hml.out] at HOc
              go_wp2
              go_roundw
              case rel => exact ⟨i - 1, n, _, by go_num, by omega, by omega, ⟨by have := HI.out; omega⟩, by omega, HlS, HmS, HV2, HOc, HB⟩
              case measure => first | (simp [intOf]; done) | (simp [intOf]; omega)
        | zero =>
          have hv := HRv.out
          rw [redRun] at hv
          have hlt : i < (k : Int) := by have := HI.out; omega
          have hO4 := HOc.out.take (m := k) (by rw [Hrl.out]; omega)
          obtain ⟨A7, c7, e7, hc7, hC7⟩ := hO4.slice
          have htl : (r.take k).length = k := by rw [List.length_take, Hrl.out]; omega
          rw [htl] at e7
          cases e7
          have hV := HVal.out
          have HCt := Aside0.mk hC7
          have HTm : Aside0 (∀ d ∈ r.take k, 0 ≤ d ∧ d < P) := ⟨fun d hd => Hrm.out d (List.mem_of_mem_take hd)⟩
          have HPk : Aside0 (P ^ (r.take k).length ≤ 256) := ⟨by rw [htl]; exact HQ.out⟩
          have HV := Aside0.mk (fun (w1 : World) (hb : Below wr.heap.size wr w1) => hV w1 (r.take k) (some ⟨g3, 0, none⟩) c3 (Kd.C_below HCt.out hb) HTm.out HPk.out)
          rw [hv] at HV
          simp only [htl] at HV
          have hcc3 := HOc.out.reads
          obtain ⟨i0, hi, _, hsz, _⟩ := info_parts info3
          have hcut := cut_to (P := Try.prog) 25 3 .i64 Try.underlying25 hi (some ⟨g3, 0, none⟩) (2 * k - 1) c3 (k : Int) (by omega) (by omega) (by omega)
          rw [Int.toNat_natCast] at hcut
          have hcP : ∀ j : Ext wr, j.wd.cell? ⟨w.heap.size, 0, none⟩ = some (.int .i64 P) := fun j => j.cell cP
          have hcM : ∀ j : Ext wr, j.wd.cell? ⟨w.heap.size, 1, none⟩ = some (.int .i64 (k : Int)) := fun j => j.cell cM
          have hcD : ∀ j : Ext wr, j.wd.cell? ⟨w.heap.size, 2, none⟩ = some (.slice A Mod.length c) := fun j => j.cell cD
          clear hv hO4 hC7 htl hV hi hsz hcc3 HRv
          go_wp2
          refine wp_region_ext (by kernel_rfl) (by kernel_rfl) ?_
          repeat (go_big_quiet_step ((go_at_call 77; with_reducible exact Ext.call _ (HV.out _ (Ext.below _)))))
          refine wpQuiet_nil ?_
          intro w5 hB5
          have HB5 := Aside0.mk (below_later HB.out HB.out.size hB5)
          clear hcP hcM hcD hB5
          go_wp2
          go_ret
          exact ⟨rfl, below_later HB0.out HB0.out.size HB5.out⟩

end Go.Proofs.Yticgblagimmlfaa
end
