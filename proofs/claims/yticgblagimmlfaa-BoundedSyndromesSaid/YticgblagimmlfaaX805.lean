/- order, isPrime, digitsOf, valueOf. multiply. powers. generator. shape. New. New, where there is a field. -/
import Derived.Test.YticgblagimmlfaaX804
import Derived.Laws.CopyOwn
import Derived.Deep.RegionHeld3
import Derived.Lib.SliceRun
import Derived.WalkSpells
import Derived.Deep.DeepCutAuto
namespace Go.Proofs.Yticgblagimmlfaa
open Go.RowKit Go.Proofs.YticgblagimmlfaaW.PrintWords Go.Proofs.YticgblagimmlfaaW.PrintLast Go.Proofs.YticgblagimmlfaaW.PrintMore
set_option linter.unusedVariables false
set_option linter.unusedSimpArgs false

theorem order_fn (P M : Int) (w : World) : Calls Try.prog 64 #[.int .i64 P, .int .i64 M] w fun e w' => e = .returned (.int .i64 (orderZ P M)) ∧ w = w' := by
  by_cases hb : P < 2 ∨ P > 256 ∨ M < 1 ∨ M > 8
  · have e : orderZ P M = 0 := by unfold orderZ; rw [if_pos hb]
    rw [e]
    clear e
    by_cases h1 : P < 2
    · clear hb
      go_enter Try.func64, Try.ntmps64
      go_wp2
      go_ret
      exact ⟨rfl, rfl⟩
    · by_cases h2 : 256 < P
      · clear hb
        go_enter Try.func64, Try.ntmps64
        go_wp2
        go_ret
        exact ⟨rfl, rfl⟩
      · by_cases h3 : M < 1
        · clear hb
          go_enter Try.func64, Try.ntmps64
          go_wp2
          go_ret
          exact ⟨rfl, rfl⟩
        · have h4 : 8 < M := by omega
          clear hb
          go_enter Try.func64, Try.ntmps64
          go_wp2
          go_ret
          exact ⟨rfl, rfl⟩
  · have h1 : 2 ≤ P := by omega
    have h2 : P ≤ 256 := by omega
    have h3 : 1 ≤ M := by omega
    have h4 : M ≤ 8 := by omega
    obtain ⟨n, hn⟩ := Int.eq_ofNat_of_zero_le (by omega : 0 ≤ M)
    have e : orderZ P M = ordLoop P n 1 := by unfold orderZ; rw [if_neg hb, hn]; rfl
    subst hn
    obtain ⟨R, hR⟩ : ∃ R, ordLoop P n 1 = R := ⟨_, rfl⟩
    rw [e, hR]
    have HR := Aside0.mk hR
    clear e hb hR
    go_enter Try.func64, Try.ntmps64
    go_wp2
    go_loop [5, 21] (fun v5 v21 => ∃ (k : Nat) (q : Int), v21 = .int .i64 k ∧ v5 = .int .i64 q ∧ k ≤ n ∧ 1 ≤ q ∧ q ≤ 256 ∧ Aside0 (ordLoop P (n - k) q = R)) (fun _ v21 => n - (intOf v21).toNat)
    case atStart => exact ⟨0, 1, rfl, rfl, by omega, by omega, by omega, HR⟩
    case round =>
      clear HR
      obtain ⟨k, q, rfl, rfl, hk, hq1, hq2, HR⟩ := hrel
      by_cases hlt : k < n
      · have hr := HR.out
        rw [show n - k = (n - (k + 1)) + 1 from by omega] at hr
        simp only [ordLoop] at hr
        have hm1 : q * P ≤ 256 * 256 := Int.mul_le_mul hq2 h2 (by omega) (by omega)
        have hm2 : 1 * 1 ≤ q * P := Int.mul_le_mul hq1 (by omega) (by omega) (by omega)
        obtain ⟨qP, hqP⟩ : ∃ x, q * P = x := ⟨_, rfl⟩
        have e1 : IntKind.i64.wrap (q * P) = qP := by rw [← hqP]; exact w64 _ (by omega) (by omega)
        have e2 : wrap64 (q * P) = qP := by rw [← i64_w]; exact e1
        rw [hqP] at hr hm1 hm2
        clear hqP HR
        by_cases hg : qP > 256
        · rw [if_pos hg] at hr
          subst hr
          have hg' : 256 < qP := hg
          go_wp2
          go_ret
          exact ⟨rfl, rfl⟩
        · rw [if_neg hg] at hr
          have HR := Aside0.mk hr
          have hg' : ¬ 256 < qP := hg
          clear hr
          go_wp2
          go_round
          case rel => exact ⟨k + 1, qP, by go_num, rfl, by omega, by omega, by omega, HR⟩
          case measure => simp [intOf]; omega
      · obtain rfl : k = n := by omega
        have hr := HR.out
        rw [Nat.sub_self] at hr
        simp only [ordLoop] at hr
        subst hr
        clear HR
        go_wp2
        go_ret
        exact ⟨rfl, rfl⟩

theorem isPrime_fn (n : Int) (hn0 : 2 ≤ n) (hn1 : n ≤ 256) (w : World) : Calls Try.prog 100 #[.int .i64 n] w fun e w' => e = .returned (.bool (primeZ n)) ∧ w = w' := by
  obtain ⟨R, hR⟩ : ∃ R, primeZ n = R := ⟨_, rfl⟩
  rw [hR]
  have HR := Aside0.mk (show primeLoop n 20 2 = R from hR)
  clear hR
  go_enter Try.func100, Try.ntmps100
  go_wp2
  go_loop [3] (fun v3 => ∃ (d : Int) (k : Nat), v3 = .int .i64 d ∧ 2 ≤ d ∧ d ≤ 17 ∧ d + k = 22 ∧ Aside0 (primeLoop n k d = R)) (fun v3 => (100 - intOf v3).toNat)
  case atStart => exact ⟨2, 20, rfl, by omega, by omega, by omega, HR⟩
  case round =>
    clear HR
    obtain ⟨d, k, rfl, hd1, hd2, hdk, HR⟩ := hrel
    have HDK := Aside0.mk hdk
    have hm1 : 2 * 2 ≤ d * d := Int.mul_le_mul hd1 hd1 (by omega) (by omega)
    have hm2 : d * d ≤ 17 * 17 := Int.mul_le_mul hd2 hd2 (by omega) (by omega)
    have hr := HR.out
    obtain ⟨j, hj⟩ : ∃ j, k = j + 1 := ⟨k - 1, by omega⟩
    subst hj
    simp only [primeLoop] at hr
    obtain ⟨dd, hdd⟩ : ∃ x, d * d = x := ⟨_, rfl⟩
    have hd17 : dd ≤ n → d ≤ 16 := by
      intro h
      rw [← hdd] at h
      by_cases hc : d ≤ 16
      · exact hc
      · have : 17 * 17 ≤ d * d := Int.mul_le_mul (by omega) (by omega) (by omega) (by omega)
        omega
    have e1 : wrap64 (d * d) = dd := by rw [← hdd, ← i64_w]; exact w64 _ (by omega) (by omega)
    rw [hdd] at hr hm1 hm2
    clear hdd HR hdk
    by_cases hle : dd ≤ n
    · rw [if_pos hle] at hr
      have hd16 := hd17 hle
      clear hd17
      obtain ⟨md, hmd⟩ : ∃ x, n % d = x := ⟨_, rfl⟩
      have e2 : n.tmod d = md := by rw [← hmd]; exact Int.tmod_eq_emod_of_nonneg (by omega)
      have e3 : (d == 0) = false := by simp only [beq_eq_false_iff_ne]; omega
      rw [hmd] at hr
      by_cases hz : md = 0
      · rw [if_pos hz] at hr
        subst hr hz
        go_wp2
        go_ret
        exact ⟨rfl, rfl⟩
      · rw [if_neg hz] at hr
        have HR := Aside0.mk hr
        have hzb : (md == 0) = false := by simp [hz]
        clear hr hz hmd
        go_wp2
        go_round
        case rel => exact ⟨d + 1, j, by go_num, by omega, by omega, by have := HDK.out; omega, HR⟩
        case measure => simp [intOf]; omega
    · rw [if_neg hle] at hr
      have hr' : true = R := by rw [← hr]; simp [hn0]
      subst hr'
      clear hr hd17
      go_wp2
      go_ret
      exact ⟨rfl, rfl⟩

theorem digitsOf_any (x P : Int) (M : Nat) (hx0 : 0 ≤ x) (hx1 : x ≤ 1000000) (hP : 2 ≤ P) (hM : M ≤ 1000) (w : World) :
    Calls Try.prog 135 #[.int .i64 x, .int .i64 P, .int .i64 M] w fun e w' => ∃ v, e = .returned v ∧ Own w' w.heap.size v (digs P M x) ∧ Below w.heap.size w w' := by
  obtain ⟨R, hR⟩ : ∃ R, digs P M x = R := ⟨_, rfl⟩
  have hRl := digs_length P M x
  rw [hR] at hRl
  rw [hR]
  have HR := Aside0.mk hR
  have HRl := Aside0.mk hRl
  have hPz : (P == 0) = false := by simp only [beq_eq_false_iff_ne]; omega
  clear hR hRl
  go_enter Try.func135, Try.ntmps135
  go_wp2_with ((with_reducible refine gate_dst (N := 10) rfl ?_); refine make_own (n := M) rfl (N := 10) rfl _ _ rfl rfl rfl (by omega) ?_; intro v w1 hO hB; obtain ⟨A1, c1, rfl, hc1, hC1⟩ := hO.slice; have HO := Aside0.mk hO; have HBl := Aside0.mk hB; clear hO hB hC1)
  go_loopw [0, 13] (fun v0 v13 w' => ∃ (k : Nat) (y : Int) (dn : List Int), v13 = .int .i64 k ∧ v0 = .int .i64 y ∧ k ≤ M ∧ 0 ≤ y ∧ y ≤ 1000000 ∧ Aside0 (dn.length = k) ∧ Aside0 (dn ++ digs P (M - k) y = R) ∧ Aside0 (Own w' w.heap.size (.slice A1 M c1) (dn ++ List.replicate (M - k) 0)) ∧ Aside0 (Below w.heap.size w w')) (fun _ v13 _ => M - (intOf v13).toNat)
  case atStart => exact ⟨0, x, [], rfl, rfl, by omega, hx0, hx1, ⟨rfl⟩, HR, ⟨by simpa using HO.out⟩, HBl⟩
  case round =>
    clear HO HBl HR
    obtain ⟨k, y, dn, rfl, rfl, hk, hy0, hy1, Hdl, HR, HO, HB⟩ := hrel
    have hol : (dn ++ List.replicate (M - k) (0 : Int)).length = M := by rw [List.length_append, Hdl.out, List.length_replicate]; omega
    by_cases hlt : k < M
    · have hr := HR.out
      obtain ⟨m, hm⟩ : ∃ m, M - k = m + 1 := ⟨M - k - 1, by omega⟩
      have hm2 : M - (k + 1) = m := by omega
      rw [hm] at hr HO hol
      simp only [digs] at hr
      have hdiv : y / P ≤ y := Int.ediv_le_self _ hy0
      have hdiv0 : 0 ≤ y / P := Int.ediv_nonneg hy0 (by omega)
      have hr2 : (dn ++ [y % P]) ++ digs P (M - (k + 1)) (y / P) = R := by rw [hm2, List.append_assoc]; exact hr
      have HR2 := Aside0.mk hr2
      have Hdl2 : Aside0 ((dn ++ [y % P]).length = k + 1) := ⟨by rw [List.length_append, Hdl.out]; rfl⟩
      obtain ⟨g, cap, eg, hg1, hg2⟩ := HO.out.form (by omega)
      rw [hol] at eg
      cases eg
      obtain ⟨hcl, hfz⟩ := HO.out.cell' hol.symm k hlt
      have HO2 := Aside0.mk (HO.out.set hol.symm k (y % P))
      have hsn := snoc_set_replicate dn m (y % P)
      rw [Hdl.out] at hsn
      rw [hsn, ← hm2] at HO2
      clear hr hr2 hm hm2 hol HO hsn HR Hdl
      go_wp2
      go_roundw
      case rel => exact ⟨k + 1, y / P, _, by go_num, rfl, by omega, hdiv0, by omega, Hdl2, HR2, HO2, ⟨HB.out.setCell (p := ⟨g, k, none⟩) hg1 _⟩⟩
      case measure => simp [intOf]; omega
    · obtain rfl : k = M := by omega
      rw [Nat.sub_self] at HR HO
      have hr := HR.out
      simp only [digs, List.append_nil] at hr
      subst hr
      simp only [List.replicate_zero, List.append_nil] at HO
      clear HR hol
      go_wp2
      go_ret
      exact ⟨_, rfl, HO.out, HB.out⟩

theorem valueOf_any {w : World} {A : Option Addr} {c : Nat} {l : List Int} (hl : Kd.C (Kd.int .i64) w A l.length l) (P : Int) (hP : 2 ≤ P) (hP2 : P ≤ 256) (hm : ∀ d ∈ l, 0 ≤ d ∧ d < P) (hb : P ^ l.length ≤ 256) :
    Calls Try.prog 136 #[.slice A l.length c, .int .i64 P] w fun e w' => e = .returned (.int .i64 (val P l)) ∧ Drawn0 w w' := by
  have HL := Aside0.mk hl
  have hmx := Kd.C_max hl
  have HM := Aside0.mk hm
  have HBd := Aside0.mk hb
  clear hl hm hb
  go_enter Try.func136, Try.ntmps136
  go_wp2
  go_loopw [5, 6] (fun v5 v6 w' => ∃ (k : Nat) (y : Int), v6 = .int .i64 ((k : Int) - 1) ∧ v5 = .int .i64 y ∧ k ≤ l.length ∧ Aside0 (y = val P (l.drop k)) ∧ Drawn0 w w') (fun _ v6 _ => (intOf v6 + 1).toNat)
  case atStart => exact ⟨l.length, 0, rfl, rfl, Nat.le_refl _, ⟨by simp [val]⟩, Drawn0.refl _⟩
  case round =>
    obtain ⟨k, y, rfl, rfl, hk, HY, hd⟩ := hrel
    by_cases h0 : 0 < k
    · obtain ⟨j, rfl⟩ : ∃ j, k = j + 1 := ⟨k - 1, by omega⟩
      have hstep := val_drop P l j (by omega)
      rw [← HY.out] at hstep
      obtain ⟨hy1, hy2⟩ := val_drop_bound P hP l HM.out HBd.out (j + 1)
      rw [← HY.out] at hy1 hy2
      obtain ⟨hs1, hs2⟩ := val_drop_bound P hP l HM.out HBd.out j
      obtain ⟨ad, e, hx⟩ := C_nat (Kd.C_below HL.out hd.below) j (by omega)
      cases e
      obtain ⟨z, hz⟩ : ∃ z, l.getD j 0 = z := ⟨_, rfl⟩
      rw [hz] at hx hstep
      obtain ⟨T, hT⟩ : ∃ T, val P (l.drop j) = T := ⟨_, rfl⟩
      rw [hT] at hstep hs1 hs2
      have HT := Aside0.mk hT.symm
      obtain ⟨m, hm⟩ : ∃ m, y * P = m := ⟨_, rfl⟩
      have hm1 : m ≤ 256 * 256 := by rw [← hm]; exact Int.mul_le_mul hy2 hP2 (by omega) (by omega)
      have hm0 : 0 ≤ m := by rw [← hm]; exact Int.mul_nonneg hy1 (by omega)
      rw [Int.mul_comm P y, hm] at hstep
      have e1 : wrap64 (y * P) = m := by rw [hm, ← i64_w]; exact w64 _ (by omega) (by omega)
      have e2 : wrap64 (m + z) = T := by rw [hstep, ← i64_w, Int.add_comm]; exact w64 _ (by omega) (by omega)
      have e3 : IntKind.i64.wrap (m + z) = T := by rw [i64_w]; exact e2
      clear hz hstep hT hm HY
      go_wp2
      go_roundw
      case rel => exact ⟨j, _, by go_num, rfl, by omega, HT, hd⟩
      case measure => simp [intOf]
    · obtain rfl : k = 0 := by omega
      rw [List.drop_zero] at HY
      go_wp2
      go_ret
      exact ⟨by rw [HY.out]; rfl, hd⟩
end Go.Proofs.Yticgblagimmlfaa

namespace Go.Proofs.Yticgblagimmlfaa
open Go.RowKit Go.Proofs.YticgblagimmlfaaW.PrintWords Go.Proofs.YticgblagimmlfaaW.PrintLast Go.Proofs.YticgblagimmlfaaW.PrintMore
set_option linter.unusedVariables false
set_option linter.unusedSimpArgs false

/-! ### a row's block; a row moved up by one -/
theorem Own.block {w : World} {base g n cap : Nat} {l : List Int} (h : Own w base (.slice (some ⟨g, 0, none⟩) n cap) l) (hp : 0 < n) :
    ∃ cur : Array Value, w.heap[g]? = some (.cells cur 3 (0, 0)) ∧ n ≤ cap ∧ cap ≤ maxLen ∧ cur.size = cap ∧ cur.toList.take n = l.map (Value.int .i64) ∧ n = l.length ∧ base ≤ g := by
  have hn := h.reads.1
  have ho := Kd.own_of_R (enc := Value.int .i64) h.out
  obtain ⟨h1, h2⟩ := ho
  rcases h2 with ⟨h2, _⟩ | ⟨g', cap', cur, e, hb, hh, hc1, hc2, hcs, ht⟩
  · cases h2
  · cases e
    refine ⟨cur, hh, hc1, hc2, by simpa using hcs, ?_, hn, hb⟩
    rw [Nat.mul_one] at ht
    exact ht
theorem Own.of_block {w : World} {base g n cap : Nat} {l : List Int} {cur : Array Value} (hh : w.heap[g]? = some (.cells cur 3 (0, 0))) (hc1 : n ≤ cap) (hc2 : cap ≤ maxLen) (hcs : cur.size = cap)
    (ht : cur.toList.take n = l.map (Value.int .i64)) (hn : n = l.length) (hb : base ≤ g) : Own w base (.slice (some ⟨g, 0, none⟩) n cap) l := by
  subst hn
  refine ⟨Kd.R_of_own (enc := Value.int .i64) ⟨by simp [encs], .inr ⟨g, cap, cur, rfl, hb, hh, hc1, hc2, by simpa using hcs, ?_⟩⟩ (fun _ _ => trivial)⟩
  rw [Nat.mul_one]; exact ht

section
variable {ops : Array Oper} {rest : List Oper} {o : Oper} {a : Act} {Q : Exit → Act → World → Prop}
/-- copy(out[1:], out[:n-1]): the row is moved up by one. -/
theorem copy_up {w w0 : World} {base g n cap : Nat} {l : List Int} (hgd : o.guard = none) (d s : Operand) (ho : o.op = .call { callee := .builtin .copy, args := #[d, s], argTypes := #[25, 25] })
    (h : Own w base (.slice (some ⟨g, 0, none⟩) n cap) l) (hp : 1 ≤ n) {X : Option Addr} {c1 : Nat} (hX : X = if cap = 1 then some ⟨g, 0, none⟩ else some ⟨g, 1, none⟩)
    (hd : a.eval d = .slice X (n - 1) c1) (hs : a.eval s = .slice (some ⟨g, 0, none⟩) (n - 1) cap) (hB : Below base w0 w)
    (hk : ∀ w', Own w' base (.slice (some ⟨g, 0, none⟩) n cap) (l.getD 0 0 :: l.take (n - 1)) → Below base w0 w' → wpList Try.prog ops Q rest (a.put o.dst (goInt ((l.take (n - 1)).map (Value.int .i64)).length)) w') :
    wpList Try.prog ops Q (o :: rest) a w := by
  obtain ⟨cur, hh, hc1, hc2, hcs, ht, hn, hb⟩ := h.block hp
  have hcl : ((l.take (n - 1)).map (Value.int .i64)).length = n - 1 := by simp; omega
  refine wpList_copy_splice hgd d s 25 25 ho 3 Try.underlying25 (by kernel_rfl) X (some ⟨g, 0, none⟩) (n - 1) c1 (n - 1) cap hd hs g 1 cur.toList 3 (by simpa using hh) ((l.take (n - 1)).map (Value.int .i64)) (by rw [hcl]; exact (Nat.min_self _).symm) ?_ ?_ ?_ base w0 hB hb ?_
  · intro hpos
    rw [hcl] at hpos
    refine ⟨by rw [hX, if_neg (by omega)], _, rfl, fun j v hj => ?_⟩
    have hj' : j < n - 1 := by have := (List.getElem?_eq_some_iff.1 hj).1; omega
    have hc := (h.cell' hn j (by omega)).1
    have ha : (⟨g, 0, none⟩ : Addr).add j = ⟨g, j, none⟩ := by have := add_plain g j; exact this
    rw [ha, hc]
    rw [List.getElem?_map, List.getElem?_take, if_pos hj'] at hj
    rw [List.getD_eq_getElem?_getD]
    cases hl : l[j]? with
    | none => rw [hl] at hj; simp at hj
    | some x => rw [hl] at hj; simpa using hj
  · rw [hcl, Array.length_toList]; omega
  · intro v hv
    obtain ⟨x, _, rfl⟩ := List.mem_map.1 hv
    rfl
  · intro w' hh' hB'
    refine hk w' (Own.of_block hh'.out hc1 hc2 ?_ ?_ ?_ hb) hB'
    · rw [List.size_toArray, length_splice _ _ _ (by rw [hcl, Array.length_toList]; omega), Array.length_toList]; exact hcs
    · obtain ⟨m, rfl⟩ : ∃ m, n = m + 1 := ⟨n - 1, by omega⟩
      simp only [Nat.add_sub_cancel] at hcl ⊢
      cases hcu : cur.toList with
      | nil =>
        have := Array.length_toList (xs := cur)
        rw [hcu] at this
        simp at this
        omega
      | cons c0 cr =>
        rw [hcu] at ht
        cases l with
        | nil => simp at hn
        | cons l0 lr =>
          simp only [List.take_succ_cons, List.map_cons, List.cons.injEq] at ht
          simp only [splice, List.take_succ_cons, List.take_zero, List.cons_append, List.nil_append, List.map_cons, List.getD_cons_zero]
          rw [ht.1, List.take_append_of_le_length (by omega), List.take_of_length_le (by omega)]
    · simp only [List.length_cons, List.length_take]; omega
end

/-- The description of a field at block b. -/
structure FAt (w : World) (b : Nat) (P M : Int) (A : Option Addr) (n c : Nat) : Prop where
  p : w.cell? ⟨b, 0, none⟩ = some (.int .i64 P)
  m : w.cell? ⟨b, 1, none⟩ = some (.int .i64 M)
  mod : w.cell? ⟨b, 2, none⟩ = some (.slice A n c)
theorem FAt.below {w w1 : World} {b : Nat} {P M : Int} {A : Option Addr} {n c : Nat} (h : FAt w b P M A n c) (hb : Below w.heap.size w w1) : FAt w1 b P M A n c :=
  ⟨pw_cell_below hb h.p, pw_cell_below hb h.m, pw_cell_below hb h.mod⟩
theorem FAt.new (w : World) (P M : Int) (A : Option Addr) (n c : Nat) : FAt (w.alloc (.cells #[.int .i64 P, .int .i64 M, .slice A n c] 27)) w.heap.size P M A n c :=
  ⟨(blk_cell (heap_alloc_new w _) 0).trans rfl, (blk_cell (heap_alloc_new w _) 1).trans rfl, (blk_cell (heap_alloc_new w _) 2).trans rfl⟩

theorem multiply_any {w : World} {A : Option Addr} {c : Nat} (P : Int) (M : Nat) {Mod : List Int} (hl : Kd.C (Kd.int .i64) w A Mod.length Mod) (hP : 2 ≤ P) (hP2 : P ≤ 256) (hM : 1 ≤ M) (hM2 : M ≤ 8) (hq : P ^ M ≤ 256)
    (hMod : 1 < M → Mod.length = M) (hm : ∀ d ∈ Mod, 0 ≤ d ∧ d < P) (x y : Int) (hx : 0 ≤ x) (hx2 : x ≤ 256) (hy : 0 ≤ y) (hy2 : y ≤ 256) :
    Calls Try.prog 102 #[.agg #[.int .i64 P, .int .i64 M, .slice A Mod.length c], .int .i64 x, .int .i64 y] w fun e w' => e = .returned (.int .i64 (mulZ P M Mod x y)) ∧ Below w.heap.size w w' := by
  have HL := Aside0.mk hl
  have HMod := Aside0.mk hMod
  have HM := Aside0.mk hm
  have HQ := Aside0.mk hq
  have hF0 := FAt.new w P M A Mod.length c
  obtain ⟨w0, hw0⟩ : ∃ w0, w.alloc (.cells #[.int .i64 P, .int .i64 M, .slice A Mod.length c] 27) = w0 := ⟨_, rfl⟩
  have hB0 : Below w.heap.size w w0 := by rw [← hw0]; exact below_alloc (Below.refl _ _) _
  rw [hw0] at hF0
  have HF := Aside0.mk hF0
  have HB0 := Aside0.mk hB0
  have HW := Aside0.mk hw0
  clear hl hMod hm hq hF0 hB0 hw0
  go_enter Try.func102, Try.ntmps102
  go_wp2
  rw [HW.out]
  obtain ⟨b, hb⟩ : ∃ b, w.heap.size = b := ⟨_, rfl⟩
  rw [hb] at HF ⊢
  have Hb := Aside0.mk hb
  clear hb
  have cP := HF.out.p
  have cM := HF.out.m
  have hDa := fun (w1 : World) => digitsOf_any x P M hx (by omega) hP (by omega) w1
  have hDb := fun (w1 : World) => digitsOf_any y P M hy (by omega) hP (by omega) w1
  go_region_held3 (fun w' => w'.cell? ⟨b, 0, none⟩ = some (.int .i64 P) ∧ w'.cell? ⟨b, 1, none⟩ = some (.int .i64 M)) (first | exact ⟨‹_›, ‹_›⟩ | go_keep)
    (first
      | (go_at_call 135; (with_reducible refine (hDa _).mono ?_); rintro e w1 ⟨v1, rfl, hO1, hB1⟩; have hb1 := Below.trans (below_drew (Below.refl w0.heap.size w0)) hB1; have cP1 := (HF.out.below hb1).p; have cM1 := (HF.out.below hb1).m; have HB1 := Aside0.mk hb1; have HO1 := Aside0.mk hO1; clear hb1 hO1 hB1)
      | (go_at_call 135; (with_reducible refine (hDb _).mono ?_); rintro e w2 ⟨v2, rfl, hO2, hB2⟩; have hb2 := below_later HB1.out HB1.out.size hB2; have cP2 := (HF.out.below hb2).p; have cM2 := (HF.out.below hb2).m; have HB2 := Aside0.mk hb2; have HO2 := Aside0.mk hO2; have HO1b := Aside0.mk (HO1.out.below hB2); clear hb2 hO2 hB2))
  have hD := digs_length P M x
  have hE := digs_length P M y
  have hEm := digs_mem P hP M y
  have hDm := digs_mem P hP M x
  obtain ⟨Da, hDa'⟩ : ∃ l, digs P M x = l := ⟨_, rfl⟩
  obtain ⟨Db, hDb'⟩ : ∃ l, digs P M y = l := ⟨_, rfl⟩
  have hmulz : mulZ P M Mod x y = val P (Db.foldr (mrow P M Mod Da) (List.replicate M 0)) := by unfold mulZ; rw [hDa', hDb']
  rw [hDa'] at hD hDm HO1b
  rw [hDb'] at hE hEm HO2
  obtain ⟨A1, c1, e1, hc1, hC1⟩ := HO1b.out.slice
  obtain ⟨A2, c2, e2, hc2, hC2⟩ := HO2.out.slice
  subst e1 e2
  have HDl := Aside0.mk hD
  have HEl := Aside0.mk hE
  have HEm := Aside0.mk hEm
  have HDm := Aside0.mk hDm
  have HMz := Aside0.mk hmulz
  have HC1 := Aside0.mk hC1
  have HC2 := Aside0.mk hC2
  have HF2 := Aside0.mk (HF.out.below HB2.out)
  have HL2 := Aside0.mk (Kd.C_below HL.out (below_later HB0.out HB0.out.size HB2.out))
  clear hD hE hEm hDm hDa' hDb' hmulz hC1 hC2 HO1b HO2 HO1 hDa hDb cP cM cP1 cM1
  go_wp2_with ((with_reducible refine gate_dst (N := 28) rfl ?_); refine make_own (n := M) rfl (N := 28) rfl _ _ rfl rfl rfl (by omega) ?_; intro v w3 hO hB; have HO := Aside0.mk hO; have HB := Aside0.mk hB; have cM3 := (HF2.out.below hB).m; clear hO hB)
  have hz0 : (List.replicate M (0 : Int)).length = M := List.length_replicate
  obtain ⟨Z, hZ⟩ : ∃ Z : List Int, List.replicate M 0 = Z := ⟨_, rfl⟩
  rw [hZ] at HO HMz hz0
  have HZl := Aside0.mk hz0
  have HZm : Aside0 (∀ d ∈ Z, 0 ≤ d ∧ d < P) := ⟨by rw [← hZ]; intro d hd; rw [List.eq_of_mem_replicate hd]; omega⟩
  clear hz0 hZ cM3
  go_loopw [10] (fun v10 w' => ∃ (k : Nat) (O : List Int), v10 = .int .i64 ((k : Int) - 1) ∧ k ≤ M ∧ Aside0 (O.length = M) ∧ Aside0 (∀ d ∈ O, 0 ≤ d ∧ d < P) ∧ Aside0 (O = (Db.drop k).foldr (mrow P M Mod Da) Z) ∧ Aside0 (Own w' w2.heap.size v O) ∧ Aside0 (Below w2.heap.size w2 w')) (fun v10 _ => (intOf v10 + 1).toNat)
  case atStart => exact ⟨M, Z, rfl, Nat.le_refl _, HZl, HZm, ⟨by rw [List.drop_of_length_le (by rw [HEl.out]; exact Nat.le_refl _)]; rfl⟩, HO, HB⟩
  case round =>
    clear HO HB HZl HZm cP2 cM2
    obtain ⟨k, O, rfl, hk, HOl, HOm, HOe, HO, HB⟩ := hrel
    have HFr := HF2.out.below HB.out
    have cP := HFr.p
    have cM := HFr.m
    have cMod := HFr.mod
    clear HFr
    by_cases hk0 : 0 < k
    · obtain ⟨i, rfl⟩ : ∃ i, k = i + 1 := ⟨k - 1, by omega⟩
      obtain ⟨s, cap, es, hs1, hs2⟩ := HO.out.form (by rw [HOl.out]; omega)
      rw [HOl.out] at es
      subst es
      obtain ⟨ht1, ht2⟩ := HO.out.cell' HOl.out.symm (M - 1) (by omega)
      obtain ⟨top, htop⟩ : ∃ t, O.getD (M - 1) 0 = t := ⟨_, rfl⟩
      rw [htop] at ht1
      obtain ⟨htp1, htp2⟩ := getD_range P hP O HOm.out (M - 1)
      rw [htop] at htp1 htp2
      obtain ⟨i0, hi, _, hsz, _⟩ := info_parts info3
      have hcutA := cut_from (P := Try.prog) 25 3 .i64 Try.underlying25 hi 1 hsz (some ⟨s, 0, none⟩) M cap 1 (by omega) (by omega)
      have hcutB := cut_to (P := Try.prog) 25 3 .i64 Try.underlying25 hi (some ⟨s, 0, none⟩) M cap ((M : Int) - 1) (by omega) (by omega) (by have := HO.out.reads; omega)
      have htn : ((M : Int) - 1).toNat = M - 1 := by omega
      rw [htn] at hcutB
      have htn1 : ((1 : Int)).toNat = 1 := rfl
      rw [htn1] at hcutA
      obtain ⟨X, hX⟩ : ∃ X, (if cap = 1 then some (⟨s, 0, none⟩ : Addr) else Option.map (fun x => x.add (1 * 1)) (some (⟨s, 0, none⟩ : Addr))) = X := ⟨_, rfl⟩
      rw [hX] at hcutA
      have hXX : X = if cap = 1 then some ⟨s, 0, none⟩ else some ⟨s, 1, none⟩ := by rw [← hX]; rfl
      have HX := Aside0.mk hXX
      have Htop := Aside0.mk htop
      clear hi hsz hX hXX htop htn htn1
      go_wp2
      refine wp_region_quiet_tail 7 (by kernel_rfl) (by kernel_rfl) ?_
      simp only [List.take_succ_cons, List.take_zero, List.drop_succ_cons, List.drop_zero]
      repeat (first | go_big_quiet_step (fail) | quiet_step (fail))
      refine wpQuiet_nil ?_
      intro _ hw'
      obtain ⟨nq, hw''⟩ := hw'
      subst hw''
      refine copy_up (n := M) (cap := cap) (l := O) (g := s) rfl (.tmp 43) (.tmp 48) rfl (HO.out.drewN nq) hM HX.out rfl rfl (pw_below_drewN HB.out nq) ?_
      intro w5 hO5 hB5
      have hsl : (O.getD 0 0 :: O.take (M - 1)).length = M := by rw [List.length_cons, List.length_take, HOl.out]; omega
      obtain ⟨hc50, hf50⟩ := hO5.cell' hsl.symm 0 (by omega)
      have hO6 := hO5.set hsl.symm 0 0
      rw [List.set_cons_zero] at hO6
      have hsl2 : ((0 : Int) :: O.take (M - 1)).length = M := by rw [List.length_cons, List.length_take, HOl.out]; omega
      have HO6 := Aside0.mk hO6
      have HB6 := Aside0.mk (hB5.setCell (p := ⟨s, 0, none⟩) hs1 (.int .i64 0))
      have Hsl := Aside0.mk hsl2
      obtain ⟨cl, hcl⟩ : ∃ n, goInt ((O.take (M - 1)).map (Value.int .i64)).length = n := ⟨_, rfl⟩
      rw [hcl]
      clear hcl hsl hsl2 hO5 hB5 hO6 cP cM cMod HO HB ht1 ht2 hcutA hcutB
      obtain ⟨bi, hbi⟩ : ∃ x, Db.getD i 0 = x := ⟨_, rfl⟩
      obtain ⟨hb1, hb2⟩ := getD_range P hP Db HEm.out i
      rw [hbi] at hb1 hb2
      obtain ⟨S, hS⟩ : ∃ S : List Int, (0 : Int) :: O.take (M - 1) = S := ⟨_, rfl⟩
      have hSm : ∀ d ∈ S, 0 ≤ d ∧ d < P := by
        rw [← hS]
        intro d hd
        rcases List.mem_cons.1 hd with rfl | hd
        · omega
        · exact HOm.out d (List.mem_of_mem_take hd)
      rw [hS] at HO6 Hsl
      obtain ⟨T, hT⟩ : ∃ T : List Int, (List.range M).map (mterm P M Mod Da top bi) = T := ⟨_, rfl⟩
      obtain ⟨F, hF⟩ : ∃ F : Int → Int → Int, (fun o t => (o + t) % P) = F := ⟨_, rfl⟩
      have hTl : T.length = M := by rw [← hT]; simp
      have hrow : mrow P M Mod Da bi O = updZ F S T := by unfold mrow; rw [Htop.out, hS, hT, hF]
      have hdrop : Db.drop i = bi :: Db.drop (i + 1) := by
        rw [List.drop_eq_getElem_cons (by rw [HEl.out]; omega), ← hbi]
        simp [List.getD_eq_getElem?_getD, HEl.out, show i < M from by omega]
      have hnew : updZ F S T = (Db.drop i).foldr (mrow P M Mod Da) Z := by
        rw [hdrop, List.foldr_cons, ← HOe.out, hrow]
      have hnm := mrow_mem P hP M Mod Da bi O HOl.out hM
      have hnl := mrow_length P M Mod Da bi O HOl.out hM
      rw [hrow] at hnm hnl
      have HTl := Aside0.mk hTl
      have HT := Aside0.mk hT
      have HFn := Aside0.mk hF
      have HSm := Aside0.mk hSm
      have Hnew := Aside0.mk hnew
      have Hnm := Aside0.mk hnm
      have Hnl := Aside0.mk hnl
      have Hbi := Aside0.mk hbi
      have hiM : i < M := by omega
      clear hbi hS hSm hT hF hTl hrow hdrop hnew hnm hnl HOe HOm HOl Htop HX
      go_wp2
      go_loopw [54] (fun v54 w' => ∃ (j : Nat), v54 = .int .i64 j ∧ j ≤ M ∧ Aside0 (Own w' w2.heap.size (.slice (some ⟨s, 0, none⟩) M cap) (updZ F S (T.take j))) ∧ Aside0 (Below w2.heap.size w2 w')) (fun v54 _ => M - (intOf v54).toNat)
      case atStart => exact ⟨0, rfl, by omega, ⟨by simpa [updZ_nil] using HO6.out⟩, HB6⟩
      case round =>
        clear HO6 HB6
        obtain ⟨j, rfl, hj, HO, HB⟩ := hrel
        have HFr := HF2.out.below HB.out
        have cP := HFr.p
        have cM := HFr.m
        have cMod := HFr.mod
        clear HFr
        have hlen : (updZ F S (T.take j)).length = M := by rw [updZ_length]; exact Hsl.out
        by_cases hlj : j < M
        · obtain ⟨hcl, hfz⟩ := HO.out.cell' hlen.symm j hlj
          have hget := updZ_get F 0 j S T
          obtain ⟨o, ho⟩ : ∃ o, S.getD j 0 = o := ⟨_, rfl⟩
          obtain ⟨ho1, ho2⟩ := getD_range P hP S HSm.out j
          rw [ho] at hget ho1 ho2
          rw [hget] at hcl
          obtain ⟨low, hlow⟩ : ∃ x, lowZ M Mod j = x := ⟨_, rfl⟩
          obtain ⟨aj, haj⟩ : ∃ x, Da.getD j 0 = x := ⟨_, rfl⟩
          obtain ⟨ha1, ha2⟩ := getD_range P hP Da HDm.out j
          rw [haj] at ha1 ha2
          have hlo : 0 ≤ low ∧ low < P := by
            rw [← hlow]
            unfold lowZ
            split
            · exact getD_range P hP Mod HM.out j
            · omega
          obtain ⟨hlo1, hlo2⟩ := hlo
          have hTj : T.getD j 0 = (P - top) * low + bi * aj := by rw [← HT.out, range_map_getD _ _ _ hlj]; unfold mterm; rw [hlow, haj]
          have hstep := updZ_set F 0 j S T (by rw [HTl.out]; exact hlj) (by rw [Hsl.out]; exact hlj)
          rw [ho, hTj] at hstep
          have hm1 : (P - top) * low ≤ 256 * 256 := Int.mul_le_mul (by omega) (by omega) (by omega) (by omega)
          have hm2 : bi * aj ≤ 256 * 256 := Int.mul_le_mul (by omega) (by omega) (by omega) (by omega)
          have hm3 : 0 ≤ (P - top) * low := Int.mul_nonneg (by omega) (by omega)
          have hm4 : 0 ≤ bi * aj := Int.mul_nonneg (by omega) (by omega)
          obtain ⟨u1, hu1⟩ : ∃ x, (P - top) * low = x := ⟨_, rfl⟩
          obtain ⟨u2, hu2⟩ : ∃ x, bi * aj = x := ⟨_, rfl⟩
          have e1 : IntKind.i64.wrap (P - top) = P - top := w64 _ (by omega) (by omega)
          have e2 : IntKind.i64.wrap ((P - top) * low) = u1 := by rw [hu1]; exact w64 _ (by omega) (by omega)
          have e3 : IntKind.i64.wrap (bi * aj) = u2 := by rw [hu2]; exact w64 _ (by omega) (by omega)
          rw [hu1] at hm1 hm3
          rw [hu2] at hm2 hm4
          rw [hu1, hu2] at hstep
          have e4 : IntKind.i64.wrap (o + u1) = o + u1 := w64 _ (by omega) (by omega)
          have e5 : IntKind.i64.wrap (o + u1 + u2) = o + u1 + u2 := w64 _ (by omega) (by omega)
          obtain ⟨r, hr⟩ : ∃ r, (o + u1 + u2) % P = r := ⟨_, rfl⟩
          have e6 : Int.tmod (o + u1 + u2) P = r := by rw [Int.tmod_eq_emod_of_nonneg (by omega)]; exact hr
          have e7 : (P == 0) = false := by simp only [beq_eq_false_iff_ne]; omega
          have hFo : F o (u1 + u2) = r := by rw [← HFn.out, ← hr, Int.add_assoc]
          rw [hFo] at hstep
          have HO2 := Aside0.mk (HO.out.set hlen.symm j r)
          rw [hstep] at HO2
          obtain ⟨ad1, ea1, hx1⟩ := C_nat (Kd.C_below HC1.out HB.out) j (by rw [HDl.out]; exact hlj)
          cases ea1
          rw [haj] at hx1
          obtain ⟨ad2, ea2, hx2⟩ := C_nat (Kd.C_below HC2.out HB.out) i (by rw [HEl.out]; exact hiM)
          cases ea2
          rw [Hbi.out] at hx2
          have hjD : j < Da.length := by rw [HDl.out]; exact hlj
          have hiD : i < Db.length := by rw [HEl.out]; exact hiM
          have Hlow := Aside0.mk hlow
          have HU1 := Aside0.mk hu1
          clear hget ho haj hTj hstep hu1 hu2 hr hFo hlen HO hlow
          by_cases hM1 : 1 < M
          · have hlowe : Mod.getD j 0 = low := by rw [← Hlow.out]; unfold lowZ; rw [if_pos hM1]
            have hjMod : j < Mod.length := by rw [HMod.out hM1]; exact hlj
            obtain ⟨ad3, ea3, hx3⟩ := C_nat (Kd.C_below HL2.out HB.out) j hjMod
            cases ea3
            rw [hlowe] at hx3
            clear hlowe
            go_wp2
            refine wp_region_quiet_tail 27 (by kernel_rfl) (by kernel_rfl) ?_
            simp only [List.take_succ_cons, List.take_zero, List.drop_succ_cons, List.drop_zero]
            repeat (first | go_big_quiet_step (fail) | quiet_step (fail))
            refine wpQuiet_nil ?_
            intro _ hw'
            obtain ⟨nq, hw''⟩ := hw'
            subst hw''
            go_wp2
            go_roundw
            case rel => exact ⟨j + 1, by go_num, by omega, ⟨HO2.out.drewN _⟩, ⟨pw_below_drewN (HB.out.setCell (p := ⟨s, j, none⟩) hs1 _) _⟩⟩
            case measure => simp [intOf]; omega
          · have hlow0 : low = 0 := by rw [← Hlow.out]; unfold lowZ; rw [if_neg hM1]
            subst hlow0
            obtain rfl : u1 = 0 := by rw [← HU1.out, Int.mul_zero]
            rw [Int.add_zero] at e4 e5 e6
            clear HU1
            go_wp2
            refine wp_region_quiet_tail 27 (by kernel_rfl) (by kernel_rfl) ?_
            simp only [List.take_succ_cons, List.take_zero, List.drop_succ_cons, List.drop_zero]
            repeat (first | go_big_quiet_step (fail) | quiet_step (fail))
            refine wpQuiet_nil ?_
            intro _ hw'
            obtain ⟨nq, hw''⟩ := hw'
            subst hw''
            go_wp2
            go_roundw
            case rel => exact ⟨j + 1, by go_num, by omega, ⟨HO2.out.drewN _⟩, ⟨pw_below_drewN (HB.out.setCell (p := ⟨s, j, none⟩) hs1 _) _⟩⟩
            case measure => simp [intOf]; omega
        · obtain rfl : j = M := by omega
          rw [List.take_of_length_le (by rw [HTl.out]; exact Nat.le_refl _)] at HO
          clear hlen cP cM cMod
          go_wp2
          go_roundw
          case rel => exact ⟨i, _, rfl, by omega, Hnl, Hnm, Hnew, HO, HB⟩
          case measure => simp [intOf]
    · obtain rfl : k = 0 := by omega
      rw [List.drop_zero] at HOe
      obtain ⟨A5, c5, rfl, hc5, hC5⟩ := HO.out.slice
      have hv : val P O = mulZ P M Mod x y := by rw [HMz.out, ← HOe.out]
      have HV := Aside0.mk hv
      have HC5 := Aside0.mk hC5
      have hqO : P ^ O.length ≤ 256 := by rw [HOl.out]; exact HQ.out
      have HQO := Aside0.mk hqO
      clear hv hC5 HO hqO cM cMod
      go_wp2_with (go_at_call 136; (with_reducible refine (valueOf_any HC5.out P hP hP2 HOm.out HQO.out).mono ?_); rw [HV.out]; rintro e w' ⟨rfl, ⟨n1, rfl⟩⟩)
      go_ret
      exact ⟨rfl, pw_below_drewN (below_later (below_later HB0.out HB0.out.size HB2.out) (below_later HB0.out HB0.out.size HB2.out).size HB.out) _⟩
end Go.Proofs.Yticgblagimmlfaa

namespace Go.Proofs.Yticgblagimmlfaa
open Go.RowKit Go.Proofs.YticgblagimmlfaaW.PrintWords Go.Proofs.YticgblagimmlfaaW.PrintLast Go.Proofs.YticgblagimmlfaaW.PrintMore
set_option linter.unusedVariables false
set_option linter.unusedSimpArgs false

section
variable {ops : Array Oper} {rest : List Oper} {o : Oper} {a : Act} {Q : Exit → Act → World → Prop}
theorem append_own {w0 W : World} (base : Nat) (hgd : o.guard = none) (s x : Operand) (ho : o.op = .call { callee := .builtin .append, args := #[s, x], argTypes := #[25, 25] })
    {v : Value} {xs : List Int} (p : Int) (hs : a.eval s = v) (hx : a.eval x = .slice (some ⟨W.heap.size, 0, none⟩) 1 1) (HO : Own W base v xs) (HB : Below base w0 W) (hbase : base ≤ W.heap.size) (hl : xs.length ≤ 1000000000000)
    (h : ∀ v1 w1, Own w1 base v1 (xs ++ [p]) → Below base w0 w1 → W.grownBy w1 v.ownBlock → wpList Try.prog ops Q rest (a.put o.dst v1) w1) :
    wpList Try.prog ops Q (o :: rest) a (W.alloc (.cells #[.int .i64 p] 3)) := by
  refine Kd.R_append (Kd.int .i64) (w0 := w0) base hgd s x 25 3 (.int .i64 0) 8 ho Try.underlying25 info3 rfl (by decide) (by omega) v xs p [.int .i64 p] (fun _ => True) (fun _ => False) hs hx rfl (fun _ hk => hk.elim) (fun _ _ => trivial) HO.out HB hbase (by omega) ?_
  intro v1 w1 h1 h2 h3 _
  exact h v1 w1 ⟨h1⟩ h2 h3
end

/-- Numbers and bools lie in different blocks. -/
theorem own_ne_ownB {w : World} {base base' g n c : Nat} {v : Value} {l : List Int} {B : List Bool} (h : Own w base v l) (hb : OwnB w base' (.slice (some ⟨g, 0, none⟩) n c) B) : v.ownBlock ≠ some g := by
  intro e
  obtain ⟨c1, h1⟩ := Kd.R_typed h.out g e
  obtain ⟨c2, h2⟩ := Kd.R_typed hb.out g rfl
  rw [h1] at h2
  injection h2 with h2
  injection h2 with _ h3
  cases h3
theorem OwnB.grown {w w1 : World} {base : Nat} {v : Value} {l : List Bool} (h : OwnB w base v l) {row : Option Nat} (hg : w.grownBy w1 row) (hne : ∀ k, v.ownBlock = some k → some k ≠ row) : OwnB w1 base v l :=
  h.keep fun k hk => hg.block k (by
    obtain ⟨c, hc⟩ := Kd.R_typed h.out k hk
    exact (Array.getElem?_eq_some_iff.1 hc).1) (hne k hk)
theorem Own.setB {w : World} {base base' g n c : Nat} {v : Value} {l : List Int} {B : List Bool} (h : Own w base v l) (hb : OwnB w base' (.slice (some ⟨g, 0, none⟩) n c) B) (k : Nat) (u : Value) : Own (w.setCell ⟨g, k, none⟩ u) base v l :=
  h.keep fun j hj => Below.heap_setCell w _ u j (by
    intro e
    exact own_ne_ownB h hb (by rw [hj, e]))

theorem powers_any {w : World} {A : Option Addr} {c : Nat} (P : Int) (M : Nat) {Mod : List Int} (hl : Kd.C (Kd.int .i64) w A Mod.length Mod) (hP : 2 ≤ P) (hP2 : P ≤ 256) (hM : 1 ≤ M) (hM2 : M ≤ 8) (hq : P ^ M ≤ 256)
    (hMod : 1 < M → Mod.length = M) (hm : ∀ d ∈ Mod, 0 ≤ d ∧ d < P) (q : Int) (hqe : q = P ^ M) (x : Int) (hx : 0 ≤ x) (hx2 : x < q) (fuel : Nat) {R : List Int} (hfu : fuel ≤ 1000000)
    (hR : powLoop (fun y => mulZ P M Mod y x) fuel [1] x = some R) :
    Calls Try.prog 101 #[.agg #[.int .i64 P, .int .i64 M, .slice A Mod.length c], .int .i64 q, .int .i64 x] w fun e w' => ∃ v, e = .returned v ∧ Own w' w.heap.size v R ∧ Below w.heap.size w w' := by
  have HL := Aside0.mk hl
  have HMod := Aside0.mk hMod
  have HM := Aside0.mk hm
  have HQ := Aside0.mk hq
  have HQe := Aside0.mk hqe
  have HR := Aside0.mk hR
  have hq256 : q ≤ 256 := by omega
  have hq2 : 2 ≤ q := by
    have := pow_le_pow P hP 1 M hM
    rw [Int.pow_one] at this
    omega
  obtain ⟨qn, hqn⟩ := Int.eq_ofNat_of_zero_le (by omega : 0 ≤ q)
  have HQN := Aside0.mk hqn
  have hqn1 : 1 < qn := by omega
  have hqn2 : qn ≤ 256 := by omega
  have hF0 := FAt.new w P M A Mod.length c
  obtain ⟨w0, hw0⟩ : ∃ w0, w.alloc (.cells #[.int .i64 P, .int .i64 M, .slice A Mod.length c] 27) = w0 := ⟨_, rfl⟩
  have hB0 : Below w.heap.size w w0 := by rw [← hw0]; exact below_alloc (Below.refl _ _) _
  have hsz : w0.heap.size = w.heap.size + 1 := by rw [← hw0]; simp
  rw [hw0] at hF0
  have HF := Aside0.mk hF0
  have HB0 := Aside0.mk hB0
  have HW := Aside0.mk hw0
  have HSz := Aside0.mk hsz
  clear hl hMod hm hq hqe hR hqn hF0 hB0 hw0 hsz
  go_enter Try.func101, Try.ntmps101
  go_wp2_with ((with_reducible refine gate_dst (N := 12) rfl ?_); refine make_ownbI rfl (N := 12) rfl _ _ rfl HQN rfl rfl (by omega) ?_; intro v w2 hO hB; have hO1 := hO.form (by rw [List.length_replicate]; omega); obtain ⟨s, cs, es, hs1, hs2⟩ := hO1; rw [List.length_replicate] at es; subst es; have hrl : (List.replicate qn false).length = qn := List.length_replicate; obtain ⟨hcl, hfz⟩ := hO.cell' hrl.symm 1 hqn1; have HO := Aside0.mk hO; have HB := Aside0.mk hB; clear hO hB hrl)
  rw [HW.out] at HO HB hs1
  have hlit := own_lit1 w0 1
  have hlit2 := (hlit.below HB.out).setB HO.out 1 (.bool true)
  have HOut : Aside0 (Own (w2.setCell ⟨s, 1, none⟩ (.bool true)) w0.heap.size (.slice (some ⟨w.heap.size + 1, 0, none⟩) 1 1) [1]) := ⟨by rw [← HSz.out]; exact hlit2⟩
  have HSe := Aside0.mk ((HO.out.set List.length_replicate.symm 1 true).lower (below_alloc (Below.refl w0.heap.size w0) (.cells #[.int .i64 1] 3)).size)
  have hbb := below_alloc (Below.refl w0.heap.size w0) (.cells #[.int .i64 1] 3)
  have HBz := Aside0.mk ((below_later hbb hbb.size HB.out).setCell (p := ⟨s, 1, none⟩) (Nat.le_trans hbb.size hs1) (.bool true))
  have HSn : Aside0 (SeenIs ((List.replicate qn false).set 1 true) qn [1]) := ⟨(SeenIs.start qn).step 1 hqn1⟩
  obtain ⟨b, hb⟩ : ∃ b, w.heap.size = b := ⟨_, rfl⟩
  have Hb := Aside0.mk hb
  rw [hb] at HF HOut ⊢
  clear hlit hlit2 hbb hcl hfz hs1 hs2 HB HO HSz HW hb
  obtain ⟨wi, hwi⟩ : ∃ wi, w2.setCell ⟨s, 1, none⟩ (.bool true) = wi := ⟨_, rfl⟩
  rw [hwi] at HOut HSe HBz ⊢
  clear hwi
  go_loopg [7, 9] fuel (fun kq v7 v9 w' => ∃ (out : List Int) (y : Int) (S : List Bool), v9 = .int .i64 y ∧ 0 ≤ y ∧ y < q ∧ out.length + kq ≤ fuel + 1 ∧ kq ≤ fuel ∧ Aside0 (powLoop (fun y => mulZ P M Mod y x) kq out y = some R) ∧ Aside0 (SeenIs S qn out) ∧
    Aside0 (Own w' w0.heap.size v7 out) ∧ Aside0 (OwnB w' w0.heap.size (.slice (some ⟨s, 0, none⟩) qn cs) S) ∧ Aside0 (Below w0.heap.size w0 w'))
  case atStart => exact ⟨[1], x, _, rfl, hx, hx2, by simp; omega, Nat.le_refl _, HR, HSn, HOut, HSe, HBz⟩
  case round =>
    clear HOut HSe HBz HSn HR
    obtain ⟨out, y, S, rfl, hy1, hy2, hol, hkq, HR, HSn, HO, HS, HB⟩ := hrel
    cases gk with
    | zero => exact absurd HR.out (by simp [powLoop])
    | succ k1 =>
      have hr := HR.out
      simp only [powLoop] at hr
      obtain ⟨Ao, co, rfl, hco, hCo⟩ := HO.out.slice
      by_cases hy0 : y = 0
      · rw [if_pos hy0] at hr
        have hrr := Option.some.inj hr
        subst hy0
        have HRR := Aside0.mk hrr
        clear hr hrr HR hCo
        go_wp2
        go_ret
        exact ⟨_, rfl, by rw [← HRR.out]; exact HO.out.lower HB0.out.size, below_later HB0.out HB0.out.size HB.out⟩
      · rw [if_neg hy0] at hr
        have hyb : (y == 0) = false := by simp [hy0]
        have hyb2 : (y != 0) = true := by simp [hy0]
        obtain ⟨yn, hyn⟩ := Int.eq_ofNat_of_zero_le hy1
        have hynq : yn < qn := by have := HQN.out; omega
        have hSl := HSn.out.1
        obtain ⟨hcs, hfs⟩ := HS.out.cell' hSl.symm yn hynq
        subst hyn
        by_cases hin : (yn : Int) ∈ out
        · rw [if_pos hin] at hr
          have hrr := Option.some.inj hr
          have htr := (HSn.out.2 yn hynq).2 hin
          rw [htr] at hcs
          have HRR := Aside0.mk hrr
          clear hr hrr HR hCo hSl htr hin hy0
          go_wp2
          go_ret
          exact ⟨_, rfl, by rw [← HRR.out]; exact HO.out.lower HB0.out.size, below_later HB0.out HB0.out.size HB.out⟩
        · rw [if_neg hin] at hr
          have hfa := HSn.out.no yn hynq hin
          rw [hfa] at hcs
          have HSn2 := Aside0.mk (HSn.out.step yn hynq)
          have HS2 := Aside0.mk (HS.out.set hSl.symm yn true)
          have HO2 := Aside0.mk (HO.out.setB HS.out yn (.bool true))
          have HB2 := Aside0.mk (HB.out.setCell (p := ⟨s, yn, none⟩) (HS.out.base_le s rfl) (.bool true))
          have HR2 := Aside0.mk hr
          have hmr := val_digs_range P hP M hM Mod (yn : Int) x HQ.out
          rw [← HQe.out] at hmr
          obtain ⟨hmr1, hmr2⟩ := hmr
          clear hr HR hCo hSl hfa hin hy0
          have hszw : (wr.setCell ⟨s, yn, none⟩ (.bool true)).heap.size = wr.heap.size := by simp [World.setCell]
          have HSzw := Aside0.mk hszw
          clear hszw
          go_wp2_with (first
            | ((with_reducible refine gate_builtin (b := .append) (xs := #[.tmp 32, .tmp 34]) rfl ?_); at_builtin; refine append_own (w0 := w0) w0.heap.size rfl (.tmp 32) (.tmp 34) rfl (v := .slice Ao out.length co) (xs := out) (yn : Int) rfl (by rw [HSzw.out]; rfl) HO2.out HB2.out HB2.out.size (by omega) ?_; intro v5 w5 h5 hb5 hg5; have HO5 := Aside0.mk h5; have HB5 := Aside0.mk hb5; have HS5 := Aside0.mk (HS2.out.grown hg5 (by intro k hk; exact fun e => own_ne_ownB HO2.out HS2.out (by rw [← e, ← hk]; rfl))); have cP5 := (HF.out.below hb5).p; have cM5 := (HF.out.below hb5).m; have cMod5 := (HF.out.below hb5).mod; clear h5 hb5 hg5)
            | (go_at_call 102; refine (multiply_any (c := c) P M (Kd.C_below HL.out (below_later HB0.out HB0.out.size HB5.out)) hP hP2 hM hM2 HQ.out HMod.out HM.out (yn : Int) x (by omega) (by omega) hx (by omega)).mono ?_; rintro e w6 ⟨rfl, hB6⟩; have HO6 := Aside0.mk (HO5.out.below hB6); have HS6 := Aside0.mk (HS5.out.below hB6); have HB6 := Aside0.mk (below_later HB5.out HB5.out.size hB6); clear hB6))
          go_roundg k1
          case measure => omega
          case rel => exact ⟨out ++ [(yn : Int)], _, _, rfl, hmr1, hmr2, by rw [List.length_append]; simp only [List.length_cons, List.length_nil]; omega, by omega, HR2, HSn2, HO6, HS6, HB6⟩
end Go.Proofs.Yticgblagimmlfaa

namespace Go.Proofs.Yticgblagimmlfaa
open Go.RowKit Go.Proofs.YticgblagimmlfaaW.PrintWords Go.Proofs.YticgblagimmlfaaW.PrintLast Go.Proofs.YticgblagimmlfaaW.PrintMore
set_option linter.unusedVariables false
set_option linter.unusedSimpArgs false

/-- Nothing at all where the list is empty; else numbers in new memory. -/
def NilOr (w : World) (base : Nat) (v : Value) (l : List Int) : Prop := (l = [] ∧ v = .slice none 0 0) ∨ (l ≠ [] ∧ Own w base v l)

theorem generator_any {w : World} {A : Option Addr} {c : Nat} (P : Int) (M : Nat) {Mod : List Int} (hl : Kd.C (Kd.int .i64) w A Mod.length Mod) (hP : 2 ≤ P) (hP2 : P ≤ 256) (hM : 1 ≤ M) (hM2 : M ≤ 8) (hq : P ^ M ≤ 256)
    (hMod : 1 < M → Mod.length = M) (hm : ∀ d ∈ Mod, 0 ≤ d ∧ d < P) (q : Int) (hqe : q = P ^ M) :
    Calls Try.prog 65 #[.agg #[.int .i64 P, .int .i64 M, .slice A Mod.length c], .int .i64 q] w fun e w' => ∃ v, e = .returned v ∧ NilOr w' w.heap.size v (genZ P M Mod q) ∧ Below w.heap.size w w' := by
  have hq256 : q ≤ 256 := by omega
  have hq2 : 2 ≤ q := by
    have := pow_le_pow P hP 1 M hM
    rw [Int.pow_one] at this
    omega
  have hpw := fun (x : Int) (h0 : 0 ≤ x) (h1 : x < q) (w1 : World) (hb1 : Below w.heap.size w w1) =>
    Aside0.mk (powers_any (c := c) P M (Kd.C_below hl hb1) hP hP2 hM hM2 hq hMod hm q hqe x h0 h1 ((P ^ M).toNat + 1) (by omega) (powersT_eq P hP M hM Mod hq x h0 (by omega)))
  have hmu := fun (y x : Int) (h0 : 0 ≤ x) (h1 : x < q) (h2 : 0 ≤ y) (h3 : y < q) (w1 : World) (hb1 : Below w.heap.size w w1) =>
    Aside0.mk (multiply_any (c := c) P M (Kd.C_below hl hb1) hP hP2 hM hM2 hq hMod hm y x h2 (by omega) h0 (by omega))
  have hrg := fun (x : Int) (h0 : 0 ≤ x) (h1 : x < q) => powersT_range P hP M hM Mod hq x h0 (by omega)
  rw [← hqe] at hpw hrg
  obtain ⟨R, hR⟩ : ∃ R, genZ P M Mod q = R := ⟨_, rfl⟩
  rw [hR]
  have HR := Aside0.mk (show genLoop P M Mod q (q - 1).toNat 1 = R from hR)
  have Hrg := Aside0.mk hrg
  have hF0 := FAt.new w P M A Mod.length c
  obtain ⟨w0, hw0⟩ : ∃ w0, w.alloc (.cells #[.int .i64 P, .int .i64 M, .slice A Mod.length c] 27) = w0 := ⟨_, rfl⟩
  have hB0 : Below w.heap.size w w0 := by rw [← hw0]; exact below_alloc (Below.refl _ _) _
  rw [hw0] at hF0
  have HF := Aside0.mk hF0
  have HB0 := Aside0.mk hB0
  have HW := Aside0.mk hw0
  have HPW := Aside0.mk hpw
  have HMU := Aside0.mk hmu
  clear hl hMod hm hq hqe hR hF0 hB0 hw0 hpw hmu hrg
  go_enter Try.func65, Try.ntmps65
  go_wp2
  rw [HW.out]
  obtain ⟨b, hb⟩ : ∃ b, w.heap.size = b := ⟨_, rfl⟩
  have Hb := Aside0.mk hb
  rw [hb] at HF ⊢
  clear hb
  have HBs := Aside0.mk (Below.refl w0.heap.size w0)
  go_loopw [5] (fun v5 w' => ∃ (x : Int), v5 = .int .i64 x ∧ 1 ≤ x ∧ x ≤ q ∧ Aside0 (genLoop P M Mod q (q - x).toNat x = R) ∧ Aside0 (Below w0.heap.size w0 w')) (fun v5 _ => (q - intOf v5).toNat)
  case atStart => exact ⟨1, rfl, by omega, by omega, HR, HBs⟩
  case round =>
    clear HR HBs
    obtain ⟨x, rfl, hx1, hx2, HR, HB⟩ := hrel
    have cP := (HF.out.below HB.out).p
    have cM := (HF.out.below HB.out).m
    have cMod := (HF.out.below HB.out).mod
    have hBw := below_later HB0.out HB0.out.size HB.out
    have HBw := Aside0.mk hBw
    clear hBw
    by_cases hxq : x < q
    · have hr := HR.out
      obtain ⟨n, hn⟩ : ∃ n, (q - x).toNat = n + 1 := ⟨(q - x).toNat - 1, by omega⟩
      have hn2 : (q - (x + 1)).toNat = n := by omega
      rw [hn] at hr
      simp only [genLoop] at hr
      obtain ⟨p, hp⟩ : ∃ p, powersT P M Mod q x = p := ⟨_, rfl⟩
      have hpw := (HPW.out x (by omega) hxq wr HBw.out).out
      have hrg := Hrg.out x (by omega) hxq
      rw [hp] at hr hpw hrg
      rw [← hn2] at hr
      have HPw := Aside0.mk hpw
      have Hrg2 := Aside0.mk hrg
      clear hp hpw hrg hn hn2 HR
      by_cases hlen : (p.length : Int) = q - 1
      · have hlb : ((p.length : Int) == q - 1) = true := by simp [hlen]
        obtain ⟨j, hj⟩ := Int.eq_ofNat_of_zero_le (by omega : 0 ≤ q - 2)
        have hjp : j < p.length := by omega
        rw [show (q - 2).toNat = j from by omega] at hr
        obtain ⟨pe, hpe⟩ : ∃ y, p.getD j 0 = y := ⟨_, rfl⟩
        have hpm : pe ∈ p := by rw [← hpe, List.getD_eq_getElem?_getD, List.getElem?_eq_getElem hjp]; exact List.getElem_mem hjp
        obtain ⟨hpe1, hpe2⟩ := Hrg2.out pe hpm
        rw [hpe] at hr
        have HPE := Aside0.mk hpe
        have HMu := fun (w1 : World) (hb1 : Below w.heap.size w w1) => Aside0.mk (HMU.out pe x (by omega) hxq hpe1 hpe2 w1 hb1).out
        obtain ⟨mm, hmm⟩ : ∃ y, mulZ P M Mod pe x = y := ⟨_, rfl⟩
        simp only [hmm] at HMu hr
        have hne : p ≠ [] := fun e => by rw [e] at hjp; simp at hjp
        have HLen := Aside0.mk hlen
        have HJ := Aside0.mk hj
        have w1 : IntKind.i64.wrap (q - 1) = q - 1 := w64 _ (by omega) (by omega)
        have w2 : IntKind.i64.wrap (q - 2) = (j : Int) := by rw [hj]; exact w64 _ (by omega) (by omega)
        clear hpe hpm hlen hj hmm
        go_wp2_with (go_at_call 101; refine HPw.out.mono ?_; rintro e w3 ⟨v3, rfl, hO3, hB3⟩; obtain ⟨A3, c3, rfl, hc3, hC3⟩ := hO3.slice; obtain ⟨ad3, ea3, hx3⟩ := C_nat hC3 j hjp; cases ea3; rw [HPE.out] at hx3; have HO3 := Aside0.mk hO3; have HB3 := Aside0.mk (below_later HB.out HB.out.size hB3); have cP3 := (HF.out.below HB3.out).p; have cM3 := (HF.out.below HB3.out).m; have cMod3 := (HF.out.below HB3.out).mod; have HBw3 := Aside0.mk (below_later HBw.out HBw.out.size hB3); clear hO3 hB3 hC3)
        refine wp_region_quiet_tail 13 (by kernel_rfl) (by kernel_rfl) ?_
        simp only [List.take_succ_cons, List.take_zero, List.drop_succ_cons, List.drop_zero]
        repeat (first | go_big_quiet_step (fail) | quiet_step (fail))
        refine wpQuiet_nil ?_
        intro _ hw'
        obtain ⟨nq, hw''⟩ := hw'
        subst hw''
        have hBq := Aside0.mk (pw_below_drewN HBw3.out nq)
        by_cases hm1 : mm = 1
        · rw [if_pos ⟨HLen.out, hm1⟩] at hr
          subst hr hm1
          go_wp2_with (go_at_call 102; refine (HMu _ hBq.out).out.mono ?_; rintro e w6 ⟨rfl, hB6⟩; have hB6' := hB6; have HB6 := Aside0.mk hB6; clear hB6 hB6')
          go_ret
          have q3 : Own w6 w.heap.size (.slice (some ad3) p.length c3) p := ((HO3.out.drewN nq).below HB6.out).lower HBw.out.size
          exact ⟨_, rfl, .inr ⟨hne, q3⟩, below_later hBq.out hBq.out.size HB6.out⟩
        · rw [if_neg (fun h => hm1 h.2)] at hr
          have hmb : (mm == 1) = false := by simp [hm1]
          have HR2 := Aside0.mk hr
          clear hr hm1
          go_wp2_with (go_at_call 102; refine (HMu _ hBq.out).out.mono ?_; rintro e w6 ⟨rfl, hB6⟩; have HB6 := Aside0.mk hB6; clear hB6)
          go_roundw
          case rel => exact ⟨x + 1, rfl, by omega, by omega, HR2, ⟨below_later (pw_below_drewN HB3.out nq) (pw_below_drewN HB3.out nq).size HB6.out⟩⟩
          case measure => simp [intOf]; omega
      · rw [if_neg (fun h => hlen h.1)] at hr
        have hlb : ((p.length : Int) == q - 1) = false := by simp [hlen]
        have HR2 := Aside0.mk hr
        have w1 : IntKind.i64.wrap (q - 1) = q - 1 := w64 _ (by omega) (by omega)
        clear hlen hr
        go_wp2_with (go_at_call 101; refine HPw.out.mono ?_; rintro e w3 ⟨v3, rfl, hO3, hB3⟩; obtain ⟨A3, c3, rfl, hc3, hC3⟩ := hO3.slice; have HB3 := Aside0.mk (below_later HB.out HB.out.size hB3); clear hO3 hB3 hC3)
        go_quiet (fail)
        go_wp2
        go_roundw
        case rel => exact ⟨x + 1, rfl, by omega, by omega, HR2, ⟨pw_below_drewN HB3.out _⟩⟩
        case measure => simp [intOf]; omega
    · obtain rfl : x = q := by omega
      have hr := HR.out
      rw [Int.sub_self] at hr
      have hr' : ([] : List Int) = R := hr
      subst hr'
      clear hr HR
      go_wp2
      go_ret
      exact ⟨_, rfl, .inl ⟨rfl, rfl⟩, HBw.out⟩
end Go.Proofs.Yticgblagimmlfaa

namespace Go.Proofs.Yticgblagimmlfaa
open Go.RowKit Go.Proofs.YticgblagimmlfaaW.PrintWords Go.Proofs.YticgblagimmlfaaW.PrintLast Go.Proofs.YticgblagimmlfaaW.PrintMore
set_option linter.unusedVariables false
set_option linter.unusedSimpArgs false

theorem shape_any {w : World} {A : Option Addr} {c : Nat} (P M : Int) {Mod : List Int} (hl : Kd.C (Kd.int .i64) w A Mod.length Mod) :
    Calls Try.prog 63 #[.agg #[.int .i64 P, .int .i64 M, .slice A Mod.length c]] w fun e w' => e = .returned (.bool (shapeZ P M Mod)) ∧ Below w.heap.size w w' := by
  have HL := Aside0.mk hl
  have hmx := Kd.C_max hl
  have hu27 := Try.underlying27
  obtain ⟨R, hR⟩ : ∃ R, shapeZ P M Mod = R := ⟨_, rfl⟩
  rw [hR]
  have hF0 := FAt.new w P M A Mod.length c
  obtain ⟨w0, hw0⟩ : ∃ w0, w.alloc (.cells #[.int .i64 P, .int .i64 M, .slice A Mod.length c] 27) = w0 := ⟨_, rfl⟩
  have hB0 : Below w.heap.size w w0 := by rw [← hw0]; exact below_alloc (Below.refl _ _) _
  have HB0 := Aside0.mk hB0
  have HO := fun (w1 : World) => order_fn P M w1
  obtain ⟨o, ho⟩ : ∃ o, orderZ P M = o := ⟨_, rfl⟩
  simp only [ho] at HO
  unfold shapeZ at hR
  rw [ho] at hR
  by_cases h0 : o = 0
  · rw [if_pos h0] at hR
    subst hR h0
    clear hF0 hw0 hB0 ho HB0
    go_enter Try.func63, Try.ntmps63
    go_wp2_with (go_at_call 64; (with_reducible refine (HO _).mono ?_); rintro e w1 ⟨rfl, rfl⟩)
    go_ret
    exact ⟨rfl, below_alloc (Below.refl _ _) _⟩
  · rw [if_neg h0] at hR
    obtain ⟨h1, h2, h3, h4⟩ := orderZ_range P M (by rw [ho]; exact h0)
    have hob : (o == 0) = false := by simp [h0]
    have HP := fun (w1 : World) => isPrime_fn P h1 h2 w1
    obtain ⟨pr, hpr⟩ : ∃ b, primeZ P = b := ⟨_, rfl⟩
    simp only [hpr] at HP
    rw [hpr] at hR
    clear ho hpr h0
    cases pr with
    | false =>
      have hR' : false = R := hR
      subst hR'
      clear hF0 hw0 hB0 HB0 hR
      go_enter Try.func63, Try.ntmps63
      go_wp2_with (first | (go_at_call 64; (with_reducible refine (HO _).mono ?_); rintro e w1 ⟨rfl, rfl⟩) | (go_at_call 100; (with_reducible refine (HP _).mono ?_); rintro e w1 ⟨rfl, rfl⟩))
      go_ret
      exact ⟨rfl, below_alloc (Below.refl _ _) _⟩
    | true =>
      rw [if_neg (by simp)] at hR
      by_cases hM : M = 1
      · rw [if_pos hM] at hR
        subst hM
        clear hF0 hw0 hB0 HB0
        by_cases hz : Mod.length = 0
        · have hR' : true = R := by rw [← hR]; simp [hz]
          have hzb : ((Mod.length : Int) == 0) = true := by simp [hz]
          subst hR'
          clear hz hR
          go_enter Try.func63, Try.ntmps63
          go_wp2_with (first | (go_at_call 64; (with_reducible refine (HO _).mono ?_); rintro e w1 ⟨rfl, rfl⟩) | (go_at_call 100; (with_reducible refine (HP _).mono ?_); rintro e w1 ⟨rfl, rfl⟩))
          go_ret
          exact ⟨rfl, below_alloc (Below.refl _ _) _⟩
        · have hR' : false = R := by rw [← hR]; simp [hz]
          have hzb : ((Mod.length : Int) == 0) = false := by simp only [beq_eq_false_iff_ne]; omega
          subst hR'
          clear hz hR
          go_enter Try.func63, Try.ntmps63
          go_wp2_with (first | (go_at_call 64; (with_reducible refine (HO _).mono ?_); rintro e w1 ⟨rfl, rfl⟩) | (go_at_call 100; (with_reducible refine (HP _).mono ?_); rintro e w1 ⟨rfl, rfl⟩))
          go_ret
          exact ⟨rfl, below_alloc (Below.refl _ _) _⟩
      · rw [if_neg hM] at hR
        have hMb : (M == 1) = false := by simp [hM]
        by_cases hlen : (Mod.length : Int) ≠ M
        · rw [if_pos hlen] at hR
          subst hR
          have hlb : ((Mod.length : Int) != M) = true := by simp [hlen]
          clear hF0 hw0 hB0 HB0 hlen hM
          go_enter Try.func63, Try.ntmps63
          go_wp2_with (first | (go_at_call 64; (with_reducible refine (HO _).mono ?_); rintro e w1 ⟨rfl, rfl⟩) | (go_at_call 100; (with_reducible refine (HP _).mono ?_); rintro e w1 ⟨rfl, rfl⟩))
          go_ret
          exact ⟨rfl, below_alloc (Below.refl _ _) _⟩
        · rw [if_neg hlen] at hR
          have hlb : ((Mod.length : Int) != M) = false := by simpa using hlen
          have HR := Aside0.mk hR
          have HW := Aside0.mk hw0
          have HF := Aside0.mk hF0
          clear hlen hM hR hw0 hF0 hB0
          go_enter Try.func63, Try.ntmps63
          go_wp2_with (first | (go_at_call 64; (with_reducible refine (HO _).mono ?_); rintro e w1 ⟨rfl, rfl⟩) | (go_at_call 100; (with_reducible refine (HP _).mono ?_); rintro e w1 ⟨rfl, rfl⟩))
          have hF := HF.out
          rw [HW.out] at hF ⊢
          have cP := hF.p
          have HLb := Aside0.mk (Kd.C_below HL.out HB0.out)
          clear HW HF hF HO HP
          go_loop [33] (fun v33 => ∃ k : Nat, v33 = .int .i64 k ∧ k ≤ Mod.length ∧ Aside0 (inRange P (Mod.take k) = true)) (fun v33 => Mod.length - (intOf v33).toNat)
          case atStart => exact ⟨0, rfl, by omega, ⟨by simp [inRange]⟩⟩
          case round =>
            obtain ⟨k, rfl, hk, HI⟩ := hrel
            by_cases hlk : k < Mod.length
            · obtain ⟨ad, e, hx⟩ := C_nat HLb.out k hlk
              cases e
              have hst := inRange_take_succ P Mod k hlk
              obtain ⟨x, hx'⟩ : ∃ x, Mod.getD k 0 = x := ⟨_, rfl⟩
              rw [hx'] at hx hst
              rw [HI.out, Bool.true_and] at hst
              by_cases hx0 : x < 0
              · have hf := inRange_mono P Mod (k + 1) (by rw [hst]; simp; omega)
                have hR : false = R := by rw [← HR.out]; exact hf.symm
                subst hR
                clear hst hf HI HR hx'
                go_wp2
                go_ret
                exact ⟨rfl, HB0.out⟩
              · by_cases hxP : P ≤ x
                · have hf := inRange_mono P Mod (k + 1) (by rw [hst]; simp; omega)
                  have hR : false = R := by rw [← HR.out]; exact hf.symm
                  subst hR
                  clear hst hf HI HR hx'
                  go_wp2
                  go_ret
                  exact ⟨rfl, HB0.out⟩
                · have HI2 : Aside0 (inRange P (Mod.take (k + 1)) = true) := ⟨by rw [hst]; simp; omega⟩
                  clear hst HI hx'
                  go_wp2
                  go_round
                  case rel => exact ⟨k + 1, by go_num, by omega, HI2⟩
                  case measure => simp [intOf]; omega
            · obtain rfl : k = Mod.length := by omega
              rw [List.take_length] at HI
              have hR : true = R := by rw [← HR.out]; exact HI.out.symm
              subst hR
              clear HI HR
              go_wp2
              go_ret
              exact ⟨rfl, HB0.out⟩
end Go.Proofs.Yticgblagimmlfaa

namespace Go.Proofs.Yticgblagimmlfaa
open Go.RowKit Go.Proofs.YticgblagimmlfaaW.PrintWords Go.Proofs.YticgblagimmlfaaW.PrintLast Go.Proofs.YticgblagimmlfaaW.PrintMore
set_option linter.unusedVariables false
set_option linter.unusedSimpArgs false

set_option maxRecDepth 100000 in
theorem new_bad {w : World} {A : Option Addr} {c : Nat} (P M : Int) {Mod : List Int} (hl : Kd.C (Kd.int .i64) w A Mod.length Mod) (hb : fieldOk P M Mod = false) :
    Calls Try.prog 37 #[.agg #[.int .i64 P, .int .i64 M, .slice A Mod.length c]] w fun e w' => e = .returned (.tuple #[.pointer none, .int .i64 1]) ∧ Below w.heap.size w w' := by
  have HL := Aside0.mk hl
  have hF0 := FAt.new w P M A Mod.length c
  obtain ⟨w0, hw0⟩ : ∃ w0, w.alloc (.cells #[.int .i64 P, .int .i64 M, .slice A Mod.length c] 27) = w0 := ⟨_, rfl⟩
  have hB0 : Below w.heap.size w w0 := by rw [← hw0]; exact below_alloc (Below.refl _ _) _
  rw [hw0] at hF0
  have HF := Aside0.mk hF0
  have HB0 := Aside0.mk hB0
  have HW := Aside0.mk hw0
  have HS := fun (w1 : World) (hb1 : Below w.heap.size w w1) => Aside0.mk (shape_any (c := c) P M (Kd.C_below hl hb1))
  clear hl hF0 hB0 hw0
  cases hs : shapeZ P M Mod with
  | false =>
    rw [hs] at HS
    clear hs hb
    go_enter Try.func37, Try.ntmps37
    go_wp2_with fail
    rw [HW.out]
    have cP := HF.out.p
    have cM := HF.out.m
    have cMod := HF.out.mod
    go_wp2_with (go_at_call 63; refine (HS _ HB0.out).out.mono ?_; rintro e w1 ⟨rfl, hB1⟩; have HB1 := Aside0.mk (below_later HB0.out HB0.out.size hB1); clear hB1)
    go_ret2
    exact ⟨rfl, HB1.out⟩
  | true =>
    rw [hs] at HS
    obtain ⟨p1, p2, p3, p4, p5, p6, p7, p8, p9, p10⟩ := shapeZ_true P M Mod hs
    have hg : genZ P M.toNat Mod (P ^ M.toNat) = [] := by
      unfold fieldOk at hb
      rw [hs, Bool.true_and] at hb
      cases e : genZ P M.toNat Mod (P ^ M.toNat) with
      | nil => rfl
      | cons a l => rw [e] at hb; simp at hb
    obtain ⟨m, rfl⟩ := Int.eq_ofNat_of_zero_le (by omega : 0 ≤ M)
    rw [Int.toNat_natCast] at p5 p6 p8 hg
    have HG := fun (w1 : World) (hb1 : Below w.heap.size w w1) => Aside0.mk (generator_any (c := c) P m (Kd.C_below HL.out hb1) p1 p2 (by omega) (by omega) p6 p8 p9 _ rfl)
    rw [hg] at HG
    obtain ⟨q, hq⟩ : ∃ q, P ^ m = q := ⟨_, rfl⟩
    rw [hq] at p5 HG
    have HO := fun (w1 : World) => order_fn P (m : Int) w1
    simp only [p5] at HO
    clear hs hb hg p1 p2 p3 p4 p5 p6 p7 p8 p9 p10 hq
    have hnil := fun (w1 : World) (a : Option Addr) (n c n' c' : Nat) => Lib.run_eql_slice_nil (P := Try.prog) w1 25 3 a n c n' c' Try.underlying25
    go_enter Try.func37, Try.ntmps37
    go_wp2_with fail
    rw [HW.out]
    have cP := HF.out.p
    have cM := HF.out.m
    have cMod := HF.out.mod
    go_wp2_with (first
      | (go_at_call 63; refine (HS _ HB0.out).out.mono ?_; rintro e w1 ⟨rfl, hB1⟩; have hB1' := below_later (Below.refl w0.heap.size w0) (Nat.le_refl _) hB1; have HB1 := Aside0.mk (below_later HB0.out HB0.out.size hB1); have cP1 := (HF.out.below hB1).p; have cM1 := (HF.out.below hB1).m; have cMod1 := (HF.out.below hB1).mod; clear hB1 hB1')
      | (go_at_call 64; (with_reducible refine (HO _).mono ?_); rintro e w2 ⟨rfl, rfl⟩)
      | (go_at_call 65; refine (HG _ HB1.out).out.mono ?_; rintro e w3 ⟨v3, rfl, hN, hB3⟩; obtain ⟨-, rfl⟩ := hN.resolve_right (fun h => h.1 rfl); have HB3 := Aside0.mk (below_later HB1.out HB1.out.size hB3); clear hB3 hN))
    go_ret2
    exact ⟨rfl, HB3.out⟩
end Go.Proofs.Yticgblagimmlfaa

namespace Go.Proofs.Yticgblagimmlfaa
open Go.RowKit Go.Proofs.YticgblagimmlfaaW.PrintWords Go.Proofs.YticgblagimmlfaaW.PrintLast Go.Proofs.YticgblagimmlfaaW.PrintMore
set_option linter.unusedVariables false
set_option linter.unusedSimpArgs false

theorem own_lit0 (w : World) : Own (w.alloc (.cells #[] 3)) w.heap.size (.slice (some ⟨w.heap.size, 0, none⟩) 0 0) [] :=
  ⟨Kd.R_of_own (enc := Value.int .i64) (own_lit_of w w.heap.size 3 ([] : List Int) (Nat.le_refl _) (by simp)) (fun _ _ => trivial)⟩

section
variable {ops : Array Oper} {o : Oper} {a : Act} {Q : Exit → Act → World → Prop} {Kc : Act → World → Prop}
/-- append(own row, a list that is read), in a region of open order. -/
theorem append_list_step {w0 W : World} (hw : Region.wanted o (yielded ops a.tmps) = true) (s x : Operand) (ho : o.op = .call { callee := .builtin .append, args := #[s, x], argTypes := #[25, 25] })
    {base : Nat} {v : Value} {xs ys : List Int} {A : Option Addr} {c : Nat} (hs : a.eval s = v) (hx : a.eval x = .slice A ys.length c) (HO : Own W base v xs) (hbase : base ≤ W.heap.size) (HR : Kd.C (Kd.int .i64) W A ys.length ys) (HB : Below base w0 W) (hl : xs.length + ys.length ≤ 1000000000000)
    (h : ∀ v1 w1, Own w1 base v1 (xs ++ ys) → Below base w0 w1 → W.grownBy w1 v.ownBlock → (v1.ownBlock = v.ownBlock ∨ ∃ b, v1.ownBlock = some b ∧ W.heap.size ≤ b) → Kc (a.put o.dst v1) w1) :
    if Region.wanted o (yielded ops a.tmps) = true then Oper.wp Try.prog o a W Kc Q else Kc (a.put o.dst undef) W := by
  refine Kd.R_append_rows_step (Kd.int .i64) (w0 := w0) base hw s x 25 3 (.int .i64 0) 8 ho Try.underlying25 info3 rfl (by decide) (by omega) v xs ys A ys.length c (fun _ => True) (fun _ => False) hs hx HO.out HR (fun x cs hK => hK) (fun _ hk => hk.elim) (fun _ _ => trivial) HB hbase (by omega) ?_
  intro v1 w1 h1 h2 h3 h4
  exact h v1 w1 ⟨h1⟩ h2 h3 h4
end

theorem own_lit0_at (w : World) (u : Nat) (h : u = w.heap.size) : Own (w.alloc (.cells #[] 3)) u (.slice (some ⟨u, 0, none⟩) 0 0) [] := by subst h; exact own_lit0 w

/-- The new field's block, its log still empty. -/
structure NewS (w3 W : World) (P : Int) (m : Nat) (Mod : List Int) (qn : Nat) (El ge ce g : Nat) : Prop where mk ::
  out : ∃ gl A7 c7, W.heap[g]? = some (.cells #[.int .i64 P, .int .i64 m, .slice A7 Mod.length c7, .int .i64 qn, .slice (some ⟨ge, 0, none⟩) El ce, .slice (some ⟨gl, 0, none⟩) qn qn] 107 (0, 0)) ∧
    Own W w3.heap.size (.slice (some ⟨gl, 0, none⟩) qn qn) (List.replicate qn 0) ∧ Own W w3.heap.size (.slice A7 Mod.length c7) Mod ∧ (∀ k, (Value.slice A7 Mod.length c7).ownBlock = some k → k ≠ gl) ∧ gl ≠ g ∧ w3.heap.size ≤ g ∧ Below w3.heap.size w3 W
theorem own_made (w : World) (q : Nat) (hq : q ≤ 1000) : Own (w.alloc (.cells (madeCells #[.int .i64 0] q) 3)) w.heap.size (.slice (some ⟨w.heap.size, 0, none⟩) q q) (List.replicate q 0) := by
  have h1 := own_lit_of (enc := Value.int .i64) w w.heap.size 3 (List.replicate q (0 : Int)) (Nat.le_refl _) (by simp; omega)
  have h2 : (encs (Value.int .i64) (List.replicate q (0 : Int))).toArray = madeCells #[Value.int .i64 0] q := by
    apply Array.ext
    · simp [encs, madeCells]
    · intro i h3 h4
      simp [encs, madeCells, Nat.mod_one]
  rw [h2, List.length_replicate] at h1
  exact ⟨Kd.R_of_own (enc := Value.int .i64) (by rw [List.length_replicate]; exact h1) (fun _ _ => trivial)⟩

theorem Own.grown {w w1 : World} {base : Nat} {v : Value} {l : List Int} (h : Own w base v l) {row : Option Nat} (hg : w.grownBy w1 row) (hne : ∀ k, v.ownBlock = some k → some k ≠ row) : Own w1 base v l :=
  h.keep fun k hk => hg.block k (by
    obtain ⟨c, hc⟩ := Kd.R_typed h.out k hk
    exact (Array.getElem?_eq_some_iff.1 hc).1) (hne k hk)
theorem log_B (w3 w7 : World) (q : Nat) (hq : q ≤ 1000) (v7 : Value) (hg : (((w3.alloc (.cells #[] 3)).alloc (.cells (madeCells #[.int .i64 0] q) 3)).drew).grownBy w7 (Value.ownBlock (.slice (some ⟨w3.heap.size, 0, none⟩) 0 0)))
    (ha : v7.ownBlock = Value.ownBlock (.slice (some ⟨w3.heap.size, 0, none⟩) 0 0) ∨ ∃ b, v7.ownBlock = some b ∧ (((w3.alloc (.cells #[] 3)).alloc (.cells (madeCells #[.int .i64 0] q) 3)).drew).heap.size ≤ b) :
    Own w7 w3.heap.size (.slice (some ⟨w3.heap.size + 1, 0, none⟩) q q) (List.replicate q 0) ∧ ∀ k, v7.ownBlock = some k → k ≠ w3.heap.size + 1 := by
  have h1 := own_made (w3.alloc (.cells #[] 3)) q hq
  have hsz : (w3.alloc (.cells #[] 3)).heap.size = w3.heap.size + 1 := by simp
  have hsz2 : (((w3.alloc (.cells #[] 3)).alloc (.cells (madeCells #[.int .i64 0] q) 3)).drew).heap.size = w3.heap.size + 2 := by simp
  rw [hsz] at h1
  rw [hsz2] at ha
  refine ⟨((h1.drewN 1).grown hg (fun k hk => ?_)).lower (by omega), fun k hk => ?_⟩
  · intro e
    simp only [Value.ownBlock, Option.some.injEq] at hk e
    omega
  · rcases ha with ha | ⟨b, hb, hb2⟩
    · rw [hk] at ha; simp only [Value.ownBlock, Option.some.injEq] at ha; omega
    · rw [hk] at hb; simp only [Option.some.injEq] at hb; omega
theorem log_C (w3 w7 : World) (q : Nat) (hq : q ≤ 1000) (v7 : Value) (hg : (((w3.alloc (.cells (madeCells #[.int .i64 0] q) 3)).alloc (.cells #[] 3)).drew).grownBy w7 (Value.ownBlock (.slice (some ⟨w3.heap.size + 1, 0, none⟩) 0 0)))
    (ha : v7.ownBlock = Value.ownBlock (.slice (some ⟨w3.heap.size + 1, 0, none⟩) 0 0) ∨ ∃ b, v7.ownBlock = some b ∧ (((w3.alloc (.cells (madeCells #[.int .i64 0] q) 3)).alloc (.cells #[] 3)).drew).heap.size ≤ b) :
    Own w7 w3.heap.size (.slice (some ⟨w3.heap.size, 0, none⟩) q q) (List.replicate q 0) ∧ ∀ k, v7.ownBlock = some k → k ≠ w3.heap.size := by
  have h1 := (own_made w3 q hq).below (below_alloc (Below.refl _ _) (.cells #[] 3))
  have hsz2 : (((w3.alloc (.cells (madeCells #[.int .i64 0] q) 3)).alloc (.cells #[] 3)).drew).heap.size = w3.heap.size + 2 := by simp
  rw [hsz2] at ha
  refine ⟨(h1.drewN 1).grown hg (fun k hk => ?_), fun k hk => ?_⟩
  · intro e
    simp only [Value.ownBlock, Option.some.injEq] at hk e
    omega
  · rcases ha with ha | ⟨b, hb, hb2⟩
    · rw [hk] at ha; simp only [Value.ownBlock, Option.some.injEq] at ha; omega
    · rw [hk] at hb; simp only [Option.some.injEq] at hb; omega
/-- The struct is made behind the log and the copied modulus. -/
theorem newS_last (w3 w7 : World) (P : Int) (m : Nat) (Mod : List Int) (qn El ge ce gl : Nat) (A7 : Option Addr) (c7 : Nat) (hb : Below w3.heap.size w3 w7) (hl : Own w7 w3.heap.size (.slice (some ⟨gl, 0, none⟩) qn qn) (List.replicate qn 0) ∧ ∀ k, (Value.slice A7 Mod.length c7).ownBlock = some k → k ≠ gl)
    (hq : 0 < qn) (ho : Own w7 w3.heap.size (.slice A7 Mod.length c7) Mod) :
    NewS w3 (w7.alloc (.cells #[.int .i64 P, .int .i64 m, .slice A7 Mod.length c7, .int .i64 qn, .slice (some ⟨ge, 0, none⟩) El ce, .slice (some ⟨gl, 0, none⟩) qn qn] 107)) P m Mod qn El ge ce w7.heap.size := by
  have hlt : gl < w7.heap.size := by
    obtain ⟨c, hc⟩ := Kd.R_typed hl.1.out gl rfl
    exact (Array.getElem?_eq_some_iff.1 hc).1
  exact ⟨gl, A7, c7, heap_alloc_new w7 _, hl.1.below (below_alloc (Below.refl _ _) _), ho.below (below_alloc (Below.refl _ _) _), hl.2, by omega, hb.size, below_alloc hb _⟩
theorem newS_A (w3 w7 : World) (P : Int) (m : Nat) (Mod : List Int) (qn El ge ce : Nat) (A7 : Option Addr) (c7 : Nat) (hb : Below w3.heap.size w3 w7) (hq : 0 < qn) (hq2 : qn ≤ 1000) (ho : Own w7 w3.heap.size (.slice A7 Mod.length c7) Mod) :
    NewS w3 ((w7.alloc (.cells (madeCells #[.int .i64 0] qn) 3)).alloc (.cells #[.int .i64 P, .int .i64 m, .slice A7 Mod.length c7, .int .i64 qn, .slice (some ⟨ge, 0, none⟩) El ce, .slice (some ⟨w7.heap.size, 0, none⟩) qn qn] 107)) P m Mod qn El ge ce (w7.heap.size + 1) := by
  have hsz : (w7.alloc (.cells (madeCells #[.int .i64 0] qn) 3)).heap.size = w7.heap.size + 1 := by simp
  have h := newS_last w3 (w7.alloc (.cells (madeCells #[.int .i64 0] qn) 3)) P m Mod qn El ge ce w7.heap.size A7 c7 (below_alloc hb _) ⟨(own_made w7 qn hq2).lower hb.size, fun k hk => by
    obtain ⟨c, hc⟩ := Kd.R_typed ho.out k hk
    have := (Array.getElem?_eq_some_iff.1 hc).1
    omega⟩ hq (ho.below (below_alloc (Below.refl _ _) _))
  rw [hsz] at h
  exact h

set_option maxRecDepth 100000 in
theorem new_good {w : World} {A : Option Addr} {c : Nat} (P : Int) (m : Nat) {Mod : List Int} (hl : Kd.C (Kd.int .i64) w A Mod.length Mod) (hb : fieldOk P m Mod = true) :
    Calls Try.prog 37 #[.agg #[.int .i64 P, .int .i64 m, .slice A Mod.length c]] w fun e w' => ∃ g, e = .returned (.tuple #[.pointer (some ⟨g, 0, none⟩), .int .i64 0]) ∧ GFat w' g (fieldD P m Mod) ∧ w.heap.size ≤ g ∧ Below w.heap.size w w' := by
  have HL := Aside0.mk hl
  have hF0 := FAt.new w P m A Mod.length c
  obtain ⟨w0, hw0⟩ : ∃ w0, w.alloc (.cells #[.int .i64 P, .int .i64 m, .slice A Mod.length c] 27) = w0 := ⟨_, rfl⟩
  have hB0 : Below w.heap.size w w0 := by rw [← hw0]; exact below_alloc (Below.refl _ _) _
  rw [hw0] at hF0
  have HF := Aside0.mk hF0
  have HB0 := Aside0.mk hB0
  have HW := Aside0.mk hw0
  have HS := fun (w1 : World) (hb1 : Below w.heap.size w w1) => Aside0.mk (shape_any (c := c) P m (Kd.C_below hl hb1))
  unfold fieldOk at hb
  rw [Bool.and_eq_true] at hb
  obtain ⟨hs, hne⟩ := hb
  rw [hs] at HS
  obtain ⟨p1, p2, p3, p4, p5, p6, p7, p8, p9, p10⟩ := shapeZ_true P m Mod hs
  rw [Int.toNat_natCast] at p5 p6 p8 hne
  have hne' : genZ P m Mod (P ^ m) ≠ [] := fun e => by rw [e] at hne; simp at hne
  obtain ⟨g1, g2⟩ := genZ_cases P p1 m (by omega) Mod p6 hne'
  have HG := fun (w1 : World) (hb1 : Below w.heap.size w w1) => Aside0.mk (generator_any (c := c) P m (Kd.C_below HL.out hb1) p1 p2 (by omega) (by omega) p6 p8 p9 _ rfl)
  have hD : fieldD P m Mod = { P := P, M := m, Mod := Mod, q := P ^ m, exp := genZ P m Mod (P ^ m), log := setLog (genZ P m Mod (P ^ m)) 0 (List.replicate (P ^ m).toNat 0) } := rfl
  rw [hD]
  obtain ⟨E, hE⟩ : ∃ E, genZ P m Mod (P ^ m) = E := ⟨_, rfl⟩
  rw [hE] at HG hne' g1 g2 ⊢
  have hlM : Mod.length ≤ 8 := by
    by_cases h1 : 1 < m
    · rw [p8 h1]; omega
    · rw [p10 (by omega)]; simp
  obtain ⟨q, hq⟩ : ∃ q, P ^ m = q := ⟨_, rfl⟩
  rw [hq] at p5 p6 HG g1 g2 ⊢
  obtain ⟨qn, hqn⟩ := Int.eq_ofNat_of_zero_le (by omega : 0 ≤ q)
  subst hqn
  have HO := fun (w1 : World) => order_fn P (m : Int) w1
  simp only [p5] at HO
  have hEl : 0 < E.length := List.length_pos_iff.2 hne'
  have HEr := Aside0.mk g2
  clear hs hne hne' hD hE p1 p2 p3 p4 p5 p7 p8 p9 p10 hq hl hw0 hF0 hB0 g2
  rw [Int.toNat_natCast]
  obtain ⟨Lf, hLf⟩ : ∃ L, setLog E 0 (List.replicate qn 0) = L := ⟨_, rfl⟩
  have HLf := Aside0.mk hLf
  rw [hLf]
  have hLl : Lf.length = qn := by rw [← hLf, setLog_length, List.length_replicate]
  have HLl := Aside0.mk hLl
  clear hLf hLl
  have hnil := fun (w1 : World) (a : Option Addr) (n c n' c' : Nat) => Lib.run_eql_slice_nil (P := Try.prog) w1 25 3 a n c n' c' Try.underlying25
  go_enter Try.func37, Try.ntmps37
  go_wp2_with fail
  rw [HW.out]
  have cP := HF.out.p
  have cM := HF.out.m
  have cMod := HF.out.mod
  go_wp2_with (first
    | (go_at_call 63; refine (HS _ HB0.out).out.mono ?_; rintro e w1 ⟨rfl, hB1⟩; have HB01 := Aside0.mk hB1; have HB1 := Aside0.mk (below_later HB0.out HB0.out.size hB1); have cP1 := (HF.out.below hB1).p; have cM1 := (HF.out.below hB1).m; have cMod1 := (HF.out.below hB1).mod; clear hB1)
    | (go_at_call 64; (with_reducible refine (HO _).mono ?_); rintro e w2 ⟨rfl, rfl⟩)
    | (go_at_call 65; refine (HG _ HB1.out).out.mono ?_; rintro e w3 ⟨v3, rfl, hN, hB3⟩; obtain ⟨-, hN⟩ := hN.resolve_left (fun h => by rw [h.1] at hEl; simp at hEl); obtain ⟨ge, ce, ee, hg1, hg2⟩ := hN.form hEl; subst ee; have HN := Aside0.mk hN; have hb03 := below_later HB01.out HB01.out.size hB3; have HB03 := Aside0.mk hb03; have HB3 := Aside0.mk (below_later HB1.out HB1.out.size hB3); have cP3 := (HF.out.below hb03).p; have cM3 := (HF.out.below hb03).m; have cMod3 := (HF.out.below hb03).mod; clear hB3 hN hb03))
  clear hnil cP cM cMod cP1 cM1 cMod1 HO HS HG
  have hmk := fun (W : World) => print_make_of (P := Try.prog) 25 3 (.int .i64 0) 8 Try.underlying25 info3 rfl (by decide) qn (by omega) W
  have HLd := Aside0.mk (Kd.C_below HL.out HB3.out)
  have hlM0 : ([] : List Int).length + Mod.length ≤ 1000000000000 := by simp; omega
  have hq1 : 0 < qn := by omega
  go_cut [6] (fun v6 wc => ∃ g, v6 = .pointer (some ⟨g, 0, none⟩) ∧ NewS w3 wc P m Mod qn E.length ge ce g)
  case first =>
   go_region_held3 (fun w' => w'.cell? ⟨w.heap.size, 0, none⟩ = some (.int .i64 P) ∧ w'.cell? ⟨w.heap.size, 1, none⟩ = some (.int .i64 m) ∧ w'.cell? ⟨w.heap.size, 2, none⟩ = some (.slice A Mod.length c)) (first | exact ⟨‹_›, ‹_›, ‹_›⟩ | go_keep)
    (first
      | (refine append_list_step (w0 := w3) (base := w3.heap.size) (xs := []) (ys := Mod) (by rfl) (.tmp 26) (.tmp 28) rfl rfl rfl ?HO ?hbase ?HR ?HB hlM0 ?_; (case HO => first | exact (own_lit0 _).drewN 1 | exact ((own_lit0 _).below (below_alloc (Below.refl _ _) _)).drewN 1 | exact (((own_lit0_at _ _ (by simp)).lower (by simp)).drewN 1)); (case hbase => first | exact (below_drew (below_alloc (Below.refl _ _) _)).size | exact (below_drew (below_alloc (below_alloc (Below.refl _ _) _) _)).size); (case HR => first | exact Kd.C_below HLd.out (below_drew (below_alloc (Below.refl _ _) _)) | exact Kd.C_below HLd.out (below_drew (below_alloc (below_alloc (Below.refl _ _) _) _))); (case HB => first | exact below_drew (below_alloc (Below.refl _ _) _) | exact below_drew (below_alloc (below_alloc (Below.refl _ _) _) _)); intro v7 w7 hO7 hB7 hg7 ha7; rw [List.nil_append] at hO7; (first | (have HLg := Aside0.mk (log_B w3 w7 qn (by omega) v7 hg7 ha7)) | (have HLg := Aside0.mk (log_C w3 w7 qn (by omega) v7 hg7 ha7)) | (have HLg := Aside0.mk trivial)); clear hg7 ha7; obtain ⟨A7, c7, rfl, hc7, hC7⟩ := hO7.slice; have HC7 := Aside0.mk hC7; clear hC7; have cP7 := pw_cell_below hB7 cP3; have cM7 := pw_cell_below hB7 cM3; have cMod7 := pw_cell_below hB7 cMod3; have HO7 := Aside0.mk hO7; have HB7 := Aside0.mk hB7; clear hO7 hB7))
   all_goals go_wp2
   all_goals go_meet
   case rel => exact ⟨_, rfl, newS_A w3 w7 P m Mod qn E.length ge ce A7 c7 HB7.out hq1 (by omega) HO7.out⟩
   case rel => exact ⟨_, rfl, newS_last w3 w7 P m Mod qn E.length ge ce _ A7 c7 HB7.out HLg.out hq1 HO7.out⟩
   case rel => exact ⟨_, rfl, newS_last w3 w7 P m Mod qn E.length ge ce _ A7 c7 HB7.out HLg.out hq1 HO7.out⟩
  case rest =>
   obtain ⟨g, rfl, HS⟩ := hcut
   obtain ⟨gl, A7, c7, hblk, hol, hom, hdis, hglg, hg3, hbz⟩ := HS.out
   have Hblk := Aside0.mk hblk
   have HOl := Aside0.mk hol
   have HOm := Aside0.mk hom
   have Hdis := Aside0.mk hdis
   have HBz := Aside0.mk hbz
   clear hblk hol hom hdis hbz HS hmk
   go_wp2
   go_loopw [39] (fun v39 w' => ∃ (k : Nat) (L : List Int), v39 = .int .i64 k ∧ k ≤ E.length ∧ Aside0 (L.length = qn) ∧ Aside0 (setLog (E.drop k) k L = Lf) ∧
     Aside0 (w'.heap[g]? = some (.cells #[.int .i64 P, .int .i64 m, .slice A7 Mod.length c7, .int .i64 qn, .slice (some ⟨ge, 0, none⟩) E.length ce, .slice (some ⟨gl, 0, none⟩) qn qn] 107 (0, 0))) ∧
     Aside0 (Own w' w3.heap.size (.slice (some ⟨gl, 0, none⟩) qn qn) L) ∧ Aside0 (Own w' w3.heap.size (.slice A7 Mod.length c7) Mod) ∧ Aside0 (Below w3.heap.size w3 w')) (fun v39 _ => E.length - (intOf v39).toNat)
   case atStart => exact ⟨0, _, rfl, by omega, ⟨List.length_replicate⟩, HLf, Hblk, HOl, HOm, HBz⟩
   case round =>
     clear Hblk HOl HOm HBz HLf
     obtain ⟨k, L, rfl, hk, HLl2, HSt, Hblk, HOl, HOm, HBz⟩ := hrel
     have HNw := HN.out.below HBz.out
     by_cases hlk : k < E.length
     · obtain ⟨hx, -⟩ := HNw.cell k hlk
       obtain ⟨x, hx'⟩ : ∃ x, E.getD k 0 = x := ⟨_, rfl⟩
       rw [hx'] at hx
       have hmem : x ∈ E := by rw [← hx', List.getD_eq_getElem?_getD, List.getElem?_eq_getElem hlk]; exact List.getElem_mem hlk
       obtain ⟨hx0, hx1⟩ := HEr.out x hmem
       obtain ⟨xn, rfl⟩ := Int.eq_ofNat_of_zero_le hx0
       have hxq : xn < qn := by omega
       have hst := HSt.out
       have hdr : E.drop k = (xn : Int) :: E.drop (k + 1) := by
         rw [List.drop_eq_getElem_cons hlk, ← hx']; simp [List.getD_eq_getElem?_getD, hlk]
       rw [hdr] at hst
       simp only [setLog, Int.toNat_natCast] at hst
       have HSt2 := Aside0.mk hst
       obtain ⟨hcl, hfz⟩ := HOl.out.cell' HLl2.out.symm xn hxq
       have c5 : wr.cell? ⟨g, 5, none⟩ = some (.slice (some ⟨gl, 0, none⟩) qn qn) := (blk_cell Hblk.out 5).trans rfl
       have HOl2 := Aside0.mk (HOl.out.set HLl2.out.symm xn (k : Int))
       have HLl3 : Aside0 ((L.set xn (k : Int)).length = qn) := ⟨by rw [List.length_set]; exact HLl2.out⟩
       have Hblk2 := Aside0.mk (blk_far (p := ⟨gl, xn, none⟩) Hblk.out (Ne.symm hglg) (.int .i64 (k : Int)))
       have HOm2 := Aside0.mk (HOm.out.keep (w1 := wr.setCell ⟨gl, xn, none⟩ (.int .i64 (k : Int))) (fun j hj => Below.heap_setCell wr _ _ j (Hdis.out j hj)))
       have HB2 := Aside0.mk (HBz.out.setCell (p := ⟨gl, xn, none⟩) (HOl.out.base_le gl rfl) (.int .i64 (k : Int)))
       clear hx' hmem hst hdr HSt HOl HOm Hblk HNw
       go_wp2
       go_roundw
       case rel => exact ⟨k + 1, _, by go_num, by omega, HLl3, HSt2, Hblk2, HOl2, HOm2, HB2⟩
       case measure => simp [intOf]; omega
     · obtain rfl : k = E.length := by omega
       have hst := HSt.out
       rw [List.drop_length] at hst
       have hst' : L = Lf := hst
       subst hst'
       have hC7 := HOm.out.reads.2
       have hCl := HOl.out.reads.2.2
       have hGF : GFat wr g { P := P, M := m, Mod := Mod, q := qn, exp := E, log := L } := ⟨A7, c7, _, ce, _, qn, (by rw [HLl2.out]; exact Hblk.out), hC7.2, hC7.1, HNw.reads.2.2, hCl⟩
       have HGF := Aside0.mk hGF
       clear hst HSt HNw hC7 hCl hGF
       go_wp2
       go_ret2
       exact ⟨g, rfl, HGF.out, Nat.le_trans HB3.out.size hg3, below_later HB3.out HB3.out.size HBz.out⟩
end Go.Proofs.Yticgblagimmlfaa
