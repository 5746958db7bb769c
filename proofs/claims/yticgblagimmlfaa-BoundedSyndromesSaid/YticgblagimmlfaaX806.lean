/- elements, twice. open, Check. encode, Encode. bounded.word, bounded.marks, bounded.Radius. bounded.result. bounded.codeword. bounded.GRS. same, alive. -/
import Derived.Test.YticgblagimmlfaaX805
import Derived.Deep.CutBlock
import Derived.Test.YticgblagimmlfaaX803
import Derived.Laws.ResultCell
import Derived.Test.YticgblagimmlfaaX801
namespace Go.Proofs.Yticgblagimmlfaa
open Go.RowKit Go.Proofs.YticgblagimmlfaaW.PrintWords Go.Proofs.YticgblagimmlfaaW.PrintLast Go.Proofs.YticgblagimmlfaaW.PrintMore
set_option linter.unusedVariables false
set_option linter.unusedSimpArgs false

theorem all_take_succ (f : Int → Bool) (l : List Int) (k : Nat) (h : k < l.length) : (l.take (k + 1)).all f = ((l.take k).all f && f (l.getD k 0)) := by
  rw [take_succ_rd l k h]; simp
theorem all_of_take (f : Int → Bool) (l : List Int) (k : Nat) (h : (l.take k).all f = false) : l.all f = false := by
  cases e : l.all f with
  | false => rfl
  | true =>
    rw [List.all_eq_true] at e
    have : (l.take k).all f = true := List.all_eq_true.2 fun x hx => e x (List.mem_of_mem_take hx)
    rw [this] at h; cases h

theorem elements_any {g : Nat} {D : GFD} {w : World} (h : GFat w g D) {A : Option Addr} {c : Nat} {l : List Int} (hl : Kd.C (Kd.int .i64) w A l.length l) :
    Calls Try.prog 98 #[.pointer (some ⟨g, 0, none⟩), .slice A l.length c] w fun e w' => e = .returned (.bool (l.all D.is)) ∧ Drawn0 w w' := by
  have H := Aside0.mk h
  have HL := Aside0.mk hl
  have hm := Kd.C_max hl
  obtain ⟨R, hR⟩ : ∃ R, l.all D.is = R := ⟨_, rfl⟩
  rw [hR]
  have HR := Aside0.mk hR
  clear h hl hR
  go_enter Try.func98, Try.ntmps98
  go_wp2
  go_loopw [9] (fun v9 w' => ∃ k : Nat, v9 = .int .i64 k ∧ k ≤ l.length ∧ Aside0 ((l.take k).all D.is = true) ∧ Drawn0 w w') (fun v9 _ => l.length - (intOf v9).toNat)
  case atStart => exact ⟨0, rfl, by omega, ⟨rfl⟩, Drawn0.refl _⟩
  case round =>
    obtain ⟨k, rfl, hk, HT, hd⟩ := hrel
    by_cases hlk : k < l.length
    · obtain ⟨ad, e, hx⟩ := C_nat (Kd.C_below HL.out hd.below) k hlk
      cases e
      have hs := all_take_succ D.is l k hlk
      obtain ⟨x, hx'⟩ : ∃ x, l.getD k 0 = x := ⟨_, rfl⟩
      rw [hx'] at hx hs
      rw [HT.out, Bool.true_and] at hs
      have HI := fun (w1 : World) (h1 : Drawn0 wr w1) => Aside0.mk (is_any (H.out.drawn (Drawn0.trans hd h1)) x)
      cases hb : D.is x with
      | true =>
        rw [hb] at HI hs
        have HT2 := Aside0.mk hs
        clear hx' hs HT hb
        go_wp2_with (go_at_call 66; refine (HI _ ?side1).out.mono ?_; (case side1 => repeat (first | exact Drawn0.refl _ | apply Drawn0.step)); rintro e w' ⟨rfl, ⟨n, rfl⟩⟩)
        go_roundw
        case rel => exact ⟨k + 1, by go_num, by omega, HT2, hd.step _⟩
        case measure => simp [intOf]; omega
      | false =>
        rw [hb] at HI hs
        have hf := all_of_take D.is l (k + 1) hs
        have hRf : false = R := by rw [← HR.out]; exact hf.symm
        subst hRf
        clear hx' hs HT hb hf HR
        go_wp2_with (go_at_call 66; refine (HI _ ?side1).out.mono ?_; (case side1 => repeat (first | exact Drawn0.refl _ | apply Drawn0.step)); rintro e w' ⟨rfl, ⟨n, rfl⟩⟩)
        go_ret
        exact ⟨rfl, hd.step _⟩
    · obtain rfl : k = l.length := by omega
      rw [List.take_length] at HT
      have hRt : true = R := by rw [← HR.out]; exact HT.out.symm
      subst hRt
      clear HT HR
      go_wp2
      go_ret
      exact ⟨rfl, hd⟩

theorem twice_any {w : World} {A : Option Addr} {c : Nat} {l : List Int} (hl : Kd.C (Kd.int .i64) w A l.length l) (hc : l.length ≤ c) :
    Calls Try.prog 99 #[.slice A l.length c] w fun e w' => e = .returned (.bool (decide (¬ l.Nodup))) ∧ w = w' := by
  have HL := Aside0.mk hl
  have hm := Kd.C_max hl
  obtain ⟨R, hR⟩ : ∃ R, decide (¬ l.Nodup) = R := ⟨_, rfl⟩
  rw [hR]
  have HR := Aside0.mk hR
  clear hl hR
  go_enter Try.func99, Try.ntmps99
  go_wp2
  go_loop [9] (fun v9 => ∃ k : Nat, v9 = .int .i64 k ∧ k ≤ l.length ∧ Aside0 ((l.take k).Nodup)) (fun v9 => l.length - (intOf v9).toNat)
  case atStart => exact ⟨0, rfl, by omega, ⟨List.nodup_nil⟩⟩
  case round =>
    obtain ⟨k, rfl, hk, HT⟩ := hrel
    by_cases hlk : k < l.length
    · obtain ⟨ad, e, hx⟩ := C_nat HL.out k hlk
      cases e
      obtain ⟨x, hx'⟩ : ∃ x, l.getD k 0 = x := ⟨_, rfl⟩
      rw [hx'] at hx
      have HX := Aside0.mk hx'
      obtain ⟨i0, hi, _, hsz, _⟩ := info_parts info3
      have hcut := cut_to (P := Try.prog) 25 3 .i64 Try.underlying25 hi (some ad) l.length c (k : Int) (by omega) (by omega) hc
      rw [Int.toNat_natCast] at hcut
      clear hx' hi hsz
      go_wp2
      go_loop [18] (fun v18 => ∃ j : Nat, v18 = .int .i64 j ∧ j ≤ k ∧ Aside0 (x ∉ l.take j)) (fun v18 => k - (intOf v18).toNat)
      case atStart => exact ⟨0, rfl, by omega, ⟨by simp⟩⟩
      case round =>
        obtain ⟨j, rfl, hj, HN⟩ := hrel
        by_cases hlj : j < k
        · obtain ⟨ad2, e2, hy⟩ := C_nat HL.out j (by omega)
          cases e2
          obtain ⟨y, hy'⟩ : ∃ y, l.getD j 0 = y := ⟨_, rfl⟩
          rw [hy'] at hy
          by_cases hxy : x = y
          · have hmem : x ∈ l.take k := by rw [hxy, ← hy']; exact mem_take_getD l k j hlj hk
            have hnn : ¬ l.Nodup := nodup_of_take l (k + 1) (by rw [nodup_take_succ_iff l k hlk, HX.out]; exact fun h => h.2 hmem)
            have hRt : true = R := by rw [← HR.out]; simp [hnn]
            subst hRt hxy
            clear hy' hmem hnn HR HN
            go_wp2
            go_ret
            exact ⟨rfl, rfl⟩
          · have hxb : (x == y) = false := by simp [hxy]
            have HN2 : Aside0 (x ∉ l.take (j + 1)) := ⟨by
              rw [take_succ_rd l j (by omega), hy']
              simp only [List.mem_append, List.mem_singleton, not_or]
              exact ⟨HN.out, hxy⟩⟩
            clear hy' hxy HN
            go_wp2
            go_round
            case rel => exact ⟨j + 1, by go_num, by omega, HN2⟩
            case measure => simp [intOf]; omega
        · obtain rfl : j = k := by omega
          have HT2 : Aside0 ((l.take (j + 1)).Nodup) := ⟨by rw [nodup_take_succ_iff l j hlk, HX.out]; exact ⟨HT.out, HN.out⟩⟩
          clear HN
          go_wp2
          go_round
          case rel => exact ⟨j + 1, by go_num, by omega, HT2⟩
          case measure => simp [intOf]; omega
    · obtain rfl : k = l.length := by omega
      rw [List.take_length] at HT
      have hRf : false = R := by rw [← HR.out]; simp [HT.out]
      subst hRf
      clear HR HT
      go_wp2
      go_ret
      exact ⟨rfl, rfl⟩
end Go.Proofs.Yticgblagimmlfaa

namespace Go.Proofs.Yticgblagimmlfaa
open Go.RowKit Go.Proofs.YticgblagimmlfaaW.PrintWords Go.Proofs.YticgblagimmlfaaW.PrintLast Go.Proofs.YticgblagimmlfaaW.PrintMore
set_option linter.unusedVariables false
set_option linter.unusedSimpArgs false

/-- A description of a code, as a value. -/
structure GArg (w : World) (v : Value) (s : GD) : Prop where mk ::
  out : ∃ A1 c1 A2 c2 A3 c3, v = .agg #[.int .i64 s.P, .int .i64 s.M, .slice A1 s.Mod.length c1, .int .i64 s.K, .slice A2 s.pts.length c2, .slice A3 s.mults.length c3] ∧
    Kd.C (Kd.int .i64) w A1 s.Mod.length s.Mod ∧ s.Mod.length ≤ c1 ∧ Kd.C (Kd.int .i64) w A2 s.pts.length s.pts ∧ s.pts.length ≤ c2 ∧ Kd.C (Kd.int .i64) w A3 s.mults.length s.mults ∧ s.mults.length ≤ c3
theorem GArg.below {w w1 : World} {v : Value} {s : GD} (h : GArg w v s) (hb : Below w.heap.size w w1) : GArg w1 v s := by
  obtain ⟨A1, c1, A2, c2, A3, c3, e, h1, l1, h2, l2, h3, l3⟩ := h.out
  exact ⟨A1, c1, A2, c2, A3, c3, e, Kd.C_below h1 hb, l1, Kd.C_below h2 hb, l2, Kd.C_below h3 hb, l3⟩

/-- What open gives beside the error. -/
def OpenRes (w : World) (base : Nat) (v : Value) (s : GD) : Prop := (s.open ≠ 0 ∧ v = .pointer none) ∨ (s.open = 0 ∧ ∃ g, v = .pointer (some ⟨g, 0, none⟩) ∧ GFat w g s.D ∧ base ≤ g)
theorem OpenRes.bad {w : World} {base : Nat} {s : GD} (h : s.open ≠ 0) : OpenRes w base (.pointer none) s := .inl ⟨h, rfl⟩
theorem OpenRes.good {w : World} {base g : Nat} {s : GD} (h : s.open = 0) (hg : GFat w g s.D) (hb : base ≤ g) : OpenRes w base (.pointer (some ⟨g, 0, none⟩)) s := .inr ⟨h, g, rfl, hg, hb⟩

/-- The boxed description. -/
structure SAt (w : World) (b : Nat) (s : GD) (A1 : Option Addr) (c1 : Nat) (A2 : Option Addr) (c2 : Nat) (A3 : Option Addr) (c3 : Nat) : Prop where
  p : w.cell? ⟨b, 0, none⟩ = some (.int .i64 s.P)
  m : w.cell? ⟨b, 1, none⟩ = some (.int .i64 s.M)
  mod : w.cell? ⟨b, 2, none⟩ = some (.slice A1 s.Mod.length c1)
  k : w.cell? ⟨b, 3, none⟩ = some (.int .i64 s.K)
  pts : w.cell? ⟨b, 4, none⟩ = some (.slice A2 s.pts.length c2)
  mults : w.cell? ⟨b, 5, none⟩ = some (.slice A3 s.mults.length c3)
theorem SAt.below {w w1 : World} {b : Nat} {s : GD} {A1 A2 A3 : Option Addr} {c1 c2 c3 : Nat} (h : SAt w b s A1 c1 A2 c2 A3 c3) (hb : Below w.heap.size w w1) : SAt w1 b s A1 c1 A2 c2 A3 c3 :=
  ⟨pw_cell_below hb h.p, pw_cell_below hb h.m, pw_cell_below hb h.mod, pw_cell_below hb h.k, pw_cell_below hb h.pts, pw_cell_below hb h.mults⟩
theorem SAt.new (w : World) (s : GD) (A1 : Option Addr) (c1 : Nat) (A2 : Option Addr) (c2 : Nat) (A3 : Option Addr) (c3 : Nat) :
    SAt (w.alloc (.cells #[.int .i64 s.P, .int .i64 s.M, .slice A1 s.Mod.length c1, .int .i64 s.K, .slice A2 s.pts.length c2, .slice A3 s.mults.length c3] 29)) w.heap.size s A1 c1 A2 c2 A3 c3 :=
  ⟨(blk_cell (heap_alloc_new w _) 0).trans rfl, (blk_cell (heap_alloc_new w _) 1).trans rfl, (blk_cell (heap_alloc_new w _) 2).trans rfl, (blk_cell (heap_alloc_new w _) 3).trans rfl, (blk_cell (heap_alloc_new w _) 4).trans rfl, (blk_cell (heap_alloc_new w _) 5).trans rfl⟩

theorem shapeZ_nat (P M : Int) (Mod : List Int) (h : fieldOk P M Mod = true) : ∃ m : Nat, M = m := by
  unfold fieldOk at h
  rw [Bool.and_eq_true] at h
  have := shapeZ_true P M Mod h.1
  exact Int.eq_ofNat_of_zero_le (by omega)

set_option maxRecDepth 100000 in
theorem open_bad1 {w : World} {v : Value} {s : GD} (h : GArg w v s) (hb : fieldOk s.P s.M s.Mod = false) :
    Calls Try.prog 62 #[v] w fun e w' => e = .returned (.tuple #[.pointer none, .int .i64 1]) ∧ Below w.heap.size w w' := by
  obtain ⟨A1, c1, A2, c2, A3, c3, rfl, h1, l1, h2, l2, h3, l3⟩ := h.out
  have hS0 := SAt.new w s A1 c1 A2 c2 A3 c3
  obtain ⟨w0, hw0⟩ : ∃ w0, w.alloc (.cells #[.int .i64 s.P, .int .i64 s.M, .slice A1 s.Mod.length c1, .int .i64 s.K, .slice A2 s.pts.length c2, .slice A3 s.mults.length c3] 29) = w0 := ⟨_, rfl⟩
  have hB0 : Below w.heap.size w w0 := by rw [← hw0]; exact below_alloc (Below.refl _ _) _
  rw [hw0] at hS0
  have HS := Aside0.mk hS0
  have HB0 := Aside0.mk hB0
  have HW := Aside0.mk hw0
  have HN := Aside0.mk (new_bad (c := c1) s.P s.M (Kd.C_below h1 hB0) hb)
  clear h h1 h2 h3 hS0 hB0 hw0 hb
  go_enter Try.func62, Try.ntmps62
  go_wp2_with fail
  rw [HW.out]
  have cP := HS.out.p
  have cM := HS.out.m
  have cMod := HS.out.mod
  have cPts := HS.out.pts
  go_wp2_with (go_at_call 37; refine HN.out.mono ?_; rintro e w1 ⟨rfl, hB1⟩; have HB1 := Aside0.mk (below_later HB0.out HB0.out.size hB1); have cP1 := (HS.out.below hB1).p; have cPts1 := (HS.out.below hB1).pts; clear hB1)
  go_ret2
  exact ⟨rfl, HB1.out⟩

set_option maxRecDepth 100000 in
theorem open_rest {w : World} {v : Value} {s : GD} (h : GArg w v s) (hb : fieldOk s.P s.M s.Mod = true) :
    Calls Try.prog 62 #[v] w fun e w' => ∃ pv, e = .returned (.tuple #[pv, .int .i64 s.open]) ∧ OpenRes w' w.heap.size pv s ∧ Below w.heap.size w w' := by
  obtain ⟨A1, c1, A2, c2, A3, c3, rfl, h1, l1, h2, l2, h3, l3⟩ := h.out
  have hS0 := SAt.new w s A1 c1 A2 c2 A3 c3
  obtain ⟨w0, hw0⟩ : ∃ w0, w.alloc (.cells #[.int .i64 s.P, .int .i64 s.M, .slice A1 s.Mod.length c1, .int .i64 s.K, .slice A2 s.pts.length c2, .slice A3 s.mults.length c3] 29) = w0 := ⟨_, rfl⟩
  have hB0 : Below w.heap.size w w0 := by rw [← hw0]; exact below_alloc (Below.refl _ _) _
  rw [hw0] at hS0
  have HS := Aside0.mk hS0
  have HB0 := Aside0.mk hB0
  have HW := Aside0.mk hw0
  obtain ⟨m, hm⟩ := shapeZ_nat _ _ _ hb
  have hng := new_good (c := c1) s.P m (Kd.C_below h1 hB0) (by rw [← hm]; exact hb)
  have hDm : s.D = fieldD s.P m s.Mod := by unfold GD.D; rw [hm]; rfl
  rw [← hDm, ← hm] at hng
  have HN := Aside0.mk hng
  have HP := Aside0.mk h2
  have HMu := Aside0.mk h3
  have hmp := Kd.C_max h2
  have hmm := Kd.C_max h3
  obtain ⟨R, hR⟩ : ∃ R, s.open = R := ⟨_, rfl⟩
  have hop := hR
  unfold GD.open at hop
  rw [if_neg (by rw [hb]; simp)] at hop
  rw [hR]
  have HOe := Aside0.mk hR
  clear h h1 h2 h3 hS0 hB0 hw0 hb hng hDm hm hR
  by_cases c1' : s.pts.length < 1 ∨ 64 < s.pts.length
  · rw [if_pos c1'] at hop
    subst hop
    have HOp : Aside0 (s.open ≠ 0) := ⟨by rw [HOe.out]; decide⟩
    by_cases c0 : s.pts.length < 1
    · clear c1'
      go_enter Try.func62, Try.ntmps62
      go_wp2_with fail
      rw [HW.out]
      have cP := HS.out.p
      have cM := HS.out.m
      have cMod := HS.out.mod
      have cPts := HS.out.pts
      have cMul := HS.out.mults
      have cK := HS.out.k
      go_wp2_with (first | (go_at_call 37; refine HN.out.mono ?_; rintro e w1 ⟨g, rfl, hG, hgg, hB1⟩; have HG := Aside0.mk hG; have HB1 := Aside0.mk (below_later HB0.out HB0.out.size hB1); have hS1 := HS.out.below hB1; have cP1 := hS1.p; have cPts1 := hS1.pts; have cMul1 := hS1.mults; have cK1 := hS1.k; have hgw := Nat.le_trans HB0.out.size hgg; clear hB1 hG hS1))
      go_ret2
      exact ⟨_, rfl, OpenRes.bad HOp.out, HB1.out⟩
    · have c0' : 64 < s.pts.length := by omega
      clear c1'
      go_enter Try.func62, Try.ntmps62
      go_wp2_with fail
      rw [HW.out]
      have cP := HS.out.p
      have cM := HS.out.m
      have cMod := HS.out.mod
      have cPts := HS.out.pts
      have cMul := HS.out.mults
      have cK := HS.out.k
      go_wp2_with (first | (go_at_call 37; refine HN.out.mono ?_; rintro e w1 ⟨g, rfl, hG, hgg, hB1⟩; have HG := Aside0.mk hG; have HB1 := Aside0.mk (below_later HB0.out HB0.out.size hB1); have hS1 := HS.out.below hB1; have cP1 := hS1.p; have cPts1 := hS1.pts; have cMul1 := hS1.mults; have cK1 := hS1.k; have hgw := Nat.le_trans HB0.out.size hgg; clear hB1 hG hS1))
      go_ret2
      exact ⟨_, rfl, OpenRes.bad HOp.out, HB1.out⟩
  · rw [if_neg c1'] at hop
    have n1 : 1 ≤ s.pts.length := by omega
    have n2 : s.pts.length ≤ 64 := by omega
    clear c1'
    by_cases c2' : s.mults.length ≠ s.pts.length
    · rw [if_pos c2'] at hop
      subst hop
      have HOp : Aside0 (s.open ≠ 0) := ⟨by rw [HOe.out]; decide⟩
      have hne : ((s.mults.length : Int) != (s.pts.length : Int)) = true := by simp only [bne_iff_ne]; omega
      clear c2'
      go_enter Try.func62, Try.ntmps62
      go_wp2_with fail
      rw [HW.out]
      have cP := HS.out.p
      have cM := HS.out.m
      have cMod := HS.out.mod
      have cPts := HS.out.pts
      have cMul := HS.out.mults
      have cK := HS.out.k
      go_wp2_with (first | (go_at_call 37; refine HN.out.mono ?_; rintro e w1 ⟨g, rfl, hG, hgg, hB1⟩; have HG := Aside0.mk hG; have HB1 := Aside0.mk (below_later HB0.out HB0.out.size hB1); have hS1 := HS.out.below hB1; have cP1 := hS1.p; have cPts1 := hS1.pts; have cMul1 := hS1.mults; have cK1 := hS1.k; have hgw := Nat.le_trans HB0.out.size hgg; clear hB1 hG hS1))
      go_ret2
      exact ⟨_, rfl, OpenRes.bad HOp.out, HB1.out⟩
    · rw [if_neg c2'] at hop
      have hne : ((s.mults.length : Int) != (s.pts.length : Int)) = false := by simp; omega
      have hlm : s.mults.length ≤ s.pts.length := by omega
      have hlm2 : s.pts.length ≤ s.mults.length := by omega
      clear c2'
      cases he : s.pts.all s.D.is with
      | false =>
        rw [he, if_pos rfl] at hop
        subst hop
        have HOp : Aside0 (s.open ≠ 0) := ⟨by rw [HOe.out]; decide⟩
        have HEp := Aside0.mk he
        clear he
        go_enter Try.func62, Try.ntmps62
        go_wp2_with fail
        rw [HW.out]
        have cP := HS.out.p
        have cM := HS.out.m
        have cMod := HS.out.mod
        have cPts := HS.out.pts
        have cMul := HS.out.mults
        have cK := HS.out.k
        go_wp2_with (first | (go_at_call 37; refine HN.out.mono ?_; rintro e w1 ⟨g, rfl, hG, hgg, hB1⟩; have HG := Aside0.mk hG; have HB1 := Aside0.mk (below_later HB0.out HB0.out.size hB1); have hS1 := HS.out.below hB1; have cP1 := hS1.p; have cPts1 := hS1.pts; have cMul1 := hS1.mults; have cK1 := hS1.k; have hgw := Nat.le_trans HB0.out.size hgg; clear hB1 hG hS1) | (go_at_call 98; (with_reducible refine (elements_any (l := s.pts) HG.out (Kd.C_below HP.out HB1.out)).mono ?_); rw [HEp.out]; rintro e w2 ⟨rfl, ⟨n2, rfl⟩⟩))
        go_ret2
        exact ⟨_, rfl, OpenRes.bad HOp.out, pw_below_drewN HB1.out _⟩
      | true =>
        rw [he, if_neg (by simp)] at hop
        have HEp := Aside0.mk he
        clear he
        cases hf : s.mults.all s.D.is with
        | false =>
          rw [hf, if_pos rfl] at hop
          subst hop
          have HOp : Aside0 (s.open ≠ 0) := ⟨by rw [HOe.out]; decide⟩
          have HEm := Aside0.mk hf
          clear hf
          go_enter Try.func62, Try.ntmps62
          go_wp2_with fail
          rw [HW.out]
          have cP := HS.out.p
          have cM := HS.out.m
          have cMod := HS.out.mod
          have cPts := HS.out.pts
          have cMul := HS.out.mults
          have cK := HS.out.k
          go_wp2_with (first | (go_at_call 37; refine HN.out.mono ?_; rintro e w1 ⟨g, rfl, hG, hgg, hB1⟩; have HG := Aside0.mk hG; have HB1 := Aside0.mk (below_later HB0.out HB0.out.size hB1); have hS1 := HS.out.below hB1; have cP1 := hS1.p; have cPts1 := hS1.pts; have cMul1 := hS1.mults; have cK1 := hS1.k; have hgw := Nat.le_trans HB0.out.size hgg; clear hB1 hG hS1) | (go_at_call 98; (with_reducible refine (elements_any (l := s.pts) HG.out (Kd.C_below HP.out HB1.out)).mono ?_); rw [HEp.out]; rintro e w2 ⟨rfl, ⟨n2, rfl⟩⟩) | (go_at_call 98; (with_reducible refine (elements_any (l := s.mults) (HG.out.drewN _) (Kd.C_below HMu.out (pw_below_drewN HB1.out _))).mono ?_); rw [HEm.out]; rintro e w2 ⟨rfl, ⟨n3, rfl⟩⟩))
          go_ret2
          exact ⟨_, rfl, OpenRes.bad HOp.out, pw_below_drewN HB1.out _⟩
        | true =>
          rw [hf, if_neg (by simp)] at hop
          have HEm := Aside0.mk hf
          clear hf
          by_cases ht : ¬ s.pts.Nodup
          · rw [if_pos ht] at hop
            subst hop
            have HOp : Aside0 (s.open ≠ 0) := ⟨by rw [HOe.out]; decide⟩
            have HTw : Aside0 (decide (¬ s.pts.Nodup) = true) := ⟨by simp [ht]⟩
            clear ht
            go_enter Try.func62, Try.ntmps62
            go_wp2_with fail
            rw [HW.out]
            have cP := HS.out.p
            have cM := HS.out.m
            have cMod := HS.out.mod
            have cPts := HS.out.pts
            have cMul := HS.out.mults
            have cK := HS.out.k
            go_wp2_with (first | (go_at_call 37; refine HN.out.mono ?_; rintro e w1 ⟨g, rfl, hG, hgg, hB1⟩; have HG := Aside0.mk hG; have HB1 := Aside0.mk (below_later HB0.out HB0.out.size hB1); have hS1 := HS.out.below hB1; have cP1 := hS1.p; have cPts1 := hS1.pts; have cMul1 := hS1.mults; have cK1 := hS1.k; have hgw := Nat.le_trans HB0.out.size hgg; clear hB1 hG hS1) | (go_at_call 98; (with_reducible refine (elements_any (l := s.pts) HG.out (Kd.C_below HP.out HB1.out)).mono ?_); rw [HEp.out]; rintro e w2 ⟨rfl, ⟨n2, rfl⟩⟩) | (go_at_call 98; (with_reducible refine (elements_any (l := s.mults) (HG.out.drewN _) (Kd.C_below HMu.out (pw_below_drewN HB1.out _))).mono ?_); rw [HEm.out]; rintro e w2 ⟨rfl, ⟨n3, rfl⟩⟩) | (go_at_call 99; (with_reducible refine (twice_any (l := s.pts) (Kd.C_below HP.out (pw_below_drewN HB1.out _)) l2).mono ?_); rw [HTw.out]; rintro e w2 ⟨rfl, rfl⟩))
            go_ret2
            exact ⟨_, rfl, OpenRes.bad HOp.out, pw_below_drewN HB1.out _⟩
          · rw [if_neg ht] at hop
            have HTw : Aside0 (decide (¬ s.pts.Nodup) = false) := ⟨by simp at ht ⊢; exact ht⟩
            have HOp2 := Aside0.mk hop
            clear ht hop
            go_enter Try.func62, Try.ntmps62
            go_wp2_with fail
            rw [HW.out]
            have cP := HS.out.p
            have cM := HS.out.m
            have cMod := HS.out.mod
            have cPts := HS.out.pts
            have cMul := HS.out.mults
            have cK := HS.out.k
            go_wp2_with (first | (go_at_call 37; refine HN.out.mono ?_; rintro e w1 ⟨g, rfl, hG, hgg, hB1⟩; have HG := Aside0.mk hG; have HB1 := Aside0.mk (below_later HB0.out HB0.out.size hB1); have hS1 := HS.out.below hB1; have cP1 := hS1.p; have cPts1 := hS1.pts; have cMul1 := hS1.mults; have cK1 := hS1.k; have hgw := Nat.le_trans HB0.out.size hgg; clear hB1 hG hS1) | (go_at_call 98; (with_reducible refine (elements_any (l := s.pts) HG.out (Kd.C_below HP.out HB1.out)).mono ?_); rw [HEp.out]; rintro e w2 ⟨rfl, ⟨n2, rfl⟩⟩) | (go_at_call 98; (with_reducible refine (elements_any (l := s.mults) (HG.out.drewN _) (Kd.C_below HMu.out (pw_below_drewN HB1.out _))).mono ?_); rw [HEm.out]; rintro e w2 ⟨rfl, ⟨n3, rfl⟩⟩) | (go_at_call 99; (with_reducible refine (twice_any (l := s.pts) (Kd.C_below HP.out (pw_below_drewN HB1.out _)) l2).mono ?_); rw [HTw.out]; rintro e w2 ⟨rfl, rfl⟩))
            have HMw := Aside0.mk (Kd.C_below HMu.out (pw_below_drewN HB1.out (n2 + n3)))
            go_loop [53] (fun v53 => ∃ k : Nat, v53 = .int .i64 k ∧ k ≤ s.mults.length ∧ Aside0 ((0 : Int) ∉ s.mults.take k)) (fun v53 => s.mults.length - (intOf v53).toNat)
            case atStart => exact ⟨0, rfl, by omega, ⟨by simp⟩⟩
            case round =>
              obtain ⟨k, rfl, hk, HN0⟩ := hrel
              by_cases hlk : k < s.mults.length
              · obtain ⟨ad, e, hx⟩ := C_nat HMw.out k hlk
                cases e
                obtain ⟨x, hx'⟩ : ∃ x, s.mults.getD k 0 = x := ⟨_, rfl⟩
                rw [hx'] at hx
                by_cases hx0 : x = 0
                · have hmem : (0 : Int) ∈ s.mults := by
                    rw [← hx0, ← hx', List.getD_eq_getElem?_getD, List.getElem?_eq_getElem hlk]
                    exact List.getElem_mem hlk
                  have hop := HOp2.out
                  rw [if_pos hmem] at hop
                  subst hop hx0
                  have HOp : Aside0 (s.open ≠ 0) := ⟨by rw [HOe.out]; decide⟩
                  clear hmem hx' HOp2 HN0
                  go_wp2
                  go_ret2
                  exact ⟨_, rfl, OpenRes.bad HOp.out, pw_below_drewN HB1.out _⟩
                · have hxb : (x == 0) = false := by simp [hx0]
                  have HN1 : Aside0 ((0 : Int) ∉ s.mults.take (k + 1)) := ⟨by
                    rw [take_succ_rd _ k hlk, hx']
                    simp only [List.mem_append, List.mem_singleton, not_or]
                    exact ⟨HN0.out, fun e => hx0 e.symm⟩⟩
                  clear hx0 hx' HN0
                  go_wp2
                  go_round
                  case rel => exact ⟨k + 1, by go_num, by omega, HN1⟩
                  case measure => simp [intOf]; omega
              · obtain rfl : k = s.mults.length := by omega
                have hop := HOp2.out
                have hn0 := HN0.out
                rw [List.take_length] at hn0
                rw [if_neg hn0] at hop
                clear HOp2 HN0 hn0
                by_cases hK : s.K < 0
                · rw [if_pos hK] at hop
                  subst hop
                  have HOp : Aside0 (s.open ≠ 0) := ⟨by rw [HOe.out]; decide⟩
                  go_wp2
                  go_ret2
                  exact ⟨_, rfl, OpenRes.bad HOp.out, pw_below_drewN HB1.out _⟩
                · rw [if_neg hK] at hop
                  by_cases hK2 : (s.pts.length : Int) < s.K
                  · rw [if_pos hK2] at hop
                    subst hop
                    have HOp : Aside0 (s.open ≠ 0) := ⟨by rw [HOe.out]; decide⟩
                    go_wp2
                    go_ret2
                    exact ⟨_, rfl, OpenRes.bad HOp.out, pw_below_drewN HB1.out _⟩
                  · rw [if_neg hK2] at hop
                    subst hop
                    go_wp2
                    go_ret2
                    exact ⟨_, rfl, OpenRes.good HOe.out (HG.out.drewN _) hgw, pw_below_drewN HB1.out _⟩

theorem open_any {w : World} {v : Value} {s : GD} (h : GArg w v s) :
    Calls Try.prog 62 #[v] w fun e w' => ∃ pv, e = .returned (.tuple #[pv, .int .i64 s.open]) ∧ OpenRes w' w.heap.size pv s ∧ Below w.heap.size w w' := by
  cases hb : fieldOk s.P s.M s.Mod with
  | true => exact open_rest h hb
  | false =>
    have ho : s.open = 1 := by unfold GD.open; rw [if_pos hb]
    rw [ho]
    exact (open_bad1 h hb).mono fun e w' ⟨he, hB⟩ => ⟨_, he, OpenRes.bad (by rw [ho]; decide), hB⟩

theorem grsCheck_any {w : World} {v : Value} {s : GD} (h : GArg w v s) :
    Calls Try.prog 36 #[v] w fun e w' => e = .returned (.int .i64 s.open) ∧ Below w.heap.size w w' := by
  have H := h
  obtain ⟨A1, c1, A2, c2, A3, c3, rfl, -⟩ := h.out
  have HO := fun (w1 : World) (hb : Below w.heap.size w w1) => Aside0.mk (open_any (H.below hb))
  clear h H
  go_enter Try.func36, Try.ntmps36
  go_wp2_with (go_at_call 62; refine (HO _ (below_alloc (Below.refl _ _) _)).out.mono ?_; rintro e w1 ⟨pv, rfl, hr, hB⟩; have HB1 := Aside0.mk (below_later (below_alloc (Below.refl _ _) _) (below_alloc (Below.refl _ _) _).size hB); clear hr hB)
  go_ret
  exact ⟨rfl, HB1.out⟩
end Go.Proofs.Yticgblagimmlfaa

namespace Go.Proofs.Yticgblagimmlfaa
open Go.RowKit Go.Proofs.YticgblagimmlfaaW.PrintWords Go.Proofs.YticgblagimmlfaaW.PrintLast Go.Proofs.YticgblagimmlfaaW.PrintMore
set_option linter.unusedVariables false
set_option linter.unusedSimpArgs false

set_option maxRecDepth 100000 in
theorem encode_any {g : Nat} {w : World} {v : Value} {s : GD} {D : GFD} (hg : GFat w g D) (hD : D.ok) (h : GArg w v s) (hlen : s.mults.length = s.pts.length) (hb : s.pts.length ≤ 1000) {A : Option Addr} {c : Nat} {msg : List Int} (hm : Kd.C (Kd.int .i64) w A msg.length msg) :
    Calls Try.prog 107 #[.pointer (some ⟨g, 0, none⟩), v, .slice A msg.length c] w fun e w' => ∃ v', e = .returned v' ∧ Own w' w.heap.size v' (encZ D s.pts s.mults msg) ∧ Below w.heap.size w w' := by
  obtain ⟨A1, c1, A2, c2, A3, c3, rfl, h1, l1, h2, l2, h3, l3⟩ := h.out
  have hS0 := SAt.new w s A1 c1 A2 c2 A3 c3
  obtain ⟨w0, hw0⟩ : ∃ w0, w.alloc (.cells #[.int .i64 s.P, .int .i64 s.M, .slice A1 s.Mod.length c1, .int .i64 s.K, .slice A2 s.pts.length c2, .slice A3 s.mults.length c3] 29) = w0 := ⟨_, rfl⟩
  have hB0 : Below w.heap.size w w0 := by rw [← hw0]; exact below_alloc (Below.refl _ _) _
  rw [hw0] at hS0
  have HS := Aside0.mk hS0
  have HB0 := Aside0.mk hB0
  have HW := Aside0.mk hw0
  have HG := Aside0.mk (hg.below hB0)
  have HP := Aside0.mk (Kd.C_below h2 hB0)
  have HMu := Aside0.mk (Kd.C_below h3 hB0)
  have HMs := Aside0.mk (Kd.C_below hm hB0)
  obtain ⟨T, hT⟩ : ∃ T, encZ D s.pts s.mults msg = T := ⟨_, rfl⟩
  rw [hT]
  have hTl : T.length = s.pts.length := by rw [← hT]; unfold encZ; simp [hlen]
  obtain ⟨F, hF⟩ : ∃ F : Int → Int → Int, (fun _ c => c) = F := ⟨_, rfl⟩
  obtain ⟨n, hn⟩ : ∃ n, s.pts.length = n := ⟨_, rfl⟩
  obtain ⟨Z, hZ⟩ : ∃ Z : List Int, List.replicate n 0 = Z := ⟨_, rfl⟩
  have hZl : Z.length = n := by rw [← hZ]; simp
  have HT := Aside0.mk hT
  have HTl := Aside0.mk hTl
  have HF := Aside0.mk hF
  have HZ := Aside0.mk hZ
  have HZl := Aside0.mk hZl
  have HLen := Aside0.mk hlen
  have HNn := Aside0.mk hn
  clear h h1 h2 h3 hm hg hS0 hB0 hw0 hT hTl hF hZ hZl hlen hn
  go_enter Try.func107, Try.ntmps107
  go_upto_region 1 with (fail)
  rw [HW.out]
  have cPts := HS.out.pts
  go_wp2_with ((with_reducible refine gate_dst (N := 13) rfl ?_); refine make_own (n := s.pts.length) rfl (N := 13) rfl _ _ rfl rfl rfl (by omega) ?_; intro v1 w1 hO hB; rw [HNn.out, HZ.out] at hO; have HO := Aside0.mk hO; have HB := Aside0.mk hB; have cPts1 := (HS.out.below hB).pts; clear hO hB)
  clear cPts cPts1
  go_loopw [17] (fun v17 w' => ∃ k : Nat, v17 = .int .i64 k ∧ k ≤ s.pts.length ∧ Aside0 (Own w' w0.heap.size v1 (updZ F Z (T.take k))) ∧ Aside0 (Below w0.heap.size w0 w')) (fun v17 _ => s.pts.length - (intOf v17).toNat)
  case atStart => exact ⟨0, rfl, by omega, ⟨by simpa [updZ_nil] using HO.out⟩, HB⟩
  case round =>
    clear HO HB
    obtain ⟨k, rfl, hk, HO, HB⟩ := hrel
    have hlen : (updZ F Z (T.take k)).length = s.pts.length := by rw [updZ_length, HZl.out]; exact HNn.out.symm
    by_cases hlk : k < s.pts.length
    · obtain ⟨ad, e, hx⟩ := C_nat (Kd.C_below HP.out HB.out) k hlk
      cases e
      have hlm : k < s.mults.length := by rw [HLen.out]; exact hlk
      obtain ⟨ad2, e, hy⟩ := C_nat (Kd.C_below HMu.out HB.out) k hlm
      cases e
      have hget := encZ_getD D s.pts s.mults msg k hlk hlm
      rw [HT.out] at hget
      obtain ⟨x, hx'⟩ : ∃ x, s.pts.getD k 0 = x := ⟨_, rfl⟩
      obtain ⟨y, hy'⟩ : ∃ y, s.mults.getD k 0 = y := ⟨_, rfl⟩
      rw [hx'] at hx hget
      rw [hy'] at hy hget
      have hstep := updZ_set F 0 k Z T (by rw [HTl.out]; exact hlk) (by rw [HZl.out, ← HNn.out]; exact hlk)
      rw [hget, show F (Z.getD k 0) (D.mul y (D.eval msg x)) = D.mul y (D.eval msg x) from by rw [← HF.out]] at hstep
      obtain ⟨gb, cap, e, hg1, hg2⟩ := HO.out.form (by omega)
      rw [hlen] at e
      subst e
      have HO2 := Aside0.mk (HO.out.set hlen.symm k (D.mul y (D.eval msg x)))
      rw [hstep] at HO2
      obtain ⟨hcl, hfz⟩ := HO.out.cell' hlen.symm k hlk
      have HGr := Aside0.mk (HG.out.below HB.out)
      have HMr := Aside0.mk (Kd.C_below HMs.out HB.out)
      have cMul := (HS.out.below HB.out).mults
      clear hget hx' hy' hstep hlen HO
      go_wp2
      refine wp_region_quiet_tail 14 (by kernel_rfl) (by kernel_rfl) ?_
      simp only [List.take_succ_cons, List.take_zero, List.drop_succ_cons, List.drop_zero]
      repeat (first | go_big_quiet_step (first | (go_at_call 92; exact quiet_d (eval_any (HGr.out.drewN _) hD (Kd.C_drewN HMr.out _) _)) | (go_at_call 79; exact quiet_d (mul_any (HGr.out.drewN _) hD _ _))) | quiet_step (first | (go_at_call 92; exact quiet_d (eval_any (HGr.out.drewN _) hD (Kd.C_drewN HMr.out _) _)) | (go_at_call 79; exact quiet_d (mul_any (HGr.out.drewN _) hD _ _))))
      refine wpQuiet_nil ?_
      intro _ hw'
      obtain ⟨nq, hw''⟩ := hw'
      subst hw''
      go_wp2
      go_roundw
      case rel => exact ⟨k + 1, by go_num, by omega, ⟨HO2.out.drewN _⟩, ⟨pw_below_drewN (HB.out.setCell (p := ⟨gb, k, none⟩) hg1 _) _⟩⟩
      case measure => simp [intOf]; omega
    · obtain rfl : k = s.pts.length := by omega
      have hfin : updZ F Z (T.take s.pts.length) = T := by
        rw [List.take_of_length_le (by rw [HTl.out]; exact Nat.le_refl _), ← HF.out]
        exact updZ_const Z T (by rw [HZl.out, HTl.out, HNn.out])
      rw [hfin] at HO
      clear hlen hfin
      go_wp2
      go_ret
      exact ⟨_, rfl, HO.out.lower HB0.out.size, below_later HB0.out HB0.out.size HB.out⟩

theorem open_facts (s : GD) (h : s.open = 0) : fieldOk s.P s.M s.Mod = true ∧ 1 ≤ s.pts.length ∧ s.pts.length ≤ 64 ∧ s.mults.length = s.pts.length ∧ s.pts.all s.D.is = true ∧ s.mults.all s.D.is = true ∧ s.pts.Nodup ∧ (0 : Int) ∉ s.mults ∧ 0 ≤ s.K ∧ s.K ≤ s.pts.length := by
  unfold GD.open at h
  by_cases h1 : fieldOk s.P s.M s.Mod = false
  · rw [if_pos h1] at h; cases h
  rw [if_neg h1] at h
  by_cases h2 : s.pts.length < 1 ∨ 64 < s.pts.length
  · rw [if_pos h2] at h; cases h
  rw [if_neg h2] at h
  by_cases h3 : s.mults.length ≠ s.pts.length
  · rw [if_pos h3] at h; cases h
  rw [if_neg h3] at h
  by_cases h4 : s.pts.all s.D.is = false
  · rw [if_pos h4] at h; cases h
  rw [if_neg h4] at h
  by_cases h5 : s.mults.all s.D.is = false
  · rw [if_pos h5] at h; cases h
  rw [if_neg h5] at h
  by_cases h6 : ¬ s.pts.Nodup
  · rw [if_pos h6] at h; cases h
  rw [if_neg h6] at h
  by_cases h7 : (0 : Int) ∈ s.mults
  · rw [if_pos h7] at h; cases h
  rw [if_neg h7] at h
  by_cases h8 : s.K < 0
  · rw [if_pos h8] at h; cases h
  rw [if_neg h8] at h
  by_cases h9 : (s.pts.length : Int) < s.K
  · rw [if_pos h9] at h; cases h
  exact ⟨by simpa using h1, by omega, by omega, by omega, by simpa using h4, by simpa using h5, Classical.not_not.1 h6, h7, by omega, by omega⟩

theorem rdz_range (l : List Int) (q : Int) (hq : 0 < q) (h : ∀ x ∈ l, 0 ≤ x ∧ x < q) (i : Int) : 0 ≤ rdz l i ∧ rdz l i < q := by
  unfold rdz
  rw [List.getD_eq_getElem?_getD]
  cases e : l[i.toNat]? with
  | none => simp; exact hq
  | some x => exact h x (List.mem_of_getElem? e)
theorem setLog_range (q : Int) : ∀ (exp : List Int) (n : Nat) (log : List Int), 0 < q → (n : Int) + exp.length ≤ q → (∀ x ∈ log, 0 ≤ x ∧ x < q) → ∀ x ∈ setLog exp n log, 0 ≤ x ∧ x < q
  | [], _, _, _, _, h => h
  | y :: exp, n, log, hq, hl, h => by
    simp only [List.length_cons] at hl
    refine setLog_range q exp (n + 1) _ hq (by omega) (fun x hx => ?_)
    rcases List.mem_or_eq_of_mem_set hx with hx | hx
    · exact h x hx
    · omega
theorem fieldD_ok (P : Int) (m : Nat) (Mod : List Int) (h : fieldOk P m Mod = true) : (fieldD P m Mod).ok := by
  unfold fieldOk at h
  rw [Bool.and_eq_true] at h
  obtain ⟨hs, hne⟩ := h
  obtain ⟨p1, p2, p3, p4, p5, p6, p7, p8, p9, p10⟩ := shapeZ_true P m Mod hs
  rw [Int.toNat_natCast] at p5 p6 p8 hne
  have hne' : genZ P m Mod (P ^ m) ≠ [] := fun e => by rw [e] at hne; simp at hne
  obtain ⟨g1, g2⟩ := genZ_cases P p1 m (by omega) Mod p6 hne'
  have h2 : 2 ≤ P ^ m := by
    have := pow_le_pow P p1 1 m (by omega)
    rw [Int.pow_one] at this
    omega
  refine ⟨h2, p6, p1, p2, ?_, ?_, fun i => ?_, fun i => ?_⟩
  · show (genZ P m Mod (P ^ m)).length = _
    show _ = (P ^ m - 1).toNat
    omega
  · show (setLog _ 0 _).length = (P ^ m).toNat
    rw [setLog_length, List.length_replicate]
  · have := rdz_range _ (P ^ m - 1) (by omega) (setLog_range (P ^ m - 1) (genZ P m Mod (P ^ m)) 0 (List.replicate (P ^ m).toNat 0) (by omega) (by omega) (fun x hx => by rw [List.eq_of_mem_replicate hx]; omega)) i
    exact this
  · exact rdz_range _ (P ^ m) (by omega) g2 i
theorem GD.D_ok (s : GD) (h : s.open = 0) : s.D.ok := by
  obtain ⟨h1, -⟩ := open_facts s h
  obtain ⟨m, hm⟩ := shapeZ_nat _ _ _ h1
  unfold GD.D
  rw [hm, Int.toNat_natCast]
  exact fieldD_ok s.P m s.Mod (by rw [← hm]; exact h1)

/-- A row, or an error. -/
def ErrOr (w : World) (base : Nat) (v : Value) (r : List Int × Int) : Prop := (r.2 ≠ 0 ∧ v = .slice none 0 0) ∨ (r.2 = 0 ∧ Own w base v r.1)
theorem ErrOr.err {w : World} {base : Nat} {r : List Int × Int} (h : r.2 ≠ 0) : ErrOr w base (.slice none 0 0) r := .inl ⟨h, rfl⟩
theorem ErrOr.val {w : World} {base : Nat} {v : Value} {r : List Int × Int} (h : r.2 = 0) (ho : Own w base v r.1) : ErrOr w base v r := .inr ⟨h, ho⟩

set_option maxRecDepth 100000 in
theorem Encode_any {w : World} {v : Value} {s : GD} (h : GArg w v s) {A : Option Addr} {c : Nat} {msg : List Int} (hm : Kd.C (Kd.int .i64) w A msg.length msg) :
    Calls Try.prog 69 #[v, .slice A msg.length c] w fun e w' => ∃ v', e = .returned (.tuple #[v', .int .i64 (s.encode msg).2]) ∧ ErrOr w' w.heap.size v' (s.encode msg) ∧ Below w.heap.size w w' := by
  obtain ⟨A1, c1, A2, c2, A3, c3, rfl, h1, l1, h2, l2, h3, l3⟩ := h.out
  have hS0 := SAt.new w s A1 c1 A2 c2 A3 c3
  obtain ⟨w0, hw0⟩ : ∃ w0, w.alloc (.cells #[.int .i64 s.P, .int .i64 s.M, .slice A1 s.Mod.length c1, .int .i64 s.K, .slice A2 s.pts.length c2, .slice A3 s.mults.length c3] 29) = w0 := ⟨_, rfl⟩
  have hB0 : Below w.heap.size w w0 := by rw [← hw0]; exact below_alloc (Below.refl _ _) _
  rw [hw0] at hS0
  have HS := Aside0.mk hS0
  have HB0 := Aside0.mk hB0
  have HW := Aside0.mk hw0
  have HO := fun (w1 : World) (hb : Below w.heap.size w w1) => Aside0.mk (open_any (h.below hb))
  have HAr := Aside0.mk h
  have HMs := Aside0.mk (Kd.C_below hm hB0)
  have hmx := Kd.C_max hm
  by_cases ho : s.open ≠ 0
  · have e : s.encode msg = ([], s.open) := by unfold GD.encode; rw [if_pos ho]
    rw [e]
    obtain ⟨o, hoo⟩ : ∃ o, s.open = o := ⟨_, rfl⟩
    simp only [hoo] at HO ⊢
    rw [hoo] at ho
    have hob : (o == 0) = false := by simp [ho]
    have hob2 : (o != 0) = true := by simp [ho]
    clear h h1 h2 h3 hm hS0 hB0 hw0 e hoo ho
    go_enter Try.func69, Try.ntmps69
    go_upto_region 1 with (fail)
    rw [HW.out]
    have cP := HS.out.p
    have cM := HS.out.m
    have cMod := HS.out.mod
    have cK := HS.out.k
    have cPts := HS.out.pts
    have cMul := HS.out.mults
    go_wp2_with (go_at_call 62; refine (HO _ HB0.out).out.mono ?_; rintro e w1 ⟨pv, rfl, hr, hB⟩; have HB1 := Aside0.mk (below_later HB0.out HB0.out.size hB); clear hr hB)
    go_ret2
    exact ⟨_, rfl, ErrOr.err (by simpa using hob2), HB1.out⟩
  · have ho0 : s.open = 0 := Classical.not_not.1 ho
    obtain ⟨f1, f2, f3, f4, f5, f6, f7, f8, f9, f10⟩ := open_facts s ho0
    have hDok := s.D_ok ho0
    have HO' := fun (w1 : World) (hb : Below w.heap.size w w1) => Aside0.mk (show Calls Try.prog 62 _ w1 _ from (HO w1 hb).out)
    simp only [ho0] at HO'
    by_cases hK : (msg.length : Int) ≠ s.K
    · have e : s.encode msg = ([], 3) := by unfold GD.encode; rw [if_neg ho, if_pos hK]
      rw [e]
      have hkb : ((msg.length : Int) != s.K) = true := by simp [hK]
      clear h h1 h2 h3 hm hS0 hB0 hw0 e ho HO hK f1 f2 f3 f4 f5 f6 f7 f8
      go_enter Try.func69, Try.ntmps69
      go_upto_region 1 with (fail)
      rw [HW.out]
      have cP := HS.out.p
      have cM := HS.out.m
      have cMod := HS.out.mod
      have cK := HS.out.k
      have cPts := HS.out.pts
      have cMul := HS.out.mults
      go_wp2_with (go_at_call 62; refine (HO' _ HB0.out).out.mono ?_; rintro e w1 ⟨pv, rfl, hr, hB⟩; have HB1 := Aside0.mk (below_later HB0.out HB0.out.size hB); have cK1 := (HS.out.below hB).k; clear hr hB)
      go_ret2
      exact ⟨_, rfl, ErrOr.err (show _ ≠ _ by decide), HB1.out⟩
    · have hkb : ((msg.length : Int) != s.K) = false := by simpa using hK
      cases hel : msg.all s.D.is with
      | false =>
        have e : s.encode msg = ([], 2) := by unfold GD.encode; rw [if_neg ho, if_neg hK, if_pos hel]
        rw [e]
        have HEl := Aside0.mk hel
        have HO0 := Aside0.mk ho0
        clear h h1 h2 h3 hm hS0 hB0 hw0 e ho HO hK f1 f2 f3 f4 f5 f6 f7 f8 hel ho0
        go_enter Try.func69, Try.ntmps69
        go_upto_region 1 with (fail)
        rw [HW.out]
        have cP := HS.out.p
        have cM := HS.out.m
        have cMod := HS.out.mod
        have cK := HS.out.k
        have cPts := HS.out.pts
        have cMul := HS.out.mults
        go_wp2_with (first
          | (go_at_call 62; refine (HO' _ HB0.out).out.mono ?_; rintro e w1 ⟨pv, rfl, hr, hB⟩; obtain ⟨-, g, rfl, hg, hgb⟩ := hr.resolve_left (fun h => h.1 HO0.out); have HG := Aside0.mk hg; have HM1 := Aside0.mk (Kd.C_below HMs.out hB); have HB1 := Aside0.mk (below_later HB0.out HB0.out.size hB); have cK1 := (HS.out.below hB).k; clear hr hB hg)
          | (go_at_call 98; (with_reducible refine (elements_any (l := msg) HG.out HM1.out).mono ?_); rw [HEl.out]; rintro e w2 ⟨rfl, ⟨n2, rfl⟩⟩))
        go_ret2
        exact ⟨_, rfl, ErrOr.err (show _ ≠ _ by decide), pw_below_drewN HB1.out _⟩
      | true =>
        have e : s.encode msg = (encZ s.D s.pts s.mults msg, 0) := by unfold GD.encode; rw [if_neg ho, if_neg hK, if_neg (by rw [hel]; simp)]
        rw [e]
        have HEl := Aside0.mk hel
        have HO0 := Aside0.mk ho0
        have HF4 := Aside0.mk f4
        clear h h1 h2 h3 hm hS0 hB0 hw0 e ho HO hK f1 f2 f4 f5 f6 f7 f8 hel ho0
        go_enter Try.func69, Try.ntmps69
        go_upto_region 1 with (fail)
        rw [HW.out]
        have cP := HS.out.p
        have cM := HS.out.m
        have cMod := HS.out.mod
        have cK := HS.out.k
        have cPts := HS.out.pts
        have cMul := HS.out.mults
        go_wp2_with (first
          | (go_at_call 62; refine (HO' _ HB0.out).out.mono ?_; rintro e w1 ⟨pv, rfl, hr, hB⟩; obtain ⟨-, g, rfl, hg, hgb⟩ := hr.resolve_left (fun h => h.1 HO0.out); have HG := Aside0.mk hg; have HM1 := Aside0.mk (Kd.C_below HMs.out hB); have HB1 := Aside0.mk (below_later HB0.out HB0.out.size hB); have hS1 := HS.out.below hB; have cP1 := hS1.p; have cM1 := hS1.m; have cMod1 := hS1.mod; have cK1 := hS1.k; have cPts1 := hS1.pts; have cMul1 := hS1.mults; have HA1 := Aside0.mk (HAr.out.below HB1.out); clear hr hB hg hS1)
          | (go_at_call 98; (with_reducible refine (elements_any (l := msg) HG.out HM1.out).mono ?_); rw [HEl.out]; rintro e w2 ⟨rfl, ⟨n2, rfl⟩⟩)
          | (go_at_call 107; refine (encode_any (s := s) (HG.out.drewN _) hDok (HA1.out.below (pw_below_drewN (Below.refl _ _) _)) HF4.out (by omega) (Kd.C_drewN HM1.out _)).mono ?_; rintro e w3 ⟨v', rfl, hO3, hB3⟩; have HO3 := Aside0.mk hO3; have HB3 := Aside0.mk hB3; clear hO3 hB3))
        go_ret2
        exact ⟨_, rfl, ErrOr.val rfl (HO3.out.lower HB1.out.size), below_later (pw_below_drewN HB1.out _) (pw_below_drewN HB1.out _).size HB3.out⟩
end Go.Proofs.Yticgblagimmlfaa

namespace Go.Proofs.Yticgblagimmlfaa
open Go.RowKit Go.Proofs.YticgblagimmlfaaW.PrintWords Go.Proofs.YticgblagimmlfaaW.PrintLast Go.Proofs.YticgblagimmlfaaW.PrintMore
set_option linter.unusedVariables false
set_option linter.unusedSimpArgs false

theorem word_any {g : Nat} {D : GFD} {w : World} (h : GFat w g D) {A B : Option Addr} {c d : Nat} {l er : List Int} (n : Nat) (hn : n ≤ 1000) (hl : Kd.C (Kd.int .i64) w A l.length l) (he : Kd.C (Kd.int .i64) w B er.length er) :
    Calls Try.prog 38 #[.pointer (some ⟨g, 0, none⟩), .slice A l.length c, .int .i64 n, .slice B er.length d] w fun e w' => e = .returned (.int .i64 (wordZ D l n er)) ∧ Below w.heap.size w w' := by
  have H := Aside0.mk h
  have HL := Aside0.mk hl
  have HE := Aside0.mk he
  have hm := Kd.C_max hl
  have hm2 := Kd.C_max he
  obtain ⟨R, hR⟩ : ∃ R, wordZ D l n er = R := ⟨_, rfl⟩
  rw [hR]
  unfold wordZ at hR
  by_cases h1 : l.length ≠ n
  · rw [if_pos h1] at hR
    subst hR
    have hb : ((l.length : Int) != (n : Int)) = true := by simp only [bne_iff_ne, ne_eq]; omega
    have hB := Below.refl w.heap.size w
    clear h hl he
    go_enter Try.func38, Try.ntmps38
    go_wp2
    go_ret
    exact ⟨rfl, hB⟩
  rw [if_neg h1] at hR
  have h1' : l.length = n := Classical.not_not.1 h1
  have hb : ((l.length : Int) != (n : Int)) = false := by simp [h1']
  have HR := Aside0.mk hR
  have HN := Aside0.mk h1'
  clear h hl he hR h1 h1'
  go_enter Try.func38, Try.ntmps38
  go_wp2
  go_loopw [22] (fun v22 w' => ∃ k : Nat, v22 = .int .i64 k ∧ k ≤ l.length ∧ Aside0 ((l.take k).all D.is = true) ∧ Drawn0 w w') (fun v22 _ => l.length - (intOf v22).toNat)
  case atStart => exact ⟨0, rfl, by omega, ⟨rfl⟩, Drawn0.refl _⟩
  case round =>
    obtain ⟨k, rfl, hk, HT, hd⟩ := hrel
    by_cases hlk : k < l.length
    · obtain ⟨ad, e, hx⟩ := C_nat (Kd.C_below HL.out hd.below) k hlk
      cases e
      have hs := all_take_succ D.is l k hlk
      obtain ⟨x, hx'⟩ : ∃ x, l.getD k 0 = x := ⟨_, rfl⟩
      rw [hx'] at hx hs
      rw [HT.out, Bool.true_and] at hs
      have HI := fun (w1 : World) (h1 : Drawn0 wr w1) => Aside0.mk (is_any (H.out.drawn (Drawn0.trans hd h1)) x)
      cases hb : D.is x with
      | true =>
        rw [hb] at HI hs
        have HT2 := Aside0.mk hs
        clear hx' hs HT hb
        go_wp2_with (go_at_call 66; refine (HI _ ?side1).out.mono ?_; (case side1 => repeat (first | exact Drawn0.refl _ | apply Drawn0.step)); rintro e w' ⟨rfl, ⟨n, rfl⟩⟩)
        go_roundw
        case rel => exact ⟨k + 1, by go_num, by omega, HT2, hd.step _⟩
        case measure => simp [intOf]; omega
      | false =>
        rw [hb] at HI hs
        have hf := all_of_take D.is l (k + 1) hs
        have hRf : (2 : Int) = R := by rw [← HR.out, if_pos hf]
        subst hRf
        clear hx' hs HT hb hf HR
        go_wp2_with (go_at_call 66; refine (HI _ ?side1).out.mono ?_; (case side1 => repeat (first | exact Drawn0.refl _ | apply Drawn0.step)); rintro e w' ⟨rfl, ⟨n, rfl⟩⟩)
        go_ret
        exact ⟨rfl, (hd.step _).below⟩
    · obtain rfl : k = l.length := by omega
      rw [List.take_length] at HT
      have hR2 := HR.out
      rw [if_neg (by rw [HT.out]; simp)] at hR2
      have HB := Aside0.mk hd.below
      have HR2 := Aside0.mk hR2
      clear HR hR2 HT hd
      go_wp2
      go_loop [33] (fun v33 => ∃ k : Nat, v33 = .int .i64 k ∧ k ≤ er.length ∧ Aside0 ((er.take k).all (posB n) = true)) (fun v33 => er.length - (intOf v33).toNat)
      case atStart => exact ⟨0, rfl, by omega, ⟨rfl⟩⟩
      case round =>
        obtain ⟨k, rfl, hk, HT⟩ := hrel
        by_cases hlk : k < er.length
        · obtain ⟨ad, e, hx⟩ := C_nat (Kd.C_below HE.out HB.out) k hlk
          cases e
          have hs := all_take_succ (posB n) er k hlk
          obtain ⟨x, hx'⟩ : ∃ x, er.getD k 0 = x := ⟨_, rfl⟩
          rw [hx'] at hx hs
          rw [HT.out, Bool.true_and] at hs
          by_cases hp : 0 ≤ x ∧ x < n
          · have hq : posB n x = true := by unfold posB; rw [decide_eq_true hp]
            rw [hq] at hs
            have HT2 := Aside0.mk hs
            obtain ⟨hp1, hp2⟩ := hp
            clear hx' hs HT hq
            go_wp2
            go_round
            case rel => exact ⟨k + 1, by go_num, by omega, HT2⟩
            case measure => simp [intOf]; omega
          · have hq : posB n x = false := by unfold posB; rw [decide_eq_false hp]
            rw [hq] at hs
            have hf := all_of_take _ er (k + 1) hs
            have hRf : (6 : Int) = R := by rw [← HR2.out, if_pos hf]
            subst hRf
            clear hx' hs HT hq hf HR2
            by_cases hx0 : x < 0
            · clear hp
              go_wp2
              go_ret
              exact ⟨rfl, HB.out⟩
            · have hx1 : (n : Int) ≤ x := by omega
              clear hp
              go_wp2
              go_ret
              exact ⟨rfl, HB.out⟩
        · obtain rfl : k = er.length := by omega
          rw [List.take_length] at HT
          have hR3 := HR2.out
          rw [if_neg (by rw [HT.out]; simp)] at hR3
          have HR3 := Aside0.mk hR3
          clear HR2 hR3
          go_wp2_with ((with_reducible refine gate_dst (N := 46) rfl ?_); refine make_ownb (n := n) rfl (N := 46) rfl _ _ rfl rfl rfl (by omega) ?_; intro v w2 hO hB; have HO := Aside0.mk (hO.lower HB.out.size); have HB2 := Aside0.mk (below_later HB.out HB.out.size hB); clear hO hB)
          go_loopw [49] (fun v49 w' => ∃ (k : Nat) (S : List Bool), v49 = .int .i64 k ∧ k ≤ er.length ∧ Aside0 (SeenIs S n (er.take k)) ∧ Aside0 ((er.take k).Nodup) ∧ Aside0 (OwnB w' w.heap.size v S) ∧ Aside0 (Below w.heap.size w w')) (fun v49 _ => er.length - (intOf v49).toNat)
          case atStart => exact ⟨0, _, rfl, by omega, ⟨SeenIs.start n⟩, ⟨List.nodup_nil⟩, HO, HB2⟩
          case round =>
            clear HO HB2 HB
            obtain ⟨k, S, rfl, hk, HS, HNd, HO, HB⟩ := hrel
            by_cases hlk : k < er.length
            · obtain ⟨ad, e, hx⟩ := C_nat (Kd.C_below HE.out HB.out) k hlk
              cases e
              have hpos : posB n (er.getD k 0) = true := by
                refine List.all_eq_true.1 HT.out _ ?_
                rw [List.getD_eq_getElem?_getD, List.getElem?_eq_getElem hlk]
                exact List.getElem_mem hlk
              have hns := nodup_take_succ_iff er k hlk
              have hts := take_succ_rd er k hlk
              obtain ⟨z, hx'⟩ : ∃ x, er.getD k 0 = x := ⟨_, rfl⟩
              rw [hx'] at hx hpos hns hts
              obtain ⟨hp1, hp2⟩ := of_decide_eq_true hpos
              obtain ⟨y, rfl⟩ := Int.eq_ofNat_of_zero_le hp1
              have hyn : y < n := by omega
              have hSl := HS.out.1
              obtain ⟨s, cs, es, hs1, hs2⟩ := HO.out.form (by omega)
              rw [hSl] at es
              subst es
              obtain ⟨hcs, hfs⟩ := HO.out.cell' hSl.symm y hyn
              by_cases hin : (y : Int) ∈ er.take k
              · have hnn : ¬ er.Nodup := nodup_of_take er (k + 1) (by rw [hns]; exact fun h => h.2 hin)
                have hRf : (18 : Int) = R := by rw [← HR3.out, if_pos hnn]
                subst hRf
                have hrd : S.getD y false = true := (HS.out.2 y hyn).2 hin
                rw [hrd] at hcs
                clear hx' hpos hns hts hin hnn HR3 hrd HS hp1 hp2 hSl
                go_wp2
                go_ret
                exact ⟨rfl, HB.out⟩
              · have hrd : S.getD y false = false := HS.out.no y hyn hin
                rw [hrd] at hcs
                have HO2 := Aside0.mk (HO.out.set hSl.symm y true)
                have hnew := HS.out.step y hyn
                rw [← hts] at hnew
                have HS2 := Aside0.mk hnew
                have HN2 := Aside0.mk (hns.2 ⟨HNd.out, hin⟩)
                clear hx' hpos hns hts hin hrd HS hp1 hp2 hSl hnew HO HNd
                go_wp2
                go_roundw
                case rel => exact ⟨k + 1, _, by go_num, by omega, HS2, HN2, HO2, ⟨HB.out.setCell (p := ⟨s, y, none⟩) hs1 _⟩⟩
                case measure => simp [intOf]; omega
            · obtain rfl : k = er.length := by omega
              rw [List.take_length] at HNd
              have hR4 := HR3.out
              rw [if_neg (fun h => h HNd.out)] at hR4
              subst hR4
              clear HS HNd HO HR3
              go_wp2
              go_ret
              exact ⟨rfl, HB.out⟩

theorem marks_eq {S : List Bool} {n : Nat} {er : List Int} (h : SeenIs S n er) : S = marksZ n er := by
  refine List.ext_getElem (by rw [h.1, marksZ_length]) (fun i h1 h2 => ?_)
  have h3 := h.2 i (by rw [← h.1]; exact h1)
  have h4 := marksZ_getD n er i (by rw [← h.1]; exact h1)
  rw [List.getD_eq_getElem?_getD, List.getElem?_eq_getElem h1] at h3
  rw [List.getD_eq_getElem?_getD, List.getElem?_eq_getElem h2] at h4
  simp only [Option.getD_some] at h3 h4
  rw [h4]
  cases e : S[i] with
  | true => rw [e] at h3; simp [h3.1 rfl]
  | false =>
    rw [e] at h3
    exact (decide_eq_false (fun hm => by have := h3.2 hm; cases this)).symm
theorem marks_any {w : World} {B : Option Addr} {d : Nat} {er : List Int} (n : Nat) (hn : n ≤ 1000) (he : Kd.C (Kd.int .i64) w B er.length er) (hp : er.all (posB n) = true) :
    Calls Try.prog 40 #[.int .i64 n, .slice B er.length d] w fun e w' => ∃ v, e = .returned v ∧ OwnB w' w.heap.size v (marksZ n er) ∧ Below w.heap.size w w' := by
  have HE := Aside0.mk he
  have hm2 := Kd.C_max he
  have HT := Aside0.mk hp
  have HB := Aside0.mk (Below.refl w.heap.size w)
  obtain ⟨R, hR⟩ : ∃ R, marksZ n er = R := ⟨_, rfl⟩
  rw [hR]
  have HR := Aside0.mk hR
  clear hR he hp
  go_enter Try.func40, Try.ntmps40
  go_wp2_with ((with_reducible refine gate_dst (N := 9) rfl ?_); refine make_ownb (n := n) rfl (N := 9) rfl _ _ rfl rfl rfl (by omega) ?_; intro v w2 hO hB; have HO := Aside0.mk (hO.lower HB.out.size); have HB2 := Aside0.mk (below_later HB.out HB.out.size hB); clear hO hB)
  go_loopw [12] (fun v49 w' => ∃ (k : Nat) (S : List Bool), v49 = .int .i64 k ∧ k ≤ er.length ∧ Aside0 (SeenIs S n (er.take k)) ∧ Aside0 (OwnB w' w.heap.size v S) ∧ Aside0 (Below w.heap.size w w')) (fun v49 _ => er.length - (intOf v49).toNat)
  case atStart => exact ⟨0, _, rfl, by omega, ⟨SeenIs.start n⟩, HO, HB2⟩
  case round =>
    clear HO HB2 HB
    obtain ⟨k, S, rfl, hk, HS, HO, HB⟩ := hrel
    by_cases hlk : k < er.length
    · obtain ⟨ad, e, hx⟩ := C_nat (Kd.C_below HE.out HB.out) k hlk
      cases e
      have hpos : posB n (er.getD k 0) = true := by
        refine List.all_eq_true.1 HT.out _ ?_
        rw [List.getD_eq_getElem?_getD, List.getElem?_eq_getElem hlk]
        exact List.getElem_mem hlk
      have hts := take_succ_rd er k hlk
      obtain ⟨z, hx'⟩ : ∃ x, er.getD k 0 = x := ⟨_, rfl⟩
      rw [hx'] at hx hpos hts
      obtain ⟨hp1, hp2⟩ := of_decide_eq_true hpos
      obtain ⟨y, rfl⟩ := Int.eq_ofNat_of_zero_le hp1
      have hyn : y < n := by omega
      have hSl := HS.out.1
      obtain ⟨s, cs, es, hs1, hs2⟩ := HO.out.form (by omega)
      rw [hSl] at es
      subst es
      obtain ⟨hcs, hfs⟩ := HO.out.cell' hSl.symm y hyn
      have HO2 := Aside0.mk (HO.out.set hSl.symm y true)
      have hnew := HS.out.step y hyn
      rw [← hts] at hnew
      have HS2 := Aside0.mk hnew
      clear hx' hpos hts HS hp1 hp2 hSl hnew HO
      go_wp2
      go_roundw
      case rel => exact ⟨k + 1, _, by go_num, by omega, HS2, HO2, ⟨HB.out.setCell (p := ⟨s, y, none⟩) hs1 _⟩⟩
      case measure => simp [intOf]; omega
    · obtain rfl : k = er.length := by omega
      rw [List.take_length] at HS
      have hSR : S = R := by rw [← HR.out]; exact marks_eq HS.out
      subst hSR
      clear HS HR
      go_wp2
      go_ret
      exact ⟨_, rfl, HO.out, HB.out⟩

/-- The radius, as the machine counts it. -/
def radiusW (a0 a1 : Int) : Int := if a0 < 1 then (-1) else (if a1 < 0 then (-1) else (if a1 > (wrap64 (a0 - 1)) then (-1) else (wrap64 (Int.tdiv (wrap64 ((wrap64 (a0 - 1)) - a1)) 2))))
set_option maxHeartbeats 8000000 in
set_option maxRecDepth 100000 in
theorem radius_any (a0 a1 : Int) (w : World) :
    Calls Try.prog 12 #[.int .i64 a0, .int .i64 a1] w fun e w' => e = .returned (.int .i64 (radiusW a0 a1)) ∧ Drawn0 w w' := by
  obtain ⟨r, hr⟩ : ∃ r, radiusW a0 a1 = r := ⟨_, rfl⟩
  rw [hr]
  unfold radiusW at hr
  by_cases c3 : a0 < 1
  · rw [if_pos c3] at hr
    have c3b0 : decide (a0 < 1) = true := decide_eq_true c3
    clear c3
    subst hr
    go_enter Try.func12, Try.ntmps12
    go_wp2
    go_ret
    exact ⟨by first | rfl | (simp; done) | (simp [*]; done), by repeat (first | exact Drawn0.refl _ | apply Drawn0.step)⟩
  · rw [if_neg c3] at hr
    have c3b0 : decide (a0 < 1) = false := decide_eq_false c3
    clear c3
    by_cases c4 : a1 < 0
    · rw [if_pos c4] at hr
      have c4b0 : decide (a1 < 0) = true := decide_eq_true c4
      clear c4
      subst hr
      go_enter Try.func12, Try.ntmps12
      go_wp2
      go_ret
      exact ⟨by first | rfl | (simp; done) | (simp [*]; done), by repeat (first | exact Drawn0.refl _ | apply Drawn0.step)⟩
    · rw [if_neg c4] at hr
      have c4b0 : decide (a1 < 0) = false := decide_eq_false c4
      clear c4
      by_cases c5 : a1 > (wrap64 (a0 - 1))
      · rw [if_pos c5] at hr
        have c5b0 : decide ((wrap64 (a0 - 1)) < a1) = true := decide_eq_true c5
        clear c5
        subst hr
        go_enter Try.func12, Try.ntmps12
        go_wp2
        go_ret
        exact ⟨by first | rfl | (simp; done) | (simp [*]; done), by repeat (first | exact Drawn0.refl _ | apply Drawn0.step)⟩
      · rw [if_neg c5] at hr
        have c5b0 : decide ((wrap64 (a0 - 1)) < a1) = false := decide_eq_false c5
        clear c5
        subst hr
        go_enter Try.func12, Try.ntmps12
        go_wp2
        go_ret
        exact ⟨by first | rfl | (simp; done) | (simp [*]; done), by repeat (first | exact Drawn0.refl _ | apply Drawn0.step)⟩
theorem wr64 (x : Int) (h1 : -9223372036854775808 ≤ x) (h2 : x ≤ 9223372036854775807) : wrap64 x = x := by unfold wrap64; omega
theorem radiusW_eq (d f : Int) (h1 : -1000000 ≤ d) (h2 : d ≤ 1000000) (h3 : 0 ≤ f) (h4 : f ≤ 1000000000) : radiusW d f = radiusZ d f := by
  unfold radiusW radiusZ
  rw [wr64 (d - 1) (by omega) (by omega)]
  by_cases c1 : d < 1
  · rw [if_pos c1, if_pos (Or.inl c1)]
  · rw [if_neg c1, if_neg (by omega)]
    by_cases c2 : f > d - 1
    · rw [if_pos c2, if_pos (by omega)]
    · rw [if_neg c2, if_neg (by omega), wr64 (d - 1 - f) (by omega) (by omega), wr64 _ ?_ ?_]
      · rw [Int.tdiv_eq_ediv_of_nonneg (by omega)]; omega
      · rw [Int.tdiv_eq_ediv_of_nonneg (by omega)]; omega
end Go.Proofs.Yticgblagimmlfaa

namespace Go.Proofs.Yticgblagimmlfaa
open Go.RowKit Go.Proofs.YticgblagimmlfaaW.PrintWords Go.Proofs.YticgblagimmlfaaW.PrintLast Go.Proofs.YticgblagimmlfaaW.PrintMore
set_option linter.unusedVariables false
set_option linter.unusedSimpArgs false

/-- A decoded word, as a value. -/
def DecIs (w : World) (v : Value) (r : List Int × List Int × Int) : Prop := ∃ v1 v2, v = .agg #[v1, v2] ∧ Rd w v1 r.1 ∧ Rd w v2 r.2.1

/-- The two boxed results on the way. -/
structure RSt (w : World) (b : Nat) (vc ve : Value) : Prop where
  r0 : w.cell? ⟨b, 0, none⟩ = some (.slice none 0 0)
  r1 : w.cell? ⟨b, 1, none⟩ = some (.slice none 0 0)
  f0 : w.frozen? ⟨b, 0, none⟩ = false
  f1 : w.frozen? ⟨b, 1, none⟩ = false
  c0 : w.cell? ⟨b + 1, 0, none⟩ = some vc
  c1 : w.cell? ⟨b + 1, 1, none⟩ = some ve
  f2 : w.frozen? ⟨b + 1, 1, none⟩ = false
theorem RSt.new (w : World) (vc ve : Value) : RSt ((w.alloc (.cells #[.slice none 0 0, .slice none 0 0] 34)).alloc (.cells #[vc, ve] 34)) w.heap.size vc ve := by
  have hs : (w.alloc (.cells #[.slice none 0 0, .slice none 0 0] 34)).heap.size = w.heap.size + 1 := by simp
  have h1 := (blk_cell (heap_alloc_new (w.alloc (.cells #[.slice none 0 0, .slice none 0 0] 34)) (.cells #[vc, ve] 34)) 0)
  have h2 := (blk_cell (heap_alloc_new (w.alloc (.cells #[.slice none 0 0, .slice none 0 0] 34)) (.cells #[vc, ve] 34)) 1)
  rw [hs] at h1 h2
  have hb := below_alloc (Below.refl (w.alloc (.cells #[.slice none 0 0, .slice none 0 0] 34)).heap.size (w.alloc (.cells #[.slice none 0 0, .slice none 0 0] 34))) (.cells #[vc, ve] 34)
  exact ⟨pw_cell_below hb (cell_alloc2_0 _ _ _ _), pw_cell_below hb (cell_alloc2_1 _ _ _ _), World.frozen?_alloc2_first _ _ _ _, World.frozen?_alloc2_first _ _ _ _, h1.trans rfl, h2.trans rfl, World.frozen?_alloc2_new _ _ _ _⟩
theorem RSt.below {w w1 : World} {b : Nat} {vc ve : Value} (h : RSt w b vc ve) (hb : Below (b + 2) w w1) : RSt w1 b vc ve :=
  ⟨(hb.cell (by simp)).trans h.r0, (hb.cell (by simp)).trans h.r1, (hb.frozen (by simp)).trans h.f0, (hb.frozen (by simp)).trans h.f1, (hb.cell (by simp)).trans h.c0, (hb.cell (by simp)).trans h.c1, (hb.frozen (by simp)).trans h.f2⟩
theorem RSt.drewN {w : World} {b : Nat} {vc ve : Value} (h : RSt w b vc ve) (n : Nat) : RSt (w.drewN n) b vc ve := h.below (pw_below_drewN (Below.refl _ _) n)
theorem RSt.set {w : World} {b : Nat} {vc ve : Value} (h : RSt w b vc ve) (v : Value) : RSt (w.setCell ⟨b + 1, 1, none⟩ v) b vc v := by
  refine ⟨?_, ?_, ?_, ?_, ?_, World.cell?_setCell_same _ _ _ h.c1, ?_⟩
  · rw [World.cell?_setCell_other _ _ _ _ (by simp)]; exact h.r0
  · rw [World.cell?_setCell_other _ _ _ _ (by simp)]; exact h.r1
  · rw [World.frozen?_setCell]; exact h.f0
  · rw [World.frozen?_setCell]; exact h.f1
  · rw [World.cell?_setCell_other _ _ _ _ (by simp)]; exact h.c0
  · rw [World.frozen?_setCell]; exact h.f2
theorem RSt.last {w : World} {b : Nat} {vc ve : Value} (h : RSt w b vc ve) (v0 v1 : Value) : ((w.setCell ⟨b, 0, none⟩ v0).setCell ⟨b, 1, none⟩ v1).cell? ⟨b, 0, none⟩ = some v0 ∧ ((w.setCell ⟨b, 0, none⟩ v0).setCell ⟨b, 1, none⟩ v1).cell? ⟨b, 1, none⟩ = some v1 := by
  refine ⟨?_, World.cell?_setCell_same _ _ _ (u := .slice none 0 0) ?_⟩
  · rw [World.cell?_setCell_other _ _ _ _ (by simp)]
    exact World.cell?_setCell_same _ _ _ h.r0
  · rw [World.cell?_setCell_other _ _ _ _ (by simp)]; exact h.r1
theorem results34 {fn : Func} {p u : Tmp} (h : fn.results = #[.cell p 34, .tmp u]) {a : Act} {w : World} {b : Nat} {v0 v1 : Value} (hp : a.tmps.getD p undef = .pointer (some ⟨b, 0, none⟩)) (c0 : w.cell? ⟨b, 0, none⟩ = some v0) (c1 : w.cell? ⟨b, 1, none⟩ = some v1) {R : Ending → World → Prop} (hd : a.defers = [])
    (hR : R (.returned (.tuple #[.agg #[v0, v1], a.tmps.getD u undef])) w) : bodyPost Try.prog fn R .ret a w := by
  refine bodyPost_ret (v := .tuple #[.agg #[v0, v1], a.tmps.getD u undef]) ?_ hd hR
  rw [results_cell_tmp h, hp]
  go_simp
theorem result_any {w : World} {A B E : Option Addr} {cc dd ee : Nat} {c l : List Int} {er : List Bool} (t : Int) (hc : Kd.C (Kd.int .i64) w A c.length c) (hcc : c.length ≤ cc) (hl : Kd.C (Kd.int .i64) w B l.length l) (he : Kd.bool.C w E er.length er) (h1 : l.length = c.length) (h2 : er.length = c.length) (hb : c.length ≤ 1000) :
    Calls Try.prog 41 #[.slice A c.length cc, .slice B l.length dd, .slice E er.length ee, .int .i64 t] w fun e w' => ∃ v, e = .returned (.tuple #[v, .int .i64 (resultZ c l er t).2.2]) ∧ DecIs w' v (resultZ c l er t) ∧ Below w.heap.size w w' := by
  have HC := Aside0.mk hc
  have HL := Aside0.mk hl
  have HE := Aside0.mk he
  obtain ⟨R, hR⟩ : ∃ R, resultZ c l er t = R := ⟨_, rfl⟩
  rw [hR]
  have HR := Aside0.mk hR
  have H1 := Aside0.mk h1
  have H2 := Aside0.mk h2
  have HB := Aside0.mk (Below.refl w.heap.size w)
  clear hc hl he hR h1 h2
  go_enter Try.func41, Try.ntmps41
  go_wp2
  have HS := Aside0.mk (RSt.new w (.slice A c.length cc) (.slice none 0 0))
  have HB := Aside0.mk (below_alloc (below_alloc (Below.refl w.heap.size w) (.cells #[.slice none 0 0, .slice none 0 0] 34)) (.cells #[.slice A c.length cc, .slice none 0 0] 34))
  obtain ⟨b, hbb⟩ : ∃ b, w.heap.size = b := ⟨_, rfl⟩
  have HOz := Aside0.mk (Own.nil ((w.alloc (.cells #[.slice none 0 0, .slice none 0 0] 34)).alloc (.cells #[.slice A c.length cc, .slice none 0 0] 34)) (b + 2))
  have HZ : Aside0 (b + 2 ≤ ((w.alloc (.cells #[.slice none 0 0, .slice none 0 0] 34)).alloc (.cells #[.slice A c.length cc, .slice none 0 0] 34)).heap.size) := ⟨by simp; omega⟩
  have Hb := Aside0.mk hbb
  rw [hbb] at HS HB ⊢
  obtain ⟨wi, hwi⟩ : ∃ wi, ((w.alloc (.cells #[.slice none 0 0, .slice none 0 0] 34)).alloc (.cells #[.slice A c.length cc, .slice none 0 0] 34)) = wi := ⟨_, rfl⟩
  rw [hwi] at HS HB HOz HZ ⊢
  clear hwi hbb
  go_loopw [11, 16] (fun v11 v16 w' => ∃ (k : Nat) (ve : Value), v16 = .int .i64 k ∧ k ≤ c.length ∧ Aside0 (RSt w' b (.slice A c.length cc) ve) ∧ Aside0 (Own w' (b + 2) ve (diffZ c l er k)) ∧ Aside0 (b + 2 ≤ w'.heap.size) ∧ Aside0 (Below b w w')) (fun _ v16 _ => c.length - (intOf v16).toNat)
  case atStart => exact ⟨0, _, rfl, by omega, HS, HOz, HZ, HB⟩
  case round =>
    clear HS HOz HZ HB
    obtain ⟨k, ve, rfl, hk, HS, HO, HZ, HB⟩ := hrel
    have hdl := diffZ_length c l er k
    by_cases hlk : k < c.length
    · have hwb : Below w.heap.size w wr := by rw [Hb.out]; exact HB.out
      have hdk := diffZ_succ c l er k
      obtain ⟨d0, hd0⟩ : ∃ d0, diffZ c l er k = d0 := ⟨_, rfl⟩
      rw [hd0] at hdk HO hdl
      obtain ⟨ad, e, hx⟩ := C_nat (Kd.C_below HC.out hwb) k hlk
      cases e
      obtain ⟨ad2, e, hy⟩ := C_nat (Kd.C_below HL.out hwb) k (by have := H1.out; omega)
      cases e
      obtain ⟨ad3, e, hz⟩ := CB_nat (Kd.C_below HE.out hwb) k (by have := H2.out; omega)
      cases e
      have hk1 : k < l.length := by have := H1.out; omega
      have hk2 : k < er.length := by have := H2.out; omega
      obtain ⟨x, hx'⟩ : ∃ x, c.getD k 0 = x := ⟨_, rfl⟩
      rw [hx'] at hx hdk
      obtain ⟨y, hy'⟩ : ∃ x, l.getD k 0 = x := ⟨_, rfl⟩
      rw [hy'] at hy hdk
      obtain ⟨z, hz'⟩ : ∃ x, er.getD k false = x := ⟨_, rfl⟩
      rw [hz'] at hz hdk
      cases hzc : (!z && (x != y)) with
      | false =>
        rw [hzc, if_neg (by simp)] at hdk
        have HO2 : Aside0 (Own wr (b + 2) ve (diffZ c l er (k + 1))) := ⟨by rw [hdk]; exact HO.out⟩
        have HS2 := HS
        clear hx' hy' hz' hdk hd0 HS hwb
        cases z with
        | true =>
          clear hzc
          go_wp2
          go_quiet (fail)
          go_wp2
          go_roundw
          case rel => exact ⟨k + 1, ve, by go_num, by omega, ⟨HS2.out.drewN _⟩, ⟨HO2.out.drewN _⟩, by simpa using HZ, ⟨pw_below_drewN HB.out _⟩⟩
          case measure => simp [intOf]; omega
        | false =>
          have hxy : (x != y) = false := by simpa using hzc
          clear hzc
          go_wp2
          go_quiet (fail)
          go_wp2
          go_roundw
          case rel => exact ⟨k + 1, ve, by go_num, by omega, ⟨HS2.out.drewN _⟩, ⟨HO2.out.drewN _⟩, by simpa using HZ, ⟨pw_below_drewN HB.out _⟩⟩
          case measure => simp [intOf]; omega
      | true =>
        rw [hzc, if_pos rfl] at hdk
        rw [Bool.and_eq_true] at hzc
        obtain ⟨hz1, hxy⟩ := hzc
        have hz2 : z = false := by simpa using hz1
        subst hz2
        have HDK := Aside0.mk hdk
        clear hx' hy' hz' hdk hd0 hz1 hwb
        go_wp2
        go_quiet (fail)
        obtain ⟨wq, hwq⟩ : ∃ wq : World, wr.drewN nq = wq := ⟨_, rfl⟩
        have HOq := Aside0.mk (HO.out.drewN nq)
        have HSq := Aside0.mk (HS.out.drewN nq)
        have HBq := Aside0.mk (pw_below_drewN HB.out nq)
        have HZq : Aside0 (b + 2 ≤ (wr.drewN nq).heap.size) := by simpa using HZ
        rw [hwq] at HOq HSq HBq HZq ⊢
        clear hwq HO HS HB HZ
        have hHS := HSq.out
        have c1 := hHS.c1
        have f2 := hHS.f2
        clear hHS
        go_wp2_with ((with_reducible refine gate_builtin (b := .append) (xs := #[.tmp 36, .tmp 38]) rfl ?_); at_builtin; refine append_own (w0 := wq) (b + 2) rfl (.tmp 36) (.tmp 38) rfl (v := ve) (xs := d0) (k : Int) rfl rfl HOq.out (Below.refl _ _) HZq.out (by omega) ?_; intro v5 w5 h5 hb5 hg5; obtain ⟨A5, c5, e5, -, -⟩ := h5.slice; subst e5; have HO5 := Aside0.mk h5; have HB5 := Aside0.mk hb5; have hS5 := HSq.out.below hb5; have c15 := hS5.c1; have f25 := hS5.f2; have HS5 := Aside0.mk hS5; clear h5 hb5 hg5 hS5)
        go_roundw
        case rel => exact ⟨k + 1, _, by go_num, by omega, ⟨HS5.out.set _⟩, ⟨by rw [HDK.out]; have q := HO5.out.far (p := ⟨b + 1, 1, none⟩) (Nat.lt_succ_self _) (.slice A5 (d0 ++ [(k : Int)]).length c5); rw [show (d0 ++ [(k : Int)]).length = d0.length + 1 from by simp] at q; exact q⟩, ⟨by rw [World.size_setCell]; exact Nat.le_trans HZq.out HB5.out.size⟩, ⟨(Below.trans HBq.out (HB5.out.mono (by omega))).setCell (by simp) _⟩⟩
        case measure => simp [intOf]; omega
    · obtain rfl : k = c.length := by omega
      obtain ⟨Ae, ce, rfl, hce, hCe⟩ := HO.out.slice
      obtain ⟨d0, hd0⟩ : ∃ d0, diffZ c l er c.length = d0 := ⟨_, rfl⟩
      have hrr := HR.out
      unfold resultZ at hrr
      rw [hd0] at hrr hCe HO HS hdl hce
      rw [hd0] at *
      clear hd0 HR
      have r0 := HS.out.r0
      have r1 := HS.out.r1
      have f0 := HS.out.f0
      have f1 := HS.out.f1
      have c0 := HS.out.c0
      have c1 := HS.out.c1
      by_cases ht : (d0.length : Int) > t
      · rw [if_pos ht] at hrr
        subst hrr
        obtain ⟨q0, q1⟩ := HS.out.last (.slice none 0 0) (.slice none 0 0)
        clear hCe
        go_wp2
        refine results34 rfl rfl q0 q1 rfl ?_
        exact ⟨_, rfl, ⟨_, _, rfl, Rd.nil _, Rd.nil _⟩, by rw [Hb.out]; exact (HB.out.setCell (by simp) _).setCell (by simp) _⟩
      · rw [if_neg ht] at hrr
        have htb : decide (t < (d0.length : Int)) = false := by simp; omega
        subst hrr
        obtain ⟨q0, q1⟩ := HS.out.last (.slice A c.length cc) (.slice Ae d0.length ce)
        have HCe := Aside0.mk hCe
        clear hCe ht
        go_wp2
        refine results34 rfl rfl q0 q1 rfl ?_
        have hbz : Below b wr ((wr.setCell ⟨b, 0, none⟩ (.slice A c.length cc)).setCell ⟨b, 1, none⟩ (.slice Ae d0.length ce)) := ((Below.refl _ _).setCell (by simp) _).setCell (by simp) _
        have hwz := Below.trans HB.out hbz
        refine ⟨_, rfl, ⟨_, _, rfl, ⟨A, cc, rfl, hcc, Kd.C_below HC.out (by rw [Hb.out]; exact hwz)⟩, ((HO.out.far (p := ⟨b, 0, none⟩) (by simp) _).far (p := ⟨b, 1, none⟩) (by simp) _).rd⟩, by rw [Hb.out]; exact hwz⟩
end Go.Proofs.Yticgblagimmlfaa

namespace Go.Proofs.Yticgblagimmlfaa
open Go.RowKit Go.Proofs.YticgblagimmlfaaW.PrintWords Go.Proofs.YticgblagimmlfaaW.PrintLast Go.Proofs.YticgblagimmlfaaW.PrintMore
set_option linter.unusedVariables false
set_option linter.unusedSimpArgs false

section
variable {ops : Array Oper} {rest : List Oper} {o : Oper} {a : Act} {Q : Exit → Act → World → Prop} {Kc : Act → World → Prop}
theorem append_own4 {w0 W : World} (base : Nat) (hgd : o.guard = none) (s x : Operand) (ho : o.op = .call { callee := .builtin .append, args := #[s, x], argTypes := #[25, 25] })
    {v : Value} {xs : List Int} (p : Int) (hs : a.eval s = v) (hx : a.eval x = .slice (some ⟨W.heap.size, 0, none⟩) 1 1) (HO : Own W base v xs) (HB : Below base w0 W) (hbase : base ≤ W.heap.size) (hl : xs.length ≤ 1000000000000)
    (h : ∀ v1 w1, Own w1 base v1 (xs ++ [p]) → Below base w0 w1 → W.grownBy w1 v.ownBlock → (v1.ownBlock = v.ownBlock ∨ ∃ b, v1.ownBlock = some b ∧ W.heap.size ≤ b) → wpList Try.prog ops Q rest (a.put o.dst v1) w1) :
    wpList Try.prog ops Q (o :: rest) a (W.alloc (.cells #[.int .i64 p] 3)) := by
  refine Kd.R_append (Kd.int .i64) (w0 := w0) base hgd s x 25 3 (.int .i64 0) 8 ho Try.underlying25 info3 rfl (by decide) (by omega) v xs p [.int .i64 p] (fun _ => True) (fun _ => False) hs hx rfl (fun _ hk => hk.elim) (fun _ _ => trivial) HO.out HB hbase (by omega) ?_
  intro v1 w1 h1 h2 h3 h4
  exact h v1 w1 ⟨h1⟩ h2 h3 h4
theorem append_zeros_step {w0 W : World} (hw : Region.wanted o (yielded ops a.tmps) = true) (s x : Operand) (ho : o.op = .call { callee := .builtin .append, args := #[s, x], argTypes := #[25, 3] })
    {base : Nat} {v : Value} {xs : List Int} (n : Int) (hs : a.eval s = v) (hx : a.eval x = .int .i64 n) (HO : Own W base v xs) (h0 : 0 ≤ n) (hbase : base ≤ W.heap.size) (HB : Below base w0 W) (hl : xs.length + n.toNat ≤ 1000000000000)
    (h : ∀ v1 w1, Own w1 base v1 (xs ++ List.replicate n.toNat 0) → Below base w0 w1 → Kc (a.put o.dst v1) w1) :
    if Region.wanted o (yielded ops a.tmps) = true then Oper.wp Try.prog o a W Kc Q else Kc (a.put o.dst undef) W := by
  refine Kd.R_append_zeros_step (Kd.int .i64) (w0 := w0) base hw s x 25 3 3 (.int .i64 0) 8 ho Try.underlying25 Try.underlying3 info3 rfl (by decide) (by omega) v xs 0 n (fun _ => True) hs hx rfl (fun _ _ => trivial) HO.out h0 HB hbase (by omega) ?_
  intro v1 w1 h1 h2 h3 h4
  exact h v1 w1 ⟨h1⟩ h2
end
/-- Two rows in different blocks. -/
def Dj (v1 v2 : Value) : Prop := ∀ k, v1.ownBlock = some k → v2.ownBlock ≠ some k
theorem Dj.nil (v : Value) : Dj (.slice none 0 0) v := fun k hk => by cases hk
theorem Dj.symm {v1 v2 : Value} (h : Dj v1 v2) : Dj v2 v1 := fun k h1 h2 => h k h2 h1
theorem Own.lt_size {w : World} {base : Nat} {v : Value} {l : List Int} (h : Own w base v l) (k : Nat) (hk : v.ownBlock = some k) : k < w.heap.size := by
  obtain ⟨c, hc⟩ := Kd.R_typed h.out k hk
  exact (Array.getElem?_eq_some_iff.1 hc).1
theorem Dj.grown {w : World} {base : Nat} {v1 v2 v2' : Value} {l : List Int} (h : Dj v1 v2) (ho : Own w base v1 l) (hg : v2'.ownBlock = v2.ownBlock ∨ ∃ b, v2'.ownBlock = some b ∧ w.heap.size ≤ b) : Dj v1 v2' := by
  intro k hk e
  rcases hg with hg | ⟨b, hb, hb2⟩
  · exact h k hk (by rw [← hg]; exact e)
  · have := ho.lt_size k hk
    rw [hb] at e
    simp only [Option.some.injEq] at e
    omega
theorem Own.grown' {w w1 : World} {base : Nat} {v v2 : Value} {l : List Int} (h : Own w base v l) (hg : w.grownBy w1 v2.ownBlock) (hd : Dj v v2) : Own w1 base v l :=
  h.grown hg fun k hk e => hd k hk e.symm

theorem keptX_sub (pts : List Int) (er : List Bool) : ∀ n, n ≤ pts.length → (keptX pts er n).Sublist (pts.take n)
  | 0, _ => by simp [keptX]
  | n + 1, h => by
    rw [keptX_succ, take_succ_rd pts n (by omega)]
    have ih := keptX_sub pts er n (by omega)
    split
    · exact ih.trans (List.sublist_append_left _ _)
    · exact ih.append (List.Sublist.refl _)
theorem keptX_nodup (s : GD) (er : List Bool) (h : s.pts.Nodup) (ha : s.pts.all s.D.is = true) : ((keptX s.pts er s.pts.length).map s.D.inn).Nodup := by
  have h1 := keptX_sub s.pts er s.pts.length (Nat.le_refl _)
  rw [List.take_length] at h1
  have h2 : (keptX s.pts er s.pts.length).map s.D.inn = keptX s.pts er s.pts.length := by
    conv => rhs; rw [← List.map_id (keptX s.pts er s.pts.length)]
    refine List.map_congr_left fun x hx => ?_
    have := List.all_eq_true.1 ha x (h1.subset hx)
    unfold GFD.is at this
    unfold GFD.inn
    have := of_decide_eq_true this
    rw [if_pos this]; rfl
  rw [h2]
  exact h.sublist h1
theorem gao_length (D : GFD) (xs ys : List Int) (k : Nat) (R : List Int × List Int) (h : (D.gao xs ys k R).2 = 0) : (D.gao xs ys k R).1.length ≤ k := by
  unfold GFD.gao at h ⊢
  by_cases h1 : D.canon R.2 = []
  · rw [if_pos h1] at h; cases h
  · rw [if_neg h1] at h ⊢
    by_cases h2 : (D.divC (D.canon R.1) (D.canon R.2)).2 ≠ []
    · rw [if_pos h2] at h; cases h
    · rw [if_neg h2] at h ⊢
      by_cases h3 : (D.divC (D.canon R.1) (D.canon R.2)).1.length > k
      · rw [if_pos h3] at h; cases h
      · rw [if_neg h3] at h ⊢
        split at h
        · cases h
        · rename_i h4
          rw [if_neg h4]
          simpa using h3
theorem gao_err (D : GFD) (xs ys : List Int) (k : Nat) (R : List Int × List Int) : (D.gao xs ys k R).2 = 0 ∨ (D.gao xs ys k R).2 = 12 := by
  unfold GFD.gao
  repeat' split
  all_goals first | exact .inl rfl | exact .inr rfl
set_option maxHeartbeats 8000000 in
set_option maxRecDepth 100000 in
theorem codeword_any {g : Nat} {w : World} {v : Value} {s : GD} (hg : GFat w g s.D) (h : GArg w v s) (ho0 : s.open = 0) {B E : Option Addr} {dd ee : Nat} {l : List Int} {er : List Bool} (hl : Kd.C (Kd.int .i64) w B l.length l) (he : Kd.bool.C w E er.length er)
    (h1 : l.length = s.pts.length) (h2 : er.length = s.pts.length) (hE : s.ends l er) :
    Calls Try.prog 39 #[.pointer (some ⟨g, 0, none⟩), v, .slice B l.length dd, .slice E er.length ee] w fun e w' => ∃ v', e = .returned (.tuple #[v', .int .i64 (s.codeword l er).2]) ∧ ErrOr w' w.heap.size v' (s.codeword l er) ∧ Below w.heap.size w w' := by
  obtain ⟨A1, c1, A2, c2, A3, c3, rfl, g1, l1, g2, l2, g3, l3⟩ := h.out
  obtain ⟨f1, f2, f3, f4, f5, f6, f7, f8, f9, f10⟩ := open_facts s ho0
  have hDok := s.D_ok ho0
  have hnd := keptX_nodup s er f7 f5
  have hXl := keptX_length s.pts er s.pts.length
  have hYl := keptY_length s.D s.mults l s.pts er s.pts.length
  obtain ⟨K, hK⟩ := Int.eq_ofNat_of_zero_le f9
  have hS0 := SAt.new w s A1 c1 A2 c2 A3 c3
  obtain ⟨w0, hw0⟩ : ∃ w0, w.alloc (.cells #[.int .i64 s.P, .int .i64 s.M, .slice A1 s.Mod.length c1, .int .i64 s.K, .slice A2 s.pts.length c2, .slice A3 s.mults.length c3] 29) = w0 := ⟨_, rfl⟩
  have hB0 : Below w.heap.size w w0 := by rw [← hw0]; exact below_alloc (Below.refl _ _) _
  rw [hw0] at hS0
  have HS := Aside0.mk hS0
  have HB0 := Aside0.mk hB0
  have HW := Aside0.mk hw0
  have HG := Aside0.mk (hg.below hB0)
  have HAr := Aside0.mk (h.below hB0)
  have HP := Aside0.mk (Kd.C_below g2 hB0)
  have HMu := Aside0.mk (Kd.C_below g3 hB0)
  have HL := Aside0.mk (Kd.C_below hl hB0)
  have HEr := Aside0.mk (Kd.C_below he hB0)
  have HBr := Aside0.mk (Below.refl w0.heap.size w0)
  obtain ⟨T, hT⟩ : ∃ T, s.codeword l er = T := ⟨_, rfl⟩
  rw [hT]
  unfold GD.codeword at hT
  unfold GD.gaoZ at hT
  unfold GD.ends at hE
  unfold GD.eucl at hT hE
  rw [hK, Int.toNat_natCast] at hT hE
  obtain ⟨n, hn⟩ : ∃ n, s.pts.length = n := ⟨_, rfl⟩
  have HT := Aside0.mk hT
  have HE := Aside0.mk hE
  have HNd := Aside0.mk hnd
  have HXl := Aside0.mk hXl
  have HYl := Aside0.mk hYl
  have HK := Aside0.mk hK
  have HL1 := Aside0.mk h1
  have HL2 := Aside0.mk h2
  have HF4 := Aside0.mk f4
  have HF10 := Aside0.mk f10
  clear h g1 g2 g3 hg hS0 hB0 hw0 hT hE hnd hXl hYl hK hl he f1 f4 f5 f6 f7 f8 f10 ho0 h1 h2 hn n
  go_enter Try.func39, Try.ntmps39
  go_upto_region 1 with (fail)
  rw [HW.out]
  have cPts := HS.out.pts
  go_wp2
  clear cPts
  have HXz := Aside0.mk (Own.nil w0 w0.heap.size)
  go_loopw [10, 11, 21] (fun v10 v11 v21 w' => ∃ k : Nat, v21 = .int .i64 k ∧ k ≤ s.pts.length ∧ Aside0 (Own w' w0.heap.size v10 (keptX s.pts er k)) ∧ Aside0 (Own w' w0.heap.size v11 (keptY s.D s.mults l er k)) ∧ Aside0 (Dj v10 v11) ∧ Aside0 (Below w0.heap.size w0 w')) (fun _ _ v21 _ => s.pts.length - (intOf v21).toNat)
  case atStart => exact ⟨0, rfl, by omega, HXz, HXz, ⟨Dj.nil _⟩, HBr⟩
  case round =>
    clear HXz
    obtain ⟨k, rfl, hk, HX, HY, HD, HB⟩ := hrel
    have hxl := keptX_length s.pts er k
    have hyl := keptY_length s.D s.mults l s.pts er k
    by_cases hlk : k < s.pts.length
    · obtain ⟨ad, e, hx⟩ := C_nat (Kd.C_below HP.out HB.out) k hlk
      cases e
      have hk1 : k < l.length := by rw [HL1.out]; exact hlk
      have hk2 : k < er.length := by rw [HL2.out]; exact hlk
      have hk3 : k < s.mults.length := by rw [HF4.out]; exact hlk
      obtain ⟨ad2, e, hy⟩ := C_nat (Kd.C_below HL.out HB.out) k hk1
      cases e
      obtain ⟨ad3, e, hz⟩ := CB_nat (Kd.C_below HEr.out HB.out) k hk2
      cases e
      obtain ⟨ad4, e, hm⟩ := C_nat (Kd.C_below HMu.out HB.out) k hk3
      cases e
      have hxs := keptX_succ s.pts er k
      have hys := keptY_succ s.D s.mults l er k
      obtain ⟨x, hx'⟩ : ∃ x, s.pts.getD k 0 = x := ⟨_, rfl⟩
      rw [hx'] at hx hxs
      obtain ⟨y, hy'⟩ : ∃ x, l.getD k 0 = x := ⟨_, rfl⟩
      rw [hy'] at hy hys
      obtain ⟨m, hm'⟩ : ∃ x, s.mults.getD k 0 = x := ⟨_, rfl⟩
      rw [hm'] at hm hys
      obtain ⟨z, hz'⟩ : ∃ x, er.getD k false = x := ⟨_, rfl⟩
      rw [hz'] at hz hxs hys
      obtain ⟨X0, hX0⟩ : ∃ X, keptX s.pts er k = X := ⟨_, rfl⟩
      obtain ⟨Y0, hY0⟩ : ∃ X, keptY s.D s.mults l er k = X := ⟨_, rfl⟩
      rw [hX0] at HX hxl hyl hxs
      rw [hY0] at HY hyl hys
      have hyl2 : Y0.length ≤ 64 := by omega
      clear hyl
      cases z with
      | true =>
        rw [if_pos rfl] at hxs hys
        have HXs := Aside0.mk hxs
        have HYs := Aside0.mk hys
        clear hx' hy' hm' hz' hX0 hY0 hxs hys
        go_wp2
        go_roundw
        case rel => exact ⟨k + 1, by go_num, by omega, ⟨by rw [HXs.out]; exact HX.out⟩, ⟨by rw [HYs.out]; exact HY.out⟩, HD, HB⟩
        case measure => simp [intOf]; omega
      | false =>
        rw [if_neg (by simp)] at hxs hys
        obtain ⟨q, hq⟩ : ∃ q, s.D.div y m = q := ⟨_, rfl⟩
        rw [hq] at hys
        have HXs := Aside0.mk hxs
        have HYs := Aside0.mk hys
        have HQ := Aside0.mk hq
        have HGr := Aside0.mk (HG.out.below HB.out)
        have cMul := (HS.out.below HB.out).mults
        clear hx' hy' hm' hz' hX0 hY0 hxs hys hq
        obtain ⟨A10, c10, rfl, -, -⟩ := HX.out.slice
        obtain ⟨A11, c11, rfl, -, -⟩ := HY.out.slice
        go_wp2
        go_quiet (first | (go_at_call 67; exact quiet_d (div_any (HGr.out.drewN _) hDok y m)))
        rw [HQ.out]
        obtain ⟨wq, hwq⟩ : ∃ wq : World, wr.drewN nq = wq := ⟨_, rfl⟩
        have HXq := Aside0.mk (HX.out.drewN nq)
        have HYq := Aside0.mk (HY.out.drewN nq)
        have HBq := Aside0.mk (pw_below_drewN HB.out nq)
        rw [hwq] at HXq HYq HBq ⊢
        clear hwq HX HY HB cMul
        go_wp2_with (first
          | ((with_reducible refine gate_builtin (b := .append) (xs := #[.tmp 45, .tmp 47]) rfl ?_); at_builtin; refine append_own4 (w0 := wq) w0.heap.size rfl (.tmp 45) (.tmp 47) rfl (v := .slice A10 X0.length c10) (xs := X0) x rfl rfl HXq.out (Below.refl _ _) HBq.out.size (by omega) ?_; intro v5 w5 h5 hb5 hg5 ho5; have HD5 := Aside0.mk (Dj.grown (HD.out.symm) HYq.out ho5); have HY5 := Aside0.mk (HYq.out.grown' hg5 HD.out.symm); have HX5 := Aside0.mk h5; have HB5 := Aside0.mk (Below.trans HBq.out hb5); clear h5 hb5 hg5 ho5)
          | ((with_reducible refine gate_builtin (b := .append) (xs := #[.tmp 49, .tmp 51]) rfl ?_); at_builtin; refine append_own4 (w0 := w5) w0.heap.size rfl (.tmp 49) (.tmp 51) rfl (v := .slice A11 Y0.length c11) (xs := Y0) q rfl rfl HY5.out (Below.refl _ _) HB5.out.size (by omega) ?_; intro v6 w6 h6 hb6 hg6 ho6; have HD6 := Aside0.mk (Dj.grown (HD5.out.symm) HX5.out ho6); have HX6 := Aside0.mk (HX5.out.grown' hg6 HD5.out.symm); have HY6 := Aside0.mk h6; have HB6 := Aside0.mk (Below.trans HB5.out hb6); clear h6 hb6 hg6 ho6))
        go_roundw
        case rel => exact ⟨k + 1, by go_num, by omega, ⟨by rw [HXs.out]; exact HX6.out⟩, ⟨by rw [HYs.out]; exact HY6.out⟩, HD6, HB6⟩
        case measure => simp [intOf]; omega
    · obtain rfl : k = s.pts.length := by omega
      have HT2 := HT
      have hnd := HNd.out
      have hE := HE.out
      obtain ⟨X, hX⟩ : ∃ X, keptX s.pts er s.pts.length = X := ⟨_, rfl⟩
      obtain ⟨Y, hY⟩ : ∃ X, keptY s.D s.mults l er s.pts.length = X := ⟨_, rfl⟩
      have hT := HT.out
      rw [hX] at HX hxl hyl hnd hE hT
      rw [hY] at HY hyl hE hT
      have hKe := HK.out
      have cK := (HS.out.below HB.out).k
      have HGr := Aside0.mk (HG.out.below HB.out)
      have HArr := Aside0.mk (HAr.out.below HB.out)
      obtain ⟨A10, c10, rfl, -, hCX⟩ := HX.out.slice
      obtain ⟨A11, c11, rfl, -, hCY⟩ := HY.out.slice
      have HCX := Aside0.mk hCX
      have HCY := Aside0.mk hCY
      have HYl := Aside0.mk hyl
      have hYb : Y.length ≤ 64 := by omega
      have hKb := HF10.out
      rw [hKe] at hKb
      clear HNd HE HT HT2 hX hY hCX hCY hyl HD
      by_cases hlt : ((X.length : Nat) : Int) < s.K
      · rw [if_pos (by omega)] at hT
        subst hT
        clear hE hnd hKe
        go_wp2
        go_ret2
        exact ⟨_, rfl, ErrOr.err (by decide), below_later HB0.out HB0.out.size HB.out⟩
      · rw [if_neg (by omega)] at hT
        have hkx : K ≤ X.length := by omega
        obtain ⟨R, hR⟩ := hE (by omega)
        rw [hR, Option.getD_some] at hT
        have hlen := gao_length s.D X Y K R
        have HGao := Aside0.mk (gao_any (c := c10) (d := c11) HGr.out hDok HCX.out HCY.out (by omega) HYl.out hnd K hkx 1000 (by omega) hR)
        rcases gao_err s.D X Y K R with he | he
        · rw [if_neg (fun h => h he)] at hT
          rw [he, ← HK.out] at HGao
          have hlen := hlen he
          obtain ⟨m, hm⟩ : ∃ m, (s.D.gao X Y K R) = m := ⟨_, rfl⟩
          rw [hm] at HGao he hlen hT
          obtain ⟨m1, m2⟩ := m
          simp only at HGao he hlen hT
          subst he
          obtain ⟨msg, hmsg⟩ : ∃ msg, m1 ++ List.replicate (K - m1.length) 0 = msg := ⟨_, rfl⟩
          rw [hmsg] at hT
          have HMsg := Aside0.mk hmsg
          have HT := Aside0.mk hT
          have hsub : IntKind.i64.wrap (s.K - (m1.length : Int)) = s.K - (m1.length : Int) := w64 _ (by omega) (by omega)
          have hn0 : 0 ≤ s.K - (m1.length : Int) := by omega
          have hnn : (s.K - (m1.length : Int)).toNat = K - m1.length := by omega
          have HNn := Aside0.mk hnn
          clear hE hnd hKe hT hm hR hnn hmsg
          go_wp2_with (go_at_call 68; refine HGao.out.mono ?_; rintro e w1 ⟨v1, rfl, hr, hB⟩; have hO := hr.resolve_left (fun h => by cases h.1); have hO := hO.2; obtain ⟨Am, cm, rfl, hcm, hCm⟩ := hO.slice; have HOm := Aside0.mk hO; have HCm := Aside0.mk hCm; have HBm := Aside0.mk hB; have hS1 := HS.out.below (Below.trans HB.out (hB.mono HB.out.size)); have cP1 := hS1.p; have cM1 := hS1.m; have cMod1 := hS1.mod; have cK1 := hS1.k; have cPts1 := hS1.pts; have cMul1 := hS1.mults; clear hr hO hB hCm hS1)
          have HB1 := Aside0.mk (Below.trans HB.out (HBm.out.mono HB.out.size))
          have HO1 := Aside0.mk (HOm.out.lower HB.out.size)
          have hml : m1.length ≤ 64 := by omega
          go_region_held3 (fun w' => w'.cell? ⟨w.heap.size, 0, none⟩ = some (.int .i64 s.P) ∧ w'.cell? ⟨w.heap.size, 1, none⟩ = some (.int .i64 s.M) ∧ w'.cell? ⟨w.heap.size, 2, none⟩ = some (.slice A1 s.Mod.length c1) ∧ w'.cell? ⟨w.heap.size, 3, none⟩ = some (.int .i64 s.K) ∧ w'.cell? ⟨w.heap.size, 4, none⟩ = some (.slice A2 s.pts.length c2) ∧ w'.cell? ⟨w.heap.size, 5, none⟩ = some (.slice A3 s.mults.length c3)) (first | exact ⟨‹_›, ‹_›, ‹_›, ‹_›, ‹_›, ‹_›⟩ | go_keep)
            (first
              | (refine append_zeros_step (w0 := w0) (base := w0.heap.size) (xs := m1) (by rfl) (.tmp 72) (.tmp 77) rfl (s.K - (m1.length : Int)) rfl rfl ?_ hn0 ?_ ?_ (by omega) ?_; (first | exact HO1.out.drewN 1 | exact HO1.out | (trace_state; fail)); (first | exact (below_drew HB1.out).size | exact HB1.out.size); (first | exact below_drew HB1.out | exact HB1.out); intro v7 w7 hO7 hB7; rw [HNn.out, HMsg.out] at hO7; obtain ⟨A7, c7, rfl, hc7, hC7⟩ := hO7.slice; have HC7 := Aside0.mk hC7; have hS7 := HS.out.below hB7; have cP7 := hS7.p; have cM7 := hS7.m; have cMod7 := hS7.mod; have cK7 := hS7.k; have cPts7 := hS7.pts; have cMul7 := hS7.mults; have HB7 := Aside0.mk hB7; clear hO7 hB7 hC7 hS7)
              | (go_at_call 69; refine (Encode_any (s := s) (msg := msg) (HAr.out.below HB7.out) HC7.out).mono ?_; rw [HT.out]; rintro e w8 ⟨v8, rfl, hr8, hB8⟩; have HR8 := Aside0.mk hr8; have HB8 := Aside0.mk hB8; have hS8 := HS.out.below (Below.trans HB7.out (hB8.mono HB7.out.size)); have cP8 := hS8.p; have cM8 := hS8.m; have cMod8 := hS8.mod; have cK8 := hS8.k; have cPts8 := hS8.pts; have cMul8 := hS8.mults; clear hr8 hB8 hS8))
          all_goals go_wp2
          all_goals go_ret2
          all_goals
            have hb7 := Below.trans HB7.out (HB8.out.mono HB7.out.size)
            refine ⟨_, rfl, ?_, below_later HB0.out HB0.out.size hb7⟩
            rcases HR8.out with ⟨q1, q2⟩ | ⟨q1, q2⟩
            · exact .inl ⟨q1, q2⟩
            · exact .inr ⟨q1, q2.lower (Nat.le_trans HB0.out.size HB7.out.size)⟩
        · rw [if_pos (by rw [he]; decide)] at hT
          rw [he] at hT
          rw [he, ← HK.out] at HGao
          subst hT
          clear hE hnd hKe hR hlen he
          go_wp2_with (go_at_call 68; refine HGao.out.mono ?_; rintro e w1 ⟨v1, rfl, hr, hB⟩; have HB1 := Aside0.mk hB; clear hr hB)
          go_ret2
          exact ⟨_, rfl, ErrOr.err (by decide), below_later HB0.out HB0.out.size (Below.trans HB.out (HB1.out.mono HB.out.size))⟩
end Go.Proofs.Yticgblagimmlfaa

namespace Go.Proofs.Yticgblagimmlfaa
open Go.RowKit Go.Proofs.YticgblagimmlfaaW.PrintWords Go.Proofs.YticgblagimmlfaaW.PrintLast Go.Proofs.YticgblagimmlfaaW.PrintMore
set_option linter.unusedVariables false
set_option linter.unusedSimpArgs false

theorem new_goodM {w : World} {A : Option Addr} {c : Nat} (s : GD) (hl : Kd.C (Kd.int .i64) w A s.Mod.length s.Mod) (hb : fieldOk s.P s.M s.Mod = true) :
    Calls Try.prog 37 #[.agg #[.int .i64 s.P, .int .i64 s.M, .slice A s.Mod.length c]] w fun e w' => ∃ g, e = .returned (.tuple #[.pointer (some ⟨g, 0, none⟩), .int .i64 0]) ∧ GFat w' g s.D ∧ w.heap.size ≤ g ∧ Below w.heap.size w w' := by
  obtain ⟨m, hm⟩ := shapeZ_nat _ _ _ hb
  unfold GD.D
  rw [hm, Int.toNat_natCast]
  rw [hm] at hb
  exact new_good s.P m hl hb
theorem encZ_length (D : GFD) (pts mults msg : List Int) (h : mults.length = pts.length) : (encZ D pts mults msg).length = pts.length := by unfold encZ; simp [h]
theorem encode_length (s : GD) (h0 : s.open = 0) (m : List Int) (h : (s.encode m).2 = 0) : (s.encode m).1.length = s.pts.length := by
  obtain ⟨-, -, -, f4, -⟩ := open_facts s h0
  unfold GD.encode at h ⊢
  rw [if_neg (fun hn => hn h0)] at h ⊢
  split at h
  · cases h
  · rename_i h1
    rw [if_neg h1]
    split at h
    · cases h
    · rename_i h2
      rw [if_neg h2]
      exact encZ_length _ _ _ _ f4
theorem codeword_length (s : GD) (h0 : s.open = 0) (l : List Int) (er : List Bool) (h : (s.codeword l er).2 = 0) : (s.codeword l er).1.length = s.pts.length := by
  unfold GD.codeword at h ⊢
  by_cases h1 : ((keptX s.pts er s.pts.length).length : Int) < s.K
  · rw [if_pos h1] at h; cases h
  · rw [if_neg h1] at h ⊢
    by_cases h2 : (s.gaoZ l er).2 ≠ 0
    · rw [if_pos h2] at h; exact absurd h h2
    · rw [if_neg h2] at h ⊢
      exact encode_length s h0 _ h
theorem wordZ_zero (D : GFD) (l : List Int) (n : Nat) (er : List Int) (h : wordZ D l n er = 0) : l.length = n ∧ l.all D.is = true ∧ er.all (posB n) = true ∧ er.Nodup := by
  unfold wordZ at h
  by_cases h1 : l.length ≠ n
  · rw [if_pos h1] at h; cases h
  rw [if_neg h1] at h
  by_cases h2 : l.all D.is = false
  · rw [if_pos h2] at h; cases h
  rw [if_neg h2] at h
  by_cases h3 : er.all (posB n) = false
  · rw [if_pos h3] at h; cases h
  rw [if_neg h3] at h
  by_cases h4 : ¬ er.Nodup
  · rw [if_pos h4] at h; cases h
  exact ⟨by omega, by simpa using h2, by simpa using h3, Classical.not_not.1 h4⟩

/-- The boxed result, still zero. -/
structure R2 (w : World) (b : Nat) : Prop where
  r0 : w.cell? ⟨b, 0, none⟩ = some (.slice none 0 0)
  r1 : w.cell? ⟨b, 1, none⟩ = some (.slice none 0 0)
  f0 : w.frozen? ⟨b, 0, none⟩ = false
  f1 : w.frozen? ⟨b, 1, none⟩ = false
theorem R2.new (w : World) : R2 (w.alloc (.cells #[.slice none 0 0, .slice none 0 0] 34)) w.heap.size :=
  ⟨cell_alloc2_0 _ _ _ _, cell_alloc2_1 _ _ _ _, World.frozen?_alloc_new _ _ _ _, World.frozen?_alloc_new _ _ _ _⟩
theorem R2.below {w w1 : World} {b : Nat} (h : R2 w b) (hb : Below (b + 1) w w1) : R2 w1 b :=
  ⟨(hb.cell (by simp)).trans h.r0, (hb.cell (by simp)).trans h.r1, (hb.frozen (by simp)).trans h.f0, (hb.frozen (by simp)).trans h.f1⟩
theorem R2.last {w : World} {b : Nat} (h : R2 w b) (v0 v1 : Value) : ((w.setCell ⟨b, 0, none⟩ v0).setCell ⟨b, 1, none⟩ v1).cell? ⟨b, 0, none⟩ = some v0 ∧ ((w.setCell ⟨b, 0, none⟩ v0).setCell ⟨b, 1, none⟩ v1).cell? ⟨b, 1, none⟩ = some v1 := by
  refine ⟨?_, World.cell?_setCell_same _ _ _ (u := .slice none 0 0) ?_⟩
  · rw [World.cell?_setCell_other _ _ _ _ (by simp)]
    exact World.cell?_setCell_same _ _ _ h.r0
  · rw [World.cell?_setCell_other _ _ _ _ (by simp)]; exact h.r1
theorem R2.last0 {w : World} {b : Nat} (v0 v1 : Value) (n : Nat) (hb : n ≤ b) : Below n w ((w.setCell ⟨b, 0, none⟩ v0).setCell ⟨b, 1, none⟩ v1) := ((Below.refl _ _).setCell (p := ⟨b, 0, none⟩) hb _).setCell (p := ⟨b, 1, none⟩) hb _

theorem Rd.setSlot {w : World} {v : Value} {l : List Int} (h : Rd w v l) {p : Addr} {A0 : Option Addr} {n0 c0 : Nat} (hc : w.cell? p = some (.slice A0 n0 c0)) (u : Value) : Rd (w.setCell p u) v l := by
  obtain ⟨A, c, e, hl, hC⟩ := h.out
  have hR : ReadsOf (Value.int .i64) 0 w A l.length l := Kd.reads_of_C hC
  refine ⟨A, c, e, hl, Kd.C_of_reads (enc := Value.int .i64) (d := 0) ⟨hR.1, hR.2.1, fun hn => ?_⟩⟩
  obtain ⟨ad, ea, hcc⟩ := hR.2.2 hn
  refine ⟨ad, ea, fun j hj => ?_⟩
  rw [World.cell?_setCell_other]
  · exact hcc j hj
  · rintro rfl
    rw [hcc j hj] at hc
    cases hc
theorem Rd.last {w : World} {b : Nat} {v : Value} {l : List Int} (h : Rd w v l) (hr : R2 w b) (v0 v1 : Value) : Rd ((w.setCell ⟨b, 0, none⟩ v0).setCell ⟨b, 1, none⟩ v1) v l := by
  refine (h.setSlot hr.r0 v0).setSlot (A0 := none) (n0 := 0) (c0 := 0) ?_ v1
  rw [World.cell?_setCell_other _ _ _ _ (by simp)]
  exact hr.r1

set_option maxHeartbeats 8000000 in
set_option maxRecDepth 100000 in
theorem GRS_any {w : World} {v : Value} {s : GD} (h : GArg w v s) {B E : Option Addr} {dd ee : Nat} {l er : List Int} (hl : Kd.C (Kd.int .i64) w B l.length l) (he : Kd.C (Kd.int .i64) w E er.length er)
    (hE : s.open = 0 → wordZ s.D l s.pts.length er = 0 → s.ends l (marksZ s.pts.length er)) :
    Calls Try.prog 15 #[v, .slice B l.length dd, .slice E er.length ee] w fun e w' => ∃ v', e = .returned (.tuple #[v', .int .i64 (s.decode l er).2.2]) ∧ DecIs w' v' (s.decode l er) ∧ Below w.heap.size w w' := by
  obtain ⟨A1, c1, A2, c2, A3, c3, rfl, g1, l1, g2, l2, g3, l3⟩ := h.out
  have hS0 := SAt.new w s A1 c1 A2 c2 A3 c3
  obtain ⟨w0, hw0⟩ : ∃ w0, w.alloc (.cells #[.int .i64 s.P, .int .i64 s.M, .slice A1 s.Mod.length c1, .int .i64 s.K, .slice A2 s.pts.length c2, .slice A3 s.mults.length c3] 29) = w0 := ⟨_, rfl⟩
  have hB0 : Below w.heap.size w w0 := by rw [← hw0]; exact below_alloc (Below.refl _ _) _
  have hsz : w0.heap.size = w.heap.size + 1 := by rw [← hw0]; simp
  rw [hw0] at hS0
  have hR0 := R2.new w0
  obtain ⟨w1, hw1⟩ : ∃ w1, w0.alloc (.cells #[.slice none 0 0, .slice none 0 0] 34) = w1 := ⟨_, rfl⟩
  have hB1 : Below w0.heap.size w0 w1 := by rw [← hw1]; exact below_alloc (Below.refl _ _) _
  have hsz1 : w1.heap.size = w.heap.size + 2 := by rw [← hw1]; simp; omega
  rw [hw1, hsz] at hR0
  have HB1 := Aside0.mk (below_later hB0 hB0.size hB1)
  have HS := Aside0.mk (hS0.below hB1)
  have HR := Aside0.mk hR0
  have HAr := Aside0.mk (h.below HB1.out)
  have HMod := Aside0.mk (Kd.C_below g1 HB1.out)
  have HL := Aside0.mk (Kd.C_below hl HB1.out)
  have HEr := Aside0.mk (Kd.C_below he HB1.out)
  have HW := Aside0.mk hw0
  have HW1 := Aside0.mk hw1
  have HZ := Aside0.mk hsz1
  have HBr := Aside0.mk (Below.refl w1.heap.size w1)
  have hem := Kd.C_max he
  obtain ⟨T, hT⟩ : ∃ T, s.decode l er = T := ⟨_, rfl⟩
  rw [hT]
  unfold GD.decode at hT
  by_cases ho : s.open ≠ 0
  · rw [if_pos ho] at hT
    subst hT
    have HO := fun (w2 : World) (hb : Below w1.heap.size w1 w2) => Aside0.mk (grsCheck_any (HAr.out.below hb))
    obtain ⟨o, hoo⟩ : ∃ o, s.open = o := ⟨_, rfl⟩
    simp only [hoo] at HO ⊢
    rw [hoo] at ho
    have hob : (o == 0) = false := by simp [ho]
    have hob2 : (o != 0) = true := by simp [ho]
    have r0 := HR.out.r0
    have r1 := HR.out.r1
    have f0 := HR.out.f0
    have f1 := HR.out.f1
    clear h g1 g2 g3 hS0 hB0 hw0 hsz hR0 hw1 hB1 hsz1 hl he hE hoo ho
    go_enter Try.func15, Try.ntmps15
    go_upto_region 1 with (fail)
    rw [HW.out]
    rw [HW1.out]
    have cP := HS.out.p
    have cM := HS.out.m
    have cMod := HS.out.mod
    have cK := HS.out.k
    have cPts := HS.out.pts
    have cMul := HS.out.mults
    go_wp2_with (go_at_call 36; refine (HO _ HBr.out).out.mono ?_; rintro e w2 ⟨rfl, hB⟩; have HB2 := Aside0.mk hB; have hR2 := HR.out.below (hB.mono (by have := HZ.out; omega)); have HR2 := Aside0.mk hR2; have r0 := hR2.r0; have r1 := hR2.r1; have f0 := hR2.f0; have f1 := hR2.f1; clear hB hR2)
    obtain ⟨q0, q1⟩ := HR2.out.last (.slice none 0 0) (.slice none 0 0)
    refine results34 rfl rfl q0 q1 rfl ?_
    exact ⟨_, rfl, ⟨_, _, rfl, Rd.nil _, Rd.nil _⟩, Below.trans (Below.trans HB1.out (HB2.out.mono (by have := HZ.out; omega))) (R2.last0 _ _ _ (by omega))⟩
  · have ho0 : s.open = 0 := Classical.not_not.1 ho
    rw [if_neg ho] at hT
    obtain ⟨f1, f2, f3, f4, f5, f6, f7, f8, f9, f10⟩ := open_facts s ho0
    have HO := fun (w2 : World) (hb : Below w1.heap.size w1 w2) => Aside0.mk (grsCheck_any (HAr.out.below hb))
    simp only [ho0] at HO
    have HN := fun (w2 : World) (hb : Below w1.heap.size w1 w2) => Aside0.mk (new_goodM (c := c1) s (Kd.C_below HMod.out hb) f1)
    have HWd := fun (w2 : World) (hb : Below w1.heap.size w1 w2) (g : Nat) (hg : GFat w2 g s.D) => Aside0.mk (word_any (c := dd) (d := ee) hg s.pts.length (by omega) (Kd.C_below HL.out hb) (Kd.C_below HEr.out hb))
    have HHO := Aside0.mk HO
    have HHN := Aside0.mk HN
    have HHW := Aside0.mk HWd
    have HO0 := Aside0.mk ho0
    have HE := Aside0.mk (hE ho0)
    have HF9 := Aside0.mk f9
    have HF10 := Aside0.mk f10
    have HT := Aside0.mk hT
    clear h g1 g2 g3 hS0 hB0 hw0 hsz hR0 hw1 hB1 hsz1 hl he hE ho ho0 HO HN HWd f1 f4 f5 f6 f7 f8 f9 f10 hT
    obtain ⟨e1, he1⟩ : ∃ e1, wordZ s.D l s.pts.length er = e1 := ⟨_, rfl⟩
    rw [he1] at HE HHW HT
    have HE1 := Aside0.mk he1
    clear he1
    by_cases he1 : e1 ≠ 0
    · have hT := HT.out
      rw [if_pos he1] at hT
      subst hT
      have hob : (e1 == 0) = false := by simp [he1]
      have hob2 : (e1 != 0) = true := by simp [he1]
      clear HT HE he1
      go_enter Try.func15, Try.ntmps15
      go_upto_region 1 with (fail)
      rw [HW.out, HW1.out]
      have cP := HS.out.p
      have cM := HS.out.m
      have cMod := HS.out.mod
      have cK := HS.out.k
      have cPts := HS.out.pts
      have cMul := HS.out.mults
      go_wp2_with (first
        | (go_at_call 36; refine (HHO.out _ HBr.out).out.mono ?_; rintro e w2 ⟨rfl, hB⟩; have HB2 := Aside0.mk hB; have hS2 := HS.out.below (hB.mono (by have := HZ.out; omega)); have cP2 := hS2.p; have cM2 := hS2.m; have cMod2 := hS2.mod; clear hB hS2)
        | (go_at_call 37; refine (HHN.out _ HB2.out).out.mono ?_; rintro e w3 ⟨g, rfl, hg, -, hB⟩; have HB3 := Aside0.mk (below_later HB2.out HB2.out.size hB); have HG3 := Aside0.mk hg; have hS3 := HS.out.below (HB3.out.mono (by have := HZ.out; omega)); have cPts3 := hS3.pts; clear hB hS3 hg)
        | (go_at_call 38; refine (HHW.out _ HB3.out g HG3.out).out.mono ?_; rintro e w4 ⟨rfl, hB⟩; have HB4 := Aside0.mk (below_later HB3.out HB3.out.size hB); have hR2 := HR.out.below (HB4.out.mono (by have := HZ.out; omega)); have HR2 := Aside0.mk hR2; have r0 := hR2.r0; have r1 := hR2.r1; have f0 := hR2.f0; have f1 := hR2.f1; clear hB hR2))
      obtain ⟨q0, q1⟩ := HR2.out.last (.slice none 0 0) (.slice none 0 0)
      refine results34 rfl rfl q0 q1 rfl ?_
      exact ⟨_, rfl, ⟨_, _, rfl, Rd.nil _, Rd.nil _⟩, Below.trans (Below.trans HB1.out (HB4.out.mono (by have := HZ.out; omega))) (R2.last0 _ _ _ (by omega))⟩
    · have he0 : e1 = 0 := Classical.not_not.1 he1
      subst he0
      have hT := HT.out
      rw [if_neg (by simp)] at hT
      obtain ⟨k1, k2, k3, k4⟩ := wordZ_zero _ _ _ _ HE1.out
      have hEnd := HE.out rfl
      have hMl := marksZ_length s.pts.length er
      have HMk := fun (w2 : World) (hb : Below w1.heap.size w1 w2) => Aside0.mk (marks_any (d := ee) s.pts.length (by omega) (Kd.C_below HEr.out hb) k3)
      obtain ⟨Mk, hMk⟩ : ∃ Mk, marksZ s.pts.length er = Mk := ⟨_, rfl⟩
      rw [hMk] at hEnd hMl hT
      simp only [hMk] at HMk
      have hcl := codeword_length s HO0.out l Mk
      have HCw := fun (w2 : World) (hb : Below w1.heap.size w1 w2) (g : Nat) (hg : GFat w2 g s.D) (E' : Option Addr) (e' : Nat) (he' : Kd.bool.C w2 E' Mk.length Mk) => Aside0.mk (codeword_any (dd := dd) (ee := e') hg (HAr.out.below hb) HO0.out (Kd.C_below HL.out hb) he' k1 hMl hEnd)
      obtain ⟨T2, hT2⟩ : ∃ T2, s.codeword l Mk = T2 := ⟨_, rfl⟩
      simp only [hT2] at HCw
      rw [hT2] at hT hcl
      obtain ⟨cw, e2⟩ := T2
      simp only at hT hcl HCw
      have HHM := Aside0.mk HMk
      have HHC := Aside0.mk HCw
      have HMl := Aside0.mk hMl
      have HLl := Aside0.mk k1
      have her : er.length ≤ s.pts.length := nodup_bound s.pts.length er k4 (fun x hx => of_decide_eq_true (List.all_eq_true.1 k3 x hx))
      have HT := Aside0.mk hT
      have HCl := Aside0.mk hcl
      clear HMk HCw k1 k2 k3 k4 hEnd hMl hMk hT2 hT hcl HE he1
      go_enter Try.func15, Try.ntmps15
      go_upto_region 1 with (fail)
      rw [HW.out, HW1.out]
      have cP := HS.out.p
      have cM := HS.out.m
      have cMod := HS.out.mod
      have cK := HS.out.k
      have cPts := HS.out.pts
      have cMul := HS.out.mults
      go_wp2_with (first
        | (go_at_call 36; refine (HHO.out _ HBr.out).out.mono ?_; rintro e w2 ⟨rfl, hB⟩; have HB2 := Aside0.mk hB; have hS2 := HS.out.below (hB.mono (by have := HZ.out; omega)); have cP2 := hS2.p; have cM2 := hS2.m; have cMod2 := hS2.mod; clear hB hS2)
        | (go_at_call 37; refine (HHN.out _ HB2.out).out.mono ?_; rintro e w3 ⟨g, rfl, hg, -, hB⟩; have HB3 := Aside0.mk (below_later HB2.out HB2.out.size hB); have HG3 := Aside0.mk hg; have hS3 := HS.out.below (HB3.out.mono (by have := HZ.out; omega)); have cPts3 := hS3.pts; clear hB hS3 hg)
        | (go_at_call 38; refine (HHW.out _ HB3.out g HG3.out).out.mono ?_; rintro e w4 ⟨rfl, hB⟩; have HG4 := Aside0.mk (HG3.out.below hB); have HB4 := Aside0.mk (below_later HB3.out HB3.out.size hB); have hS4 := HS.out.below (HB4.out.mono (by have := HZ.out; omega)); have cP4 := hS4.p; have cM4 := hS4.m; have cMod4 := hS4.mod; have cK4 := hS4.k; have cPts4 := hS4.pts; have cMul4 := hS4.mults; clear hB hS4))
      go_cut [13, 14] (fun v13 v14 wc => v14 = .int .i64 e2 ∧ Aside0 (ErrOr wc w1.heap.size v13 (cw, e2)) ∧ Aside0 (Below w1.heap.size w1 wc))
      case first =>
        go_region_held3 (fun w' => w'.cell? ⟨w.heap.size, 0, none⟩ = some (.int .i64 s.P) ∧ w'.cell? ⟨w.heap.size, 1, none⟩ = some (.int .i64 s.M) ∧ w'.cell? ⟨w.heap.size, 2, none⟩ = some (.slice A1 s.Mod.length c1) ∧ w'.cell? ⟨w.heap.size, 3, none⟩ = some (.int .i64 s.K) ∧ w'.cell? ⟨w.heap.size, 4, none⟩ = some (.slice A2 s.pts.length c2) ∧ w'.cell? ⟨w.heap.size, 5, none⟩ = some (.slice A3 s.mults.length c3)) (first | exact ⟨‹_›, ‹_›, ‹_›, ‹_›, ‹_›, ‹_›⟩ | go_keep)
          (first
            | (go_at_call 40; (first | refine (HHM.out _ HB4.out).out.mono ?_ | refine (HHM.out _ (below_drew HB4.out)).out.mono ?_); rintro e w5 ⟨v5, rfl, hO, hB⟩; obtain ⟨A5, c5, rfl, hc5, hC5⟩ := hO.slice; (first | have HG5 := Aside0.mk (HG4.out.below hB) | have HG5 := Aside0.mk ((HG4.out.below (below_drew (Below.refl _ _))).below hB)); (first | have HB5 := Aside0.mk (below_later HB4.out HB4.out.size hB) | have HB5 := Aside0.mk (below_later (below_drew HB4.out) (below_drew HB4.out).size hB)); have HC5 := Aside0.mk hC5; have hS5 := HS.out.below (HB5.out.mono (by have := HZ.out; omega)); have cP5 := hS5.p; have cM5 := hS5.m; have cMod5 := hS5.mod; have cK5 := hS5.k; have cPts5 := hS5.pts; have cMul5 := hS5.mults; clear hO hB hC5 hS5)
            | (go_at_call 39; refine (HHC.out _ HB5.out g HG5.out _ _ HC5.out).out.mono ?_; rintro e w6 ⟨v6, rfl, hr, hB⟩; have HR6 := Aside0.mk hr; have hB6 := below_later HB5.out HB5.out.size hB; have HB6 := Aside0.mk hB6; have hS6 := HS.out.below (hB6.mono (by have := HZ.out; omega)); have cP6 := hS6.p; have cM6 := hS6.m; have cMod6 := hS6.mod; have cK6 := hS6.k; have cPts6 := hS6.pts; have cMul6 := hS6.mults; clear hr hB hB6 hS6))
        all_goals go_wp2
        all_goals go_meet
        all_goals
          refine ⟨rfl, ⟨?_⟩, HB6⟩
          rcases HR6.out with ⟨q1, q2⟩ | ⟨q1, q2⟩
          · exact .inl ⟨q1, q2⟩
          · exact .inr ⟨q1, q2.lower HB5.out.size⟩
      case rest =>
        obtain ⟨rfl, HR6, HB6⟩ := hcut
        by_cases he2 : e2 ≠ 0
        · have hT := HT.out
          rw [if_pos he2] at hT
          subst hT
          have hob : (e2 == 0) = false := by simp [he2]
          have hob2 : (e2 != 0) = true := by simp [he2]
          have hR2 := HR.out.below (HB6.out.mono (by have := HZ.out; omega))
          have HR2 := Aside0.mk hR2
          have r0 := hR2.r0
          have r1 := hR2.r1
          have f0 := hR2.f0
          have f1 := hR2.f1
          clear HT he2 hR2
          go_wp2
          obtain ⟨q0, q1⟩ := HR2.out.last (.slice none 0 0) (.slice none 0 0)
          refine results34 rfl rfl q0 q1 rfl ?_
          exact ⟨_, rfl, ⟨_, _, rfl, Rd.nil _, Rd.nil _⟩, Below.trans (Below.trans HB1.out (HB6.out.mono (by have := HZ.out; omega))) (R2.last0 _ _ _ (by omega))⟩
        · have he0 : e2 = 0 := Classical.not_not.1 he2
          subst he0
          have hT := HT.out
          rw [if_neg (by simp)] at hT
          have hO6 := HR6.out.resolve_left (fun h => h.1 rfl)
          have hO6 := hO6.2
          dsimp only at hO6
          obtain ⟨A6, c6, rfl, hc6, hC6⟩ := hO6.slice
          have HC6 := Aside0.mk hC6
          have hcl := HCl.out rfl
          have hlc : l.length = cw.length := by rw [hcl]; exact HLl.out
          have hmc : Mk.length = cw.length := by rw [hcl]; exact HMl.out
          obtain ⟨t, ht⟩ : ∃ t, radiusZ ((s.pts.length : Int) - s.K + 1) er.length = t := ⟨_, rfl⟩
          rw [ht] at hT
          have HRz := fun (w2 : World) => Aside0.mk (radius_any ((s.pts.length : Int) - s.K + 1) (er.length : Int) w2)
          rw [radiusW_eq _ _ (by have := HF9.out; have := HF10.out; omega) (by have := HF9.out; have := HF10.out; omega) (by omega) (by omega), ht] at HRz
          have hs1 : IntKind.i64.wrap ((s.pts.length : Int) - s.K) = (s.pts.length : Int) - s.K := w64 _ (by have := HF9.out; have := HF10.out; omega) (by have := HF9.out; have := HF10.out; omega)
          have hs2 : IntKind.i64.wrap ((s.pts.length : Int) - s.K + 1) = (s.pts.length : Int) - s.K + 1 := w64 _ (by have := HF9.out; have := HF10.out; omega) (by have := HF9.out; have := HF10.out; omega)
          have HRs := fun (w2 : World) (hb : Below w1.heap.size w1 w2) (E' : Option Addr) (e' : Nat) (hc' : Kd.C (Kd.int .i64) w2 A6 cw.length cw) (he' : Kd.bool.C w2 E' Mk.length Mk) => Aside0.mk (result_any (dd := dd) (ee := e') t hc' hc6 (Kd.C_below HL.out hb) he' hlc hmc (by have := HLl.out; omega))
          simp only [hT] at HRs
          have HHR := Aside0.mk HRs
          have HHZ := Aside0.mk HRz
          have hR2 := HR.out.below (HB6.out.mono (by have := HZ.out; omega))
          have hS6 := HS.out.below (HB6.out.mono (by have := HZ.out; omega))
          have cK := hS6.k
          have r0 := hR2.r0
          have r1 := hR2.r1
          have f0 := hR2.f0
          have f1 := hR2.f1
          clear HT he2 hR2 hS6 hT hO6 hC6 hcl hlc hmc ht HRz HRs
          go_wp2
          go_region_held3 (fun w' => w'.cell? ⟨w.heap.size, 3, none⟩ = some (.int .i64 s.K)) (first | exact ‹_› | go_keep)
            (first
              | (go_at_call 40; (first | refine (HHM.out _ HB6.out).out.mono ?_ | refine (HHM.out _ (below_drew HB6.out)).out.mono ?_); rintro e w7 ⟨v7, rfl, hO, hB⟩; obtain ⟨A7, c7, rfl, hc7, hC7⟩ := hO.slice; (first | have HB7 := Aside0.mk (below_later HB6.out HB6.out.size hB) | have HB7 := Aside0.mk (below_later (below_drew HB6.out) (below_drew HB6.out).size hB)); (first | have HC67 := Aside0.mk (Kd.C_below HC6.out hB) | have HC67 := Aside0.mk (Kd.C_below (Kd.C_drew HC6.out) hB)); have HC7 := Aside0.mk hC7; have hS7 := HS.out.below (HB7.out.mono (by have := HZ.out; omega)); have hR7 := HR.out.below (HB7.out.mono (by have := HZ.out; omega)); have cK7 := hS7.k; have r07 := hR7.r0; have r17 := hR7.r1; have f07 := hR7.f0; have f17 := hR7.f1; clear hO hB hC7 hS7 hR7)
              | (go_at_call 12; refine (HHZ.out _).out.mono ?_; rintro e w8 ⟨rfl, hd⟩; have HB8 := Aside0.mk (HB7.out.below'' hd); have HC8 := Aside0.mk (Kd.C_below HC67.out hd.below); have HC78 := Aside0.mk (Kd.C_below HC7.out hd.below); have hS8 := HS.out.below (HB8.out.mono (by have := HZ.out; omega)); have hR8 := HR.out.below (HB8.out.mono (by have := HZ.out; omega)); have cK8 := hS8.k; have r08 := hR8.r0; have r18 := hR8.r1; have f08 := hR8.f0; have f18 := hR8.f1; clear hd hS8 hR8)
              | (go_at_call 41; refine (HHR.out _ HB8.out _ _ HC8.out HC78.out).out.mono ?_; rintro e w9 ⟨v9, rfl, ⟨p0, p1, rfl, hp0, hp1⟩, hB⟩; obtain ⟨B0, d0, rfl, -, -⟩ := hp0.out; obtain ⟨B1, d1, rfl, -, -⟩ := hp1.out; have HP0 := Aside0.mk hp0; have HP1 := Aside0.mk hp1; have HB9 := Aside0.mk (below_later HB8.out HB8.out.size hB); have hS9 := HS.out.below (HB9.out.mono (by have := HZ.out; omega)); have hR9 := HR.out.below (HB9.out.mono (by have := HZ.out; omega)); have HR9 := Aside0.mk hR9; have cK9 := hS9.k; have r09 := hR9.r0; have r19 := hR9.r1; have f09 := hR9.f0; have f19 := hR9.f1; clear hp0 hp1 hB hS9 hR9))
          all_goals go_wp2
          all_goals
            obtain ⟨q0, q1⟩ := HR9.out.last (.slice B0 T.fst.length d0) (.slice B1 T.snd.fst.length d1)
            refine results34 rfl rfl q0 q1 rfl ?_
            exact ⟨_, rfl, ⟨_, _, rfl, HP0.out.last HR9.out _ _, HP1.out.last HR9.out _ _⟩, Below.trans (Below.trans HB1.out (HB9.out.mono (by have := HZ.out; omega))) (R2.last0 _ _ _ (by omega))⟩
end Go.Proofs.Yticgblagimmlfaa

namespace Go.Proofs.Yticgblagimmlfaa
open Go.RowKit Go.Proofs.YticgblagimmlfaaW.PrintWords Go.Proofs.YticgblagimmlfaaW.PrintLast Go.Proofs.YticgblagimmlfaaW.PrintMore
set_option linter.unusedVariables false
set_option linter.unusedSimpArgs false

theorem take_ne_of (a b : List Int) (k : Nat) (hl : a.length = b.length) (hk : k < a.length) (h : a.getD k 0 ≠ b.getD k 0) : a ≠ b := by
  rintro rfl; exact h rfl
theorem take_eq_succ (a b : List Int) (k : Nat) (hl : a.length = b.length) (hk : k < a.length) (h : a.getD k 0 = b.getD k 0) (ht : a.take k = b.take k) : a.take (k + 1) = b.take (k + 1) := by
  rw [take_succ_rd a k hk, take_succ_rd b k (by omega), h, ht]

theorem same_any {w : World} {A B : Option Addr} {c d : Nat} {a b : List Int} (ha : Kd.C (Kd.int .i64) w A a.length a) (hb : Kd.C (Kd.int .i64) w B b.length b) :
    Calls Try.prog 23 #[.slice A a.length c, .slice B b.length d] w fun e w' => e = .returned (.bool (decide (a = b))) ∧ Drawn0 w w' := by
  have HA := Aside0.mk ha
  have HB := Aside0.mk hb
  have hm := Kd.C_max ha
  have hm2 := Kd.C_max hb
  obtain ⟨R, hR⟩ : ∃ R, decide (a = b) = R := ⟨_, rfl⟩
  rw [hR]
  by_cases hl : a.length = b.length
  · have hlb : ((a.length : Int) != (b.length : Int)) = false := by simp [hl]
    have HR := Aside0.mk hR
    have HL := Aside0.mk hl
    clear hR ha hb hl
    go_enter Try.func23, Try.ntmps23
    go_wp2
    go_loopw [13] (fun v13 w' => ∃ k : Nat, v13 = .int .i64 k ∧ k ≤ a.length ∧ Aside0 (a.take k = b.take k) ∧ Drawn0 w w') (fun v13 _ => a.length - (intOf v13).toNat)
    case atStart => exact ⟨0, rfl, by omega, ⟨by simp⟩, Drawn0.refl _⟩
    case round =>
      obtain ⟨k, rfl, hk, HT, hd⟩ := hrel
      by_cases hlk : k < a.length
      · obtain ⟨ad, e, hx⟩ := C_nat (Kd.C_below HA.out hd.below) k hlk
        cases e
        have hlk2 : k < b.length := by have := HL.out; omega
        obtain ⟨ad2, e, hy⟩ := C_nat (Kd.C_below HB.out hd.below) k hlk2
        cases e
        have hne := take_ne_of a b k HL.out hlk
        have heq := take_eq_succ a b k HL.out hlk
        obtain ⟨x, hx'⟩ : ∃ x, a.getD k 0 = x := ⟨_, rfl⟩
        obtain ⟨y, hy'⟩ : ∃ x, b.getD k 0 = x := ⟨_, rfl⟩
        rw [hx'] at hx hne heq
        rw [hy'] at hy hne heq
        by_cases hxy : x = y
        · have HT2 := Aside0.mk (heq hxy HT.out)
          have hxb : (x != y) = false := by simp [hxy]
          clear hne heq hx' hy' HT hxy
          go_wp2
          go_quiet (fail)
          go_wp2
          go_roundw
          case rel => exact ⟨k + 1, by go_num, by omega, HT2, Drawn0.trans hd ⟨_, rfl⟩⟩
          case measure => simp [intOf]; omega
        · have hRf : false = R := by rw [← HR.out]; simp [hne hxy]
          have hxb : (x != y) = true := by simp [hxy]
          subst hRf
          clear hne heq hx' hy' HT hxy HR
          go_wp2
          go_quiet (fail)
          go_wp2
          go_ret
          exact ⟨rfl, Drawn0.trans hd ⟨_, rfl⟩⟩
      · obtain rfl : k = a.length := by omega
        have hab : a = b := by
          have := HT.out
          rw [List.take_length, HL.out, List.take_length] at this
          exact this
        have hRt : true = R := by rw [← HR.out]; simp [hab]
        subst hRt
        clear HT HR hab
        go_wp2
        go_ret
        exact ⟨rfl, hd⟩
  · have hRf : false = R := by rw [← hR]; simp; intro e; exact hl (by rw [e])
    subst hRf
    have hlb : ((a.length : Int) != (b.length : Int)) = true := by simp only [bne_iff_ne, ne_eq]; omega
    clear hR ha hb hl
    go_enter Try.func23, Try.ntmps23
    go_wp2
    go_ret
    exact ⟨rfl, Drawn0.refl _⟩

theorem same_n {w : World} {A B : Option Addr} {c d n m : Nat} {a b : List Int} (ha : Kd.C (Kd.int .i64) w A n a) (hb : Kd.C (Kd.int .i64) w B m b) (r : Bool) (hr : decide (a = b) = r) :
    Calls Try.prog 23 #[.slice A n c, .slice B m d] w fun e w' => e = .returned (.bool r) ∧ Drawn0 w w' := by
  have h1 := Kd.C_len ha
  have h2 := Kd.C_len hb
  subst h1 h2 hr
  exact same_any ha hb

theorem radius_30 (w : World) : Calls Try.prog 12 #[.int .i64 3, .int .i64 0] w fun e w' => e = .returned (.int .i64 1) ∧ Drawn0 w w' := by
  have h := radius_any 3 0 w
  rw [radiusW_eq 3 0 (by omega) (by omega) (by omega) (by omega), show radiusZ 3 0 = 1 from by unfold radiusZ; rw [if_neg (by omega)]; rfl] at h
  exact h
def aliveS : GD := { P := 2, M := 2, Mod := [1, 1], K := 2, pts := [0, 1, 2, 3], mults := [1, 1, 1, 1] }
theorem alive_decode : aliveS.decode [1, 1, 1, 0] [] = ([1, 1, 1, 1], [3], 0) := by decide +kernel
theorem alive_eucl : (aliveS.eucl [1, 1, 1, 0] (marksZ 4 [])).isSome = true := by decide +kernel

theorem lit4 (w : World) (a b c d : Int) : Kd.C (Kd.int .i64) (w.alloc (.cells #[.int .i64 a, .int .i64 b, .int .i64 c, .int .i64 d] 3)) (some ⟨w.heap.size, 0, none⟩) 4 [a, b, c, d] := by
  have h : Own (w.alloc (.cells #[.int .i64 a, .int .i64 b, .int .i64 c, .int .i64 d] 3)) w.heap.size (.slice (some ⟨w.heap.size, 0, none⟩) 4 4) [a, b, c, d] :=
    ⟨Kd.R_of_own (enc := Value.int .i64) (own_lit_of w w.heap.size 3 [a, b, c, d] (Nat.le_refl _) (by simp)) (fun _ _ => trivial)⟩
  obtain ⟨A, c, e, -, hC⟩ := h.slice
  injection e with e1 e2 e3
  subst e1
  exact hC
theorem lit1 (w : World) (a : Int) : Kd.C (Kd.int .i64) (w.alloc (.cells #[.int .i64 a] 3)) (some ⟨w.heap.size, 0, none⟩) 1 [a] := by
  obtain ⟨A, c, e, -, hC⟩ := (own_lit1 w a).slice
  injection e with e1 e2 e3
  subst e1
  exact hC
theorem lit2 (w : World) (a b : Int) : Kd.C (Kd.int .i64) (w.alloc (.cells #[.int .i64 a, .int .i64 b] 3)) (some ⟨w.heap.size, 0, none⟩) 2 [a, b] := by
  obtain ⟨A, c, e, -, hC⟩ := (own_lit2 w a b).slice
  injection e with e1 e2 e3
  subst e1
  exact hC

theorem lit4_at (w : World) (u : Nat) (h : u = w.heap.size) (a b c d : Int) : Kd.C (Kd.int .i64) (w.alloc (.cells #[.int .i64 a, .int .i64 b, .int .i64 c, .int .i64 d] 3)) (some ⟨u, 0, none⟩) 4 [a, b, c, d] := by subst h; exact lit4 w a b c d
theorem lit1_at (w : World) (u : Nat) (h : u = w.heap.size) (a : Int) : Kd.C (Kd.int .i64) (w.alloc (.cells #[.int .i64 a] 3)) (some ⟨u, 0, none⟩) 1 [a] := by subst h; exact lit1 w a
/-- The call of alive. -/
theorem alive_call (w : World) : Calls Try.prog 15 #[.agg #[.int .i64 2, .int .i64 2, .slice (some ⟨w.heap.size, 0, none⟩) 2 2, .int .i64 2, .slice (some ⟨w.heap.size + 1, 0, none⟩) 4 4, .slice (some ⟨w.heap.size + 1 + 1, 0, none⟩) 4 4], .slice (some ⟨w.heap.size + 1 + 1 + 1 + 1, 0, none⟩) 4 4, .slice none 0 0]
    (((((w.alloc (.cells #[.int .i64 1, .int .i64 1] 3)).alloc (.cells #[.int .i64 0, .int .i64 1, .int .i64 2, .int .i64 3] 3)).alloc (.cells #[.int .i64 1, .int .i64 1, .int .i64 1, .int .i64 1] 3)).alloc
      (.cells #[.int .i64 2, .int .i64 2, .slice (some ⟨w.heap.size, 0, none⟩) 2 2, .int .i64 2, .slice (some ⟨w.heap.size + 1, 0, none⟩) 4 4, .slice (some ⟨w.heap.size + 1 + 1, 0, none⟩) 4 4] 29)).alloc (.cells #[.int .i64 1, .int .i64 1, .int .i64 1, .int .i64 0] 3))
    fun e w' => ∃ v1 v2, e = .returned (.tuple #[.agg #[v1, v2], .int .i64 0]) ∧ Rd w' v1 [1, 1, 1, 1] ∧ Rd w' v2 [3] ∧ Below w.heap.size w w' := by
  have a1 := lit2 w 1 1
  have b1 := below_alloc (Below.refl w.heap.size w) (.cells #[.int .i64 1, .int .i64 1] 3)
  have s1 : (w.alloc (.cells #[.int .i64 1, .int .i64 1] 3)).heap.size = w.heap.size + 1 := by simp
  obtain ⟨w1, hw1⟩ : ∃ w1, w.alloc (.cells #[.int .i64 1, .int .i64 1] 3) = w1 := ⟨_, rfl⟩
  rw [hw1] at a1 b1 s1 ⊢
  have a2 := lit4 w1 0 1 2 3
  have b2 := below_alloc (Below.refl w1.heap.size w1) (.cells #[.int .i64 0, .int .i64 1, .int .i64 2, .int .i64 3] 3)
  have s2 : (w1.alloc (.cells #[.int .i64 0, .int .i64 1, .int .i64 2, .int .i64 3] 3)).heap.size = w1.heap.size + 1 := by simp
  obtain ⟨w2, hw2⟩ : ∃ w2, w1.alloc (.cells #[.int .i64 0, .int .i64 1, .int .i64 2, .int .i64 3] 3) = w2 := ⟨_, rfl⟩
  rw [hw2] at a2 b2 s2 ⊢
  have a3 := lit4 w2 1 1 1 1
  have b3 := below_alloc (Below.refl w2.heap.size w2) (.cells #[.int .i64 1, .int .i64 1, .int .i64 1, .int .i64 1] 3)
  have s3 : (w2.alloc (.cells #[.int .i64 1, .int .i64 1, .int .i64 1, .int .i64 1] 3)).heap.size = w2.heap.size + 1 := by simp
  obtain ⟨w3, hw3⟩ : ∃ w3, w2.alloc (.cells #[.int .i64 1, .int .i64 1, .int .i64 1, .int .i64 1] 3) = w3 := ⟨_, rfl⟩
  rw [hw3] at a3 b3 s3 ⊢
  have b4 := below_alloc (Below.refl w3.heap.size w3) (.cells #[.int .i64 2, .int .i64 2, .slice (some ⟨w.heap.size, 0, none⟩) 2 2, .int .i64 2, .slice (some ⟨w.heap.size + 1, 0, none⟩) 4 4, .slice (some ⟨w.heap.size + 1 + 1, 0, none⟩) 4 4] 29)
  have s4 : (w3.alloc (.cells #[.int .i64 2, .int .i64 2, .slice (some ⟨w.heap.size, 0, none⟩) 2 2, .int .i64 2, .slice (some ⟨w.heap.size + 1, 0, none⟩) 4 4, .slice (some ⟨w.heap.size + 1 + 1, 0, none⟩) 4 4] 29)).heap.size = w3.heap.size + 1 := by simp
  obtain ⟨w4, hw4⟩ : ∃ w4, w3.alloc (.cells #[.int .i64 2, .int .i64 2, .slice (some ⟨w.heap.size, 0, none⟩) 2 2, .int .i64 2, .slice (some ⟨w.heap.size + 1, 0, none⟩) 4 4, .slice (some ⟨w.heap.size + 1 + 1, 0, none⟩) 4 4] 29) = w4 := ⟨_, rfl⟩
  rw [hw4] at b4 s4 ⊢
  have a5 := lit4 w4 1 1 1 0
  have b5 := below_alloc (Below.refl w4.heap.size w4) (.cells #[.int .i64 1, .int .i64 1, .int .i64 1, .int .i64 0] 3)
  obtain ⟨w5, hw5⟩ : ∃ w5, w4.alloc (.cells #[.int .i64 1, .int .i64 1, .int .i64 1, .int .i64 0] 3) = w5 := ⟨_, rfl⟩
  rw [hw5] at a5 b5 ⊢
  rw [show w.heap.size + 1 = w1.heap.size from s1.symm, show w1.heap.size + 1 = w2.heap.size from s2.symm, show w2.heap.size + 1 = w3.heap.size from s3.symm, show w3.heap.size + 1 = w4.heap.size from s4.symm]
  have c1 := Kd.C_below (Kd.C_below (Kd.C_below (Kd.C_below a1 b2) b3) b4) b5
  have c2 := Kd.C_below (Kd.C_below (Kd.C_below a2 b3) b4) b5
  have c3 := Kd.C_below (Kd.C_below a3 b4) b5
  have hbz : Below w.heap.size w w5 := below_later (below_later (below_later (below_later b1 b1.size b2) (by omega) b3) (by omega) b4) (by omega) b5
  have hG : GArg w5 (.agg #[.int .i64 2, .int .i64 2, .slice (some ⟨w.heap.size, 0, none⟩) 2 2, .int .i64 2, .slice (some ⟨w1.heap.size, 0, none⟩) 4 4, .slice (some ⟨w2.heap.size, 0, none⟩) 4 4]) aliveS :=
    ⟨_, _, _, _, _, _, rfl, c1, Nat.le_refl _, c2, Nat.le_refl _, c3, Nat.le_refl _⟩
  have hM := GRS_any (dd := 4) (ee := 0) (l := [1, 1, 1, 0]) (er := []) hG a5 (Kd.C_nil _ w5) (fun _ _ _ => by
    have := alive_eucl
    exact Option.isSome_iff_exists.1 this)
  rw [alive_decode] at hM
  refine hM.mono ?_
  rintro e w' ⟨v', rfl, ⟨v1, v2, rfl, h1, h2⟩, hB⟩
  exact ⟨v1, v2, rfl, h1, h2, below_later hbz hbz.size hB⟩

set_option maxHeartbeats 1000000 in
set_option maxRecDepth 100000 in
theorem alive_any (w : World) : Calls Try.prog 11 #[] w fun e w' => e = .returned (.bool true) ∧ Below w.heap.size w w' := by
  have HC := Aside0.mk (alive_call w)
  go_enter Try.func11, Try.ntmps11
  go_wp2_with (first
    | (go_at_call 15; refine HC.out.mono ?_; rintro e w6 ⟨v1, v2, rfl, hr1, hr2, hB⟩; obtain ⟨B1, d1, rfl, -, hC1⟩ := hr1.out; obtain ⟨B2, d2, rfl, -, hC2⟩ := hr2.out; have HC1 : Aside0 (Kd.C (Kd.int .i64) w6 B1 4 [1, 1, 1, 1]) := ⟨hC1⟩; have HC2 : Aside0 (Kd.C (Kd.int .i64) w6 B2 1 [3]) := ⟨hC2⟩; have HB := Aside0.mk hB; clear hr1 hr2 hC1 hC2 hB)
    | (go_at_call 23; (with_reducible refine Calls.mono (same_n (A := B1) (n := 4) (m := 4) (c := d1) (d := 4) (a := [1, 1, 1, 1]) (b := [1, 1, 1, 1]) ?ca ?cb true rfl) ?_); (case ca => exact Kd.C_below HC1.out (below_alloc (below_alloc (Below.refl _ _) _) _)); (case cb => exact lit4_at _ _ (by simp) 1 1 1 1); rintro e w7 ⟨rfl, hd⟩; have cD1 := pw_cell_below hd.below (pw_cell_below (below_alloc (Below.refl _ _) (.cells #[.int .i64 1, .int .i64 1, .int .i64 1, .int .i64 1] 3)) (cell_alloc2_1 w6 (.slice B1 4 d1) (.slice B2 1 d2) 34)); have HC7 := Aside0.mk (Kd.C_below (Kd.C_below HC2.out (below_alloc (below_alloc (Below.refl _ _) (.cells #[.slice B1 4 d1, .slice B2 1 d2] 34)) (.cells #[.int .i64 1, .int .i64 1, .int .i64 1, .int .i64 1] 3))) hd.below); have HB7 := Aside0.mk ((below_alloc (below_alloc HB.out (.cells #[.slice B1 4 d1, .slice B2 1 d2] 34)) (.cells #[.int .i64 1, .int .i64 1, .int .i64 1, .int .i64 1] 3)).below'' hd); clear hd)
    | (go_at_call 23; (with_reducible refine Calls.mono (same_n (A := B2) (n := 1) (m := 1) (c := d2) (d := 1) (a := [3]) (b := [3]) ?ca ?cb true rfl) ?_); (case ca => exact Kd.C_below HC7.out (below_alloc (Below.refl _ _) _)); (case cb => exact lit1_at _ _ (by simp) 3); rintro e w8 ⟨rfl, hd⟩; have HB8 := Aside0.mk ((below_alloc HB7.out (.cells #[.int .i64 3] 3)).below'' hd); clear hd)
    | (go_at_call 12; (with_reducible refine Calls.mono (radius_30 _) ?_); rintro e w9 ⟨rfl, hd⟩; have HB9 := Aside0.mk (HB8.out.below'' hd); clear hd))
  go_ret
  exact ⟨rfl, HB9.out⟩

end Go.Proofs.Yticgblagimmlfaa
