/- A region that draws its order, whose first n operations only read or call what only reads, and whose last operations come in one forced order: one walk in the order of the text. A region of open order whose operations read, or call what only makes new memory: one walk in the order of the text; with a forced tail or without. The field's methods that only read: what they return, as functions of the tables in memory. trim. Eval, Degree, combine. combine, the product, Sub. The product, Sub, FromRoots. Sub, FromRoots, Mul. Mul at two factors. DivMod. Rows of bools of the call's own. Interpolate, where it finds a polynomial. Euclid's algorithm. Gao's algorithm. -/
import Derived.StillTail
import Derived.Deep.Quiet
import Derived.Deep.QuietTactic
import Derived.BigQuiet
import Derived.KernelRfl
import Derived.Below
import Derived.Test.YticgblagimmlfaaProg
import Derived.Test.YticgblagimmlfaaX802
import Derived.Test.YticgblagimmlfaaX801
import Derived.Test.YticgblagimmlfaaX803
namespace Go.Proofs.Yticgblagimmlfaa
section
variable {P : Program} {ops : Array Oper} {md : Region.Mode} {C : World → Prop}

/-- Whatever order is picked, for f operations from here on, each of them one of the first n; then L. -/
def headQ (P : Program) (md : Region.Mode) (ops : Array Oper) (C : World → Prop) (n : Nat) (L : Array Bool → Act → Prop) : Nat → Array Bool → Act → Prop
  | 0, listed, a => L listed a
  | f + 1, listed, a => Region.ready md ops listed ≠ [] ∧ ∀ i ∈ Region.ready md ops listed, i < n ∧ qOp P ops C i (headQ P md ops C n L f (listed.setIfInBounds i true)) a

theorem any_of_headQ {n g : Nat} {L : Array Bool → Act → Prop} {Q' : Exit → Act → World → Prop} (hL : ∀ listed a w, C w → L listed a → wpAny P md ops Q' g listed a w) :
    ∀ (f : Nat) (listed : Array Bool) (a : Act) (w : World), C w → headQ P md ops C n L f listed a → wpAny P md ops Q' (f + g) listed a w := by
  intro f
  induction f with
  | zero => intro listed a w hw h; rw [Nat.zero_add]; exact hL _ _ _ hw h
  | succ f ih =>
    intro listed a w hw h
    rw [show f + 1 + g = (f + g) + 1 by omega]
    exact ⟨fun h0 => absurd h0 h.1, fun i hi => wpOp_of_qOp hw (fun a' w' hw' h' => ih _ a' w' hw' h') (h.2 i hi).2⟩

theorem headQ_first {n i : Nat} {oi : Oper} {v : Value} {L : Array Bool → Act → Prop} (hi : ops[i]? = some oi) (hsel : ∀ (j : Nat) (o : Oper) cs b, ops[j]? = some o → o.op ≠ .select cs b)
    (hs : Region.sinkB md ops n = true) (hc : Region.chainB md ops n = true) (hn : n < ops.size) (hin : i < n) (hdone : ∀ listed a, L listed a → ∀ j ∈ Region.ready md ops listed, n ≤ j)
    (f : Nat) : ∀ (listed : Array Bool) (a : Act), HeadInv md ops n listed →
      (∀ j oj, ops[j]? = some oj → j ≠ i → listed.getD j true = false → (∀ e ∈ oj.after, Region.binds md e = true → e.on ≠ i) → oi.apart ops oj = true) →
      i ∈ Region.ready md ops listed → YieldsIn P ops C oi v a → headQ P md ops C n L f (listed.setIfInBounds i true) (a.put oi.dst v) → headQ P md ops C n L (f + 1) listed a := by
  induction f with
  | zero =>
    intro listed a inv hfree hr hy H
    have hun := (mem_ready.1 hr).1
    refine ⟨fun h => (by rw [h] at hr; cases hr), fun j hj => ?_⟩
    have hjn : j < n := Nat.lt_of_not_le fun h => tail_waits hs hc hn inv _ i rfl hin hun j h hj
    refine ⟨hjn, ?_⟩
    by_cases hji : j = i
    · subst hji; exact hy.qOp hi H
    · have := hdone _ _ H j (ready_mono hj hji)
      omega
  | succ f ih =>
    intro listed a inv hfree hr hy H
    have hun := (mem_ready.1 hr).1
    refine ⟨fun h => (by rw [h] at hr; cases hr), fun j hj => ?_⟩
    have hjn : j < n := Nat.lt_of_not_le fun h => tail_waits hs hc hn inv _ i rfl hin hun j h hj
    refine ⟨hjn, ?_⟩
    by_cases hji : j = i
    · subst hji; exact hy.qOp hi H
    · have h1 := (H.2 j (ready_mono hj hji)).2
      obtain ⟨hjun, oj, hoj, hall⟩ := mem_ready.1 hj
      have hnot : ∀ e ∈ oj.after, Region.binds md e = true → e.on ≠ i := fun e he hb heq => by
        have h1 := hall e he hb
        rw [heq, getD_both hun] at h1
        cases h1
      have h2 := qOp_put hoj (hfree j oj hoj hji hjun hnot) (fun cs b => hsel i oi cs b hi) (fun cs b => hsel j oj cs b hoj) hy h1
      have hfree' : ∀ k ok, ops[k]? = some ok → k ≠ i → (listed.setIfInBounds j true).getD k true = false →
          (∀ e ∈ ok.after, Region.binds md e = true → e.on ≠ i) → oi.apart ops ok = true := fun k ok hk hki hu hno => by
        refine hfree k ok hk hki ?_ hno
        by_cases hjk : j = k
        · subst hjk; exact hjun
        · rw [getD_set_ne true hjk] at hu; exact hu
      refine qOp_mono (fun a' h3 => ih (listed.setIfInBounds j true) a' (inv.set hj hjn) hfree' (ready_mono hr (Ne.symm hji)) h3.1 ?_) h2
      rw [Array.setIfInBounds_comm _ _ hji]
      exact h3.2

theorem headQ_lex {n g : Nat} {Lq : Act → Prop} (hsel : Region.noSelect ops = true) (hs : Region.sinkB md ops n = true) (hc : Region.chainB md ops n = true) (hn : n < ops.size) :
    ∀ (l : List Oper) (k : Nat) (listed : Array Bool) (a : Act), (∀ j, j < l.length → l[j]? = ops[k + j]?) → k + l.length = n → HeadInv md ops n listed →
    Region.lexHead md ops g l.length k listed = true → wpQuiet P ops C Lq l a → headQ P md ops C n (fun listed' a' => Region.seqB md ops g n listed' = true ∧ Lq a') l.length listed a
  | [], k, listed, a, _, hk, _, hB, h => by
    have : k = n := by simpa using hk
    subst this
    exact ⟨by simpa [Region.lexHead] using hB, h⟩
  | o :: l, k, listed, a, hl, hk, inv, hB, h => by
    have h0 : ops[k]? = some o := by simpa using (hl 0 (by simp)).symm
    simp only [List.length_cons, Region.lexHead, Bool.and_eq_true] at hB
    obtain ⟨⟨hr, hf⟩, hB'⟩ := hB
    have hkn : k < n := by simp only [List.length_cons] at hk; omega
    have hr' : k ∈ Region.ready md ops listed := by simpa using hr
    have hst : qOp P ops C k (wpQuiet P ops C Lq l) a := by unfold qOp; simp only [h0]; exact h
    obtain ⟨v, hy, hK⟩ := yieldsIn_of_qOp h0 hst
    exact headQ_first h0 (Region.noSelect_spec hsel) hs hc hn hkn (fun listed' a' hL => seqB_ready hL.1) l.length listed a inv (Region.free_spec h0 hf) hr' hy
      (headQ_lex hsel hs hc hn l (k + 1) _ _ (fun j hj => by have := hl (j + 1) (by simp; omega); simpa [Nat.add_assoc, Nat.add_comm 1 j] using this) (by simp only [List.length_cons] at hk; omega) (inv.set hr' hkn) hB' hK)

theorem wp_region_quiet_tail {id : Nat} {Q : Exit → Act → World → Prop} {a : Act} {w : World} {l : List Oper} (n : Nat) (hm : P.follows .mixedOrders = true) (hB : Region.lexTailB .any l.toArray n = true)
    (h : wpQuiet P l.toArray (fun w' => ∃ m, w' = w.drewN m) (fun a' => ∀ w', (∃ m, w' = w.drewN m) → wpList P l.toArray Q (l.drop n) a' w') (l.take n) a) : (Code.region id l.toArray true).wp P Q a w := by
  simp only [Region.lexTailB, Bool.and_eq_true, decide_eq_true_eq] at hB
  obtain ⟨⟨⟨⟨hsel, hn⟩, hs⟩, hc⟩, hlex⟩ := hB
  have hn' : n < l.length := by simpa using hn
  have htl : (l.take n).length = n := by simp; omega
  have hdl : (l.drop n).length = l.toArray.size - n := by simp
  have inv0 : HeadInv .any l.toArray n (Array.replicate l.toArray.size false) :=
    ⟨by simp, fun j oj _ hl => (by rw [getD_replicate_false] at hl; cases hl), fun t _ ht => getD_in (by simpa using ht) (getD_replicate_false _ _)⟩
  have H := headQ_lex (md := .any) (g := l.toArray.size - n) hsel hs hc hn (l.take n) 0 _ a (fun j hj => by
    have hj' : j < n := by rw [htl] at hj; exact hj
    simp [hj']) (by simpa using htl) inv0 (by rw [htl]; exact hlex) h
  refine wp_region_any hm ?_
  have := any_of_headQ (Q' := Q) (g := l.toArray.size - n) (fun listed a' w' hw' hL => by
    have := wpAny_of_seq (md := .any) (Q' := Q) (l.drop n) n listed a' w' (fun j => by simp [List.getElem?_drop]) (by rw [hdl]; exact hL.1) (hL.2 w' hw')
    rwa [hdl] at this) _ _ _ { w with drawn := w.drawn + 1 } ⟨1, rfl⟩ H
  rw [htl, show n + (l.toArray.size - n) = l.toArray.size by omega] at this
  exact this
end
end Go.Proofs.Yticgblagimmlfaa

namespace Go.Proofs.Yticgblagimmlfaa
open Go.RowKit
set_option linter.unusedVariables false

/-- A world that has w's memory and perhaps more. -/
structure Ext (w : World) where
  wd : World
  below : Below w.heap.size w wd
instance (w : World) : Nonempty (Ext w) := ⟨⟨w, Below.refl _ _⟩⟩
section
variable {P : Program}
theorem Ext.cell {w : World} (i : Ext w) {a : Addr} {v : Value} (h : w.cell? a = some v) : i.wd.cell? a = some v := by
  rw [i.below.cell ?_]; exact h
  refine Classical.byContradiction fun hn => ?_
  have : w.heap[a.block]? = none := Array.getElem?_eq_none (by omega)
  simp [World.cell?, this] at h
theorem Ext.call {w : World} (i : Ext w) {f : FuncId} {args : Array Value} {v : Value}
    (h : Calls P f args i.wd fun e w' => e = .returned v ∧ Below i.wd.heap.size i.wd w') : Calls P f args i.wd fun e w' => e = .returned v ∧ ∃ j : Ext w, w' = j.wd :=
  h.mono fun e w' ⟨he, hb⟩ => ⟨he, ⟨w', i.below.trans (hb.mono i.below.size)⟩, rfl⟩
theorem wp_region_ext {id : Nat} {Q : Exit → Act → World → Prop} {a : Act} {w : World} {l : List Oper} (hm : P.follows .mixedOrders = true) (hB : Region.lexB .any l.toArray = true)
    (h : wpQuiet P l.toArray (fun w' => ∃ i : Ext w, w' = i.wd) (fun a' => ∀ w', Below w.heap.size w w' → Q .normal a' w') l a) : (Code.region id l.toArray true).wp P Q a w := by
  have hC : ∃ i : Ext w, ({ w with drawn := w.drawn + 1 } : World) = i.wd := ⟨⟨_, (Below.refl _ w).drew⟩, rfl⟩
  refine wp_region_quiet (C := fun w' => ∃ i : Ext w, w' = i.wd) hm hB hC ?_
  have h2 : ∀ (l2 : List Oper) (a2 : Act), wpQuiet P l.toArray (fun w' => ∃ i : Ext w, w' = i.wd) (fun a' => ∀ w', Below w.heap.size w w' → Q .normal a' w') l2 a2 →
      wpQuiet P l.toArray (fun w' => ∃ i : Ext w, w' = i.wd) (fun a' => ∀ w', (∃ i : Ext w, w' = i.wd) → Q .normal a' w') l2 a2 := by
    intro l2
    induction l2 with
    | nil => intro a2 h0 w' ⟨i, hi⟩; exact h0 w' (hi ▸ i.below)
    | cons o l2 ih =>
      intro a2 h0
      unfold wpQuiet at h0 ⊢
      split
      · rename_i hw
        rw [if_pos hw] at h0
        exact Oper.quiet_mono (fun a => ih a) h0
      · rename_i hw
        rw [if_neg hw] at h0
        exact ih _ h0
  simpa using h2 l a h
theorem wp_region_ext_tail {id : Nat} {Q : Exit → Act → World → Prop} {a : Act} {w : World} {l : List Oper} (n : Nat) (hm : P.follows .mixedOrders = true) (hB : Region.lexTailB .any l.toArray n = true)
    (h : wpQuiet P l.toArray (fun w' => ∃ i : Ext w, w' = i.wd) (fun a' => ∀ w', Below w.heap.size w w' → wpList P l.toArray Q (l.drop n) a' w') (l.take n) a) : (Code.region id l.toArray true).wp P Q a w := by
  simp only [Region.lexTailB, Bool.and_eq_true, decide_eq_true_eq] at hB
  obtain ⟨⟨⟨⟨hsel, hn⟩, hs⟩, hc⟩, hlex⟩ := hB
  have hn' : n < l.length := by simpa using hn
  have htl : (l.take n).length = n := by simp; omega
  have hdl : (l.drop n).length = l.toArray.size - n := by simp
  have inv0 : HeadInv .any l.toArray n (Array.replicate l.toArray.size false) :=
    ⟨by simp, fun j oj _ hl => (by rw [getD_replicate_false] at hl; cases hl), fun t _ ht => getD_in (by simpa using ht) (getD_replicate_false _ _)⟩
  have H := headQ_lex (md := .any) (g := l.toArray.size - n) hsel hs hc hn (l.take n) 0 _ a (fun j hj => by
    have hj' : j < n := by rw [htl] at hj; exact hj
    simp [hj']) (by simpa using htl) inv0 (by rw [htl]; exact hlex) h
  refine wp_region_any hm ?_
  have := any_of_headQ (Q' := Q) (g := l.toArray.size - n) (fun listed a' w' hw' hL => by
    have := wpAny_of_seq (md := .any) (Q' := Q) (l.drop n) n listed a' w' (fun j => by simp [List.getElem?_drop]) (by rw [hdl]; exact hL.1) (hL.2 w' (by obtain ⟨i, hi⟩ := hw'; rw [hi]; exact i.below))
    rwa [hdl] at this) _ _ _ { w with drawn := w.drawn + 1 } ⟨⟨_, (Below.refl _ w).drew⟩, rfl⟩ H
  rw [htl, show n + (l.toArray.size - n) = l.toArray.size by omega] at this
  exact this
end
end Go.Proofs.Yticgblagimmlfaa

namespace Go.Proofs.Yticgblagimmlfaa
open Go.RowKit Go.Proofs.YticgblagimmlfaaW.PrintWords Go.Proofs.YticgblagimmlfaaW.PrintLast Go.Proofs.YticgblagimmlfaaW.PrintMore
set_option linter.unusedVariables false
set_option linter.unusedSimpArgs false

/-- The field at block g of w. -/
structure GFat (w : World) (g : Nat) (D : GFD) : Prop where mk ::
  out : ∃ A2 c2 A4 c4 A5 c5, w.heap[g]? = some (.cells #[.int .i64 D.P, .int .i64 D.M, .slice A2 D.Mod.length c2, .int .i64 D.q, .slice A4 D.exp.length c4, .slice A5 D.log.length c5] 107 (0, 0)) ∧
    Kd.C (Kd.int .i64) w A2 D.Mod.length D.Mod ∧ D.Mod.length ≤ c2 ∧ Kd.C (Kd.int .i64) w A4 D.exp.length D.exp ∧ Kd.C (Kd.int .i64) w A5 D.log.length D.log

theorem GFat.below {w w1 : World} {g : Nat} {D : GFD} (h : GFat w g D) (hb : Below w.heap.size w w1) : GFat w1 g D := by
  obtain ⟨A2, c2, A4, c4, A5, c5, h0, h2, hc2, h4, h5⟩ := h.out
  exact ⟨A2, c2, A4, c4, A5, c5, by rw [hb.block g (blk_lt h0)]; exact h0, Kd.C_below h2 hb, hc2, Kd.C_below h4 hb, Kd.C_below h5 hb⟩
theorem GFat.drawn {w w1 : World} {g : Nat} {D : GFD} (h : GFat w g D) (hb : Drawn0 w w1) : GFat w1 g D := h.below hb.below

theorem at_rdz {w : World} {A : Option Addr} {n : Nat} {l : List Int} (h : Kd.C (Kd.int .i64) w A n l) (i : Int) (h0 : 0 ≤ i) (h1 : i < n) :
    ∃ ad, A = some ad ∧ w.cell? (ad.add i.toNat) = some (.int .i64 (rdz l i)) := Kd.at_int h i h0 h1
theorem C_nat {w : World} {A : Option Addr} {l : List Int} (h : Kd.C (Kd.int .i64) w A l.length l) (k : Nat) (hk : k < l.length) :
    ∃ ad, A = some ad ∧ w.cell? (ad.add k) = some (.int .i64 (l.getD k 0)) := by
  obtain ⟨ad, e, hx⟩ := Kd.at_int h (k : Int) (by omega) (by omega)
  exact ⟨ad, e, by simpa [rd] using hx⟩
theorem bits_xor (a b : Int) (h1 : 0 ≤ a) (h2 : a < 256) (h3 : 0 ≤ b) (h4 : b < 256) : bits .xor .i64 a b = addD 2 8 a b := by
  obtain ⟨a, rfl⟩ := Int.eq_ofNat_of_zero_le h1
  obtain ⟨b, rfl⟩ := Int.eq_ofNat_of_zero_le h3
  rw [← xor_addD 8 a b (by omega) (by omega)]
  have hx : a ^^^ b < 2 ^ 8 := Nat.xor_lt_two_pow (by omega) (by omega)
  show IntKind.i64.wrap ((BitVec.ofInt 64 (a : Int) ^^^ BitVec.ofInt 64 (b : Int)).toNat : Int) = _
  have e1 : (BitVec.ofInt 64 (a : Int)).toNat = a := by rw [BitVec.toNat_ofInt]; omega
  have e2 : (BitVec.ofInt 64 (b : Int)).toNat = b := by rw [BitVec.toNat_ofInt]; omega
  rw [BitVec.toNat_xor, e1, e2, i64_w]
  unfold wrap64
  omega

theorem w64 (x : Int) (h1 : -9223372036854775808 ≤ x) (h2 : x ≤ 9223372036854775807) : IntKind.i64.wrap x = x := by
  rw [i64_w]; unfold wrap64; omega

theorem is_any {g : Nat} {D : GFD} {w : World} (h : GFat w g D) (x : Int) :
    Calls Try.prog 66 #[.pointer (some ⟨g, 0, none⟩), .int .i64 x] w fun e w' => e = .returned (.bool (D.is x)) ∧ Drawn0 w w' := by
  obtain ⟨A2, c2, A4, c4, A5, c5, h0, -⟩ := h.out
  have hc : w.cell? ⟨g, 3, none⟩ = some (.int .i64 D.q) := (blk_cell h0 3).trans rfl
  clear h h0
  by_cases h1 : 0 ≤ x
  · by_cases h2 : x < D.q
    · have e : D.is x = true := by simp [GFD.is, h1, h2]
      rw [e]; clear e
      go_enter Try.func66, Try.ntmps66
      go_wp2
      go_ret
      exact ⟨rfl, Drawn0.refl _⟩
    · have e : D.is x = false := by simp [GFD.is, h2]
      rw [e]; clear e
      go_enter Try.func66, Try.ntmps66
      go_wp2
      go_ret
      exact ⟨by simp, Drawn0.refl _⟩
  · have e : D.is x = false := by simp [GFD.is, h1]
    rw [e]; clear e
    go_enter Try.func66, Try.ntmps66
    go_wp2
    go_ret
    exact ⟨rfl, Drawn0.refl _⟩

theorem in_any {g : Nat} {D : GFD} {w : World} (h : GFat w g D) (x : Int) :
    Calls Try.prog 118 #[.pointer (some ⟨g, 0, none⟩), .int .i64 x] w fun e w' => e = .returned (.int .i64 (D.inn x)) ∧ Drawn0 w w' := by
  have H := Aside0.mk h
  clear h
  by_cases h1 : 0 ≤ x ∧ x < D.q
  · have e1 : D.is x = true := by simp [GFD.is, h1]
    have e2 : D.inn x = x := by simp [GFD.inn, h1]
    rw [e2]
    have E1 := Aside0.mk e1
    clear e1 e2 h1
    go_enter Try.func118, Try.ntmps118
    go_wp2_with (go_at_call 66; refine (is_any H.out x).mono ?_; rw [E1.out]; rintro e w' ⟨rfl, ⟨n, rfl⟩⟩)
    go_ret
    exact ⟨rfl, Drawn0.step (Drawn0.refl _) _⟩
  · have e1 : D.is x = false := by simp [GFD.is]; omega
    have e2 : D.inn x = 0 := by simp [GFD.inn]; omega
    rw [e2]
    have E1 := Aside0.mk e1
    clear e1 e2 h1
    go_enter Try.func118, Try.ntmps118
    go_wp2_with (go_at_call 66; refine (is_any H.out x).mono ?_; rw [E1.out]; rintro e w' ⟨rfl, ⟨n, rfl⟩⟩)
    go_ret
    exact ⟨rfl, Drawn0.step (Drawn0.refl _) _⟩

theorem in_eq {g : Nat} {D : GFD} {w : World} (h : GFat w g D) (x : Int) {a : Int} (ha : Aside0 (D.inn x = a)) :
    Calls Try.prog 118 #[.pointer (some ⟨g, 0, none⟩), .int .i64 x] w fun e w' => e = .returned (.int .i64 a) ∧ Drawn0 w w' := by
  rw [← ha.out]; exact in_any h x

theorem mul_any {g : Nat} {D : GFD} {w : World} (h : GFat w g D) (hD : D.ok) (x y : Int) :
    Calls Try.prog 79 #[.pointer (some ⟨g, 0, none⟩), .int .i64 x, .int .i64 y] w fun e w' => e = .returned (.int .i64 (D.mul x y)) ∧ Drawn0 w w' := by
  obtain ⟨hx1, hx2⟩ := D.inn_lt hD x
  obtain ⟨hy1, hy2⟩ := D.inn_lt hD y
  have hmul : D.mul x y = if D.inn x = 0 ∨ D.inn y = 0 then 0 else rdz D.exp ((rdz D.log (D.inn x) + rdz D.log (D.inn y)) % (D.q - 1)) := rfl
  rw [hmul]
  clear hmul
  have H := Aside0.mk h
  obtain ⟨A2, c2, A4, c4, A5, c5, h0, g2, gc2, g4, g5⟩ := h.out
  clear h
  have HX : ∃ a, D.inn x = a := ⟨_, rfl⟩
  have HY : ∃ b, D.inn y = b := ⟨_, rfl⟩
  obtain ⟨a, ha⟩ := HX
  obtain ⟨b, hb⟩ := HY
  rw [ha, hb]
  rw [ha] at hx1 hx2
  rw [hb] at hy1 hy2
  have HA := Aside0.mk ha
  have HB := Aside0.mk hb
  clear ha hb
  by_cases hx : a = 0
  · subst hx
    simp only [true_or, if_true]
    go_enter Try.func79, Try.ntmps79
    go_wp2_with (first | (go_at_call 118; (with_reducible refine (in_eq ?side1 _ HA).mono ?_); (case side1 => exact H.out.drawn (by repeat (first | exact Drawn0.refl _ | apply Drawn0.step))); rintro e w' ⟨rfl, ⟨n, rfl⟩⟩) | (go_at_call 118; (with_reducible refine (in_eq ?side1 _ HB).mono ?_); (case side1 => exact H.out.drawn (by repeat (first | exact Drawn0.refl _ | apply Drawn0.step))); rintro e w' ⟨rfl, ⟨n, rfl⟩⟩))
    go_ret
    exact ⟨rfl, by repeat (first | exact Drawn0.refl _ | apply Drawn0.step)⟩
  · have hxb : (a == 0) = false := by simp [hx]
    by_cases hy : b = 0
    · subst hy
      simp only [or_true, if_true]
      go_enter Try.func79, Try.ntmps79
      go_wp2_with (first | (go_at_call 118; (with_reducible refine (in_eq ?side1 _ HA).mono ?_); (case side1 => exact H.out.drawn (by repeat (first | exact Drawn0.refl _ | apply Drawn0.step))); rintro e w' ⟨rfl, ⟨n, rfl⟩⟩) | (go_at_call 118; (with_reducible refine (in_eq ?side1 _ HB).mono ?_); (case side1 => exact H.out.drawn (by repeat (first | exact Drawn0.refl _ | apply Drawn0.step))); rintro e w' ⟨rfl, ⟨n, rfl⟩⟩))
      go_ret
      exact ⟨rfl, by repeat (first | exact Drawn0.refl _ | apply Drawn0.step)⟩
    · have hyb : (b == 0) = false := by simp [hy]
      rw [if_neg (by omega)]
      clear hx hy
      have cq : w.cell? ⟨g, 3, none⟩ = some (.int .i64 D.q) := (blk_cell h0 3).trans rfl
      have ce : w.cell? ⟨g, 4, none⟩ = some (.slice A4 D.exp.length c4) := (blk_cell h0 4).trans rfl
      have cl : w.cell? ⟨g, 5, none⟩ = some (.slice A5 D.log.length c5) := (blk_cell h0 5).trans rfl
      have hl := hD.loglen
      have he := hD.explen
      have hq2 := hD.q2
      have hq3 := hD.q256
      obtain ⟨la1, la2⟩ := hD.log0 a
      obtain ⟨lb1, lb2⟩ := hD.log0 b
      obtain ⟨ad5, rfl, ha5⟩ := at_rdz g5 a hx1 (by omega)
      obtain ⟨ad5', e5, hb5⟩ := at_rdz g5 b hy1 (by omega)
      cases e5
      have hm1 : 0 ≤ (rdz D.log a + rdz D.log b) % (D.q - 1) := Int.emod_nonneg _ (by omega)
      have hm2 : (rdz D.log a + rdz D.log b) % (D.q - 1) < D.q - 1 := Int.emod_lt_of_pos _ (by omega)
      obtain ⟨ad4, rfl, ha4⟩ := at_rdz g4 ((rdz D.log a + rdz D.log b) % (D.q - 1)) hm1 (by omega)
      have ia : a < (D.log.length : Int) := by omega
      have ib : b < (D.log.length : Int) := by omega
      have im : (rdz D.log a + rdz D.log b) % (D.q - 1) < (D.exp.length : Int) := by omega
      clear hl he h0 g2 gc2 g4 g5 hm2
      go_enter Try.func79, Try.ntmps79
      go_wp2_with (first | (go_at_call 118; (with_reducible refine (in_eq ?side1 _ HA).mono ?_); (case side1 => exact H.out.drawn (by repeat (first | exact Drawn0.refl _ | apply Drawn0.step))); rintro e w' ⟨rfl, ⟨n, rfl⟩⟩) | (go_at_call 118; (with_reducible refine (in_eq ?side1 _ HB).mono ?_); (case side1 => exact H.out.drawn (by repeat (first | exact Drawn0.refl _ | apply Drawn0.step))); rintro e w' ⟨rfl, ⟨n, rfl⟩⟩))
      go_quiet (fail)
      go_wp2
      go_ret
      exact ⟨rfl, by repeat (first | exact Drawn0.refl _ | apply Drawn0.step)⟩

theorem inv_any {g : Nat} {D : GFD} {w : World} (h : GFat w g D) (hD : D.ok) (x : Int) :
    Calls Try.prog 81 #[.pointer (some ⟨g, 0, none⟩), .int .i64 x] w fun e w' => e = .returned (.tuple #[.int .i64 (D.inv x), .int .i64 (D.invE x)]) ∧ Drawn0 w w' := by
  obtain ⟨hx1, hx2⟩ := D.inn_lt hD x
  have hmul : D.inv x = if D.inn x = 0 then 0 else rdz D.exp ((D.q - 1 - rdz D.log (D.inn x)) % (D.q - 1)) := rfl
  have hmul2 : D.invE x = if D.inn x = 0 then 7 else 0 := rfl
  rw [hmul, hmul2]
  clear hmul hmul2
  have H := Aside0.mk h
  obtain ⟨A2, c2, A4, c4, A5, c5, h0, g2, gc2, g4, g5⟩ := h.out
  clear h
  obtain ⟨a, ha⟩ : ∃ a, D.inn x = a := ⟨_, rfl⟩
  rw [ha]
  rw [ha] at hx1 hx2
  have HA := Aside0.mk ha
  clear ha
  by_cases hx : a = 0
  · subst hx
    simp only [if_true]
    go_enter Try.func81, Try.ntmps81
    go_wp2_with (go_at_call 118; (with_reducible refine (in_eq ?side1 _ HA).mono ?_); (case side1 => exact H.out.drawn (by repeat (first | exact Drawn0.refl _ | apply Drawn0.step))); rintro e w' ⟨rfl, ⟨n, rfl⟩⟩)
    go_ret2
    exact ⟨rfl, by repeat (first | exact Drawn0.refl _ | apply Drawn0.step)⟩
  · have hxb : (a == 0) = false := by simp [hx]
    rw [if_neg hx, if_neg hx]
    clear hx
    have cq : w.cell? ⟨g, 3, none⟩ = some (.int .i64 D.q) := (blk_cell h0 3).trans rfl
    have ce : w.cell? ⟨g, 4, none⟩ = some (.slice A4 D.exp.length c4) := (blk_cell h0 4).trans rfl
    have cl : w.cell? ⟨g, 5, none⟩ = some (.slice A5 D.log.length c5) := (blk_cell h0 5).trans rfl
    have hl := hD.loglen
    have he := hD.explen
    have hq2 := hD.q2
    have hq3 := hD.q256
    obtain ⟨la1, la2⟩ := hD.log0 a
    obtain ⟨ad5, rfl, ha5⟩ := at_rdz g5 a hx1 (by omega)
    have w1 : IntKind.i64.wrap (D.q - 1) = D.q - 1 := w64 _ (by omega) (by omega)
    have w2 : IntKind.i64.wrap (D.q - 1 - rdz D.log a) = D.q - 1 - rdz D.log a := w64 _ (by omega) (by omega)
    have w3 : Int.tmod (D.q - 1 - rdz D.log a) (D.q - 1) = (D.q - 1 - rdz D.log a) % (D.q - 1) := Int.tmod_eq_emod_of_nonneg (by omega)
    have hm1 : 0 ≤ (D.q - 1 - rdz D.log a) % (D.q - 1) := Int.emod_nonneg _ (by omega)
    have hm2 : (D.q - 1 - rdz D.log a) % (D.q - 1) < D.q - 1 := Int.emod_lt_of_pos _ (by omega)
    obtain ⟨u, hu⟩ : ∃ u, (D.q - 1 - rdz D.log a) % (D.q - 1) = u := ⟨_, rfl⟩
    rw [hu] at hm1 hm2 w3 ⊢
    obtain ⟨t, ht⟩ : ∃ t, D.q - 1 - rdz D.log a = t := ⟨_, rfl⟩
    rw [ht] at w2 w3
    have w2' : IntKind.i64.wrap (D.q - 1 - rdz D.log a) = t := by rw [ht]; exact w2
    obtain ⟨ad4, rfl, ha4⟩ := at_rdz g4 u hm1 (by omega)
    have ia : a < (D.log.length : Int) := by omega
    have im : u < (D.exp.length : Int) := by omega
    have w4 : (D.q - 1 == 0) = false := by simp only [beq_eq_false_iff_ne]; omega
    clear hl he h0 g2 gc2 g4 g5 hm2 hu ht w2
    go_enter Try.func81, Try.ntmps81
    go_wp2_with (go_at_call 118; (with_reducible refine (in_eq ?side1 _ HA).mono ?_); (case side1 => exact H.out.drawn (by repeat (first | exact Drawn0.refl _ | apply Drawn0.step))); rintro e w' ⟨rfl, ⟨n, rfl⟩⟩)
    go_quiet (fail)
    go_wp2
    go_ret2
    exact ⟨rfl, by repeat (first | exact Drawn0.refl _ | apply Drawn0.step)⟩

theorem div_any {g : Nat} {D : GFD} {w : World} (h : GFat w g D) (hD : D.ok) (x y : Int) :
    Calls Try.prog 67 #[.pointer (some ⟨g, 0, none⟩), .int .i64 x, .int .i64 y] w fun e w' => e = .returned (.tuple #[.int .i64 (D.div x y), .int .i64 (D.invE y)]) ∧ Drawn0 w w' := by
  have H := Aside0.mk h
  clear h
  have HC := fun (w1 : World) (hd : Drawn0 w w1) => Aside0.mk (inv_any (H.out.drawn hd) hD y)
  by_cases hy : D.inn y = 0
  · have e1 : D.inv y = 0 := by simp [GFD.inv, hy]
    have e2 : D.invE y = 7 := by simp [GFD.invE, hy]
    have e3 : D.div x y = 0 := by simp [GFD.div, hy]
    rw [e3, e2]
    rw [e1, e2] at HC
    clear e1 e2 e3 hy
    go_enter Try.func67, Try.ntmps67
    go_wp2_with (go_at_call 81; refine (HC _ ?side1).out.mono ?_; (case side1 => repeat (first | exact Drawn0.refl _ | apply Drawn0.step)); rintro e w' ⟨rfl, ⟨n, rfl⟩⟩)
    go_ret2
    exact ⟨rfl, by repeat (first | exact Drawn0.refl _ | apply Drawn0.step)⟩
  · have e2 : D.invE y = 0 := by simp [GFD.invE, hy]
    have e3 : D.div x y = D.mul x (D.inv y) := by simp [GFD.div, hy]
    rw [e3, e2]
    rw [e2] at HC
    clear e2 e3 hy
    go_enter Try.func67, Try.ntmps67
    go_wp2_with (first | (go_at_call 81; refine (HC _ ?side1).out.mono ?_; (case side1 => repeat (first | exact Drawn0.refl _ | apply Drawn0.step)); rintro e w' ⟨rfl, ⟨n, rfl⟩⟩) | (go_at_call 79; (with_reducible refine (mul_any ?side2 hD _ _).mono ?_); (case side2 => exact H.out.drawn (by repeat (first | exact Drawn0.refl _ | apply Drawn0.step))); rintro e w' ⟨rfl, ⟨n, rfl⟩⟩))
    go_ret2
    exact ⟨rfl, by repeat (first | exact Drawn0.refl _ | apply Drawn0.step)⟩

theorem add_any {g : Nat} {D : GFD} {w : World} (h : GFat w g D) (hD : D.ok) (x y : Int) :
    Calls Try.prog 83 #[.pointer (some ⟨g, 0, none⟩), .int .i64 x, .int .i64 y] w fun e w' => e = .returned (.int .i64 (D.add x y)) ∧ Drawn0 w w' := by
  obtain ⟨hx1, hx2⟩ := D.inn_lt hD x
  obtain ⟨hy1, hy2⟩ := D.inn_lt hD y
  have H := Aside0.mk h
  obtain ⟨A2, c2, A4, c4, A5, c5, h0, g2, gc2, g4, g5⟩ := h.out
  clear h
  obtain ⟨a, ha⟩ : ∃ a, D.inn x = a := ⟨_, rfl⟩
  obtain ⟨b, hb⟩ : ∃ b, D.inn y = b := ⟨_, rfl⟩
  obtain ⟨T, hT⟩ : ∃ T, addD D.P 8 a b = T := ⟨_, rfl⟩
  have e : D.add x y = T := by rw [← hT, ← ha, ← hb]; rfl
  rw [e]
  rw [ha] at hx1 hx2
  rw [hb] at hy1 hy2
  have HA := Aside0.mk ha
  have HB := Aside0.mk hb
  have cp : w.cell? ⟨g, 0, none⟩ = some (.int .i64 D.P) := (blk_cell h0 0).trans rfl
  have hP2 := hD.p2
  have hP3 := hD.p256
  have hq3 := hD.q256
  clear ha hb e h0 g2 gc2 g4 g5
  obtain ⟨P, hP⟩ : ∃ P, D.P = P := ⟨_, rfl⟩
  rw [hP] at cp hP2 hP3 hT
  clear hP
  by_cases h2 : P = 2
  · subst h2
    have hx := bits_xor a b hx1 (by omega) hy1 (by omega)
    rw [hT] at hx
    clear hT
    go_enter Try.func83, Try.ntmps83
    go_wp2_with (first | (go_at_call 118; (with_reducible refine (in_eq ?side1 _ HA).mono ?_); (case side1 => exact H.out.drawn (by repeat (first | exact Drawn0.refl _ | apply Drawn0.step))); rintro e w' ⟨rfl, ⟨n, rfl⟩⟩) | (go_at_call 118; (with_reducible refine (in_eq ?side1 _ HB).mono ?_); (case side1 => exact H.out.drawn (by repeat (first | exact Drawn0.refl _ | apply Drawn0.step))); rintro e w' ⟨rfl, ⟨n, rfl⟩⟩))
    go_ret
    exact ⟨rfl, by repeat (first | exact Drawn0.refl _ | apply Drawn0.step)⟩
  · have h2b : (P == 2) = false := by simp [h2]
    have I0 : AddInv P T 8 a b 0 1 := ⟨hx1, hy1, by omega, by omega, by omega, by omega, by omega, by omega, by omega, by omega⟩
    have I := Aside0.mk I0
    clear h2 I0 hT
    go_enter Try.func83, Try.ntmps83
    go_wp2_with (first | (go_at_call 118; (with_reducible refine (in_eq ?side1 _ HA).mono ?_); (case side1 => exact H.out.drawn (by repeat (first | exact Drawn0.refl _ | apply Drawn0.step))); rintro e w' ⟨rfl, ⟨n, rfl⟩⟩) | (go_at_call 118; (with_reducible refine (in_eq ?side1 _ HB).mono ?_); (case side1 => exact H.out.drawn (by repeat (first | exact Drawn0.refl _ | apply Drawn0.step))); rintro e w' ⟨rfl, ⟨n, rfl⟩⟩))
    clear HA HB
    go_loopw [1, 2, 7, 8] (fun v1 v2 v7 v8 w' => ∃ (n : Nat) (a b s p : Int), v1 = .int .i64 a ∧ v2 = .int .i64 b ∧ v7 = .int .i64 s ∧ v8 = .int .i64 p ∧ Aside0 (AddInv P T n a b s p) ∧ Drawn0 w w') (fun v1 v2 _ _ _ => (intOf v1 + intOf v2).toNat)
    case atStart => exact ⟨8, a, b, 0, 1, rfl, rfl, rfl, rfl, I, by repeat (first | exact Drawn0.refl _ | apply Drawn0.step)⟩
    case round =>
      clear I hx1 hx2 hy1 hy2
      obtain ⟨n, a, b, s, p, rfl, rfl, rfl, rfl, I, ⟨m, rfl⟩⟩ := hrel
      have ha0 := I.out.a0
      have hb0 := I.out.b0
      have ha5 := I.out.a255
      have hb5 := I.out.b255
      have hPn : (P == 0) = false := by simp only [beq_eq_false_iff_ne]; omega
      by_cases hg : 0 < a ∨ 0 < b
      · obtain ⟨m', I', q1, q2, q3, q4, q5, q6, q7, q8, q9, q10, q11, q12, q13, q14⟩ := I.out.step hP2 hg
        have hsm := I.out.small hg
        have hPp : P * p ≤ 65280 := by
          have : P * p ≤ 256 * p := Int.mul_le_mul_of_nonneg_right (by omega) (by omega)
          omega
        have hpc : p * P = P * p := Int.mul_comm _ _
        have I2 := Aside0.mk I'
        have e1 : Int.tmod a P = a % P := Int.tmod_eq_emod_of_nonneg ha0
        have e2 : Int.tmod b P = b % P := Int.tmod_eq_emod_of_nonneg hb0
        clear I' I
        obtain ⟨da, hda⟩ : ∃ da, a % P = da := ⟨_, rfl⟩
        obtain ⟨db, hdb⟩ : ∃ db, b % P = db := ⟨_, rfl⟩
        rw [hda] at e1 q1 q2 q5 q6 q7 q8
        rw [hdb] at e2 q3 q4 q5 q6 q7 q8
        rw [hda, hdb] at I2
        obtain ⟨d, hd⟩ : ∃ d, (da + db) % P = d := ⟨_, rfl⟩
        have e3 : IntKind.i64.wrap (da + db) = da + db := w64 _ (by omega) (by omega)
        have e4 : Int.tmod (da + db) P = d := by rw [Int.tmod_eq_emod_of_nonneg (by omega)]; exact hd
        rw [hd] at q5 q6 q7 q8 I2
        obtain ⟨dp, hdp⟩ : ∃ dp, d * p = dp := ⟨_, rfl⟩
        rw [hdp] at q7 q8 I2
        have e5 : IntKind.i64.wrap (d * p) = dp := by rw [hdp]; exact w64 _ (by omega) (by omega)
        have e6 : IntKind.i64.wrap (s + dp) = s + dp := w64 _ (by omega) (by omega)
        have e7 : IntKind.i64.wrap (p * P) = p * P := w64 _ (by omega) (by omega)
        clear hda hdb hd hdp hpc
        by_cases hga : 0 < a
        · clear hg
          go_wp2
          go_quiet (fail)
          go_wp2
          go_roundw
          case rel => exact ⟨m', a / P, b / P, s + dp, p * P, by go_num, by go_num, rfl, rfl, I2, by repeat (first | exact Drawn0.refl _ | apply Drawn0.step)⟩
          case measure => simp [intOf]; omega
        · have hgb : 0 < b := by omega
          clear hg
          go_wp2
          go_quiet (fail)
          go_wp2
          go_roundw
          case rel => exact ⟨m', a / P, b / P, s + dp, p * P, by go_num, by go_num, rfl, rfl, I2, by repeat (first | exact Drawn0.refl _ | apply Drawn0.step)⟩
          case measure => simp [intOf]; omega
      · have hd := I.out.done (by omega) (by omega)
        subst hd
        have h1 : ¬ 0 < a := by omega
        have h2 : ¬ 0 < b := by omega
        clear hg I
        go_wp2
        go_ret
        exact ⟨rfl, by repeat (first | exact Drawn0.refl _ | apply Drawn0.step)⟩

theorem neg_any {g : Nat} {D : GFD} {w : World} (h : GFat w g D) (hD : D.ok) (x : Int) :
    Calls Try.prog 119 #[.pointer (some ⟨g, 0, none⟩), .int .i64 x] w fun e w' => e = .returned (.int .i64 (D.neg x)) ∧ Drawn0 w w' := by
  obtain ⟨hx1, hx2⟩ := D.inn_lt hD x
  have H := Aside0.mk h
  obtain ⟨A2, c2, A4, c4, A5, c5, h0, g2, gc2, g4, g5⟩ := h.out
  clear h
  obtain ⟨a, ha⟩ : ∃ a, D.inn x = a := ⟨_, rfl⟩
  obtain ⟨T, hT⟩ : ∃ T, negD D.P 8 a = T := ⟨_, rfl⟩
  have e : D.neg x = T := by rw [← hT, ← ha]; rfl
  rw [e]
  rw [ha] at hx1 hx2
  have HA := Aside0.mk ha
  have cp : w.cell? ⟨g, 0, none⟩ = some (.int .i64 D.P) := (blk_cell h0 0).trans rfl
  have hP2 := hD.p2
  have hP3 := hD.p256
  have hq3 := hD.q256
  clear ha e h0 g2 gc2 g4 g5
  obtain ⟨P, hP⟩ : ∃ P, D.P = P := ⟨_, rfl⟩
  rw [hP] at cp hP2 hP3 hT
  clear hP
  have I0 : NegInv P T 8 a 0 1 := ⟨hx1, by omega, by omega, by omega, by omega, by omega, by omega⟩
  have I := Aside0.mk I0
  clear I0 hT
  go_enter Try.func119, Try.ntmps119
  go_wp2_with (go_at_call 118; (with_reducible refine (in_eq ?side1 _ HA).mono ?_); (case side1 => exact H.out.drawn (by repeat (first | exact Drawn0.refl _ | apply Drawn0.step))); rintro e w' ⟨rfl, ⟨n, rfl⟩⟩)
  clear HA
  go_loopw [1, 5, 6] (fun v1 v5 v6 w' => ∃ (n : Nat) (a s p : Int), v1 = .int .i64 a ∧ v5 = .int .i64 s ∧ v6 = .int .i64 p ∧ Aside0 (NegInv P T n a s p) ∧ Drawn0 w w') (fun v1 _ _ _ => (intOf v1).toNat)
  case atStart => exact ⟨8, a, 0, 1, rfl, rfl, rfl, I, by repeat (first | exact Drawn0.refl _ | apply Drawn0.step)⟩
  case round =>
    clear I hx1 hx2
    obtain ⟨n, a, s, p, rfl, rfl, rfl, I, ⟨m, rfl⟩⟩ := hrel
    have ha0 := I.out.a0
    have ha5 := I.out.a255
    have hPn : (P == 0) = false := by simp only [beq_eq_false_iff_ne]; omega
    by_cases hg : 0 < a
    · obtain ⟨m', I', q1, q2, q5, q6, q7, q8, q9, q10, q11, q12, q14⟩ := I.out.step hP2 hg
      have hsm := I.out.small hg
      have hPp : P * p ≤ 65280 := by
        have : P * p ≤ 256 * p := Int.mul_le_mul_of_nonneg_right (by omega) (by omega)
        omega
      have hpc : p * P = P * p := Int.mul_comm _ _
      have I2 := Aside0.mk I'
      have e1 : Int.tmod a P = a % P := Int.tmod_eq_emod_of_nonneg ha0
      clear I' I
      obtain ⟨da, hda⟩ : ∃ da, a % P = da := ⟨_, rfl⟩
      rw [hda] at e1 q1 q2 q5 q6 q7 q8 I2
      obtain ⟨d, hd⟩ : ∃ d, (P - da) % P = d := ⟨_, rfl⟩
      have e3 : IntKind.i64.wrap (P - da) = P - da := w64 _ (by omega) (by omega)
      have e4 : Int.tmod (P - da) P = d := by rw [Int.tmod_eq_emod_of_nonneg (by omega)]; exact hd
      rw [hd] at q5 q6 q7 q8 I2
      obtain ⟨dp, hdp⟩ : ∃ dp, d * p = dp := ⟨_, rfl⟩
      rw [hdp] at q7 q8 I2
      have e5 : IntKind.i64.wrap (d * p) = dp := by rw [hdp]; exact w64 _ (by omega) (by omega)
      have e6 : IntKind.i64.wrap (s + dp) = s + dp := w64 _ (by omega) (by omega)
      have e7 : IntKind.i64.wrap (p * P) = p * P := w64 _ (by omega) (by omega)
      clear hda hd hdp hpc
      go_wp2
      go_quiet (fail)
      go_wp2
      go_roundw
      case rel => exact ⟨m', a / P, s + dp, p * P, by go_num, rfl, rfl, I2, by repeat (first | exact Drawn0.refl _ | apply Drawn0.step)⟩
      case measure => simp [intOf]; omega
    · have hd := I.out.done (by omega)
      subst hd
      clear I
      go_wp2
      go_ret
      exact ⟨rfl, by repeat (first | exact Drawn0.refl _ | apply Drawn0.step)⟩

theorem sub_any {g : Nat} {D : GFD} {w : World} (h : GFat w g D) (hD : D.ok) (x y : Int) :
    Calls Try.prog 80 #[.pointer (some ⟨g, 0, none⟩), .int .i64 x, .int .i64 y] w fun e w' => e = .returned (.int .i64 (D.sub x y)) ∧ Drawn0 w w' := by
  have H := Aside0.mk h
  clear h
  go_enter Try.func80, Try.ntmps80
  go_wp2_with (first | (go_at_call 119; (with_reducible refine (neg_any ?side1 hD _).mono ?_); (case side1 => exact H.out.drawn (by repeat (first | exact Drawn0.refl _ | apply Drawn0.step))); rintro e w' ⟨rfl, ⟨n, rfl⟩⟩) | (go_at_call 83; (with_reducible refine (add_any ?side1 hD _ _).mono ?_); (case side1 => exact H.out.drawn (by repeat (first | exact Drawn0.refl _ | apply Drawn0.step))); rintro e w' ⟨rfl, ⟨n, rfl⟩⟩))
  go_ret
  exact ⟨rfl, by repeat (first | exact Drawn0.refl _ | apply Drawn0.step)⟩

theorem order_any {g : Nat} {D : GFD} {w : World} (h : GFat w g D) :
    Calls Try.prog 91 #[.pointer (some ⟨g, 0, none⟩)] w fun e w' => e = .returned (.int .i64 D.q) ∧ Drawn0 w w' := by
  obtain ⟨A2, c2, A4, c4, A5, c5, h0, -⟩ := h.out
  have hc : w.cell? ⟨g, 3, none⟩ = some (.int .i64 D.q) := (blk_cell h0 3).trans rfl
  clear h h0
  go_enter Try.func91, Try.ntmps91
  go_wp2
  go_ret
  exact ⟨rfl, Drawn0.refl _⟩
end Go.Proofs.Yticgblagimmlfaa

namespace Go.Proofs.Yticgblagimmlfaa
open Go.RowKit Go.Proofs.YticgblagimmlfaaW.PrintWords Go.Proofs.YticgblagimmlfaaW.PrintLast Go.Proofs.YticgblagimmlfaaW.PrintMore
set_option linter.unusedVariables false
set_option linter.unusedSimpArgs false

theorem info3 : (Try.prog.info? 3).map (fun i => (i.zero, i.size, i.bytes)) = some (some (.int .i64 0), 1, 8) := by kernel_rfl
theorem info4 : (Try.prog.info? 4).map (fun i => (i.zero, i.size, i.bytes)) = some (some (.bool false), 1, 1) := by kernel_rfl

theorem trim_any {w : World} {A : Option Addr} {c : Nat} {l : List Int} (h : Kd.C (Kd.int .i64) w A l.length l) (hc : l.length ≤ c) :
    Calls Try.prog 122 #[.slice A l.length c] w fun e w' => e = .returned (.slice A (trimZ l).length c) ∧ Drawn0 w w' := by
  have H := Aside0.mk h
  have hm := Kd.C_max h
  clear h
  have hB := Drawn0.refl w
  go_enter Try.func122, Try.ntmps122
  go_wp2
  go_loopw [0] (fun v0 w' => ∃ n : Nat, v0 = .slice A n c ∧ n ≤ l.length ∧ Aside0 (trimZ (l.take n) = trimZ l) ∧ Drawn0 w w') (fun v0 _ => match v0 with | .slice _ n _ => n | _ => 0)
  case atStart => exact ⟨l.length, rfl, Nat.le_refl _, ⟨by simp⟩, Drawn0.refl _⟩
  case round =>
    obtain ⟨n, rfl, hn, HT, ⟨m, rfl⟩⟩ := hrel
    by_cases h0 : 0 < n
    · obtain ⟨k, rfl⟩ : ∃ k, n = k + 1 := ⟨n - 1, by omega⟩
      obtain ⟨ad, e0, hx⟩ := C_nat H.out k (by omega)
      cases e0
      obtain ⟨i0, hi, _, hsz, _⟩ := info_parts info3
      have hcut := cut_to (P := Try.prog) 25 3 .i64 Try.underlying25 hi (some ad) (k + 1) c (k : Int) (by omega) (by omega) (by omega)
      clear hi hsz
      by_cases hz : l.getD k 0 = 0
      · have ht := trimZ_take_zero l k (by omega) hz
        have HT' := Aside0.mk (ht.symm.trans HT.out)
        rw [hz] at hx
        clear HT hz ht
        go_wp2
        go_roundw
        case rel => exact ⟨k, rfl, by omega, HT', Drawn0.step (Drawn0.refl _) _⟩
        case measure => simp
      · have ht := trimZ_take_ne l k (by omega) hz
        have HT' := Aside0.mk (ht.symm.trans HT.out)
        obtain ⟨x, hx'⟩ : ∃ x, l.getD k 0 = x := ⟨_, rfl⟩
        rw [hx'] at hx hz
        have hz' : (x == 0) = false := by simp [hz]
        clear HT hz ht hx'
        go_wp2
        go_ret
        exact ⟨by rw [← HT'.out]; simp; omega, Drawn0.step (Drawn0.refl _) _⟩
    · obtain rfl : n = 0 := by omega
      have HT' := Aside0.mk HT.out
      simp only [List.take_zero, trimZ] at HT'
      clear HT hn
      go_wp2
      go_ret
      exact ⟨by rw [← HT'.out]; rfl, Drawn0.step (Drawn0.refl _) _⟩

/-! ### rows of the call's own -/
/-- Whole numbers in new memory, from block base on. -/
structure Own (w : World) (base : Nat) (v : Value) (l : List Int) : Prop where mk ::
  out : Kd.R (Kd.int .i64) 3 w base (fun _ => True) v l
theorem Own.below {w w1 : World} {base : Nat} {v : Value} {l : List Int} (h : Own w base v l) (hb : Below w.heap.size w w1) : Own w1 base v l := ⟨Kd.R_below h.out hb⟩
theorem Own.drewN {w : World} {base : Nat} {v : Value} {l : List Int} (h : Own w base v l) (n : Nat) : Own (w.drewN n) base v l := ⟨Kd.R_drewN h.out n⟩
theorem Own.lower {w : World} {base base' : Nat} {v : Value} {l : List Int} (h : Own w base v l) (hb : base' ≤ base) : Own w base' v l := ⟨Kd.R_lower h.out hb⟩
theorem Own.slice {w : World} {base : Nat} {v : Value} {l : List Int} (h : Own w base v l) : ∃ A c, v = .slice A l.length c ∧ l.length ≤ c ∧ Kd.C (Kd.int .i64) w A l.length l := Kd.R_reads h.out
theorem Own.form {w : World} {base : Nat} {v : Value} {l : List Int} (h : Own w base v l) (hp : 0 < l.length) : ∃ g cap, v = .slice (some ⟨g, 0, none⟩) l.length cap ∧ base ≤ g ∧ g < w.heap.size := by
  obtain ⟨g, cap, e, h1, h2, -⟩ := Kd.R_form h.out hp
  exact ⟨g, cap, e, h1, h2⟩
theorem Own.cell {w : World} {base g cap : Nat} {l : List Int} (h : Own w base (.slice (some ⟨g, 0, none⟩) l.length cap) l) (k : Nat) (hk : k < l.length) :
    w.cell? ⟨g, k, none⟩ = some (.int .i64 (l.getD k 0)) ∧ w.frozen? ⟨g, k, none⟩ = false := by
  have := Kd.R_cell (enc := Value.int .i64) (0 : Int) h.out (k : Int) (by omega) (by omega)
  simpa [rdOf] using this
theorem Own.cell' {w : World} {base g cap n : Nat} {l : List Int} (h : Own w base (.slice (some ⟨g, 0, none⟩) n cap) l) (hn : n = l.length) (k : Nat) (hk : k < n) :
    w.cell? ⟨g, k, none⟩ = some (.int .i64 (l.getD k 0)) ∧ w.frozen? ⟨g, k, none⟩ = false := by
  subst hn; exact h.cell k hk
theorem Own.set {w : World} {base g cap n : Nat} {l : List Int} (h : Own w base (.slice (some ⟨g, 0, none⟩) n cap) l) (hn : n = l.length) (k : Nat) (x : Int) :
    Own (w.setCell ⟨g, k, none⟩ (.int .i64 x)) base (.slice (some ⟨g, 0, none⟩) n cap) (l.set k x) := by
  subst hn
  have := (Kd.R_put (enc := Value.int .i64) h.out (k : Int) x).1
  rw [Int.toNat_natCast] at this
  exact ⟨this⟩
theorem Own.take {w : World} {base n c m : Nat} {A : Option Addr} {l : List Int} (h : Own w base (.slice A n c) l) (hm : m ≤ l.length) : Own w base (.slice A m c) (l.take m) := ⟨Kd.R_take h.out hm⟩
theorem Own.trim {w : World} {base n c : Nat} {A : Option Addr} {l : List Int} (h : Own w base (.slice A n c) l) : Own w base (.slice A (trimZ l).length c) (trimZ l) := by
  have := h.take (m := (trimZ l).length) (trimZ_length_le l)
  rwa [← trimZ_eq_take] at this

section
variable {P : Program} {ops : Array Oper} {rest : List Oper} {o : Oper} {a : Act} {Q : Exit → Act → World → Prop}
theorem make_own {W : World} (hgd : o.guard = none) {N : Tmp} (hd : o.dst = some N) (x y : Operand) (ho : o.op = .makeSlice 25 x y) (n : Nat) (hx : a.eval x = .int .i64 n) (hy : a.eval y = .int .i64 n) (hl : n ≤ 35184372088832)
    (h : ∀ v1 w1, Own w1 W.heap.size v1 (List.replicate n 0) → Below W.heap.size W w1 → wpList Try.prog ops Q rest (a.put o.dst v1) w1) : wpList Try.prog ops Q (o :: rest) a W := by
  refine Kd.R_make (Kd.int .i64) W.heap.size 3 hgd (N := N) hd 25 x y ho (n : Int) hx hy Try.underlying25 (.int .i64 0) 8 info3 rfl (by decide) (by omega) 0 (ok := fun _ => True) (okp := fun _ => True) rfl (fun _ hk => hk) trivial (by omega) (by omega) (Below.refl _ _) (Nat.le_refl _) ?_
  intro v1 w1 h1 h2 _ _
  exact h v1 w1 ⟨by simpa using h1⟩ h2
theorem make_ownI {W : World} (hgd : o.guard = none) {N : Tmp} (hd : o.dst = some N) (x y : Operand) (ho : o.op = .makeSlice 25 x y) {m : Int} {n : Nat} (hm : Aside0 (m = n)) (hx : a.eval x = .int .i64 m) (hy : a.eval y = .int .i64 m) (hl : n ≤ 35184372088832)
    (h : ∀ v1 w1, Own w1 W.heap.size v1 (List.replicate n 0) → Below W.heap.size W w1 → wpList Try.prog ops Q rest (a.put o.dst v1) w1) : wpList Try.prog ops Q (o :: rest) a W := by
  have hm := hm.out
  subst hm
  exact make_own hgd hd x y ho n hx hy hl h
end
theorem below_later {B : Nat} {w w1 w2 : World} (h : Below B w w1) (hB : B ≤ w1.heap.size) (k : Below w1.heap.size w1 w2) : Below B w w2 := below_then h hB k

theorem canon_any {g : Nat} {D : GFD} {w : World} (h : GFat w g D) {A : Option Addr} {c : Nat} {l : List Int} (hl : Kd.C (Kd.int .i64) w A l.length l) (hb : l.length ≤ 35184372088832) :
    Calls Try.prog 120 #[.pointer (some ⟨g, 0, none⟩), .slice A l.length c] w fun e w' => ∃ v, e = .returned v ∧ Own w' w.heap.size v (D.canon l) ∧ Below w.heap.size w w' := by
  have H := Aside0.mk h
  have HL := Aside0.mk hl
  clear h hl
  obtain ⟨F, hF⟩ : ∃ F : Int → Int → Int, F = (fun o c => if D.is c = true then c else o) := ⟨_, rfl⟩
  obtain ⟨Z, hZ⟩ : ∃ Z : List Int, Z = List.replicate l.length 0 := ⟨_, rfl⟩
  have hcan : D.canon l = trimZ (updZ F Z l) := by rw [hF, hZ]; rfl
  rw [hcan]
  have hZl : Z.length = l.length := by rw [hZ]; simp
  have HF := Aside0.mk hF
  have HZ := Aside0.mk hZ
  have HZl := Aside0.mk hZl
  clear hcan hF hZ hZl
  go_enter Try.func120, Try.ntmps120
  go_wp2_with ((with_reducible refine gate_dst (N := 10) rfl ?_); refine make_own rfl (N := 10) rfl _ _ rfl l.length rfl rfl hb ?_; intro v w1 hO hB; rw [← HZ.out] at hO; have HO := Aside0.mk hO; clear hO)
  go_loopw [13] (fun v13 w' => ∃ k : Nat, v13 = .int .i64 k ∧ k ≤ l.length ∧ Aside0 (Own w' w.heap.size v (updZ F Z (l.take k))) ∧ Below w.heap.size w w') (fun v13 _ => l.length - (intOf v13).toNat)
  case atStart => exact ⟨0, rfl, by omega, ⟨by simpa [updZ_nil] using HO.out⟩, hB⟩
  case round =>
    obtain ⟨k, rfl, hk, HO, hB⟩ := hrel
    by_cases hlt : k < l.length
    · obtain ⟨ad, e, hx⟩ := C_nat HL.out k hlt
      cases e
      obtain ⟨x, hx'⟩ : ∃ x, l.getD k 0 = x := ⟨_, rfl⟩
      rw [hx'] at hx
      have HX := Aside0.mk hx'
      clear hx'
      replace hx := pw_cell_below hB hx
      obtain ⟨b, hb'⟩ : ∃ b, D.is x = b := ⟨_, rfl⟩
      have HBx := Aside0.mk hb'
      have hlen : (updZ F Z (l.take k)).length = l.length := by rw [updZ_length]; exact HZl.out
      have hstep := updZ_set F 0 k Z l hlt (by rw [HZl.out]; exact hlt)
      rw [HX.out] at hstep
      obtain ⟨gb, cap, e, hg1, hg2⟩ := HO.out.form (by omega)
      rw [hlen] at e
      subst e
      cases b with
      | true =>
        have hFx : F (Z.getD k 0) x = x := by rw [HF.out]; simp [hb']
        rw [hFx] at hstep
        have HO2 := Aside0.mk (HO.out.set hlen.symm k x)
        rw [hstep] at HO2
        obtain ⟨hcl, hfz⟩ := HO.out.cell' hlen.symm k hlt
        have HG := Aside0.mk (H.out.below hB)
        have HI := fun (w1 : World) (hd : Drawn0 wr w1) => Aside0.mk (is_any (HG.out.drawn hd) x)
        rw [hb'] at HI
        clear hstep hlen hFx HO hb'
        go_wp2_with (go_at_call 66; refine (HI _ ?side1).out.mono ?_; (case side1 => repeat (first | exact Drawn0.refl _ | apply Drawn0.step)); rintro e w' ⟨rfl, ⟨n, rfl⟩⟩)
        go_roundw
        case rel => exact ⟨k + 1, by go_num, by omega, ⟨HO2.out.drewN _⟩, pw_below_drewN (hB.setCell hg1 _) _⟩
        case measure => simp [intOf]; omega
      | false =>
        have hFx : F (Z.getD k 0) x = Z.getD k 0 := by rw [HF.out]; simp [hb']
        rw [hFx] at hstep
        have hsame : (updZ F Z (l.take k)).set k (Z.getD k 0) = updZ F Z (l.take k) := by
          have := updZ_get F 0 k Z l
          rw [← this]
          exact List.ext_getElem? (fun i => by
            rw [List.getElem?_set]
            split
            · subst_vars; simp [List.getD_eq_getElem?_getD, hlen, hlt]
            · rfl)
        rw [hsame] at hstep
        have HO2 := HO
        rw [hstep] at HO2
        have HG := Aside0.mk (H.out.below hB)
        have HI := fun (w1 : World) (hd : Drawn0 wr w1) => Aside0.mk (is_any (HG.out.drawn hd) x)
        rw [hb'] at HI
        clear hstep hlen hFx HO hb' hsame
        go_wp2_with (go_at_call 66; refine (HI _ ?side1).out.mono ?_; (case side1 => repeat (first | exact Drawn0.refl _ | apply Drawn0.step)); rintro e w' ⟨rfl, ⟨n, rfl⟩⟩)
        go_roundw
        case rel => exact ⟨k + 1, by go_num, by omega, ⟨HO2.out.drewN _⟩, pw_below_drewN hB _⟩
        case measure => simp [intOf]; omega
    · obtain rfl : k = l.length := by omega
      rw [List.take_length] at HO
      have hlen : (updZ F Z l).length = l.length := by rw [updZ_length]; exact HZl.out
      obtain ⟨A', c', rfl, hc', hC⟩ := HO.out.slice
      have HT := Aside0.mk (HO.out.trim)
      have HCC := Aside0.mk hC
      clear hlen hC HO
      go_wp2_with (go_at_call 122; refine (trim_any HCC.out hc').mono ?_; rintro e w' ⟨rfl, ⟨n, rfl⟩⟩)
      go_ret
      exact ⟨_, rfl, HT.out.drewN _, pw_below_drewN hB _⟩
end Go.Proofs.Yticgblagimmlfaa

namespace Go.Proofs.Yticgblagimmlfaa
open Go.RowKit Go.Proofs.YticgblagimmlfaaW.PrintWords Go.Proofs.YticgblagimmlfaaW.PrintLast Go.Proofs.YticgblagimmlfaaW.PrintMore
set_option linter.unusedVariables false
set_option linter.unusedSimpArgs false

theorem quiet_d {P : Program} {f : FuncId} {args : Array Value} {w : World} {n : Nat} {v : Value}
    (h : Calls P f args (w.drewN n) fun e w' => e = .returned v ∧ Drawn0 (w.drewN n) w') : Calls P f args (w.drewN n) fun e w'' => e = .returned v ∧ ∃ m, w'' = w.drewN m :=
  h.mono fun _ _ ⟨he, hd⟩ => by
    obtain ⟨m, hm⟩ := hd
    exact ⟨he, n + m, by rw [hm, World.drewN_drewN]⟩
theorem drawn_drewN (w : World) (n : Nat) : Drawn0 w (w.drewN n) := Drawn0.step (Drawn0.refl _) _
theorem GFat.drewN {w : World} {g : Nat} {D : GFD} (h : GFat w g D) (n : Nat) : GFat (w.drewN n) g D := h.drawn (drawn_drewN w n)
theorem Drawn0.trans {w w1 w2 : World} (h : Drawn0 w w1) (k : Drawn0 w1 w2) : Drawn0 w w2 := by
  obtain ⟨n, rfl⟩ := k
  exact h.step n

theorem eval_drop (D : GFD) (l : List Int) (x : Int) (k : Nat) (h : k < l.length) : D.eval (l.drop k) x = D.add (D.mul (D.eval (l.drop (k + 1)) x) x) (l.getD k 0) := by
  rw [List.drop_eq_getElem_cons h, List.getD_eq_getElem?_getD, List.getElem?_eq_getElem h]
  rfl

theorem eval_any {g : Nat} {D : GFD} {w : World} (h : GFat w g D) (hD : D.ok) {A : Option Addr} {c : Nat} {l : List Int} (hl : Kd.C (Kd.int .i64) w A l.length l) (x : Int) :
    Calls Try.prog 92 #[.pointer (some ⟨g, 0, none⟩), .slice A l.length c, .int .i64 x] w fun e w' => e = .returned (.int .i64 (D.eval l x)) ∧ Drawn0 w w' := by
  have H := Aside0.mk h
  have HL := Aside0.mk hl
  have hm := Kd.C_max hl
  clear h hl
  go_enter Try.func92, Try.ntmps92
  go_wp2
  go_loopw [7, 8] (fun v7 v8 w' => ∃ (k : Nat) (y : Int), v8 = .int .i64 ((k : Int) - 1) ∧ v7 = .int .i64 y ∧ k ≤ l.length ∧ Aside0 (y = D.eval (l.drop k) x) ∧ Drawn0 w w') (fun _ v8 _ => (intOf v8 + 1).toNat)
  case atStart => exact ⟨l.length, 0, rfl, rfl, Nat.le_refl _, ⟨by simp [GFD.eval]⟩, Drawn0.refl _⟩
  case round =>
    obtain ⟨k, y, rfl, rfl, hk, HY, hd⟩ := hrel
    by_cases h0 : 0 < k
    · obtain ⟨j, rfl⟩ : ∃ j, k = j + 1 := ⟨k - 1, by omega⟩
      have hstep := eval_drop D l x j (by omega)
      rw [← HY.out] at hstep
      have HS := Aside0.mk hstep
      obtain ⟨ad, e, hx⟩ := C_nat (Kd.C_below HL.out hd.below) j (by omega)
      cases e
      obtain ⟨z, hz⟩ : ∃ z, l.getD j 0 = z := ⟨_, rfl⟩
      rw [hz] at hx hstep
      have HZ := Aside0.mk hstep.symm
      have HG := Aside0.mk (H.out.drawn hd)
      clear hz hstep HS
      have hj : j < l.length := by omega
      go_wp2
      go_quiet (first | (go_at_call 79; exact quiet_d (mul_any (HG.out.drewN _) hD _ _)) | (go_at_call 83; exact quiet_d (add_any (HG.out.drewN _) hD _ _)))
      go_wp2
      go_roundw
      case rel => exact ⟨j, _, by go_num, rfl, by omega, HZ, hd.step _⟩
      case measure => simp [intOf]
    · obtain rfl : k = 0 := by omega
      rw [List.drop_zero] at HY
      go_wp2
      go_ret
      exact ⟨by rw [HY.out]; rfl, hd⟩

theorem degree_any {g : Nat} {D : GFD} {w : World} (h : GFat w g D) {A : Option Addr} {c : Nat} {l : List Int} (hl : Kd.C (Kd.int .i64) w A l.length l) (hb : l.length ≤ 35184372088832) :
    Calls Try.prog 139 #[.pointer (some ⟨g, 0, none⟩), .slice A l.length c] w fun e w' => e = .returned (.int .i64 (((D.canon l).length : Int) - 1)) ∧ Below w.heap.size w w' := by
  have H := Aside0.mk h
  have HL := Aside0.mk hl
  have hle : (D.canon l).length ≤ l.length := by
    unfold GFD.canon
    refine Nat.le_trans (trimZ_length_le _) ?_
    rw [updZ_length]; simp
  clear h hl
  go_enter Try.func139, Try.ntmps139
  go_wp2_with (go_at_call 120; refine (canon_any H.out HL.out hb).mono ?_; rintro e w1 ⟨v, rfl, hO, hB⟩; obtain ⟨A1, c1, rfl, -, -⟩ := hO.slice; clear hO)
  go_ret
  exact ⟨rfl, hB⟩

end Go.Proofs.Yticgblagimmlfaa

namespace Go.Proofs.Yticgblagimmlfaa
open Go.RowKit Go.Proofs.YticgblagimmlfaaW.PrintWords Go.Proofs.YticgblagimmlfaaW.PrintLast Go.Proofs.YticgblagimmlfaaW.PrintMore
attribute [local go_sem] max2_int min2_int max_two min_two max_three min_three max_four min_four
set_option linter.unusedVariables false
set_option linter.unusedSimpArgs false

set_option maxRecDepth 100000 in
theorem combine_any {g : Nat} {D : GFD} {w : World} (h : GFat w g D) (hD : D.ok) {A B : Option Addr} {c d : Nat} {p q : List Int} (hp : Kd.C (Kd.int .i64) w A p.length p) (hq : Kd.C (Kd.int .i64) w B q.length q) (x : Int)
    (hbp : p.length ≤ 35184372088832) (hbq : q.length ≤ 35184372088832) :
    Calls Try.prog 137 #[.pointer (some ⟨g, 0, none⟩), .slice A p.length c, .int .i64 x, .slice B q.length d] w fun e w' => ∃ v, e = .returned v ∧ Own w' w.heap.size v (D.combine p x q) ∧ Below w.heap.size w w' := by
  have H := Aside0.mk h
  have HP := Aside0.mk hp
  have HQ := Aside0.mk hq
  clear h hp hq
  obtain ⟨n, hn, hcase⟩ : ∃ n, max p.length q.length = n ∧ ((p.length < q.length ∧ q.length = n) ∨ (¬ p.length < q.length ∧ p.length = n)) := ⟨_, rfl, by omega⟩
  have hnp : p.length ≤ n := by omega
  have hnq : q.length ≤ n := by omega
  obtain ⟨Z, hZ⟩ : ∃ Z : List Int, Z = List.replicate n 0 := ⟨_, rfl⟩
  obtain ⟨F, hF⟩ : ∃ F : Int → Int → Int, F = (fun _ c => D.add c 0) := ⟨_, rfl⟩
  obtain ⟨G, hG⟩ : ∃ G : Int → Int → Int, G = (fun o c => D.add o (D.mul x c)) := ⟨_, rfl⟩
  have hc : D.combine p x q = trimZ (updZ G (updZ F Z p) q) := by rw [hF, hG, hZ, ← hn]; rfl
  have hZl : Z.length = n := by rw [hZ]; simp
  rw [hc]
  have HF := Aside0.mk hF
  have HGf := Aside0.mk hG
  have HZ := Aside0.mk hZ
  have HZl := Aside0.mk hZl
  obtain ⟨Y, hY⟩ : ∃ Y, updZ F Z p = Y := ⟨_, rfl⟩
  have hYl : Y.length = n := by rw [← hY, updZ_length]; exact hZl
  rw [hY]
  have HY := Aside0.mk hY
  have HYl := Aside0.mk hYl
  clear hc hF hG hZ hZl hn hY hYl
  rcases hcase with ⟨hlt, rfl⟩ | ⟨hlt, rfl⟩
  all_goals
    go_enter Try.func137, Try.ntmps137
    go_wp2_with ((with_reducible refine gate_dst (N := 19) rfl ?_); refine make_own rfl (N := 19) rfl _ _ rfl _ rfl rfl (by first | exact hbp | exact hbq) ?_; intro v w1 hO hB; rw [← HZ.out] at hO; have HO := Aside0.mk hO; clear hO)
    go_loopw [22] (fun v22 w' => ∃ k : Nat, v22 = .int .i64 k ∧ k ≤ p.length ∧ Aside0 (Own w' w.heap.size v (updZ F Z (p.take k))) ∧ Below w.heap.size w w') (fun v22 _ => p.length - (intOf v22).toNat)
    case atStart => exact ⟨0, rfl, by omega, ⟨by simpa [updZ_nil] using HO.out⟩, hB⟩
    case round =>
      clear HO hB
      obtain ⟨k, rfl, hk, HO, hB⟩ := hrel
      have hlen : (updZ F Z (p.take k)).length = Z.length := by rw [updZ_length]
      rw [HZl.out] at hlen
      by_cases hlk : k < p.length
      · obtain ⟨ad, e, hx⟩ := C_nat (Kd.C_below HP.out hB) k hlk
        cases e
        obtain ⟨y, hy⟩ : ∃ y, p.getD k 0 = y := ⟨_, rfl⟩
        rw [hy] at hx
        have hstep := updZ_set F 0 k Z p hlk (by rw [HZl.out]; omega)
        rw [hy, show F (Z.getD k 0) y = D.add y 0 from by rw [HF.out]] at hstep
        obtain ⟨gb, cap, e, hg1, hg2⟩ := HO.out.form (by omega)
        rw [hlen] at e
        subst e
        have HO2 := Aside0.mk (HO.out.set hlen.symm k (D.add y 0))
        rw [hstep] at HO2
        obtain ⟨hcl, hfz⟩ := HO.out.cell' hlen.symm k (by omega)
        have HG := Aside0.mk (H.out.below hB)
        have hkn := Nat.lt_of_lt_of_le hlk hnp
        clear hstep hlen HO hy
        go_wp2_with (go_at_call 83; (with_reducible refine (add_any ?side1 hD _ _).mono ?_); (case side1 => exact HG.out.drawn (by repeat (first | exact Drawn0.refl _ | apply Drawn0.step))); rintro e w' ⟨rfl, ⟨n, rfl⟩⟩)
        go_roundw
        case rel => exact ⟨k + 1, by go_num, by omega, ⟨HO2.out.drewN _⟩, pw_below_drewN (hB.setCell hg1 _) _⟩
        case measure => simp [intOf]; omega
      · obtain rfl : k = p.length := by omega
        rw [List.take_length, HY.out] at HO
        clear hlen HY
        go_wp2
        go_loopw [36] (fun v36 w' => ∃ k : Nat, v36 = .int .i64 k ∧ k ≤ q.length ∧ Aside0 (Own w' w.heap.size v (updZ G Y (q.take k))) ∧ Below w.heap.size w w') (fun v36 _ => q.length - (intOf v36).toNat)
        case atStart => exact ⟨0, rfl, by omega, ⟨by simpa [updZ_nil] using HO.out⟩, hB⟩
        case round =>
          clear HO hB
          obtain ⟨k, rfl, hk, HO, hB⟩ := hrel
          have hlen : (updZ G Y (q.take k)).length = Y.length := by rw [updZ_length]
          rw [HYl.out] at hlen
          by_cases hlk : k < q.length
          · obtain ⟨ad, e, hx⟩ := C_nat (Kd.C_below HQ.out hB) k hlk
            cases e
            obtain ⟨y, hy⟩ : ∃ y, q.getD k 0 = y := ⟨_, rfl⟩
            rw [hy] at hx
            have hstep := updZ_set G 0 k Y q hlk (by rw [HYl.out]; omega)
            have hget := updZ_get G 0 k Y q
            obtain ⟨o, ho⟩ : ∃ o, Y.getD k 0 = o := ⟨_, rfl⟩
            rw [ho] at hget hstep
            rw [hy, show G o y = D.add o (D.mul x y) from by rw [HGf.out]] at hstep
            obtain ⟨gb, cap, e, hg1, hg2⟩ := HO.out.form (by omega)
            rw [hlen] at e
            subst e
            have HO2 := Aside0.mk (HO.out.set hlen.symm k (D.add o (D.mul x y)))
            rw [hstep] at HO2
            obtain ⟨hcl, hfz⟩ := HO.out.cell' hlen.symm k (by omega)
            rw [hget] at hcl
            have HG := Aside0.mk (H.out.below hB)
            have hkn := Nat.lt_of_lt_of_le hlk hnq
            clear hstep hlen HO hy ho hget
            go_wp2
            refine wp_region_quiet_tail 13 (by kernel_rfl) (by kernel_rfl) ?_
            simp only [List.take_succ_cons, List.take_zero, List.drop_succ_cons, List.drop_zero]
            repeat (first | go_big_quiet_step (first | (go_at_call 79; exact quiet_d (mul_any (HG.out.drewN _) hD _ _)) | (go_at_call 83; exact quiet_d (add_any (HG.out.drewN _) hD _ _))) | quiet_step (first | (go_at_call 79; exact quiet_d (mul_any (HG.out.drewN _) hD _ _)) | (go_at_call 83; exact quiet_d (add_any (HG.out.drewN _) hD _ _))))
            refine wpQuiet_nil ?_
            intro _ hw'
            obtain ⟨nq, hw''⟩ := hw'
            subst hw''
            go_wp2
            go_roundw
            case rel => exact ⟨k + 1, by go_num, by omega, ⟨HO2.out.drewN _⟩, pw_below_drewN (hB.setCell hg1 _) _⟩
            case measure => simp [intOf]; omega
          · obtain rfl : k = q.length := by omega
            rw [List.take_length] at HO
            obtain ⟨A', c', e, hc', hC⟩ := HO.out.slice
            subst e
            have HT := Aside0.mk (HO.out.trim)
            have HCC := Aside0.mk hC
            clear hlen hC HO
            go_wp2_with (go_at_call 122; refine (trim_any HCC.out hc').mono ?_; rintro e w' ⟨rfl, ⟨n, rfl⟩⟩)
            go_ret
            exact ⟨_, rfl, HT.out.drewN _, pw_below_drewN hB _⟩
end Go.Proofs.Yticgblagimmlfaa

namespace Go.Proofs.Yticgblagimmlfaa
open Go.RowKit Go.Proofs.YticgblagimmlfaaW.PrintWords Go.Proofs.YticgblagimmlfaaW.PrintLast Go.Proofs.YticgblagimmlfaaW.PrintMore
set_option linter.unusedVariables false
set_option linter.unusedSimpArgs false

theorem Own.nil (w : World) (base : Nat) : Own w base (.slice none 0 0) [] := ⟨Kd.R_nil _ _ _ _ _⟩
theorem product_any {g : Nat} {D : GFD} {w : World} (h : GFat w g D) (hD : D.ok) {A B : Option Addr} {c d : Nat} {p q : List Int} (hp : Kd.C (Kd.int .i64) w A p.length p) (hq : Kd.C (Kd.int .i64) w B q.length q)
    (hb : p.length + q.length ≤ 35184372088832) :
    Calls Try.prog 138 #[.pointer (some ⟨g, 0, none⟩), .slice A p.length c, .slice B q.length d] w fun e w' => ∃ v, e = .returned v ∧ Own w' w.heap.size v (D.product p q) ∧ Below w.heap.size w w' := by
  have H := Aside0.mk h
  have HP := Aside0.mk hp
  have HQ := Aside0.mk hq
  have hbp : p.length ≤ 35184372088832 := by omega
  have hbq : q.length ≤ 35184372088832 := by omega
  clear h hp hq
  have lp := canon_length_le D p
  have lq := canon_length_le D q
  have hpr : D.product p q = D.prodC (D.canon p) (D.canon q) := rfl
  rw [hpr]
  obtain ⟨P, hP⟩ : ∃ P, D.canon p = P := ⟨_, rfl⟩
  obtain ⟨Q, hQ⟩ : ∃ Q, D.canon q = Q := ⟨_, rfl⟩
  rw [hP] at lp
  rw [hQ] at lq
  rw [hP, hQ]
  have C1 := fun (w1 : World) (h1 : Below w.heap.size w w1) => Aside0.mk (canon_any (c := c) (H.out.below h1) (Kd.C_below HP.out h1) hbp)
  have C2 := fun (w1 : World) (h1 : Below w.heap.size w w1) => Aside0.mk (canon_any (c := d) (H.out.below h1) (Kd.C_below HQ.out h1) hbq)
  simp only [hP] at C1
  simp only [hQ] at C2
  clear hpr hP hQ
  have B0 := Below.refl w.heap.size w
  by_cases hnil : P = [] ∨ Q = []
  · have e : D.prodC P Q = [] := by unfold GFD.prodC; rw [if_pos hnil]
    rw [e]
    clear e
    by_cases hp0 : P.length = 0
    · have hz : ((P.length : Int) == 0) = true := by simp [hp0]
      clear hnil hp0
      go_enter Try.func138, Try.ntmps138
      go_wp2_with (first | (go_at_call 120; refine (C1 _ B0).out.mono ?_; rintro e w1 ⟨v1, rfl, hO1, hB1⟩; obtain ⟨A1, c1, rfl, hc1, hC1⟩ := hO1.slice; have HB1 := Aside0.mk hB1; clear hO1 hB1 C1 hC1) | (go_at_call 120; refine (C2 _ HB1.out).out.mono ?_; rintro e w2 ⟨v2, rfl, hO2, hB2⟩; obtain ⟨A2, c2, rfl, hc2, hC2⟩ := hO2.slice; have HB2 := Aside0.mk (below_later HB1.out HB1.out.size hB2); clear hO2 hB2 C2 hC2))
      go_ret
      exact ⟨_, rfl, Own.nil _ _, HB2.out⟩
    · have hq0 : Q.length = 0 := by
        rcases hnil with h | h
        · rw [h] at hp0; simp at hp0
        · rw [h]; rfl
      have hz : ((P.length : Int) == 0) = false := by simp only [beq_eq_false_iff_ne]; omega
      have hz2 : ((Q.length : Int) == 0) = true := by simp [hq0]
      clear hnil hp0 hq0
      go_enter Try.func138, Try.ntmps138
      go_wp2_with (first | (go_at_call 120; refine (C1 _ B0).out.mono ?_; rintro e w1 ⟨v1, rfl, hO1, hB1⟩; obtain ⟨A1, c1, rfl, hc1, hC1⟩ := hO1.slice; have HB1 := Aside0.mk hB1; clear hO1 hB1 C1 hC1) | (go_at_call 120; refine (C2 _ HB1.out).out.mono ?_; rintro e w2 ⟨v2, rfl, hO2, hB2⟩; obtain ⟨A2, c2, rfl, hc2, hC2⟩ := hO2.slice; have HB2 := Aside0.mk (below_later HB1.out HB1.out.size hB2); clear hO2 hB2 C2 hC2))
      go_ret
      exact ⟨_, rfl, Own.nil _ _, HB2.out⟩
  · have hp0 : ¬ P.length = 0 := fun h => hnil (.inl (List.eq_nil_of_length_eq_zero h))
    have hq0 : ¬ Q.length = 0 := fun h => hnil (.inr (List.eq_nil_of_length_eq_zero h))
    obtain ⟨R, hR⟩ : ∃ R, D.prodC P Q = R := ⟨_, rfl⟩
    rw [hR]
    have hR' : D.prodAux Q P 0 (List.replicate (P.length + Q.length - 1) 0) = R := by rw [← hR]; unfold GFD.prodC; rw [if_neg hnil]
    obtain ⟨N, hN⟩ : ∃ N, P.length + Q.length - 1 = N := ⟨_, rfl⟩
    rw [hN] at hR'
    have hNi : (P.length : Int) + (Q.length : Int) - 1 = (N : Int) := by omega
    have HN := Aside0.mk hNi
    have HNl := Aside0.mk hN
    have hNb : N ≤ 35184372088832 := by omega
    have HR := Aside0.mk hR'
    have hz : ((P.length : Int) == 0) = false := by simp only [beq_eq_false_iff_ne]; omega
    have hz2 : ((Q.length : Int) == 0) = false := by simp only [beq_eq_false_iff_ne]; omega
    have hP1 : 1 ≤ P.length := by omega
    have hQ1 : 1 ≤ Q.length := by omega
    clear hnil hp0 hq0 hR hR' hNi hN
    go_enter Try.func138, Try.ntmps138
    go_wp2_with (first | (go_at_call 120; refine (C1 _ B0).out.mono ?_; rintro e w1 ⟨v1, rfl, hO1, hB1⟩; obtain ⟨A1, c1, rfl, hc1, hC1⟩ := hO1.slice; have HB1 := Aside0.mk hB1; have HC1 := Aside0.mk hC1; clear hO1 hB1 C1 hC1) | (go_at_call 120; refine (C2 _ HB1.out).out.mono ?_; rintro e w2 ⟨v2, rfl, hO2, hB2⟩; obtain ⟨A2, c2, rfl, hc2, hC2⟩ := hO2.slice; replace HC1 := Aside0.mk (Kd.C_below HC1.out hB2); have HC2 := Aside0.mk hC2; have HB2 := Aside0.mk (below_later HB1.out HB1.out.size hB2); clear hO2 hB2 C2 hC2 HB1) | ((with_reducible refine gate_dst (N := 32) rfl ?_); refine make_ownI rfl (N := 32) rfl _ _ rfl HN rfl rfl hNb ?_; intro v w3 hO3 hB3; have HO := Aside0.mk hO3; have HB := Aside0.mk hB3; have HG2 := Aside0.mk (H.out.below HB2.out); clear hO3 hB3))
    go_loopw [35] (fun v35 w' => ∃ (k : Nat) (O : List Int), v35 = .int .i64 k ∧ k ≤ P.length ∧ Aside0 (O.length = N) ∧ Aside0 (D.prodAux Q (P.drop k) k O = R) ∧ Aside0 (Own w' w2.heap.size v O) ∧ Aside0 (Below w2.heap.size w2 w')) (fun v35 _ => P.length - (intOf v35).toNat)
    case atStart => exact ⟨0, _, rfl, by omega, ⟨List.length_replicate⟩, ⟨HR.out⟩, HO, HB⟩
    case round =>
      clear HO HB HR B0 H HP HQ HN
      obtain ⟨k, O, rfl, hk, HOl, HR, HO, HB⟩ := hrel
      by_cases hlk : k < P.length
      · obtain ⟨ad, e, hx⟩ := C_nat (Kd.C_below HC1.out HB.out) k hlk
        cases e
        obtain ⟨y, hy⟩ : ∃ y, P.getD k 0 = y := ⟨_, rfl⟩
        rw [hy] at hx
        have hdr : P.drop k = y :: P.drop (k + 1) := by
          rw [List.drop_eq_getElem_cons hlk, ← hy]; simp [List.getD_eq_getElem?_getD, hlk]
        have hr := HR.out
        rw [hdr] at hr
        have HR2 := Aside0.mk (show D.prodAux Q (P.drop (k + 1)) (k + 1) (D.prodRow y k O Q) = R from hr)
        obtain ⟨F, hF⟩ : ∃ F : Int → Int → Int, F = (fun o b => D.add o (D.mul y b)) := ⟨_, rfl⟩
        have hrow : D.prodRow y k O Q = updAt F k O Q := by rw [hF]; rfl
        rw [hrow] at HR2
        have HF := Aside0.mk hF
        clear hy hdr hr hrow hF HR
        go_wp2
        obtain ⟨wo, rfl⟩ : ∃ wo : World, wo = wr := ⟨_, rfl⟩
        go_loopw [42] (fun v42 w' => ∃ (j : Nat), v42 = .int .i64 j ∧ j ≤ Q.length ∧ Aside0 (Own w' w2.heap.size v (updAt F k O (Q.take j))) ∧ Aside0 (Below w2.heap.size w2 w')) (fun v42 _ => Q.length - (intOf v42).toNat)
        case atStart => exact ⟨0, rfl, by omega, ⟨by simpa [updAt_nil] using HO.out⟩, HB⟩
        case round =>
          clear HO HB
          obtain ⟨j, rfl, hj, HO, HB⟩ := hrel
          have hlen : (updAt F k O (Q.take j)).length = N := by rw [updAt_length]; exact HOl.out
          by_cases hlj : j < Q.length
          · have hkj : k + j < N := by have := HNl.out; omega
            obtain ⟨ad2, e, hx2⟩ := C_nat (Kd.C_below HC2.out HB.out) j hlj
            cases e
            obtain ⟨z, hz⟩ : ∃ z, Q.getD j 0 = z := ⟨_, rfl⟩
            rw [hz] at hx2
            have hstep := updAt_set F 0 k j O Q hlj (by rw [HOl.out]; omega)
            have hget := updAt_get F 0 k j O Q (by rw [HOl.out]; omega)
            obtain ⟨o, ho⟩ : ∃ o, O.getD (k + j) 0 = o := ⟨_, rfl⟩
            rw [ho] at hget hstep
            rw [hz, show F o z = D.add o (D.mul y z) from by rw [HF.out]] at hstep
            obtain ⟨gb, cap, e, hg1, hg2⟩ := HO.out.form (by omega)
            rw [hlen] at e
            subst e
            have HO2 := Aside0.mk (HO.out.set hlen.symm (k + j) (D.add o (D.mul y z)))
            rw [hstep] at HO2
            obtain ⟨hcl, hfz⟩ := HO.out.cell' hlen.symm (k + j) hkj
            rw [hget] at hcl
            have HG := Aside0.mk (HG2.out.below HB.out)
            have e1 : IntKind.i64.wrap ((k : Int) + (j : Int)) = (k : Int) + (j : Int) := w64 _ (by omega) (by omega)
            have e2 : ((k : Int) + (j : Int)).toNat = k + j := by omega
            have e3 : 0 ≤ (k : Int) + (j : Int) := by omega
            have e4 : (k : Int) + (j : Int) < (N : Int) := by omega
            clear hstep hlen HO hz ho hget
            go_wp2
            refine wp_region_quiet_tail 17 (by kernel_rfl) (by kernel_rfl) ?_
            simp only [List.take_succ_cons, List.take_zero, List.drop_succ_cons, List.drop_zero]
            repeat (first | go_big_quiet_step (first | (go_at_call 79; exact quiet_d (mul_any (HG.out.drewN _) hD _ _)) | (go_at_call 83; exact quiet_d (add_any (HG.out.drewN _) hD _ _))) | quiet_step (first | (go_at_call 79; exact quiet_d (mul_any (HG.out.drewN _) hD _ _)) | (go_at_call 83; exact quiet_d (add_any (HG.out.drewN _) hD _ _))))
            refine wpQuiet_nil ?_
            intro _ hw'
            obtain ⟨nq, hw''⟩ := hw'
            subst hw''
            go_wp2
            go_roundw
            case rel => exact ⟨j + 1, by go_num, by omega, ⟨HO2.out.drewN _⟩, ⟨pw_below_drewN (HB.out.setCell hg1 _) _⟩⟩
            case measure => simp [intOf]; omega
          · obtain rfl : j = Q.length := by omega
            rw [List.take_length] at HO hlen
            go_wp2
            go_roundw
            case rel => exact ⟨k + 1, _, by go_num, by omega, ⟨hlen⟩, HR2, HO, HB⟩
            case measure => simp [intOf]; omega
      · obtain rfl : k = P.length := by omega
        have hr := HR.out
        rw [List.drop_length] at hr
        have hr' : O = R := hr
        have HR2 := Aside0.mk hr'
        clear hr hr' HR
        go_wp2
        go_ret
        exact ⟨_, rfl, by rw [← HR2.out]; exact HO.out.lower HB2.out.size, below_later HB2.out HB2.out.size HB.out⟩
end Go.Proofs.Yticgblagimmlfaa

namespace Go.Proofs.Yticgblagimmlfaa
open Go.RowKit Go.Proofs.YticgblagimmlfaaW.PrintWords Go.Proofs.YticgblagimmlfaaW.PrintLast Go.Proofs.YticgblagimmlfaaW.PrintMore
set_option linter.unusedVariables false
set_option linter.unusedSimpArgs false

theorem _root_.Go.RowKit.Below.below'' {w0 w w1 : World} (h : Below w0.heap.size w0 w) (hd : Drawn0 w w1) : Below w0.heap.size w0 w1 := by
  obtain ⟨n, rfl⟩ := hd
  exact pw_below_drewN h n
theorem own_lit1 (w : World) (x : Int) : Own (w.alloc (.cells #[.int .i64 x] 3)) w.heap.size (.slice (some ⟨w.heap.size, 0, none⟩) 1 1) [x] :=
  ⟨Kd.R_of_own (enc := Value.int .i64) (own_lit_of w w.heap.size 3 [x] (Nat.le_refl _) (by simp)) (fun _ _ => trivial)⟩
theorem own_lit2 (w : World) (x y : Int) : Own (w.alloc (.cells #[.int .i64 x, .int .i64 y] 3)) w.heap.size (.slice (some ⟨w.heap.size, 0, none⟩) 2 2) [x, y] :=
  ⟨Kd.R_of_own (enc := Value.int .i64) (own_lit_of w w.heap.size 3 [x, y] (Nat.le_refl _) (by simp)) (fun _ _ => trivial)⟩
theorem Own.reads {w : World} {base n c : Nat} {A : Option Addr} {l : List Int} (h : Own w base (.slice A n c) l) : n = l.length ∧ l.length ≤ c ∧ Kd.C (Kd.int .i64) w A l.length l := by
  obtain ⟨h1, h2, h3⟩ := Kd.R_reads' h.out
  exact ⟨h1, by omega, h3⟩
theorem subP_any {g : Nat} {D : GFD} {w : World} (h : GFat w g D) (hD : D.ok) {A B : Option Addr} {c d : Nat} {p q : List Int} (hp : Kd.C (Kd.int .i64) w A p.length p) (hq : Kd.C (Kd.int .i64) w B q.length q)
    (hbp : p.length ≤ 35184372088832) (hbq : q.length ≤ 35184372088832) :
    Calls Try.prog 140 #[.pointer (some ⟨g, 0, none⟩), .slice A p.length c, .slice B q.length d] w fun e w' => ∃ v, e = .returned v ∧ Own w' w.heap.size v (D.subP p q) ∧ Below w.heap.size w w' := by
  have H := Aside0.mk h
  have HP := Aside0.mk hp
  have HQ := Aside0.mk hq
  have hs : D.subP p q = D.combine p (D.neg 1) q := rfl
  rw [hs]
  clear h hp hq hs
  go_enter Try.func140, Try.ntmps140
  go_wp2_with (first | (go_at_call 119; (with_reducible refine (neg_any H.out hD 1).mono ?_); rintro e w1 ⟨rfl, hd⟩; have HD := Aside0.mk hd; clear hd) | (go_at_call 137; (with_reducible refine (combine_any (H.out.drawn HD.out) hD (Kd.C_below HP.out HD.out.below) (Kd.C_below HQ.out HD.out.below) _ hbp hbq).mono ?_); rintro e w2 ⟨v, rfl, hO, hB⟩; have HO := Aside0.mk hO; have HB := Aside0.mk hB; clear hO hB))
  go_ret
  have hz := HD.out.below.size
  exact ⟨_, rfl, HO.out.lower hz, below_later HD.out.below hz HB.out⟩

theorem fromRoots_any {g : Nat} {D : GFD} {w : World} (h : GFat w g D) (hD : D.ok) {A : Option Addr} {c : Nat} {l : List Int} (hl : Kd.C (Kd.int .i64) w A l.length l) (hb : l.length ≤ 35184372088000) :
    Calls Try.prog 105 #[.pointer (some ⟨g, 0, none⟩), .slice A l.length c] w fun e w' => ∃ v, e = .returned v ∧ Own w' w.heap.size v (D.fromRoots l) ∧ Below w.heap.size w w' := by
  have H := Aside0.mk h
  have HL := Aside0.mk hl
  clear h hl
  go_enter Try.func105, Try.ntmps105
  go_wp2
  have HO := Aside0.mk (own_lit1 w 1)
  have HB := Aside0.mk (below_alloc (Below.refl w.heap.size w) (.cells #[.int .i64 1] 3))
  go_loopw [5, 11] (fun v5 v11 w' => ∃ (k : Nat) (O : List Int), v11 = .int .i64 k ∧ k ≤ l.length ∧ O.length ≤ k + 1 ∧ Aside0 (O = D.fromRoots (l.take k)) ∧ Aside0 (Own w' w.heap.size v5 O) ∧ Aside0 (Below w.heap.size w w')) (fun _ v11 _ => l.length - (intOf v11).toNat)
  case atStart => exact ⟨0, [1], rfl, by omega, by simp, ⟨by simp [GFD.fromRoots]⟩, HO, HB⟩
  case round =>
    clear HO HB
    obtain ⟨k, O, rfl, hk, hOl, HOe, HO, HB⟩ := hrel
    obtain ⟨A5, c5, rfl, hc5, hC5⟩ := HO.out.slice
    by_cases hlk : k < l.length
    · obtain ⟨ad, e, hx⟩ := C_nat (Kd.C_below HL.out HB.out) k hlk
      cases e
      obtain ⟨x, hx'⟩ : ∃ x, l.getD k 0 = x := ⟨_, rfl⟩
      rw [hx'] at hx
      have hfr : D.fromRoots (l.take (k + 1)) = D.product O [D.neg x, 1] := by
        rw [take_succ_rd l k hlk, hx', HOe.out]; simp [GFD.fromRoots]
      have HFR := Aside0.mk hfr.symm
      have HC5 := Aside0.mk hC5
      have hpl := product_length_le D O [D.neg x, 1]
      obtain ⟨O', hO'⟩ : ∃ O', D.product O [D.neg x, 1] = O' := ⟨_, rfl⟩
      rw [hO'] at hpl HFR
      simp only [List.length_cons, List.length_nil] at hpl
      have HO' := Aside0.mk hO'
      clear hx' hfr hC5 hO'
      go_wp2_with (first | (go_at_call 119; (with_reducible refine (neg_any (H.out.below HB.out) hD x).mono ?_); rintro e w1 ⟨rfl, hd⟩; have HD := Aside0.mk hd; clear hd) | (go_at_call 138; refine (product_any (p := O) (q := [D.neg x, 1]) ((H.out.below HB.out).drawn HD.out |>.below (below_alloc (Below.refl _ _) _)) hD (Kd.C_below (Kd.C_below HC5.out HD.out.below) (below_alloc (Below.refl _ _) _)) (own_lit2 w1 (D.neg x) 1).reads.2.2 (by simp only [List.length_cons, List.length_nil]; omega)).mono ?_; rintro e w2 ⟨v, rfl, hO, hB⟩; rw [HO'.out] at hO; have HO2 := Aside0.mk hO; have HB2 := Aside0.mk hB; clear hO hB))
      have hz := HD.out.below.size
      have HBd := Aside0.mk (below_alloc (HB.out.below'' HD.out) (.cells #[.int .i64 (D.neg x), .int .i64 1] 3))
      go_roundw
      case rel => exact ⟨k + 1, O', by go_num, by omega, by omega, HFR, ⟨HO2.out.lower HBd.out.size⟩, ⟨below_later HBd.out HBd.out.size HB2.out⟩⟩
      case measure => simp [intOf]; omega
    · obtain rfl : k = l.length := by omega
      have he := HOe.out
      rw [List.take_length] at he
      have HE := Aside0.mk he
      clear he HOe hC5
      go_wp2
      go_ret
      exact ⟨_, rfl, by rw [← HE.out]; exact HO.out, HB.out⟩
end Go.Proofs.Yticgblagimmlfaa

namespace Go.Proofs.Yticgblagimmlfaa
open Go.RowKit Go.Proofs.YticgblagimmlfaaW.PrintWords Go.Proofs.YticgblagimmlfaaW.PrintLast Go.Proofs.YticgblagimmlfaaW.PrintMore
set_option linter.unusedVariables false
set_option linter.unusedSimpArgs false

def mulK (D : GFD) (p q : List Int) : Nat → List Int
  | 0 => [1]
  | 1 => D.product [1] p
  | _ => D.product (D.product [1] p) q

theorem mul2_any {g : Nat} {D : GFD} {w : World} (h : GFat w g D) (hD : D.ok) {A B : Option Addr} {c d b : Nat} {p q : List Int} (hp : Kd.C (Kd.int .i64) w A p.length p) (hq : Kd.C (Kd.int .i64) w B q.length q)
    (h0 : w.cell? ⟨b, 0, none⟩ = some (.slice A p.length c)) (h1 : w.cell? ⟨b, 1, none⟩ = some (.slice B q.length d)) (hb : p.length + q.length ≤ 35184372088000) :
    Calls Try.prog 141 #[.pointer (some ⟨g, 0, none⟩), .slice (some ⟨b, 0, none⟩) 2 2] w fun e w' => ∃ v, e = .returned v ∧ Own w' w.heap.size v (D.product (D.product [1] p) q) ∧ Below w.heap.size w w' := by
  have H := Aside0.mk h
  have HP := Aside0.mk hp
  have HQ := Aside0.mk hq
  have H0 := Aside0.mk h0
  have H1 := Aside0.mk h1
  clear h hp hq h0 h1
  go_enter Try.func141, Try.ntmps141
  go_wp2
  have HO := Aside0.mk (own_lit1 w 1)
  have HB := Aside0.mk (below_alloc (Below.refl w.heap.size w) (.cells #[.int .i64 1] 3))
  go_loopw [5, 11] (fun v5 v11 w' => ∃ (k : Nat), v11 = .int .i64 k ∧ k ≤ 2 ∧ Aside0 (Own w' w.heap.size v5 (mulK D p q k)) ∧ Aside0 (Below w.heap.size w w')) (fun _ v11 _ => 2 - (intOf v11).toNat)
  case atStart => exact ⟨0, rfl, by omega, HO, HB⟩
  case round =>
    clear HO HB
    obtain ⟨k, rfl, hk, HO, HB⟩ := hrel
    by_cases hlk : k < 2
    · have hk01 : k = 0 ∨ k = 1 := by omega
      rcases hk01 with rfl | rfl
      · obtain ⟨A5, c5, rfl, hc5, hC5⟩ := HO.out.slice
        have HC5 := Aside0.mk hC5
        have hx := pw_cell_below HB.out H0.out
        have HPb := Aside0.mk (Kd.C_below HP.out HB.out)
        have HGb := Aside0.mk (H.out.below HB.out)
        clear hC5
        have hlen : (mulK D p q 0).length + p.length ≤ 35184372088832 := by show 1 + p.length ≤ _; omega
        have HPr := Aside0.mk (show D.product (mulK D p q 0) p = mulK D p q 1 from rfl)
        obtain ⟨K1, hK1⟩ : ∃ K1, mulK D p q 1 = K1 := ⟨_, rfl⟩
        obtain ⟨K0, hK0⟩ : ∃ K0, mulK D p q 0 = K0 := ⟨_, rfl⟩
        rw [hK0] at hlen HPr HC5
        rw [hK1] at HPr
        rw [hK0]
        have HK1 := Aside0.mk hK1
        clear hK0 hK1
        go_wp2_with (go_at_call 138; refine (product_any (p := K0) (q := p) HGb.out hD HC5.out HPb.out hlen).mono ?_; rintro e w2 ⟨v, rfl, hO, hB⟩; rw [HPr.out] at hO; have HO2 := Aside0.mk hO; have HB2 := Aside0.mk hB; clear hO hB)
        go_roundw
        case rel => exact ⟨1, by go_num, by omega, ⟨by rw [HK1.out]; exact HO2.out.lower HB.out.size⟩, ⟨below_later HB.out HB.out.size HB2.out⟩⟩
        case measure => simp [intOf]
      · obtain ⟨A5, c5, rfl, hc5, hC5⟩ := HO.out.slice
        have HC5 := Aside0.mk hC5
        have hx := pw_cell_below HB.out H1.out
        have HQb := Aside0.mk (Kd.C_below HQ.out HB.out)
        have HGb := Aside0.mk (H.out.below HB.out)
        clear hC5
        have hlen : (mulK D p q 1).length + q.length ≤ 35184372088832 := by
          have : (D.product [1] p).length ≤ 1 + p.length - 1 := product_length_le D [1] p
          show (D.product [1] p).length + q.length ≤ _
          omega
        have HPr := Aside0.mk (show D.product (mulK D p q 1) q = mulK D p q 2 from rfl)
        obtain ⟨K1, hK1⟩ : ∃ K1, mulK D p q 2 = K1 := ⟨_, rfl⟩
        obtain ⟨K0, hK0⟩ : ∃ K0, mulK D p q 1 = K0 := ⟨_, rfl⟩
        rw [hK0] at hlen HPr HC5
        rw [hK1] at HPr
        rw [hK0]
        have HK1 := Aside0.mk hK1
        clear hK0 hK1
        go_wp2_with (go_at_call 138; refine (product_any (p := K0) (q := q) HGb.out hD HC5.out HQb.out hlen).mono ?_; rintro e w2 ⟨v, rfl, hO, hB⟩; rw [HPr.out] at hO; have HO2 := Aside0.mk hO; have HB2 := Aside0.mk hB; clear hO hB)
        go_roundw
        case rel => exact ⟨2, by go_num, by omega, ⟨by rw [HK1.out]; exact HO2.out.lower HB.out.size⟩, ⟨below_later HB.out HB.out.size HB2.out⟩⟩
        case measure => simp [intOf]
    · obtain rfl : k = 2 := by omega
      go_wp2
      go_ret
      exact ⟨_, rfl, HO.out, HB.out⟩
end Go.Proofs.Yticgblagimmlfaa

namespace Go.Proofs.Yticgblagimmlfaa
open Go.RowKit Go.Proofs.YticgblagimmlfaaW.PrintWords Go.Proofs.YticgblagimmlfaaW.PrintLast Go.Proofs.YticgblagimmlfaaW.PrintMore
attribute [local go_sem] max2_int min2_int max_two min_two max_three min_three max_four min_four
set_option linter.unusedVariables false
set_option linter.unusedSimpArgs false

theorem Own.keep {w w1 : World} {base : Nat} {v : Value} {l : List Int} (h : Own w base v l) (hk : ∀ k, v.ownBlock = some k → w1.heap[k]? = w.heap[k]?) : Own w1 base v l := by
  have h1 : Kd.R (Kd.int .i64) 3 w base (fun k => v.ownBlock = some k) v l := ⟨fun k hk => hk, by
    obtain ⟨_, inner, ho, hr⟩ := h.out
    exact ⟨inner, ho, hr.imp_ (fun _ _ hp => hp)⟩⟩
  exact ⟨Kd.R_mono (Kd.R_step h1 (fun k hk' _ => hk k hk')) (fun _ _ => trivial)⟩
theorem Own.base_le {w : World} {base : Nat} {v : Value} {l : List Int} (h : Own w base v l) (k : Nat) (hk : v.ownBlock = some k) : base ≤ k := Kd.R_base h.out k hk
/-- A store into an elder block. -/
theorem Own.far {w : World} {base : Nat} {v : Value} {l : List Int} (h : Own w base v l) {p : Addr} (hp : p.block < base) (u : Value) : Own (w.setCell p u) base v l :=
  h.keep fun k hk => Below.heap_setCell w p u k (by have := h.base_le k hk; omega)
/-- A store into another block. -/
theorem Own.other {w : World} {base g n c : Nat} {l : List Int} (h : Own w base (.slice (some ⟨g, 0, none⟩) n c) l) {p : Addr} (hp : g ≠ p.block) (u : Value) : Own (w.setCell p u) base (.slice (some ⟨g, 0, none⟩) n c) l :=
  h.keep fun k hk => Below.heap_setCell w p u k (by
    have : g = k := by simpa [Value.ownBlock] using hk
    omega)
theorem trim_n {w : World} {A : Option Addr} {n c : Nat} {l : List Int} (hn : Aside0 (n = l.length)) (h : Kd.C (Kd.int .i64) w A l.length l) (hc : l.length ≤ c) :
    Calls Try.prog 122 #[.slice A n c] w fun e w' => e = .returned (.slice A (trimZ l).length c) ∧ Drawn0 w w' := by
  have hn := hn.out
  subst hn
  exact trim_any h hc
theorem divLoop_length (D : GFD) (q : List Int) (inv : Int) : ∀ (n : Nat) (rem quo : List Int), (D.divLoop q inv n rem quo).1.length = quo.length ∧ (D.divLoop q inv n rem quo).2.length = rem.length
  | 0, rem, quo => ⟨rfl, rfl⟩
  | n + 1, rem, quo => by
    have h := divLoop_length D q inv n (updAt (fun o c => D.sub o (D.mul (D.mul (rem.getD (n + q.length - 1) 0) inv) c)) n rem q) (quo.set n (D.mul (rem.getD (n + q.length - 1) 0) inv))
    rw [updAt_length, List.length_set] at h
    exact h

theorem divMod_zero {g : Nat} {D : GFD} {w : World} (h : GFat w g D) {A B : Option Addr} {c d : Nat} {p q : List Int} (hp : Kd.C (Kd.int .i64) w A p.length p) (hq : Kd.C (Kd.int .i64) w B q.length q)
    (hbp : p.length ≤ 35184372088000) (hbq : q.length ≤ 35184372088000) (hz : D.canon q = []) :
    Calls Try.prog 106 #[.pointer (some ⟨g, 0, none⟩), .slice A p.length c, .slice B q.length d] w fun e w' => e = .returned (.tuple #[.slice none 0 0, .slice none 0 0, .int .i64 7]) ∧ Below w.heap.size w w' := by
  have H := Aside0.mk h
  have HP := Aside0.mk hp
  have HQ := Aside0.mk hq
  clear h hp hq
  have C1 := fun (w1 : World) (h1 : Below w.heap.size w w1) => Aside0.mk (canon_any (c := c) (H.out.below h1) (Kd.C_below HP.out h1) (by omega))
  have C2 := fun (w1 : World) (h1 : Below w.heap.size w w1) => Aside0.mk (canon_any (c := d) (H.out.below h1) (Kd.C_below HQ.out h1) (by omega))
  rw [hz] at C2
  clear hz
  have B0 := Below.refl w.heap.size w
  go_enter Try.func106, Try.ntmps106
  go_wp2_with (first | (go_at_call 120; refine (C1 _ B0).out.mono ?_; rintro e w1 ⟨v1, rfl, hO1, hB1⟩; obtain ⟨A1, c1, rfl, hc1, hC1⟩ := hO1.slice; have HB1 := Aside0.mk hB1; clear hO1 hB1 C1 hC1) | (go_at_call 120; refine (C2 _ HB1.out).out.mono ?_; rintro e w2 ⟨v2, rfl, hO2, hB2⟩; obtain ⟨A2, c2, rfl, hc2, hC2⟩ := hO2.slice; have HB2 := Aside0.mk (below_later HB1.out HB1.out.size hB2); clear hO2 hB2 C2 hC2))
  go_ret3
  exact ⟨rfl, HB2.out⟩

set_option maxRecDepth 100000 in
theorem divMod_some {g : Nat} {D : GFD} {w : World} (h : GFat w g D) (hD : D.ok) {A B : Option Addr} {c d : Nat} {p q : List Int} (hp : Kd.C (Kd.int .i64) w A p.length p) (hq : Kd.C (Kd.int .i64) w B q.length q)
    (hbp : p.length ≤ 35184372088000) (hbq : q.length ≤ 35184372088000) (hz : D.canon q ≠ []) :
    Calls Try.prog 106 #[.pointer (some ⟨g, 0, none⟩), .slice A p.length c, .slice B q.length d] w fun e w' => ∃ v1 v2, e = .returned (.tuple #[v1, v2, .int .i64 0]) ∧
      Own w' w.heap.size v1 (D.divC (D.canon p) (D.canon q)).1 ∧ Own w' w.heap.size v2 (D.divC (D.canon p) (D.canon q)).2 ∧ Below w.heap.size w w' := by
  have H := Aside0.mk h
  have HP := Aside0.mk hp
  have HQ := Aside0.mk hq
  clear h hp hq
  have lp := canon_length_le D p
  have lq := canon_length_le D q
  obtain ⟨P, hP⟩ : ∃ P, D.canon p = P := ⟨_, rfl⟩
  obtain ⟨Q, hQ⟩ : ∃ Q, D.canon q = Q := ⟨_, rfl⟩
  rw [hP] at lp
  rw [hQ] at lq hz
  rw [hP, hQ]
  have C1 := fun (w1 : World) (h1 : Below w.heap.size w w1) => Aside0.mk (canon_any (c := c) (H.out.below h1) (Kd.C_below HP.out h1) (by omega))
  have C2 := fun (w1 : World) (h1 : Below w.heap.size w w1) => Aside0.mk (canon_any (c := d) (H.out.below h1) (Kd.C_below HQ.out h1) (by omega))
  simp only [hP] at C1
  simp only [hQ] at C2
  have hQ0 : ¬ Q.length = 0 := fun h => hz (List.eq_nil_of_length_eq_zero h)
  have hQ1 : 1 ≤ Q.length := by omega
  have hQb : ((Q.length : Int) == 0) = false := by simp only [beq_eq_false_iff_ne]; omega
  clear hP hQ hQ0 hz
  have B0 := Below.refl w.heap.size w
  obtain ⟨last, hlast⟩ : ∃ x, Q.getD (Q.length - 1) 0 = x := ⟨_, rfl⟩
  obtain ⟨inv, hinv⟩ : ∃ x, D.inv last = x := ⟨_, rfl⟩
  obtain ⟨N, hN⟩ : ∃ N, P.length + 1 - Q.length = N := ⟨_, rfl⟩
  obtain ⟨R, hR⟩ : ∃ R, D.divLoop Q inv N P (List.replicate N 0) = R := ⟨_, rfl⟩
  have hdiv : D.divC P Q = (trimZ R.1, trimZ R.2) := by unfold GFD.divC; rw [hlast, hinv, hN, hR]
  have hRl := divLoop_length D Q inv N P (List.replicate N 0)
  rw [hR, List.length_replicate] at hRl
  rw [hdiv]
  have HLast := Aside0.mk hlast
  have HInv := Aside0.mk hinv
  have HR := Aside0.mk hR
  have HRl := Aside0.mk hRl
  have hcase : (Q.length ≤ P.length ∧ N + Q.length ≤ P.length + 1 ∧ P.length + 1 ≤ N + Q.length) ∨ (P.length < Q.length ∧ N ≤ 0) := by omega
  have hNb : N ≤ 35184372088000 := by omega
  clear hlast hinv hN hR hdiv hRl
  rcases hcase with ⟨hle, hNa, hNc⟩ | ⟨hle, hNa⟩
  · go_enter Try.func106, Try.ntmps106
    go_wp2_with (first | (go_at_call 120; refine (C1 _ B0).out.mono ?_; rintro e w1 ⟨v1, rfl, hO1, hB1⟩; obtain ⟨r, c1, er, hr1, hr2⟩ := hO1.form (by omega); subst er; have HB1 := Aside0.mk hB1; have HO1 := Aside0.mk hO1; clear hO1 hB1 C1) | (go_at_call 120; refine (C2 _ HB1.out).out.mono ?_; rintro e w2 ⟨v2, rfl, hO2, hB2⟩; obtain ⟨b2, c2, e2, hb1, hb2⟩ := hO2.form (by omega); subst e2; have HB2 := Aside0.mk (below_later HB1.out HB1.out.size hB2); replace HO1 := Aside0.mk (HO1.out.below hB2); have HO2 := Aside0.mk hO2; obtain ⟨hx2, hx3⟩ := hO2.cell (Q.length - 1) (by omega); rw [HLast.out] at hx2; clear hO2 hB2 C2 hx3) | (go_at_call 81; (with_reducible refine (inv_any (H.out.below HB2.out) hD last).mono ?_); rw [HInv.out]; rintro e w3 ⟨rfl, hd3⟩; have hb3 := Nat.lt_of_lt_of_le hb2 hd3.below.size; clear hx2; replace HB2 := Aside0.mk (HB2.out.below'' hd3); replace HO1 := Aside0.mk (HO1.out.below hd3.below); replace HO2 := Aside0.mk (HO2.out.below hd3.below); clear hd3) | ((with_reducible refine gate_dst (N := 42) rfl ?_); refine make_ownI (n := N) rfl (N := 42) rfl _ _ rfl ⟨by omega⟩ rfl rfl (by omega) ?_; intro v w4 hO3 hB3; have HO3 := Aside0.mk hO3; replace HO1 := Aside0.mk (HO1.out.below hB3); replace HO2 := Aside0.mk (HO2.out.below hB3); have HB := Aside0.mk (below_later HB2.out HB2.out.size hB3); clear hO3 hB3))
    have HRl2 := Aside0.mk HRl.out
    go_loopw [11] (fun v11 w' => ∃ (t : Int) (rem quo : List Int), v11 = .int .i64 t ∧ -1 ≤ t ∧ t < N ∧ Aside0 (D.divLoop Q inv (t + 1).toNat rem quo = R) ∧ Aside0 (rem.length = P.length) ∧ Aside0 (quo.length = N) ∧
      Aside0 (Own w' w.heap.size (.slice (some ⟨r, 0, none⟩) P.length c1) rem) ∧ Aside0 (Own w' w3.heap.size v quo) ∧ Aside0 (Own w' w1.heap.size (.slice (some ⟨b2, 0, none⟩) Q.length c2) Q) ∧ Aside0 (Below w.heap.size w w')) (fun v11 _ => (intOf v11 + 1).toNat)
    case atStart => exact ⟨_, P, _, rfl, by omega, by omega, ⟨by rw [show ((P.length : Int) - (Q.length : Int) + 1).toNat = N from by omega]; exact HR.out⟩, ⟨rfl⟩, ⟨List.length_replicate⟩, HO1, HO3, HO2, HB⟩
    case round =>
      clear HR HO1 HO3 HO2 HB HP HQ HB1
      obtain ⟨t, rem, quo, rfl, ht1, ht2, HR, Hrl, Hql, HO1, HO3, HO2, HB⟩ := hrel
      by_cases ht : 0 ≤ t
      · obtain ⟨m, rfl⟩ := Int.eq_ofNat_of_zero_le ht
        obtain ⟨s, cs, es, hs1, hs2⟩ := HO3.out.form (by have := Hql.out; omega)
        rw [Hql.out] at es
        subst es
        obtain ⟨hcs, hfs⟩ := HO3.out.cell' Hql.out.symm m (by omega)
        have hmq : m + Q.length - 1 < P.length := by omega
        obtain ⟨hcr, hfr⟩ := HO1.out.cell' Hrl.out.symm (m + Q.length - 1) hmq
        obtain ⟨y, hy⟩ : ∃ y, rem.getD (m + Q.length - 1) 0 = y := ⟨_, rfl⟩
        rw [hy] at hcr
        obtain ⟨a, ha⟩ : ∃ a, D.mul y inv = a := ⟨_, rfl⟩
        obtain ⟨F, hF⟩ : ∃ F : Int → Int → Int, F = (fun o c => D.sub o (D.mul a c)) := ⟨_, rfl⟩
        have hr := HR.out
        rw [show ((m : Int) + 1).toNat = m + 1 from by omega] at hr
        have hr2 : D.divLoop Q inv m (updAt F m rem Q) (quo.set m a) = R := by
          rw [hF, ← ha, ← hy]; exact hr
        have HR2 := Aside0.mk hr2
        have HF := Aside0.mk hF
        have HA := Aside0.mk ha
        have HG := Aside0.mk (H.out.below HB.out)
        have hlo : 0 ≤ (m : Int) + (Q.length : Int) - 1 := by omega
        clear hr hr2 hF ha hy HR
        go_wp2_with (go_at_call 79; (with_reducible refine (mul_any ?side1 hD y inv).mono ?_); (case side1 => exact HG.out.drawn (by repeat (first | exact Drawn0.refl _ | apply Drawn0.step))); rw [HA.out]; rintro e w' ⟨rfl, ⟨n1, rfl⟩⟩)
        have HO1b := Aside0.mk ((HO1.out.drewN n1).other (p := ⟨s, m, none⟩) (by show r ≠ s; omega) (.int .i64 a))
        have HO2b := Aside0.mk ((HO2.out.drewN n1).other (p := ⟨s, m, none⟩) (by show b2 ≠ s; omega) (.int .i64 a))
        have HO3b := Aside0.mk ((HO3.out.drewN n1).set Hql.out.symm m a)
        have HBb := Aside0.mk ((pw_below_drewN HB.out n1).setCell (p := ⟨s, m, none⟩) (Nat.le_trans HB2.out.size hs1) (.int .i64 a))
        have Hql2 : Aside0 ((quo.set m a).length = N) := ⟨by rw [List.length_set]; exact Hql.out⟩
        clear hcs hfs hcr hfr HG HO1 HO2 HO3 HB Hql
        obtain ⟨wo, hwo⟩ : ∃ wo : World, (wr.drewN n1).setCell ⟨s, m, none⟩ (.int .i64 a) = wo := ⟨_, rfl⟩
        rw [hwo] at HO1b HO2b HO3b HBb ⊢
        clear hwo
        go_loopw [69] (fun v69 w' => ∃ (j : Nat), v69 = .int .i64 j ∧ j ≤ Q.length ∧ Aside0 (Own w' w.heap.size (.slice (some ⟨r, 0, none⟩) P.length c1) (updAt F m rem (Q.take j))) ∧ Aside0 (Own w' w3.heap.size (.slice (some ⟨s, 0, none⟩) N cs) (quo.set m a)) ∧ Aside0 (Own w' w1.heap.size (.slice (some ⟨b2, 0, none⟩) Q.length c2) Q) ∧ Aside0 (Below w.heap.size w w')) (fun v69 _ => Q.length - (intOf v69).toNat)
        case atStart => exact ⟨0, rfl, by omega, ⟨by simpa [updAt_nil] using HO1b.out⟩, HO3b, HO2b, HBb⟩
        case round =>
          clear HO1b HO2b HO3b HBb
          obtain ⟨j, rfl, hj, HO1, HO3, HO2, HB⟩ := hrel
          have hlen : (updAt F m rem (Q.take j)).length = P.length := by rw [updAt_length]; exact Hrl.out
          by_cases hlj : j < Q.length
          · have hkj : m + j < P.length := by omega
            obtain ⟨hx2, hx3⟩ := HO2.out.cell j hlj
            obtain ⟨z, hz⟩ : ∃ z, Q.getD j 0 = z := ⟨_, rfl⟩
            rw [hz] at hx2
            have hstep := updAt_set F 0 m j rem Q hlj (by rw [Hrl.out]; omega)
            have hget := updAt_get F 0 m j rem Q (by rw [Hrl.out]; omega)
            obtain ⟨o, ho⟩ : ∃ o, rem.getD (m + j) 0 = o := ⟨_, rfl⟩
            rw [ho] at hget hstep
            rw [hz, show F o z = D.sub o (D.mul a z) from by rw [HF.out]] at hstep
            have HO1c := Aside0.mk (HO1.out.set hlen.symm (m + j) (D.sub o (D.mul a z)))
            rw [hstep] at HO1c
            obtain ⟨hcl, hfz⟩ := HO1.out.cell' hlen.symm (m + j) hkj
            rw [hget] at hcl
            have HO2c := Aside0.mk (HO2.out.other (p := ⟨r, m + j, none⟩) (by show b2 ≠ r; omega) (.int .i64 (D.sub o (D.mul a z))))
            have HO3c := Aside0.mk (HO3.out.other (p := ⟨r, m + j, none⟩) (by show s ≠ r; omega) (.int .i64 (D.sub o (D.mul a z))))
            have HBc := Aside0.mk (HB.out.setCell (p := ⟨r, m + j, none⟩) hr1 (.int .i64 (D.sub o (D.mul a z))))
            have HG := Aside0.mk (H.out.below HB.out)
            have e1 : IntKind.i64.wrap ((m : Int) + (j : Int)) = (m : Int) + (j : Int) := w64 _ (by omega) (by omega)
            have e2 : ((m : Int) + (j : Int)).toNat = m + j := by omega
            have e3 : 0 ≤ (m : Int) + (j : Int) := by omega
            have e4 : (m : Int) + (j : Int) < (P.length : Int) := by omega
            clear hstep hlen HO1 HO2 HO3 HB hz ho hget hx3
            go_wp2
            refine wp_region_quiet_tail 17 (by kernel_rfl) (by kernel_rfl) ?_
            simp only [List.take_succ_cons, List.take_zero, List.drop_succ_cons, List.drop_zero]
            repeat (first | go_big_quiet_step (first | (go_at_call 79; exact quiet_d (mul_any (HG.out.drewN _) hD _ _)) | (go_at_call 80; exact quiet_d (sub_any (HG.out.drewN _) hD _ _))) | quiet_step (first | (go_at_call 79; exact quiet_d (mul_any (HG.out.drewN _) hD _ _)) | (go_at_call 80; exact quiet_d (sub_any (HG.out.drewN _) hD _ _))))
            refine wpQuiet_nil ?_
            intro _ hw'
            obtain ⟨nq, hw''⟩ := hw'
            subst hw''
            go_wp2
            go_roundw
            case rel => exact ⟨j + 1, by go_num, by omega, ⟨HO1c.out.drewN _⟩, ⟨HO3c.out.drewN _⟩, ⟨HO2c.out.drewN _⟩, ⟨pw_below_drewN HBc.out _⟩⟩
            case measure => simp [intOf]; omega
          · obtain rfl : j = Q.length := by omega
            rw [List.take_length] at HO1 hlen
            have Hlen := Aside0.mk hlen
            clear hlen
            go_wp2
            go_roundw
            case rel => exact ⟨(m : Int) - 1, _, _, by go_num, by omega, by omega, ⟨by rw [show ((m : Int) - 1 + 1).toNat = m from by omega]; exact HR2.out⟩, Hlen, Hql2, HO1, HO3, HO2, HB⟩
            case measure => simp [intOf]
      · have hr := HR.out
        rw [show (t + 1).toNat = 0 from by omega] at hr
        have hr' : (quo, rem) = R := hr
        have HRR := Aside0.mk hr'
        obtain ⟨A6, c6, rfl, hc6, hC6⟩ := HO3.out.slice
        have HT3 := Aside0.mk HO3.out.trim
        have HT1 := Aside0.mk HO1.out.trim
        have HC6 := Aside0.mk hC6
        obtain ⟨he7, hc7, hC7⟩ := HO1.out.reads
        have HC7 := Aside0.mk hC7
        have HEl := Aside0.mk he7
        clear hr hr' HR HO1 HO3 HO2 hC6 hC7 he7 Hql
        go_wp2_with (first | (go_at_call 122; (with_reducible refine (trim_any HC6.out hc6).mono ?_); rintro e w' ⟨rfl, ⟨n1, rfl⟩⟩) | (go_at_call 122; (with_reducible refine (trim_n (l := rem) HEl (Kd.C_drewN HC7.out _) hc7).mono ?_); rintro e w' ⟨rfl, ⟨n2, rfl⟩⟩))
        go_ret3
        obtain rfl := HRR.out
        exact ⟨_, _, rfl, (HT3.out.drewN _).lower HB2.out.size, HT1.out.drewN _, pw_below_drewN HB.out _⟩
  · obtain rfl : N = 0 := by omega
    have hr := HR.out
    have hr' : (([] : List Int), P) = R := hr
    have HRR := Aside0.mk hr'
    clear hr hr' HR HRl hNa hNb
    go_enter Try.func106, Try.ntmps106
    go_wp2_with (first | (go_at_call 120; refine (C1 _ B0).out.mono ?_; rintro e w1 ⟨v1, rfl, hO1, hB1⟩; obtain ⟨A1, c1, rfl, hc1, hC1⟩ := hO1.slice; have HB1 := Aside0.mk hB1; have HO1 := Aside0.mk hO1; clear hO1 hB1 C1 hC1) | (go_at_call 120; refine (C2 _ HB1.out).out.mono ?_; rintro e w2 ⟨v2, rfl, hO2, hB2⟩; obtain ⟨b2, c2, e2, hb1, hb2⟩ := hO2.form (by omega); subst e2; have HB2 := Aside0.mk (below_later HB1.out HB1.out.size hB2); replace HO1 := Aside0.mk (HO1.out.below hB2); have HO2 := Aside0.mk hO2; obtain ⟨hx2, hx3⟩ := hO2.cell (Q.length - 1) (by omega); rw [HLast.out] at hx2; clear hO2 hB2 C2 hx3) | (go_at_call 81; (with_reducible refine (inv_any (H.out.below HB2.out) hD last).mono ?_); rw [HInv.out]; rintro e w3 ⟨rfl, hd3⟩; have hb3 := Nat.lt_of_lt_of_le hb2 hd3.below.size; clear hx2; replace HB2 := Aside0.mk (HB2.out.below'' hd3); replace HO1 := Aside0.mk (HO1.out.below hd3.below); replace HO2 := Aside0.mk (HO2.out.below hd3.below); clear hd3) | ((with_reducible refine gate_dst (N := 42) rfl ?_); refine make_ownI (n := 0) rfl (N := 42) rfl _ _ rfl ⟨by omega⟩ rfl rfl (by omega) ?_; intro v w4 hO3 hB3; have HO3 := Aside0.mk hO3; replace HO1 := Aside0.mk (HO1.out.below hB3); replace HO2 := Aside0.mk (HO2.out.below hB3); have HB := Aside0.mk (below_later HB2.out HB2.out.size hB3); clear hO3 hB3))
    obtain ⟨wo, rfl⟩ : ∃ wo : World, wo = w4 := ⟨_, rfl⟩
    go_loopw [11] (fun v11 w' => v11 = .int .i64 ((P.length : Int) - (Q.length : Int)) ∧ Aside0 (Own w' w.heap.size (.slice A1 P.length c1) P) ∧ Aside0 (Own w' w3.heap.size v []) ∧ Aside0 (Below w.heap.size w w')) (fun _ _ => 0)
    case atStart => exact ⟨rfl, HO1, HO3, HB⟩
    case round =>
      clear HO1 HO3 HO2 HB HP HQ HB1
      obtain ⟨rfl, HO1, HO3, HB⟩ := hrel
      obtain ⟨A6, c6, rfl, hc6, hC6⟩ := HO3.out.slice
      have HT3 := Aside0.mk HO3.out.trim
      have HT1 := Aside0.mk HO1.out.trim
      have HC6 := Aside0.mk hC6
      obtain ⟨he7, hc7, hC7⟩ := HO1.out.reads
      have HC7 := Aside0.mk hC7
      clear HO1 HO3 hC6 hC7 he7
      go_wp2_with (first | (go_at_call 122; (with_reducible refine (trim_n (n := 0) (l := []) ⟨rfl⟩ HC6.out hc6).mono ?_); rintro e w' ⟨rfl, ⟨n1, rfl⟩⟩) | (go_at_call 122; (with_reducible refine (trim_any (Kd.C_drewN HC7.out _) hc7).mono ?_); rintro e w' ⟨rfl, ⟨n2, rfl⟩⟩))
      go_ret3
      obtain rfl := HRR.out
      exact ⟨_, _, rfl, (HT3.out.drewN _).lower HB2.out.size, HT1.out.drewN _, pw_below_drewN HB.out _⟩
end Go.Proofs.Yticgblagimmlfaa

namespace Go.Proofs.Yticgblagimmlfaa
open Go.RowKit Go.Proofs.YticgblagimmlfaaW.PrintWords Go.Proofs.YticgblagimmlfaaW.PrintLast Go.Proofs.YticgblagimmlfaaW.PrintMore
set_option linter.unusedVariables false
set_option linter.unusedSimpArgs false

/-- Bools in new memory, from block base on. -/
structure OwnB (w : World) (base : Nat) (v : Value) (l : List Bool) : Prop where mk ::
  out : Kd.R (Kd.bool) 4 w base (fun _ => True) v l
theorem OwnB.below {w w1 : World} {base : Nat} {v : Value} {l : List Bool} (h : OwnB w base v l) (hb : Below w.heap.size w w1) : OwnB w1 base v l := ⟨Kd.R_below h.out hb⟩
theorem OwnB.drewN {w : World} {base : Nat} {v : Value} {l : List Bool} (h : OwnB w base v l) (n : Nat) : OwnB (w.drewN n) base v l := ⟨Kd.R_drewN h.out n⟩
theorem OwnB.lower {w : World} {base base' : Nat} {v : Value} {l : List Bool} (h : OwnB w base v l) (hb : base' ≤ base) : OwnB w base' v l := ⟨Kd.R_lower h.out hb⟩
theorem OwnB.slice {w : World} {base : Nat} {v : Value} {l : List Bool} (h : OwnB w base v l) : ∃ A c, v = .slice A l.length c ∧ l.length ≤ c ∧ Kd.C (Kd.bool) w A l.length l := Kd.R_reads h.out
theorem OwnB.form {w : World} {base : Nat} {v : Value} {l : List Bool} (h : OwnB w base v l) (hp : 0 < l.length) : ∃ g cap, v = .slice (some ⟨g, 0, none⟩) l.length cap ∧ base ≤ g ∧ g < w.heap.size := by
  obtain ⟨g, cap, e, h1, h2, -⟩ := Kd.R_form h.out hp
  exact ⟨g, cap, e, h1, h2⟩
theorem OwnB.cell {w : World} {base g cap : Nat} {l : List Bool} (h : OwnB w base (.slice (some ⟨g, 0, none⟩) l.length cap) l) (k : Nat) (hk : k < l.length) :
    w.cell? ⟨g, k, none⟩ = some (.bool (l.getD k false)) ∧ w.frozen? ⟨g, k, none⟩ = false := by
  have := Kd.R_cell (enc := Value.bool) false h.out (k : Int) (by omega) (by omega)
  simpa [rdOf] using this
theorem OwnB.cell' {w : World} {base g cap n : Nat} {l : List Bool} (h : OwnB w base (.slice (some ⟨g, 0, none⟩) n cap) l) (hn : n = l.length) (k : Nat) (hk : k < n) :
    w.cell? ⟨g, k, none⟩ = some (.bool (l.getD k false)) ∧ w.frozen? ⟨g, k, none⟩ = false := by
  subst hn; exact h.cell k hk
theorem OwnB.set {w : World} {base g cap n : Nat} {l : List Bool} (h : OwnB w base (.slice (some ⟨g, 0, none⟩) n cap) l) (hn : n = l.length) (k : Nat) (x : Bool) :
    OwnB (w.setCell ⟨g, k, none⟩ (.bool x)) base (.slice (some ⟨g, 0, none⟩) n cap) (l.set k x) := by
  subst hn
  have := (Kd.R_put (enc := Value.bool) h.out (k : Int) x).1
  rw [Int.toNat_natCast] at this
  exact ⟨this⟩
theorem OwnB.take {w : World} {base n c m : Nat} {A : Option Addr} {l : List Bool} (h : OwnB w base (.slice A n c) l) (hm : m ≤ l.length) : OwnB w base (.slice A m c) (l.take m) := ⟨Kd.R_take h.out hm⟩
section
variable {P : Program} {ops : Array Oper} {rest : List Oper} {o : Oper} {a : Act} {Q : Exit → Act → World → Prop}
theorem make_ownb {W : World} (hgd : o.guard = none) {N : Tmp} (hd : o.dst = some N) (x y : Operand) (ho : o.op = .makeSlice 72 x y) (n : Nat) (hx : a.eval x = .int .i64 n) (hy : a.eval y = .int .i64 n) (hl : n ≤ 35184372088832)
    (h : ∀ v1 w1, OwnB w1 W.heap.size v1 (List.replicate n false) → Below W.heap.size W w1 → wpList Try.prog ops Q rest (a.put o.dst v1) w1) : wpList Try.prog ops Q (o :: rest) a W := by
  refine Kd.R_make (Kd.bool) W.heap.size 4 hgd (N := N) hd 72 x y ho (n : Int) hx hy Try.underlying72 (.bool false) 1 info4 rfl (by decide) (by omega) false (ok := fun _ => True) (okp := fun _ => True) rfl (fun _ hk => hk) trivial (by omega) (by omega) (Below.refl _ _) (Nat.le_refl _) ?_
  intro v1 w1 h1 h2 _ _
  exact h v1 w1 ⟨by simpa using h1⟩ h2
theorem make_ownbI {W : World} (hgd : o.guard = none) {N : Tmp} (hd : o.dst = some N) (x y : Operand) (ho : o.op = .makeSlice 72 x y) {m : Int} {n : Nat} (hm : Aside0 (m = n)) (hx : a.eval x = .int .i64 m) (hy : a.eval y = .int .i64 m) (hl : n ≤ 35184372088832)
    (h : ∀ v1 w1, OwnB w1 W.heap.size v1 (List.replicate n false) → Below W.heap.size W w1 → wpList Try.prog ops Q rest (a.put o.dst v1) w1) : wpList Try.prog ops Q (o :: rest) a W := by
  have hm := hm.out
  subst hm
  exact make_ownb hgd hd x y ho n hx hy hl h
end
theorem OwnB.keep {w w1 : World} {base : Nat} {v : Value} {l : List Bool} (h : OwnB w base v l) (hk : ∀ k, v.ownBlock = some k → w1.heap[k]? = w.heap[k]?) : OwnB w1 base v l := by
  have h1 : Kd.R (Kd.bool) 4 w base (fun k => v.ownBlock = some k) v l := ⟨fun k hk => hk, by
    obtain ⟨_, inner, ho, hr⟩ := h.out
    exact ⟨inner, ho, hr.imp_ (fun _ _ hp => hp)⟩⟩
  exact ⟨Kd.R_mono (Kd.R_step h1 (fun k hk' _ => hk k hk')) (fun _ _ => trivial)⟩
theorem OwnB.base_le {w : World} {base : Nat} {v : Value} {l : List Bool} (h : OwnB w base v l) (k : Nat) (hk : v.ownBlock = some k) : base ≤ k := Kd.R_base h.out k hk
/-- A store into an elder block. -/
theorem OwnB.far {w : World} {base : Nat} {v : Value} {l : List Bool} (h : OwnB w base v l) {p : Addr} (hp : p.block < base) (u : Value) : OwnB (w.setCell p u) base v l :=
  h.keep fun k hk => Below.heap_setCell w p u k (by have := h.base_le k hk; omega)
/-- A store into another block. -/
theorem OwnB.other {w : World} {base g n c : Nat} {l : List Bool} (h : OwnB w base (.slice (some ⟨g, 0, none⟩) n c) l) {p : Addr} (hp : g ≠ p.block) (u : Value) : OwnB (w.setCell p u) base (.slice (some ⟨g, 0, none⟩) n c) l :=
  h.keep fun k hk => Below.heap_setCell w p u k (by
    have : g = k := by simpa [Value.ownBlock] using hk
    omega)
theorem CB_nat {w : World} {A : Option Addr} {l : List Bool} (h : Kd.bool.C w A l.length l) (k : Nat) (hk : k < l.length) :
    ∃ ad, A = some ad ∧ w.cell? (ad.add k) = some (.bool (l.getD k false)) := by
  obtain ⟨ad, e, hx⟩ := Kd.at_bool h (k : Int) (by omega) (by omega)
  exact ⟨ad, e, by simpa [rdOf] using hx⟩
end Go.Proofs.Yticgblagimmlfaa

namespace Go.Proofs.Yticgblagimmlfaa
open Go.RowKit Go.Proofs.YticgblagimmlfaaW.PrintWords Go.Proofs.YticgblagimmlfaaW.PrintLast Go.Proofs.YticgblagimmlfaaW.PrintMore
set_option linter.unusedVariables false
set_option linter.unusedSimpArgs false

/-- B tells which of the numbers below its length are in l. -/
def SeenIs (B : List Bool) (q : Nat) (l : List Int) : Prop := B.length = q ∧ ∀ i, i < q → (B.getD i false = true ↔ (i : Int) ∈ l)
theorem SeenIs.start (q : Nat) : SeenIs (List.replicate q false) q [] := ⟨by simp, fun i hi => by simp [List.getD_eq_getElem?_getD, hi]⟩
theorem SeenIs.step {B : List Bool} {q : Nat} {l : List Int} (h : SeenIs B q l) (x : Nat) (hx : x < q) : SeenIs (B.set x true) q (l ++ [(x : Int)]) := by
  refine ⟨by rw [List.length_set]; exact h.1, fun i hi => ?_⟩
  have hl := h.1
  by_cases hix : x = i
  · subst hix
    simp [List.getD_eq_getElem?_getD, hl, hx]
  · have := h.2 i hi
    rw [List.getD_eq_getElem?_getD] at this ⊢
    rw [List.getElem?_set_ne hix, this]
    simp only [List.mem_append, List.mem_singleton]
    constructor
    · exact .inl
    · rintro (h | h)
      · exact h
      · exact absurd (by omega) hix
theorem SeenIs.no {B : List Bool} {q : Nat} {l : List Int} (h : SeenIs B q l) (x : Nat) (hx : x < q) (hn : (x : Int) ∉ l) : B.getD x false = false := by
  cases e : B.getD x false with
  | false => rfl
  | true => exact absurd ((h.2 x hx).1 e) hn
theorem nodup_take_succ {l : List Int} (h : l.Nodup) (k : Nat) (hk : k < l.length) : l.getD k 0 ∉ l.take k := by
  rw [← List.take_append_drop k l, List.nodup_append] at h
  obtain ⟨_, _, h3⟩ := h
  intro hm
  refine h3 _ hm (l.getD k 0) ?_ rfl
  rw [List.getD_eq_getElem?_getD, List.getElem?_eq_getElem hk, List.drop_eq_getElem_cons hk]
  exact List.mem_cons_self

theorem interpolate_ok {g : Nat} {D : GFD} {w : World} (h : GFat w g D) (hD : D.ok) {A B : Option Addr} {c d : Nat} {xs ys : List Int} (hp : Kd.C (Kd.int .i64) w A xs.length xs) (hq : Kd.C (Kd.int .i64) w B ys.length ys)
    (hb : xs.length ≤ 35184372080000) (hlen : ys.length = xs.length) (hnd : (xs.map D.inn).Nodup) :
    Calls Try.prog 103 #[.pointer (some ⟨g, 0, none⟩), .slice A xs.length c, .slice B ys.length d] w fun e w' => ∃ v, e = .returned (.tuple #[v, .int .i64 0]) ∧ Own w' w.heap.size v (D.inter xs ys xs.length).1 ∧ Below w.heap.size w w' := by
  have H := Aside0.mk h
  have HP := Aside0.mk hp
  have HQ := Aside0.mk hq
  have Hlen := Aside0.mk hlen
  have hl1 : ((xs.length : Int) != (ys.length : Int)) = false := by simp [hlen]
  clear h hp hq
  have hq2 := hD.q2
  have hq3 := hD.q256
  obtain ⟨qn, hqn⟩ := Int.eq_ofNat_of_zero_le (by omega : 0 ≤ D.q)
  have HQN := Aside0.mk hqn
  have hqb : qn ≤ 256 := by omega
  clear hqn hlen
  go_enter Try.func103, Try.ntmps103
  go_wp2_with (first | (go_at_call 91; (with_reducible refine (order_any H.out).mono ?_); rintro e w1 ⟨rfl, hd⟩; have HD := Aside0.mk hd; clear hd) | ((with_reducible refine gate_dst (N := 25) rfl ?_); refine make_ownbI rfl (N := 25) rfl _ _ rfl HQN rfl rfl (by omega) ?_; intro v w2 hO hB; have HO := Aside0.mk (hO.lower HD.out.below.size); have HB := Aside0.mk (below_later HD.out.below HD.out.below.size hB); clear hO hB))
  go_loopw [28] (fun v28 w' => ∃ (k : Nat) (S : List Bool), v28 = .int .i64 k ∧ k ≤ xs.length ∧ Aside0 (SeenIs S qn ((xs.take k).map D.inn)) ∧ Aside0 (OwnB w' w.heap.size v S) ∧ Aside0 (Below w.heap.size w w')) (fun v28 _ => xs.length - (intOf v28).toNat)
  case atStart => exact ⟨0, _, rfl, by omega, ⟨SeenIs.start qn⟩, HO, HB⟩
  case round =>
    clear HO HB
    obtain ⟨k, S, rfl, hk, HS, HO, HB⟩ := hrel
    by_cases hlk : k < xs.length
    · obtain ⟨ad, e, hx⟩ := C_nat (Kd.C_below HP.out HB.out) k hlk
      cases e
      obtain ⟨x, hx'⟩ : ∃ x, xs.getD k 0 = x := ⟨_, rfl⟩
      rw [hx'] at hx
      have hadd := D.add_zero_right hD x
      obtain ⟨hi1, hi2⟩ := D.inn_lt hD x
      obtain ⟨y, hy⟩ := Int.eq_ofNat_of_zero_le hi1
      have hyq : y < qn := by have := HQN.out; omega
      have hnot := nodup_take_succ hnd k (by simpa using hlk)
      have hgetm : (xs.map D.inn).getD k 0 = (y : Int) := by
        rw [← hy, ← hx']; simp [List.getD_eq_getElem?_getD, hlk]
      rw [hgetm, ← List.map_take] at hnot
      have hfalse := HS.out.no y hyq hnot
      have hSl := HS.out.1
      have hnew := HS.out.step y hyq
      have htk : (xs.take (k + 1)).map D.inn = (xs.take k).map D.inn ++ [(y : Int)] := by
        rw [take_succ_rd xs k hlk, List.map_append, hx', ← hy]; rfl
      rw [← htk] at hnew
      obtain ⟨s, cs, es, hs1, hs2⟩ := HO.out.form (by omega)
      rw [hSl] at es
      subst es
      obtain ⟨hcs, hfs⟩ := HO.out.cell' hSl.symm y hyq
      rw [hfalse] at hcs
      have HO2 := Aside0.mk (HO.out.set hSl.symm y true)
      have HN := Aside0.mk hnew
      have HG := Aside0.mk (H.out.below HB.out)
      have HA : Aside0 (D.add x 0 = (y : Int)) := ⟨hadd.trans hy⟩
      clear hx' hadd hi1 hi2 hy hnot hgetm hfalse hSl hnew htk HO HS
      go_wp2_with (go_at_call 83; (with_reducible refine (add_any ?side1 hD x 0).mono ?_); (case side1 => exact HG.out.drawn (by repeat (first | exact Drawn0.refl _ | apply Drawn0.step))); rw [HA.out]; rintro e w' ⟨rfl, ⟨n1, rfl⟩⟩)
      go_roundw
      case rel => exact ⟨k + 1, _, by go_num, by omega, HN, ⟨HO2.out.drewN _⟩, ⟨pw_below_drewN (HB.out.setCell (p := ⟨s, y, none⟩) hs1 _) _⟩⟩
      case measure => simp [intOf]; omega
    · obtain rfl : k = xs.length := by omega
      clear HS HO
      go_wp2
      have HOz := Aside0.mk ((own_lit1 wr 1).lower HB.out.size)
      have HBz := Aside0.mk (below_alloc HB.out (.cells #[.int .i64 1] 3))
      clear HB
      go_loopw [11, 12, 46] (fun v11 v12 v46 w' => ∃ (k : Nat) (O Z : List Int), v46 = .int .i64 k ∧ k ≤ xs.length ∧ O.length ≤ k + 1 ∧ Z.length ≤ k + 1 ∧ Aside0 (D.inter xs ys k = (O, Z)) ∧ Aside0 (Own w' w.heap.size v11 O) ∧ Aside0 (Own w' w.heap.size v12 Z) ∧ Aside0 (Below w.heap.size w w')) (fun _ _ v46 _ => xs.length - (intOf v46).toNat)
      case atStart => exact ⟨0, [], [1], rfl, by omega, by simp, by simp, ⟨rfl⟩, ⟨Own.nil _ _⟩, HOz, HBz⟩
      case round =>
        clear HOz HBz
        obtain ⟨k, O, Z, rfl, hk, hOl, hZl, HI, HO, HZ, HB⟩ := hrel
        obtain ⟨A5, c5, rfl, hc5, hC5⟩ := HO.out.slice
        obtain ⟨A6, c6, rfl, hc6, hC6⟩ := HZ.out.slice
        have HC5 := Aside0.mk hC5
        have HC6 := Aside0.mk hC6
        clear hC5 hC6
        by_cases hlk : k < xs.length
        · obtain ⟨ad, e, hx⟩ := C_nat (Kd.C_below HP.out HB.out) k hlk
          cases e
          obtain ⟨x, hx'⟩ : ∃ x, xs.getD k 0 = x := ⟨_, rfl⟩
          rw [hx'] at hx
          have hlky : k < ys.length := by have := Hlen.out; omega
          obtain ⟨ad2, e, hy⟩ := C_nat (Kd.C_below HQ.out HB.out) k hlky
          cases e
          obtain ⟨y, hy'⟩ : ∃ y, ys.getD k 0 = y := ⟨_, rfl⟩
          rw [hy'] at hy
          have hsucc := D.inter_succ xs ys k hlk hlky
          rw [HI.out, hx', hy'] at hsucc
          have HG := Aside0.mk (H.out.below HB.out)
          clear hx' hy'
          go_wp2
          go_quiet (first | (go_at_call 92; exact quiet_d (eval_any (HG.out.drewN _) hD (Kd.C_drewN HC5.out _) _)) | (go_at_call 80; exact quiet_d (sub_any (HG.out.drewN _) hD _ _)))
          obtain ⟨av, hav⟩ : ∃ a, D.div (D.sub y (D.eval O x)) (D.eval Z x) = a := ⟨_, rfl⟩
          have hstep : D.interStep (O, Z) (x, y) = (D.combine O av Z, D.product Z [D.neg x, 1]) := by rw [← hav]; rfl
          rw [hstep] at hsucc
          have hl1 := combine_length_le D O av Z
          have hl2 := product_length_le D Z [D.neg x, 1]
          simp only [List.length_cons, List.length_nil] at hl2
          obtain ⟨O', hO'⟩ : ∃ O', D.combine O av Z = O' := ⟨_, rfl⟩
          obtain ⟨Z', hZ'⟩ : ∃ Z', D.product Z [D.neg x, 1] = Z' := ⟨_, rfl⟩
          rw [hO'] at hl1 hsucc
          rw [hZ'] at hl2 hsucc
          have HS := Aside0.mk hsucc
          have HA := Aside0.mk hav
          have HO' := Aside0.mk hO'
          have HZ' := Aside0.mk hZ'
          have HGd := Aside0.mk (HG.out.drewN nq)
          have HCd := Aside0.mk (Kd.C_drewN HC6.out nq)
          have HBd := Aside0.mk (pw_below_drewN HB.out nq)
          clear hav hstep hsucc hO' hZ' HI
          obtain ⟨wq, hwq⟩ : ∃ wq : World, wr.drewN nq = wq := ⟨_, rfl⟩
          have HC5d := Aside0.mk (Kd.C_drewN HC5.out nq)
          rw [hwq] at HGd HCd HBd HC5d ⊢
          clear hwq
          go_wp2_with (first | (go_at_call 92; (with_reducible refine (eval_any HGd.out hD HCd.out x).mono ?_); rintro e w1 ⟨rfl, hd⟩; have HD1 := Aside0.mk hd; clear hd) | (go_at_call 67; ((with_reducible refine (div_any (HGd.out.drawn HD1.out) hD _ _).mono ?_); rw [HA.out]; rintro e w2 ⟨rfl, hd⟩; have HD2 := Aside0.mk (Drawn0.trans HD1.out hd); clear hd)) | (go_at_call 137; (with_reducible refine (combine_any (HGd.out.drawn HD2.out) hD (Kd.C_below HC5d.out HD2.out.below) (Kd.C_below HCd.out HD2.out.below) _ (by omega) (by omega)).mono ?_); rw [HO'.out]; rintro e w3 ⟨v3, rfl, hO3, hB3⟩; have hB3' := below_later HD2.out.below HD2.out.below.size hB3; have HO3 := Aside0.mk (hO3.lower HD2.out.below.size); have HB3 := Aside0.mk hB3'; have HC3 := Aside0.mk (Kd.C_below HCd.out hB3'); clear hO3 hB3 hB3') | (go_at_call 119; (with_reducible refine (neg_any (HGd.out.below HB3.out) hD x).mono ?_); rintro e w4 ⟨rfl, hd⟩; have HD4 := Aside0.mk hd; clear hd) | (go_at_call 138; refine (product_any (p := Z) (q := [D.neg x, 1]) (((HGd.out.below HB3.out).drawn HD4.out).below (below_alloc (Below.refl _ _) _)) hD (Kd.C_below (Kd.C_below HC3.out HD4.out.below) (below_alloc (Below.refl _ _) _)) (own_lit2 w4 (D.neg x) 1).reads.2.2 (by simp only [List.length_cons, List.length_nil]; omega)).mono ?_; rintro e w5 ⟨v, rfl, hO, hB⟩; rw [HZ'.out] at hO; have HO5 := Aside0.mk hO; have HB5 := Aside0.mk hB; clear hO hB))

          have b3 := below_later HBd.out HBd.out.size HB3.out
          have b4 := below_alloc (b3.below'' HD4.out) (.cells #[.int .i64 (D.neg x), .int .i64 1] 3)
          have b5 := Aside0.mk (below_later b4 b4.size HB5.out)
          have q3 := (HO3.out.below HD4.out.below).below (below_alloc (Below.refl _ _) (.cells #[.int .i64 (D.neg x), .int .i64 1] 3))
          have Q3 := Aside0.mk ((q3.below HB5.out).lower HBd.out.size)
          have Q5 := Aside0.mk (HO5.out.lower b4.size)
          clear b3 b4 q3
          go_roundw
          case rel => exact ⟨k + 1, O', Z', by go_num, by omega, by omega, by omega, HS, Q3, Q5, b5⟩
          case measure => simp [intOf]; omega
        · obtain rfl : k = xs.length := by omega
          have hi : (D.inter xs ys xs.length).1 = O := by rw [HI.out]
          have HI1 := Aside0.mk hi
          clear hi HI
          go_wp2
          go_ret2
          exact ⟨_, rfl, by rw [HI1.out]; exact HO.out, HB.out⟩
end Go.Proofs.Yticgblagimmlfaa

namespace Go.Proofs.Yticgblagimmlfaa
open Go.RowKit Go.Proofs.YticgblagimmlfaaW.PrintWords Go.Proofs.YticgblagimmlfaaW.PrintLast Go.Proofs.YticgblagimmlfaaW.PrintMore
set_option linter.unusedVariables false
set_option linter.unusedSimpArgs false

/-- A slice that reads as l. -/
structure Rd (w : World) (v : Value) (l : List Int) : Prop where mk ::
  out : ∃ A c, v = .slice A l.length c ∧ l.length ≤ c ∧ Kd.C (Kd.int .i64) w A l.length l
theorem Rd.below {w w1 : World} {v : Value} {l : List Int} (h : Rd w v l) (hb : Below w.heap.size w w1) : Rd w1 v l := by
  obtain ⟨A, c, e, hc, hC⟩ := h.out
  exact ⟨A, c, e, hc, Kd.C_below hC hb⟩
theorem Rd.aside {w : World} {v : Value} {l : List Int} (h : Rd w v l) : Aside0 (Rd w v l) := ⟨h⟩
theorem Own.rd {w : World} {base : Nat} {v : Value} {l : List Int} (h : Own w base v l) : Rd w v l := ⟨h.slice⟩
theorem Rd.nil (w : World) : Rd w (.slice none 0 0) [] := ⟨none, 0, rfl, Nat.le_refl _, Kd.C_nil _ _⟩

theorem divC_length (D : GFD) (p q : List Int) : (D.divC p q).1.length ≤ p.length + 1 - q.length ∧ (D.divC p q).2.length ≤ p.length := by
  have h := divLoop_length D q (D.inv (q.getD (q.length - 1) 0)) (p.length + 1 - q.length) p (List.replicate (p.length + 1 - q.length) 0)
  have h1 := trimZ_length_le (D.divLoop q (D.inv (q.getD (q.length - 1) 0)) (p.length + 1 - q.length) p (List.replicate (p.length + 1 - q.length) 0)).1
  have h2 := trimZ_length_le (D.divLoop q (D.inv (q.getD (q.length - 1) 0)) (p.length + 1 - q.length) p (List.replicate (p.length + 1 - q.length) 0)).2
  rw [h.1, List.length_replicate] at h1
  rw [h.2] at h2
  exact ⟨h1, h2⟩
theorem cell_alloc2_0 (W : World) (u v : Value) (t : TypeId) : (W.alloc (.cells #[u, v] t)).cell? ⟨W.heap.size, 0, none⟩ = some u :=
  (blk_cell (heap_alloc_new W (.cells #[u, v] t)) 0).trans rfl
theorem cell_alloc2_1 (W : World) (u v : Value) (t : TypeId) : (W.alloc (.cells #[u, v] t)).cell? ⟨W.heap.size, 1, none⟩ = some v :=
  (blk_cell (heap_alloc_new W (.cells #[u, v] t)) 1).trans rfl
theorem rd_lit0 (w : World) : Rd (w.alloc (.cells #[] 3)) (.slice (some ⟨w.heap.size, 0, none⟩) 0 0) [] := ⟨_, 0, rfl, Nat.le_refl _, ⟨rfl, by simp, fun h => absurd h (Nat.lt_irrefl 0)⟩⟩

set_option maxRecDepth 100000 in
theorem euclid_any {g : Nat} {D : GFD} {w : World} (h : GFat w g D) (hD : D.ok) {va vb : Value} {a b : List Int} (ha : Rd w va a) (hb : Rd w vb b) (bound : Int) (hb0 : 0 ≤ bound) (hb1 : bound ≤ 1000000)
    (k : Nat) (hk : k ≤ 1000000) (la : a.length ≤ 1000000) (lb : b.length ≤ 1000000) {R : List Int × List Int} (hR : D.euclid bound k a b [] [1] = some R) :
    Calls Try.prog 104 #[.pointer (some ⟨g, 0, none⟩), va, vb, .int .i64 bound] w fun e w' => ∃ v1 v2, e = .returned (.tuple #[v1, v2]) ∧ Rd w' v1 R.1 ∧ Rd w' v2 R.2 ∧ R.1.length ≤ 1000000 ∧ R.2.length ≤ 1000000000001 ∧ Below w.heap.size w w' := by
  have H := Aside0.mk h
  have HA := Aside0.mk ha
  have HB := Aside0.mk hb
  have HR := Aside0.mk hR
  clear h ha hb hR
  go_enter Try.func104, Try.ntmps104
  go_wp2
  have hB1 := below_alloc (Below.refl w.heap.size w) (.cells #[] 3)
  have hB2 := Aside0.mk (below_alloc hB1 (.cells #[.int .i64 1] 3))
  have Ht : Aside0 (Rd ((w.alloc (.cells #[] 3)).alloc (.cells #[.int .i64 1] 3)) (.slice (some ⟨w.heap.size + 1, 0, none⟩) 1 1) [1]) := ⟨by have := (own_lit1 (w.alloc (.cells #[] 3)) 1).rd; simpa using this⟩
  obtain ⟨T0, hT0, hT1⟩ : ∃ T0, 1 + k * 1000000 ≤ T0 ∧ T0 ≤ 1000000000001 := ⟨1 + k * 1000000, Nat.le_refl _, by omega⟩
  have Ho := Aside0.mk ((rd_lit0 w).below (below_alloc (Below.refl _ _) (.cells #[.int .i64 1] 3)))
  have HA1 := Aside0.mk (HA.out.below hB2.out)
  have HB1 := Aside0.mk (HB.out.below hB2.out)
  clear hB1
  go_loopg [1, 2, 9, 10] k (fun kq v1 v2 v9 v10 w' => ∃ (a b old t : List Int), Aside0 (Rd w' v1 a) ∧ Aside0 (Rd w' v2 b) ∧ Aside0 (Rd w' v9 t) ∧ Aside0 (Rd w' v10 old) ∧ Aside0 (D.euclid bound kq a b old t = some R) ∧ kq ≤ k ∧ a.length ≤ 1000000 ∧ b.length ≤ 1000000 ∧ t.length + kq * 1000000 ≤ T0 ∧ old.length + kq * 1000000 ≤ T0 ∧ Aside0 (Below w.heap.size w w'))
  case atStart => exact ⟨a, b, [], [1], HA1, HB1, Ht, Ho, HR, Nat.le_refl _, la, lb, hT0, Nat.le_trans (by simp) hT0, hB2⟩
  case round =>
    clear HA1 HB1 Ht Ho HR hB2 HA HB la lb
    obtain ⟨a, b, old, t, HA, HB, HT, HO, HE, hkq, la, lb, lt, lo, HBl⟩ := hrel
    cases gk with
    | zero => exact absurd HE.out (by simp [GFD.euclid])
    | succ k1 =>
      have he := HE.out
      obtain ⟨K1, hK1⟩ : ∃ K1, k1 * 1000000 = K1 := ⟨_, rfl⟩
      rw [Nat.succ_mul, hK1] at lt lo
      have lcb := canon_length_le D b
      have HG := Aside0.mk (H.out.below HBl.out)
      simp only [GFD.euclid] at he
      obtain ⟨A1, c1, rfl, hc1, hC1⟩ := HA.out.out
      obtain ⟨A2, c2, rfl, hc2, hC2⟩ := HB.out.out
      obtain ⟨A3, c3, rfl, hc3, hC3⟩ := HT.out.out
      obtain ⟨A4, c4, rfl, hc4, hC4⟩ := HO.out.out
      have HC1 := Aside0.mk hC1
      have HC2 := Aside0.mk hC2
      have HC3 := Aside0.mk hC3
      have HC4 := Aside0.mk hC4
      clear hC1 hC2 hC3 hC4 HE
      by_cases hge : 2 * (((D.canon b).length : Int) - 1) ≥ bound
      · rw [if_pos hge] at he
        have hne : D.canon b ≠ [] := fun e => by rw [e] at hge; simp at hge; omega
        have hdm : D.divMod a b = ((D.divC (D.canon a) (D.canon b)).1, (D.divC (D.canon a) (D.canon b)).2, 0) := by unfold GFD.divMod; rw [if_neg hne]
        rw [hdm] at he
        obtain ⟨hl1, hl2⟩ := divC_length D (D.canon a) (D.canon b)
        have lca := canon_length_le D a
        have hDM := fun (w1 : World) (h1 : Below wr.heap.size wr w1) => Aside0.mk (divMod_some (c := c1) (d := c2) (HG.out.below h1) hD (Kd.C_below HC1.out h1) (Kd.C_below HC2.out h1) (by omega) (by omega) hne)
        obtain ⟨q, hq⟩ : ∃ q, (D.divC (D.canon a) (D.canon b)).1 = q := ⟨_, rfl⟩
        obtain ⟨r, hr⟩ : ∃ r, (D.divC (D.canon a) (D.canon b)).2 = r := ⟨_, rfl⟩
        simp only [hq, hr] at he hl1 hl2 hDM
        obtain ⟨nl, hnl⟩ : ∃ n, (D.canon b).length = n := ⟨_, rfl⟩
        have hdeg := fun (w1 : World) (h1 : Below wr.heap.size wr w1) => Aside0.mk (degree_any (c := c2) (HG.out.below h1) (Kd.C_below HC2.out h1) (by omega))
        simp only [hnl] at hdeg lcb hge hl1
        have m1 := product_length_le D [1] q
        have m2 := product_length_le D (D.product [1] q) t
        simp only [List.length_cons, List.length_nil] at m1
        obtain ⟨M, hM⟩ : ∃ M, D.product (D.product [1] q) t = M := ⟨_, rfl⟩
        have hs := combine_length_le D old (D.neg 1) M
        have hs' : (D.subP old M).length ≤ max old.length M.length := hs
        rw [hM] at m2 he
        obtain ⟨T, hT⟩ : ∃ T, D.subP old M = T := ⟨_, rfl⟩
        rw [hT] at hs' he
        have HE := Aside0.mk he
        have HM := Aside0.mk hM
        have HT' := Aside0.mk hT
        have hlM : M.length + K1 ≤ T0 := by omega
        have hlT : T.length + K1 ≤ T0 := by omega
        have hlq : q.length ≤ 1000000 := by omega
        have hlt : t.length + K1 ≤ T0 := by omega
        have hlr : r.length ≤ 1000000 := by omega
        have hB0 := Below.refl wr.heap.size wr
        clear he hdm hq hr hnl hM hT hs hs' m1 m2 hne
        go_wp2_with (first
          | (go_at_call 139; refine (hdeg _ hB0).out.mono ?_; rintro e w1 ⟨rfl, hB⟩; have HB1 := Aside0.mk hB; clear hB)
          | (go_at_call 106; refine (hDM _ HB1.out).out.mono ?_; rintro e w2 ⟨v1, v2, rfl, hO1, hO2, hB⟩; obtain ⟨Aq, cq, rfl, hcq, hCq⟩ := hO1.slice; have HCq := Aside0.mk hCq; have HR2 := Aside0.mk hO2.rd; have HB2 := Aside0.mk (below_later HB1.out HB1.out.size hB); clear hO1 hO2 hB hCq)
          | (go_at_call 141; (with_reducible refine (mul2_any (p := q) (q := t) (HG.out.below (below_alloc HB2.out _)) hD (Kd.C_below HCq.out (below_alloc (Below.refl _ _) _)) (Kd.C_below HC3.out (below_alloc HB2.out _)) (cell_alloc2_0 _ _ _ _) (cell_alloc2_1 _ _ _ _) (by omega)).mono ?_); rw [HM.out]; rintro e w3 ⟨v3, rfl, hO3, hB⟩; obtain ⟨Am, cm, rfl, hcm, hCm⟩ := hO3.slice; have HCm := Aside0.mk hCm; have HB3 := Aside0.mk (below_later (below_alloc HB2.out _) (below_alloc HB2.out _).size hB); have HR3 := Aside0.mk ((HR2.out.below (below_alloc (Below.refl _ _) _)).below hB); clear hO3 hB hCm)
          | (go_at_call 140; (with_reducible refine (subP_any (HG.out.below HB3.out) hD (Kd.C_below HC4.out HB3.out) HCm.out (by omega) (by omega)).mono ?_); rw [HT'.out]; rintro e w4 ⟨v4, rfl, hO4, hB⟩; have HO4 := Aside0.mk hO4.rd; have HB4 := Aside0.mk (below_later HB3.out HB3.out.size hB); have HR4 := Aside0.mk (HR3.out.below hB); clear hO4 hB))
        have hB4 := Aside0.mk (below_later HBl.out HBl.out.size HB4.out)
        go_roundg k1
        case measure => omega
        case rel => exact ⟨b, r, t, T, (HB.out.below HB4.out).aside, HR4, HO4, ((Rd.mk ⟨A3, c3, rfl, hc3, HC3.out⟩).below HB4.out).aside, HE, by omega, lb, hlr, by rw [hK1]; exact hlT, by rw [hK1]; exact hlt, hB4⟩
      · rw [if_neg hge] at he
        have hR := Option.some.inj he
        have HRR := Aside0.mk hR
        have hdeg := fun (w1 : World) (h1 : Below wr.heap.size wr w1) => Aside0.mk (degree_any (c := c2) (HG.out.below h1) (Kd.C_below HC2.out h1) (by omega))
        obtain ⟨nl, hnl⟩ : ∃ n, (D.canon b).length = n := ⟨_, rfl⟩
        simp only [hnl] at hdeg hge lcb
        have hB0 := Below.refl wr.heap.size wr
        clear he hR hnl
        go_wp2_with (go_at_call 139; refine (hdeg _ hB0).out.mono ?_; rintro e w1 ⟨rfl, hB⟩; have HB1 := Aside0.mk hB; clear hB)
        go_ret2
        obtain rfl := HRR.out
        exact ⟨_, _, rfl, (HB.out.below HB1.out), ((Rd.mk ⟨A3, c3, rfl, hc3, HC3.out⟩).below HB1.out), lb, by show t.length ≤ _; omega, below_later HBl.out HBl.out.size HB1.out⟩
end Go.Proofs.Yticgblagimmlfaa

namespace Go.Proofs.Yticgblagimmlfaa
open Go.RowKit Go.Proofs.YticgblagimmlfaaW.PrintWords Go.Proofs.YticgblagimmlfaaW.PrintLast Go.Proofs.YticgblagimmlfaaW.PrintMore
set_option linter.unusedVariables false
set_option linter.unusedSimpArgs false

/-- Nothing, with this error; or numbers in new memory, without one. -/
def OrErr (w : World) (base : Nat) (v : Value) (r : List Int × Int) (e : Int) : Prop := (r.2 = e ∧ v = .slice none 0 0) ∨ (r.2 = 0 ∧ Own w base v r.1)
theorem OrErr.err {w : World} {base : Nat} {r : List Int × Int} {e : Int} (h : r.2 = e) : OrErr w base (.slice none 0 0) r e := .inl ⟨h, rfl⟩
theorem OrErr.val {w : World} {base : Nat} {v : Value} {r : List Int × Int} {e : Int} (h : r.2 = 0) (ho : Own w base v r.1) : OrErr w base v r e := .inr ⟨h, ho⟩

theorem gao_any {g : Nat} {D : GFD} {w : World} (h : GFat w g D) (hD : D.ok) {A B : Option Addr} {c d : Nat} {xs ys : List Int} (hp : Kd.C (Kd.int .i64) w A xs.length xs) (hq : Kd.C (Kd.int .i64) w B ys.length ys)
    (hb : xs.length ≤ 1000) (hlen : ys.length = xs.length) (hnd : (xs.map D.inn).Nodup) (k : Nat) (hk : k ≤ xs.length) (fuel : Nat) (hfu : fuel ≤ 1000000) {R : List Int × List Int}
    (hR : D.euclid ((xs.length : Int) + (k : Int)) fuel (D.fromRoots xs) (D.inter xs ys xs.length).1 [] [1] = some R) :
    Calls Try.prog 68 #[.pointer (some ⟨g, 0, none⟩), .slice A xs.length c, .slice B ys.length d, .int .i64 k] w fun e w' => ∃ v, e = .returned (.tuple #[v, .int .i64 (D.gao xs ys k R).2]) ∧
      OrErr w' w.heap.size v (D.gao xs ys k R) 12 ∧ Below w.heap.size w w' := by
  have H := Aside0.mk h
  have HP := Aside0.mk hp
  have HQ := Aside0.mk hq
  have Hlen := Aside0.mk hlen
  have HR := Aside0.mk hR
  have hIn := fun (w1 : World) (h1 : Below w.heap.size w w1) => Aside0.mk (interpolate_ok (c := c) (d := d) (H.out.below h1) hD (Kd.C_below HP.out h1) (Kd.C_below HQ.out h1) (by omega) hlen hnd)
  have hFr := fun (w1 : World) (h1 : Below w.heap.size w w1) => Aside0.mk (fromRoots_any (c := c) (H.out.below h1) hD (Kd.C_below HP.out h1) (by omega))
  have l1 := fromRoots_length D xs
  have l2 := (D.inter_length xs ys xs.length (Nat.le_refl _) (by omega)).1
  clear h hp hq hlen hR
  have hB0 := Below.refl w.heap.size w
  by_cases hz : D.canon R.2 = []
  · have e : D.gao xs ys k R = ([], 12) := by unfold GFD.gao; rw [if_pos hz]
    rw [e]
    have Hz := Aside0.mk hz
    clear e hz
    go_enter Try.func68, Try.ntmps68
    go_wp2_with (first
      | (go_at_call 103; refine (hIn _ hB0).out.mono ?_; rintro e w1 ⟨v1, rfl, hO1, hB⟩; have HT1 := Aside0.mk hO1.rd; have HB1 := Aside0.mk hB; clear hO1 hB)
      | (go_at_call 105; refine (hFr _ HB1.out).out.mono ?_; rintro e w2 ⟨v2, rfl, hO2, hB⟩; have HF2 := Aside0.mk hO2.rd; have HT2 := Aside0.mk (HT1.out.below hB); have HB2 := Aside0.mk (below_later HB1.out HB1.out.size hB); clear hO2 hB)
      | (go_at_call 104; refine (euclid_any (H.out.below HB2.out) hD HF2.out HT2.out _ (by omega) (by omega) fuel hfu (by omega) (by omega) HR.out).mono ?_; rintro e w3 ⟨v3, v4, rfl, hE1, hE2, hl1, hl2, hB⟩; obtain ⟨A3, c3, rfl, hc3, hC3⟩ := hE1.out; obtain ⟨A4, c4, rfl, hc4, hC4⟩ := hE2.out; have HC3 := Aside0.mk hC3; have HC4 := Aside0.mk hC4; have HB3 := Aside0.mk (below_later HB2.out HB2.out.size hB); clear hE1 hE2 hB hC3 hC4)
      | (go_at_call 106; refine (divMod_zero (H.out.below HB3.out)  HC3.out HC4.out (by omega) (by omega) Hz.out).mono ?_; rintro e w4 ⟨rfl, hB⟩; have HB4 := Aside0.mk (below_later HB3.out HB3.out.size hB); clear hB))
    go_ret2
    exact ⟨_, rfl, OrErr.err rfl, HB4.out⟩
  · have Hz := Aside0.mk hz
    obtain ⟨m, hm⟩ : ∃ m, (D.divC (D.canon R.1) (D.canon R.2)).1 = m := ⟨_, rfl⟩
    obtain ⟨r, hr⟩ : ∃ r, (D.divC (D.canon R.1) (D.canon R.2)).2 = r := ⟨_, rfl⟩
    have hg : D.gao xs ys k R = if r ≠ [] then ([], 12) else if m.length > k then ([], 12) else if D.wrong m xs ys xs.length > (xs.length - k) / 2 then ([], 12) else (m, 0) := by
      unfold GFD.gao; rw [if_neg hz, hm, hr]
    rw [hg]
    have Hm := Aside0.mk hm
    have Hr := Aside0.mk hr
    clear hg hz hm hr
    by_cases hr0 : r ≠ []
    · rw [if_pos hr0]
      have hrl : 0 < r.length := List.length_pos_iff.2 hr0
      clear hr0
      go_enter Try.func68, Try.ntmps68
      go_wp2_with (first
      | (go_at_call 103; refine (hIn _ hB0).out.mono ?_; rintro e w1 ⟨v1, rfl, hO1, hB⟩; have HT1 := Aside0.mk hO1.rd; have HB1 := Aside0.mk hB; clear hO1 hB)
      | (go_at_call 105; refine (hFr _ HB1.out).out.mono ?_; rintro e w2 ⟨v2, rfl, hO2, hB⟩; have HF2 := Aside0.mk hO2.rd; have HT2 := Aside0.mk (HT1.out.below hB); have HB2 := Aside0.mk (below_later HB1.out HB1.out.size hB); clear hO2 hB)
      | (go_at_call 104; refine (euclid_any (H.out.below HB2.out) hD HF2.out HT2.out _ (by omega) (by omega) fuel hfu (by omega) (by omega) HR.out).mono ?_; rintro e w3 ⟨v3, v4, rfl, hE1, hE2, hl1, hl2, hB⟩; obtain ⟨A3, c3, rfl, hc3, hC3⟩ := hE1.out; obtain ⟨A4, c4, rfl, hc4, hC4⟩ := hE2.out; have HC3 := Aside0.mk hC3; have HC4 := Aside0.mk hC4; have HB3 := Aside0.mk (below_later HB2.out HB2.out.size hB); clear hE1 hE2 hB hC3 hC4)
      | (go_at_call 106; refine (divMod_some (H.out.below HB3.out) hD HC3.out HC4.out (by omega) (by omega) Hz.out).mono ?_; rw [Hm.out, Hr.out]; rintro e w4 ⟨v5, v6, rfl, hO5, hO6, hB⟩; obtain ⟨A5, c5, rfl, hc5, hC5⟩ := hO5.slice; obtain ⟨A6, c6, rfl, hc6, hC6⟩ := hO6.slice; have HC5 := Aside0.mk hC5; have HO5 := Aside0.mk hO5; have HB4 := Aside0.mk (below_later HB3.out HB3.out.size hB); clear hB hO5 hO6 hC5 hC6))
      go_ret2
      exact ⟨_, rfl, OrErr.err rfl, HB4.out⟩
    · rw [if_neg hr0]
      have hrl : ¬ 0 < r.length := fun h => hr0 (List.length_pos_iff.1 h)
      clear hr0
      by_cases hmk : m.length > k
      · rw [if_pos hmk]
        have hmk' : (k : Int) < (m.length : Int) := by omega
        go_enter Try.func68, Try.ntmps68
        go_wp2_with (first
      | (go_at_call 103; refine (hIn _ hB0).out.mono ?_; rintro e w1 ⟨v1, rfl, hO1, hB⟩; have HT1 := Aside0.mk hO1.rd; have HB1 := Aside0.mk hB; clear hO1 hB)
      | (go_at_call 105; refine (hFr _ HB1.out).out.mono ?_; rintro e w2 ⟨v2, rfl, hO2, hB⟩; have HF2 := Aside0.mk hO2.rd; have HT2 := Aside0.mk (HT1.out.below hB); have HB2 := Aside0.mk (below_later HB1.out HB1.out.size hB); clear hO2 hB)
      | (go_at_call 104; refine (euclid_any (H.out.below HB2.out) hD HF2.out HT2.out _ (by omega) (by omega) fuel hfu (by omega) (by omega) HR.out).mono ?_; rintro e w3 ⟨v3, v4, rfl, hE1, hE2, hl1, hl2, hB⟩; obtain ⟨A3, c3, rfl, hc3, hC3⟩ := hE1.out; obtain ⟨A4, c4, rfl, hc4, hC4⟩ := hE2.out; have HC3 := Aside0.mk hC3; have HC4 := Aside0.mk hC4; have HB3 := Aside0.mk (below_later HB2.out HB2.out.size hB); clear hE1 hE2 hB hC3 hC4)
      | (go_at_call 106; refine (divMod_some (H.out.below HB3.out) hD HC3.out HC4.out (by omega) (by omega) Hz.out).mono ?_; rw [Hm.out, Hr.out]; rintro e w4 ⟨v5, v6, rfl, hO5, hO6, hB⟩; obtain ⟨A5, c5, rfl, hc5, hC5⟩ := hO5.slice; obtain ⟨A6, c6, rfl, hc6, hC6⟩ := hO6.slice; have HC5 := Aside0.mk hC5; have HO5 := Aside0.mk hO5; have HB4 := Aside0.mk (below_later HB3.out HB3.out.size hB); clear hB hO5 hO6 hC5 hC6))
        go_ret2
        exact ⟨_, rfl, OrErr.err rfl, HB4.out⟩
      · rw [if_neg hmk]
        obtain ⟨W, hW⟩ : ∃ W, D.wrong m xs ys xs.length = W := ⟨_, rfl⟩
        rw [hW]
        have HW := Aside0.mk hW
        obtain ⟨res, hres⟩ : ∃ res : List Int × Int, (if W > (xs.length - k) / 2 then ([], 12) else (m, 0)) = res := ⟨_, rfl⟩
        rw [hres]
        have HRes := Aside0.mk hres
        clear hW hres
        go_enter Try.func68, Try.ntmps68
        go_wp2_with (first
      | (go_at_call 103; refine (hIn _ hB0).out.mono ?_; rintro e w1 ⟨v1, rfl, hO1, hB⟩; have HT1 := Aside0.mk hO1.rd; have HB1 := Aside0.mk hB; clear hO1 hB)
      | (go_at_call 105; refine (hFr _ HB1.out).out.mono ?_; rintro e w2 ⟨v2, rfl, hO2, hB⟩; have HF2 := Aside0.mk hO2.rd; have HT2 := Aside0.mk (HT1.out.below hB); have HB2 := Aside0.mk (below_later HB1.out HB1.out.size hB); clear hO2 hB)
      | (go_at_call 104; refine (euclid_any (H.out.below HB2.out) hD HF2.out HT2.out _ (by omega) (by omega) fuel hfu (by omega) (by omega) HR.out).mono ?_; rintro e w3 ⟨v3, v4, rfl, hE1, hE2, hl1, hl2, hB⟩; obtain ⟨A3, c3, rfl, hc3, hC3⟩ := hE1.out; obtain ⟨A4, c4, rfl, hc4, hC4⟩ := hE2.out; have HC3 := Aside0.mk hC3; have HC4 := Aside0.mk hC4; have HB3 := Aside0.mk (below_later HB2.out HB2.out.size hB); clear hE1 hE2 hB hC3 hC4)
      | (go_at_call 106; refine (divMod_some (H.out.below HB3.out) hD HC3.out HC4.out (by omega) (by omega) Hz.out).mono ?_; rw [Hm.out, Hr.out]; rintro e w4 ⟨v5, v6, rfl, hO5, hO6, hB⟩; obtain ⟨A5, c5, rfl, hc5, hC5⟩ := hO5.slice; obtain ⟨A6, c6, rfl, hc6, hC6⟩ := hO6.slice; have HC5 := Aside0.mk hC5; have HO5 := Aside0.mk hO5; have HB4 := Aside0.mk (below_later HB3.out HB3.out.size hB); clear hB hO5 hO6 hC5 hC6))
        have hB5 := Aside0.mk HB4.out
        go_loopw [17, 74] (fun v17 v74 w' => ∃ (j c : Nat), v74 = .int .i64 j ∧ v17 = .int .i64 c ∧ j ≤ xs.length ∧ c ≤ j ∧ Aside0 (D.wrong m xs ys j = c) ∧ Aside0 (Own w' w.heap.size (.slice A5 m.length c5) m) ∧ Aside0 (Below w.heap.size w w')) (fun _ v74 _ => xs.length - (intOf v74).toNat)
        case atStart => exact ⟨0, 0, rfl, rfl, by omega, by omega, ⟨rfl⟩, ⟨HO5.out.lower HB3.out.size⟩, HB4⟩
        case round =>
          clear HO5 hB5 HB4
          obtain ⟨j, cn, rfl, rfl, hj, hcn, HWj, HO5, HB4⟩ := hrel
          by_cases hlj : j < xs.length
          · obtain ⟨ad, e, hx⟩ := C_nat (Kd.C_below HP.out HB4.out) j hlj
            cases e
            obtain ⟨x, hx'⟩ : ∃ x, xs.getD j 0 = x := ⟨_, rfl⟩
            rw [hx'] at hx
            have hljy : j < ys.length := by have := Hlen.out; omega
            obtain ⟨ad2, e, hy⟩ := C_nat (Kd.C_below HQ.out HB4.out) j hljy
            cases e
            obtain ⟨y, hy'⟩ : ∃ y, ys.getD j 0 = y := ⟨_, rfl⟩
            rw [hy'] at hy
            have hsucc := D.wrong_succ m xs ys j hlj hljy
            rw [HWj.out, hx', hy'] at hsucc
            have HG := Aside0.mk (H.out.below HB4.out)
            have HCm := Aside0.mk HO5.out.reads.2.2
            clear hx' hy' HWj
            by_cases hne : D.eval m x ≠ D.add y 0
            · rw [if_pos hne] at hsucc
              have HS := Aside0.mk hsucc
              have hb : (D.eval m x != D.add y 0) = true := by simp [hne]
              clear hsucc hne
              go_wp2
              go_quiet (first | (go_at_call 92; exact quiet_d (eval_any (HG.out.drewN _) hD (Kd.C_drewN HCm.out _) _)) | (go_at_call 83; exact quiet_d (add_any (HG.out.drewN _) hD _ _)))
              go_wp2
              go_roundw
              case rel => exact ⟨j + 1, cn + 1, by go_num, by go_num, by omega, by omega, HS, ⟨HO5.out.drewN _⟩, ⟨pw_below_drewN HB4.out _⟩⟩
              case measure => simp [intOf]; omega
            · rw [if_neg hne] at hsucc
              have HS := Aside0.mk hsucc
              have hb : (D.eval m x != D.add y 0) = false := by simpa using hne
              clear hsucc hne
              go_wp2
              go_quiet (first | (go_at_call 92; exact quiet_d (eval_any (HG.out.drewN _) hD (Kd.C_drewN HCm.out _) _)) | (go_at_call 83; exact quiet_d (add_any (HG.out.drewN _) hD _ _)))
              go_wp2
              go_roundw
              case rel => exact ⟨j + 1, cn, by go_num, by go_num, by omega, by omega, HS, ⟨HO5.out.drewN _⟩, ⟨pw_below_drewN HB4.out _⟩⟩
              case measure => simp [intOf]; omega
          · obtain rfl : j = xs.length := by omega
            have hW : W = cn := by rw [← HW.out]; exact HWj.out
            subst hW
            clear HWj HW
            by_cases hgt : W > (xs.length - k) / 2
            · obtain rfl : res = ([], 12) := by rw [← HRes.out, if_pos hgt]
              have hgt' : ((xs.length : Int) - (k : Int)) / 2 < (W : Int) := by omega
              go_wp2
              go_ret2
              exact ⟨_, rfl, OrErr.err rfl, HB4.out⟩
            · obtain rfl : res = (m, 0) := by rw [← HRes.out, if_neg hgt]
              have hgt' : ¬ ((xs.length : Int) - (k : Int)) / 2 < (W : Int) := by omega
              go_wp2
              go_ret2
              exact ⟨_, rfl, OrErr.val rfl HO5.out, HB4.out⟩
end Go.Proofs.Yticgblagimmlfaa
