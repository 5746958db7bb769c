/- Parts of the proof: LK, QL, QS, P1. -/
import Derived.Test.YticgblagimmlfaaRows
import Derived.Test.YticgblagimmlfaaX806
import Derived.WalkKit
import Derived.ProofKit
import Derived.OpenShut
import Derived.ChangeOld
import Derived.Below
import Derived.SizedLaws
import Derived.Deep.RegionHeld
import Derived.ArgAppend
section
/- What the laws' arguments are, opened: descriptions, words, lists. -/
namespace Go.Proofs.Yticgblagimmlfaa
open Go.ChangeShapes Go.WideShapes Go.ChangeAt Go.RowKit Go.Proofs.YticgblagimmlfaaW.PrintWords Go.Proofs.YticgblagimmlfaaW.PrintLast Go.Proofs.YticgblagimmlfaaW.PrintMore
set_option linter.unusedVariables false
set_option linter.unusedSimpArgs false

theorem laidOutT : laidOutB Try.prog = true := by kernel_rfl
section
variable {H : Type} {enc : TypeId × Value → H} {W : World} {base : Nat} {spare : Nat → Bool} {held : Bool}
theorem open_list {fuel : Nat} {cs : List Value} {x : DataW H × List MemPlace} (hf : DataW.trod enc Try.prog W base spare held fuel 25 cs = some x) :
    ∃ A c l, cs = [.slice A (l : List Int).length c] ∧ l.length ≤ c ∧ Kd.C (Kd.int .i64) W A l.length l := by
  rcases open_ints (k := .i64) Try.underlying25 Try.underlying3 (by kernel_rfl) hf with ⟨hcs, _⟩ | ⟨a, len, cap, zs, hcs, _, hl, hm, hz, _, hcell, hwz⟩
  · exact ⟨none, 0, [], hcs, Nat.le_refl _, Kd.C_nil _ _⟩
  · have hrd : len ≤ zs.length := by rw [hz]; split <;> omega
    refine ⟨some a, cap, zs.take len, by rw [List.length_take, Nat.min_eq_left hrd]; exact hcs, by rw [List.length_take]; omega, ?_⟩
    refine Kd.C_of_reads (enc := Value.int .i64) (d := 0) ⟨rfl, by rw [List.length_take]; unfold maxLen at hm; omega, fun _ => ⟨a, rfl, fun j hj => ?_⟩⟩
    rw [List.length_take] at hj
    rw [hcell j (by omega)]
    congr 2
    rw [List.getD_eq_getElem?_getD, List.getD_eq_getElem?_getD, List.getElem?_take_of_lt (by omega)]
set_option maxRecDepth 100000 in
theorem open_listV {base0 : Nat} {v : Value} {d : DataW H} {p : List MemPlace} (hv : Value.okWide Try.prog W .any base0 25 v) (h : DataW.Trod enc Try.prog W base spare held 25 v d p) :
    ∃ A c l, v = .slice A (l : List Int).length c ∧ l.length ≤ c ∧ Kd.C (Kd.int .i64) W A l.length l := by
  obtain ⟨a, len, cap, rfl⟩ := okWide_slice Try.underlying25 hv
  obtain ⟨fuel, hf⟩ := h
  obtain ⟨A, c, l, e, h1, h2⟩ := open_list hf
  simp [Value.cells] at e
  obtain ⟨rfl, rfl, rfl⟩ := e
  exact ⟨_, _, l, rfl, h1, h2⟩
theorem open_intc {fuel : Nat} {cs : List Value} {x : DataW H × List MemPlace} (hf : DataW.trod enc Try.prog W base spare held fuel 3 cs = some x) : ∃ n, cs = [.int .i64 n] := by
  obtain ⟨n, e, -⟩ := DataW.trod_int Try.underlying3 hf
  exact ⟨n, e⟩
theorem cells27 : Try.prog.cellsOf 27 = 3 := by kernel_rfl
theorem cells29 : Try.prog.cellsOf 29 = 6 := by kernel_rfl
theorem cells25 : Try.prog.cellsOf 25 = 1 := by kernel_rfl
theorem cells3 : Try.prog.cellsOf 3 = 1 := by kernel_rfl
set_option maxRecDepth 100000 in
theorem open_field {fuel : Nat} {cs : List Value} {x : DataW H × List MemPlace} (hf : DataW.trod enc Try.prog W base spare held fuel 27 cs = some x) :
    ∃ P M A c l, cs = [.int .i64 P, .int .i64 M, .slice A (l : List Int).length c] ∧ l.length ≤ c ∧ Kd.C (Kd.int .i64) W A l.length l := by
  obtain ⟨xs, n, -, -, hl, hx, hg⟩ := DataW.trod_struct Try.underlying27 hf
  rw [cells27] at hl
  match cs, hl with
  | [a, b, c], _ =>
    match xs, hx with
    | [x0, x1, x2], _ =>
      have h0 : DataW.trod enc Try.prog W base spare held n 3 (List.take (Try.prog.cellsOf 3) (List.drop 0 [a, b, c])) = some x0 := hg 0 _ rfl
      rw [cells3] at h0
      have h1 : DataW.trod enc Try.prog W base spare held n 3 (List.take (Try.prog.cellsOf 3) (List.drop 1 [a, b, c])) = some x1 := hg 1 _ rfl
      rw [cells3] at h1
      have h2 : DataW.trod enc Try.prog W base spare held n 25 (List.take (Try.prog.cellsOf 25) (List.drop 2 [a, b, c])) = some x2 := hg 2 _ rfl
      rw [cells25] at h2
      obtain ⟨P, e0⟩ := open_intc h0
      obtain ⟨M, e1⟩ := open_intc h1
      obtain ⟨A, cp, l, e2, h3, h4⟩ := open_list h2
      simp at e0 e1 e2
      subst e0 e1 e2
      exact ⟨P, M, A, cp, l, rfl, h3, h4⟩
set_option maxRecDepth 100000 in
theorem open_GRS {base0 : Nat} {v : Value} {d : DataW H} {p : List MemPlace} (hv : Value.okWide Try.prog W .any base0 29 v) (h : DataW.Trod enc Try.prog W base spare held 29 v d p) : ∃ s, GArg W v s := by
  obtain ⟨cs, rfl, hsz⟩ := okWide_struct Try.underlying29 hv
  obtain ⟨fuel, hf⟩ := h
  obtain ⟨l⟩ := cs
  rw [cells29] at hsz
  obtain ⟨xs, n, -, -, hl, hx, hg⟩ := DataW.trod_struct Try.underlying29 hf
  match l, hsz with
  | [a, b, c, k, pp, mm], _ =>
    match xs, hx with
    | [x0, x1, x2, x3], _ =>
      have h0 : DataW.trod enc Try.prog W base spare held n 27 (List.take (Try.prog.cellsOf 27) (List.drop 0 [a, b, c, k, pp, mm])) = some x0 := hg 0 _ rfl
      rw [cells27] at h0
      have h1 : DataW.trod enc Try.prog W base spare held n 3 (List.take (Try.prog.cellsOf 3) (List.drop 3 [a, b, c, k, pp, mm])) = some x1 := hg 1 _ rfl
      rw [cells3] at h1
      have h2 : DataW.trod enc Try.prog W base spare held n 25 (List.take (Try.prog.cellsOf 25) (List.drop 4 [a, b, c, k, pp, mm])) = some x2 := hg 2 _ rfl
      rw [cells25] at h2
      have h3 : DataW.trod enc Try.prog W base spare held n 25 (List.take (Try.prog.cellsOf 25) (List.drop 5 [a, b, c, k, pp, mm])) = some x3 := hg 3 _ rfl
      rw [cells25] at h3
      obtain ⟨P, M, A, cp, l, e0, h4, h5⟩ := open_field h0
      obtain ⟨K, e1⟩ := open_intc h1
      obtain ⟨A2, cp2, l2, e2, h6, h7⟩ := open_list h2
      obtain ⟨A3, cp3, l3, e3, h8, h9⟩ := open_list h3
      simp at e0 e1 e2 e3
      obtain ⟨rfl, rfl, rfl⟩ := e0
      subst e1 e2 e3
      exact ⟨⟨P, M, l, K, l2, l3⟩, _, _, _, _, _, _, rfl, h5, h4, h7, h6, h9, h8⟩
end
theorem trod_blocks {H : Type} {enc : TypeId × Value → H} {W : World} {t : TypeId} {v : Value} {d : DataW H} {p : List MemPlace} (k : DataW.Trod enc Try.prog W 0 (fun _ => true) true t v d p) : ∀ x ∈ p, x.block < W.heap.size := by
  obtain ⟨m, hm⟩ := k
  exact DataW.trod_lt m _ _ _ hm
end Go.Proofs.Yticgblagimmlfaa
end
section
/- A region of open order whose last operation writes what the others read: one condition on the world that holds till the last operation. -/
namespace Go
section
variable {P : Program} {ops : Array Oper} {Q : Exit → Act → World → Prop} {md : Region.Mode} {S : World → Prop} {L : Nat}

/-- Whatever order is picked from here on, and S holds behind every operation as long as number L has not come up. -/
def wpAnyZ (P : Program) (md : Region.Mode) (ops : Array Oper) (Q : Exit → Act → World → Prop) (S : World → Prop) (L : Nat) : Nat → Array Bool → Act → World → Prop
  | 0, listed, a, w => Region.ready md ops listed = [] ∧ Q .normal a w
  | fuel + 1, listed, a, w =>
    (Region.ready md ops listed = [] → Q .normal a w) ∧
    ∀ i ∈ Region.ready md ops listed, wpOp P ops Q i (fun a' w' => ((listed.setIfInBounds i true).getD L true = false → S w') ∧ wpAnyZ P md ops Q S L fuel (listed.setIfInBounds i true) a' w') a w

theorem wpAny_of_lastZ : ∀ (fuel : Nat) (listed : Array Bool) (a : Act) (w : World), wpAnyZ P md ops Q S L fuel listed a w → wpAny P md ops Q fuel listed a w
  | 0, _, _, _, h => h
  | fuel + 1, _, _, _, h => ⟨h.1, fun i hi => wpOp_mono (fun a' w' h' => wpAny_of_lastZ fuel _ a' w' h'.2) (h.2 i hi)⟩

theorem wpAnyZ_first {i : Nat} {oi oL : Oper} {v : Value} (hi : ops[i]? = some oi) (hsel : ∀ (j : Nat) (o : Oper) cs b, ops[j]? = some o → o.op ≠ .select cs b)
    (hQ : ∀ c a w, Q (.panic c) (a.put oi.dst v) w → Q (.panic c) a w) (hL : ops[L]? = some oL) (hLi : L ≠ i) (hw : ∃ e ∈ oL.after, Region.binds md e = true ∧ e.on = i) :
    ∀ (fuel : Nat) (listed : Array Bool) (a : Act) (w : World),
      (∀ j oj, ops[j]? = some oj → j ≠ i → listed.getD j true = false → (∀ e ∈ oj.after, Region.binds md e = true → e.on ≠ i) → oi.apart ops oj = true) →
      i ∈ Region.ready md ops listed → YieldsIf P ops S oi v a → S w → listed.getD L true = false →
      wpAnyZ P md ops Q S L fuel (listed.setIfInBounds i true) (a.put oi.dst v) w → wpAnyZ P md ops Q S L (fuel + 1) listed a w := by
  intro fuel
  induction fuel with
  | zero =>
    intro listed a w _ hr hy hS _ H
    refine ⟨fun h => (by rw [h] at hr; cases hr), fun j hj => ?_⟩
    by_cases hji : j = i
    · subst hji; exact hy.wpOp hi hS ⟨fun _ => hS, H⟩
    · have := ready_mono hj hji
      rw [H.1] at this
      cases this
  | succ fuel ih =>
    intro listed a w hfree hr hy hS hun H
    refine ⟨fun h => (by rw [h] at hr; cases hr), fun j hj => ?_⟩
    by_cases hji : j = i
    · subst hji; exact hy.wpOp hi hS ⟨fun _ => hS, H⟩
    · have h1 := H.2 j (ready_mono hj hji)
      obtain ⟨hjun, oj, hoj, hall⟩ := mem_ready.1 hj
      have hnot : ∀ e ∈ oj.after, Region.binds md e = true → e.on ≠ i := fun e he hb heq => by
        have h1 := hall e he hb
        have h0 := (mem_ready.1 hr).1
        rw [heq] at h1
        rcases Nat.lt_or_ge i listed.size with h' | h'
        · simp [h'] at h0 h1; rw [h0] at h1; cases h1
        · simp [Array.getElem?_eq_none h'] at h1
      have hjL : j ≠ L := by
        rintro rfl
        obtain ⟨e, he, hb, hon⟩ := hw
        rw [hL] at hoj
        cases hoj
        exact hnot e he hb hon
      have h2 := wpOp_putIf hoj (hfree j oj hoj hji hjun hnot) (fun cs b => hsel i oi cs b hi) (fun cs b => hsel j oj cs b hoj) hQ hy h1
      have hfree' : ∀ k ok, ops[k]? = some ok → k ≠ i → (listed.setIfInBounds j true).getD k true = false →
          (∀ e ∈ ok.after, Region.binds md e = true → e.on ≠ i) → oi.apart ops ok = true := fun k ok hk hki hun hno => by
        refine hfree k ok hk hki ?_ hno
        by_cases hjk : j = k
        · subst hjk; exact hjun
        · rw [getD_set_ne true hjk] at hun; exact hun
      have hunj : (listed.setIfInBounds j true).getD L true = false := by rw [getD_set_ne true hjL]; exact hun
      have hunij : ((listed.setIfInBounds i true).setIfInBounds j true).getD L true = false := by rw [getD_set_ne true hjL, getD_set_ne true (Ne.symm hLi)]; exact hun
      refine wpOp_mono (fun a' w' h3 => ⟨fun _ => h3.2.1 hunij, ih (listed.setIfInBounds j true) a' w' hfree' (ready_mono hr (Ne.symm hji)) h3.1 (h3.2.1 hunij) hunj ?_⟩) h2
      rw [Array.setIfInBounds_comm _ _ hji]
      exact h3.2.2

/-- Does L wait for i? -/
def Region.waitsZ (md : Region.Mode) (ops : Array Oper) (L i : Nat) : Bool := match ops[L]? with
  | some o => o.after.any (fun e => Region.binds md e && e.on == i) && (L != i)
  | none => false

theorem wpAnyZ_take {i : Nat} {oi : Oper} {v : Value} {fuel : Nat} {listed : Array Bool} {a : Act} {w : World} (hi : ops[i]? = some oi)
    (hs : Region.noSelect ops = true) (hf : Region.free md ops listed i = true) (hr : (Region.ready md ops listed).contains i = true) (hw : Region.waitsZ md ops L i = true) (hun : listed.getD L true = false)
    (hQ : ∀ c a w, Q (.panic c) (a.put oi.dst v) w → Q (.panic c) a w) (hy : YieldsIf P ops S oi v a) (hS : S w)
    (h : wpAnyZ P md ops Q S L fuel (listed.setIfInBounds i true) (a.put oi.dst v) w) : wpAnyZ P md ops Q S L (fuel + 1) listed a w := by
  unfold Region.waitsZ at hw
  split at hw
  · rename_i oL hoL
    simp only [Bool.and_eq_true, Array.any_eq_true', bne_iff_ne, ne_eq, beq_iff_eq] at hw
    obtain ⟨⟨e, he, hb, hon⟩, hne⟩ := hw
    exact wpAnyZ_first hi (Region.noSelect_spec hs) hQ hoL hne ⟨e, he, hb, hon⟩ fuel listed a w (Region.free_spec hi hf) (by simpa using hr) hy hS hun h
  · cases hw

/-- The same for an operation that yields in every world: L need not wait for it. -/
theorem wpAnyZ_firstA {i : Nat} {oi : Oper} {v : Value} (hi : ops[i]? = some oi) (hsel : ∀ (j : Nat) (o : Oper) cs b, ops[j]? = some o → o.op ≠ .select cs b)
    (hQ : ∀ c a w, Q (.panic c) (a.put oi.dst v) w → Q (.panic c) a w) (hLi : L ≠ i) :
    ∀ (fuel : Nat) (listed : Array Bool) (a : Act) (w : World),
      (∀ j oj, ops[j]? = some oj → j ≠ i → listed.getD j true = false → (∀ e ∈ oj.after, Region.binds md e = true → e.on ≠ i) → oi.apart ops oj = true) →
      i ∈ Region.ready md ops listed → YieldsIf P ops (fun _ => True) oi v a → (listed.getD L true = false → S w) →
      wpAnyZ P md ops Q S L fuel (listed.setIfInBounds i true) (a.put oi.dst v) w → wpAnyZ P md ops Q S L (fuel + 1) listed a w := by
  intro fuel
  induction fuel with
  | zero =>
    intro listed a w _ hr hy hS H
    refine ⟨fun h => (by rw [h] at hr; cases hr), fun j hj => ?_⟩
    by_cases hji : j = i
    · subst hji; exact hy.wpOp hi trivial ⟨fun h => hS (by rwa [getD_set_ne true (Ne.symm hLi)] at h), H⟩
    · have := ready_mono hj hji
      rw [H.1] at this
      cases this
  | succ fuel ih =>
    intro listed a w hfree hr hy hS H
    refine ⟨fun h => (by rw [h] at hr; cases hr), fun j hj => ?_⟩
    by_cases hji : j = i
    · subst hji; exact hy.wpOp hi trivial ⟨fun h => hS (by rwa [getD_set_ne true (Ne.symm hLi)] at h), H⟩
    · have h1 := H.2 j (ready_mono hj hji)
      obtain ⟨hjun, oj, hoj, hall⟩ := mem_ready.1 hj
      have hnot : ∀ e ∈ oj.after, Region.binds md e = true → e.on ≠ i := fun e he hb heq => by
        have h1 := hall e he hb
        have h0 := (mem_ready.1 hr).1
        rw [heq] at h1
        rcases Nat.lt_or_ge i listed.size with h' | h'
        · simp [h'] at h0 h1; rw [h0] at h1; cases h1
        · simp [Array.getElem?_eq_none h'] at h1
      have h2 := wpOp_putIf hoj (hfree j oj hoj hji hjun hnot) (fun cs b => hsel i oi cs b hi) (fun cs b => hsel j oj cs b hoj) hQ hy h1
      have hfree' : ∀ k ok, ops[k]? = some ok → k ≠ i → (listed.setIfInBounds j true).getD k true = false →
          (∀ e ∈ ok.after, Region.binds md e = true → e.on ≠ i) → oi.apart ops ok = true := fun k ok hk hki hun hno => by
        refine hfree k ok hk hki ?_ hno
        by_cases hjk : j = k
        · subst hjk; exact hjun
        · rw [getD_set_ne true hjk] at hun; exact hun
      have hun2 : (listed.setIfInBounds j true).getD L true = false → ((listed.setIfInBounds i true).setIfInBounds j true).getD L true = false := fun h => by
        rw [Array.setIfInBounds_comm _ _ (Ne.symm hji), getD_set_ne true (Ne.symm hLi)]; exact h
      refine wpOp_mono (fun a' w' h3 => ⟨fun h => h3.2.1 (hun2 h), ih (listed.setIfInBounds j true) a' w' hfree' (ready_mono hr (Ne.symm hji)) h3.1 (fun h => h3.2.1 (hun2 h)) ?_⟩) h2
      rw [Array.setIfInBounds_comm _ _ hji]
      exact h3.2.2
theorem drop_get {l : List Oper} {i : Nat} {o : Oper} {r : List Oper} (h : l.drop i = o :: r) : l.toArray[i]? = some o := by
  have h2 : (l.drop i)[0]? = some o := by rw [h]; rfl
  rw [List.getElem?_drop] at h2
  simpa using h2
/-- Number i is a load: it is taken first. -/
theorem wpAnyZ_load {l : List Oper} (i : Nat) {oi : Oper} {r : List Oper} {v : Value} {fuel : Nat} {listed : Array Bool} {a : Act} {w : World} (hd : l.drop i = oi :: r)
    (hs : Region.noSelect l.toArray = true) (hf : Region.free md l.toArray listed i = true) (hr : (Region.ready md l.toArray listed).contains i = true) (hw : Region.waitsZ md l.toArray L i = true) (hun : listed.getD L true = false)
    (hQ : ∀ c a w, Q (.panic c) (a.put oi.dst v) w → Q (.panic c) a w) (hwa : Region.wanted oi (yielded l.toArray a.tmps) = true) (hy : ∀ w, S w → (execOp a.eval oi).run P w = .ok (.value v) w) (hS : S w)
    (h : wpAnyZ P md l.toArray Q S L fuel (listed.setIfInBounds i true) (a.put oi.dst v) w) : wpAnyZ P md l.toArray Q S L (fuel + 1) listed a w :=
  wpAnyZ_take (drop_get hd) hs hf hr hw hun hQ (.inl ⟨hwa, hy⟩) hS h
/-- Number i yields in every world: it is taken first. -/
theorem wpAnyZ_pure {l : List Oper} (i : Nat) {oi : Oper} {r : List Oper} {v : Value} {fuel : Nat} {listed : Array Bool} {a : Act} {w : World} (hd : l.drop i = oi :: r)
    (hs : Region.noSelect l.toArray = true) (hf : Region.free md l.toArray listed i = true) (hr : (Region.ready md l.toArray listed).contains i = true) (hLi : L ≠ i)
    (hQ : ∀ c a w, Q (.panic c) (a.put oi.dst v) w → Q (.panic c) a w) (hwa : Region.wanted oi (yielded l.toArray a.tmps) = true) (hy : ∀ w, (execOp a.eval oi).run P w = .ok (.value v) w) (hS : listed.getD L true = false → S w)
    (h : wpAnyZ P md l.toArray Q S L fuel (listed.setIfInBounds i true) (a.put oi.dst v) w) : wpAnyZ P md l.toArray Q S L (fuel + 1) listed a w :=
  wpAnyZ_firstA (drop_get hd) (Region.noSelect_spec hs) hQ hLi fuel listed a w (Region.free_spec (drop_get hd) hf) (by simpa using hr) (.inl ⟨hwa, fun w _ => hy w⟩) hS h
/-- One operation alone may come up. -/
theorem wpAnyZ_one {l : List Oper} (i : Nat) {o : Oper} {r : List Oper} {fuel : Nat} {listed : Array Bool} {a : Act} {w : World} (ho : l.drop i = o :: r) (hr : Region.ready md l.toArray listed = [i])
    (h : ∀ K' : Act → World → Prop, Shut (∀ a w, ((listed.setIfInBounds i true).getD L true = false → S w) → wpAnyZ P md l.toArray Q S L fuel (listed.setIfInBounds i true) a w → K' a w) → if Region.wanted o (yielded l.toArray a.tmps) = true then Oper.wp P o a w K' Q else K' (a.put o.dst undef) w) : wpAnyZ P md l.toArray Q S L (fuel + 1) listed a w := by
  refine ⟨fun h0 => absurd (hr ▸ h0) (by simp), fun j hj => ?_⟩
  rw [hr] at hj
  obtain rfl := List.mem_singleton.1 hj
  exact wpOp_step (drop_get ho) (fun K' hK => h K' (fun a w hS hW => hK a w ⟨hS, hW⟩))

theorem unlistedZ {l : Array Bool} {L : Nat} {p : Prop} (h : l.getD L true = true) : l.getD L true = false → p := fun h2 => absurd (h.symm.trans h2) (by decide)
theorem wpAnyZ_done {listed : Array Bool} {a : Act} {w : World} (hr : Region.ready md ops listed = []) (h : Q .normal a w) :
    ∀ fuel, wpAnyZ P md ops Q S L fuel listed a w
  | 0 => ⟨hr, h⟩
  | _ + 1 => ⟨fun _ => h, by rw [hr]; simp⟩

theorem wp_region_last {id : Nat} {a : Act} {w : World} (S : World → Prop) (L : Nat) (hm : P.follows .mixedOrders = true) (hS : S w.drew)
    (h : S w.drew → wpAnyZ P .any ops Q S L ops.size (Array.replicate ops.size false) a w.drew) : (Code.region id ops true).wp P Q a w :=
  wp_region_any hm (wpAny_of_lastZ _ _ _ _ (h hS))
end
end Go
end
section
/- Regions of open order of which several operations may come up: append to an empty list of no room, and the choice said as a list. -/
namespace Go
section
variable {P : Program} {Q : Exit → Act → World → Prop} {md : Region.Mode} {S : World → Prop} {L : Nat}
theorem wpAnyZ_gen {ops : Array Oper} {fuel : Nat} {listed : Array Bool} {a : Act} {w : World} (h : ∀ G, wpAnyZ P md ops Q S L = G → G fuel listed a w) : wpAnyZ P md ops Q S L fuel listed a w := h _ rfl
theorem wpAnyZ_split {l : List Oper} (js : List Nat) {fuel : Nat} {listed : Array Bool} {a : Act} {w : World} (hr : Region.ready md l.toArray listed = js) (hne : js ≠ [])
    (h : ∀ j ∈ js, wpOp P l.toArray Q j (fun a' w' => ((listed.setIfInBounds j true).getD L true = false → S w') ∧ wpAnyZ P md l.toArray Q S L fuel (listed.setIfInBounds j true) a' w') a w) : wpAnyZ P md l.toArray Q S L (fuel + 1) listed a w :=
  ⟨fun h0 => absurd (hr.symm.trans h0) hne, fun i hi => h i (hr ▸ hi)⟩
theorem wpAnyZ_at {l : List Oper} (i : Nat) {o : Oper} {r : List Oper} {fuel : Nat} {listed : Array Bool} {a : Act} {w : World} (ho : l.drop i = o :: r)
    (h : ∀ K' : Act → World → Prop, Shut (∀ a w, ((listed.setIfInBounds i true).getD L true = false → S w) → wpAnyZ P md l.toArray Q S L fuel (listed.setIfInBounds i true) a w → K' a w) → if Region.wanted o (yielded l.toArray a.tmps) = true then Oper.wp P o a w K' Q else K' (a.put o.dst undef) w) :
    wpOp P l.toArray Q i (fun a' w' => ((listed.setIfInBounds i true).getD L true = false → S w') ∧ wpAnyZ P md l.toArray Q S L fuel (listed.setIfInBounds i true) a' w') a w :=
  wpOp_step (drop_get ho) (fun K' hK => h K' (fun a w hS hW => hK a w ⟨hS, hW⟩))
end
end Go
namespace Go.Proofs.Yticgblagimmlfaa
open Go.RowKit Go.Proofs.YticgblagimmlfaaW.PrintWords Go.Proofs.YticgblagimmlfaaW.PrintLast Go.Proofs.YticgblagimmlfaaW.PrintMore
set_option linter.unusedVariables false
set_option linter.unusedSimpArgs false

section
variable {ops : Array Oper} {o : Oper} {a : Act} {Q : Exit → Act → World → Prop} {Kc : Act → World → Prop}
/-- append([]int{}, a list that is not empty): nothing that was there is written. -/
theorem append_new_step {W : World} (hw : Region.wanted o (yielded ops a.tmps) = true) (s x : Operand) (ho : o.op = .call { callee := .builtin .append, args := #[s, x], argTypes := #[25, 25] })
    {b : Addr} {ys : List Int} {A : Option Addr} {c : Nat} (hs : a.eval s = .slice (some b) 0 0) (hx : a.eval x = .slice A ys.length c) (HR : Kd.C (Kd.int .i64) W A ys.length ys) (hp : 0 < ys.length) (hl : ys.length ≤ 1000000000000)
    (h : ∀ v1 w1, Own w1 W.heap.size v1 ys → Below W.heap.size W w1 → Kc (a.put o.dst v1) w1) :
    if Region.wanted o (yielded ops a.tmps) = true then Oper.wp Try.prog o a W Kc Q else Kc (a.put o.dst undef) W := by
  rw [if_pos hw]
  obtain ⟨ad, e, -⟩ := C_nat HR 0 hp
  subst e
  obtain ⟨i, hi, hz⟩ := Option.map_eq_some_iff.1 info3
  simp only [Prod.mk.injEq] at hz
  obtain ⟨hz0, hz1, hz2⟩ := hz
  have hlen : (encs (Value.int .i64) ys).length = ys.length := by simp [encs]
  obtain ⟨v', w', hrun, r1, r2⟩ := run_append_arg_grows (P := Try.prog) W 25 o.type 3 i (.int .i64 0) 1 8 Try.underlying25 hi hz0 hz1 hz2 rfl (by omega) b 0 0 [] rfl (fun j u hj => by simp at hj) ad ys.length c (encs (Value.int .i64) ys) (by rw [hlen, Nat.mul_one])
    (fun j u hj => by
      obtain ⟨hj1, hj2⟩ := List.getElem?_eq_some_iff.1 hj
      obtain ⟨ad2, e2, hc⟩ := C_nat HR j (by omega)
      cases e2
      rw [hc, ← hj2]
      simp [encs, List.getD_eq_getElem?_getD, List.getElem?_eq_getElem (show j < ys.length by omega)])
    (by omega) (by simp only [maxLen]; omega) (by omega)
  unfold Oper.wp
  simp [execOp, ho, resolve, invoke, builtin, hs, hx, hrun, Result.andThen]
  rw [Nat.zero_add, List.nil_append] at r1
  exact h v' w' ⟨Kd.R_of_own r1 (fun _ _ => trivial)⟩ (Below.grown (Below.refl _ _) r2 (Nat.le_refl _) (fun k hk => by cases hk))
end
/-- Lists made one behind the other lie apart. -/
theorem Dj.later {w w1 : World} {b1 : Nat} {v1 v2 : Value} {l1 l2 : List Int} (h1 : Own w b1 v1 l1) (h2 : Own w1 w.heap.size v2 l2) : Dj v1 v2 := fun k hk hk2 => by
  have := h1.lt_size k hk
  have := h2.base_le k hk2
  omega
end Go.Proofs.Yticgblagimmlfaa
end
section
/- The program: Field of a field. -/
namespace Go.Proofs.Yticgblagimmlfaa
open Go.RowKit Go.Proofs.YticgblagimmlfaaW.PrintWords Go.Proofs.YticgblagimmlfaaW.PrintLast Go.Proofs.YticgblagimmlfaaW.PrintMore
set_option linter.unusedVariables false
set_option linter.unusedSimpArgs false

set_option maxHeartbeats 8000000 in
set_option maxRecDepth 100000 in
theorem field_any {g : Nat} {w : World} (D : GFD) (h : GFat w g D) (hm : D.Mod.length ≤ 1000) :
    Calls Try.prog 117 #[.pointer (some ⟨g, 0, none⟩)] w fun e w' => ∃ v, e = .returned (.agg #[.int .i64 D.P, .int .i64 D.M, v]) ∧ Own w' w.heap.size v D.Mod ∧ Below w.heap.size w w' := by
  obtain ⟨w1, hw1⟩ : ∃ w1, w.alloc (.cells #[.int .i64 0, .int .i64 0, .slice none 0 0] 27) = w1 := ⟨_, rfl⟩
  have hB1 : Below w.heap.size w w1 := by rw [← hw1]; exact below_alloc (Below.refl _ _) _
  have hz1 : w1.heap.size = w.heap.size + 1 := by rw [← hw1]; simp
  have hz : w1.heap[w.heap.size]? = some (.cells #[.int .i64 0, .int .i64 0, .slice none 0 0] 27 (0, 0)) := by rw [← hw1]; exact blk_new _ _
  obtain ⟨A2, c2, A4, c4, A5, c5, h0, h2, hc2, -, -⟩ := (h.below hB1).out
  have x0 := blk_cell h0 0
  have x1 := blk_cell h0 1
  have x2 := blk_cell h0 2
  simp at x0 x1 x2
  have HW1 := Aside0.mk hw1
  have HB1 := Aside0.mk hB1
  have HZ := Aside0.mk hz
  have HZs := Aside0.mk hz1
  have HM := Aside0.mk h2
  have HMl := Aside0.mk hm
  clear h hB1 hw1 hz1 hz h0 h2 hm
  go_enter Try.func117, Try.ntmps117
  go_upto_region 1 with (fail)
  rw [HW1.out]
  refine wp_region_last (S := fun w' => w'.cell? ⟨g, 0, none⟩ = some (.int .i64 D.P) ∧ w'.cell? ⟨g, 1, none⟩ = some (.int .i64 D.M) ∧ w'.cell? ⟨g, 2, none⟩ = some (.slice A2 D.Mod.length c2)) (L := 18) (by kernel_rfl) ⟨x0, x1, x2⟩ (fun hHeld => ?_)
  refine wpAnyZ_pure 0 (v := ?_) rfl (by kernel_rfl) (by kernel_rfl) (by kernel_rfl) (by decide) (fun _ _ _ h => h) (by rfl) ?_ (fun _ => by assumption) ?_
  rotate_left
  focus (intro wq; go_simp; try (with_reducible rfl))
  try simp only [Act.put, List.setIfInBounds_toArray, List.set_cons_zero, List.set_cons_succ]
  refine wpAnyZ_pure 1 (v := ?_) rfl (by kernel_rfl) (by kernel_rfl) (by kernel_rfl) (by decide) (fun _ _ _ h => h) (by rfl) ?_ (fun _ => by assumption) ?_
  rotate_left
  focus (intro wq; go_simp; try (with_reducible rfl))
  try simp only [Act.put, List.setIfInBounds_toArray, List.set_cons_zero, List.set_cons_succ]
  refine wpAnyZ_pure 2 (v := ?_) rfl (by kernel_rfl) (by kernel_rfl) (by kernel_rfl) (by decide) (fun _ _ _ h => h) (by rfl) ?_ (fun _ => by assumption) ?_
  rotate_left
  focus (intro wq; go_simp; try (with_reducible rfl))
  try simp only [Act.put, List.setIfInBounds_toArray, List.set_cons_zero, List.set_cons_succ]
  refine wpAnyZ_pure 3 (v := ?_) rfl (by kernel_rfl) (by kernel_rfl) (by kernel_rfl) (by decide) (fun _ _ _ h => h) (by rfl) ?_ (fun _ => by assumption) ?_
  rotate_left
  focus (intro wq; go_simp; try (with_reducible rfl))
  try simp only [Act.put, List.setIfInBounds_toArray, List.set_cons_zero, List.set_cons_succ]
  refine wpAnyZ_load 4 (v := ?_) rfl (by kernel_rfl) (by kernel_rfl) (by kernel_rfl) (by kernel_rfl) (by kernel_rfl) (fun _ _ _ h => h) (by rfl) ?_ (by assumption) ?_
  rotate_left
  focus (intro wq hq; (try dsimp only at hq); go_split_ands; go_simp; try (with_reducible rfl))
  try simp only [Act.put, List.setIfInBounds_toArray, List.set_cons_zero, List.set_cons_succ]
  refine wpAnyZ_pure 5 (v := ?_) rfl (by kernel_rfl) (by kernel_rfl) (by kernel_rfl) (by decide) (fun _ _ _ h => h) (by rfl) ?_ (fun _ => by assumption) ?_
  rotate_left
  focus (intro wq; go_simp; try (with_reducible rfl))
  try simp only [Act.put, List.setIfInBounds_toArray, List.set_cons_zero, List.set_cons_succ]
  refine wpAnyZ_pure 6 (v := ?_) rfl (by kernel_rfl) (by kernel_rfl) (by kernel_rfl) (by decide) (fun _ _ _ h => h) (by rfl) ?_ (fun _ => by assumption) ?_
  rotate_left
  focus (intro wq; go_simp; try (with_reducible rfl))
  try simp only [Act.put, List.setIfInBounds_toArray, List.set_cons_zero, List.set_cons_succ]
  refine wpAnyZ_pure 7 (v := ?_) rfl (by kernel_rfl) (by kernel_rfl) (by kernel_rfl) (by decide) (fun _ _ _ h => h) (by rfl) ?_ (fun _ => by assumption) ?_
  rotate_left
  focus (intro wq; go_simp; try (with_reducible rfl))
  try simp only [Act.put, List.setIfInBounds_toArray, List.set_cons_zero, List.set_cons_succ]
  refine wpAnyZ_pure 8 (v := ?_) rfl (by kernel_rfl) (by kernel_rfl) (by kernel_rfl) (by decide) (fun _ _ _ h => h) (by rfl) ?_ (fun _ => by assumption) ?_
  rotate_left
  focus (intro wq; go_simp; try (with_reducible rfl))
  try simp only [Act.put, List.setIfInBounds_toArray, List.set_cons_zero, List.set_cons_succ]
  refine wpAnyZ_load 9 (v := ?_) rfl (by kernel_rfl) (by kernel_rfl) (by kernel_rfl) (by kernel_rfl) (by kernel_rfl) (fun _ _ _ h => h) (by rfl) ?_ (by assumption) ?_
  rotate_left
  focus (intro wq hq; (try dsimp only at hq); go_split_ands; go_simp; try (with_reducible rfl))
  try simp only [Act.put, List.setIfInBounds_toArray, List.set_cons_zero, List.set_cons_succ]
  refine wpAnyZ_pure 11 (v := ?_) rfl (by kernel_rfl) (by kernel_rfl) (by kernel_rfl) (by decide) (fun _ _ _ h => h) (by rfl) ?_ (fun _ => by assumption) ?_
  rotate_left
  focus (intro wq; go_simp; try (with_reducible rfl))
  try simp only [Act.put, List.setIfInBounds_toArray, List.set_cons_zero, List.set_cons_succ]
  refine wpAnyZ_pure 12 (v := ?_) rfl (by kernel_rfl) (by kernel_rfl) (by kernel_rfl) (by decide) (fun _ _ _ h => h) (by rfl) ?_ (fun _ => by assumption) ?_
  rotate_left
  focus (intro wq; go_simp; try (with_reducible rfl))
  try simp only [Act.put, List.setIfInBounds_toArray, List.set_cons_zero, List.set_cons_succ]
  refine wpAnyZ_pure 13 (v := ?_) rfl (by kernel_rfl) (by kernel_rfl) (by kernel_rfl) (by decide) (fun _ _ _ h => h) (by rfl) ?_ (fun _ => by assumption) ?_
  rotate_left
  focus (intro wq; go_simp; try (with_reducible rfl))
  try simp only [Act.put, List.setIfInBounds_toArray, List.set_cons_zero, List.set_cons_succ]
  refine wpAnyZ_pure 14 (v := ?_) rfl (by kernel_rfl) (by kernel_rfl) (by kernel_rfl) (by decide) (fun _ _ _ h => h) (by rfl) ?_ (fun _ => by assumption) ?_
  rotate_left
  focus (intro wq; go_simp; try (with_reducible rfl))
  try simp only [Act.put, List.setIfInBounds_toArray, List.set_cons_zero, List.set_cons_succ]
  refine wpAnyZ_load 15 (v := ?_) rfl (by kernel_rfl) (by kernel_rfl) (by kernel_rfl) (by kernel_rfl) (by kernel_rfl) (fun _ _ _ h => h) (by rfl) ?_ (by assumption) ?_
  rotate_left
  focus (intro wq hq; (try dsimp only at hq); go_split_ands; go_simp; try (with_reducible rfl))
  try simp only [Act.put, List.setIfInBounds_toArray, List.set_cons_zero, List.set_cons_succ]
  refine wpAnyZ_one 10 rfl (by kernel_rfl) (fun K' hK => ?_)
  go_simp
  have HBt : Aside0 (Below w1.heap.size w1 (w1.drew.alloc (.cells #[] 3))) := ⟨below_alloc (below_drew1 (Below.refl _ _)) _⟩
  refine hK.out _ _ (fun _ => ⟨pw_cell_below HBt.out x0, pw_cell_below HBt.out x1, pw_cell_below HBt.out x2⟩) ?_
  clear hK K'
  try simp only [Act.put, List.setIfInBounds_toArray, List.set_cons_zero, List.set_cons_succ]
  have HOt : Aside0 (Own (w1.drew.alloc (.cells #[] 3)) w1.heap.size (.slice (some ⟨w1.heap.size, 0, none⟩) 0 0) []) := ⟨own_lit0_at w1.drew w1.heap.size rfl⟩
  refine wpAnyZ_one 16 rfl (by kernel_rfl) (fun K' hK => ?_)
  refine append_list_step (w0 := w1) (base := w1.heap.size) (xs := []) (ys := D.Mod) (by rfl) (.tmp 13) (.tmp 18) rfl rfl rfl HOt.out HBt.out.size (Kd.C_below HM.out HBt.out) HBt.out (by have := HMl.out; simp; omega) ?_
  intro v2 w2 hO hB _ _
  rw [List.nil_append] at hO
  obtain ⟨AM, cM, rfl, -, -⟩ := hO.slice
  have HO2 := Aside0.mk hO
  have HB2 := Aside0.mk hB
  refine hK.out _ _ (fun _ => ⟨pw_cell_below HB2.out x0, pw_cell_below HB2.out x1, pw_cell_below HB2.out x2⟩) ?_
  clear hK K' hO hB HOt HBt
  try simp only [Act.put, List.setIfInBounds_toArray, List.set_cons_zero, List.set_cons_succ]
  have HZ2 := Aside0.mk (blk_below HZ.out HB2.out)
  have z0 := blk_cell HZ2.out 0
  have z1 := blk_cell HZ2.out 1
  have z2 := blk_cell HZ2.out 2
  have f0 := blk_frozen HZ2.out 0
  have f1 := blk_frozen HZ2.out 1
  have f2 := blk_frozen HZ2.out 2
  simp at z0 z1 z2
  have x02 := pw_cell_below HB2.out x0
  have x12 := pw_cell_below HB2.out x1
  have x22 := pw_cell_below HB2.out x2
  refine wpAnyZ_one 17 rfl (by kernel_rfl) (fun K' hK => ?_)
  go_simp
  refine hK.out _ _ (fun _ => ⟨x02, x12, x22⟩) ?_
  clear hK K'
  try simp only [Act.put, List.setIfInBounds_toArray, List.set_cons_zero, List.set_cons_succ]
  refine wpAnyZ_one 18 rfl (by kernel_rfl) (fun K' hK => ?_)
  go_simp
  refine hK.out _ _ (unlistedZ (by kernel_rfl)) ?_
  clear hK K'
  try simp only [Act.put, List.setIfInBounds_toArray, List.set_cons_zero, List.set_cons_succ]
  refine wpAnyZ_done (by kernel_rfl) ?_ _
  go_wp2_with (fail)
  have hb := blk_set (blk_set (blk_set HZ2.out 0 (.int .i64 D.P)) 1 (.int .i64 D.M)) 2 (.slice AM D.Mod.length cM)
  refine bodyPost_ret (results_cell_row rfl _ _ _ _ _ _ _ rfl hb Try.underlying27 rfl (by kernel_rfl)) rfl ?_
  have hlt : w.heap.size < w1.heap.size := blk_lt HZ.out
  have hO6 := ((HO2.out.far (p := ⟨w.heap.size, 0, none⟩) hlt (.int .i64 D.P)).far (p := ⟨w.heap.size, 1, none⟩) hlt (.int .i64 D.M)).far (p := ⟨w.heap.size, 2, none⟩) hlt (.slice AM D.Mod.length cM)
  have hle : w.heap.size ≤ w.heap.size := Nat.le_refl _
  have hBe := (((below_later HB1.out HB1.out.size HB2.out).setCell (p := ⟨w.heap.size, 0, none⟩) hle (.int .i64 D.P)).setCell (p := ⟨w.heap.size, 1, none⟩) hle (.int .i64 D.M)).setCell (p := ⟨w.heap.size, 2, none⟩) hle (.slice AM D.Mod.length cM)
  exact ⟨_, rfl, hO6.lower HB1.out.size, hBe⟩
end Go.Proofs.Yticgblagimmlfaa
end
