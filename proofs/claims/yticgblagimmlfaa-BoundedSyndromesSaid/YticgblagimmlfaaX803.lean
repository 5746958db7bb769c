/- What the program's functions compute, as functions of numbers and lists; plain Lean, nothing of Go. Plain specifications of bounded. The tables of a found generator: logarithm and power undo each other; Euclid's algorithm ends. Plain Lean. Euclid's algorithm ends. Plain Lean. What the reference's functions compute, as functions of numbers and lists; plain Lean. -/
namespace Go.Proofs.Yticgblagimmlfaa
set_option linter.unusedVariables false
set_option linter.unusedSimpArgs false

/-- What a field in memory holds. -/
structure GFD where
  P : Int
  M : Int
  Mod : List Int
  q : Int
  exp : List Int
  log : List Int

def trimZ : List Int → List Int
  | [] => []
  | a :: l => match trimZ l with
    | [] => if a = 0 then [] else [a]
    | b :: t => a :: b :: t

theorem trimZ_snoc_zero (l : List Int) : trimZ (l ++ [0]) = trimZ l := by
  induction l with
  | nil => rfl
  | cons a l ih => simp only [List.cons_append, trimZ, ih]
theorem trimZ_snoc (l : List Int) (c : Int) (h : c ≠ 0) : trimZ (l ++ [c]) = l ++ [c] := by
  induction l with
  | nil => simp [trimZ, h]
  | cons a l ih =>
    simp only [List.cons_append, trimZ, ih]
    cases l <;> rfl
theorem trimZ_length_le (l : List Int) : (trimZ l).length ≤ l.length := by
  induction l with
  | nil => simp [trimZ]
  | cons a l ih =>
    simp only [trimZ]
    split
    · split <;> simp
    · rename_i h; rw [h] at ih; simpa using ih
theorem trimZ_eq_take (l : List Int) : trimZ l = l.take (trimZ l).length := by
  induction l with
  | nil => rfl
  | cons a l ih =>
    simp only [trimZ]
    split
    · split <;> simp
    · rename_i b t h
      rw [h] at ih
      simp only [List.length_cons, List.take_succ_cons] at ih ⊢
      rw [← ih]
theorem take_succ_rd (l : List Int) (n : Nat) (h : n < l.length) : l.take (n + 1) = l.take n ++ [l.getD n 0] := by
  rw [List.take_succ_eq_append_getElem h]
  simp [List.getD_eq_getElem?_getD, h]
theorem trimZ_take_zero (l : List Int) (n : Nat) (h : n < l.length) (h0 : l.getD n 0 = 0) : trimZ (l.take (n + 1)) = trimZ (l.take n) := by
  rw [take_succ_rd l n h, h0, trimZ_snoc_zero]
theorem trimZ_take_ne (l : List Int) (n : Nat) (h : n < l.length) (h0 : l.getD n 0 ≠ 0) : trimZ (l.take (n + 1)) = l.take (n + 1) := by
  rw [take_succ_rd l n h, trimZ_snoc _ _ h0]

/-! ### the field's arithmetic -/
def rdz (l : List Int) (i : Int) : Int := l.getD i.toNat 0

def addD (P : Int) : Nat → Int → Int → Int
  | 0, _, _ => 0
  | n + 1, x, y => (x % P + y % P) % P + P * addD P n (x / P) (y / P)
def negD (P : Int) : Nat → Int → Int
  | 0, _ => 0
  | n + 1, x => (P - x % P) % P + P * negD P n (x / P)

namespace GFD
def is (D : GFD) (x : Int) : Bool := decide (0 ≤ x ∧ x < D.q)
def inn (D : GFD) (x : Int) : Int := if 0 ≤ x ∧ x < D.q then x else 0
def add (D : GFD) (x y : Int) : Int := addD D.P 8 (D.inn x) (D.inn y)
def neg (D : GFD) (x : Int) : Int := negD D.P 8 (D.inn x)
def sub (D : GFD) (x y : Int) : Int := D.add x (D.neg y)
def mul (D : GFD) (x y : Int) : Int :=
  if D.inn x = 0 ∨ D.inn y = 0 then 0 else rdz D.exp ((rdz D.log (D.inn x) + rdz D.log (D.inn y)) % (D.q - 1))
def inv (D : GFD) (x : Int) : Int := if D.inn x = 0 then 0 else rdz D.exp ((D.q - 1 - rdz D.log (D.inn x)) % (D.q - 1))
def div (D : GFD) (x y : Int) : Int := if D.inn y = 0 then 0 else D.mul x (D.inv y)
/-- Together with an error. -/
def invE (D : GFD) (x : Int) : Int := if D.inn x = 0 then 7 else 0

/-- The tables fit: no more is asked for the arithmetic to run. -/
structure ok (D : GFD) : Prop where
  q2 : 2 ≤ D.q
  q256 : D.q ≤ 256
  p2 : 2 ≤ D.P
  p256 : D.P ≤ 256
  explen : D.exp.length = (D.q - 1).toNat
  loglen : D.log.length = D.q.toNat
  log0 : ∀ i, 0 ≤ rdz D.log i ∧ rdz D.log i < D.q - 1
  exp0 : ∀ i, 0 ≤ rdz D.exp i ∧ rdz D.exp i < D.q

theorem inn_lt (D : GFD) (h : D.ok) (x : Int) : 0 ≤ D.inn x ∧ D.inn x < D.q := by
  have := h.q2
  unfold inn
  split <;> omega
end GFD

structure AddInv (P tot : Int) (n : Nat) (a b s p : Int) : Prop where
  a0 : 0 ≤ a
  b0 : 0 ≤ b
  p1 : 1 ≤ p
  pa : p * a ≤ 255
  pb : p * b ≤ 255
  s0 : 0 ≤ s
  sp : s < p
  ad : a < 2 ^ n
  bd : b < 2 ^ n
  eq : s + p * addD P n a b = tot

theorem addD_zero (P : Int) (n : Nat) : addD P n 0 0 = 0 := by
  induction n with
  | zero => rfl
  | succ n ih => simp [addD, ih]
theorem negD_zero (P : Int) (n : Nat) : negD P n 0 = 0 := by
  induction n with
  | zero => rfl
  | succ n ih => simp [negD, ih]

theorem AddInv.done {P tot : Int} {n : Nat} {a b s p : Int} (h : AddInv P tot n a b s p) (ha : ¬ 0 < a) (hb : ¬ 0 < b) : s = tot := by
  have h1 := h.a0
  have h2 := h.b0
  obtain rfl : a = 0 := by omega
  obtain rfl : b = 0 := by omega
  have h3 := h.eq
  rw [addD_zero] at h3
  omega

theorem half_lt (P a : Int) (n : Nat) (hP : 2 ≤ P) (h0 : 0 ≤ a) (h : a < 2 ^ (n + 1)) : a / P < 2 ^ n := by
  have h1 : a / P ≤ a / 2 := by
    rw [Int.le_ediv_iff_mul_le (by omega)]
    have := Int.ediv_nonneg h0 (by omega : (0 : Int) ≤ P)
    calc a / P * 2 ≤ a / P * P := Int.mul_le_mul_of_nonneg_left hP this
      _ ≤ a := Int.ediv_mul_le _ (by omega)
  have h2 : a / 2 < 2 ^ n := by
    rw [Int.ediv_lt_iff_lt_mul (by omega)]
    rwa [Int.pow_succ] at h
  omega

theorem AddInv.small {P tot : Int} {n : Nat} {a b s p : Int} (h : AddInv P tot n a b s p) (hg : 0 < a ∨ 0 < b) : p ≤ 255 := by
  have hp := h.p1
  rcases hg with hg | hg
  · have : p * 1 ≤ p * a := Int.mul_le_mul_of_nonneg_left (by omega) (by omega)
    have := h.pa
    omega
  · have : p * 1 ≤ p * b := Int.mul_le_mul_of_nonneg_left (by omega) (by omega)
    have := h.pb
    omega

theorem le_of_scaled (a p : Int) (hp : 1 ≤ p) (h0 : 0 ≤ a) (h : p * a ≤ 255) : a ≤ 255 := by
  have : 1 * a ≤ p * a := Int.mul_le_mul_of_nonneg_right hp h0
  omega
theorem AddInv.a255 {P tot : Int} {n : Nat} {a b s p : Int} (h : AddInv P tot n a b s p) : a ≤ 255 := le_of_scaled a p h.p1 h.a0 h.pa
theorem AddInv.b255 {P tot : Int} {n : Nat} {a b s p : Int} (h : AddInv P tot n a b s p) : b ≤ 255 := le_of_scaled b p h.p1 h.b0 h.pb

theorem div_scaled (P a p : Int) (hP : 2 ≤ P) (hp : 1 ≤ p) (h : p * a ≤ 255) : p * P * (a / P) ≤ 255 := by
  have h1 : P * (a / P) ≤ a := Int.mul_ediv_self_le (by omega)
  have h2 : p * (P * (a / P)) ≤ p * a := Int.mul_le_mul_of_nonneg_left h1 (by omega)
  rw [Int.mul_assoc]
  omega

theorem AddInv.step {P tot : Int} {n : Nat} {a b s p : Int} (hP : 2 ≤ P) (h : AddInv P tot n a b s p) (hg : 0 < a ∨ 0 < b) :
    ∃ m, AddInv P tot m (a / P) (b / P) (s + (a % P + b % P) % P * p) (p * P) ∧ 0 ≤ a % P ∧ a % P < P ∧ 0 ≤ b % P ∧ b % P < P ∧ 0 ≤ (a % P + b % P) % P ∧ (a % P + b % P) % P < P ∧
      0 ≤ (a % P + b % P) % P * p ∧ (a % P + b % P) % P * p ≤ P * p - p ∧ s < p ∧ 0 ≤ s ∧ a / P + b / P < a + b ∧ 0 ≤ a / P ∧ 0 ≤ b / P ∧ 1 ≤ p * P := by
  cases n with
  | zero =>
    have h1 := h.ad
    have h2 := h.bd
    simp at h1 h2
    omega
  | succ n =>
    have hp := h.p1
    have ha := Int.emod_nonneg a (by omega : P ≠ 0)
    have ha' := Int.emod_lt_of_pos a (by omega : 0 < P)
    have hb := Int.emod_nonneg b (by omega : P ≠ 0)
    have hb' := Int.emod_lt_of_pos b (by omega : 0 < P)
    have hd := Int.emod_nonneg (a % P + b % P) (by omega : P ≠ 0)
    have hd' := Int.emod_lt_of_pos (a % P + b % P) (by omega : 0 < P)
    have hs0 := h.s0
    have hsp := h.sp
    have k1 : 0 ≤ (a % P + b % P) % P * p := Int.mul_nonneg hd (by omega)
    have k2 : (a % P + b % P) % P * p ≤ P * p - p := by
      have : (a % P + b % P) % P * p ≤ (P - 1) * p := Int.mul_le_mul_of_nonneg_right (by omega) (by omega)
      rw [Int.sub_mul] at this
      omega
    have k3 : p * P = P * p := Int.mul_comm _ _
    have k4 : 1 * 1 ≤ p * P := Int.mul_le_mul hp (by omega) (by omega) (by omega)
    have da : a / P ≤ a := Int.ediv_le_self _ h.a0
    have db : b / P ≤ b := Int.ediv_le_self _ h.b0
    have da0 := Int.ediv_nonneg h.a0 (by omega : 0 ≤ P)
    have db0 := Int.ediv_nonneg h.b0 (by omega : 0 ≤ P)
    have dl : a / P + b / P < a + b := by
      rcases hg with hg | hg
      · have : a / P < a := Int.ediv_lt_of_lt_mul (by omega) (by
          have : a * 1 < a * P := Int.mul_lt_mul_of_pos_left (by omega) hg
          omega)
        omega
      · have : b / P < b := Int.ediv_lt_of_lt_mul (by omega) (by
          have : b * 1 < b * P := Int.mul_lt_mul_of_pos_left (by omega) hg
          omega)
        omega
    refine ⟨n, ⟨da0, db0, by omega, div_scaled P a p hP hp h.pa, div_scaled P b p hP hp h.pb, by omega, by omega, half_lt P a n hP h.a0 h.ad, half_lt P b n hP h.b0 h.bd, ?_⟩, ha, ha', hb, hb', hd, hd', k1, k2, hsp, hs0, dl, da0, db0, by omega⟩
    have he := h.eq
    simp only [addD, Int.mul_add] at he
    rw [Int.mul_assoc p P, Int.mul_comm _ p, Int.add_assoc]
    exact he

structure NegInv (P tot : Int) (n : Nat) (a s p : Int) : Prop where
  a0 : 0 ≤ a
  p1 : 1 ≤ p
  pa : p * a ≤ 255
  s0 : 0 ≤ s
  sp : s < p
  ad : a < 2 ^ n
  eq : s + p * negD P n a = tot

theorem NegInv.a255 {P tot : Int} {n : Nat} {a s p : Int} (h : NegInv P tot n a s p) : a ≤ 255 := le_of_scaled a p h.p1 h.a0 h.pa
theorem NegInv.done {P tot : Int} {n : Nat} {a s p : Int} (h : NegInv P tot n a s p) (ha : ¬ 0 < a) : s = tot := by
  have h1 := h.a0
  obtain rfl : a = 0 := by omega
  have h3 := h.eq
  rw [negD_zero] at h3
  omega
theorem NegInv.small {P tot : Int} {n : Nat} {a s p : Int} (h : NegInv P tot n a s p) (hg : 0 < a) : p ≤ 255 := by
  have hp := h.p1
  have : p * 1 ≤ p * a := Int.mul_le_mul_of_nonneg_left (by omega) (by omega)
  have := h.pa
  omega

theorem NegInv.step {P tot : Int} {n : Nat} {a s p : Int} (hP : 2 ≤ P) (h : NegInv P tot n a s p) (hg : 0 < a) :
    ∃ m, NegInv P tot m (a / P) (s + (P - a % P) % P * p) (p * P) ∧ 0 ≤ a % P ∧ a % P < P ∧ 0 ≤ (P - a % P) % P ∧ (P - a % P) % P < P ∧
      0 ≤ (P - a % P) % P * p ∧ (P - a % P) % P * p ≤ P * p - p ∧ s < p ∧ 0 ≤ s ∧ a / P < a ∧ 0 ≤ a / P ∧ 1 ≤ p * P := by
  cases n with
  | zero =>
    have h1 := h.ad
    simp at h1
    omega
  | succ n =>
    have hp := h.p1
    have ha := Int.emod_nonneg a (by omega : P ≠ 0)
    have ha' := Int.emod_lt_of_pos a (by omega : 0 < P)
    have hd := Int.emod_nonneg (P - a % P) (by omega : P ≠ 0)
    have hd' := Int.emod_lt_of_pos (P - a % P) (by omega : 0 < P)
    have hs0 := h.s0
    have hsp := h.sp
    have k1 : 0 ≤ (P - a % P) % P * p := Int.mul_nonneg hd (by omega)
    have k2 : (P - a % P) % P * p ≤ P * p - p := by
      have : (P - a % P) % P * p ≤ (P - 1) * p := Int.mul_le_mul_of_nonneg_right (by omega) (by omega)
      rw [Int.sub_mul] at this
      omega
    have k3 : p * P = P * p := Int.mul_comm _ _
    have k4 : 1 * 1 ≤ p * P := Int.mul_le_mul hp (by omega) (by omega) (by omega)
    have da0 := Int.ediv_nonneg h.a0 (by omega : 0 ≤ P)
    have dl : a / P < a := Int.ediv_lt_of_lt_mul (by omega) (by
          have : a * 1 < a * P := Int.mul_lt_mul_of_pos_left (by omega) hg
          omega)
    refine ⟨n, ⟨da0, by omega, div_scaled P a p hP hp h.pa, by omega, by omega, half_lt P a n hP h.a0 h.ad, ?_⟩, ha, ha', hd, hd', k1, k2, hsp, hs0, dl, da0, by omega⟩
    have he := h.eq
    simp only [negD, Int.mul_add] at he
    rw [Int.mul_assoc p P, Int.mul_comm _ p, Int.add_assoc]
    exact he

theorem xor_addD (n : Nat) : ∀ a b : Nat, a < 2 ^ n → b < 2 ^ n → ((a ^^^ b : Nat) : Int) = addD 2 n a b := by
  induction n with
  | zero =>
    intro a b ha hb
    have ha : a = 0 := by omega
    have hb : b = 0 := by omega
    subst ha hb; rfl
  | succ n ih =>
    intro a b ha hb
    have h1 := ih (a / 2) (b / 2) (by omega) (by omega)
    have h2 : (a ^^^ b) / 2 = a / 2 ^^^ b / 2 := by
      have := @Nat.xor_div_two_pow a b 1
      simpa using this
    have h3 : (a ^^^ b) % 2 = (a % 2 + b % 2) % 2 := by
      have := @Nat.xor_mod_two_pow a b 1
      simp only [Nat.pow_one] at this
      rw [this]
      rcases Nat.mod_two_eq_zero_or_one a with ea | ea <;> rcases Nat.mod_two_eq_zero_or_one b with eb | eb <;> simp [ea, eb]
    simp only [addD]
    have e1 : ((a : Int) / 2) = ((a / 2 : Nat) : Int) := by omega
    have e2 : ((b : Int) / 2) = ((b / 2 : Nat) : Int) := by omega
    rw [e1, e2, ← h1, ← h2]
    omega

/-! ### 'for i, c := range q { out[i] = F(out[i], c) }' -/
def updZ {α : Type} (F : α → Int → α) : List α → List Int → List α
  | [], _ => []
  | out, [] => out
  | o :: out, c :: q => F o c :: updZ F out q

theorem updZ_nil {α : Type} (F : α → Int → α) (out : List α) : updZ F out [] = out := by cases out <;> rfl
theorem updZ_length {α : Type} (F : α → Int → α) : ∀ (out : List α) (q : List Int), (updZ F out q).length = out.length
  | [], q => by simp [updZ]
  | o :: out, [] => by simp [updZ]
  | o :: out, c :: q => by simp [updZ, updZ_length F out q]
theorem updZ_get {α : Type} (F : α → Int → α) (z : α) : ∀ (k : Nat) (out : List α) (q : List Int), (updZ F out (q.take k)).getD k z = out.getD k z
  | 0, out, q => by simp [updZ_nil]
  | k + 1, [], q => by simp [updZ]
  | k + 1, o :: out, [] => by simp [updZ_nil]
  | k + 1, o :: out, c :: q => by
    simp only [List.take_succ_cons, updZ, List.getD_cons_succ]
    exact updZ_get F z k out q
theorem updZ_set {α : Type} (F : α → Int → α) (z : α) : ∀ (k : Nat) (out : List α) (q : List Int), k < q.length → k < out.length →
    (updZ F out (q.take k)).set k (F (out.getD k z) (q.getD k 0)) = updZ F out (q.take (k + 1))
  | 0, o :: out, c :: q, _, _ => by simp [updZ, updZ_nil]
  | k + 1, o :: out, c :: q, h1, h2 => by
    simp only [List.take_succ_cons, updZ, List.getD_cons_succ, List.set_cons_succ]
    rw [updZ_set F z k out q (by simpa using h1) (by simpa using h2)]
  | _, [], _, _, h => by simp at h
  | _, _ :: _, [], h, _ => by simp at h

/-- The same from index i on. -/
def updAt {α : Type} (F : α → Int → α) (i : Nat) (out : List α) (q : List Int) : List α := out.take i ++ updZ F (out.drop i) q
theorem updAt_nil {α : Type} (F : α → Int → α) (i : Nat) (out : List α) : updAt F i out [] = out := by simp [updAt, updZ_nil]
theorem updAt_length {α : Type} (F : α → Int → α) (i : Nat) (out : List α) (q : List Int) : (updAt F i out q).length = out.length := by
  simp only [updAt, List.length_append, List.length_take, updZ_length, List.length_drop]; omega
theorem updAt_get {α : Type} (F : α → Int → α) (z : α) (i k : Nat) (out : List α) (q : List Int) (h : i + k < out.length) : (updAt F i out (q.take k)).getD (i + k) z = out.getD (i + k) z := by
  have hl : (out.take i).length = i := by rw [List.length_take]; omega
  unfold updAt
  rw [List.getD_eq_getElem?_getD, List.getElem?_append_right (by omega), hl, show i + k - i = k from by omega, ← List.getD_eq_getElem?_getD, updZ_get]
  simp [List.getD_eq_getElem?_getD]
theorem updAt_set {α : Type} (F : α → Int → α) (z : α) (i k : Nat) (out : List α) (q : List Int) (h1 : k < q.length) (h2 : i + k < out.length) :
    (updAt F i out (q.take k)).set (i + k) (F (out.getD (i + k) z) (q.getD k 0)) = updAt F i out (q.take (k + 1)) := by
  have hl : (out.take i).length = i := by rw [List.length_take]; omega
  unfold updAt
  rw [List.set_append_right _ _ (by omega), hl, show i + k - i = k from by omega]
  have := updZ_set F z k (out.drop i) q h1 (by rw [List.length_drop]; omega)
  rw [← this]
  simp [List.getD_eq_getElem?_getD]

/-! ### polynomials -/
namespace GFD
def canon (D : GFD) (l : List Int) : List Int := trimZ (updZ (fun o c => if D.is c = true then c else o) (List.replicate l.length 0) l)
def combine (D : GFD) (p : List Int) (a : Int) (q : List Int) : List Int :=
  trimZ (updZ (fun o c => D.add o (D.mul a c)) (updZ (fun _ c => D.add c 0) (List.replicate (max p.length q.length) 0) p) q)
def addP (D : GFD) (p q : List Int) : List Int := D.combine p 1 q
def subP (D : GFD) (p q : List Int) : List Int := D.combine p (D.neg 1) q
def prodRow (D : GFD) (a : Int) (i : Nat) (out q : List Int) : List Int := updAt (fun o b => D.add o (D.mul a b)) i out q
def prodAux (D : GFD) (q : List Int) : List Int → Nat → List Int → List Int
  | [], _, out => out
  | a :: p, i, out => prodAux D q p (i + 1) (D.prodRow a i out q)
/-- Of canonical factors. -/
def prodC (D : GFD) (p q : List Int) : List Int := if p = [] ∨ q = [] then [] else prodAux D q p 0 (List.replicate (p.length + q.length - 1) 0)
def product (D : GFD) (p q : List Int) : List Int := D.prodC (D.canon p) (D.canon q)
def eval (D : GFD) (p : List Int) (x : Int) : Int := p.foldr (fun c y => D.add (D.mul y x) c) 0
def scale (D : GFD) (a : Int) (l : List Int) : List Int := l.map (D.mul a)
def dot (D : GFD) (a b : List Int) : Int := (a.zip b).foldl (fun s t => D.add s (D.mul t.1 t.2)) 0
def divLoop (D : GFD) (q : List Int) (inv : Int) : Nat → List Int → List Int → List Int × List Int
  | 0, rem, quo => (quo, rem)
  | n + 1, rem, quo =>
    let a := D.mul (rem.getD (n + q.length - 1) 0) inv
    divLoop D q inv n (updAt (fun o c => D.sub o (D.mul a c)) n rem q) (quo.set n a)
/-- Of canonical p and q, q not zero. -/
def divC (D : GFD) (p q : List Int) : List Int × List Int :=
  let r := D.divLoop q (D.inv (q.getD (q.length - 1) 0)) (p.length + 1 - q.length) p (List.replicate (p.length + 1 - q.length) 0)
  (trimZ r.1, trimZ r.2)
def divMod (D : GFD) (p q : List Int) : List Int × List Int × Int :=
  if D.canon q = [] then ([], [], 7) else ((D.divC (D.canon p) (D.canon q)).1, (D.divC (D.canon p) (D.canon q)).2, 0)
def fromRoots (D : GFD) (l : List Int) : List Int := l.foldl (fun out r => D.product out [D.neg r, 1]) [1]
/-- Out and zero behind the points. -/
def interStep (D : GFD) (s : List Int × List Int) (xy : Int × Int) : List Int × List Int :=
  let a := D.div (D.sub xy.2 (D.eval s.1 xy.1)) (D.eval s.2 xy.1)
  (D.combine s.1 a s.2, D.product s.2 [D.neg xy.1, 1])
/-- No two are equal. -/
def dupFree : List Int → List Int → Bool
  | _, [] => true
  | seen, x :: l => if x ∈ seen then false else dupFree (x :: seen) l
def interpolate (D : GFD) (xs ys : List Int) : List Int × Int :=
  if xs.length = ys.length then
    if dupFree [] (xs.map fun x => D.add x 0) = true then (((xs.zip ys).foldl D.interStep ([], [1])).1, 0) else ([], 18)
  else ([], 3)
/-- Euclid's algorithm, k rounds at most. -/
def euclid (D : GFD) (bound : Int) : Nat → List Int → List Int → List Int → List Int → Option (List Int × List Int)
  | 0, _, _, _, _ => none
  | k + 1, a, b, old, t =>
    if 2 * (((D.canon b).length : Int) - 1) ≥ bound then
      euclid D bound k b (D.divMod a b).2.1 t (D.subP old (D.product (D.product [1] (D.divMod a b).1) t))
    else some (b, t)
end GFD

theorem addD_zero_right (P : Int) (hP : 2 ≤ P) (n : Nat) : ∀ x : Int, 0 ≤ x → x < 2 ^ n → addD P n x 0 = x := by
  induction n with
  | zero =>
    intro x h0 h1
    simp at h1
    have : x = 0 := by omega
    rw [this]; rfl
  | succ n ih =>
    intro x h0 h1
    have h2 := ih (x / P) (Int.ediv_nonneg h0 (by omega)) (half_lt P x n hP h0 h1)
    have h3 := Int.emod_nonneg x (by omega : P ≠ 0)
    have h4 := Int.emod_lt_of_pos x (by omega : 0 < P)
    have h5 := Int.emod_add_mul_ediv x P
    simp only [addD, Int.zero_emod, Int.zero_ediv, Int.add_zero, h2]
    rw [Int.emod_eq_of_lt h3 h4]
    exact h5
theorem GFD.add_zero_right (D : GFD) (h : D.ok) (x : Int) : D.add x 0 = D.inn x := by
  have h0 : D.inn 0 = 0 := by have := h.q2; unfold GFD.inn; rw [if_pos (by omega)]
  obtain ⟨h1, h2⟩ := D.inn_lt h x
  have := h.q256
  unfold GFD.add
  rw [h0]
  exact addD_zero_right D.P h.p2 8 _ h1 (by omega)

theorem zip_take_succ (xs ys : List Int) (k : Nat) (h1 : k < xs.length) (h2 : k < ys.length) :
    (xs.zip ys).take (k + 1) = (xs.zip ys).take k ++ [(xs.getD k 0, ys.getD k 0)] := by
  rw [List.take_succ_eq_append_getElem (by simp; omega)]
  simp [List.getD_eq_getElem?_getD, h1, h2]
/-- Out and zero behind k points. -/
def GFD.inter (D : GFD) (xs ys : List Int) (k : Nat) : List Int × List Int := ((xs.zip ys).take k).foldl D.interStep ([], [1])
theorem GFD.inter_succ (D : GFD) (xs ys : List Int) (k : Nat) (h1 : k < xs.length) (h2 : k < ys.length) :
    D.inter xs ys (k + 1) = D.interStep (D.inter xs ys k) (xs.getD k 0, ys.getD k 0) := by
  unfold GFD.inter
  rw [zip_take_succ xs ys k h1 h2, List.foldl_append]
  rfl
theorem prodAux_length (D : GFD) (q : List Int) : ∀ (p : List Int) (i : Nat) (out : List Int), (D.prodAux q p i out).length = out.length
  | [], _, _ => rfl
  | a :: p, i, out => by
    rw [GFD.prodAux, prodAux_length D q p]
    exact updAt_length _ _ _ _
theorem canon_length_le (D : GFD) (l : List Int) : (D.canon l).length ≤ l.length := by
  unfold GFD.canon
  refine Nat.le_trans (trimZ_length_le _) ?_
  rw [updZ_length]; simp
theorem product_length_le (D : GFD) (p q : List Int) : (D.product p q).length ≤ p.length + q.length - 1 := by
  unfold GFD.product GFD.prodC
  split
  · simp
  · rename_i h
    rw [prodAux_length, List.length_replicate]
    have h1 := canon_length_le D p
    have h2 := canon_length_le D q
    omega
theorem combine_length_le (D : GFD) (p : List Int) (a : Int) (q : List Int) : (D.combine p a q).length ≤ max p.length q.length := by
  unfold GFD.combine
  refine Nat.le_trans (trimZ_length_le _) ?_
  rw [updZ_length, updZ_length]; simp
theorem GFD.inter_length (D : GFD) (xs ys : List Int) (k : Nat) (h1 : k ≤ xs.length) (h2 : k ≤ ys.length) : (D.inter xs ys k).1.length ≤ k + 1 ∧ (D.inter xs ys k).2.length ≤ k + 1 := by
  induction k with
  | zero => simp [GFD.inter]
  | succ k ih =>
    obtain ⟨i1, i2⟩ := ih (by omega) (by omega)
    rw [D.inter_succ xs ys k (by omega) (by omega)]
    have c1 := combine_length_le D (D.inter xs ys k).1 (D.div (D.sub (ys.getD k 0) (D.eval (D.inter xs ys k).1 (xs.getD k 0))) (D.eval (D.inter xs ys k).2 (xs.getD k 0))) (D.inter xs ys k).2
    have c2 := product_length_le D (D.inter xs ys k).2 [D.neg (xs.getD k 0), 1]
    simp only [List.length_cons, List.length_nil] at c2
    simp only [GFD.interStep]
    omega

/-- How many of the first k points have another value. -/
def GFD.wrong (D : GFD) (m xs ys : List Int) (k : Nat) : Nat := ((xs.zip ys).take k).countP fun t => decide (D.eval m t.1 ≠ D.add t.2 0)
theorem GFD.wrong_succ (D : GFD) (m xs ys : List Int) (k : Nat) (h1 : k < xs.length) (h2 : k < ys.length) :
    D.wrong m xs ys (k + 1) = D.wrong m xs ys k + if D.eval m (xs.getD k 0) ≠ D.add (ys.getD k 0) 0 then 1 else 0 := by
  unfold GFD.wrong
  rw [zip_take_succ xs ys k h1 h2, List.countP_append]
  congr 1
  by_cases h : D.eval m (xs.getD k 0) ≠ D.add (ys.getD k 0) 0 <;> simp [h]
/-- The end of Gao's algorithm, out of Euclid's remainder and factor. -/
def GFD.gao (D : GFD) (xs ys : List Int) (k : Nat) (R : List Int × List Int) : List Int × Int :=
  if D.canon R.2 = [] then ([], 12)
  else if (D.divC (D.canon R.1) (D.canon R.2)).2 ≠ [] then ([], 12)
  else if (D.divC (D.canon R.1) (D.canon R.2)).1.length > k then ([], 12)
  else if D.wrong (D.divC (D.canon R.1) (D.canon R.2)).1 xs ys xs.length > (xs.length - k) / 2 then ([], 12)
  else ((D.divC (D.canon R.1) (D.canon R.2)).1, 0)
theorem fromRoots_length (D : GFD) (l : List Int) : (D.fromRoots l).length ≤ l.length + 1 := by
  unfold GFD.fromRoots
  suffices h : ∀ (l out : List Int), (l.foldl (fun out r => D.product out [D.neg r, 1]) out).length ≤ l.length + out.length by
    have := h l [1]; simpa using this
  intro l
  induction l with
  | nil => intro out; simp
  | cons r l ih =>
    intro out
    have h1 := ih (D.product out [D.neg r, 1])
    have h2 := product_length_le D out [D.neg r, 1]
    simp only [List.length_cons, List.length_nil] at h2
    simp only [List.foldl_cons, List.length_cons]
    omega

/-! ### descriptions of fields -/
def ordLoop (P : Int) : Nat → Int → Int
  | 0, q => q
  | n + 1, q => if q * P > 256 then 0 else ordLoop P n (q * P)
def orderZ (P M : Int) : Int := if P < 2 ∨ P > 256 ∨ M < 1 ∨ M > 8 then 0 else ordLoop P M.toNat 1
def primeLoop (n : Int) : Nat → Int → Bool
  | 0, _ => true
  | k + 1, d => if d * d ≤ n then (if n % d = 0 then false else primeLoop n k (d + 1)) else decide (2 ≤ n)
def primeZ (n : Int) : Bool := primeLoop n 20 2
def digs (P : Int) : Nat → Int → List Int
  | 0, _ => []
  | n + 1, x => x % P :: digs P n (x / P)
def val (P : Int) : List Int → Int
  | [] => 0
  | d :: l => d + P * val P l
theorem digs_length (P : Int) : ∀ (n : Nat) (x : Int), (digs P n x).length = n
  | 0, _ => rfl
  | n + 1, x => by simp [digs, digs_length P n]
theorem digs_mem (P : Int) (hP : 2 ≤ P) : ∀ (n : Nat) (x : Int), ∀ d ∈ digs P n x, 0 ≤ d ∧ d < P
  | 0, _, d, h => by simp [digs] at h
  | n + 1, x, d, h => by
    simp only [digs, List.mem_cons] at h
    rcases h with rfl | h
    · exact ⟨Int.emod_nonneg x (by omega), Int.emod_lt_of_pos x (by omega)⟩
    · exact digs_mem P hP n (x / P) d h
theorem val_bound (P : Int) (hP : 2 ≤ P) : ∀ (l : List Int), (∀ d ∈ l, 0 ≤ d ∧ d < P) → 0 ≤ val P l ∧ val P l < P ^ l.length
  | [], _ => by simp [val]
  | d :: l, h => by
    have h1 := h d (by simp)
    obtain ⟨h2, h3⟩ := val_bound P hP l (fun x hx => h x (by simp [hx]))
    simp only [val, List.length_cons]
    have h4 : P * val P l ≤ P * (P ^ l.length - 1) := Int.mul_le_mul_of_nonneg_left (by omega) (by omega)
    have h5 : 0 ≤ P * val P l := Int.mul_nonneg (by omega) h2
    rw [Int.mul_sub, Int.mul_one] at h4
    rw [Int.pow_succ, Int.mul_comm _ P]
    omega
theorem pow_le_pow (P : Int) (hP : 2 ≤ P) (a b : Nat) (h : a ≤ b) : P ^ a ≤ P ^ b := by
  obtain ⟨c, rfl⟩ := Nat.exists_eq_add_of_le h
  rw [Int.pow_add]
  have h1 : 0 < P ^ a := Int.pow_pos (by omega)
  have h2 : 0 < P ^ c := Int.pow_pos (by omega)
  have : P ^ a * 1 ≤ P ^ a * P ^ c := Int.mul_le_mul_of_nonneg_left (by omega) (by omega)
  omega
theorem val_drop_bound (P : Int) (hP : 2 ≤ P) (l : List Int) (h : ∀ d ∈ l, 0 ≤ d ∧ d < P) (h2 : P ^ l.length ≤ 256) (k : Nat) : 0 ≤ val P (l.drop k) ∧ val P (l.drop k) ≤ 256 := by
  obtain ⟨h3, h4⟩ := val_bound P hP (l.drop k) (fun d hd => h d (List.mem_of_mem_drop hd))
  have := pow_le_pow P hP (l.drop k).length l.length (by rw [List.length_drop]; omega)
  omega
theorem val_drop (P : Int) (l : List Int) (k : Nat) (h : k < l.length) : val P (l.drop k) = l.getD k 0 + P * val P (l.drop (k + 1)) := by
  rw [List.drop_eq_getElem_cons h, List.getD_eq_getElem?_getD, List.getElem?_eq_getElem h]
  rfl

theorem snoc_set_replicate (l : List Int) (m : Nat) (x : Int) : (l ++ List.replicate (m + 1) 0).set l.length x = (l ++ [x]) ++ List.replicate m 0 := by
  rw [List.set_append_right _ _ (Nat.le_refl _), Nat.sub_self, List.replicate_succ, List.set_cons_zero, List.append_assoc]
  rfl

/-- The lower coefficient number j of the modulus. -/
def lowZ (M : Nat) (Mod : List Int) (j : Nat) : Int := if 1 < M then Mod.getD j 0 else 0
def mterm (P : Int) (M : Nat) (Mod a : List Int) (top bi : Int) (j : Nat) : Int := (P - top) * lowZ M Mod j + bi * a.getD j 0
/-- out * X + bi * a. -/
def mrow (P : Int) (M : Nat) (Mod a : List Int) (bi : Int) (out : List Int) : List Int :=
  updZ (fun o t => (o + t) % P) (0 :: out.take (M - 1)) ((List.range M).map (mterm P M Mod a (out.getD (M - 1) 0) bi))
def mulZ (P : Int) (M : Nat) (Mod : List Int) (x y : Int) : Int :=
  val P ((digs P M y).foldr (mrow P M Mod (digs P M x)) (List.replicate M 0))
theorem mrow_length (P : Int) (M : Nat) (Mod a : List Int) (bi : Int) (out : List Int) (h : out.length = M) (hM : 1 ≤ M) : (mrow P M Mod a bi out).length = M := by
  unfold mrow
  rw [updZ_length, List.length_cons, List.length_take]
  omega
theorem updZ_mem (F : Int → Int → Int) (S : Int → Prop) (hF : ∀ o t, S (F o t)) : ∀ (out q : List Int), out.length ≤ q.length → ∀ d ∈ updZ F out q, S d
  | [], _, _, d, h => by simp [updZ] at h
  | o :: out, [], h, d, _ => by simp at h
  | o :: out, c :: q, h, d, hd => by
    simp only [updZ, List.mem_cons] at hd
    rcases hd with rfl | hd
    · exact hF _ _
    · exact updZ_mem F S hF out q (by simpa using h) d hd
theorem mrow_mem (P : Int) (hP : 2 ≤ P) (M : Nat) (Mod a : List Int) (bi : Int) (out : List Int) (h : out.length = M) (hM : 1 ≤ M) : ∀ d ∈ mrow P M Mod a bi out, 0 ≤ d ∧ d < P := by
  unfold mrow
  refine updZ_mem _ (fun d => 0 ≤ d ∧ d < P) (fun o t => ⟨Int.emod_nonneg _ (by omega), Int.emod_lt_of_pos _ (by omega)⟩) _ _ ?_
  simp only [List.length_cons, List.length_take, List.length_map, List.length_range]
  omega

theorem getD_range (P : Int) (hP : 2 ≤ P) (l : List Int) (h : ∀ d ∈ l, 0 ≤ d ∧ d < P) (j : Nat) : 0 ≤ l.getD j 0 ∧ l.getD j 0 < P := by
  rw [List.getD_eq_getElem?_getD]
  cases e : l[j]? with
  | none => simp; omega
  | some x => exact h x (List.mem_of_getElem? e)
theorem range_map_getD (f : Nat → Int) (M j : Nat) (h : j < M) : ((List.range M).map f).getD j 0 = f j := by
  simp [List.getD_eq_getElem?_getD, h]

/-- The powers, k rounds at most. -/
def powLoop (mul : Int → Int) : Nat → List Int → Int → Option (List Int)
  | 0, _, _ => none
  | k + 1, out, y => if y = 0 then some out else if y ∈ out then some out else powLoop mul k (out ++ [y]) (mul y)
def powersZ (P : Int) (M : Nat) (Mod : List Int) (q x : Int) : Option (List Int) := powLoop (fun y => mulZ P M Mod y x) (q.toNat + 1) [1] x
theorem val_digs_range (P : Int) (hP : 2 ≤ P) (M : Nat) (hM : 1 ≤ M) (Mod : List Int) (x y : Int) (hq : P ^ M ≤ 256) : 0 ≤ mulZ P M Mod x y ∧ mulZ P M Mod x y < P ^ M := by
  unfold mulZ
  have hl : ∀ l : List Int, (l.foldr (mrow P M Mod (digs P M x)) (List.replicate M 0)).length = M ∧ ∀ d ∈ l.foldr (mrow P M Mod (digs P M x)) (List.replicate M 0), 0 ≤ d ∧ d < P := by
    intro l
    induction l with
    | nil => exact ⟨List.length_replicate, fun d hd => by rw [List.eq_of_mem_replicate hd]; omega⟩
    | cons b l ih => exact ⟨mrow_length P M Mod _ b _ ih.1 hM, mrow_mem P hP M Mod _ b _ ih.1 hM⟩
  obtain ⟨h1, h2⟩ := hl (digs P M y)
  have := val_bound P hP _ h2
  rw [h1] at this
  exact this

theorem nodup_bound (q : Nat) : ∀ l : List Int, l.Nodup → (∀ x ∈ l, 0 ≤ x ∧ x < q) → l.length ≤ q := by
  induction q with
  | zero =>
    intro l _ h
    cases l with
    | nil => simp
    | cons a l => have := h a (by simp); omega
  | succ q ih =>
    intro l hn h
    by_cases hm : (q : Int) ∈ l
    · have h1 := ih (l.erase (q : Int)) (hn.erase _) (fun x hx => by
        have h2 := h x (List.mem_of_mem_erase hx)
        have h3 : x ≠ (q : Int) := fun e => by rw [e] at hx; exact hn.not_mem_erase hx
        omega)
      rw [List.length_erase_of_mem hm] at h1
      omega
    · have := ih l hn (fun x hx => by
        have h2 := h x hx
        have h3 : x ≠ (q : Int) := fun e => hm (e ▸ hx)
        omega)
      omega
theorem powLoop_some (mul : Int → Int) (q : Nat) (hm : ∀ y : Int, 0 ≤ y → y < q → 0 ≤ mul y ∧ mul y < q) : ∀ (k : Nat) (out : List Int) (y : Int), out.Nodup → (∀ x ∈ out, 0 ≤ x ∧ x < q) → 0 ≤ y → y < q → q < out.length + k →
    ∃ R, powLoop mul k out y = some R
  | 0, out, y, hn, ho, _, _, hk => by have := nodup_bound q out hn ho; omega
  | k + 1, out, y, hn, ho, h0, h1, hk => by
    simp only [powLoop]
    by_cases hy : y = 0
    · exact ⟨out, by rw [if_pos hy]⟩
    · rw [if_neg hy]
      by_cases hi : y ∈ out
      · exact ⟨out, by rw [if_pos hi]⟩
      · rw [if_neg hi]
        obtain ⟨m1, m2⟩ := hm y h0 h1
        refine powLoop_some mul q hm k (out ++ [y]) (mul y) ?_ ?_ m1 m2 (by rw [List.length_append]; simp only [List.length_cons, List.length_nil]; omega)
        · rw [List.nodup_append]
          refine ⟨hn, by simp, ?_⟩
          intro a ha b hb
          simp only [List.mem_singleton] at hb
          rintro rfl
          exact hi (hb ▸ ha)
        · intro x hx
          rcases List.mem_append.1 hx with hx | hx
          · exact ho x hx
          · simp only [List.mem_singleton] at hx
            omega
def powersT (P : Int) (M : Nat) (Mod : List Int) (q x : Int) : List Int := (powersZ P M Mod q x).getD []
theorem powersT_eq (P : Int) (hP : 2 ≤ P) (M : Nat) (hM : 1 ≤ M) (Mod : List Int) (hq : P ^ M ≤ 256) (x : Int) (hx0 : 0 ≤ x) (hx1 : x < P ^ M) :
    powLoop (fun y => mulZ P M Mod y x) ((P ^ M).toNat + 1) [1] x = some (powersT P M Mod (P ^ M) x) := by
  have h1 : 1 < P ^ M := by
    have := pow_le_pow P hP 1 M hM
    rw [Int.pow_one] at this
    omega
  obtain ⟨R, hR⟩ := powLoop_some (fun y => mulZ P M Mod y x) (P ^ M).toNat (fun y _ _ => by
    have := val_digs_range P hP M hM Mod y x hq
    show 0 ≤ mulZ P M Mod y x ∧ mulZ P M Mod y x < _
    omega) ((P ^ M).toNat + 1) [1] x (by simp) (by simp; omega) hx0 (by omega) (by simp; omega)
  unfold powersT powersZ
  rw [hR]
  rfl
/-- The powers of the first primitive element, among the next n from x on. -/
def genLoop (P : Int) (M : Nat) (Mod : List Int) (q : Int) : Nat → Int → List Int
  | 0, _ => []
  | n + 1, x =>
    if ((powersT P M Mod q x).length : Int) = q - 1 ∧ mulZ P M Mod ((powersT P M Mod q x).getD (q - 2).toNat 0) x = 1 then powersT P M Mod q x
    else genLoop P M Mod q n (x + 1)
def genZ (P : Int) (M : Nat) (Mod : List Int) (q : Int) : List Int := genLoop P M Mod q (q - 1).toNat 1
theorem powLoop_range (mul : Int → Int) (q : Int) (hm : ∀ y, 0 ≤ y → y < q → 0 ≤ mul y ∧ mul y < q) : ∀ (k : Nat) (out : List Int) (y : Int) (R : List Int), (∀ x ∈ out, 0 ≤ x ∧ x < q) → 0 ≤ y → y < q → powLoop mul k out y = some R → ∀ x ∈ R, 0 ≤ x ∧ x < q
  | 0, _, _, _, _, _, _, h => by simp [powLoop] at h
  | k + 1, out, y, R, ho, h0, h1, h => by
    simp only [powLoop] at h
    by_cases hy : y = 0
    · rw [if_pos hy] at h; cases h; exact ho
    · rw [if_neg hy] at h
      by_cases hi : y ∈ out
      · rw [if_pos hi] at h; cases h; exact ho
      · rw [if_neg hi] at h
        obtain ⟨m1, m2⟩ := hm y h0 h1
        refine powLoop_range mul q hm k _ _ R (fun x hx => ?_) m1 m2 h
        rcases List.mem_append.1 hx with hx | hx
        · exact ho x hx
        · simp only [List.mem_singleton] at hx; omega
theorem powersT_range (P : Int) (hP : 2 ≤ P) (M : Nat) (hM : 1 ≤ M) (Mod : List Int) (hq : P ^ M ≤ 256) (x : Int) (hx0 : 0 ≤ x) (hx1 : x < P ^ M) : ∀ y ∈ powersT P M Mod (P ^ M) x, 0 ≤ y ∧ y < P ^ M := by
  have h1 : 1 < P ^ M := by
    have := pow_le_pow P hP 1 M hM
    rw [Int.pow_one] at this
    omega
  exact powLoop_range (fun y => mulZ P M Mod y x) (P ^ M) (fun y _ _ => val_digs_range P hP M hM Mod y x hq) _ [1] x _ (by simp; omega) hx0 hx1 (powersT_eq P hP M hM Mod hq x hx0 hx1)

def inRange (P : Int) (l : List Int) : Bool := l.all fun c => decide (0 ≤ c ∧ c < P)
def shapeZ (P M : Int) (Mod : List Int) : Bool :=
  if orderZ P M = 0 then false else if primeZ P = false then false
  else if M = 1 then decide (Mod.length = 0) else if (Mod.length : Int) ≠ M then false else inRange P Mod
theorem inRange_take_succ (P : Int) (l : List Int) (k : Nat) (h : k < l.length) : inRange P (l.take (k + 1)) = (inRange P (l.take k) && decide (0 ≤ l.getD k 0 ∧ l.getD k 0 < P)) := by
  rw [take_succ_rd l k h]
  simp [inRange]
theorem inRange_mono (P : Int) (l : List Int) (k : Nat) (h : inRange P (l.take k) = false) : inRange P l = false := by
  cases e : inRange P l with
  | false => rfl
  | true =>
    unfold inRange at e h
    rw [List.all_eq_true] at e
    have : (l.take k).all (fun c => decide (0 ≤ c ∧ c < P)) = true := List.all_eq_true.2 fun x hx => e x (List.mem_of_mem_take hx)
    rw [this] at h
    cases h
theorem orderZ_range (P M : Int) (h : orderZ P M ≠ 0) : 2 ≤ P ∧ P ≤ 256 ∧ 1 ≤ M ∧ M ≤ 8 := by
  unfold orderZ at h
  by_cases hb : P < 2 ∨ P > 256 ∨ M < 1 ∨ M > 8
  · rw [if_pos hb] at h; exact absurd rfl h
  · omega
theorem ordLoop_pow (P : Int) (hP : 2 ≤ P) : ∀ (n : Nat) (q : Int), 1 ≤ q → ordLoop P n q ≠ 0 → ordLoop P n q = q * P ^ n ∧ (q ≤ 256 → q * P ^ n ≤ 256)
  | 0, q, _, _ => by simp [ordLoop]
  | n + 1, q, hq, h => by
    simp only [ordLoop] at h ⊢
    by_cases hb : q * P > 256
    · rw [if_pos hb] at h; exact absurd rfl h
    · rw [if_neg hb] at h ⊢
      have h1 : 1 * 1 ≤ q * P := Int.mul_le_mul hq (by omega) (by omega) (by omega)
      obtain ⟨h2, h3⟩ := ordLoop_pow P hP n (q * P) (by omega) h
      rw [Int.pow_succ, Int.mul_comm (P ^ n) P, ← Int.mul_assoc]
      exact ⟨h2, fun _ => h3 (by omega)⟩
theorem orderZ_pow (P M : Int) (h : orderZ P M ≠ 0) : orderZ P M = P ^ M.toNat ∧ P ^ M.toNat ≤ 256 := by
  obtain ⟨h1, h2, h3, h4⟩ := orderZ_range P M h
  unfold orderZ at h ⊢
  rw [if_neg (by omega)] at h ⊢
  obtain ⟨h5, h6⟩ := ordLoop_pow P h1 M.toNat 1 (by omega) h
  rw [Int.one_mul] at h5 h6
  exact ⟨h5, h6 (by omega)⟩
/-- What a description of the right shape has. -/
theorem shapeZ_true (P M : Int) (Mod : List Int) (h : shapeZ P M Mod = true) : 2 ≤ P ∧ P ≤ 256 ∧ 1 ≤ M ∧ M ≤ 8 ∧ orderZ P M = P ^ M.toNat ∧ P ^ M.toNat ≤ 256 ∧ primeZ P = true ∧ (1 < M.toNat → Mod.length = M.toNat) ∧ (∀ d ∈ Mod, 0 ≤ d ∧ d < P) ∧ (M = 1 → Mod = []) := by
  unfold shapeZ at h
  by_cases h0 : orderZ P M = 0
  · rw [if_pos h0] at h; cases h
  · rw [if_neg h0] at h
    obtain ⟨h1, h2, h3, h4⟩ := orderZ_range P M h0
    obtain ⟨h5, h6⟩ := orderZ_pow P M h0
    by_cases hp : primeZ P = false
    · rw [if_pos hp] at h; cases h
    · rw [if_neg hp] at h
      have hp' : primeZ P = true := by cases e : primeZ P <;> simp_all
      by_cases hM : M = 1
      · rw [if_pos hM] at h
        have hl : Mod = [] := List.eq_nil_of_length_eq_zero (of_decide_eq_true h)
        refine ⟨h1, h2, h3, h4, h5, h6, hp', fun h7 => by omega, (fun d hd => by rw [hl] at hd; cases hd), fun _ => hl⟩
      · rw [if_neg hM] at h
        by_cases hl : (Mod.length : Int) ≠ M
        · rw [if_pos hl] at h; cases h
        · rw [if_neg hl] at h
          refine ⟨h1, h2, h3, h4, h5, h6, hp', fun h7 => by omega, fun d hd => ?_, fun e => absurd e hM⟩
          unfold inRange at h
          rw [List.all_eq_true] at h
          exact of_decide_eq_true (h d hd)

/-- log[x] = n for all n, x of exp. -/
def setLog : List Int → Nat → List Int → List Int
  | [], _, log => log
  | x :: exp, n, log => setLog exp (n + 1) (log.set x.toNat n)
theorem setLog_length : ∀ (exp : List Int) (n : Nat) (log : List Int), (setLog exp n log).length = log.length
  | [], _, _ => rfl
  | x :: exp, n, log => by rw [setLog, setLog_length exp, List.length_set]
def fieldD (P : Int) (M : Nat) (Mod : List Int) : GFD :=
  { P := P, M := M, Mod := Mod, q := P ^ M, exp := genZ P M Mod (P ^ M), log := setLog (genZ P M Mod (P ^ M)) 0 (List.replicate (P ^ M).toNat 0) }
theorem genLoop_cases (P : Int) (M : Nat) (Mod : List Int) (q : Int) : ∀ (n : Nat) (x : Int), genLoop P M Mod q n x = [] ∨ ∃ y, x ≤ y ∧ y < x + n ∧ genLoop P M Mod q n x = powersT P M Mod q y ∧ ((powersT P M Mod q y).length : Int) = q - 1 ∧ mulZ P M Mod ((powersT P M Mod q y).getD (q - 2).toNat 0) y = 1
  | 0, x => .inl rfl
  | n + 1, x => by
    simp only [genLoop]
    split
    · rename_i h
      exact .inr ⟨x, by omega, by omega, rfl, h.1, h.2⟩
    · rcases genLoop_cases P M Mod q n (x + 1) with h | ⟨y, h1, h2, h3⟩
      · exact .inl h
      · exact .inr ⟨y, by omega, by omega, h3⟩
theorem genZ_cases (P : Int) (hP : 2 ≤ P) (M : Nat) (hM : 1 ≤ M) (Mod : List Int) (hq : P ^ M ≤ 256) (h : genZ P M Mod (P ^ M) ≠ []) :
    ((genZ P M Mod (P ^ M)).length : Int) = P ^ M - 1 ∧ ∀ x ∈ genZ P M Mod (P ^ M), 0 ≤ x ∧ x < P ^ M := by
  have h1 : 2 ≤ P ^ M := by
    have := pow_le_pow P hP 1 M hM
    rw [Int.pow_one] at this
    omega
  unfold genZ at h ⊢
  rcases genLoop_cases P M Mod (P ^ M) (P ^ M - 1).toNat 1 with h2 | ⟨y, h2, h3, h4, h5, _⟩
  · exact absurd h2 h
  · rw [h4]
    exact ⟨h5, powersT_range P hP M hM Mod hq y (by omega) (by omega)⟩

theorem nodup_take_succ_iff (l : List Int) (k : Nat) (hk : k < l.length) : (l.take (k + 1)).Nodup ↔ (l.take k).Nodup ∧ l.getD k 0 ∉ l.take k := by
  rw [take_succ_rd l k hk, List.nodup_append]
  constructor
  · rintro ⟨h1, _, h3⟩
    exact ⟨h1, fun h => h3 _ h (l.getD k 0) (by simp) rfl⟩
  · rintro ⟨h1, h2⟩
    refine ⟨h1, by simp, fun a ha b hb => ?_⟩
    simp only [List.mem_singleton] at hb
    rintro rfl
    exact h2 (hb ▸ ha)
theorem nodup_of_take (l : List Int) (k : Nat) (h : ¬ (l.take k).Nodup) : ¬ l.Nodup := fun hn => h (hn.sublist (List.take_sublist k l))
theorem mem_take_getD (l : List Int) (k j : Nat) (hj : j < k) (hk : k ≤ l.length) : l.getD j 0 ∈ l.take k := by
  rw [List.getD_eq_getElem?_getD, List.getElem?_eq_getElem (by omega : j < l.length)]
  exact List.mem_take_iff_getElem.2 ⟨j, by omega, rfl⟩

/-! ### generalized Reed-Solomon codes -/
structure GD where
  P : Int
  M : Int
  Mod : List Int
  K : Int
  pts : List Int
  mults : List Int
def fieldOk (P M : Int) (Mod : List Int) : Bool := shapeZ P M Mod && !(genZ P M.toNat Mod (P ^ M.toNat)).isEmpty
def GD.D (s : GD) : GFD := fieldD s.P s.M.toNat s.Mod
def GD.open (s : GD) : Int :=
  if fieldOk s.P s.M s.Mod = false then 1
  else if s.pts.length < 1 ∨ 64 < s.pts.length then 4
  else if s.mults.length ≠ s.pts.length then 10
  else if s.pts.all s.D.is = false then 2
  else if s.mults.all s.D.is = false then 2
  else if ¬ s.pts.Nodup then 18
  else if (0 : Int) ∈ s.mults then 7
  else if s.K < 0 then 6
  else if (s.pts.length : Int) < s.K then 6
  else 0

theorem updZ_const : ∀ (out T : List Int), out.length = T.length → updZ (fun _ c => c) out T = T
  | [], [], _ => rfl
  | o :: out, c :: T, h => by simp only [updZ]; rw [updZ_const out T (by simpa using h)]
  | [], _ :: _, h => by simp at h
  | _ :: _, [], h => by simp at h
/-- The codeword of a message. -/
def encZ (D : GFD) (pts mults msg : List Int) : List Int := (pts.zip mults).map fun t => D.mul t.2 (D.eval msg t.1)
theorem encZ_getD (D : GFD) (pts mults msg : List Int) (k : Nat) (h1 : k < pts.length) (h2 : k < mults.length) : (encZ D pts mults msg).getD k 0 = D.mul (mults.getD k 0) (D.eval msg (pts.getD k 0)) := by
  unfold encZ
  have h3 : k < (pts.zip mults).length := by simp; omega
  rw [List.getD_eq_getElem?_getD, List.getElem?_map, List.getElem?_eq_getElem h3]
  simp [List.getD_eq_getElem?_getD, List.getElem?_eq_getElem h1, List.getElem?_eq_getElem h2]
/-- Encode's result and error. -/
def GD.encode (s : GD) (msg : List Int) : List Int × Int :=
  if s.open ≠ 0 then ([], s.open) else if (msg.length : Int) ≠ s.K then ([], 3) else if msg.all s.D.is = false then ([], 2) else (encZ s.D s.pts s.mults msg, 0)
end Go.Proofs.Yticgblagimmlfaa

namespace Go.Proofs.Yticgblagimmlfaa
set_option linter.unusedVariables false
set_option linter.unusedSimpArgs false

/-- i is a position below n. -/
def posB (n : Nat) (i : Int) : Bool := decide (0 ≤ i ∧ i < n)
/-- The error of a word and erased positions. -/
def wordZ (D : GFD) (l : List Int) (n : Nat) (er : List Int) : Int :=
  if l.length ≠ n then 4 else if l.all D.is = false then 2 else if er.all (posB n) = false then 6 else if ¬ er.Nodup then 18 else 0
/-- Which positions are erased. -/
def marksZ (n : Nat) (er : List Int) : List Bool := (List.range n).map fun i : Nat => decide ((Int.ofNat i) ∈ er)
theorem marksZ_length (n : Nat) (er : List Int) : (marksZ n er).length = n := by simp [marksZ]
theorem marksZ_getD (n : Nat) (er : List Int) (i : Nat) (h : i < n) : (marksZ n er).getD i false = decide ((Int.ofNat i) ∈ er) := by
  simp [marksZ, List.getD_eq_getElem?_getD, h]
def radiusZ (d f : Int) : Int := if d < 1 ∨ f < 0 ∨ f > d - 1 then -1 else (d - 1 - f).tdiv 2
/-- The positions from i on, below n, where c and w differ and that are not erased. -/
def diffZ (c w : List Int) (er : List Bool) (n : Nat) : List Int := ((List.range n).filter fun i => !er.getD i false && (c.getD i 0 != w.getD i 0)).map Int.ofNat
theorem diffZ_succ (c w : List Int) (er : List Bool) (n : Nat) : diffZ c w er (n + 1) = if (!er.getD n false && (c.getD n 0 != w.getD n 0)) = true then diffZ c w er n ++ [(n : Int)] else diffZ c w er n := by
  unfold diffZ
  rw [List.range_succ, List.filter_append, List.map_append]
  by_cases h : (!er.getD n false && (c.getD n 0 != w.getD n 0)) = true
  · rw [if_pos h, List.filter_cons_of_pos (by simpa using h)]; rfl
  · rw [if_neg h, List.filter_cons_of_neg (by simpa using h)]; simp
theorem diffZ_length (c w : List Int) (er : List Bool) (n : Nat) : (diffZ c w er n).length ≤ n := by
  unfold diffZ
  rw [List.length_map]
  exact Nat.le_trans (List.length_filter_le _ _) (by simp)
/-- The decoded word, the error positions and the error. -/
def resultZ (c w : List Int) (er : List Bool) (t : Int) : List Int × List Int × Int :=
  if ((diffZ c w er c.length).length : Int) > t then ([], [], 12) else (c, diffZ c w er c.length, 0)
/-- The points and the divided letters that are not erased, of the first n. -/
def keptX (pts : List Int) (er : List Bool) (n : Nat) : List Int := ((List.range n).filter fun i => !er.getD i false).map fun i => pts.getD i 0
def keptY (D : GFD) (mults w : List Int) (er : List Bool) (n : Nat) : List Int := ((List.range n).filter fun i => !er.getD i false).map fun i => (D.div (w.getD i 0) (mults.getD i 0))
theorem keptX_succ (pts : List Int) (er : List Bool) (n : Nat) : keptX pts er (n + 1) = if er.getD n false = true then keptX pts er n else keptX pts er n ++ [pts.getD n 0] := by
  unfold keptX
  rw [List.range_succ, List.filter_append, List.map_append]
  by_cases h : er.getD n false = true
  · rw [if_pos h, List.filter_cons_of_neg (by simp only [h]; simp)]; simp
  · rw [if_neg h, List.filter_cons_of_pos (by simp only [Bool.not_eq_true] at h; simp only [h]; simp)]; rfl
theorem keptY_succ (D : GFD) (mults w : List Int) (er : List Bool) (n : Nat) : keptY D mults w er (n + 1) = if er.getD n false = true then keptY D mults w er n else keptY D mults w er n ++ [(D.div (w.getD n 0) (mults.getD n 0))] := by
  unfold keptY
  rw [List.range_succ, List.filter_append, List.map_append]
  by_cases h : er.getD n false = true
  · rw [if_pos h, List.filter_cons_of_neg (by simp only [h]; simp)]; simp
  · rw [if_neg h, List.filter_cons_of_pos (by simp only [Bool.not_eq_true] at h; simp only [h]; simp)]; rfl
theorem keptX_length (pts : List Int) (er : List Bool) (n : Nat) : (keptX pts er n).length ≤ n := by
  unfold keptX
  rw [List.length_map]
  exact Nat.le_trans (List.length_filter_le _ _) (by simp)
theorem keptY_length (D : GFD) (mults w pts : List Int) (er : List Bool) (n : Nat) : (keptY D mults w er n).length = (keptX pts er n).length := by
  unfold keptX keptY
  rw [List.length_map, List.length_map]
/-- What Euclid's algorithm gives on the kept points. -/
def GD.eucl (s : GD) (w : List Int) (er : List Bool) : Option (List Int × List Int) :=
  s.D.euclid (((keptX s.pts er s.pts.length).length : Int) + (s.K.toNat : Int)) 1000 (s.D.fromRoots (keptX s.pts er s.pts.length))
    (s.D.inter (keptX s.pts er s.pts.length) (keptY s.D s.mults w er s.pts.length) (keptX s.pts er s.pts.length).length).1 [] [1]
def GD.gaoZ (s : GD) (w : List Int) (er : List Bool) : List Int × Int :=
  s.D.gao (keptX s.pts er s.pts.length) (keptY s.D s.mults w er s.pts.length) s.K.toNat ((s.eucl w er).getD ([], []))
/-- The codeword near the word. -/
def GD.codeword (s : GD) (w : List Int) (er : List Bool) : List Int × Int :=
  if ((keptX s.pts er s.pts.length).length : Int) < s.K then ([], 12)
  else if (s.gaoZ w er).2 ≠ 0 then ([], (s.gaoZ w er).2)
  else s.encode ((s.gaoZ w er).1 ++ List.replicate (s.K.toNat - (s.gaoZ w er).1.length) 0)
/-- Euclid's algorithm ends. -/
def GD.ends (s : GD) (w : List Int) (er : List Bool) : Prop := s.K ≤ ((keptX s.pts er s.pts.length).length : Int) → ∃ R, s.eucl w er = some R
/-- The decoder. -/
def GD.decode (s : GD) (w er : List Int) : List Int × List Int × Int :=
  if s.open ≠ 0 then ([], [], s.open)
  else if wordZ s.D w s.pts.length er ≠ 0 then ([], [], wordZ s.D w s.pts.length er)
  else if (s.codeword w (marksZ s.pts.length er)).2 ≠ 0 then ([], [], 12)
  else resultZ (s.codeword w (marksZ s.pts.length er)).1 w (marksZ s.pts.length er) (radiusZ (s.pts.length - s.K + 1) er.length)
end Go.Proofs.Yticgblagimmlfaa

namespace Go.Proofs.Yticgblagimmlfaa
set_option linter.unusedVariables false
set_option linter.unusedSimpArgs false

theorem powLoop_nodup (mul : Int → Int) : ∀ (k : Nat) (out : List Int) (y : Int) (R : List Int), out.Nodup → (∀ x ∈ out, x ≠ 0) → powLoop mul k out y = some R → R.Nodup ∧ ∀ x ∈ R, x ≠ 0
  | 0, _, _, _, _, _, h => by simp [powLoop] at h
  | k + 1, out, y, R, hn, h0, h => by
    simp only [powLoop] at h
    by_cases hy : y = 0
    · rw [if_pos hy] at h; cases h; exact ⟨hn, h0⟩
    · rw [if_neg hy] at h
      by_cases hi : y ∈ out
      · rw [if_pos hi] at h; cases h; exact ⟨hn, h0⟩
      · rw [if_neg hi] at h
        refine powLoop_nodup mul k _ _ R ?_ ?_ h
        · rw [List.nodup_append]
          refine ⟨hn, by simp, ?_⟩
          intro a ha b hb
          simp only [List.mem_singleton] at hb
          rintro rfl
          exact hi (hb ▸ ha)
        · intro x hx
          rcases List.mem_append.1 hx with hx | hx
          · exact h0 x hx
          · simp only [List.mem_singleton] at hx
            rw [hx]; exact hy
theorem genZ_nodup (P : Int) (hP : 2 ≤ P) (M : Nat) (hM : 1 ≤ M) (Mod : List Int) (hq : P ^ M ≤ 256) (h : genZ P M Mod (P ^ M) ≠ []) :
    (genZ P M Mod (P ^ M)).Nodup ∧ ∀ x ∈ genZ P M Mod (P ^ M), x ≠ 0 := by
  have h1 : 2 ≤ P ^ M := by
    have := pow_le_pow P hP 1 M hM
    rw [Int.pow_one] at this
    omega
  unfold genZ at h ⊢
  rcases genLoop_cases P M Mod (P ^ M) (P ^ M - 1).toNat 1 with h2 | ⟨y, h2, h3, h4, h5, _⟩
  · exact absurd h2 h
  · rw [h4]
    exact powLoop_nodup _ _ [1] y _ (by simp) (by simp) (powersT_eq P hP M hM Mod hq y (by omega) (by omega))

theorem setLog_other : ∀ (exp : List Int) (n : Nat) (log : List Int) (x : Int), 0 ≤ x → (∀ y ∈ exp, 0 ≤ y) → x ∉ exp → rdz (setLog exp n log) x = rdz log x
  | [], _, _, _, _, _, _ => rfl
  | y :: exp, n, log, x, h0, hp, hx => by
    rw [setLog, setLog_other exp (n + 1) _ x h0 (fun z hz => hp z (List.mem_cons_of_mem _ hz)) (fun h => hx (List.mem_cons_of_mem _ h))]
    unfold rdz
    have hy := hp y List.mem_cons_self
    have hne : y.toNat ≠ x.toNat := fun e => hx (by
      have : x = y := by omega
      rw [this]; exact List.mem_cons_self)
    rw [List.getD_eq_getElem?_getD, List.getElem?_set_ne hne, ← List.getD_eq_getElem?_getD]
theorem setLog_get : ∀ (exp : List Int) (n : Nat) (log : List Int) (i : Nat), exp.Nodup → (∀ y ∈ exp, 0 ≤ y ∧ y.toNat < log.length) → i < exp.length → rdz (setLog exp n log) (exp.getD i 0) = (n + i : Nat)
  | [], _, _, _, _, _, h => by simp at h
  | y :: exp, n, log, 0, hn, hp, _ => by
    rw [List.nodup_cons] at hn
    have hy := hp y List.mem_cons_self
    rw [setLog, List.getD_cons_zero, setLog_other exp (n + 1) _ y hy.1 (fun z hz => (hp z (List.mem_cons_of_mem _ hz)).1) hn.1]
    unfold rdz
    rw [List.getD_eq_getElem?_getD, List.getElem?_set_self hy.2]
    simp
  | y :: exp, n, log, i + 1, hn, hp, h => by
    rw [List.nodup_cons] at hn
    rw [setLog, List.getD_cons_succ, setLog_get exp (n + 1) _ i hn.2 (fun z hz => by rw [List.length_set]; exact hp z (List.mem_cons_of_mem _ hz)) (by simpa using h)]
    congr 1
    omega

/-- The tables are those of a generator. -/
structure GFD.tab (D : GFD) : Prop where
  ok : D.ok
  nz : ∀ i, 0 ≤ i → i < D.q - 1 → rdz D.exp i ≠ 0
  logexp : ∀ i, 0 ≤ i → i < D.q - 1 → rdz D.log (rdz D.exp i) = i
  explog : ∀ x, 1 ≤ x → x < D.q → rdz D.exp (rdz D.log x) = x

theorem mem_getD (l : List Int) (i : Nat) (h : i < l.length) : l.getD i 0 ∈ l := by
  rw [List.getD_eq_getElem?_getD, List.getElem?_eq_getElem h]
  exact List.getElem_mem h
theorem fieldD_ok' (P : Int) (m : Nat) (Mod : List Int) (h : fieldOk P m Mod = true) : 2 ≤ P ∧ P ≤ 256 ∧ 1 ≤ m ∧ m ≤ 8 ∧ P ^ m ≤ 256 ∧ 2 ≤ P ^ m ∧ genZ P m Mod (P ^ m) ≠ [] ∧ primeZ P = true ∧ (1 < m → Mod.length = m) ∧ (∀ d ∈ Mod, 0 ≤ d ∧ d < P) ∧ (m = 1 → Mod = []) := by
  unfold fieldOk at h
  rw [Bool.and_eq_true] at h
  obtain ⟨hs, hne⟩ := h
  obtain ⟨p1, p2, p3, p4, p5, p6, p7, p8, p9, p10⟩ := shapeZ_true P m Mod hs
  rw [Int.toNat_natCast] at p5 p6 p8 hne
  have h2 : 2 ≤ P ^ m := by
    have := pow_le_pow P p1 1 m (by omega)
    rw [Int.pow_one] at this
    omega
  exact ⟨p1, p2, by omega, by omega, p6, h2, fun e => by rw [e] at hne; simp at hne, p7, p8, p9, fun e => p10 (by omega)⟩
theorem fieldD_tab (P : Int) (m : Nat) (Mod : List Int) (h : fieldOk P m Mod = true) (hok : (fieldD P m Mod).ok) : (fieldD P m Mod).tab := by
  obtain ⟨p1, p2, p3, p4, p5, p6, p7, -⟩ := fieldD_ok' P m Mod h
  obtain ⟨g1, g2⟩ := genZ_cases P p1 m p3 Mod p5 p7
  obtain ⟨n1, n2⟩ := genZ_nodup P p1 m p3 Mod p5 p7
  have hlog : (fieldD P m Mod).log = setLog (genZ P m Mod (P ^ m)) 0 (List.replicate (P ^ m).toNat 0) := rfl
  have hexp : (fieldD P m Mod).exp = genZ P m Mod (P ^ m) := rfl
  have hq : (fieldD P m Mod).q = P ^ m := rfl
  obtain ⟨E, hE⟩ : ∃ E, genZ P m Mod (P ^ m) = E := ⟨_, rfl⟩
  rw [hE] at g1 g2 n1 n2 hlog hexp
  have hmem : ∀ i : Int, 0 ≤ i → i < P ^ m - 1 → rdz E i ∈ E := fun i h0 h1 => mem_getD E i.toNat (by omega)
  have hle : ∀ i : Int, 0 ≤ i → i < P ^ m - 1 → rdz (fieldD P m Mod).log (rdz E i) = i := fun i h0 h1 => by
    rw [hlog]
    have := setLog_get E 0 (List.replicate (P ^ m).toNat 0) i.toNat n1 (fun y hy => by have := g2 y hy; rw [List.length_replicate]; omega) (by omega)
    unfold rdz at this ⊢
    rw [this]; omega
  refine ⟨hok, fun i h0 h1 => ?_, fun i h0 h1 => ?_, fun x h0 h1 => ?_⟩
  · rw [hexp]; exact n2 _ (hmem i h0 h1)
  · rw [hexp]; exact hle i h0 h1
  · have hx : x ∈ E := by
      refine Classical.byContradiction fun hn => ?_
      have hnd : (0 :: x :: E).Nodup := by
        rw [List.nodup_cons, List.nodup_cons]
        refine ⟨fun h0' => ?_, hn, n1⟩
        rcases List.mem_cons.1 h0' with e | e
        · omega
        · exact n2 0 e rfl
      have := nodup_bound (P ^ m).toNat (0 :: x :: E) hnd (fun y hy => by
        rw [hq] at h1
        rcases List.mem_cons.1 hy with e | hy
        · omega
        rcases List.mem_cons.1 hy with e | hy
        · omega
        · have := g2 y hy; omega)
      simp only [List.length_cons] at this
      omega
    obtain ⟨i, hi, e⟩ := List.getElem_of_mem hx
    have hr : rdz E (i : Int) = x := by
      unfold rdz
      rw [Int.toNat_natCast, List.getD_eq_getElem?_getD, List.getElem?_eq_getElem hi]
      exact e
    have := hle (i : Int) (by omega) (by omega)
    rw [hr] at this
    rw [this, hexp, hr]

namespace GFD
theorem inn_id (D : GFD) {x : Int} (h0 : 0 ≤ x) (h1 : x < D.q) : D.inn x = x := by unfold inn; rw [if_pos ⟨h0, h1⟩]
theorem mul_range (D : GFD) (h : D.ok) (x y : Int) : 0 ≤ D.mul x y ∧ D.mul x y < D.q := by
  have := h.q2
  unfold mul
  split
  · omega
  · exact h.exp0 _
theorem mul_zero_right (D : GFD) (h : D.ok) (x : Int) : D.mul x 0 = 0 := by
  have := h.q2
  unfold mul
  rw [if_pos (.inr (D.inn_id (by omega) (by omega)))]
theorem mul_zero_left (D : GFD) (h : D.ok) (x : Int) : D.mul 0 x = 0 := by
  have := h.q2
  unfold mul
  rw [if_pos (.inl (D.inn_id (by omega) (by omega)))]
/-- The product of elements other than 0. -/
theorem mul_nz (D : GFD) (h : D.tab) {x y : Int} (hx : 1 ≤ x) (hx2 : x < D.q) (hy : 1 ≤ y) (hy2 : y < D.q) :
    D.mul x y = rdz D.exp ((rdz D.log x + rdz D.log y) % (D.q - 1)) ∧ 1 ≤ D.mul x y ∧ D.mul x y < D.q ∧ rdz D.log (D.mul x y) = (rdz D.log x + rdz D.log y) % (D.q - 1) := by
  have hq := h.ok.q2
  have e : D.mul x y = rdz D.exp ((rdz D.log x + rdz D.log y) % (D.q - 1)) := by
    unfold mul
    rw [D.inn_id (by omega) hx2, D.inn_id (by omega) hy2, if_neg (by omega)]
  have h1 := Int.emod_nonneg (rdz D.log x + rdz D.log y) (by omega : D.q - 1 ≠ 0)
  have h2 := Int.emod_lt_of_pos (rdz D.log x + rdz D.log y) (by omega : 0 < D.q - 1)
  have h3 := h.nz _ h1 h2
  have h4 := h.ok.exp0 ((rdz D.log x + rdz D.log y) % (D.q - 1))
  refine ⟨e, ?_, ?_, ?_⟩
  · rw [e]; omega
  · rw [e]; omega
  · rw [e]; exact h.logexp _ h1 h2
theorem inv_nz (D : GFD) (h : D.tab) {y : Int} (hy : 1 ≤ y) (hy2 : y < D.q) :
    1 ≤ D.inv y ∧ D.inv y < D.q ∧ rdz D.log (D.inv y) = (D.q - 1 - rdz D.log y) % (D.q - 1) := by
  have hq := h.ok.q2
  have e : D.inv y = rdz D.exp ((D.q - 1 - rdz D.log y) % (D.q - 1)) := by
    unfold inv
    rw [D.inn_id (by omega) hy2, if_neg (by omega)]
  have h1 := Int.emod_nonneg (D.q - 1 - rdz D.log y) (by omega : D.q - 1 ≠ 0)
  have h2 := Int.emod_lt_of_pos (D.q - 1 - rdz D.log y) (by omega : 0 < D.q - 1)
  have h3 := h.nz _ h1 h2
  have h4 := h.ok.exp0 ((D.q - 1 - rdz D.log y) % (D.q - 1))
  refine ⟨by rw [e]; omega, by rw [e]; omega, by rw [e]; exact h.logexp _ h1 h2⟩
/-- Equal logarithms, equal elements. -/
theorem log_inj (D : GFD) (h : D.tab) {x y : Int} (hx : 1 ≤ x) (hx2 : x < D.q) (hy : 1 ≤ y) (hy2 : y < D.q) (e : rdz D.log x = rdz D.log y) : x = y := by
  rw [← h.explog x hx hx2, ← h.explog y hy hy2, e]
theorem mul_inv_mul (D : GFD) (h : D.tab) {t l : Int} (ht : 0 ≤ t) (ht2 : t < D.q) (hl : 1 ≤ l) (hl2 : l < D.q) : D.mul (D.mul t (D.inv l)) l = t := by
  have hq := h.ok.q2
  by_cases h0 : t = 0
  · subst h0
    rw [D.mul_zero_left h.ok, D.mul_zero_left h.ok]
  · obtain ⟨i1, i2, i3⟩ := D.inv_nz h hl hl2
    obtain ⟨-, m1, m2, m3⟩ := D.mul_nz h (by omega : 1 ≤ t) ht2 i1 i2
    obtain ⟨-, n1, n2, n3⟩ := D.mul_nz h m1 m2 hl hl2
    refine D.log_inj h n1 n2 (by omega) ht2 ?_
    have hb := h.ok.log0 t
    rw [n3, m3, i3, Int.add_emod_emod, Int.emod_add_emod, show rdz D.log t + (D.q - 1 - rdz D.log l) + rdz D.log l = rdz D.log t + (D.q - 1) from by omega, Int.add_emod_right]
    exact Int.emod_eq_of_lt hb.1 hb.2
end GFD
end Go.Proofs.Yticgblagimmlfaa

namespace Go.Proofs.Yticgblagimmlfaa
set_option linter.unusedVariables false
set_option linter.unusedSimpArgs false

theorem pow_split (P : Int) (hP : 2 ≤ P) (m : Nat) (x : Int) (h0 : 0 ≤ x) (h1 : x < P ^ (m + 1)) : 0 ≤ x / P ∧ x / P < P ^ m := by
  refine ⟨Int.ediv_nonneg h0 (by omega), Int.ediv_lt_of_lt_mul (by omega) ?_⟩
  rw [Int.pow_succ] at h1
  exact h1
theorem digit_join (P : Int) (hP : 2 ≤ P) (m : Nat) (d r : Int) (hd : 0 ≤ d ∧ d < P) (hr : 0 ≤ r ∧ r < P ^ m) : 0 ≤ d + P * r ∧ d + P * r < P ^ (m + 1) := by
  have h4 : P * r ≤ P * (P ^ m - 1) := Int.mul_le_mul_of_nonneg_left (by omega) (by omega)
  have h5 : 0 ≤ P * r := Int.mul_nonneg (by omega) hr.1
  rw [Int.mul_sub, Int.mul_one] at h4
  rw [Int.pow_succ, Int.mul_comm _ P]
  omega
theorem emod_range (P x : Int) (hP : 2 ≤ P) : 0 ≤ x % P ∧ x % P < P := ⟨Int.emod_nonneg x (by omega), Int.emod_lt_of_pos x (by omega)⟩
theorem zero_of_pow0 (P x : Int) (h0 : 0 ≤ x) (h1 : x < P ^ 0) : x = 0 := by rw [Int.pow_zero] at h1; omega
theorem negD_zero' (P : Int) (hP : 2 ≤ P) : ∀ n : Nat, negD P n 0 = 0
  | 0 => rfl
  | n + 1 => by rw [negD, Int.zero_ediv, negD_zero' P hP n, Int.zero_emod, Int.sub_zero, Int.emod_self, Int.mul_zero, Int.add_zero]
theorem negD_range (P : Int) (hP : 2 ≤ P) : ∀ (n m : Nat) (x : Int), 0 ≤ x → x < P ^ m → 0 ≤ negD P n x ∧ negD P n x < P ^ m
  | n, 0, x, h0, h1 => by
    rw [zero_of_pow0 P x h0 h1, negD_zero' P hP]
    rw [Int.pow_zero]; omega
  | 0, m + 1, x, h0, h1 => by
    have : 0 < P ^ (m + 1) := Int.pow_pos (by omega)
    simp only [negD]; omega
  | n + 1, m + 1, x, h0, h1 => by
    obtain ⟨d0, d1⟩ := pow_split P hP m x h0 h1
    exact digit_join P hP m _ _ (emod_range P _ hP) (negD_range P hP n m _ d0 d1)
theorem addD_range (P : Int) (hP : 2 ≤ P) : ∀ (n m : Nat) (x y : Int), 0 ≤ x → x < P ^ m → 0 ≤ y → y < P ^ m → 0 ≤ addD P n x y ∧ addD P n x y < P ^ m
  | n, 0, x, y, h0, h1, h2, h3 => by
    rw [zero_of_pow0 P x h0 h1, zero_of_pow0 P y h2 h3, addD_zero]
    rw [Int.pow_zero]; omega
  | 0, m + 1, x, y, h0, h1, h2, h3 => by
    have : 0 < P ^ (m + 1) := Int.pow_pos (by omega)
    simp only [addD]; omega
  | n + 1, m + 1, x, y, h0, h1, h2, h3 => by
    obtain ⟨d0, d1⟩ := pow_split P hP m x h0 h1
    obtain ⟨e0, e1⟩ := pow_split P hP m y h2 h3
    exact digit_join P hP m _ _ (emod_range P _ hP) (addD_range P hP n m _ _ d0 d1 e0 e1)
theorem addD_neg (P : Int) (hP : 2 ≤ P) : ∀ (n : Nat) (x : Int), addD P n x (negD P n x) = 0
  | 0, _ => rfl
  | n + 1, x => by
    have h1 := emod_range P (P - x % P) hP
    have e1 : ((P - x % P) % P + P * negD P n (x / P)) % P = (P - x % P) % P := by
      rw [Int.add_mul_emod_self_left, Int.emod_emod]
    have e2 : ((P - x % P) % P + P * negD P n (x / P)) / P = negD P n (x / P) := by
      rw [Int.add_mul_ediv_left _ _ (by omega), Int.ediv_eq_zero_of_lt h1.1 h1.2, Int.zero_add]
    rw [addD, negD, e1, e2, addD_neg P hP n, Int.mul_zero, Int.add_zero, Int.add_emod_emod, show x % P + (P - x % P) = P from by omega, Int.emod_self]

/-- The order is a power. -/
structure GFD.full (D : GFD) : Prop where
  tab : D.tab
  pow : ∃ m : Nat, 1 ≤ m ∧ m ≤ 8 ∧ D.q = D.P ^ m
theorem fieldD_full (P : Int) (m : Nat) (Mod : List Int) (h : fieldOk P m Mod = true) (hok : (fieldD P m Mod).ok) : (fieldD P m Mod).full := by
  obtain ⟨p1, p2, p3, p4, -⟩ := fieldD_ok' P m Mod h
  exact ⟨fieldD_tab P m Mod h hok, m, p3, p4, rfl⟩
namespace GFD
theorem add_range (D : GFD) (h : D.full) (x y : Int) : 0 ≤ D.add x y ∧ D.add x y < D.q := by
  obtain ⟨m, -, -, hm⟩ := h.pow
  have h1 := D.inn_lt h.tab.ok x
  have h2 := D.inn_lt h.tab.ok y
  unfold add
  rw [hm] at h1 h2 ⊢
  exact addD_range D.P h.tab.ok.p2 8 m _ _ h1.1 h1.2 h2.1 h2.2
theorem neg_range (D : GFD) (h : D.full) (x : Int) : 0 ≤ D.neg x ∧ D.neg x < D.q := by
  obtain ⟨m, -, -, hm⟩ := h.pow
  have h1 := D.inn_lt h.tab.ok x
  unfold neg
  rw [hm] at h1 ⊢
  exact negD_range D.P h.tab.ok.p2 8 m _ h1.1 h1.2
theorem sub_self (D : GFD) (h : D.full) (x : Int) : D.sub x x = 0 := by
  have h1 := D.neg_range h x
  unfold sub add
  rw [D.inn_id h1.1 h1.2]
  exact addD_neg D.P h.tab.ok.p2 8 _
theorem sub_range (D : GFD) (h : D.full) (x y : Int) : 0 ≤ D.sub x y ∧ D.sub x y < D.q := D.add_range h _ _
end GFD

/-! ### what a division leaves -/
theorem updZ_getD (F : Int → Int → Int) : ∀ (out q : List Int) (i : Nat), i < out.length → (updZ F out q).getD i 0 = if i < q.length then F (out.getD i 0) (q.getD i 0) else out.getD i 0
  | [], _, i, h => by simp at h
  | o :: out, [], i, _ => by simp [updZ_nil]
  | o :: out, c :: q, 0, _ => by simp [updZ]
  | o :: out, c :: q, i + 1, h => by
    simp only [updZ, List.getD_cons_succ, List.length_cons]
    rw [updZ_getD F out q i (by simpa using h)]
    by_cases h1 : i < q.length
    · rw [if_pos h1, if_pos (by omega)]
    · rw [if_neg h1, if_neg (by omega)]
theorem updAt_getD (F : Int → Int → Int) (n : Nat) (out q : List Int) (i : Nat) (h : i < out.length) : (updAt F n out q).getD i 0 = if n ≤ i ∧ i < n + q.length then F (out.getD i 0) (q.getD (i - n) 0) else out.getD i 0 := by
  unfold updAt
  by_cases h1 : i < n
  · rw [if_neg (by omega), List.getD_eq_getElem?_getD, List.getElem?_append_left (by rw [List.length_take]; omega), List.getElem?_take_of_lt h1, ← List.getD_eq_getElem?_getD]
  · have hl : (out.take n).length = n := by rw [List.length_take]; omega
    rw [List.getD_eq_getElem?_getD, List.getElem?_append_right (by omega), hl, ← List.getD_eq_getElem?_getD, updZ_getD F _ _ _ (by rw [List.length_drop]; omega)]
    have e : (out.drop n).getD (i - n) 0 = out.getD i 0 := by
      rw [List.getD_eq_getElem?_getD, List.getElem?_drop, show n + (i - n) = i from by omega, ← List.getD_eq_getElem?_getD]
    rw [e]
    by_cases h2 : i - n < q.length
    · rw [if_pos h2, if_pos (by omega)]
    · rw [if_neg h2, if_neg (by omega)]
/-- All are elements. -/
def InR (D : GFD) (l : List Int) : Prop := ∀ i, 0 ≤ l.getD i 0 ∧ l.getD i 0 < D.q
/-- From j on all are zero. -/
def ZFrom (l : List Int) (j : Nat) : Prop := ∀ i, j ≤ i → l.getD i 0 = 0
theorem getD_out (l : List Int) (i : Nat) (h : l.length ≤ i) : l.getD i 0 = 0 := by
  rw [List.getD_eq_getElem?_getD, List.getElem?_eq_none h]; rfl
theorem updAt_out (F : Int → Int → Int) (n : Nat) (out q : List Int) (i : Nat) (h : out.length ≤ i) : (updAt F n out q).getD i 0 = 0 := getD_out _ _ (by rw [updAt_length]; exact h)
theorem divLoop_zero (D : GFD) (h : D.full) (q : List Int) (hq : q ≠ []) (hl1 : 1 ≤ q.getD (q.length - 1) 0) (hl2 : q.getD (q.length - 1) 0 < D.q) : ∀ (n : Nat) (rem quo : List Int), InR D rem → ZFrom rem (n + q.length - 1) →
    InR D (D.divLoop q (D.inv (q.getD (q.length - 1) 0)) n rem quo).2 ∧ ZFrom (D.divLoop q (D.inv (q.getD (q.length - 1) 0)) n rem quo).2 (q.length - 1)
  | 0, rem, quo, hr, hz => ⟨hr, by rw [Nat.zero_add] at hz; exact hz⟩
  | n + 1, rem, quo, hr, hz => by
    have hql : 0 < q.length := List.length_pos_iff.2 hq
    simp only [GFD.divLoop]
    refine divLoop_zero D h q hq hl1 hl2 n _ _ (fun i => ?_) (fun i hi => ?_)
    · by_cases hi : i < rem.length
      · rw [updAt_getD _ _ _ _ _ hi]
        split
        · exact D.sub_range h _ _
        · exact hr i
      · rw [updAt_out _ _ _ _ _ (by omega)]
        have := h.tab.ok.q2
        omega
    · by_cases hi2 : i < rem.length
      · rw [updAt_getD _ _ _ _ _ hi2]
        by_cases he : i = n + q.length - 1
        · rw [if_pos (by omega), show i - n = q.length - 1 from by omega, ← he]
          rw [D.mul_inv_mul h.tab (hr i).1 (hr i).2 hl1 hl2, D.sub_self h]
        · rw [if_neg (by omega)]
          exact hz i (by omega)
      · exact updAt_out _ _ _ _ _ (by omega)
theorem trimZ_length_zero (l : List Int) (j : Nat) (h : ZFrom l j) : (trimZ l).length ≤ j := by
  induction l generalizing j with
  | nil => simp [trimZ]
  | cons a l ih =>
    cases j with
    | zero =>
      have h1 := ih 0 (fun i _ => by have := h (i + 1) (by omega); simpa using this)
      have h2 : a = 0 := by have := h 0 (by omega); simpa using this
      have h3 : trimZ l = [] := List.eq_nil_of_length_eq_zero (by omega)
      simp [trimZ, h3, h2]
    | succ j =>
      have h1 := ih j (fun i hi => by have := h (i + 1) (by omega); simpa using this)
      simp only [trimZ]
      split
      · split <;> simp
      · rename_i b t e
        rw [e] at h1
        simp only [List.length_cons] at h1 ⊢
        omega
theorem trimZ_last (l : List Int) (h : trimZ l ≠ []) : (trimZ l).getD ((trimZ l).length - 1) 0 ≠ 0 := by
  induction l with
  | nil => exact absurd rfl h
  | cons a l ih =>
    simp only [trimZ] at h ⊢
    split
    · split
      · rename_i h0 h1; rw [h0] at h; simp [h1] at h
      · rename_i h1; simpa using h1
    · rename_i b t e
      have := ih (by rw [e]; simp)
      rw [e] at this
      simpa using this
theorem trimZ_getD (l : List Int) (i : Nat) : (trimZ l).getD i 0 = l.getD i 0 ∨ (trimZ l).getD i 0 = 0 := by
  rw [trimZ_eq_take]
  by_cases h : i < (trimZ l).length
  · left
    rw [List.getD_eq_getElem?_getD, List.getElem?_take_of_lt h, ← List.getD_eq_getElem?_getD]
  · right
    exact getD_out _ _ (by rw [List.length_take]; omega)
theorem canon_InR (D : GFD) (h : D.ok) (l : List Int) : InR D (D.canon l) := by
  have hq := h.q2
  intro i
  unfold GFD.canon
  rcases trimZ_getD (updZ (fun o c => if D.is c = true then c else o) (List.replicate l.length 0) l) i with e | e
  · rw [e]
    by_cases hi : i < l.length
    · rw [updZ_getD _ _ _ _ (by rw [List.length_replicate]; exact hi), if_pos hi]
      split
      · rename_i h1
        exact of_decide_eq_true h1
      · rw [List.getD_eq_getElem?_getD, List.getElem?_replicate]
        split <;> simp <;> omega
    · rw [getD_out _ _ (by rw [updZ_length, List.length_replicate]; omega)]; omega
  · rw [e]; omega
theorem canon_last (D : GFD) (h : D.ok) (l : List Int) (hn : D.canon l ≠ []) : 1 ≤ (D.canon l).getD ((D.canon l).length - 1) 0 ∧ (D.canon l).getD ((D.canon l).length - 1) 0 < D.q := by
  have h1 := canon_InR D h l ((D.canon l).length - 1)
  have h2 : (D.canon l).getD ((D.canon l).length - 1) 0 ≠ 0 := trimZ_last _ hn
  omega
theorem divMod_rem (D : GFD) (h : D.full) (a b : List Int) (hn : D.canon b ≠ []) : (D.divMod a b).2.1.length < (D.canon b).length := by
  have hl : 0 < (D.canon b).length := List.length_pos_iff.2 hn
  obtain ⟨h1, h2⟩ := canon_last D h.tab.ok b hn
  unfold GFD.divMod
  rw [if_neg hn]
  have := (divLoop_zero D h (D.canon b) hn h1 h2 ((D.canon a).length + 1 - (D.canon b).length) (D.canon a) (List.replicate ((D.canon a).length + 1 - (D.canon b).length) 0) (canon_InR D h.tab.ok a) (fun i hi => getD_out _ _ (by omega))).2
  have h3 := trimZ_length_zero _ _ this
  show (trimZ _).length < _
  omega
end Go.Proofs.Yticgblagimmlfaa

namespace Go.Proofs.Yticgblagimmlfaa
set_option linter.unusedVariables false
set_option linter.unusedSimpArgs false

def isR (P M : Int) (x : Int) : Bool := decide (0 ≤ x ∧ x < orderZ P M)
def elemsZ (f : Int → Bool) (l : List Int) (n : Nat) (len : Int) : Int := if l.length ≠ n then len else if l.all f = false then 2 else 0

theorem orderZ_loop (P M : Int) (h1 : 2 ≤ P) (n : Nat) (hn : M = n) (h3 : 1 ≤ n) (h4 : n ≤ 8) : orderZ P M = ordLoop P n 1 := by
  unfold orderZ
  by_cases h : P > 256
  · rw [if_pos (by omega)]
    obtain ⟨k, rfl⟩ : ∃ k, n = k + 1 := ⟨n - 1, by omega⟩
    simp only [ordLoop]
    rw [if_pos (by omega)]
  · rw [if_neg (by omega), hn]; rfl
def recvZ (f : Int → Bool) (l : List Int) (n : Nat) (er : List Int) : Int :=
  if l.length ≠ n then 4 else if l.all f = false then 2 else if er.all (posB n) = false then 6 else if ¬ er.Nodup then 18 else 0
/-- None of the k numbers from d on divides n. -/
def noDiv (n : Int) : Nat → Int → Bool
  | 0, _ => true
  | k + 1, d => if n % d = 0 then false else noDiv n k (d + 1)
def primeR (n : Int) : Bool := noDiv n (n - 2).toNat 2
def divStep (P : Int) (low r : List Int) (i : Nat) : List Int := (updAt (fun o b => (o + (P - r.getD i 0) * b) % P) (i - low.length) r low).set i 0
def divRun (P : Int) (low : List Int) : Nat → List Int → List Int
  | 0, r => r
  | n + 1, r => divRun P low n (divStep P low r (low.length + n))
def dividesZ (P : Int) (low mod : List Int) : Bool := (divRun P low (mod.length + 1 - low.length) (mod ++ [1])).all fun x => decide (x = 0)
theorem divStep_length (P : Int) (low r : List Int) (i : Nat) : (divStep P low r i).length = r.length := by unfold divStep; rw [List.length_set, updAt_length]
theorem updZ_mem' (F : Int → Int → Int) (S : Int → Prop) (hF : ∀ o t, S (F o t)) : ∀ (out q : List Int), (∀ d ∈ out, S d) → ∀ d ∈ updZ F out q, S d
  | [], _, _, d, h => by simp [updZ] at h
  | o :: out, [], h, d, hd => by rw [updZ_nil] at hd; exact h d hd
  | o :: out, c :: q, h, d, hd => by
    simp only [updZ, List.mem_cons] at hd
    rcases hd with rfl | hd
    · exact hF _ _
    · exact updZ_mem' F S hF out q (fun z hz => h z (List.mem_cons_of_mem _ hz)) d hd
theorem updAt_mem (F : Int → Int → Int) (S : Int → Prop) (hF : ∀ o t, S (F o t)) (n : Nat) (out q : List Int) (h : ∀ d ∈ out, S d) : ∀ d ∈ updAt F n out q, S d := by
  intro d hd
  unfold updAt at hd
  rcases List.mem_append.1 hd with hd | hd
  · exact h d (List.mem_of_mem_take hd)
  · exact updZ_mem' F S hF _ _ (fun z hz => h z (List.mem_of_mem_drop hz)) d hd
theorem divStep_mem (P : Int) (hP : 2 ≤ P) (low r : List Int) (i : Nat) (h : ∀ d ∈ r, 0 ≤ d ∧ d < P) : ∀ d ∈ divStep P low r i, 0 ≤ d ∧ d < P := by
  intro d hd
  unfold divStep at hd
  rcases List.mem_or_eq_of_mem_set hd with hd | hd
  · exact updAt_mem _ (fun d => 0 ≤ d ∧ d < P) (fun o t => ⟨Int.emod_nonneg _ (by omega), Int.emod_lt_of_pos _ (by omega)⟩) _ _ _ h d hd
  · omega
/-- An entry above the rows is not changed by them. -/
theorem updAt_above (F : Int → Int → Int) (n j i : Nat) (out q : List Int) (h : n + j ≤ i) (hi : i < out.length) : (updAt F n out (q.take j)).getD i 0 = out.getD i 0 := by
  unfold updAt
  have hl : (out.take n).length = n := by rw [List.length_take]; omega
  rw [List.getD_eq_getElem?_getD, List.getElem?_append_right (by omega), hl]
  have hz : ∀ (a b : List Int) (k : Nat), b.length ≤ k → (updZ F a b)[k]? = a[k]? := by
    intro a
    induction a with
    | nil => intro b k _; simp [updZ]
    | cons x a ih =>
      intro b k hk
      cases b with
      | nil => rw [updZ_nil]
      | cons y b =>
        cases k with
        | zero => simp at hk
        | succ k => simp only [updZ, List.getElem?_cons_succ]; exact ih b k (by simpa using hk)
  rw [hz _ _ _ (by rw [List.length_take]; omega), List.getElem?_drop, show n + (i - n) = i from by omega, ← List.getD_eq_getElem?_getD]

def irrD (P : Int) (mod : List Int) (d : Nat) : Bool := (List.range (P ^ d).toNat).all fun v => !dividesZ P (digs P d (v : Nat)) mod
def irrZ (P : Int) (mod : List Int) : Bool := (List.range (mod.length / 2)).all fun i => irrD P mod (i + 1)
theorem range_all_succ (f : Nat → Bool) (k : Nat) : (List.range (k + 1)).all f = ((List.range k).all f && f k) := by
  rw [List.range_succ, List.all_append]; simp
theorem range_all_of (f : Nat → Bool) (k n : Nat) (h : (List.range k).all f = false) (hk : k ≤ n) : (List.range n).all f = false := by
  cases e : (List.range n).all f with
  | false => rfl
  | true =>
    rw [List.all_eq_true] at e
    have : (List.range k).all f = true := List.all_eq_true.2 fun x hx => e x (by rw [List.mem_range] at hx ⊢; omega)
    rw [this] at h; cases h

def fcheckR (P M : Int) (Mod : List Int) : Int :=
  if orderZ P M = 0 then 1 else if primeR P = false then 1
  else if M = 1 then (if Mod.length ≠ 0 then 1 else 0)
  else if (Mod.length : Int) ≠ M then 1 else if inRange P Mod = false then 1 else if irrZ P Mod = false then 1 else 0

/-- Of the first k points and multipliers. -/
def bothIs (f : Int → Bool) (pts mults : List Int) (k : Nat) : Bool := (List.range k).all fun i => f (pts.getD i 0) && f (mults.getD i 0)
def tailR (s : GD) : Int :=
  if bothIs (isR s.P s.M) s.pts s.mults s.pts.length = false then 2
  else if ¬ s.pts.Nodup then 18
  else if (List.range s.pts.length).all (fun i => decide (s.mults.getD i 0 ≠ 0)) = false then 7
  else if s.K < 0 ∨ s.K > s.pts.length then 6 else 0
def checkR (s : GD) : Int :=
  if fcheckR s.P s.M s.Mod ≠ 0 then 1
  else if s.pts.length < 1 ∨ 64 < s.pts.length then 4
  else if s.mults.length ≠ s.pts.length then 10
  else tailR s

end Go.Proofs.Yticgblagimmlfaa
