/- Commutative rings and fields, identities by reflection; plain Lean. Power series and polynomials over a commutative ring: degree, value, roots; plain Lean. Finite integral domains are fields; residues of polynomials; irreducibility; plain Lean. The numbers modulo a prime are a field; trial division; plain Lean. The residues of polynomials, as numbers with digits, are a commutative ring; plain Lean. A generator is found just if the residues have no divisors of zero; then they are a field, and the tables compute in it; plain Lean. The document's test of a field's description is the program's; plain Lean. -/
import Derived.Test.YticgblagimmlfaaX803
namespace Go.Proofs.Yticgblagimmlfaa
namespace CW

class CR (R : Type) where
  add : R → R → R
  mul : R → R → R
  neg : R → R
  zero : R
  one : R
  add_comm' : ∀ a b, add a b = add b a
  add_assoc' : ∀ a b c, add (add a b) c = add a (add b c)
  zero_add' : ∀ a, add zero a = a
  neg_add' : ∀ a, add (neg a) a = zero
  mul_comm' : ∀ a b, mul a b = mul b a
  mul_assoc' : ∀ a b c, mul (mul a b) c = mul a (mul b c)
  one_mul' : ∀ a, mul one a = a
  add_mul' : ∀ a b c, mul (add a b) c = add (mul a c) (mul b c)

section
variable {R : Type} [CR R]
instance : Add R := ⟨CR.add⟩
instance : Mul R := ⟨CR.mul⟩
instance : Neg R := ⟨CR.neg⟩
instance : Sub R := ⟨fun a b => CR.add a (CR.neg b)⟩
instance : Zero R := ⟨CR.zero⟩
instance : One R := ⟨CR.one⟩
end

section
variable {R : Type} [CR R]
theorem add_comm (a b : R) : a + b = b + a := CR.add_comm' a b
theorem add_assoc (a b c : R) : a + b + c = a + (b + c) := CR.add_assoc' a b c
theorem zero_add (a : R) : 0 + a = a := CR.zero_add' a
theorem add_zero (a : R) : a + 0 = a := by rw [add_comm, zero_add]
theorem neg_add (a : R) : -a + a = 0 := CR.neg_add' a
theorem add_neg (a : R) : a + -a = 0 := by rw [add_comm, neg_add]
theorem mul_comm (a b : R) : a * b = b * a := CR.mul_comm' a b
theorem mul_assoc (a b c : R) : a * b * c = a * (b * c) := CR.mul_assoc' a b c
theorem one_mul (a : R) : 1 * a = a := CR.one_mul' a
theorem mul_one (a : R) : a * 1 = a := by rw [mul_comm, one_mul]
theorem add_mul (a b c : R) : (a + b) * c = a * c + b * c := CR.add_mul' a b c
theorem mul_add (a b c : R) : a * (b + c) = a * b + a * c := by rw [mul_comm, add_mul, mul_comm b, mul_comm c]
theorem sub_eq (a b : R) : a - b = a + -b := rfl
theorem add_left_cancel {a b c : R} (h : a + b = a + c) : b = c := by
  have h2 : -a + (a + b) = -a + (a + c) := by rw [h]
  rwa [← add_assoc, ← add_assoc, neg_add, zero_add, zero_add] at h2
theorem add_right_cancel {a b c : R} (h : b + a = c + a) : b = c := by
  rw [add_comm b, add_comm c] at h; exact add_left_cancel h
theorem zero_mul (a : R) : 0 * a = 0 := by
  apply add_left_cancel (a := 0 * a); rw [← add_mul, zero_add, add_zero]
theorem mul_zero (a : R) : a * 0 = 0 := by rw [mul_comm, zero_mul]
theorem neg_unique {a b : R} (h : a + b = 0) : b = -a := by
  apply add_left_cancel (a := a); rw [h, add_neg]
theorem neg_neg (a : R) : - -a = a := (neg_unique (neg_add a)).symm
theorem neg_zero : -(0 : R) = 0 := (neg_unique (zero_add 0)).symm
theorem neg_mul (a b : R) : -a * b = -(a * b) := by
  apply neg_unique; rw [← add_mul, add_neg, zero_mul]
theorem mul_neg (a b : R) : a * -b = -(a * b) := by rw [mul_comm, neg_mul, mul_comm]
theorem neg_add_rev (a b : R) : -(a + b) = -a + -b := by
  symm; apply neg_unique
  rw [add_assoc, ← add_assoc b, add_comm b (-a), add_assoc (-a), add_neg, add_zero, add_neg]
theorem sub_self (a : R) : a - a = 0 := add_neg a
theorem sub_zero (a : R) : a - 0 = a := by rw [sub_eq, neg_zero, add_zero]
theorem zero_sub (a : R) : 0 - a = -a := by rw [sub_eq, zero_add]
theorem eq_of_sub_eq_zero {a b : R} (h : a - b = 0) : a = b := by
  have h2 : a + -b = b + -b := by rw [add_neg]; exact h
  exact add_right_cancel h2
theorem add_left_comm (a b c : R) : a + (b + c) = b + (a + c) := by rw [← add_assoc, add_comm a b, add_assoc]
theorem mul_left_comm (a b c : R) : a * (b * c) = b * (a * c) := by rw [← mul_assoc, mul_comm a b, mul_assoc]
end

/-! ### identities by reflection -/

inductive RE where
  | v : Nat → RE
  | zero : RE
  | one : RE
  | add : RE → RE → RE
  | mul : RE → RE → RE
  | neg : RE → RE
  | sub : RE → RE → RE

namespace RE
instance : Add RE := ⟨add⟩
instance : Mul RE := ⟨mul⟩
instance : Neg RE := ⟨neg⟩
instance : Sub RE := ⟨sub⟩
instance : Zero RE := ⟨zero⟩
instance : One RE := ⟨one⟩
instance : OfNat RE 0 := ⟨zero⟩
instance : OfNat RE 1 := ⟨one⟩

/-- a monomial: the sorted list of its variables -/
def mlt : List Nat → List Nat → Bool
  | [], [] => false
  | [], _ :: _ => true
  | _ :: _, [] => false
  | a :: l, b :: m => if a < b then true else if a == b then mlt l m else false

def ins (x : Nat) : List Nat → List Nat
  | [] => [x]
  | y :: l => if x ≤ y then x :: y :: l else y :: ins x l

def mmul : List Nat → List Nat → List Nat
  | [], m => m
  | x :: l, m => ins x (mmul l m)

/-- a sum of signed monomials, sorted, where opposite ones have been struck -/
abbrev NF := List (Bool × List Nat)

def put (t : Bool × List Nat) : NF → NF
  | [] => [t]
  | u :: l => if t.2 = u.2 then (if t.1 = u.1 then t :: u :: l else l)
    else if mlt t.2 u.2 then t :: u :: l else u :: put t l

def padd : NF → NF → NF
  | [], q => q
  | t :: p, q => put t (padd p q)

def pneg : NF → NF
  | [] => []
  | t :: p => (!t.1, t.2) :: pneg p

def tmul (t : Bool × List Nat) : NF → NF
  | [] => []
  | u :: q => put (t.1 == u.1, mmul t.2 u.2) (tmul t q)

def pmul : NF → NF → NF
  | [], _ => []
  | t :: p, q => padd (tmul t q) (pmul p q)

def norm : RE → NF
  | v i => [(true, [i])]
  | zero => []
  | one => [(true, [])]
  | add a b => padd (norm a) (norm b)
  | mul a b => pmul (norm a) (norm b)
  | neg a => pneg (norm a)
  | sub a b => padd (norm a) (pneg (norm b))

section
variable {R : Type} [CR R]

def get : List R → Nat → R
  | [], _ => 0
  | a :: _, 0 => a
  | _ :: l, n + 1 => get l n

def eval (ρ : List R) : RE → R
  | v i => get ρ i
  | zero => 0
  | one => 1
  | add a b => eval ρ a + eval ρ b
  | mul a b => eval ρ a * eval ρ b
  | neg a => - eval ρ a
  | sub a b => eval ρ a - eval ρ b

def mev (ρ : List R) : List Nat → R
  | [] => 1
  | i :: l => get ρ i * mev ρ l

def tev (ρ : List R) (t : Bool × List Nat) : R := if t.1 then mev ρ t.2 else - mev ρ t.2

def pev (ρ : List R) : NF → R
  | [] => 0
  | t :: p => tev ρ t + pev ρ p

variable (ρ : List R)

theorem mev_ins (x : Nat) (l : List Nat) : mev ρ (ins x l) = get ρ x * mev ρ l := by
  induction l with
  | nil => rfl
  | cons y l ih =>
    simp only [ins]
    split
    · rfl
    · simp only [mev, ih]; rw [mul_left_comm]

theorem mev_mmul (l m : List Nat) : mev ρ (mmul l m) = mev ρ l * mev ρ m := by
  induction l with
  | nil => simp only [mmul, mev, one_mul]
  | cons x l ih => simp only [mmul, mev, mev_ins, ih, mul_assoc]

theorem pev_put (t : Bool × List Nat) (p : NF) : pev ρ (put t p) = tev ρ t + pev ρ p := by
  induction p with
  | nil => rfl
  | cons u l ih =>
    simp only [put]
    split
    · rename_i h
      split
      · rfl
      · rename_i h2
        simp only [pev]
        rw [← add_assoc]
        have : tev ρ t + tev ρ u = 0 := by
          unfold tev; rw [h]
          cases h3 : t.1 <;> cases h4 : u.1 <;> simp_all [neg_add, add_neg]
        rw [this, zero_add]
    · split
      · rfl
      · simp only [pev, ih]; rw [add_left_comm]

theorem pev_padd (p q : NF) : pev ρ (padd p q) = pev ρ p + pev ρ q := by
  induction p with
  | nil => simp only [padd, pev, zero_add]
  | cons t p ih => simp only [padd, pev_put, ih, pev, add_assoc]

theorem pev_pneg (p : NF) : pev ρ (pneg p) = - pev ρ p := by
  induction p with
  | nil => simp only [pneg, pev, neg_zero]
  | cons t p ih =>
    simp only [pneg, pev, ih, neg_add_rev]
    congr 1
    unfold tev
    cases h : t.1 <;> simp [neg_neg]

theorem pev_tmul (t : Bool × List Nat) (q : NF) : pev ρ (tmul t q) = tev ρ t * pev ρ q := by
  induction q with
  | nil => simp only [tmul, pev, mul_zero]
  | cons u q ih =>
    simp only [tmul, pev_put, ih, pev, mul_add]
    congr 1
    unfold tev
    cases h : t.1 <;> cases h2 : u.1 <;> simp [mev_mmul, neg_mul, mul_neg, neg_neg]

theorem pev_pmul (p q : NF) : pev ρ (pmul p q) = pev ρ p * pev ρ q := by
  induction p with
  | nil => simp only [pmul, pev, zero_mul]
  | cons t p ih => simp only [pmul, pev_padd, pev_tmul, ih, pev, add_mul]

theorem pev_norm (e : RE) : pev ρ (norm e) = eval ρ e := by
  induction e with
  | v i => simp [norm, pev, tev, mev, eval, mul_one, add_zero]
  | zero => rfl
  | one => simp [norm, pev, tev, mev, eval, add_zero]
  | add a b iha ihb => simp only [norm, pev_padd, iha, ihb, eval]
  | mul a b iha ihb => simp only [norm, pev_pmul, iha, ihb, eval]
  | neg a ih => simp only [norm, pev_pneg, ih, eval]
  | sub a b iha ihb => simp only [norm, pev_padd, pev_pneg, iha, ihb, eval, sub_eq]

end
end RE

/-- an identity of commutative rings, by the normal forms of both sides -/
theorem ring_id {R : Type} [CR R] (ρ : List R) (a b : RE) (h : RE.norm a = RE.norm b) : RE.eval ρ a = RE.eval ρ b := by
  rw [← RE.pev_norm, ← RE.pev_norm, h]

abbrev x0 : RE := .v 0
abbrev x1 : RE := .v 1
abbrev x2 : RE := .v 2
abbrev x3 : RE := .v 3
abbrev x4 : RE := .v 4
abbrev x5 : RE := .v 5
abbrev x6 : RE := .v 6
abbrev x7 : RE := .v 7
abbrev x8 : RE := .v 8
abbrev x9 : RE := .v 9

example {R : Type} [CR R] (a b c : R) : (a - b) * (a + b) + c = c + a * a - b * b :=
  ring_id [a, b, c] ((x0 - x1) * (x0 + x1) + x2) (x2 + x0 * x0 - x1 * x1) rfl

end CW
end Go.Proofs.Yticgblagimmlfaa

namespace Go.Proofs.Yticgblagimmlfaa
namespace CW
set_option linter.unusedVariables false
set_option linter.unusedSimpArgs false

def PS (R : Type) : Type := Nat → R
namespace PS
section
variable {R : Type} [CR R]
def sh (p : PS R) : PS R := fun i => p (i + 1)
def conv : Nat → PS R → PS R → R
  | 0, p, q => p 0 * q 0
  | n + 1, p, q => p 0 * q (n + 1) + conv n (sh p) q
def addS (p q : PS R) : PS R := fun i => p i + q i
def negS (p : PS R) : PS R := fun i => - p i
def mulS (p q : PS R) : PS R := fun n => conv n p q
def C (a : R) : PS R := fun i => match i with | 0 => a | _ + 1 => 0
def X : PS R := fun i => match i with | 1 => 1 | _ => 0
def sc (a : R) (p : PS R) : PS R := fun i => a * p i

theorem conv_add_left (n : Nat) : ∀ p q r : PS R, conv n (addS p q) r = conv n p r + conv n q r := by
  induction n with
  | zero => intro p q r; simp only [conv, addS, add_mul]
  | succ n ih =>
    intro p q r
    have h := ih (sh p) (sh q) r
    simp only [conv]
    rw [show sh (addS p q) = addS (sh p) (sh q) from rfl, h]
    show (p 0 + q 0) * _ + _ = _
    exact ring_id [p 0, q 0, r (n + 1), conv n (sh p) r, conv n (sh q) r] ((x0 + x1) * x2 + (x3 + x4)) (x0 * x2 + x3 + (x1 * x2 + x4)) rfl
theorem conv_zero_left (n : Nat) : ∀ q : PS R, conv n (fun _ => 0) q = 0 := by
  induction n with
  | zero => intro q; exact zero_mul _
  | succ n ih =>
    intro q
    have h := ih q
    simp only [conv]
    rw [show sh (fun _ => (0 : R)) = fun _ => 0 from rfl, h, zero_mul, zero_add]
theorem conv_C (n : Nat) (a : R) (q : PS R) : conv n (C a) q = a * q n := by
  cases n with
  | zero => rfl
  | succ n =>
    simp only [conv]
    rw [show sh (C a) = fun _ => (0 : R) from rfl, conv_zero_left, add_zero]; rfl
theorem conv_sc (n : Nat) (a : R) : ∀ p q : PS R, conv n (sc a p) q = a * conv n p q := by
  induction n with
  | zero => intro p q; exact mul_assoc _ _ _
  | succ n ih =>
    intro p q
    have h := ih (sh p) q
    simp only [conv]
    rw [show sh (sc a p) = sc a (sh p) from rfl, h, mul_add, ← mul_assoc]; rfl
theorem conv_right (n : Nat) : ∀ p q : PS R, conv (n + 1) p q = p (n + 1) * q 0 + conv n p (sh q) := by
  induction n with
  | zero => intro p q; show p 0 * q 1 + p 1 * q 0 = p 1 * q 0 + p 0 * q 1; exact add_comm _ _
  | succ n ih =>
    intro p q
    have h := ih (sh p) q
    rw [conv, h]
    show p 0 * q (n + 2) + (p (n + 2) * q 0 + _) = p (n + 2) * q 0 + (p 0 * q (n + 2) + _)
    exact add_left_comm _ _ _
theorem conv_comm (n : Nat) : ∀ p q : PS R, conv n p q = conv n q p := by
  induction n with
  | zero => intro p q; exact mul_comm _ _
  | succ n ih =>
    intro p q
    rw [conv_right n q p, ← ih (sh p) q, mul_comm (q (n + 1))]; rfl
theorem conv_assoc (n : Nat) : ∀ p q r : PS R, conv n (mulS p q) r = conv n p (mulS q r) := by
  induction n with
  | zero => intro p q r; exact mul_assoc _ _ _
  | succ n ih =>
    intro p q r
    have e : sh (mulS p q) = addS (sc (p 0) (sh q)) (mulS (sh p) q) := rfl
    have h := ih (sh p) q r
    simp only [conv]
    rw [e, conv_add_left, conv_sc, h]
    show p 0 * q 0 * r (n + 1) + _ = p 0 * (q 0 * r (n + 1) + conv n (sh q) r) + _
    exact ring_id [p 0, q 0, r (n + 1), conv n (sh q) r, conv n (sh p) (mulS q r)] (x0 * x1 * x2 + (x0 * x3 + x4)) (x0 * (x1 * x2 + x3) + x4) rfl

instance : CR (PS R) where
  add := addS
  mul := mulS
  neg := negS
  zero := fun _ => 0
  one := C 1
  add_comm' a b := funext fun i => add_comm _ _
  add_assoc' a b c := funext fun i => add_assoc _ _ _
  zero_add' a := funext fun i => zero_add _
  neg_add' a := funext fun i => neg_add _
  mul_comm' a b := funext fun i => conv_comm i a b
  mul_assoc' a b c := funext fun i => conv_assoc i a b c
  one_mul' a := funext fun i => (conv_C i 1 a).trans (one_mul _)
  add_mul' a b c := funext fun i => conv_add_left i a b c

theorem add_at (p q : PS R) (i : Nat) : (p + q) i = p i + q i := rfl
theorem neg_at (p : PS R) (i : Nat) : (-p) i = - p i := rfl
theorem sub_at (p q : PS R) (i : Nat) : (p - q) i = p i - q i := rfl
theorem zero_at (i : Nat) : (0 : PS R) i = 0 := rfl
theorem C_succ_at (a : R) (i : Nat) : (C a : PS R) (i + 1) = 0 := rfl
theorem one_eq : (1 : PS R) = C 1 := rfl
theorem C_mul_at (a : R) (q : PS R) (i : Nat) : (C a * q) i = a * q i := conv_C i a q
theorem mul_zero_at (p q : PS R) : (p * q) 0 = p 0 * q 0 := rfl
theorem mul_succ_at (p q : PS R) (n : Nat) : (p * q) (n + 1) = p 0 * q (n + 1) + (sh p * q) n := rfl
theorem sh_mul (p q : PS R) : sh (p * q) = C (p 0) * sh q + sh p * q := by
  funext n
  show _ = (C (p 0) * sh q) n + (sh p * q) n
  rw [C_mul_at]; rfl
theorem sh_add (p q : PS R) : sh (p + q) = sh p + sh q := rfl
theorem sh_neg (p : PS R) : sh (-p) = - sh p := rfl
theorem X_mul_zero (q : PS R) : ((X : PS R) * q) 0 = 0 := by rw [mul_zero_at]; exact zero_mul _
theorem sh_X : sh (X : PS R) = 1 := by funext i; cases i <;> rfl
theorem X_mul_succ (q : PS R) (i : Nat) : ((X : PS R) * q) (i + 1) = q i := by
  rw [mul_succ_at, sh_X, one_mul, show (X : PS R) 0 = 0 from rfl, zero_mul, zero_add]
theorem split0 (p : PS R) : p = C (p 0) + X * sh p := by
  funext i
  cases i with
  | zero => rw [add_at, X_mul_zero, add_zero]; rfl
  | succ i => rw [add_at, X_mul_succ]; exact (zero_add _).symm
theorem C_add (a b : R) : C (a + b) = C a + C b := by funext i; cases i; rfl; exact (zero_add _).symm
theorem C_neg (a : R) : C (-a) = - C a := by funext i; cases i; rfl; exact neg_zero.symm
theorem C_mul (a b : R) : C (a * b) = C a * C b := by
  funext i
  rw [C_mul_at]
  cases i
  · rfl
  · exact (mul_zero _).symm
theorem C_zero : (C (0 : R) : PS R) = 0 := by funext i; cases i <;> rfl

/-- All coefficients from n on are 0. -/
def Dg (p : PS R) (n : Nat) : Prop := ∀ i, n ≤ i → p i = 0
theorem Dg.mono {p : PS R} {m n : Nat} (h : Dg p m) (hl : m ≤ n) : Dg p n := fun i hi => h i (by omega)
theorem Dg.add {p q : PS R} {n : Nat} (h : Dg p n) (k : Dg q n) : Dg (p + q) n := fun i hi => by rw [add_at, h i hi, k i hi, add_zero]
theorem Dg.neg {p : PS R} {n : Nat} (h : Dg p n) : Dg (-p) n := fun i hi => by rw [neg_at, h i hi, neg_zero]
theorem Dg.sub {p q : PS R} {n : Nat} (h : Dg p n) (k : Dg q n) : Dg (p - q) n := h.add k.neg
theorem Dg.sh {p : PS R} {n : Nat} (h : Dg p (n + 1)) : Dg (sh p) n := fun i hi => h (i + 1) (by omega)
theorem Dg.zero (n : Nat) : Dg (0 : PS R) n := fun _ _ => rfl
theorem Dg.eq_zero {p : PS R} (h : Dg p 0) : p = 0 := funext fun i => h i (by omega)
theorem Dg.C (a : R) : Dg (C a) 1 := fun i hi => by
  obtain ⟨k, rfl⟩ : ∃ k, i = k + 1 := ⟨i - 1, by omega⟩
  rfl
theorem Dg.one : Dg (1 : PS R) 1 := Dg.C 1
theorem Dg.X : Dg (X : PS R) 2 := fun i hi => by
  obtain ⟨k, rfl⟩ : ∃ k, i = k + 2 := ⟨i - 2, by omega⟩
  rfl
theorem Dg.const {p : PS R} (h : Dg p 1) : p = PS.C (p 0) := by
  funext i
  cases i with
  | zero => rfl
  | succ i => exact h (i + 1) (by omega)
theorem Dg.mul (m b : Nat) : ∀ {p q : PS R}, Dg p m → Dg q (b + 1) → Dg (p * q) (m + b) := by
  induction m with
  | zero => intro p q h k; rw [h.eq_zero, zero_mul]; exact Dg.zero _
  | succ m ih =>
    intro p q h k i hi
    obtain ⟨j, rfl⟩ : ∃ j, i = j + 1 := ⟨i - 1, by omega⟩
    rw [mul_succ_at, k (j + 1) (by omega), mul_zero, ih h.sh k j (by omega), zero_add]
theorem Dg.mul' {m n : Nat} {p q : PS R} (h : Dg p m) (k : Dg q n) : Dg (p * q) (m + n) :=
  (Dg.mul m n h (k.mono (by omega)))
theorem mul_top (a b : Nat) : ∀ {p q : PS R}, Dg p (a + 1) → Dg q (b + 1) → (p * q) (a + b) = p a * q b := by
  induction a with
  | zero =>
    intro p q h k
    rw [h.const, Nat.zero_add, C_mul_at]; rfl
  | succ a ih =>
    intro p q h k
    rw [show a + 1 + b = (a + b) + 1 from by omega, mul_succ_at, k (a + b + 1) (by omega), mul_zero, zero_add, ih h.sh k]; rfl
theorem Dg.X_mul {p : PS R} {n : Nat} (h : Dg p n) : Dg (PS.X * p) (n + 1) := fun i hi => by
  obtain ⟨j, rfl⟩ : ∃ j, i = j + 1 := ⟨i - 1, by omega⟩
  rw [X_mul_succ]; exact h j (by omega)
theorem Dg.C_mul {p : PS R} {n : Nat} (a : R) (h : Dg p n) : Dg (PS.C a * p) n := fun i hi => by rw [C_mul_at, h i hi, mul_zero]

/-- The value. -/
def ev : Nat → PS R → R → R
  | 0, _, _ => 0
  | n + 1, p, x => p 0 + x * ev n (sh p) x
theorem ev_zero (n : Nat) (x : R) : ev n (0 : PS R) x = 0 := by
  induction n with
  | zero => rfl
  | succ n ih => rw [ev, show sh (0 : PS R) = 0 from rfl, ih, mul_zero, zero_at, add_zero]
theorem ev_mono {p : PS R} {n : Nat} (x : R) : ∀ {m : Nat} {p : PS R}, Dg p n → n ≤ m → ev m p x = ev n p x := by
  induction n with
  | zero => intro m p h _; rw [h.eq_zero, ev_zero]; rfl
  | succ n ih =>
    intro m p h hm
    obtain ⟨m, rfl⟩ : ∃ k, m = k + 1 := ⟨m - 1, by omega⟩
    rw [ev, ev, ih h.sh (by omega)]
open Classical in
/-- The value of a polynomial. -/
noncomputable def pv (p : PS R) (x : R) : R := if h : ∃ n, Dg p n then ev h.choose p x else 0
theorem pv_eq {p : PS R} {n : Nat} (h : Dg p n) (x : R) : pv p x = ev n p x := by
  have hx : ∃ n, Dg p n := ⟨n, h⟩
  unfold pv
  rw [dif_pos hx]
  rw [← ev_mono (p := p) (m := max n hx.choose) x hx.choose_spec (by omega), ev_mono (p := p) x h (by omega)]
theorem ev_add (n : Nat) (x : R) : ∀ p q : PS R, ev n (p + q) x = ev n p x + ev n q x := by
  induction n with
  | zero => intro p q; exact (zero_add _).symm
  | succ n ih =>
    intro p q
    rw [ev, ev, ev, sh_add, ih, add_at]
    exact ring_id [p 0, q 0, x, ev n (sh p) x, ev n (sh q) x] (x0 + x1 + x2 * (x3 + x4)) (x0 + x2 * x3 + (x1 + x2 * x4)) rfl
theorem ev_neg (n : Nat) (x : R) : ∀ p : PS R, ev n (-p) x = - ev n p x := by
  induction n with
  | zero => intro p; exact neg_zero.symm
  | succ n ih =>
    intro p
    rw [ev, ev, sh_neg, ih, neg_at]
    exact ring_id [p 0, x, ev n (sh p) x] (-x0 + x1 * -x2) (-(x0 + x1 * x2)) rfl
theorem ev_C (n : Nat) (a x : R) : ev (n + 1) (C a) x = a := by
  rw [ev, show sh (C a) = (0 : PS R) from rfl, ev_zero, mul_zero, add_zero]; rfl
theorem ev_C_mul (n : Nat) (a x : R) : ∀ p : PS R, ev n (C a * p) x = a * ev n p x := by
  induction n with
  | zero => intro p; exact (mul_zero _).symm
  | succ n ih =>
    intro p
    have e : sh (C a * p) = C a * sh p := by funext i; rw [C_mul_at]; exact C_mul_at a p (i + 1)
    rw [ev, ev, e, ih, C_mul_at]
    exact ring_id [a, p 0, x, ev n (sh p) x] (x0 * x1 + x2 * (x0 * x3)) (x0 * (x1 + x2 * x3)) rfl
theorem ev_mul (x : R) (m : Nat) : ∀ {n : Nat} {p q : PS R}, Dg p m → Dg q n → ev (m + n) (p * q) x = ev m p x * ev n q x := by
  induction m with
  | zero => intro n p q h k; rw [h.eq_zero, zero_mul, ev_zero, ev, zero_mul]
  | succ m ih =>
    intro n p q h k
    rw [show m + 1 + n = (m + n) + 1 from by omega, ev, sh_mul, ev_add, ih h.sh k, ev_C_mul, mul_zero_at]
    have e : ev (m + n + 1) q x = ev n q x := ev_mono (p := p) x k (by omega)
    rw [ev] at e
    rw [← e]
    have e2 := e
    conv => rhs; rw [ev]
    have e3 : ev (m + n) q x = ev n q x := ev_mono (p := p) x k (by omega)
    rw [← e3] at e2
    rw [e, ← e3, ← e2]
    exact ring_id [p 0, q 0, x, ev (m + n) (sh q) x, ev m (sh p) x] (x0 * x1 + x2 * (x0 * x3 + x4 * (x1 + x2 * x3))) ((x0 + x2 * x4) * (x1 + x2 * x3)) rfl
theorem pv_add {p q : PS R} {m n : Nat} (h : Dg p m) (k : Dg q n) (x : R) : pv (p + q) x = pv p x + pv q x := by
  have h' : Dg p (max m n) := h.mono (by omega)
  have k' : Dg q (max m n) := k.mono (by omega)
  rw [pv_eq (h'.add k'), pv_eq h', pv_eq k', ev_add]
theorem pv_neg {p : PS R} {m : Nat} (h : Dg p m) (x : R) : pv (-p) x = - pv p x := by
  rw [pv_eq h.neg, pv_eq h, ev_neg]
theorem pv_sub {p q : PS R} {m n : Nat} (h : Dg p m) (k : Dg q n) (x : R) : pv (p - q) x = pv p x - pv q x := by
  rw [sub_eq, pv_add h k.neg, pv_neg k]; rfl
theorem pv_mul {p q : PS R} {m n : Nat} (h : Dg p m) (k : Dg q n) (x : R) : pv (p * q) x = pv p x * pv q x := by
  rw [pv_eq (h.mul' k), pv_eq h, pv_eq k, ev_mul x m h k]
theorem pv_C (a x : R) : pv (C a) x = a := by rw [pv_eq (Dg.C a)]; exact ev_C 0 a x
theorem pv_zero (x : R) : pv (0 : PS R) x = 0 := by rw [pv_eq (Dg.zero 0)]; rfl
theorem pv_one (x : R) : pv (1 : PS R) x = 1 := pv_C 1 x
theorem pv_X (x : R) : pv (X : PS R) x = x := by
  rw [pv_eq Dg.X]
  show (0 : R) + x * (1 + x * 0) = x
  rw [mul_zero, add_zero, mul_one, zero_add]
theorem pv_C_mul {p : PS R} {n : Nat} (h : Dg p n) (a x : R) : pv (C a * p) x = a * pv p x := by rw [pv_mul (Dg.C a) h, pv_C]

/-- Division by X - a. -/
theorem div_lin (a : R) (n : Nat) : ∀ {p : PS R}, Dg p (n + 1) → ∃ q, Dg q n ∧ p = (X - C a) * q + C (ev (n + 1) p a) := by
  induction n with
  | zero =>
    intro p h
    refine ⟨0, Dg.zero 0, ?_⟩
    rw [mul_zero, zero_add, show ev (0 + 1) p a = p 0 + a * 0 from rfl, mul_zero, add_zero]
    exact h.const
  | succ n ih =>
    intro p h
    obtain ⟨q, hq, e⟩ := ih h.sh
    refine ⟨X * q + C (ev (n + 1) (sh p) a), ?_, ?_⟩
    · exact hq.X_mul.add ((Dg.C _).mono (by omega))
    · obtain ⟨c, hc⟩ : ∃ c, ev (n + 1) (sh p) a = c := ⟨_, rfl⟩
      rw [hc] at e ⊢
      rw [ev, hc, C_add, C_mul]
      conv => lhs; rw [split0 p, e]
      exact ring_id [C (p 0), X, C a, q, C c] (x0 + x1 * ((x1 - x2) * x3 + x4)) ((x1 - x2) * (x1 * x3 + x4) + (x0 + x2 * x4)) rfl
theorem div_lin_pv (a : R) {n : Nat} {p : PS R} (h : Dg p (n + 1)) : ∃ q, Dg q n ∧ p = (X - C a) * q + C (pv p a) := by
  rw [pv_eq h]; exact div_lin a n h
end
end PS

class Fd (F : Type) extends CR F where
  inv : F → F
  mul_inv' : ∀ a : F, a ≠ CR.zero → CR.mul a (inv a) = CR.one
  zero_ne_one' : (CR.zero : F) ≠ CR.one
section
variable {F : Type} [Fd F]
def finv (a : F) : F := Fd.inv a
theorem mul_finv {a : F} (h : a ≠ 0) : a * finv a = 1 := Fd.mul_inv' a h
theorem finv_mul {a : F} (h : a ≠ 0) : finv a * a = 1 := by rw [mul_comm, mul_finv h]
theorem one_ne_zero : (1 : F) ≠ 0 := fun h => Fd.zero_ne_one' h.symm
theorem mul_eq_zero {a b : F} (h : a * b = 0) : a = 0 ∨ b = 0 := by
  by_cases ha : a = 0
  · exact .inl ha
  · right
    rw [← one_mul b, ← finv_mul ha, mul_assoc, h, mul_zero]
theorem mul_ne_zero {a b : F} (ha : a ≠ 0) (hb : b ≠ 0) : a * b ≠ 0 := fun h => (mul_eq_zero h).elim ha hb
theorem mul_left_cancel {a b c : F} (ha : a ≠ 0) (h : a * b = a * c) : b = c := by
  rw [← one_mul b, ← one_mul c, ← finv_mul ha, mul_assoc, mul_assoc, h]
theorem finv_unique {a b : F} (h : a * b = 1) : b = finv a := by
  have ha : a ≠ 0 := fun e => one_ne_zero (F := F) (by rw [← h, e, zero_mul])
  exact mul_left_cancel ha (by rw [h, mul_finv ha])
theorem sub_ne_zero {a b : F} (h : a ≠ b) : a - b ≠ 0 := fun e => h (eq_of_sub_eq_zero e)

namespace PS
/-- A polynomial of a degree below n with n roots is 0. -/
theorem zero_of_roots (n : Nat) : ∀ {p : PS F} (l : List F), Dg p n → l.Nodup → n ≤ l.length → (∀ x ∈ l, pv p x = 0) → p = 0 := by
  induction n with
  | zero => intro p l h _ _ _; exact h.eq_zero
  | succ n ih =>
    intro p l h hn hl hr
    cases l with
    | nil => simp at hl
    | cons a l =>
      obtain ⟨q, hq, e⟩ := div_lin_pv a h
      rw [hr a List.mem_cons_self, C_zero, add_zero] at e
      rw [List.nodup_cons] at hn
      have hz : q = 0 := ih l hq hn.2 (by simpa using hl) (fun x hx => by
        have h1 := hr x (List.mem_cons_of_mem _ hx)
        rw [e, pv_mul ((Dg.X).sub ((Dg.C a).mono (by omega))) hq, pv_sub Dg.X (Dg.C a), pv_X, pv_C] at h1
        refine (mul_eq_zero h1).resolve_left (sub_ne_zero ?_)
        rintro rfl
        exact hn.1 hx)
      rw [e, hz, mul_zero]
/-- An integral domain. -/
theorem exists_top {p : PS F} {n : Nat} (h : Dg p n) (hp : p ≠ 0) : ∃ d, d < n ∧ Dg p (d + 1) ∧ p d ≠ 0 := by
  induction n with
  | zero => exact absurd h.eq_zero hp
  | succ n ih =>
    by_cases h0 : p n = 0
    · obtain ⟨d, h1, h2, h3⟩ := ih (fun i hi => by
        by_cases e : i = n
        · rw [e]; exact h0
        · exact h i (by omega))
      exact ⟨d, by omega, h2, h3⟩
    · exact ⟨n, by omega, h, h0⟩
theorem mul_eq_zero {p q : PS F} {m n : Nat} (hp : Dg p m) (hq : Dg q n) (h : p * q = 0) : p = 0 ∨ q = 0 := by
  by_cases h1 : p = 0
  · exact .inl h1
  by_cases h2 : q = 0
  · exact .inr h2
  obtain ⟨a, -, ha, ha0⟩ := exists_top hp h1
  obtain ⟨b, -, hb, hb0⟩ := exists_top hq h2
  have := mul_top a b ha hb
  rw [h] at this
  exact absurd this.symm (mul_ne_zero ha0 hb0)
theorem mul_left_cancel {p q r : PS F} {m n : Nat} (hp : Dg p m) (h0 : p ≠ 0) (hq : Dg q n) (hr : Dg r n) (h : p * q = p * r) : q = r := by
  refine eq_of_sub_eq_zero ((mul_eq_zero hp (hq.sub hr) ?_).resolve_left h0)
  have : p * (q - r) = p * q - p * r := ring_id [p, q, r] (x0 * (x1 - x2)) (x0 * x1 - x0 * x2) rfl
  rw [this, h, sub_self]
end PS
end
end CW
end Go.Proofs.Yticgblagimmlfaa

namespace Go.Proofs.Yticgblagimmlfaa
namespace CW
set_option linter.unusedVariables false
set_option linter.unusedSimpArgs false

theorem nodup_length_le {α : Type} [DecidableEq α] : ∀ (a b : List α), a.Nodup → (∀ x ∈ a, x ∈ b) → a.length ≤ b.length
  | [], _, _, _ => by simp
  | x :: a, b, hn, hs => by
    rw [List.nodup_cons] at hn
    have h := nodup_length_le a (b.erase x) hn.2 (fun y hy => by
      have hne : y ≠ x := fun e => hn.1 (e ▸ hy)
      rw [List.mem_erase_of_ne hne]
      exact hs y (List.mem_cons_of_mem _ hy))
    have hx := hs x List.mem_cons_self
    rw [List.length_erase_of_mem hx] at h
    have := List.length_pos_of_mem hx
    simp only [List.length_cons]
    omega
theorem nodup_all {α : Type} [DecidableEq α] (a b : List α) (hn : a.Nodup) (hs : ∀ x ∈ a, x ∈ b) (hl : b.length ≤ a.length) : ∀ x ∈ b, x ∈ a := by
  intro x hx
  refine Classical.byContradiction fun h => ?_
  have := nodup_length_le (x :: a) b (List.nodup_cons.2 ⟨h, hn⟩) (fun y hy => by
    rcases List.mem_cons.1 hy with rfl | hy
    · exact hx
    · exact hs y hy)
  simp only [List.length_cons] at this
  omega
theorem nodup_map_inj {α β : Type} (f : α → β) : ∀ (l : List α), (∀ x ∈ l, ∀ y ∈ l, f x = f y → x = y) → l.Nodup → (l.map f).Nodup
  | [], _, _ => by simp
  | a :: l, hf, hn => by
    rw [List.nodup_cons] at hn
    rw [List.map_cons, List.nodup_cons]
    refine ⟨fun h => ?_, nodup_map_inj f l (fun x hx y hy => hf x (List.mem_cons_of_mem _ hx) y (List.mem_cons_of_mem _ hy)) hn.2⟩
    obtain ⟨y, hy, e⟩ := List.mem_map.1 h
    have := hf y (List.mem_cons_of_mem _ hy) a List.mem_cons_self e
    exact hn.1 (this ▸ hy)
theorem finite_inv {R : Type} [CR R] [DecidableEq R] (l : List R) (hn : l.Nodup) (hl : ∀ x, x ∈ l) (dom : ∀ a b : R, a * b = 0 → a = 0 ∨ b = 0) (a : R) (ha : a ≠ 0) : ∃ b, a * b = 1 := by
  have h1 : (l.map (fun b => a * b)).Nodup := nodup_map_inj _ l (fun x _ y _ e => by
    have : a * (x - y) = 0 := by
      rw [show a * (x - y) = a * x - a * y from ring_id [a, x, y] (x0 * (x1 - x2)) (x0 * x1 - x0 * x2) rfl, show a * x = a * y from e, sub_self]
    exact eq_of_sub_eq_zero ((dom _ _ this).resolve_left ha)) hn
  have h2 := nodup_all _ l h1 (fun x _ => hl x) (by simp) 1 (hl 1)
  obtain ⟨b, -, e⟩ := List.mem_map.1 h2
  exact ⟨b, e⟩
theorem exists_min (Q : Nat → Prop) (h : ∃ n, Q n) : ∃ n, Q n ∧ ∀ m, m < n → ¬ Q m := by
  obtain ⟨n, hn⟩ := h
  induction n using Nat.strongRecOn with
  | ind n ih =>
    by_cases hm : ∃ m, m < n ∧ Q m
    · obtain ⟨m, h1, h2⟩ := hm
      exact ih m h1 h2
    · exact ⟨n, hn, fun m hlt hq => hm ⟨m, hlt, hq⟩⟩

namespace PS
section
variable {R : Type} [CR R]
/-- x^k times p. -/
def shl (k : Nat) (p : PS R) : PS R := fun i => if i < k then 0 else p (i - k)
def mon (k : Nat) : PS R := shl k 1
theorem shl_zero (p : PS R) : shl 0 p = p := by funext i; simp [shl]
theorem shl_succ (k : Nat) (p : PS R) : shl (k + 1) p = X * shl k p := by
  funext i
  cases i with
  | zero => rw [X_mul_zero]; simp [shl]
  | succ i =>
    rw [X_mul_succ]
    simp only [shl]
    by_cases h : i < k
    · rw [if_pos h, if_pos (by omega)]
    · rw [if_neg h, if_neg (by omega), show i + 1 - (k + 1) = i - k from by omega]
theorem shl_eq (k : Nat) (p : PS R) : shl k p = mon k * p := by
  induction k with
  | zero => rw [shl_zero, mon, shl_zero, one_mul]
  | succ k ih => rw [shl_succ, ih, mon, mon, shl_succ, mul_assoc]
theorem mon_mul_at (k : Nat) (p : PS R) (i : Nat) : ((mon k : PS R) * p) i = if i < k then 0 else p (i - k) := by rw [← shl_eq]; rfl
theorem Dg.mon (k : Nat) : Dg (mon k : PS R) (k + 1) := fun i hi => by
  show (if i < k then (0 : R) else (1 : PS R) (i - k)) = 0
  rw [if_neg (by omega)]
  exact Dg.one _ (by omega)
theorem Dg.mon_mul {p : PS R} {n : Nat} (k : Nat) (h : Dg p n) : Dg (PS.mon k * p) (k + n) := fun i hi => by
  rw [mon_mul_at]
  split
  · rfl
  · exact h _ (by omega)
theorem mon_at (k i : Nat) : (mon k : PS R) i = if i = k then 1 else 0 := by
  show (if i < k then (0 : R) else (1 : PS R) (i - k)) = _
  by_cases h : i < k
  · rw [if_pos h, if_neg (by omega)]
  · rw [if_neg h]
    by_cases e : i = k
    · subst e; rw [if_pos rfl, Nat.sub_self]; rfl
    · rw [if_neg e]; exact Dg.one _ (by omega)
theorem mon_zero : (mon 0 : PS R) = 1 := shl_zero 1
theorem mon_succ (k : Nat) : (mon (k + 1) : PS R) = X * mon k := shl_succ k 1
theorem mon_add (a b : Nat) : (mon (a + b) : PS R) = mon a * mon b := by
  induction a with
  | zero => rw [Nat.zero_add, mon_zero, one_mul]
  | succ a ih => rw [show a + 1 + b = (a + b) + 1 from by omega, mon_succ, mon_succ, ih, mul_assoc]

/-- Equal modulo multiples of f. -/
def Cg (f p q : PS R) : Prop := ∃ h n, Dg h n ∧ p - q = h * f
theorem Cg.refl (f p : PS R) : Cg f p p := ⟨0, 0, Dg.zero 0, by rw [sub_self, zero_mul]⟩
theorem Cg.of_eq {f p q : PS R} (h : p = q) : Cg f p q := h ▸ Cg.refl f p
theorem Cg.symm {f p q : PS R} (h : Cg f p q) : Cg f q p := by
  obtain ⟨a, n, ha, e⟩ := h
  refine ⟨-a, n, ha.neg, ?_⟩
  rw [neg_mul, ← e]
  exact ring_id [p, q] (x1 - x0) (-(x0 - x1)) rfl
theorem Cg.trans {f p q r : PS R} (h : Cg f p q) (k : Cg f q r) : Cg f p r := by
  obtain ⟨a, n, ha, e⟩ := h
  obtain ⟨b, m, hb, e2⟩ := k
  refine ⟨a + b, max n m, (ha.mono (by omega)).add (hb.mono (by omega)), ?_⟩
  rw [add_mul, ← e, ← e2]
  exact ring_id [p, q, r] (x0 - x2) (x0 - x1 + (x1 - x2)) rfl
theorem Cg.add {f p q p' q' : PS R} (h : Cg f p q) (k : Cg f p' q') : Cg f (p + p') (q + q') := by
  obtain ⟨a, n, ha, e⟩ := h
  obtain ⟨b, m, hb, e2⟩ := k
  refine ⟨a + b, max n m, (ha.mono (by omega)).add (hb.mono (by omega)), ?_⟩
  rw [add_mul, ← e, ← e2]
  exact ring_id [p, q, p', q'] (x0 + x2 - (x1 + x3)) (x0 - x1 + (x2 - x3)) rfl
theorem Cg.neg {f p q : PS R} (h : Cg f p q) : Cg f (-p) (-q) := by
  obtain ⟨a, n, ha, e⟩ := h
  refine ⟨-a, n, ha.neg, ?_⟩
  rw [neg_mul, ← e]
  exact ring_id [p, q] (-x0 - -x1) (-(x0 - x1)) rfl
theorem Cg.sub {f p q p' q' : PS R} (h : Cg f p q) (k : Cg f p' q') : Cg f (p - p') (q - q') := h.add k.neg
theorem Cg.mul_left {f p q : PS R} {n : Nat} {r : PS R} (hr : Dg r n) (h : Cg f p q) : Cg f (r * p) (r * q) := by
  obtain ⟨a, m, ha, e⟩ := h
  refine ⟨r * a, n + m, hr.mul' ha, ?_⟩
  rw [mul_assoc, ← e]
  exact ring_id [r, p, q] (x0 * x1 - x0 * x2) (x0 * (x1 - x2)) rfl
theorem Cg.mul_right {f p q : PS R} {n : Nat} {r : PS R} (hr : Dg r n) (h : Cg f p q) : Cg f (p * r) (q * r) := by
  rw [mul_comm p, mul_comm q]; exact h.mul_left hr
theorem Cg.mul {f p q p' q' : PS R} {n m : Nat} (hp' : Dg p' n) (hq : Dg q m) (h : Cg f p q) (k : Cg f p' q') : Cg f (p * p') (q * q') :=
  (h.mul_right hp').trans (k.mul_left hq)
theorem Cg.self (f : PS R) : Cg f f 0 := ⟨1, 1, Dg.one, by rw [sub_zero, one_mul]⟩
theorem exists_top' {p : PS R} {n : Nat} (h : Dg p n) (hp : p ≠ 0) : ∃ d, d < n ∧ Dg p (d + 1) ∧ p d ≠ 0 := by
  induction n with
  | zero => exact absurd h.eq_zero hp
  | succ n ih =>
    by_cases h0 : p n = 0
    · obtain ⟨d, h1, h2, h3⟩ := ih (fun i hi => by
        by_cases e : i = n
        · rw [e]; exact h0
        · exact h i (by omega))
      exact ⟨d, by omega, h2, h3⟩
    · exact ⟨n, by omega, h, h0⟩
/-- Residues are unique. -/
theorem Cg.uniq {f p q : PS R} {M : Nat} (hf : Dg f (M + 1)) (h1 : f M = 1) (hp : Dg p M) (hq : Dg q M) (h : Cg f p q) : p = q := by
  obtain ⟨a, n, ha, e⟩ := h
  by_cases h0 : a = 0
  · rw [h0, zero_mul] at e; exact eq_of_sub_eq_zero e
  · obtain ⟨d, -, hd, hd0⟩ := exists_top' ha h0
    have ht := mul_top d M hd hf
    rw [← e, hp.sub hq (d + M) (by omega), h1, mul_one] at ht
    exact absurd ht.symm hd0
end
section
variable {F : Type} [Fd F]
theorem zmul (g : PS F) : 0 * g + 0 = 0 := by rw [zero_mul, zero_add]
/-- Division with remainder. -/
theorem exists_div (g : PS F) (d : Nat) (hg : Dg g (d + 1)) (h0 : g d ≠ 0) (n : Nat) : ∀ p : PS F, Dg p n → ∃ h r, Dg h n ∧ Dg r d ∧ p = h * g + r := by
  induction n with
  | zero => intro p hp; exact ⟨0, 0, Dg.zero _, Dg.zero _, by rw [PS.zmul]; exact hp.eq_zero⟩
  | succ n ih =>
    intro p hp
    by_cases hd : n < d
    · exact ⟨(0 : PS F), p, Dg.zero _, hp.mono (by omega), by rw [zero_mul, zero_add]⟩
    · obtain ⟨c, hc⟩ : ∃ c, p n * finv (g d) = c := ⟨_, rfl⟩
      have hm : Dg (C c * mon (n - d) * g) (n + 1) := by
        rw [mul_assoc]
        exact ((Dg.mon_mul (n - d) hg).C_mul c).mono (by omega)
      have hq : Dg (p - C c * mon (n - d) * g) n := fun i hi => by
        by_cases e : i = n
        · subst e
          rw [sub_at, mul_assoc, C_mul_at, mon_mul_at, if_neg (by omega), show i - (i - d) = d from by omega, ← hc, mul_assoc, finv_mul h0, mul_one, sub_self]
        · exact hp.sub hm i (by omega)
      obtain ⟨h, r, hh, hr, e⟩ := ih _ hq
      refine ⟨h + C c * mon (n - d), r, ?_, hr, ?_⟩
      · exact (hh.mono (by omega)).add (((Dg.mon _).C_mul c).mono (by omega))
      · have : p = (p - C c * mon (n - d) * g) + C c * mon (n - d) * g := ring_id [p, C c * mon (n - d) * g] x0 (x0 - x1 + x1) rfl
        rw [this, e]
        exact ring_id [h, g, r, C c * mon (n - d)] (x0 * x1 + x2 + x3 * x1) ((x0 + x3) * x1 + x2) rfl
/-- No monic divisor of a degree from 1 to half of M. -/
def Irr (f : PS F) (M : Nat) : Prop := ∀ d, 1 ≤ d → 2 * d ≤ M → ∀ g, Dg g (d + 1) → g d = 1 → ∀ h n, Dg h n → f ≠ h * g
theorem cofactor {f g h : PS F} {M d n : Nat} (hf : Dg f (M + 1)) (h1 : f M = 1) (hg : Dg g (d + 1)) (hg1 : g d = 1) (hh : Dg h n) (e : f = h * g) : d ≤ M ∧ Dg h (M - d + 1) ∧ h (M - d) = 1 := by
  have h0 : h ≠ 0 := fun e0 => by
    rw [e, e0, zero_mul] at h1; exact one_ne_zero h1.symm
  obtain ⟨t, -, ht, ht0⟩ := exists_top hh h0
  have htop := mul_top t d ht hg
  rw [← e, hg1, mul_one] at htop
  have hle : t + d ≤ M := by
    refine Classical.byContradiction fun hn => ?_
    rw [hf (t + d) (by omega)] at htop
    exact ht0 htop.symm
  have hge : t + d = M := by
    refine Classical.byContradiction fun hn => ?_
    have := Dg.mul (t + 1) d ht hg
    rw [← e] at this
    rw [this M (by omega)] at h1
    exact one_ne_zero h1.symm
  have : M - d = t := by omega
  rw [this, ← htop, hge]
  exact ⟨by omega, ht, h1⟩
theorem dom_of_irr {f : PS F} {M : Nat} (hf : Dg f (M + 1)) (h1 : f M = 1) (hi : Irr f M) {a b : PS F} (ha : Dg a M) (hb : Dg b M) (h : Cg f (a * b) 0) : a = 0 ∨ b = 0 := by
  refine Classical.byContradiction fun hn => ?_
  have ha0 : a ≠ 0 := fun e => hn (.inl e)
  have hb0 : b ≠ 0 := fun e => hn (.inr e)
  have scale : ∀ {p : PS F} {m : Nat}, Dg p m → p ≠ 0 → Cg f (p * b) 0 → ∃ d, d < m ∧ ∃ g, Dg g (d + 1) ∧ g d = 1 ∧ Cg f (g * b) 0 := by
    intro p m hp hp0 hc
    obtain ⟨d, hd, hd1, hd0⟩ := exists_top hp hp0
    refine ⟨d, hd, C (finv (p d)) * p, hd1.C_mul _, ?_, ?_⟩
    · rw [C_mul_at, finv_mul hd0]
    · rw [mul_assoc]
      have := hc.mul_left (Dg.C (finv (p d)))
      rwa [mul_zero] at this
  obtain ⟨d0, hd0, g0, e1, e2, e3⟩ := scale ha ha0 h
  obtain ⟨d, ⟨g, hg, hg1, hgb⟩, hmin⟩ := exists_min (fun d => ∃ g, Dg g (d + 1) ∧ g d = 1 ∧ Cg f (g * b) 0) ⟨d0, g0, e1, e2, e3⟩
  have hdM : d < M := by
    refine Classical.byContradiction fun hx => ?_
    exact hmin d0 (by omega) ⟨g0, e1, e2, e3⟩
  have hd1 : 1 ≤ d := by
    refine Classical.byContradiction fun hx => ?_
    have : d = 0 := by omega
    subst this
    rw [hg.const, hg1, ← one_eq, one_mul] at hgb
    exact hb0 (hgb.uniq hf h1 hb (Dg.zero _))
  obtain ⟨q, r, hq, hr, e⟩ := exists_div g d hg (by rw [hg1]; exact one_ne_zero) (M + 1) f hf
  have hrb : Cg f (r * b) 0 := by
    have k1 : Cg f (f * b) 0 := by
      have := (Cg.self f).mul_right hb
      rwa [zero_mul] at this
    have k2 := hgb.mul_left hq
    rw [mul_zero] at k2
    have k3 := k1.sub k2
    rw [sub_zero] at k3
    have k4 : r * b = f * b - q * (g * b) := by
      conv => rhs; lhs; rw [e]
      exact ring_id [r, b, q, g] (x0 * x1) ((x2 * x3 + x0) * x1 - x2 * (x3 * x1)) rfl
    rw [k4]; exact k3
  have hr0 : r = 0 := by
    refine Classical.byContradiction fun hx => ?_
    obtain ⟨d', hd', g', k⟩ := scale hr hx hrb
    exact hmin d' hd' ⟨g', k⟩
  rw [hr0, add_zero] at e
  obtain ⟨c1, c2, c3⟩ := cofactor hf h1 hg hg1 hq e
  by_cases hhalf : 2 * d ≤ M
  · exact hi d hd1 hhalf g hg hg1 q _ hq e
  · exact hi (M - d) (by omega) (by omega) q c2 c3 g _ hg (by rw [mul_comm]; exact e)
theorem irr_of_dom {f : PS F} {M : Nat} (hf : Dg f (M + 1)) (h1 : f M = 1) (hdom : ∀ a b : PS F, Dg a M → Dg b M → Cg f (a * b) 0 → a = 0 ∨ b = 0) : Irr f M := by
  intro d hd1 hd2 g hg hg1 h n hh e
  obtain ⟨c1, c2, c3⟩ := cofactor hf h1 hg hg1 hh e
  rcases hdom h g (c2.mono (by omega)) (hg.mono (by omega)) (by rw [← e]; exact Cg.self f) with h0 | h0
  · rw [h0] at c3; exact one_ne_zero c3.symm
  · rw [h0] at hg1; exact one_ne_zero hg1.symm
end
end PS

/-! ### powers and orders -/
section
variable {F : Type} [CR F]
def pw (a : F) : Nat → F
  | 0 => 1
  | n + 1 => pw a n * a
theorem pw_one (a : F) : pw a 1 = a := one_mul a
theorem pw_add (a : F) (m n : Nat) : pw a (m + n) = pw a m * pw a n := by
  induction n with
  | zero => exact (mul_one _).symm
  | succ n ih => rw [← Nat.add_assoc, pw, ih, pw, mul_assoc]
theorem pw_mul (a : F) (m n : Nat) : pw a (m * n) = pw (pw a m) n := by
  induction n with
  | zero => rfl
  | succ n ih => rw [Nat.mul_succ, pw_add, ih, pw]
theorem one_pw (n : Nat) : pw (1 : F) n = 1 := by
  induction n with
  | zero => rfl
  | succ n ih => rw [pw, ih, one_mul]
theorem mul_pw (a b : F) (n : Nat) : pw (a * b) n = pw a n * pw b n := by
  induction n with
  | zero => exact (mul_one _).symm
  | succ n ih => rw [pw, ih, pw, pw]; exact ring_id [pw a n, pw b n, a, b] (x0 * x1 * (x2 * x3)) (x0 * x2 * (x1 * x3)) rfl
theorem zero_pw {n : Nat} (h : 0 < n) : pw (0 : F) n = 0 := by
  obtain ⟨m, rfl⟩ : ∃ m, n = m + 1 := ⟨n - 1, by omega⟩
  exact mul_zero _
/-- m is the order of a. -/
structure Ord (a : F) (m : Nat) : Prop where
  pos : 0 < m
  one : pw a m = 1
  min : ∀ k, 0 < k → k < m → pw a k ≠ 1
theorem Ord.dvd {a : F} {m k : Nat} (h : Ord a m) (hk : pw a k = 1) : m ∣ k := by
  have e := Nat.div_add_mod k m
  have h1 : pw a (k % m) = 1 := by
    rw [← e, pw_add, pw_mul, h.one, one_pw, one_mul] at hk
    exact hk
  have h2 : k % m = 0 := by
    refine Classical.byContradiction fun hn => ?_
    exact h.min _ (by omega) (Nat.mod_lt _ h.pos) h1
  exact Nat.dvd_of_mod_eq_zero h2
theorem Ord.of_dvd {a : F} {m : Nat} (hm : 0 < m) (h : ∀ k, pw a k = 1 ↔ m ∣ k) : Ord a m :=
  ⟨hm, (h m).2 (Nat.dvd_refl _), fun k hk hlt e => by
    have := Nat.le_of_dvd hk ((h k).1 e)
    omega⟩
theorem Ord.iff {a : F} {m : Nat} (h : Ord a m) (k : Nat) : pw a k = 1 ↔ m ∣ k :=
  ⟨h.dvd, fun ⟨c, e⟩ => by rw [e, pw_mul, h.one, one_pw]⟩
theorem pw_mod {a : F} {m : Nat} (h : pw a m = 1) (k : Nat) : pw a (k % m) = pw a k := by
  have e := Nat.div_add_mod k m
  conv => rhs; rw [← e, pw_add, pw_mul, h, one_pw, one_mul]
end
section
variable {F : Type} [Fd F]
theorem pw_ne_zero {a : F} (h : a ≠ 0) (n : Nat) : pw a n ≠ 0 := by
  induction n with
  | zero => exact one_ne_zero
  | succ n ih => exact mul_ne_zero ih h
theorem Ord.inj {a : F} {m : Nat} (h : Ord a m) (ha : a ≠ 0) {i j : Nat} (hi : i < m) (hj : j < m) (e : pw a i = pw a j) : i = j := by
  have key : ∀ i j : Nat, i ≤ j → j < m → pw a i = pw a j → i = j := by
    intro i j hij hj e
    refine Classical.byContradiction fun hn => ?_
    obtain ⟨k, rfl⟩ : ∃ k, j = i + k := ⟨j - i, by omega⟩
    rw [pw_add] at e
    have : pw a k = 1 := by
      refine (mul_left_cancel (pw_ne_zero ha i) ?_)
      rw [← e, mul_one]
    exact h.min k (by omega) (by omega) this
  rcases Nat.le_total i j with h1 | h1
  · exact key i j h1 hj e
  · exact (key j i h1 hi e.symm).symm
theorem Ord.pow {a : F} {p m : Nat} (hp : 0 < p) (hm : 0 < m) (h : Ord a (p * m)) : Ord (pw a p) m :=
  Ord.of_dvd hm fun k => by
    rw [← pw_mul, h.iff]
    exact ⟨fun hd => Nat.dvd_of_mul_dvd_mul_left hp hd, fun hd => Nat.mul_dvd_mul_left p hd⟩
theorem Ord.mul {a b : F} {m n : Nat} (h : Ord a m) (k : Ord b n) (hc : Nat.Coprime m n) : Ord (a * b) (m * n) :=
  Ord.of_dvd (Nat.mul_pos h.pos k.pos) fun t => by
    constructor
    · intro e
      refine Nat.Coprime.mul_dvd_of_dvd_of_dvd hc ?_ ?_
      · have e2 : pw (a * b) (t * n) = 1 := by rw [pw_mul, e, one_pw]
        rw [mul_pw, show pw b (t * n) = 1 from (k.iff _).2 (Nat.dvd_mul_left _ _), mul_one] at e2
        exact Nat.Coprime.dvd_of_dvd_mul_right hc (h.dvd e2)
      · have e2 : pw (a * b) (t * m) = 1 := by rw [pw_mul, e, one_pw]
        rw [mul_pw, show pw a (t * m) = 1 from (h.iff _).2 (Nat.dvd_mul_left _ _), one_mul] at e2
        exact Nat.Coprime.dvd_of_dvd_mul_right (Nat.Coprime.symm hc) (k.dvd e2)
    · rintro ⟨c, rfl⟩
      rw [mul_pw, show pw a (m * n * c) = 1 from (h.iff _).2 (Nat.dvd_trans (Nat.dvd_mul_right _ _) (Nat.dvd_mul_right _ _)), show pw b (m * n * c) = 1 from (k.iff _).2 (Nat.dvd_trans (Nat.dvd_mul_left _ _) (Nat.dvd_mul_right _ _)), one_mul]
/-- A prime divisor. -/
theorem exists_prime (n : Nat) (h : 2 ≤ n) : ∃ p, 2 ≤ p ∧ p ∣ n ∧ ∀ d, d ∣ p → d = 1 ∨ d = p := by
  obtain ⟨p, ⟨h1, h2⟩, hmin⟩ := exists_min (fun p => 2 ≤ p ∧ p ∣ n) ⟨n, h, Nat.dvd_refl _⟩
  refine ⟨p, h1, h2, fun d hd => ?_⟩
  by_cases h0 : d = 0
  · subst h0; have := Nat.eq_zero_of_zero_dvd hd; omega
  by_cases e1 : d = 1
  · exact .inl e1
  right
  refine Classical.byContradiction fun hn => ?_
  have := Nat.le_of_dvd (by omega) hd
  exact hmin d (by omega) ⟨by omega, Nat.dvd_trans hd h2⟩
theorem split_prime (p : Nat) (hp : 2 ≤ p) (m : Nat) (hm : 0 < m) : ∃ i m', m = p ^ i * m' ∧ ¬ p ∣ m' ∧ 0 < m' := by
  induction m using Nat.strongRecOn with
  | ind m ih =>
    by_cases h : p ∣ m
    · obtain ⟨c, rfl⟩ := h
      have hc : 0 < c := Nat.pos_of_ne_zero fun e => by rw [e] at hm; simp at hm
      have hlt : c < p * c := by
        have : 1 * c < p * c := Nat.mul_lt_mul_of_pos_right (by omega) hc
        omega
      obtain ⟨i, m', e, h1, h2⟩ := ih c hlt hc
      exact ⟨i + 1, m', by rw [e, Nat.pow_succ, Nat.mul_comm (p ^ i) p, Nat.mul_assoc], h1, h2⟩
    · exact ⟨0, m, by simp, h, hm⟩
theorem coprime_of_prime {p m : Nat} (hp : ∀ d, d ∣ p → d = 1 ∨ d = p) (h : ¬ p ∣ m) : Nat.Coprime p m := by
  rcases hp (Nat.gcd p m) (Nat.gcd_dvd_left _ _) with e | e
  · exact e
  · exact absurd (e ▸ Nat.gcd_dvd_right p m) h
/-- An order that does not divide another one gives a greater one. -/
theorem Ord.greater {a b : F} {m n : Nat} (h : Ord a m) (k : Ord b n) (hd : ¬ n ∣ m) : ∃ c s, Ord (c : F) s ∧ m < s := by
  have hg : 0 < Nat.gcd n m := Nat.gcd_pos_of_pos_left _ k.pos
  obtain ⟨u, hu⟩ := Nat.gcd_dvd_left n m
  have hu2 : 2 ≤ u := by
    refine Classical.byContradiction fun hx => ?_
    have h01 : u = 0 ∨ u = 1 := by omega
    rcases h01 with e | e
    · rw [e, Nat.mul_zero] at hu; have := k.pos; omega
    · rw [e, Nat.mul_one] at hu
      exact hd (hu ▸ Nat.gcd_dvd_right n m)
  obtain ⟨p, hp2, hpu, hpp⟩ := exists_prime u hu2
  obtain ⟨i, m', em, hm1, hm2⟩ := split_prime p hp2 m h.pos
  obtain ⟨j, n', en, hn1, hn2⟩ := split_prime p hp2 n k.pos
  have hij : i < j := by
    refine Classical.byContradiction fun hx => ?_
    -- p^j divides m, so the gcd, so n' is a multiple of u
    have h1 : p ^ j ∣ m := by rw [em]; exact Nat.dvd_trans (Nat.pow_dvd_pow p (by omega)) (Nat.dvd_mul_right _ _)
    have h2 : p ^ j ∣ n := by rw [en]; exact Nat.dvd_mul_right _ _
    obtain ⟨g', hg'⟩ := Nat.dvd_gcd h2 h1
    have h3 : p ^ j * n' = p ^ j * (g' * u) := by rw [← en, ← Nat.mul_assoc, ← hg']; exact hu
    have h4 : n' = g' * u := Nat.eq_of_mul_eq_mul_left (Nat.pow_pos (by omega)) h3
    exact hn1 (by rw [h4]; exact Nat.dvd_trans hpu (Nat.dvd_mul_left _ _))
  have ha : Ord (pw a (p ^ i)) m' := Ord.pow (Nat.pow_pos (by omega)) hm2 (em ▸ h)
  have hb : Ord (pw b n') (p ^ j) := Ord.pow hn2 (Nat.pow_pos (by omega)) (by rw [Nat.mul_comm]; exact en ▸ k)
  have hc : Nat.Coprime m' (p ^ j) := (Nat.Coprime.pow_left j (coprime_of_prime hpp hm1)).symm
  refine ⟨_, _, ha.mul hb hc, ?_⟩
  rw [em, Nat.mul_comm m']
  exact Nat.mul_lt_mul_of_pos_right (Nat.pow_lt_pow_right (by omega) hij) hm2
open PS in
theorem pv_mon (k : Nat) (x : F) : pv (mon k : PS F) x = pw x k := by
  induction k with
  | zero => rw [mon_zero]; exact pv_one x
  | succ k ih => rw [mon_succ, pv_mul Dg.X (Dg.mon k), ih, pv_X, pw, mul_comm]
/-- A finite field's nonzero elements are the powers of one of them. -/
theorem exists_gen [DecidableEq F] (l : List F) (hn : l.Nodup) (hl : ∀ x, x ∈ l) : ∃ g : F, g ≠ 0 ∧ Ord g (l.length - 1) := by
  have hpos : 2 ≤ l.length := by
    have := nodup_length_le [(0 : F), 1] l (by simp [one_ne_zero.symm]) (fun x _ => hl x)
    simpa using this
  -- each has an order, below the number of elements
  have hord : ∀ a : F, a ≠ 0 → ∃ m, Ord a m ∧ m < l.length := by
    intro a ha
    have hne : ∃ i j, i < j ∧ j < l.length ∧ pw a i = pw a j := by
      refine Classical.byContradiction fun hx => ?_
      have hnd : (0 :: (List.range l.length).map (pw a)).Nodup := by
        rw [List.nodup_cons]
        refine ⟨fun h => ?_, nodup_map_inj _ _ (fun i hi j hj e => ?_) List.nodup_range⟩
        · obtain ⟨i, -, e⟩ := List.mem_map.1 h
          exact pw_ne_zero ha i e
        · rw [List.mem_range] at hi hj
          rcases Nat.lt_trichotomy i j with h1 | h1 | h1
          · exact absurd ⟨i, j, h1, hj, e⟩ hx
          · exact h1
          · exact absurd ⟨j, i, h1, hi, e.symm⟩ hx
      have := nodup_length_le _ l hnd (fun x _ => hl x)
      simp only [List.length_cons, List.length_map, List.length_range] at this
      omega
    obtain ⟨i, j, h1, h2, e⟩ := hne
    obtain ⟨k, rfl⟩ : ∃ k, j = i + k := ⟨j - i, by omega⟩
    rw [pw_add] at e
    have h3 : pw a k = 1 := mul_left_cancel (pw_ne_zero ha i) (by rw [← e, mul_one])
    obtain ⟨m, ⟨hm1, hm2⟩, hmin⟩ := exists_min (fun m => 0 < m ∧ pw a m = 1) ⟨k, by omega, h3⟩
    refine ⟨m, ⟨hm1, hm2, fun t ht hlt ht1 => hmin t hlt ⟨ht, ht1⟩⟩, ?_⟩
    have : ¬ k < m := fun hlt => hmin k hlt ⟨by omega, h3⟩
    omega
  -- the greatest order
  obtain ⟨t, ⟨g, m, hg0, hgm, ht⟩, hmin⟩ := exists_min (fun t => ∃ (g : F) (m : Nat), g ≠ 0 ∧ Ord g m ∧ m + t = l.length) (by
    obtain ⟨m, hm, hlt⟩ := hord 1 one_ne_zero
    exact ⟨l.length - m, 1, m, one_ne_zero, hm, by omega⟩)
  have hall : ∀ b : F, b ≠ 0 → pw b m = 1 := by
    intro b hb
    obtain ⟨n, hbn, -⟩ := hord b hb
    refine (hbn.iff m).2 (Classical.byContradiction fun hx => ?_)
    obtain ⟨c, s, hcs, hlt⟩ := hgm.greater hbn hx
    have hc0 : c ≠ 0 := fun e => by
      have := hcs.one
      rw [e, zero_pw hcs.pos] at this
      exact one_ne_zero this.symm
    obtain ⟨s', hs', hlt'⟩ := hord c hc0
    have : s = s' := Nat.dvd_antisymm (hcs.dvd hs'.one) (hs'.dvd hcs.one)
    exact hmin (l.length - s) (by omega) ⟨c, s, hc0, hcs, by omega⟩
  refine ⟨g, hg0, ?_⟩
  have hge : l.length - 1 ≤ m := by
    refine Classical.byContradiction fun hx => ?_
    -- x^m - 1 has too many roots
    have hd : PS.Dg (PS.mon m - 1 : PS F) (m + 1) := (PS.Dg.mon m).sub (PS.Dg.one.mono (by omega))
    have hz := PS.zero_of_roots (m + 1) (l.erase 0) hd (hn.erase _) (by rw [List.length_erase_of_mem (hl 0)]; omega) (fun x hxx => by
      have hx0 : x ≠ 0 := fun e => by rw [e] at hxx; exact hn.not_mem_erase hxx
      rw [PS.pv_sub (PS.Dg.mon m) PS.Dg.one, pv_mon, PS.pv_one, hall x hx0, sub_self])
    have h1 : (PS.mon m - 1 : PS F) m = 1 := by
      rw [PS.sub_at, PS.mon_at, if_pos rfl]
      have hm := hgm.pos
      rw [PS.Dg.one m (by omega), sub_zero]
    rw [hz] at h1
    exact one_ne_zero h1.symm
  have hle : m ≤ l.length - 1 := by
    obtain ⟨m', h1, h2⟩ := hord g hg0
    have : m = m' := Nat.dvd_antisymm (hgm.dvd h1.one) (h1.dvd hgm.one)
    omega
  have : m = l.length - 1 := by omega
  rw [← this]; exact hgm
end
end CW
end Go.Proofs.Yticgblagimmlfaa

namespace Go.Proofs.Yticgblagimmlfaa
open CW
set_option linter.unusedVariables false
set_option linter.unusedSimpArgs false

/-- No divisor from 2 on below n. -/
def NoDiv (n : Int) : Prop := ∀ e, 2 ≤ e → e < n → n % e ≠ 0
theorem primeLoop_true (n : Int) : ∀ (k : Nat) (d : Int), 2 ≤ d → n < (d + k) * (d + k) → primeLoop n k d = true → ∀ e, d ≤ e → e * e ≤ n → n % e ≠ 0
  | 0, d, hd, hn, _, e, h1, h2 => by
    have : d * d ≤ e * e := Int.mul_le_mul h1 h1 (by omega) (by omega)
    simp at hn
    omega
  | k + 1, d, hd, hn, h, e, h1, h2 => by
    simp only [primeLoop] at h
    have hdd : d * d ≤ e * e := Int.mul_le_mul h1 h1 (by omega) (by omega)
    rw [if_pos (by omega)] at h
    by_cases h0 : n % d = 0
    · rw [if_pos h0] at h; cases h
    · rw [if_neg h0] at h
      by_cases he : e = d
      · rw [he]; exact h0
      · exact primeLoop_true n k (d + 1) (by omega) (by rw [show d + 1 + (k : Int) = d + ((k + 1 : Nat) : Int) from by omega]; exact hn) h e (by omega) h2
theorem primeLoop_two (n : Int) : ∀ (k : Nat) (d : Int), 2 ≤ d → n < (d + k) * (d + k) → primeLoop n k d = true → 4 ≤ n ∨ 2 ≤ n ∨ k = 0
  | 0, _, _, _, _ => by omega
  | k + 1, d, hd, hn, h => by
    simp only [primeLoop] at h
    by_cases h1 : d * d ≤ n
    · have : 2 * 2 ≤ d * d := Int.mul_le_mul hd hd (by omega) (by omega)
      omega
    · rw [if_neg h1] at h
      have := of_decide_eq_true h
      omega
theorem primeZ_noDiv (n : Int) (hn : n ≤ 256) (h : primeZ n = true) : 2 ≤ n ∧ NoDiv n := by
  unfold primeZ at h
  have hb : n < (2 + ((20 : Nat) : Int)) * (2 + ((20 : Nat) : Int)) := by omega
  refine ⟨by have := primeLoop_two n 20 2 (by omega) hb h; omega, fun e h1 h2 h3 => ?_⟩
  have key := primeLoop_true n 20 2 (by omega) hb h
  obtain ⟨c, hc⟩ := Int.dvd_of_emod_eq_zero h3
  by_cases h4 : e * e ≤ n
  · exact key e h1 h4 h3
  · have hc2 : 2 ≤ c := by
      have h5 : ¬ c ≤ 1 := fun hx => by
        have h6 : e * c ≤ e * 1 := Int.mul_le_mul_of_nonneg_left hx (by omega)
        omega
      omega
    have hce : c ≤ e := by
      have h5 : ¬ e < c := fun hx => by
        have h6 : e * e ≤ e * c := Int.mul_le_mul_of_nonneg_left (by omega) (by omega)
        omega
      omega
    have h5 : c * c ≤ n := by
      have h6 : c * c ≤ e * c := Int.mul_le_mul_of_nonneg_right hce (by omega)
      omega
    refine key c hc2 h5 ?_
    rw [hc, Int.mul_comm]
    exact Int.mul_emod_right _ _
theorem primeLoop_of (n : Int) (hn : 2 ≤ n) (hd : NoDiv n) : ∀ (k : Nat) (d : Int), 2 ≤ d → primeLoop n k d = true
  | 0, _, _ => rfl
  | k + 1, d, h => by
    simp only [primeLoop]
    by_cases h1 : d * d ≤ n
    · have h2 : d * 2 ≤ d * d := Int.mul_le_mul_of_nonneg_left h (by omega)
      rw [if_pos h1, if_neg (hd d h (by omega))]
      exact primeLoop_of n hn hd k (d + 1) (by omega)
    · rw [if_neg h1]; exact decide_eq_true hn
theorem primeZ_iff (n : Int) (hn : n ≤ 256) : primeZ n = true ↔ 2 ≤ n ∧ NoDiv n :=
  ⟨primeZ_noDiv n hn, fun h => primeLoop_of n h.1 h.2 20 2 (by omega)⟩

theorem emodmul_l (a n b : Int) : (a % n) * b % n = a * b % n := by rw [Int.mul_emod, Int.emod_emod, ← Int.mul_emod]
theorem emodmul_r (a b n : Int) : a * (b % n) % n = a * b % n := by rw [Int.mul_emod, Int.emod_emod, ← Int.mul_emod]
/-- A prime of at most 256. -/
structure Pr where
  p : Int
  two : 2 ≤ p
  nod : NoDiv p
def Zm (K : Pr) : Type := {x : Int // 0 ≤ x ∧ x < K.p}
namespace Pr
variable (K : Pr)
theorem pos : 0 < K.p := by have := K.two; omega
theorem ne : K.p ≠ 0 := by have := K.two; omega
def zm (x : Int) : Zm K := ⟨x % K.p, Int.emod_nonneg x K.ne, Int.emod_lt_of_pos x K.pos⟩
theorem zm_eq {x y : Int} : K.zm x = K.zm y ↔ x % K.p = y % K.p := ⟨fun h => congrArg Subtype.val h, fun h => Subtype.ext h⟩
theorem zm_val (a : Zm K) : K.zm a.1 = a := Subtype.ext (Int.emod_eq_of_lt a.2.1 a.2.2)
theorem zm_emod (x : Int) : K.zm (x % K.p) = K.zm x := K.zm_eq.2 (Int.emod_emod _ _)
instance : CR (Zm K) where
  add a b := K.zm (a.1 + b.1)
  mul a b := K.zm (a.1 * b.1)
  neg a := K.zm (-a.1)
  zero := K.zm 0
  one := K.zm 1
  add_comm' a b := by rw [Int.add_comm]
  add_assoc' a b c := K.zm_eq.2 (by simp only [zm]; rw [Int.emod_add_emod, Int.add_emod_emod, Int.add_assoc])
  zero_add' a := (K.zm_eq.2 (by simp only [zm]; rw [Int.emod_add_emod, Int.zero_add])).trans (K.zm_val a)
  neg_add' a := K.zm_eq.2 (by simp only [zm]; rw [Int.emod_add_emod, Int.add_comm, Int.add_right_neg])
  mul_comm' a b := by rw [Int.mul_comm]
  mul_assoc' a b c := K.zm_eq.2 (by simp only [zm]; rw [emodmul_l, emodmul_r, Int.mul_assoc])
  one_mul' a := (K.zm_eq.2 (by simp only [zm]; rw [emodmul_l, Int.one_mul])).trans (K.zm_val a)
  add_mul' a b c := K.zm_eq.2 (by simp only [zm]; rw [emodmul_l, Int.add_mul, Int.emod_add_emod, Int.add_emod_emod])
theorem zm_add (x y : Int) : K.zm (x + y) = K.zm x + K.zm y := K.zm_eq.2 (by simp only [zm]; rw [Int.emod_add_emod, Int.add_emod_emod])
theorem zm_mul (x y : Int) : K.zm (x * y) = K.zm x * K.zm y := K.zm_eq.2 (by simp only [zm]; rw [emodmul_l, emodmul_r])
theorem zm_neg (x : Int) : K.zm (-x) = - K.zm x := K.zm_eq.2 (by
  simp only [zm]
  rw [← Int.zero_sub, ← Int.zero_sub, Int.sub_emod_emod])
theorem zm_sub (x y : Int) : K.zm (x - y) = K.zm x - K.zm y := by rw [Int.sub_eq_add_neg, zm_add, zm_neg]; rfl
theorem zm_zero : K.zm 0 = 0 := rfl
theorem zm_p : K.zm K.p = 0 := K.zm_eq.2 (by rw [Int.emod_self, Int.zero_emod])
theorem zm_inj {x y : Int} (hx : 0 ≤ x ∧ x < K.p) (hy : 0 ≤ y ∧ y < K.p) (h : K.zm x = K.zm y) : x = y := by
  have := K.zm_eq.1 h
  rwa [Int.emod_eq_of_lt hx.1 hx.2, Int.emod_eq_of_lt hy.1 hy.2] at this
instance : DecidableEq (Zm K) := fun a b => if h : a.1 = b.1 then isTrue (Subtype.ext h) else isFalse (fun e => h (congrArg Subtype.val e))
theorem dom (a b : Zm K) (h : a * b = 0) : a = 0 ∨ b = 0 := by
  refine Classical.byContradiction fun hn => ?_
  have hz : (0 : Zm K).1 = 0 := Int.zero_emod _
  have ha : a.1 ≠ 0 := fun e => hn (.inl (Subtype.ext (by rw [hz]; exact e)))
  have hb : b.1 ≠ 0 := fun e => hn (.inr (Subtype.ext (by rw [hz]; exact e)))
  obtain ⟨p, hp⟩ := Int.eq_ofNat_of_zero_le (Int.le_of_lt K.pos)
  obtain ⟨x, hx⟩ := Int.eq_ofNat_of_zero_le a.2.1
  obtain ⟨y, hy⟩ := Int.eq_ofNat_of_zero_le b.2.1
  have h1 : (a.1 * b.1) % K.p = 0 := (congrArg Subtype.val h).trans hz
  rw [hx, hy, hp, ← Int.natCast_mul, ← Int.natCast_emod] at h1
  have hd : p ∣ x * y := Nat.dvd_of_mod_eq_zero (by omega)
  have hxp := a.2.2
  have hyp := b.2.2
  have hpr : ∀ d, d ∣ p → d = 1 ∨ d = p := by
    intro d hd
    have h2 := K.two
    refine Classical.byContradiction fun hx => ?_
    have hle := Nat.le_of_dvd (by omega) hd
    have h0 : d ≠ 0 := fun e => by rw [e] at hd; have := Nat.eq_zero_of_zero_dvd hd; omega
    refine K.nod d (by omega) (by omega) ?_
    rw [hp, ← Int.natCast_emod, Nat.mod_eq_zero_of_dvd hd]
    rfl
  have hc : Nat.Coprime p x := coprime_of_prime hpr (fun hd => by have := Nat.le_of_dvd (by omega) hd; omega)
  have := Nat.le_of_dvd (by omega) (Nat.Coprime.dvd_of_dvd_mul_left hc hd)
  omega
/-- All. -/
def els : List (Zm K) := (List.range K.p.toNat).map fun i : Nat => K.zm (i : Int)
theorem els_nodup : K.els.Nodup := nodup_map_inj _ _ (fun i hi j hj e => by
  rw [List.mem_range] at hi hj
  have := K.zm_inj (by omega) (by omega) e
  omega) List.nodup_range
theorem els_mem (x : Zm K) : x ∈ K.els := List.mem_map.2 ⟨x.1.toNat, List.mem_range.2 (by have h1 := x.2.1; have h2 := x.2.2; omega), by
  rw [show ((x.1.toNat : Nat) : Int) = x.1 from by have h1 := x.2.1; omega, K.zm_val]⟩
noncomputable instance : Fd (Zm K) where
  inv a := if h : a ≠ 0 then (finite_inv K.els K.els_nodup K.els_mem K.dom a h).choose else 0
  mul_inv' a h := by
    have h' : a ≠ 0 := h
    rw [dif_pos h']
    exact (finite_inv K.els K.els_nodup K.els_mem K.dom a h').choose_spec
  zero_ne_one' := fun e => by
    have h2 := K.two
    have := K.zm_inj (x := 0) (y := 1) (by omega) (by omega) e
    omega
end Pr
end Go.Proofs.Yticgblagimmlfaa

namespace Go.Proofs.Yticgblagimmlfaa
open CW CW.PS
set_option linter.unusedVariables false
set_option linter.unusedSimpArgs false

/-- A description of the right shape. -/
structure SD where
  P : Int
  m : Nat
  Mod : List Int
  two : 2 ≤ P
  nod : NoDiv P
  m1 : 1 ≤ m
  m8 : m ≤ 8
  q256 : P ^ m ≤ 256
  len : 1 < m → Mod.length = m
  rng : ∀ d ∈ Mod, 0 ≤ d ∧ d < P
  one : m = 1 → Mod = []
namespace SD
variable (K : SD)
def pr : Pr := ⟨K.P, K.two, K.nod⟩
abbrev Z : Type := Zm K.pr
def zm (x : Int) : K.Z := K.pr.zm x
def toS (l : List Int) : PS K.Z := fun i => K.zm (l.getD i 0)
def low : PS K.Z := fun i => K.zm (lowZ K.m K.Mod i)
def f : PS K.Z := K.low + mon K.m

theorem zm_add (x y : Int) : K.zm (x + y) = K.zm x + K.zm y := K.pr.zm_add x y
theorem zm_mul (x y : Int) : K.zm (x * y) = K.zm x * K.zm y := K.pr.zm_mul x y
theorem zm_neg (x : Int) : K.zm (-x) = - K.zm x := K.pr.zm_neg x
theorem zm_sub (x y : Int) : K.zm (x - y) = K.zm x - K.zm y := K.pr.zm_sub x y
theorem zm_zero : K.zm 0 = 0 := rfl
theorem zm_P : K.zm K.P = 0 := K.pr.zm_p
theorem zm_emod (x : Int) : K.zm (x % K.P) = K.zm x := K.pr.zm_emod x
theorem zm_inj {x y : Int} (hx : 0 ≤ x ∧ x < K.P) (hy : 0 ≤ y ∧ y < K.P) (h : K.zm x = K.zm y) : x = y := K.pr.zm_inj hx hy h

theorem toS_nil : K.toS [] = 0 := by funext i; simp [toS, zm_zero]; rfl
theorem toS_cons (a : Int) (l : List Int) : K.toS (a :: l) = C (K.zm a) + X * K.toS l := by
  funext i
  cases i with
  | zero => rw [add_at, X_mul_zero, add_zero]; rfl
  | succ i => rw [add_at, X_mul_succ, C_succ_at, zero_add]; simp [toS]
theorem Dg_toS (l : List Int) : Dg (K.toS l) l.length := fun i hi => by
  simp only [toS]
  rw [getD_out l i hi]; rfl
theorem toS_replicate (n : Nat) : K.toS (List.replicate n 0) = 0 := by
  funext i
  simp only [toS, List.getD_eq_getElem?_getD, List.getElem?_replicate]
  split <;> rfl
theorem low_at {i : Nat} (h : K.m ≤ i) : K.low i = 0 := by
  have e : lowZ K.m K.Mod i = 0 := by
    unfold lowZ
    split
    · rename_i h1; exact getD_out _ _ (by rw [K.len h1]; exact h)
    · rfl
  show K.zm _ = 0
  rw [e]; rfl
theorem Dg_low : Dg K.low K.m := fun i hi => K.low_at hi
theorem Dg_f : Dg K.f (K.m + 1) := (K.Dg_low.mono (by omega)).add (Dg.mon _)
theorem f_top : K.f K.m = 1 := by
  unfold f
  rw [add_at, K.low_at (Nat.le_refl _), mon_at, if_pos rfl, zero_add]
theorem mrow_getD (a : List Int) (b : Int) (out : List Int) (ho : out.length = K.m) (j : Nat) (hj : j < K.m) :
    (mrow K.P K.m K.Mod a b out).getD j 0 = ((0 :: out).getD j 0 + ((K.P - out.getD (K.m - 1) 0) * lowZ K.m K.Mod j + b * a.getD j 0)) % K.P := by
  unfold mrow
  have hl : (0 :: out.take (K.m - 1)).length = K.m := by
    have := K.m1
    simp only [List.length_cons, List.length_take]; omega
  rw [updZ_getD _ _ _ _ (by rw [hl]; exact hj), if_pos (by simpa using hj), range_map_getD _ _ _ hj]
  congr 2
  cases j with
  | zero => rfl
  | succ j =>
    simp only [List.getD_cons_succ]
    rw [List.getD_eq_getElem?_getD, List.getElem?_take_of_lt (by omega), ← List.getD_eq_getElem?_getD]
theorem toS_mrow (a : List Int) (b : Int) (out : List Int) (ha : a.length ≤ K.m) (ho : out.length = K.m) :
    K.toS (mrow K.P K.m K.Mod a b out) = X * K.toS out + C (K.zm b) * K.toS a - C (K.zm (out.getD (K.m - 1) 0)) * K.f := by
  have hm1 := K.m1
  have hlen : (mrow K.P K.m K.Mod a b out).length = K.m := mrow_length _ _ _ _ _ _ ho K.m1
  funext j
  rw [sub_at, add_at, C_mul_at, C_mul_at]
  unfold f
  rw [add_at]
  by_cases hj : j < K.m
  · show K.zm _ = _
    rw [K.mrow_getD a b out ho j hj, zm_emod, zm_add, zm_add, zm_mul, zm_mul, zm_sub, zm_P, mon_at, if_neg (by omega)]
    have e : K.zm ((0 :: out).getD j 0) = ((X : PS K.Z) * K.toS out) j := by
      cases j with
      | zero => rw [X_mul_zero]; rfl
      | succ j => rw [X_mul_succ]; rfl
    rw [e]
    exact ring_id [((X : PS K.Z) * K.toS out) j, K.zm (out.getD (K.m - 1) 0), K.zm (lowZ K.m K.Mod j), K.zm b, K.zm (a.getD j 0)] (x0 + ((0 - x1) * x2 + x3 * x4)) (x0 + x3 * x4 - x1 * (x2 + 0)) rfl
  · obtain ⟨i, rfl⟩ : ∃ i, j = i + 1 := ⟨j - 1, by omega⟩
    rw [X_mul_succ, K.low_at (by omega), zero_add, mon_at]
    have e1 : K.toS (mrow K.P K.m K.Mod a b out) (i + 1) = 0 := K.Dg_toS _ _ (by omega)
    have e2 : K.toS a (i + 1) = 0 := K.Dg_toS _ _ (by omega)
    rw [e1, e2, mul_zero, add_zero]
    by_cases he : i + 1 = K.m
    · rw [if_pos he, mul_one, show K.m - 1 = i from by omega]
      exact (sub_self _).symm
    · rw [if_neg he, mul_zero, sub_zero]
      exact (K.Dg_toS out i (by omega)).symm
theorem rows_cg (a : List Int) (ha : a.length ≤ K.m) : ∀ l : List Int, (l.foldr (mrow K.P K.m K.Mod a) (List.replicate K.m 0)).length = K.m ∧
    Cg K.f (K.toS (l.foldr (mrow K.P K.m K.Mod a) (List.replicate K.m 0))) (K.toS l * K.toS a)
  | [] => by
    refine ⟨by simp, ?_⟩
    simp only [List.foldr_nil]
    rw [toS_replicate, toS_nil, zero_mul]
    exact Cg.refl _ _
  | b :: l => by
    obtain ⟨h1, h2⟩ := rows_cg a ha l
    simp only [List.foldr_cons]
    refine ⟨mrow_length _ _ _ _ _ _ h1 K.m1, ?_⟩
    rw [K.toS_mrow a b _ ha h1, toS_cons]
    obtain ⟨r, hr⟩ : ∃ r, l.foldr (mrow K.P K.m K.Mod a) (List.replicate K.m 0) = r := ⟨_, rfl⟩
    rw [hr] at h2 ⊢
    have h3 := ((h2.mul_left Dg.X).add (Cg.refl K.f (C (K.zm b) * K.toS a))).sub ((Cg.self K.f).mul_left (Dg.C (K.zm (r.getD (K.m - 1) 0))))
    rw [mul_zero, sub_zero] at h3
    refine h3.trans (Cg.of_eq ?_)
    exact ring_id [X, K.toS l, K.toS a, C (K.zm b)] (x0 * (x1 * x2) + x3 * x2) ((x3 + x0 * x1) * x2) rfl

/-! ### digits -/
end SD
theorem val_digs (P : Int) (hP : 2 ≤ P) : ∀ (n : Nat) (x : Int), 0 ≤ x → x < P ^ n → val P (digs P n x) = x
  | 0, x, h0, h1 => by rw [zero_of_pow0 P x h0 h1]; rfl
  | n + 1, x, h0, h1 => by
    obtain ⟨h2, h3⟩ := pow_split P hP n x h0 h1
    simp only [digs, val]
    rw [val_digs P hP n (x / P) h2 h3]
    exact Int.emod_add_mul_ediv x P
theorem digs_val (P : Int) (hP : 2 ≤ P) : ∀ (l : List Int), (∀ d ∈ l, 0 ≤ d ∧ d < P) → digs P l.length (val P l) = l
  | [], _ => rfl
  | d :: l, h => by
    have hd := h d List.mem_cons_self
    simp only [List.length_cons, digs, val]
    rw [Int.add_mul_emod_self_left, Int.emod_eq_of_lt hd.1 hd.2, Int.add_mul_ediv_left _ _ (by omega), Int.ediv_eq_zero_of_lt hd.1 hd.2, Int.zero_add, digs_val P hP l (fun x hx => h x (List.mem_cons_of_mem _ hx))]
theorem digs_getD_succ (P : Int) (n : Nat) (x : Int) (i : Nat) : (digs P (n + 1) x).getD (i + 1) 0 = (digs P n (x / P)).getD i 0 := by simp [digs]
theorem addD_getD (P : Int) (hP : 2 ≤ P) : ∀ (n k i : Nat) (x y : Int), n ≤ k → i < n → (digs P n (addD P k x y)).getD i 0 = ((digs P n x).getD i 0 + (digs P n y).getD i 0) % P
  | 0, _, _, _, _, _, h => by omega
  | n + 1, 0, _, _, _, h, _ => by omega
  | n + 1, k + 1, i, x, y, h, hi => by
    have h1 := emod_range P (x % P + y % P) hP
    have e1 : (addD P (k + 1) x y) % P = (x % P + y % P) % P := by rw [addD, Int.add_mul_emod_self_left, Int.emod_emod]
    have e2 : (addD P (k + 1) x y) / P = addD P k (x / P) (y / P) := by rw [addD, Int.add_mul_ediv_left _ _ (by omega), Int.ediv_eq_zero_of_lt h1.1 h1.2, Int.zero_add]
    cases i with
    | zero => simp only [digs, List.getD_cons_zero]; exact e1
    | succ i =>
      rw [digs_getD_succ, digs_getD_succ, digs_getD_succ, e2]
      exact addD_getD P hP n k i _ _ (by omega) (by omega)
theorem negD_getD (P : Int) (hP : 2 ≤ P) : ∀ (n k i : Nat) (x : Int), n ≤ k → i < n → (digs P n (negD P k x)).getD i 0 = (P - (digs P n x).getD i 0) % P
  | 0, _, _, _, _, h => by omega
  | n + 1, 0, _, _, h, _ => by omega
  | n + 1, k + 1, i, x, h, hi => by
    have h1 := emod_range P (P - x % P) hP
    have e1 : (negD P (k + 1) x) % P = (P - x % P) % P := by rw [negD, Int.add_mul_emod_self_left, Int.emod_emod]
    have e2 : (negD P (k + 1) x) / P = negD P k (x / P) := by rw [negD, Int.add_mul_ediv_left _ _ (by omega), Int.ediv_eq_zero_of_lt h1.1 h1.2, Int.zero_add]
    cases i with
    | zero => simp only [digs, List.getD_cons_zero]; exact e1
    | succ i =>
      rw [digs_getD_succ, digs_getD_succ, e2]
      exact negD_getD P hP n k i _ (by omega) (by omega)

namespace SD
variable (K : SD)
/-- The polynomial of a number. -/
def pol (x : Int) : PS K.Z := K.toS (digs K.P K.m x)
theorem Dg_pol (x : Int) : Dg (K.pol x) K.m := (K.Dg_toS _).mono (by rw [digs_length]; omega)
theorem toS_inj {a b : List Int} (hl : a.length = b.length) (ha : ∀ d ∈ a, 0 ≤ d ∧ d < K.P) (hb : ∀ d ∈ b, 0 ≤ d ∧ d < K.P) (h : K.toS a = K.toS b) : a = b := by
  refine List.ext_getElem hl fun i h1 h2 => ?_
  have e := congrFun h i
  simp only [toS, List.getD_eq_getElem?_getD, List.getElem?_eq_getElem h1, List.getElem?_eq_getElem h2, Option.getD_some] at e
  exact K.zm_inj (ha _ (List.getElem_mem h1)) (hb _ (List.getElem_mem h2)) e
theorem pol_inj {x y : Int} (hx : 0 ≤ x ∧ x < K.P ^ K.m) (hy : 0 ≤ y ∧ y < K.P ^ K.m) (h : K.pol x = K.pol y) : x = y := by
  have e := K.toS_inj (by rw [digs_length, digs_length]) (digs_mem K.P K.two _ _) (digs_mem K.P K.two _ _) h
  rw [← val_digs K.P K.two K.m x hx.1 hx.2, ← val_digs K.P K.two K.m y hy.1 hy.2, e]
theorem pol_val {l : List Int} (hl : l.length = K.m) (h : ∀ d ∈ l, 0 ≤ d ∧ d < K.P) : K.pol (val K.P l) = K.toS l := by
  unfold pol
  rw [← hl, digs_val K.P K.two l h]
theorem pol_at (x : Int) {i : Nat} : K.pol x i = K.zm ((digs K.P K.m x).getD i 0) := rfl
theorem pol_add (k : Nat) (hk : K.m ≤ k) (x y : Int) : K.pol (addD K.P k x y) = K.pol x + K.pol y := by
  funext i
  rw [add_at]
  by_cases hi : i < K.m
  · rw [pol_at, addD_getD K.P K.two K.m k i x y hk hi, zm_emod, zm_add]; rfl
  · rw [K.Dg_pol _ i (by omega), K.Dg_pol _ i (by omega), K.Dg_pol _ i (by omega), add_zero]
theorem pol_neg (k : Nat) (hk : K.m ≤ k) (x : Int) : K.pol (negD K.P k x) = - K.pol x := by
  funext i
  rw [neg_at]
  by_cases hi : i < K.m
  · rw [pol_at, negD_getD K.P K.two K.m k i x hk hi, zm_emod, zm_sub, zm_P, zero_sub]; rfl
  · rw [K.Dg_pol _ i (by omega), K.Dg_pol _ i (by omega), neg_zero]
theorem digs_zero (n : Nat) : digs K.P n 0 = List.replicate n 0 := by
  induction n with
  | zero => rfl
  | succ n ih => rw [digs, Int.zero_ediv, Int.zero_emod, ih]; rfl
theorem pol_zero : K.pol 0 = 0 := by unfold pol; rw [K.digs_zero, toS_replicate]
theorem pol_one : K.pol 1 = 1 := by
  have hP := K.two
  unfold pol
  obtain ⟨n, hn⟩ : ∃ n, K.m = n + 1 := ⟨K.m - 1, by have := K.m1; omega⟩
  rw [hn, digs, Int.emod_eq_of_lt (by omega) (by omega), Int.ediv_eq_zero_of_lt (by omega) (by omega), K.digs_zero, toS_cons, toS_replicate, mul_zero, add_zero]
  rfl
theorem mul_range (x y : Int) : 0 ≤ mulZ K.P K.m K.Mod x y ∧ mulZ K.P K.m K.Mod x y < K.P ^ K.m := val_digs_range K.P K.two K.m K.m1 K.Mod x y K.q256
theorem mulrows_mem (a l : List Int) (hl : ∀ d ∈ l, 0 ≤ d ∧ d < K.P) : ∀ d ∈ l.foldr (mrow K.P K.m K.Mod a) (List.replicate K.m 0), 0 ≤ d ∧ d < K.P := by
  have hP := K.two
  have key : ∀ l : List Int, (l.foldr (mrow K.P K.m K.Mod a) (List.replicate K.m 0)).length = K.m ∧ ∀ d ∈ l.foldr (mrow K.P K.m K.Mod a) (List.replicate K.m 0), 0 ≤ d ∧ d < K.P := by
    intro l
    induction l with
    | nil => exact ⟨List.length_replicate, fun d hd => by rw [List.eq_of_mem_replicate hd]; omega⟩
    | cons b l ih => exact ⟨mrow_length K.P K.m K.Mod _ b _ ih.1 K.m1, mrow_mem K.P K.two K.m K.Mod _ b _ ih.1 K.m1⟩
  exact (key l).2
theorem pol_mul (x y : Int) : Cg K.f (K.pol (mulZ K.P K.m K.Mod x y)) (K.pol x * K.pol y) := by
  obtain ⟨h1, h2⟩ := K.rows_cg (digs K.P K.m x) (by rw [digs_length]; omega) (digs K.P K.m y)
  unfold mulZ
  rw [K.pol_val h1 (K.mulrows_mem _ _ (digs_mem K.P K.two _ _)), mul_comm (K.pol x)]
  exact h2

/-- The elements. -/
structure El where
  v : Int
  r : 0 ≤ v ∧ v < K.P ^ K.m
theorem El.eq {K : SD} {a b : K.El} (h : a.1 = b.1) : a = b := by
  cases a; cases b; cases h; rfl
theorem q_pos : 0 < K.P ^ K.m := Int.pow_pos (by have := K.two; omega)
theorem q_two : 2 ≤ K.P ^ K.m := by
  have h1 := K.two
  have := pow_le_pow K.P K.two 1 K.m K.m1
  rw [Int.pow_one] at this
  omega
theorem El.ext' {a b : K.El} (h : K.pol a.1 = K.pol b.1) : a = b := El.eq (K.pol_inj a.2 b.2 h)
def addE (a b : K.El) : K.El := ⟨addD K.P 8 a.1 b.1, addD_range K.P K.two 8 K.m _ _ a.2.1 a.2.2 b.2.1 b.2.2⟩
def negE (a : K.El) : K.El := ⟨negD K.P 8 a.1, negD_range K.P K.two 8 K.m _ a.2.1 a.2.2⟩
def mulE (a b : K.El) : K.El := ⟨mulZ K.P K.m K.Mod a.1 b.1, K.mul_range _ _⟩
def zeroE : K.El := ⟨0, by have := K.q_pos; omega⟩
def oneE : K.El := ⟨1, by have := K.q_two; omega⟩
theorem mul_ext {a b : K.El} {p q : PS K.Z} (ha : Cg K.f (K.pol a.1) p) (hb : Cg K.f (K.pol b.1) q) (h : p = q) : a = b := by
  refine El.ext' K (Cg.uniq K.Dg_f K.f_top (K.Dg_pol _) (K.Dg_pol _) (ha.trans ?_))
  rw [h]; exact hb.symm
instance : CR K.El where
  add := K.addE
  mul := K.mulE
  neg := K.negE
  zero := K.zeroE
  one := K.oneE
  add_comm' a b := El.ext' K (by show K.pol (addD ..) = K.pol (addD ..); rw [K.pol_add 8 K.m8, K.pol_add 8 K.m8, add_comm])
  add_assoc' a b c := El.ext' K (by
    show K.pol (addD _ 8 (addD ..) _) = K.pol (addD _ 8 _ (addD ..))
    rw [K.pol_add 8 K.m8, K.pol_add 8 K.m8, K.pol_add 8 K.m8, K.pol_add 8 K.m8, add_assoc])
  zero_add' a := El.ext' K (by show K.pol (addD _ 8 0 _) = _; rw [K.pol_add 8 K.m8, pol_zero, zero_add])
  neg_add' a := El.ext' K (by show K.pol (addD _ 8 (negD ..) _) = K.pol 0; rw [K.pol_add 8 K.m8, K.pol_neg 8 K.m8, pol_zero, neg_add])
  mul_comm' a b := K.mul_ext (K.pol_mul _ _) (K.pol_mul _ _) (mul_comm _ _)
  mul_assoc' a b c := K.mul_ext ((K.pol_mul _ _).trans ((K.pol_mul _ _).mul_right (K.Dg_pol _))) ((K.pol_mul _ _).trans ((K.pol_mul _ _).mul_left (K.Dg_pol _))) (mul_assoc _ _ _)
  one_mul' a := K.mul_ext ((K.pol_mul _ _).trans (Cg.of_eq (by show K.pol 1 * _ = _; rw [pol_one, one_mul]))) (Cg.refl _ _) rfl
  add_mul' a b c := K.mul_ext ((K.pol_mul _ _).trans (Cg.of_eq (by show K.pol (addD ..) * _ = _; rw [K.pol_add 8 K.m8, add_mul]))) (by
    show Cg K.f (K.pol (addD _ 8 (mulZ ..) (mulZ ..))) _
    rw [K.pol_add 8 K.m8]
    exact (K.pol_mul _ _).add (K.pol_mul _ _)) rfl
instance : DecidableEq K.El := fun a b => if h : a.1 = b.1 then isTrue (El.eq h) else isFalse (fun e => h (congrArg El.v e))
def els : List K.El := (List.range (K.P ^ K.m).toNat).map fun i : Nat => if h : (0 : Int) ≤ i ∧ (i : Int) < K.P ^ K.m then ⟨i, h⟩ else 0
theorem els_mem (x : K.El) : x ∈ K.els := List.mem_map.2 ⟨x.1.toNat, List.mem_range.2 (by have h1 := x.2.1; have h2 := x.2.2; omega), by
  have h1 := x.2.1
  have h2 := x.2.2
  rw [dif_pos (by omega)]
  exact El.eq (by show ((x.1.toNat : Nat) : Int) = x.1; omega)⟩
theorem els_nodup : K.els.Nodup := nodup_map_inj _ _ (fun i hi j hj e => by
  rw [List.mem_range] at hi hj
  rw [dif_pos (by omega), dif_pos (by omega)] at e
  have : (i : Int) = j := congrArg El.v e
  omega) List.nodup_range
theorem els_length : K.els.length = (K.P ^ K.m).toNat := by simp [els]
/-- The element of a polynomial. -/
def ofS (p : PS K.Z) : K.El := ⟨val K.P ((List.range K.m).map fun i => (p i).1), by
  have := val_bound K.P K.two ((List.range K.m).map fun i => (p i).1) (fun d hd => by
    obtain ⟨i, -, rfl⟩ := List.mem_map.1 hd
    exact (p i).2)
  rw [List.length_map, List.length_range] at this
  exact this⟩
theorem pol_ofS {p : PS K.Z} (h : Dg p K.m) : K.pol (K.ofS p).1 = p := by
  show K.pol (val K.P _) = p
  rw [K.pol_val (by simp) (fun d hd => by
    obtain ⟨i, -, rfl⟩ := List.mem_map.1 hd
    exact (p i).2)]
  funext i
  by_cases hi : i < K.m
  · simp only [toS]
    rw [range_map_getD _ _ _ hi]
    exact K.pr.zm_val _
  · rw [h i (by omega)]
    exact K.Dg_toS _ _ (by simp; omega)
theorem pol_eq_zero {a : K.El} : K.pol a.1 = 0 ↔ a = 0 := ⟨fun h => El.ext' K (by rw [h]; exact K.pol_zero.symm), fun h => by rw [h]; exact K.pol_zero⟩
/-- No divisors of zero. -/
def Dom : Prop := ∀ a b : K.El, a * b = 0 → a = 0 ∨ b = 0
theorem dom_iff : K.Dom ↔ Irr K.f K.m := by
  constructor
  · intro h
    refine irr_of_dom K.Dg_f K.f_top fun a b ha hb hab => ?_
    have h1 : K.ofS a * K.ofS b = 0 := by
      refine K.mul_ext (p := 0) (q := 0) ?_ (Cg.of_eq K.pol_zero) rfl
      refine (K.pol_mul _ _).trans ?_
      rw [K.pol_ofS ha, K.pol_ofS hb]; exact hab
    rcases h _ _ h1 with e | e
    · exact .inl (by rw [← K.pol_ofS ha, K.pol_eq_zero.2 e])
    · exact .inr (by rw [← K.pol_ofS hb, K.pol_eq_zero.2 e])
  · intro h a b hab
    have h1 : Cg K.f (K.pol a.1 * K.pol b.1) 0 := ((K.pol_mul _ _).symm).trans (Cg.of_eq (K.pol_eq_zero.2 hab))
    rcases dom_of_irr K.Dg_f K.f_top h (K.Dg_pol _) (K.Dg_pol _) h1 with e | e
    · exact .inl (K.pol_eq_zero.1 e)
    · exact .inr (K.pol_eq_zero.1 e)
end SD
end Go.Proofs.Yticgblagimmlfaa

namespace Go.Proofs.Yticgblagimmlfaa
open CW CW.PS
set_option linter.unusedVariables false
set_option linter.unusedSimpArgs false

theorem rdz_rangeP (l : List Int) (q : Int) (hq : 0 < q) (h : ∀ x ∈ l, 0 ≤ x ∧ x < q) (i : Int) : 0 ≤ rdz l i ∧ rdz l i < q := by
  unfold rdz
  rw [List.getD_eq_getElem?_getD]
  cases e : l[i.toNat]? with
  | none => simp; exact hq
  | some x => exact h x (List.mem_of_getElem? e)
theorem setLog_rangeP (q : Int) : ∀ (exp : List Int) (n : Nat) (log : List Int), 0 < q → (n : Int) + exp.length ≤ q → (∀ x ∈ log, 0 ≤ x ∧ x < q) → ∀ x ∈ setLog exp n log, 0 ≤ x ∧ x < q
  | [], _, _, _, _, h => h
  | y :: exp, n, log, hq, hl, h => by
    simp only [List.length_cons] at hl
    refine setLog_rangeP q exp (n + 1) _ hq (by omega) (fun x hx => ?_)
    rcases List.mem_or_eq_of_mem_set hx with hx | hx
    · exact h x hx
    · omega
namespace SD
variable (K : SD)
def gen : List Int := genZ K.P K.m K.Mod (K.P ^ K.m)
def D : GFD := fieldD K.P K.m K.Mod
theorem D_ok (hg : K.gen ≠ []) : K.D.ok := by
  have h2 := K.q_two
  obtain ⟨g1, g2⟩ := genZ_cases K.P K.two K.m K.m1 K.Mod K.q256 hg
  have hp : K.P ≤ K.P ^ K.m := by
    have := pow_le_pow K.P K.two 1 K.m K.m1
    rw [Int.pow_one] at this; exact this
  have h256 := K.q256
  refine ⟨h2, h256, K.two, by show K.P ≤ 256; omega, ?_, ?_, fun i => ?_, fun i => ?_⟩
  · show (genZ K.P K.m K.Mod (K.P ^ K.m)).length = (K.P ^ K.m - 1).toNat
    omega
  · show (setLog _ 0 _).length = (K.P ^ K.m).toNat
    rw [setLog_length, List.length_replicate]
  · exact rdz_rangeP _ (K.P ^ K.m - 1) (by omega) (setLog_rangeP (K.P ^ K.m - 1) (genZ K.P K.m K.Mod (K.P ^ K.m)) 0 (List.replicate (K.P ^ K.m).toNat 0) (by omega) (by omega) (fun x hx => by rw [List.eq_of_mem_replicate hx]; omega)) i
  · exact rdz_rangeP _ (K.P ^ K.m) (by omega) g2 i

/-- The first n powers. -/
def pows (x : K.El) (n : Nat) : List Int := (List.range n).map fun i => (pw x i).1
theorem pows_length (x : K.El) (n : Nat) : (K.pows x n).length = n := by simp [pows]
theorem pows_succ (x : K.El) (n : Nat) : K.pows x (n + 1) = K.pows x n ++ [(pw x n).1] := by
  unfold pows; rw [List.range_succ, List.map_append]; rfl
theorem pows_getD (x : K.El) (n i : Nat) (h : i < n) : (K.pows x n).getD i 0 = (pw x i).1 := range_map_getD _ _ _ h
theorem pows_one (x : K.El) : K.pows x 1 = [1] := rfl
theorem powLoop_form (x : K.El) : ∀ (k n : Nat) (R : List Int), powLoop (fun y => mulZ K.P K.m K.Mod y x.1) k (K.pows x n) (pw x n).1 = some R → ∃ n', n ≤ n' ∧ R = K.pows x n'
  | 0, _, _, h => by simp [powLoop] at h
  | k + 1, n, R, h => by
    simp only [powLoop] at h
    by_cases h0 : (pw x n).1 = 0
    · rw [if_pos h0] at h; cases h; exact ⟨n, Nat.le_refl _, rfl⟩
    · rw [if_neg h0] at h
      by_cases h1 : (pw x n).1 ∈ K.pows x n
      · rw [if_pos h1] at h; cases h; exact ⟨n, Nat.le_refl _, rfl⟩
      · rw [if_neg h1, ← pows_succ] at h
        obtain ⟨n', h2, h3⟩ := powLoop_form x k (n + 1) R h
        exact ⟨n', by omega, h3⟩
theorem powersT_form (x : K.El) : ∃ n, 1 ≤ n ∧ powersT K.P K.m K.Mod (K.P ^ K.m) x.1 = K.pows x n := by
  have h := powersT_eq K.P K.two K.m K.m1 K.Mod K.q256 x.1 x.2.1 x.2.2
  have e : (pw x 1).1 = x.1 := by rw [pw_one]
  rw [← K.pows_one x] at h
  exact K.powLoop_form x _ 1 _ (by rw [e]; exact h)

/-- g is a generator, and the found list holds its powers. -/
structure IsGen (g : K.El) : Prop where
  list : K.gen = K.pows g (K.P ^ K.m - 1).toNat
  one : pw g (K.P ^ K.m - 1).toNat = 1
  all : ∀ a : K.El, a ≠ 0 → ∃ i, i < (K.P ^ K.m - 1).toNat ∧ a = pw g i
theorem exists_isGen (hg : K.gen ≠ []) : ∃ g, K.IsGen g := by
  have h2 := K.q_two
  obtain ⟨n1, n2⟩ := genZ_nodup K.P K.two K.m K.m1 K.Mod K.q256 hg
  have hg' : genZ K.P K.m K.Mod (K.P ^ K.m) ≠ [] := hg
  unfold genZ at hg'
  rcases genLoop_cases K.P K.m K.Mod (K.P ^ K.m) (K.P ^ K.m - 1).toNat 1 with h | ⟨y, hy1, hy2, hy3, hy4, hy5⟩
  · exact absurd h hg'
  · obtain ⟨g, hge⟩ : ∃ g : K.El, g.1 = y := ⟨⟨y, by omega⟩, rfl⟩
    rw [← hge] at hy3 hy4 hy5
    obtain ⟨n, hn1, hn⟩ := K.powersT_form g
    rw [hn, pows_length] at hy4
    have hnq : n = (K.P ^ K.m - 1).toNat := by omega
    have hgen : K.gen = K.pows g n := by rw [← hn]; exact hy3
    rw [hn, K.pows_getD g n _ (by omega)] at hy5
    have hone : pw g n = 1 := by
      obtain ⟨j, hj⟩ : ∃ j, n = j + 1 := ⟨n - 1, by omega⟩
      rw [show (K.P ^ K.m - 2).toNat = j from by omega] at hy5
      rw [hj]
      exact El.eq (by show mulZ K.P K.m K.Mod (pw g j).1 g.1 = 1; exact hy5)
    refine ⟨g, hnq ▸ hgen, hnq ▸ hone, fun a ha => ?_⟩
    rw [← hnq]
    have n1' : (K.pows g n).Nodup := hgen ▸ n1
    have n2' : ∀ x ∈ K.pows g n, x ≠ 0 := hgen ▸ n2
    have hnd : ((List.range n).map (pw g)).Nodup := nodup_map_inj _ _ (fun i hi j hj e => by
      rw [List.mem_range] at hi hj
      have hp : ∀ t, t < n → (K.pows g n)[t]? = some (pw g t).1 := fun t ht => by simp [pows, ht]
      exact (List.getElem?_inj (by rw [pows_length]; exact hi) n1').1 (by rw [hp i hi, hp j hj, e])) List.nodup_range
    have hsub : ∀ x ∈ (List.range n).map (pw g), x ∈ K.els.erase 0 := fun x hx => by
      obtain ⟨i, hi, rfl⟩ := List.mem_map.1 hx
      have h0 : pw g i ≠ 0 := fun e => n2' (pw g i).1 (List.mem_map.2 ⟨i, hi, rfl⟩) (by rw [e]; rfl)
      rw [List.mem_erase_of_ne h0]
      exact K.els_mem _
    have hlen : (K.els.erase 0).length ≤ ((List.range n).map (pw g)).length := by
      rw [List.length_erase_of_mem (K.els_mem 0), els_length]
      simp only [List.length_map, List.length_range]; omega
    have := nodup_all _ _ hnd hsub hlen a (by rw [List.mem_erase_of_ne ha]; exact K.els_mem a)
    obtain ⟨i, hi, e⟩ := List.mem_map.1 this
    exact ⟨i, List.mem_range.1 hi, e.symm⟩
theorem IsGen.dom {K : SD} {g : K.El} (h : K.IsGen g) : K.Dom := by
  intro a b hab
  by_cases ha : a = 0
  · exact .inl ha
  right
  obtain ⟨i, hi, rfl⟩ := h.all a ha
  obtain ⟨j, hj⟩ : ∃ j, (K.P ^ K.m - 1).toNat = j + i := ⟨(K.P ^ K.m - 1).toNat - i, by omega⟩
  have h1 := h.one
  rw [hj, pw_add] at h1
  rw [← one_mul b, ← h1, mul_assoc, hab, mul_zero]
/-- Without divisors of zero, a field. -/
@[reducible] noncomputable def fdOf (hd : K.Dom) : Fd K.El :=
  { (inferInstance : CR K.El) with
    inv := fun a => open Classical in if h : a ≠ 0 then (finite_inv K.els K.els_nodup K.els_mem hd a h).choose else 0
    mul_inv' := fun a h => by
      have h' : a ≠ 0 := h
      simp only [dif_pos h']
      exact (finite_inv K.els K.els_nodup K.els_mem hd a h').choose_spec
    zero_ne_one' := fun e => by
      have : (0 : Int) = 1 := congrArg El.v e
      omega }
theorem powLoop_ord (x : K.El) (N : Nat) (hN : Ord x N) (h0 : ∀ i, pw x i ≠ 0) (hinj : ∀ i j, i < N → j < N → pw x i = pw x j → i = j) : ∀ (k n : Nat), 1 ≤ n → n ≤ N → N - n < k →
    powLoop (fun y => mulZ K.P K.m K.Mod y x.1) k (K.pows x n) (pw x n).1 = some (K.pows x N)
  | 0, _, _, _, hk => by omega
  | k + 1, n, h1, h2, hk => by
    simp only [powLoop]
    have hz : ¬ (pw x n).1 = 0 := fun e => h0 n (El.eq e)
    rw [if_neg hz]
    by_cases he : n = N
    · have hmem : (pw x n).1 ∈ K.pows x n := by
        rw [he, hN.one]
        exact List.mem_map.2 ⟨0, List.mem_range.2 hN.pos, rfl⟩
      rw [if_pos hmem, he]
    · have hmem : ¬ (pw x n).1 ∈ K.pows x n := fun hm => by
        obtain ⟨i, hi, e⟩ := List.mem_map.1 hm
        rw [List.mem_range] at hi
        have := hinj i n (by omega) (by omega) (El.eq e)
        omega
      rw [if_neg hmem, ← pows_succ]
      exact powLoop_ord x N hN h0 hinj k (n + 1) (by omega) (by omega) (by omega)
theorem genLoop_ne (q : Int) (hq : 2 ≤ q) : ∀ (n : Nat) (x y : Int), x ≤ y → y < x + n → ((powersT K.P K.m K.Mod q y).length : Int) = q - 1 → mulZ K.P K.m K.Mod ((powersT K.P K.m K.Mod q y).getD (q - 2).toNat 0) y = 1 → genLoop K.P K.m K.Mod q n x ≠ []
  | 0, x, y, h1, h2, _, _ => by omega
  | n + 1, x, y, h1, h2, h3, h4 => by
    simp only [genLoop]
    split
    · rename_i hc
      intro e
      rw [e] at hc
      have := hc.1
      simp at this
      omega
    · rename_i hc
      by_cases e : x = y
      · subst e; exact absurd ⟨h3, h4⟩ hc
      · exact genLoop_ne q hq n (x + 1) y (by omega) (by omega) h3 h4
theorem gen_of_dom (hd : K.Dom) : K.gen ≠ [] := by
  have h2 := K.q_two
  obtain ⟨g, N, hNe, hg0, hord, hinj, hnz⟩ : ∃ (g : K.El) (N : Nat), N = (K.P ^ K.m - 1).toNat ∧ g ≠ 0 ∧ Ord g N ∧ (∀ i j, i < N → j < N → pw g i = pw g j → i = j) ∧ ∀ i, pw g i ≠ 0 := by
    letI := K.fdOf hd
    obtain ⟨g, hg0, hord⟩ := exists_gen K.els K.els_nodup K.els_mem
    rw [els_length] at hord
    exact ⟨g, (K.P ^ K.m).toNat - 1, by omega, hg0, hord, fun i j hi hj e => hord.inj hg0 hi hj e, pw_ne_zero hg0⟩
  have hp := powersT_eq K.P K.two K.m K.m1 K.Mod K.q256 g.1 g.2.1 g.2.2
  have e1 : (pw g 1).1 = g.1 := by rw [pw_one]
  have hl := K.powLoop_ord g N hord hnz hinj ((K.P ^ K.m).toNat + 1) 1 (by omega) (by omega) (by omega)
  rw [pows_one, e1, hp] at hl
  have hl' : powersT K.P K.m K.Mod (K.P ^ K.m) g.1 = K.pows g N := Option.some.inj hl
  have hg1 : 1 ≤ g.1 := by
    have := g.2.1
    have : g.1 ≠ 0 := fun e => hg0 (El.eq e)
    omega
  refine K.genLoop_ne (K.P ^ K.m) h2 _ 1 g.1 hg1 (by have := g.2.2; omega) ?_ ?_
  · rw [hl', pows_length]; omega
  · rw [hl', K.pows_getD g N _ (by omega)]
    obtain ⟨j, hj⟩ : ∃ j, N = j + 1 := ⟨N - 1, by omega⟩
    rw [show (K.P ^ K.m - 2).toNat = j from by omega]
    have h1 := hord.one
    rw [hj, pw] at h1
    exact congrArg El.v h1
theorem gen_iff : K.gen ≠ [] ↔ K.Dom := ⟨fun h => (K.exists_isGen h).choose_spec.dom, K.gen_of_dom⟩
theorem gen_irr : K.gen ≠ [] ↔ Irr K.f K.m := K.gen_iff.trans K.dom_iff
end SD

/-- A field. -/
structure FD extends SD where
  hg : toSD.gen ≠ []
namespace FD
variable (K : FD)
abbrev E : Type := K.toSD.El
theorem ok : K.D.ok := K.toSD.D_ok K.hg
theorem fok : fieldOk K.P K.m K.Mod = true := by
  have hP2 := K.two
  have h2 := K.q_two
  have h256 := K.q256
  have hp : K.P ≤ K.P ^ K.m := by
    have := pow_le_pow K.P K.two 1 K.m K.m1
    rw [Int.pow_one] at this; exact this
  have hprime : primeZ K.P = true := (primeZ_iff K.P (by omega)).2 ⟨K.two, K.nod⟩
  have hm1 := K.m1
  have hm8 := K.m8
  have hord : orderZ K.P K.m ≠ 0 := by
    unfold orderZ
    rw [if_neg (by omega), Int.toNat_natCast]
    have key : ∀ (n : Nat) (q : Int), 1 ≤ q → q * K.P ^ n ≤ 256 → ordLoop K.P n q ≠ 0 := by
      intro n
      induction n with
      | zero => intro q h1 _; simp only [ordLoop]; omega
      | succ n ih =>
        intro q h1 h2
        have hP := K.two
        have h3 : 0 < K.P ^ n := Int.pow_pos (by omega)
        have h4 : 1 * 1 ≤ q * K.P := Int.mul_le_mul h1 (by omega) (by omega) (by omega)
        have h5 : q * K.P * K.P ^ n ≤ 256 := by
          rw [Int.pow_succ, Int.mul_comm (K.P ^ n), ← Int.mul_assoc] at h2; exact h2
        have h6 : q * K.P * 1 ≤ q * K.P * K.P ^ n := Int.mul_le_mul_of_nonneg_left (by omega) (by omega)
        simp only [ordLoop]
        rw [if_neg (by omega)]
        exact ih _ (by omega) h5
    exact key K.m 1 (by omega) (by omega)
  unfold fieldOk
  rw [Bool.and_eq_true]
  refine ⟨?_, ?_⟩
  · unfold shapeZ
    rw [if_neg hord, if_neg (by rw [hprime]; simp)]
    by_cases hM : (K.m : Int) = 1
    · rw [if_pos hM]
      rw [K.one (by omega)]; rfl
    · rw [if_neg hM, if_neg (by rw [K.len (by omega)]; simp)]
      exact List.all_eq_true.2 fun d hd => decide_eq_true (K.rng d hd)
  · rw [Int.toNat_natCast]
    have := K.hg
    show (!(K.gen).isEmpty) = true
    cases h : K.gen with
    | nil => exact absurd h this
    | cons a l => rfl
theorem tab : K.D.tab := fieldD_tab K.P K.m K.Mod K.fok K.ok
theorem full : K.D.full := fieldD_full K.P K.m K.Mod K.fok K.ok
theorem q_eq : K.D.q = K.P ^ K.m := rfl
/-- The product by the tables is that of the residues. -/
theorem mul_eq (a b : K.E) : K.D.mul a.1 b.1 = (a * b).1 := by
  obtain ⟨g, hgen⟩ := K.toSD.exists_isGen K.hg
  have hq2 := K.q_two
  have ha := K.D.inn_id a.2.1 a.2.2
  have hb := K.D.inn_id b.2.1 b.2.2
  by_cases ha0 : a = 0
  · subst ha0
    rw [show ((0 : K.E) * b) = 0 from zero_mul _]
    exact K.D.mul_zero_left K.ok _
  by_cases hb0 : b = 0
  · subst hb0
    rw [show (a * (0 : K.E)) = 0 from mul_zero _]
    exact K.D.mul_zero_right K.ok _
  obtain ⟨i, hi, ea⟩ := hgen.all a ha0
  obtain ⟨j, hj, eb⟩ := hgen.all b hb0
  have pos : ∀ {c : K.E}, c ≠ 0 → 1 ≤ c.1 := fun {c} hc => by
    have h1 := c.2.1
    have h2 : c.1 ≠ 0 := fun e => hc (SD.El.eq e)
    omega
  have hexp : ∀ k : Nat, k < (K.P ^ K.m - 1).toNat → rdz K.D.exp k = (pw g k).1 := fun k hk => by
    show K.gen.getD (k : Int).toNat 0 = _
    rw [Int.toNat_natCast, hgen.list, K.toSD.pows_getD g _ _ hk]
  have hlog : ∀ k : Nat, k < (K.P ^ K.m - 1).toNat → rdz K.D.log (pw g k).1 = k := fun k hk => by
    rw [← hexp k hk]
    exact K.tab.logexp k (by omega) (by rw [K.q_eq]; omega)
  obtain ⟨e, -⟩ := K.D.mul_nz K.tab (pos ha0) a.2.2 (pos hb0) b.2.2
  rw [e, ea, eb, hlog i hi, hlog j hj]
  have hN : (0 : Int) < K.P ^ K.m - 1 := by omega
  have hmod : ((i : Int) + j) % (K.D.q - 1) = (((i + j) % (K.P ^ K.m - 1).toNat : Nat) : Int) := by
    rw [K.q_eq, Int.natCast_emod, Int.natCast_add, Int.toNat_of_nonneg (by omega)]
  rw [hmod, hexp _ (Nat.mod_lt _ (by omega)), pw_mod hgen.one, pw_add]
theorem inv_range (x : Int) : 0 ≤ K.D.inv x ∧ K.D.inv x < K.P ^ K.m := by
  have h := K.ok.q2
  rw [K.q_eq] at h
  unfold GFD.inv
  split
  · omega
  · exact K.ok.exp0 _
def invE (a : K.E) : K.E := ⟨K.D.inv a.1, K.inv_range _⟩
theorem mul_invE {a : K.E} (ha : a ≠ 0) : a * K.invE a = 1 := by
  have h1 := a.2.1
  have h2 : a.1 ≠ 0 := fun e => ha (SD.El.eq e)
  have hq2 := K.q_two
  have h3 := K.D.mul_inv_mul K.tab (t := 1) (l := a.1) (by omega) (by rw [K.q_eq]; omega) (by omega) a.2.2
  have e1 : K.D.mul 1 (K.D.inv a.1) = ((1 : K.E) * K.invE a).1 := K.mul_eq 1 (K.invE a)
  rw [e1, show ((1 : K.E) * K.invE a) = K.invE a from one_mul _, K.mul_eq (K.invE a) a] at h3
  rw [show a * K.invE a = K.invE a * a from mul_comm _ _]
  exact SD.El.eq h3
instance : Fd K.E :=
  { (inferInstance : CR K.E) with
    inv := K.invE
    mul_inv' := fun a h => K.mul_invE h
    zero_ne_one' := fun e => by
      have : (0 : Int) = 1 := congrArg SD.El.v e
      omega }
/-- The element of a number. -/
def el (x : Int) : K.E := ⟨K.D.inn x, K.D.inn_lt K.ok x⟩
theorem el_val (a : K.E) : K.el a.1 = a := SD.El.eq (K.D.inn_id a.2.1 a.2.2)
theorem val_el {x : Int} (h : K.D.is x = true) : (K.el x).1 = x := by
  have := of_decide_eq_true h
  exact K.D.inn_id this.1 this.2
theorem el_inj {x y : Int} (hx : K.D.is x = true) (hy : K.D.is y = true) (h : K.el x = K.el y) : x = y := by
  rw [← K.val_el hx, ← K.val_el hy, h]
theorem is_val (a : K.E) : K.D.is a.1 = true := decide_eq_true a.2
theorem inn_inn (x : Int) : K.D.inn (K.D.inn x) = K.D.inn x := by
  have := K.D.inn_lt K.ok x
  exact K.D.inn_id this.1 this.2
theorem el_zero : K.el 0 = 0 := K.el_val 0
theorem el_one : K.el 1 = 1 := K.el_val 1
theorem is_zero : K.D.is 0 = true := K.is_val 0
theorem is_one : K.D.is 1 = true := K.is_val 1
theorem add_eq (x y : Int) : K.D.add x y = (K.el x + K.el y).1 := rfl
theorem neg_eq (x : Int) : K.D.neg x = (- K.el x).1 := rfl
theorem mul_inn (x y : Int) : K.D.mul x y = K.D.mul (K.D.inn x) (K.D.inn y) := by unfold GFD.mul; rw [K.inn_inn, K.inn_inn]
theorem mul_eq' (x y : Int) : K.D.mul x y = (K.el x * K.el y).1 := by rw [K.mul_inn]; exact K.mul_eq (K.el x) (K.el y)
theorem sub_eq (x y : Int) : K.D.sub x y = (K.el x - K.el y).1 := by
  unfold GFD.sub
  rw [add_eq, neg_eq, el_val]; rfl
theorem inv_inn (x : Int) : K.D.inv x = K.D.inv (K.D.inn x) := by unfold GFD.inv; rw [K.inn_inn]
theorem inv_eq (x : Int) : K.D.inv x = (finv (K.el x)).1 := K.inv_inn x
theorem el_add (x y : Int) : K.el (K.D.add x y) = K.el x + K.el y := by rw [add_eq, el_val]
theorem el_neg (x : Int) : K.el (K.D.neg x) = - K.el x := by rw [neg_eq, el_val]
theorem el_sub (x y : Int) : K.el (K.D.sub x y) = K.el x - K.el y := by rw [sub_eq, el_val]
theorem el_mul (x y : Int) : K.el (K.D.mul x y) = K.el x * K.el y := by rw [mul_eq', el_val]
theorem el_inv (x : Int) : K.el (K.D.inv x) = finv (K.el x) := by rw [inv_eq, el_val]
theorem is_add (x y : Int) : K.D.is (K.D.add x y) = true := by rw [add_eq]; exact K.is_val _
theorem is_mul (x y : Int) : K.D.is (K.D.mul x y) = true := by rw [mul_eq']; exact K.is_val _
end FD
end Go.Proofs.Yticgblagimmlfaa

namespace Go.Proofs.Yticgblagimmlfaa
open CW CW.PS
set_option linter.unusedVariables false
set_option linter.unusedSimpArgs false

namespace SD
variable (K : SD)
/-- The monic polynomial with the lower coefficients low. -/
def monic (low : List Int) : PS K.Z := K.toS low + mon low.length
theorem Dg_monic (low : List Int) : Dg (K.monic low) (low.length + 1) := ((K.Dg_toS low).mono (by omega)).add (Dg.mon _)
theorem monic_top (low : List Int) : K.monic low low.length = 1 := by
  unfold monic
  rw [add_at, K.Dg_toS low _ (Nat.le_refl _), mon_at, if_pos rfl, zero_add]
theorem getD_set_ne (l : List Int) (i t : Nat) (v : Int) (h : t ≠ i) : (l.set i v).getD t 0 = l.getD t 0 := by
  rw [List.getD_eq_getElem?_getD, List.getElem?_set_ne (Ne.symm h), ← List.getD_eq_getElem?_getD]
theorem getD_set_self (l : List Int) (i : Nat) (v : Int) (h : i < l.length) : (l.set i v).getD i 0 = v := by
  rw [List.getD_eq_getElem?_getD, List.getElem?_set_self h]; rfl
theorem toS_divStep (low r : List Int) (i : Nat) (h1 : low.length ≤ i) (h2 : i < r.length) :
    K.toS (divStep K.P low r i) = K.toS r - C (K.zm (r.getD i 0)) * (mon (i - low.length) * K.monic low) := by
  funext t
  rw [sub_at, C_mul_at, mon_mul_at]
  unfold monic
  rw [add_at, mon_at]
  show K.zm ((divStep K.P low r i).getD t 0) = K.zm (r.getD t 0) - _
  unfold divStep
  by_cases ht : t = i
  · subst ht
    rw [getD_set_self _ _ _ (by rw [updAt_length]; exact h2), if_neg (by omega), show t - (t - low.length) = low.length from by omega, K.Dg_toS low _ (Nat.le_refl _), if_pos rfl, zero_add, mul_one, sub_self]
    rfl
  · rw [getD_set_ne _ _ _ _ ht]
    by_cases hl : t < r.length
    · rw [updAt_getD _ _ _ _ _ hl]
      by_cases h3 : t < i - low.length
      · rw [if_neg (by omega), if_pos h3, mul_zero, sub_zero]
      · rw [if_neg h3]
        by_cases h4 : t < i
        · rw [if_pos (by omega), if_neg (by omega), add_zero, zm_emod, zm_add, zm_mul, zm_sub, zm_P]
          exact ring_id [K.zm (r.getD t 0), K.zm (r.getD i 0), K.zm (low.getD (t - (i - low.length)) 0)] (x0 + (0 - x1) * x2) (x0 - x1 * x2) rfl
        · rw [if_neg (by omega), K.Dg_toS low _ (by omega), if_neg (by omega), add_zero, mul_zero, sub_zero]
    · rw [updAt_out _ _ _ _ _ (by omega), getD_out r t (by omega), if_neg (by omega), K.Dg_toS low _ (by omega), if_neg (by omega), add_zero, mul_zero, sub_zero]
theorem divStep_zero (low r : List Int) (i : Nat) (h1 : low.length ≤ i) (h2 : i < r.length) (hz : ZFrom r (i + 1)) : ZFrom (divStep K.P low r i) i := by
  intro t ht
  unfold divStep
  by_cases e : t = i
  · subst e; exact getD_set_self _ _ _ (by rw [updAt_length]; exact h2)
  · rw [getD_set_ne _ _ _ _ e]
    by_cases hl : t < r.length
    · rw [updAt_getD _ _ _ _ _ hl, if_neg (by omega)]
      exact hz t (by omega)
    · exact updAt_out _ _ _ _ _ (by omega)
theorem divRun_spec (low : List Int) : ∀ (n : Nat) (r : List Int), low.length + n ≤ r.length → ZFrom r (low.length + n) → (∀ d ∈ r, 0 ≤ d ∧ d < K.P) →
    (∀ d ∈ divRun K.P low n r, 0 ≤ d ∧ d < K.P) ∧ ZFrom (divRun K.P low n r) low.length ∧ ∃ h N, Dg h N ∧ K.toS r = h * K.monic low + K.toS (divRun K.P low n r)
  | 0, r, hl, hz, hm => ⟨hm, hz, 0, 0, Dg.zero 0, by rw [zero_mul, zero_add]; rfl⟩
  | n + 1, r, hl, hz, hm => by
    have hs := K.toS_divStep low r (low.length + n) (by omega) (by omega)
    obtain ⟨h1, h2, h, N, h3, h4⟩ := divRun_spec low n (divStep K.P low r (low.length + n)) (by rw [divStep_length]; omega) (K.divStep_zero low r (low.length + n) (by omega) (by omega) (by rw [Nat.add_assoc]; exact hz)) (divStep_mem K.P K.two low r _ hm)
    refine ⟨h1, h2, h + C (K.zm (r.getD (low.length + n) 0)) * mon (low.length + n - low.length), max N (low.length + n - low.length + 1), (h3.mono (by omega)).add (((Dg.mon _).C_mul _).mono (by omega)), ?_⟩
    rw [hs] at h4
    obtain ⟨c, hc⟩ : ∃ c, C (K.zm (r.getD (low.length + n) 0)) = c := ⟨_, rfl⟩
    obtain ⟨x, hx⟩ : ∃ x, (mon (low.length + n - low.length) : PS K.Z) = x := ⟨_, rfl⟩
    rw [hc, hx] at h4 ⊢
    have e : K.toS r = (K.toS r - c * (x * K.monic low)) + c * (x * K.monic low) := ring_id [K.toS r, c, x, K.monic low] x0 (x0 - x1 * (x2 * x3) + x1 * (x2 * x3)) rfl
    rw [e, h4]
    exact ring_id [h, K.monic low, c, x, K.toS (divRun K.P low n (divStep K.P low r (low.length + n)))] (x0 * x1 + x4 + x2 * (x3 * x1)) ((x0 + x2 * x3) * x1 + x4) rfl
theorem toS_zero_iff (r : List Int) (hm : ∀ d ∈ r, 0 ≤ d ∧ d < K.P) : K.toS r = 0 ↔ (r.all fun x => decide (x = 0)) = true := by
  have hP := K.two
  rw [List.all_eq_true]
  constructor
  · intro h x hx
    obtain ⟨i, hi, e⟩ := List.getElem_of_mem hx
    have h1 := congrFun h i
    have h2 : r.getD i 0 = x := by rw [List.getD_eq_getElem?_getD, List.getElem?_eq_getElem hi]; exact e
    have h3 : K.zm x = K.zm 0 := by rw [← h2]; exact h1
    exact decide_eq_true (K.zm_inj (hm x hx) (by omega) h3)
  · intro h
    funext i
    show K.zm (r.getD i 0) = 0
    have : r.getD i 0 = 0 := by
      rw [List.getD_eq_getElem?_getD]
      cases e : r[i]? with
      | none => rfl
      | some x => exact of_decide_eq_true (h x (List.mem_of_getElem? e))
    rw [this]; rfl
theorem dividesZ_iff (low mod : List Int) (hl : low.length ≤ mod.length) (hm : ∀ d ∈ mod, 0 ≤ d ∧ d < K.P) (f : PS K.Z) (hf : f = K.monic mod) : dividesZ K.P low mod = true ↔ ∃ h n, Dg h n ∧ f = h * K.monic low := by
  have hP := K.two
  have hrm : ∀ d ∈ mod ++ [(1 : Int)], 0 ≤ d ∧ d < K.P := by
    intro d hd
    rcases List.mem_append.1 hd with hd | hd
    · exact hm d hd
    · simp only [List.mem_singleton] at hd; omega
  have hr : K.toS (mod ++ [1]) = f := by
    rw [hf]
    funext i
    unfold monic
    rw [add_at, mon_at]
    show K.zm ((mod ++ [1]).getD i 0) = K.zm (mod.getD i 0) + _
    by_cases h1 : i < mod.length
    · rw [List.getD_eq_getElem?_getD, List.getElem?_append_left h1, ← List.getD_eq_getElem?_getD, if_neg (by omega), add_zero]
    · rw [getD_out mod i (by omega)]
      by_cases h2 : i = mod.length
      · subst h2
        rw [List.getD_eq_getElem?_getD, List.getElem?_append_right (Nat.le_refl _), Nat.sub_self, if_pos rfl, zm_zero, zero_add]; rfl
      · rw [getD_out _ i (by simp; omega), if_neg h2, add_zero]
  obtain ⟨h1, h2, h, N, h3, h4⟩ := K.divRun_spec low (mod.length + 1 - low.length) (mod ++ [1]) (by simp; omega) (fun i hi => getD_out _ _ (by simp; omega)) hrm
  unfold dividesZ
  rw [← K.toS_zero_iff _ h1]
  rw [hr] at h4
  obtain ⟨R, hR⟩ : ∃ R, K.toS (divRun K.P low (mod.length + 1 - low.length) (mod ++ [1])) = R := ⟨_, rfl⟩
  have hRd : Dg R low.length := fun i hi => by
    rw [← hR]
    show K.zm _ = 0
    rw [h2 i hi]; rfl
  rw [hR] at h4 ⊢
  constructor
  · intro e
    exact ⟨h, N, h3, by rw [h4, e, add_zero]⟩
  · rintro ⟨h', n, h5, h6⟩
    refine Cg.uniq (K.Dg_monic low) (K.monic_top low) hRd (Dg.zero _) ⟨h' - h, max n N, (h5.mono (by omega)).sub (h3.mono (by omega)), ?_⟩
    rw [sub_zero]
    have e : R = (h * K.monic low + R) - h * K.monic low := ring_id [R, h * K.monic low] x0 (x1 + x0 - x1) rfl
    rw [e, ← h4, h6]
    exact ring_id [h', h, K.monic low] (x0 * x2 - x1 * x2) ((x0 - x1) * x2) rfl
/-- Each monic polynomial is one of the numbers'. -/
theorem exists_digs (d : Nat) (g : PS K.Z) (hg : Dg g (d + 1)) (h1 : g d = 1) : ∃ v : Nat, v < (K.P ^ d).toNat ∧ K.monic (digs K.P d (v : Int)) = g := by
  have hP := K.two
  obtain ⟨l, hl⟩ : ∃ l, (List.range d).map (fun i => (g i).1) = l := ⟨_, rfl⟩
  have hlen : l.length = d := by rw [← hl]; simp
  have hmem : ∀ x ∈ l, 0 ≤ x ∧ x < K.P := fun x hx => by
    rw [← hl] at hx
    obtain ⟨i, -, rfl⟩ := List.mem_map.1 hx
    exact (g i).2
  have hb := val_bound K.P K.two l hmem
  rw [hlen] at hb
  refine ⟨(val K.P l).toNat, by omega, ?_⟩
  rw [show (((val K.P l).toNat : Nat) : Int) = val K.P l from by omega]
  have e : digs K.P d (val K.P l) = l := by have := digs_val K.P K.two l hmem; rw [hlen] at this; exact this
  rw [e]
  funext i
  unfold monic
  rw [add_at, mon_at, hlen]
  show K.zm (l.getD i 0) + _ = _
  by_cases hi : i < d
  · rw [if_neg (by omega), add_zero, ← hl, range_map_getD _ _ _ hi]
    exact K.pr.zm_val _
  · rw [getD_out l i (by omega)]
    by_cases h2 : i = d
    · subst h2; rw [if_pos rfl, zm_zero, zero_add, h1]
    · rw [if_neg h2, add_zero, hg i (by omega)]; rfl
theorem irrZ_iff (h : 1 < K.m) : irrZ K.P K.Mod = true ↔ Irr K.f K.m := by
  have hP := K.two
  have hlen := K.len h
  have hf : K.f = K.monic K.Mod := by
    unfold f monic
    rw [hlen]
    congr 1
    funext i
    show K.zm (lowZ K.m K.Mod i) = K.zm (K.Mod.getD i 0)
    unfold lowZ
    rw [if_pos h]
  unfold irrZ irrD
  rw [List.all_eq_true]
  simp only [List.all_eq_true, List.mem_range, hlen]
  constructor
  · intro hi d hd1 hd2 g hg hg1 h n hh e
    obtain ⟨v, hv, hvg⟩ := K.exists_digs d g hg hg1
    have h1 := hi (d - 1) (by omega) v (by rw [show d - 1 + 1 = d from by omega]; exact hv)
    rw [show d - 1 + 1 = d from by omega] at h1
    have h2 : dividesZ K.P (digs K.P d (v : Int)) K.Mod = true := (K.dividesZ_iff _ K.Mod (by rw [digs_length, hlen]; omega) K.rng K.f hf).2 ⟨h, n, hh, by rw [hvg]; exact e⟩
    rw [h2] at h1; cases h1
  · intro hi i hlt v hv
    cases e : dividesZ K.P (digs K.P (i + 1) (v : Int)) K.Mod with
    | false => rfl
    | true =>
      obtain ⟨h', n, h1, h2⟩ := (K.dividesZ_iff _ K.Mod (by rw [digs_length, hlen]; omega) K.rng K.f hf).1 e
      have hd := K.Dg_monic (digs K.P (i + 1) (v : Int))
      have ht := K.monic_top (digs K.P (i + 1) (v : Int))
      rw [digs_length] at hd ht
      exact absurd h2 (hi (i + 1) (by omega) (by omega) _ hd ht h' n h1)
theorem irr_one (h : K.m = 1) : Irr K.f K.m := fun d h1 h2 => by omega
end SD

theorem noDiv_iff (n : Int) : ∀ (k : Nat) (d : Int), noDiv n k d = true ↔ ∀ e, d ≤ e → e < d + k → n % e ≠ 0
  | 0, d => by
    simp only [noDiv, true_iff]
    intro e h1 h2; omega
  | k + 1, d => by
    simp only [noDiv]
    by_cases h : n % d = 0
    · rw [if_pos h]
      constructor
      · intro h0; cases h0
      · intro h0; exact absurd h (h0 d (by omega) (by omega))
    · rw [if_neg h, noDiv_iff n k (d + 1)]
      constructor
      · intro h0 e h1 h2
        by_cases he : e = d
        · rw [he]; exact h
        · exact h0 e (by omega) (by omega)
      · intro h0 e h1 h2; exact h0 e (by omega) (by omega)
theorem primeR_eq (n : Int) (h2 : 2 ≤ n) (h : n ≤ 256) : primeR n = primeZ n := by
  rw [Bool.eq_iff_iff, primeZ_iff n h]
  unfold primeR
  rw [noDiv_iff]
  constructor
  · intro h0; exact ⟨h2, fun e h1 h3 => h0 e h1 (by omega)⟩
  · intro h0 e h1 h3; exact h0.2 e h1 (by omega)

theorem orderZ_nz (P M : Int) (h : orderZ P M ≠ 0) : 2 ≤ P ∧ P ≤ 256 ∧ 1 ≤ M ∧ M ≤ 8 ∧ P ^ M.toNat ≤ 256 ∧ orderZ P M = P ^ M.toNat := by
  obtain ⟨h1, h2, h3, h4⟩ := orderZ_range P M h
  obtain ⟨h5, h6⟩ := orderZ_pow P M h
  exact ⟨h1, h2, h3, h4, h6, h5⟩
/-- The shape, as data. -/
theorem exists_SD (P M : Int) (Mod : List Int) (h : shapeZ P M Mod = true) : ∃ K : SD, K.P = P ∧ (K.m : Int) = M ∧ K.Mod = Mod := by
  obtain ⟨p1, p2, p3, p4, p5, p6, p7, p8, p9, p10⟩ := shapeZ_true P M Mod h
  refine ⟨⟨P, M.toNat, Mod, p1, (primeZ_noDiv P p2 p7).2, by omega, by omega, p6, p8, p9, fun e => p10 (by omega)⟩, rfl, ?_, rfl⟩
  show ((M.toNat : Nat) : Int) = M
  omega
/-- A field's description, as data. -/
theorem exists_FD (P M : Int) (Mod : List Int) (h : fieldOk P M Mod = true) : ∃ K : FD, K.P = P ∧ (K.m : Int) = M ∧ K.Mod = Mod := by
  have h' := h
  unfold fieldOk at h'
  rw [Bool.and_eq_true] at h'
  obtain ⟨K, e1, e2, e3⟩ := exists_SD P M Mod h'.1
  refine ⟨⟨K, fun e => ?_⟩, e1, e2, e3⟩
  have h2 := h'.2
  unfold SD.gen at e
  rw [e1, e3, show K.m = M.toNat from by omega] at e
  rw [e] at h2
  cases h2
/-- The document's test agrees with the program's. -/
theorem fcheckR_iff (P M : Int) (Mod : List Int) : fcheckR P M Mod = 0 ↔ fieldOk P M Mod = true := by
  have hcore : shapeZ P M Mod = true → (fieldOk P M Mod = true ↔ (M = 1 ∨ irrZ P Mod = true)) := by
    intro hs
    obtain ⟨K, e1, e2, e3⟩ := exists_SD P M Mod hs
    have h1 : fieldOk P M Mod = true ↔ K.gen ≠ [] := by
      unfold fieldOk SD.gen
      rw [hs, e1, e3, show M.toNat = K.m from by omega, Bool.true_and]
      cases genZ P K.m Mod (P ^ K.m) <;> simp
    rw [h1, K.gen_irr]
    have hm1 := K.m1
    by_cases hM : M = 1
    · exact ⟨fun _ => .inl hM, fun _ => K.irr_one (by omega)⟩
    · rw [← K.irrZ_iff (by omega), e1, e3]
      exact ⟨fun h => .inr h, fun h => h.resolve_left hM⟩
  unfold fcheckR
  by_cases h0 : orderZ P M = 0
  · rw [if_pos h0]
    constructor
    · intro h; cases h
    · intro h
      unfold fieldOk shapeZ at h
      rw [if_pos h0] at h; cases h
  rw [if_neg h0]
  obtain ⟨p1, p2, p3, p4, p5, p6⟩ := orderZ_nz P M h0
  rw [primeR_eq P p1 p2]
  cases hp : primeZ P with
  | false =>
    rw [if_pos rfl]
    constructor
    · intro h; cases h
    · intro h
      unfold fieldOk shapeZ at h
      rw [if_neg h0, if_pos hp] at h; cases h
  | true =>
    rw [if_neg (by simp)]
    by_cases hM : M = 1
    · rw [if_pos hM]
      by_cases hl : Mod.length = 0
      · have hs : shapeZ P M Mod = true := by
          unfold shapeZ
          rw [if_neg h0, if_neg (by rw [hp]; simp), if_pos hM]
          exact decide_eq_true hl
        rw [if_neg (by omega), hcore hs]
        exact ⟨fun _ => .inl hM, fun _ => rfl⟩
      · rw [if_pos hl]
        constructor
        · intro h; cases h
        · intro h
          unfold fieldOk shapeZ at h
          rw [if_neg h0, if_neg (by rw [hp]; simp), if_pos hM, decide_eq_false hl] at h; cases h
    · rw [if_neg hM]
      by_cases hl : (Mod.length : Int) ≠ M
      · rw [if_pos hl]
        constructor
        · intro h; cases h
        · intro h
          unfold fieldOk shapeZ at h
          rw [if_neg h0, if_neg (by rw [hp]; simp), if_neg hM, if_pos hl] at h; cases h
      · rw [if_neg hl]
        cases hr : inRange P Mod with
        | false =>
          rw [if_pos rfl]
          constructor
          · intro h; cases h
          · intro h
            unfold fieldOk shapeZ at h
            rw [if_neg h0, if_neg (by rw [hp]; simp), if_neg hM, if_neg hl, hr] at h; cases h
        | true =>
          have hs : shapeZ P M Mod = true := by
            unfold shapeZ
            rw [if_neg h0, if_neg (by rw [hp]; simp), if_neg hM, if_neg hl]; exact hr
          rw [if_neg (by simp), hcore hs]
          cases irrZ P Mod with
          | false => simp [hM]
          | true => simp
end Go.Proofs.Yticgblagimmlfaa
