/-
  The sum of bytes (CRC-32): by a table of sixteen, and bit by bit, is one. No program in sight.
-/
import Derived.Test.YtgpkenbefolegaaDoorKit
namespace Go.Proofs.YtgpkenbefolegaaDoor.sum
set_option linter.unusedVariables false
set_option linter.unusedSimpArgs false

def quarter : List Nat := [0, 498536548, 997073096, 651767980, 1994146192, 1802195444, 1303535960, 1342533948, 3988292384, 4027552580, 3604390888, 3412177804, 2607071920, 2262029012, 2685067896, 3183342108]
def q16 (i : Nat) : Nat := quarter.getD i 0
/-- What four bits do. -/
def half (u n : Nat) : Nat := (u / 16) ^^^ q16 ((u ^^^ n) % 16)
/-- What a byte does. -/
def moreB (u x : Nat) : Nat := half (half u x) (x / 16)
def moreL (u : Nat) (l : List Nat) : Nat := l.foldl moreB u
def sumL (l : List Nat) : Nat := 4294967295 - moreL 4294967295 l

theorem q16_lt (i : Nat) (h : i < 16) : q16 i < 4294967296 := by
  have : ∀ i : Fin 16, q16 i < 4294967296 := by decide
  exact this ⟨i, h⟩
theorem xor_lt32 {a b : Nat} (ha : a < 4294967296) (hb : b < 4294967296) : a ^^^ b < 4294967296 := Nat.xor_lt_two_pow (n := 32) ha hb
theorem half_lt (u n : Nat) (h : u < 4294967296) : half u n < 4294967296 := xor_lt32 (by omega) (q16_lt _ (by omega))
theorem moreB_lt (u x : Nat) (h : u < 4294967296) : moreB u x < 4294967296 := half_lt _ _ (half_lt _ _ h)
theorem moreL_lt (l : List Nat) : ∀ u, u < 4294967296 → moreL u l < 4294967296 := by
  induction l with
  | nil => exact fun u h => h
  | cons x l ih => exact fun u h => ih _ (moreB_lt u x h)
theorem moreL_snoc (u : Nat) (l : List Nat) (x : Nat) : moreL u (l ++ [x]) = moreB (moreL u l) x := by simp [moreL]

/-- One bit. -/
def bit1 (u b : Nat) : Nat := if (u % 2 ^^^ b) = 1 then (u / 2) ^^^ 3988292384 else u / 2
/-- A byte, bit by bit: k bits of it. -/
def bits8 (x : Nat) : Nat → Nat → Nat
  | 0, u => u
  | k + 1, u => bit1 (bits8 x k u) (x / 2 ^ k % 2)

def z1 (u : Nat) : Nat := (u / 2) ^^^ (if u % 2 = 1 then 3988292384 else 0)
theorem xor_div2 (a b : Nat) : (a ^^^ b) / 2 = (a / 2) ^^^ (b / 2) := by
  apply Nat.eq_of_testBit_eq
  intro i
  simp only [Nat.testBit_xor, Nat.testBit_div_two]
theorem xor_mod2 (a b : Nat) : (a ^^^ b) % 2 = (a % 2) ^^^ (b % 2) := by
  have h := Nat.xor_mod_two_pow (a := a) (b := b) (n := 1)
  simpa using h
theorem z1_xor (a b : Nat) : z1 (a ^^^ b) = z1 a ^^^ z1 b := by
  unfold z1
  rw [xor_div2, xor_mod2]
  have h : ∀ p q r s : Nat, (p ^^^ q) ^^^ (r ^^^ s) = (p ^^^ r) ^^^ (q ^^^ s) := by
    intro p q r s
    rw [Nat.xor_assoc, ← Nat.xor_assoc q r s, Nat.xor_comm q r, Nat.xor_assoc r q s, ← Nat.xor_assoc]
  rcases Nat.mod_two_eq_zero_or_one a with e | e <;> rcases Nat.mod_two_eq_zero_or_one b with f | f <;> rw [e, f]
  · simp
  · simp only [Nat.zero_xor, if_true, Nat.zero_ne_one, if_false, Nat.xor_zero]
    rw [Nat.xor_assoc]
  · simp only [Nat.xor_zero, if_true, Nat.zero_ne_one, if_false]
    rw [Nat.xor_assoc, Nat.xor_comm (b / 2), ← Nat.xor_assoc]
  · simp only [Nat.xor_self, if_true, Nat.zero_ne_one, if_false, Nat.xor_zero]
    rw [h, Nat.xor_self, Nat.xor_zero]
theorem z1_even (a : Nat) : z1 (2 * a) = a := by
  unfold z1
  simp
theorem bit1_z (u b : Nat) (hb : b < 2) : bit1 u b = z1 (u ^^^ b) := by
  unfold bit1 z1
  rw [xor_div2, xor_mod2, show b / 2 = 0 by omega, Nat.xor_zero, show b % 2 = b by omega]
  split <;> simp
def z4 (u : Nat) : Nat := z1 (z1 (z1 (z1 u)))
theorem z4_xor (a b : Nat) : z4 (a ^^^ b) = z4 a ^^^ z4 b := by simp [z4, z1_xor]
theorem z4_up (a : Nat) : z4 (16 * a) = a := by
  unfold z4
  rw [show 16 * a = 2 * (2 * (2 * (2 * a))) by omega]
  simp only [z1_even]
theorem z4_low (i : Nat) (h : i < 16) : z4 i = q16 i := by
  have : ∀ i : Fin 16, z4 i = q16 i := by decide
  exact this ⟨i, h⟩
theorem split16 (u : Nat) : u = (16 * (u / 16)) ^^^ (u % 16) := by
  have h : (16 * (u / 16)) ^^^ (u % 16) = 16 * (u / 16) + u % 16 := by
    apply Nat.eq_of_testBit_eq
    intro i
    have e := Nat.testBit_two_pow_mul_add (u / 16) (b := u % 16) (i := 4) (by omega) i
    rw [show (2 : Nat) ^ 4 = 16 by rfl] at e
    rw [e, Nat.testBit_xor, show (16 : Nat) = 2 ^ 4 by rfl, Nat.testBit_two_pow_mul, Nat.testBit_mod_two_pow]
    by_cases h4 : i < 4
    · have h5 : ¬ 4 ≤ i := by omega
      simp [h4, h5]
    · have h5 : 4 ≤ i := by omega
      simp [h4, h5]
  rw [h]
  omega
theorem z4_half (u n : Nat) (hn : n < 16) : z4 (u ^^^ n) = half u n := by
  have hd : (u ^^^ n) / 16 = u / 16 := by
    apply Nat.eq_of_testBit_eq
    intro i
    rw [show (16 : Nat) = 2 ^ 4 by rfl, Nat.testBit_div_two_pow, Nat.testBit_div_two_pow, Nat.testBit_xor]
    have : n.testBit (i + 4) = false := Nat.testBit_lt_two_pow (Nat.lt_of_lt_of_le hn (by
      rw [Nat.pow_add]
      have := Nat.one_le_two_pow (n := i)
      omega))
    rw [this]
    simp
  rw [split16 (u ^^^ n), z4_xor, z4_up, z4_low _ (by omega), hd]
  rfl
/-- Four bits, one behind the other. -/
theorem four_bits (u n : Nat) (hn : n < 16) : bit1 (bit1 (bit1 (bit1 u (n % 2)) (n / 2 % 2)) (n / 4 % 2)) (n / 8 % 2) = half u n := by
  rw [← z4_half u n hn, bit1_z _ _ (by omega), bit1_z _ _ (by omega), bit1_z _ _ (by omega), bit1_z _ _ (by omega)]
  have e : n = (n % 2) ^^^ (2 * ((n / 2 % 2) ^^^ (2 * ((n / 4 % 2) ^^^ (2 * (n / 8 % 2)))))) := by
    have : ∀ n : Fin 16, (n : Nat) = (n.1 % 2) ^^^ (2 * ((n.1 / 2 % 2) ^^^ (2 * ((n.1 / 4 % 2) ^^^ (2 * (n.1 / 8 % 2)))))) := by decide
    exact this ⟨n, hn⟩
  unfold z4
  conv => rhs; rw [e]
  generalize n % 2 = a
  generalize n / 2 % 2 = b
  generalize n / 4 % 2 = c
  generalize n / 8 % 2 = d
  simp only [z1_xor, z1_even, Nat.xor_assoc]
theorem bits8_more (u x : Nat) (hx : x < 256) : bits8 x 8 u = moreB u x := by
  have h1 := four_bits u (x % 16) (by omega)
  have h2 := four_bits (half u (x % 16)) (x / 16) (by omega)
  have e0 : half u (x % 16) = half u x := by
    unfold half
    congr 2
    have := Nat.xor_mod_two_pow (a := u) (b := x % 16) (n := 4)
    have h' := Nat.xor_mod_two_pow (a := u) (b := x) (n := 4)
    rw [show (2 : Nat) ^ 4 = 16 by rfl] at this h'
    rw [this, h', Nat.mod_mod]
  unfold moreB
  rw [← e0, ← h2, ← h1]
  simp only [bits8]
  have f0 : x / 2 ^ 0 % 2 = x % 16 % 2 := by omega
  have f1 : x / 2 ^ 1 % 2 = x % 16 / 2 % 2 := by omega
  have f2 : x / 2 ^ 2 % 2 = x % 16 / 4 % 2 := by omega
  have f3 : x / 2 ^ 3 % 2 = x % 16 / 8 % 2 := by omega
  have f4 : x / 2 ^ 4 % 2 = x / 16 % 2 := by omega
  have f5 : x / 2 ^ 5 % 2 = x / 16 / 2 % 2 := by omega
  have f6 : x / 2 ^ 6 % 2 = x / 16 / 4 % 2 := by omega
  have f7 : x / 2 ^ 7 % 2 = x / 16 / 8 % 2 := by omega
  rw [f0, f1, f2, f3, f4, f5, f6, f7]
end Go.Proofs.YtgpkenbefolegaaDoor.sum
