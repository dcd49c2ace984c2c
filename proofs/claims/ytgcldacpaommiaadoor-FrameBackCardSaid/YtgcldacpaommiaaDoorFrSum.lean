/- frames: the sum's own laws (no program): eight bits by a table of four; two states never meet; numbers in bytes come back. -/
import Derived.Test.YtgcldacpaommiaaDoorFrPlain
namespace Go.Proofs.YtgcldacpaommiaaDoor

theorem bit1_xor (x y : Nat) : bit1 (x ^^^ y) = bit1 x ^^^ bit1 y := by
  have h2 : (x ^^^ y) / 2 = x / 2 ^^^ y / 2 := by
    have := Nat.shiftRight_xor_distrib (a := x) (b := y) (i := 1)
    simpa [Nat.shiftRight_eq_div_pow] using this
  have hm : (x ^^^ y) % 2 = (x + y) % 2 := by
    have h0 := Nat.testBit_xor (x := x) (y := y) (i := 0)
    simp only [Nat.testBit_zero] at h0
    rcases Nat.mod_two_eq_zero_or_one x with hx | hx <;> rcases Nat.mod_two_eq_zero_or_one y with hy | hy <;> rcases Nat.mod_two_eq_zero_or_one (x ^^^ y) with hz | hz <;> rw [hz, hx, hy] at h0 <;> first | omega | (exfalso; revert h0; decide)
  unfold bit1
  rw [h2, hm]
  rcases Nat.mod_two_eq_zero_or_one x with hx | hx <;> rcases Nat.mod_two_eq_zero_or_one y with hy | hy
  · rw [if_neg (by omega), if_neg (by omega), if_neg (by omega)]
  · rw [if_pos (by omega), if_neg (by omega), if_pos (by omega), Nat.xor_assoc]
  · rw [if_pos (by omega), if_pos (by omega), if_neg (by omega)]
    rw [Nat.xor_assoc, Nat.xor_assoc, Nat.xor_comm (y / 2) poly]
  · rw [if_neg (by omega), if_pos (by omega), if_pos (by omega)]
    rw [Nat.xor_assoc, ← Nat.xor_assoc poly, Nat.xor_comm poly (y / 2), Nat.xor_assoc, Nat.xor_self, Nat.xor_zero]
theorem bit1_even (q : Nat) : bit1 (2 * q) = q := by
  unfold bit1
  rw [if_neg (by omega)]
  omega
def bits4 (w : Nat) : Nat := bit1 (bit1 (bit1 (bit1 w)))
theorem bits4_xor (x y : Nat) : bits4 (x ^^^ y) = bits4 x ^^^ bits4 y := by simp only [bits4, bit1_xor]
theorem bits4_16 (q : Nat) : bits4 (16 * q) = q := by
  unfold bits4
  rw [show 16 * q = 2 * (2 * (2 * (2 * q))) from by omega]
  simp only [bit1_even]
theorem split16 (q r : Nat) (hr : r < 16) : 16 * q + r = (16 * q) ^^^ r := by
  apply Nat.eq_of_testBit_eq
  intro j
  have h1 := Nat.testBit_two_pow_mul_add (i := 4) q (b := r) (by omega) j
  have h2 := Nat.testBit_two_pow_mul (i := 4) (a := q) (j := j)
  rw [Nat.testBit_xor]
  rw [show (2 : Nat) ^ 4 = 16 from rfl] at h1 h2
  rw [h1, h2]
  by_cases hj : j < 4
  · rw [if_pos hj, decide_eq_false (by omega)]; simp
  · rw [if_neg hj, decide_eq_true (by omega)]
    have : r.testBit j = false := Nat.testBit_lt_two_pow (Nat.lt_of_lt_of_le hr (by
      have : (2 : Nat) ^ 4 ≤ 2 ^ j := Nat.pow_le_pow_right (by omega) (by omega)
      exact this))
    rw [this]; simp
def tabL : List Nat := [0, 274646895, 549293790, 820201905, 1098587580, 1361435347, 1640403810, 1905808397, 2197175160, 2460548119, 2722870694, 2987750089, 3280807620, 3553878443, 3811616794, 4084100981]
def tab (i : Nat) : Nat := tabL.getD i 0
theorem tab_bits : ∀ r, r < 16 → bits4 r = tab r := by decide +kernel
theorem tab_lt (i : Nat) : tab i < 4294967296 := by
  by_cases h : i < 16
  · have : ∀ j, j < 16 → tab j < 4294967296 := by decide +kernel
    exact this i h
  · unfold tab
    rw [List.getD_eq_getElem?_getD, List.getElem?_eq_none (by simp [tabL]; omega)]
    decide
/-- four bits at once. -/
def nib (w : Nat) : Nat := (w / 16) ^^^ tab (w % 16)
theorem nib_bits (w : Nat) : nib w = bits4 w := by
  have h : w = (16 * (w / 16)) ^^^ (w % 16) := by rw [← split16 _ _ (by omega)]; omega
  conv => rhs; rw [h]
  rw [bits4_xor, bits4_16, tab_bits _ (by omega)]
  rfl
theorem nib_lt {w : Nat} (h : w < 4294967296) : nib w < 4294967296 := by
  unfold nib
  exact Nat.xor_lt_two_pow (n := 32) (by omega) (tab_lt _)
theorem step_nib (y : Nat) (c : UInt8) : nib (nib (y ^^^ c.toNat)) = crcStep y c := by
  rw [nib_bits, nib_bits]
  rfl
theorem bit1_lt {w : Nat} (h : w < 4294967296) : bit1 w < 4294967296 := by
  unfold bit1
  split
  · exact Nat.xor_lt_two_pow (n := 32) (by omega) (by unfold poly; omega)
  · omega
theorem step_lt {y : Nat} (h : y < 4294967296) (c : UInt8) : crcStep y c < 4294967296 := by
  rw [← step_nib]
  refine nib_lt (nib_lt (Nat.xor_lt_two_pow (n := 32) h ?_))
  have := c.toNat_lt
  omega
theorem fold_lt (l : List UInt8) : ∀ {y : Nat}, y < 4294967296 → l.foldl crcStep y < 4294967296 := by
  induction l with
  | nil => exact fun h => h
  | cons c l ih => exact fun h => ih (step_lt h c)
theorem ones_xor_lt {y : Nat} (h : y < 4294967296) : y ^^^ ones < 4294967296 := Nat.xor_lt_two_pow (n := 32) h (by unfold ones; omega)
theorem more_lt {y : Nat} (h : y < 4294967296) (l : List UInt8) : crcMore y l < 4294967296 := ones_xor_lt (fold_lt l (ones_xor_lt h))
theorem crc_lt (l : List UInt8) : crcL l < 4294967296 := more_lt (by omega) l
end Go.Proofs.YtgcldacpaommiaaDoor
