/- Bits of bytes: plain numbers. -/
import Derived.Test.YtcblibefmclloaaDoorBase
import Derived.Test.YtcblibefmclloaaDoorMWrap
set_option linter.unusedVariables false
set_option linter.unusedSimpArgs false
namespace Go.Proofs.YtcblibefmclloaaDoor
/-- The bit at a place. -/
def bitAt (bs : List Int) (i : Nat) : Int := (nth bs (i / 8)) / 2 ^ (i % 8) % 2
/-- The number of so many bits from a place on. -/
def numB (bs : List Int) (p : Nat) : Nat → Int
  | 0 => 0
  | n + 1 => numB bs p n + bitAt bs (p + n) * 2 ^ n
theorem bitAt_le (bs : List Int) (i : Nat) : 0 ≤ bitAt bs i ∧ bitAt bs i ≤ 1 := by unfold bitAt; omega
theorem pow_cast (n : Nat) : (0 : Int) < 2 ^ n := by exact_mod_cast Nat.two_pow_pos n
theorem numB_lt (bs : List Int) (p : Nat) : ∀ n, 0 ≤ numB bs p n ∧ numB bs p n < 2 ^ n
  | 0 => by simp [numB]
  | n + 1 => by
    have ih := numB_lt bs p n
    have hb := bitAt_le bs (p + n)
    have hp := pow_cast n
    rw [numB, Int.pow_succ]
    rcases (by omega : bitAt bs (p + n) = 0 ∨ bitAt bs (p + n) = 1) with h | h <;> rw [h] <;> omega
theorem numB_add (bs : List Int) (p h : Nat) : ∀ k, numB bs p (h + k) = numB bs p h + numB bs (p + h) k * 2 ^ h
  | 0 => by simp [numB]
  | k + 1 => by
    rw [← Nat.add_assoc, numB, numB_add bs p h k, numB, Int.add_mul, Nat.add_assoc p h k, Int.pow_add, Int.mul_assoc, Int.mul_comm (2 ^ h) (2 ^ k), Int.add_assoc]
theorem div_div (a b c : Int) (hb : 0 < b) : a / b / c = a / (b * c) := by
  rw [Int.ediv_ediv, if_neg (by rintro ⟨h, _⟩; omega)]; simp
theorem div_pow_succ (x : Int) (k : Nat) : x % 2 ^ (k + 1) = x % 2 ^ k + (x / 2 ^ k % 2) * 2 ^ k := by
  have hp := pow_cast k
  have h1 := Int.emod_add_mul_ediv x (2 ^ k)
  have h2 := Int.emod_add_mul_ediv (x / 2 ^ k) 2
  have h3 := Int.emod_nonneg x (show (2 : Int) ^ k ≠ 0 by omega)
  have h4 := Int.emod_lt_of_pos x hp
  have h5 : x / 2 ^ (k + 1) = x / 2 ^ k / 2 := by rw [Int.pow_succ, div_div _ _ _ (by omega)]
  have h6 := Int.emod_add_mul_ediv x (2 ^ (k + 1))
  rw [h5] at h6
  rw [Int.pow_succ] at *
  have e : x = x % 2 ^ k + 2 ^ k * (x / 2 ^ k % 2 + 2 * (x / 2 ^ k / 2)) := by rw [h2]; omega
  rw [Int.mul_add] at e
  have e2 : 2 ^ k * (2 * (x / 2 ^ k / 2)) = 2 ^ k * 2 * (x / 2 ^ k / 2) := by rw [Int.mul_assoc]
  rw [Int.mul_comm (x / 2 ^ k % 2)]
  omega
/-- Within one byte. -/
theorem numB_byte (bs : List Int) (p : Nat) : ∀ k, p % 8 + k ≤ 8 → numB bs p k = nth bs (p / 8) / 2 ^ (p % 8) % 2 ^ k
  | 0, _ => by simp [numB, Int.emod_one]
  | k + 1, h => by
    rw [numB, numB_byte bs p k (by omega), div_pow_succ]
    congr 2
    unfold bitAt
    rw [show (p + k) / 8 = p / 8 by omega, show (p + k) % 8 = p % 8 + k by omega, Int.pow_add]
    rw [div_div _ _ _ (pow_cast _)]
theorem or_join (i : Nat) (x y : Int) (hx₀ : 0 ≤ x) (hx : x % 2 ^ i = 0) (hx₁ : x < 2 ^ 64) (hy₀ : 0 ≤ y) (hy : y < 2 ^ i) (hy₁ : y < 2 ^ 64) : Go.bits .or .u64 y x = x + y := by
  have h := bits_join .u64 64 (by decide) wraps_u64 i x y hx₀ hx hx₁ hy₀ hy hy₁
  obtain ⟨a, rfl⟩ := Int.eq_ofNat_of_zero_le hx₀
  obtain ⟨b, rfl⟩ := Int.eq_ofNat_of_zero_le hy₀
  have ha : a < 2 ^ 64 := by exact_mod_cast hx₁
  have hb : b < 2 ^ 64 := by exact_mod_cast hy₁
  rw [(bits_nat .u64 64 (by decide) wraps_u64 a b ha hb).2] at h
  rw [(bits_nat .u64 64 (by decide) wraps_u64 b a hb ha).2, Nat.or_comm]
  exact h
theorem pow_le8 (k : Nat) (h : k ≤ 8) : (2 : Int) ^ k ≤ 256 := by
  have h1 : 2 ^ k ≤ 2 ^ 8 := Nat.pow_le_pow_right (by decide) h
  have : ((2 ^ k : Nat) : Int) ≤ ((2 ^ 8 : Nat) : Int) := by exact_mod_cast h1
  simpa using this
theorem take_byte (bs : List Int) (q k : Nat) (hb : 0 ≤ nth bs (q / 8) ∧ nth bs (q / 8) ≤ 255) (hk : q % 8 + k ≤ 8) :
    Go.bits .and .u8 (nth bs (q / 8) / 2 ^ (q % 8)) ((2 ^ k - 1) % 256) = numB bs q k := by
  have hp := pow_cast k
  have hp8 := pow_le8 k (by omega)
  have e1 : ((2 : Int) ^ k - 1) % 256 = 2 ^ k - 1 := by omega
  have hq := pow_cast (q % 8)
  have h1 : 0 ≤ nth bs (q / 8) / 2 ^ (q % 8) := Int.ediv_nonneg hb.1 (by omega)
  have h2 : nth bs (q / 8) / 2 ^ (q % 8) ≤ nth bs (q / 8) := Int.ediv_le_self _ hb.1
  rw [e1, bits_mask .u8 8 (by decide) wraps_u8 k (by omega) _ h1 (by omega), numB_byte bs q k hk]
theorem pow32 (h : Nat) (hh : h ≤ 32) : (2 : Int) ^ h ≤ 4294967296 := by
  have h1 : 2 ^ h ≤ 2 ^ 32 := Nat.pow_le_pow_right (by decide) hh
  have : ((2 ^ h : Nat) : Int) ≤ ((2 ^ 32 : Nat) : Int) := by exact_mod_cast h1
  simpa using this
theorem take_part (bs : List Int) (p h k : Nat) (hb : 0 ≤ nth bs ((p + h) / 8) ∧ nth bs ((p + h) / 8) ≤ 255) (hk : (p + h) % 8 + k ≤ 8) (hh : h + k ≤ 32) :
    Go.bits .or .u64 (numB bs p h) (IntKind.u64.wrap (IntKind.u64.wrap (Go.bits .and .u8 (nth bs ((p + h) / 8) / 2 ^ ((p + h) % 8)) ((2 ^ k - 1) % 256)) * 2 ^ h)) = numB bs p (h + k) := by
  rw [take_byte bs (p + h) k hb hk]
  have h1 := numB_lt bs (p + h) k
  have h2 := numB_lt bs p h
  have h3 := pow_cast h
  have h4 := pow32 h (by omega)
  have h5 := pow_le8 k (by omega)
  have h6 := numB_lt bs p (h + k)
  have h7 := pow32 (h + k) (by omega)
  have h8 := numB_add bs p h k
  rw [wraps_u64 (numB bs (p + h) k) h1.1 (by omega)]
  have h9 : 0 ≤ numB bs (p + h) k * 2 ^ h := Int.mul_nonneg h1.1 (by omega)
  have h10 : numB bs (p + h) k * 2 ^ h < 2 ^ 64 := by omega
  rw [wraps_u64 _ h9 h10, or_join h _ _ h9 (by simp) h10 h2.1 h2.2 (by omega), h8]
  omega
theorem num_u32 (bs : List Int) (p m : Nat) (hm : m ≤ 32) : numB bs p m % 4294967296 = numB bs p m := by
  have h1 := numB_lt bs p m
  have h2 := pow32 m hm
  omega
end Go.Proofs.YtcblibefmclloaaDoor
