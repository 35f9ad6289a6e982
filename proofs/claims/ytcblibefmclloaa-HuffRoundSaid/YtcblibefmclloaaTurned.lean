import Derived.Test.YtcblibefmclloaaMCode
import Derived.Test.YtcblibefmclloaaMBits
import Derived.Outline
set_option linter.unusedVariables false
set_option linter.unusedSimpArgs false
namespace Go.Proofs.Ytcblibefmclloaa
open Go.RowKit
/-- The k lowest bits of a number, the other way round. -/
def revF (c : Int) : Nat → Int
  | 0 => 0
  | k + 1 => 2 * revF c k + c / 2 ^ k % 2
theorem revF_bd (c : Int) : ∀ k, 0 ≤ revF c k ∧ revF c k < 2 ^ k
  | 0 => by simp [revF]
  | k + 1 => by
    have := revF_bd c k
    rw [revF, Int.pow_succ]
    omega
theorem wraps_i64 (n : Int) (h₀ : 0 ≤ n) (h₁ : n < 2 ^ 62) : IntKind.i64.wrap n = n := by rw [IntKind.wrap_i64]; omega
theorem wraps_u32 (n : Int) (h₀ : 0 ≤ n) (h₁ : n < 2 ^ 32) : IntKind.u32.wrap n = n := by rw [IntKind.wrap_u32]; omega
theorem and_one (d : Int) (h0 : 0 ≤ d) (h : d ≤ 1000000000) : Go.bits .and .i64 d 1 = d % 2 := by
  have := bits_mask .i64 62 (by decide) wraps_i64 1 (by decide) d h0 (by omega)
  simpa using this
theorem or_bit (v b : Int) (h0 : 0 ≤ v) (h : v < 65536) (hb : b = 0 ∨ b = 1) : Go.bits .or .u32 (v * 2) b = 2 * v + b := by
  have := bits_join .u32 32 (by decide) wraps_u32 1 (v * 2) b (by omega) (by omega) (by omega) (by omega) (by omega) (by omega)
  rw [this]; omega
theorem turn_bit (v d : Int) (h0 : 0 ≤ v) (h : v < 65536) (d0 : 0 ≤ d) (d1 : d ≤ 1000000000) : Go.bits .or .u32 (v * 2) (Go.bits .and .i64 d 1 % 4294967296) = 2 * v + d % 2 := by
  rw [and_one d d0 d1, or_bit v _ h0 h (by omega)]; omega
theorem div_two (c : Int) (k : Nat) : c / 2 ^ k / 2 = c / 2 ^ (k + 1) := by
  rw [Int.pow_succ, div_div _ _ _ (pow_cast k)]
set_option maxHeartbeats 1000000 in
theorem turned_calls (w : World) (c : Int) (n : Nat) (hc0 : 0 ≤ c) (hc : c ≤ 1000000000) (hn : n ≤ 16) :
    Calls Try.prog 31 #[.int .i64 c, .int .i64 n] w fun e w' => e = .returned (.int .u32 (revF c n)) ∧ w = w' := by
  go_enter Try.func31, Try.ntmps31
  go_wp2_with fail
  go_loop [0, 5, 7] (fun cv v i => ∃ (k : Nat) (d : Int), k ≤ n ∧ i = .int .i64 k ∧ cv = .int .i64 d ∧ 0 ≤ d ∧ d ≤ 1000000000 ∧ v = .int .u32 (revF c k) ∧ Hid (d = c / 2 ^ k)) (fun _ _ i => n - (intOf i).toNat)
  case atStart => exact ⟨0, c, by omega, rfl, rfl, hc0, hc, rfl, Lib.hid (by simp)⟩
  case round =>
    obtain ⟨k, d, hk, rfl, rfl, hd0, hd1, rfl, HD⟩ := hrel
    have hb := revF_bd c k
    by_cases hlt : k < n
    · have hp : (2 : Int) ^ k ≤ 65536 := pow16 k (by omega)
      have hv : revF c k < 65536 := by omega
      obtain ⟨hv0, -⟩ := hb
      have E : Hid (revF c (k + 1) = 2 * revF c k + d % 2) := by show _ = _; rw [HD.out]; rfl
      clear hp
      generalize revF c k = v at *
      go_wp2_with fail
      refine ⟨⟨k + 1, d / 2, by omega, by go_num, rfl, by omega, by omega, by rw [E.out, turn_bit v d hv0 hv hd0 hd1], Lib.hid (by rw [HD.out, div_two])⟩, by simp [intOf]; omega⟩
    · obtain rfl : k = n := by omega
      go_wp2_with fail
      go_ret
      exact ⟨rfl, rfl⟩
end Go.Proofs.Ytcblibefmclloaa
