import Derived.Test.YtcblibefmclloaaNewReader
import Derived.Test.YtcblibefmclloaaTurned
set_option linter.unusedVariables false
set_option linter.unusedSimpArgs false
namespace Go.Proofs.Ytcblibefmclloaa
open Go.RowKit
/-- The first bits of bytes. -/
def bitsP (bs : List Int) (m : Nat) : List Int := (List.range m).map (bitAt bs)
theorem bitsP_len (bs : List Int) (m : Nat) : (bitsP bs m).length = m := by simp [bitsP]
theorem bitsP_succ (bs : List Int) (m : Nat) : bitsP bs (m + 1) = bitsP bs m ++ [bitAt bs m] := by simp [bitsP, List.range_succ]
theorem bitsP_nth (bs : List Int) (m j : Nat) (h : j < m) : nth (bitsP bs m) j = bitAt bs j := by simp [bitsP, nth, List.getD, h]
theorem ri_one (w : World) (k : IntKind) (t : TypeId) (x : Int) : RI k (w.alloc (.cells #[.int k x] t)) (some ⟨w.heap.size, 0, none⟩) 1 [x] := by
  have := (blk_new w t (ints k [x]))
  have h2 := Blk.ri (xs := [x]) (ys := []) (k := k) (by simpa [ints] using this)
  exact h2
set_option maxRecDepth 100000 in
set_option maxHeartbeats 1000000 in
theorem of_calls (w : World) (A : Option Addr) (n c : Nat) (bs : List Int) (hr : RI .u8 w A n bs) (hbyte : ∀ j, 0 ≤ nth bs j ∧ nth bs j ≤ 255) (hn : n ≤ 1000000) :
    Calls Try.prog 21 #[.slice A n c] w fun e w' => ∃ v, e = .returned v ∧ w'.ownsRow w.heap.size 5 1 v (8 * n) (ints .u8 (bitsP bs (8 * n))) ∧ Below w.heap.size w w' := by
  have HR := Lib.hid hr
  have HBY := Lib.hid hbyte
  clear hr hbyte
  go_enter Try.func21, Try.ntmps21
  go_wp2_with fail
  go_loopw [3, 4] (fun v iv wr => ∃ i : Nat, i ≤ n ∧ iv = .int .i64 i ∧ Hid (wr.ownsRow w.heap.size 5 1 v (8 * i) (ints .u8 (bitsP bs (8 * i)))) ∧ Hid (Below w.heap.size w wr)) (fun _ iv _ => n - (intOf iv).toNat)
  case atStart => exact ⟨0, by omega, rfl, Lib.hid (World.ownsRow_nil _ _ _ _), Lib.hid (Below.refl _ _)⟩
  case round =>
    rename_i v _ _
    obtain ⟨i, hi, rfl, HO, HB⟩ := hrel
    by_cases hlt : i < n
    · obtain ⟨b, o, rfl, hc⟩ := HR.out.at hlt
      have hc := (Keeps.of_below (S := []) HB.out).cell (by simp) hc
      obtain ⟨hb0, hb1⟩ := HBY.out i
      obtain ⟨wm, rfl⟩ : ∃ wm : World, wm = wr := ⟨_, rfl⟩
      go_wp2_with fail
      go_loopw [3, 5, 6] (fun v cv kv wr => ∃ (k : Nat) (x : Int), k ≤ 8 ∧ kv = .int .i64 k ∧ cv = .int .u8 x ∧ 0 ≤ x ∧ x ≤ 255 ∧ Hid (x = nth bs i / 2 ^ k) ∧ Hid (wr.ownsRow w.heap.size 5 1 v (8 * i + k) (ints .u8 (bitsP bs (8 * i + k)))) ∧ Hid (Below w.heap.size w wr)) (fun _ _ kv _ => 8 - (intOf kv).toNat)
      case atStart => exact ⟨0, nth bs i, by omega, rfl, rfl, hb0, hb1, Lib.hid (by simp), HO, HB⟩
      case round =>
        clear HO HB
        obtain ⟨k, x, hk, rfl, rfl, hx0, hx1, HX, HO, HB⟩ := hrel
        by_cases hlk : k < 8
        · have HBIT : Hid (bitAt bs (8 * i + k) = x % 2) := by
            show _ = _
            unfold bitAt
            rw [HX.out, show (8 * i + k) / 8 = i by omega, show (8 * i + k) % 8 = k by omega]
          have hge := HB.out.size
          have e3 : x.tmod 2 = x % 2 := by rw [Int.tmod_eq_emod_of_nonneg hx0]
          have e4 : x % 2 % 256 = x % 2 := by omega
          have HRI : Hid (RI .u8 (wr.alloc (.cells #[.int .u8 (x % 2)] 5)) (some ⟨wr.heap.size, 0, none⟩) 1 [x % 2]) := Lib.hid (ri_one wr _ _ _)
          have HOA := Lib.hid (own_keeps HO.out ((Keeps.refl [] wr).alloc (.cells #[.int .u8 (x % 2)] 5)) (by simp))
          have HBA := Lib.hid (HB.out.alloc hge (.cells #[.int .u8 (x % 2)] 5))
          clear HO HB
          go_wp2_with (at_builtin; refine app_bytes rfl (.tmp 21) (.tmp 24) rfl w.heap.size _ _ _ rfl (by exact HOA.out) _ 1 1 [x % 2] rfl (by exact HRI.out) ?c1 ?c3 ?c4 ?_)
          case c1 => simp
          case c3 => omega
          case c4 => simp; omega
          intro v' w1 hv hg
          have HO1 : Hid (w1.ownsRow w.heap.size 5 1 v' (8 * i + (k + 1)) (ints .u8 (bitsP bs (8 * i + (k + 1))))) := by
            rw [← Nat.add_assoc, bitsP_succ, HBIT.out]; exact hv
          have HB1 := Lib.hid (HBA.out.grown hg (by simp; omega) (fun k hk => (HOA.out.lt k hk).1))
          clear hv hg HOA HBA
          go_wp2_with fail
          go_roundw
          case rel => exact ⟨k + 1, x / 2, by omega, by go_num, rfl, by omega, by omega, Lib.hid (by rw [HX.out, div_two]), HO1, HB1⟩
          case measure => simp [intOf]; omega
        · obtain rfl : k = 8 := by omega
          go_wp2_with fail
          go_roundw
          case rel => exact ⟨i + 1, by omega, by go_num, HO, HB⟩
          case measure => simp [intOf]; omega
    · obtain rfl : i = n := by omega
      go_wp2_with fail
      go_ret
      exact ⟨_, rfl, HO.out, HB.out⟩
end Go.Proofs.Ytcblibefmclloaa
