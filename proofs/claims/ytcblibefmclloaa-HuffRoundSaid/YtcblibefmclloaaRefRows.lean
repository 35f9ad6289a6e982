import Derived.Test.YtcblibefmclloaaRowB
import Derived.Test.YtcblibefmclloaaRefCheck
import Derived.Deep.Onto
import Derived.Outline
set_option linter.unusedVariables false
set_option linter.unusedSimpArgs false
namespace Go.Proofs.Ytcblibefmclloaa
open Go.RowKit
theorem msb_bit (c : Int) (j : Nat) (h : 0 ≤ c) : IntKind.u8.wrap (c / 2 ^ j % 2) = c / 2 ^ j % 2 := by rw [IntKind.wrap_u8]; omega
set_option maxRecDepth 100000 in
set_option maxHeartbeats 1000000 in
theorem rows_calls (w : World) (A : Option Addr) (n c : Nat) (l : List Int) (hl : RI .i64 w A n l) (hn : n ≤ 288) (hok : l.all okLen = true) :
    Calls Try.prog 20 #[.slice A n c] w fun e w' => e = .returned (.slice (some ⟨w.heap.size, 0, none⟩) n n) ∧ RB w' w.heap.size n (rowsF l) ∧ Below w.heap.size w w' := by
  have HL := Lib.hid hl
  have HLL := Lib.hid hl.len
  have HOK := Lib.hid hok
  clear hl hok
  obtain ⟨g, hg⟩ : ∃ g, g = w.heap.size := ⟨_, rfl⟩
  have HG := Lib.hid hg
  clear hg
  have hmk := fun w => make_rows w n (by omega)
  go_enter Try.func20, Try.ntmps20
  go_wp2_with fail
  rw [← HG.out]
  clear hmk
  have hw1 : w.alloc (.cells (Array.replicate n (Value.slice none 0 0)) 38) = w.alloc (.cells (List.replicate n (Value.slice none 0 0)).toArray 38) := by rw [List.toArray_replicate]
  rw [hw1]
  clear hw1
  have R0 : Hid (RB (w.alloc (.cells (List.replicate n (Value.slice none 0 0)).toArray 38)) g n (rowsAt l 1 0)) := by
    rw [rowsAt_zero, HLL.out, HG.out]; exact RB.new w n
  have B0 : Hid (Below g w (w.alloc (.cells (List.replicate n (Value.slice none 0 0)).toArray 38))) := by rw [HG.out]; exact Lib.hid ((Below.refl _ _).alloc (Nat.le_refl _) _)
  generalize hw0 : w.alloc (.cells (List.replicate n (Value.slice none 0 0)).toArray 38) = w0 at *
  have HW0 := Lib.hid hw0
  clear hw0
  go_loopw [4, 5, 6] (fun cv lv nv wr => ∃ (m last : Nat) (code : Int), 1 ≤ m ∧ m ≤ 16 ∧ nv = .int .i64 m ∧ lv = .int .i64 last ∧ cv = .int .i64 code ∧ Hid (m < 16 → Last l m 0 code last) ∧ Hid (RB wr g n (rowsAt l m 0)) ∧ Hid (Below g w wr)) (fun _ _ nv _ => 16 - (intOf nv).toNat)
  case atStart => exact ⟨1, 0, 0, by omega, by omega, rfl, rfl, rfl, Lib.hid (fun _ => last_start l), R0, B0⟩
  case round =>
    clear R0 B0
    obtain ⟨m, last0, code0, hm1, hm2, rfl, rfl, rfl, HLS0, HR0, HB0⟩ := hrel
    by_cases hm : m ≤ 15
    · obtain ⟨wo, rfl⟩ : ∃ wo : World, wo = wr := ⟨_, rfl⟩
      have HLS1 := Lib.hid (HLS0.out (by omega))
      clear HLS0
      have e0 : decide ((m : Int) ≤ 15) = true := by simp; omega
      go_wp2_with fail
      go_loopw [4, 5, 7] (fun cv lv iv wr => ∃ (i last : Nat) (code : Int), i ≤ n ∧ iv = .int .i64 i ∧ lv = .int .i64 last ∧ cv = .int .i64 code ∧ Hid (Last l m i code last) ∧ Hid (RB wr g n (rowsAt l m i)) ∧ Hid (Below g w wr)) (fun _ _ iv _ => n - (intOf iv).toNat)
      case atStart => exact ⟨0, last0, code0, by omega, rfl, rfl, rfl, HLS1, HR0, HB0⟩
      case round =>
        clear HLS1 HR0 HB0
        obtain ⟨i, last, code, hi, rfl, rfl, rfl, HLS, HR, HB⟩ := hrel
        by_cases hlt : i < n
        · obtain ⟨b, o, rfl, hc⟩ := HL.out.at hlt
          have hc := (Keeps.of_below (S := []) (HG.out ▸ HB.out)).cell (by simp) hc
          by_cases hx : nth l i = m
          · have e1 : (nth l i != (m : Int)) = false := by simpa using hx
            have HX := Lib.hid hx
            clear hx
            have hil : Hid (i < l.length) := by have := HLL.out; show _ < _; omega
            go_upto_if 31 with (fail)
            go_cut [4] (fun cv wc => ∃ d : Int, cv = .int .i64 d ∧ 0 ≤ d ∧ d ≤ 50000000 ∧ Hid (d = codeI l i) ∧ Hid (Dr wr wc))
            case first =>
              have hbd := posF_bd l (by have := HLL.out; omega) m i (by omega)
              rw [← posF_code l m i HX.out] at hbd
              obtain ⟨hb0, hb1⟩ := hbd
              have hlast : last ≤ m := HLS.out.2.2.1
              have hcd0 : 0 ≤ code := HLS.out.1
              have hcd1 : code ≤ 50000000 := HLS.out.2.1
              by_cases hz : last = 0
              · have HC := Lib.hid (last_code0 HLS.out HX.out hz)
                subst hz
                go_wp2_with fail
                go_meet
                case rel => exact ⟨code, rfl, by have := HC.out; omega, by have := HC.out; omega, HC, Lib.hid (Dr.refl _)⟩
              · have e2 : 0 < last := by omega
                have HC := Lib.hid (last_code HLS.out HX.out hz)
                have hp : Hid ((2 ^ (m - last) : Int) = ((2 ^ (m - last) : Nat) : Int)) := by show _ = _; simp
                rw [hp.out] at HC
                clear hz hp
                go_wp2_with fail
                refine (power_calls' _ (m - last) _ (by omega) (by omega)).mono ?_
                rintro _ w2 ⟨rfl, hd2⟩
                have HD2 := Lib.hid hd2
                clear hd2
                generalize 2 ^ (m - last) = P at *
                have hwr : IntKind.i64.wrap ((code + 1) * (P : Int)) = (code + 1) * (P : Int) := IntWalk.i64_in _ (by rw [HC.out]; omega)
                go_wp2_with fail
                go_meet
                case rel => exact ⟨_, rfl, by rw [HC.out]; omega, by rw [HC.out]; omega, HC, HD2⟩
            case rest =>
              obtain ⟨d, rfl, hd0, hd1, HD, HDR⟩ := hcut
              obtain ⟨q1, rfl⟩ := HDR.out
              clear HDR
              obtain ⟨h, hh⟩ : ∃ h, h = wr.heap.size := ⟨_, rfl⟩
              have HH := Lib.hid hh
              clear hh
              have hmk := fun w => make_ints (P := Try.prog) w 38 5 .u8 1 Try.underlying38 info_u8 (m : Int) m rfl (by omega) (by omega)
              have HN : Hid (Blk ((wr.drewN q1).alloc (.cells (ints .u8 (List.replicate m 0)).toArray 5)) h 5 (ints .u8 (msbP d m 0))) := by
                rw [msbP_zero, HH.out]; exact blk_new (wr.drewN q1) _ _
              have HNB : Hid (Below h wr ((wr.drewN q1).alloc (.cells (ints .u8 (List.replicate m 0)).toArray 5))) := by rw [HH.out]; exact (((Keeps.refl [] wr).drewN q1).alloc _).below
              clear hc
              go_wp2_with fail
              rw [← HH.out]
              obtain ⟨wm, rfl⟩ : ∃ wm : World, wm = wr := ⟨_, rfl⟩
              go_loopw [9, 10] (fun cv kv wx => ∃ (j K : Nat) (x : Int), K ≤ m ∧ kv = .int .i64 ((K : Int) - 1) ∧ cv = .int .i64 x ∧ 0 ≤ x ∧ x ≤ 50000000 ∧ Hid (K + j = m) ∧ Hid (x = d / 2 ^ j) ∧ Hid (Blk wx h 5 (ints .u8 (msbP d m j))) ∧ Hid (Below h wm wx)) (fun _ kv _ => (intOf kv + 1).toNat)
              case atStart => exact ⟨0, m, d, by omega, by go_num, rfl, hd0, hd1, Lib.hid rfl, Lib.hid (by simp), HN, HNB⟩
              case round =>
                clear HN HNB
                obtain ⟨j, K, x, hK, rfl, rfl, hx0, hx1, HJ, HX2, HBK, HBW⟩ := hrel
                by_cases hk : 0 < K
                · obtain ⟨k, rfl⟩ : ∃ k, K = k + 1 := ⟨K - 1, by omega⟩
                  have hk1 : ((k + 1 : Nat) : Int) - 1 = k := by omega
                  rw [hk1]
                  clear hk1
                  have hfr := HBK.out.frozen k
                  have hcl := HBK.out.cellI (j := k) (by rw [msbP_len]; omega)
                  generalize nth (msbP d m j) k = z at *
                  have HBK2 : Hid (Blk (wr.setCell ⟨h, k, none⟩ (.int .u8 (x % 2))) h 5 (ints .u8 (msbP d m (j + 1)))) := by
                    have := HBK.out.set k (.int .u8 (x % 2))
                    rw [set_ints] at this
                    rw [msbP_step d m j (by have := HJ.out; omega), ← HX2.out, show m - 1 - j = k by have := HJ.out; omega]; exact this
                  have HBW2 := Lib.hid (HBW.out.setCell (p := ⟨h, k, none⟩) (Nat.le_refl _) (.int .u8 (x % 2)))
                  have e3 : x.tmod 2 = x % 2 := by rw [Int.tmod_eq_emod_of_nonneg hx0]
                  have e4 : x % 2 % 256 = x % 2 := by omega
                  clear HBK HBW
                  go_wp2_with fail
                  go_roundw
                  case rel => exact ⟨j + 1, k, x / 2, by omega, rfl, rfl, by omega, by omega, Lib.hid (by have := HJ.out; omega), Lib.hid (by rw [HX2.out, div_two]), HBK2, HBW2⟩
                  case measure => simp [intOf]
                · obtain rfl : K = 0 := by omega
                  obtain rfl : m = j := by have := HJ.out; omega
                  rw [msbP_all] at HBK
                  have HRX : Hid (RB wr g n (rowsAt l m i)) := HR.out.below (HH.out ▸ HBW.out)
                  have HWW := Lib.hid (HB.out.trans (HBW.out.mono (by have := HR.out.lt; rw [HH.out]; omega)))
                  have hgs : Hid (g ≤ h) := by have := HR.out.lt; rw [HH.out]; show _ ≤ _; omega
                  obtain ⟨A', c', hcl, -, -⟩ := HRX.out.at hlt
                  have hfr := HRX.out.free i
                  have HOWN : Hid (wr.ownsRow (g + 1) 5 1 (.slice (some ⟨h, 0, none⟩) m m) m (ints .u8 (msbF d m))) := own_of_blkK HBK.out (msbF_len d m) (by have := HR.out.lt; rw [HH.out]; omega) (by omega)
                  have HSET : Hid (RB (wr.setCell ⟨g, i, none⟩ (.slice (some ⟨h, 0, none⟩) m m)) g n (rowsAt l m (i + 1))) := by
                    rw [rowsAt_step l m i hil.out hm1 HX.out, ← HD.out]
                    exact HRX.out.set i _ _ (by rw [msbF_len]; exact HOWN.out)
                  have HSW := Lib.hid (HWW.out.setCell (p := ⟨g, i, none⟩) (Nat.le_refl _) (.slice (some ⟨h, 0, none⟩) m m))
                  have HLS2 : Hid (Last l m (i + 1) d m) := by rw [HD.out]; exact last_step (by have := hil.out; have := HLL.out; omega) (by omega) hm1 hil.out HX.out
                  clear HRX HWW HBK HBW HB HR HOWN HLS
                  go_wp2_with fail
                  go_roundw
                  case rel => exact ⟨i + 1, m, d, by omega, by go_num, rfl, rfl, HLS2, HSET, HSW⟩
                  case measure => simp [intOf]; omega
          · have e1 : (nth l i != (m : Int)) = true := by simpa using hx
            have HX := Lib.hid hx
            have HS := Lib.hid (rowsAt_skip l m i hx)
            clear hx
            go_wp2_with fail
            go_roundw
            case rel => exact ⟨i + 1, last, code, by omega, by go_num, rfl, rfl, Lib.hid (last_skip HLS.out (by omega) (by have := HLL.out; omega) HX.out), by rw [HS.out]; exact HR, HB⟩
            case measure => simp [intOf]; omega
        · obtain rfl : i = n := by omega
          go_wp2_with fail
          go_roundw
          case rel => exact ⟨m + 1, last, code, by omega, by omega, by go_num, rfl, rfl, Lib.hid (fun h => last_next (HLL.out ▸ HLS.out) (by omega)), by rw [← rowsAt_next, HLL.out]; exact HR, HB⟩
          case measure => simp [intOf]; omega
    · obtain rfl : m = 16 := by omega
      have HR1 : Hid (RB wr g n (rowsF l)) := by rw [← rowsAt_all l HOK.out]; exact HR0
      go_wp2_with fail
      go_ret
      refine ⟨?_, HG.out ▸ HR1.out, HG.out ▸ HB0.out⟩
      rw [← HG.out]; rfl
end Go.Proofs.Ytcblibefmclloaa
