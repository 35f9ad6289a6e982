import Derived.Test.YtcblibefmclloaaRefRows
import Derived.Test.YtcblibefmclloaaRefCheck2
import Derived.RegionTactic
import Derived.BigRegion
set_option linter.unusedVariables false
set_option linter.unusedSimpArgs false
namespace Go.Proofs.Ytcblibefmclloaa
open Go.RowKit
theorem rowsF_at (l : List Int) (i : Nat) (h : i < l.length) : rth (rowsF l) i = msbF (codeI l i) (nth l i).toNat := by
  rw [rth_lt (by rw [rowsF_len]; exact h)]
  simp only [rowsF, List.getElem_map, List.getElem_range]
  by_cases hz : 0 < nth l i
  · rw [if_pos hz]
  · rw [if_neg hz, show (nth l i).toNat = 0 by omega]; rfl
theorem outL_nth (l : List Int) (i : Nat) (h : i < l.length) : nth (outL l i) i = 0 := by
  unfold outL; rw [nth_map_range _ _ _ h, if_neg (by omega)]
theorem set_nth (xs : List Int) (i : Nat) (h : i < xs.length) : xs.set i (nth xs i) = xs := by
  rw [nth_lt h]; exact List.set_getElem_self h
theorem outL_any (l : List Int) (i : Nat) (h : i < l.length) : outL l (i + 1) = (outL l i).set i (revF (codeI l i) (nth l i).toNat) := by
  by_cases hz : 0 < nth l i
  · exact outL_step l i h hz
  · rw [outL_skip l i hz, show (nth l i).toNat = 0 by omega]
    show _ = (outL l i).set i 0
    rw [← outL_nth l i h, set_nth _ _ (by rw [outL_len]; exact h)]
theorem outL_none (l : List Int) (i : Nat) (h : i < l.length) : (outL l i).set i (revF (codeI l i) 0) = outL l i := by
  show (outL l i).set i 0 = _
  rw [← outL_nth l i h, set_nth _ _ (by rw [outL_len]; exact h)]
theorem msbF_nth (c : Int) (n t : Nat) (h : t < n) : nth (msbF c n) t = c / 2 ^ (n - 1 - t) % 2 := by
  unfold msbF; rw [nth_map_range _ _ _ h]
set_option maxRecDepth 100000 in
set_option maxHeartbeats 1000000 in
theorem refCodes_calls (w : World) (A : Option Addr) (n c : Nat) (l : List Int) (hl : RI .i64 w A n l) (hn : n ≤ 140737488355328) :
    Calls Try.prog 12 #[.slice A n c] w (Coded w (codesF l)) := by
  have HL := Lib.hid hl
  have HLL := Lib.hid hl.len
  clear hl
  go_enter Try.func12, Try.ntmps12
  go_wp2_with fail
  refine (refCheck_calls _ _ _ _ l HL.out hn).mono ?_
  rintro _ w1 ⟨rfl, hd⟩
  have HD := Lib.hid hd
  clear hd
  by_cases hc : checkF l = 0
  · have e1 : (checkF l != 0) = false := by simp [hc]
    have HR : Hid (codesF l = (outL l l.length, 0)) := if_pos hc
    have hok := check_ok hc
    have HOK := Lib.hid hok.2
    have hn288 : n ≤ 288 := by rw [← HLL.out]; exact hok.1
    have HL1 := Lib.hid (HL.out.keeps (HD.out.keeps (S := [])) (off_nil _))
    clear hc hok
    go_wp2_with fail
    refine (rows_calls _ _ _ _ l HL1.out hn288 HOK.out).mono ?_
    rintro _ w2 ⟨rfl, hrb, hb⟩
    obtain ⟨g, hg⟩ : ∃ g, g = w1.heap.size := ⟨_, rfl⟩
    rw [← hg] at hrb hb ⊢
    have HB := Lib.hid ((HD.out.keeps (S := [])).below.trans ((hg ▸ hb).mono (HD.out.keeps (S := [])).size))
    have HRB := Lib.hid hrb
    have HG : Hid (w.heap.size ≤ g) := by rw [hg]; exact Lib.hid (HD.out.keeps (S := [])).size
    clear hb hrb hg
    have hmk := fun w => make_ints (P := Try.prog) w 26 30 .u32 4 Try.underlying26 info_u32 (n : Int) n rfl (by omega) (by omega)
    have HOUT : Hid (Blk (w2.alloc (.cells (ints .u32 (List.replicate n 0)).toArray 30)) w2.heap.size 30 (ints .u32 (outL l 0))) := by rw [outL_zero, HLL.out]; exact blk_new w2 _ _
    have HK0 : Hid (Keeps [] w2 (w2.alloc (.cells (ints .u32 (List.replicate n 0)).toArray 30))) := Lib.hid ((Keeps.refl [] w2).alloc _)
    go_wp2_with fail
    obtain ⟨go, hgo⟩ : ∃ go, go = w2.heap.size := ⟨_, rfl⟩
    rw [← hgo] at HOUT ⊢
    have HGO := Lib.hid hgo
    have hge : Hid (w.heap.size ≤ go) := by rw [hgo]; exact Lib.hid HB.out.size
    clear hgo
    go_loopw [7] (fun iv wr => ∃ i : Nat, i ≤ n ∧ iv = .int .i64 i ∧ Hid (Blk wr go 30 (ints .u32 (outL l i))) ∧ Hid (Keeps [] w2 wr)) (fun iv _ => n - (intOf iv).toNat)
    case atStart => exact ⟨0, by omega, rfl, HOUT, HK0⟩
    case round =>
      clear HOUT HK0
      obtain ⟨i, hi, rfl, HOUT, HK⟩ := hrel
      by_cases hlt : i < n
      · have e0 : decide (i < n) = true := by simpa using hlt
        have hil : Hid (i < l.length) := by have := HLL.out; show _ < _; omega
        have hx : okLen (nth l i) = true := by rw [nth_lt hil.out]; exact List.all_eq_true.1 HOK.out _ (List.getElem_mem _)
        have hx1 : 0 ≤ nth l i ∧ nth l i ≤ 15 := by simpa [okLen] using hx
        obtain ⟨hx2, hx3⟩ := hx1
        clear hx
        obtain ⟨M, hM⟩ : ∃ M, M = (nth l i).toNat := ⟨_, rfl⟩
        obtain ⟨A', c', hcr, hrow, hra⟩ := HRB.out.at hlt
        rw [rowsF_at l i hil.out, ← hM, msbF_len] at hcr hrow
        have HROW := Lib.hid hrow
        have hM15 : M ≤ 15 := by omega
        have HM := Lib.hid hM
        have HRA := Lib.hid hra
        have HCR := Lib.hid hcr
        clear hrow hM hra hx2 hx3 hcr
        obtain ⟨wm, rfl⟩ : ∃ wm : World, wm = wr := ⟨_, rfl⟩
        have HO0 : Hid (Blk wm go 30 (ints .u32 ((outL l i).set i (revF (codeI l i) 0)))) := by rw [outL_none l i hil.out]; exact HOUT
        clear HOUT
        have hcr := HK.out.cell (by simp) HCR.out
        go_wp2_with fail
        clear hcr
        go_loopw [8] (fun kv wx => ∃ (j K : Nat), K ≤ M ∧ kv = .int .i64 ((K : Int) - 1) ∧ Hid (K + j = M) ∧ Hid (Blk wx go 30 (ints .u32 ((outL l i).set i (revF (codeI l i) j)))) ∧ Hid (Keeps [] w2 wx)) (fun kv _ => (intOf kv + 1).toNat)
        case atStart => exact ⟨0, M, by omega, by go_num, Lib.hid rfl, HO0, HK⟩
        case round =>
          clear HO0 HK
          obtain ⟨j, K, hK, rfl, HJ, HO, HK⟩ := hrel
          by_cases hk : 0 < K
          · obtain ⟨k, rfl⟩ : ∃ k, K = k + 1 := ⟨K - 1, by omega⟩
            have hk1 : ((k + 1 : Nat) : Int) - 1 = k := by omega
            rw [hk1]
            clear hk1
            obtain ⟨b, o, rfl, hcell⟩ := HROW.out.at (j := k) (by omega)
            have hne : b < w2.heap.size := (HRA.out _ rfl).2
            have hne1 : ¬ b = go := by have := HGO.out; omega
            have hne2 : ¬ g = go := by have := HGO.out; have := HRB.out.lt; omega
            clear hne
            rw [msbF_nth _ _ _ (by omega), show M - 1 - k = j by have := HJ.out; omega] at hcell
            have hcell := HK.out.cell (by simp) hcell
            have hcr := HK.out.cell (by simp) HCR.out
            have hfr := HO.out.frozen i
            have hcl := HO.out.cellI (j := i) (by rw [List.length_set, outL_len]; exact hil.out)
            have hnn : nth ((outL l i).set i (revF (codeI l i) j)) i = revF (codeI l i) j := by simp [nth, List.getD, outL_len, hil.out]
            rw [hnn] at hcl
            have hst := HO.out.set i (.int .u32 (revF (codeI l i) (j + 1)))
            rw [set_ints, List.set_set] at hst
            have HO2 := Lib.hid hst
            have HK2 := Lib.hid (HK.out.setCell (p := ⟨go, i, none⟩) (Or.inr (by rw [HGO.out]; exact Nat.le_refl _)) (.int .u32 (revF (codeI l i) (j + 1))))
            clear hst hnn HO HK
            have hbd := revF_bd (codeI l i) j
            have hp : (2 : Int) ^ j ≤ 65536 := pow16 j (by have := HJ.out; omega)
            have hb1 : revF (codeI l i) j < 65536 := by omega
            obtain ⟨hb0, -⟩ := hbd
            have E : Hid (2 * revF (codeI l i) j + codeI l i / 2 ^ j % 2 = revF (codeI l i) (j + 1)) := Lib.hid rfl
            rw [← E.out] at HO2 HK2
            have hz0 : 0 ≤ codeI l i / 2 ^ j % 2 := by omega
            have hz1 : codeI l i / 2 ^ j % 2 ≤ 1 := by omega
            clear hp
            generalize codeI l i / 2 ^ j % 2 = z at *
            generalize hy : revF (codeI l i) j = y at *
            clear hy
            go_wp2_with fail
            go_region
            go_wp2_with fail
            go_roundw
            case rel => exact ⟨j + 1, k, by omega, rfl, Lib.hid (by have := HJ.out; omega), by rw [← E.out]; exact HO2, Lib.hid HK2.out.drew⟩
            case measure => simp [intOf]
          · obtain rfl : K = 0 := by omega
            obtain rfl : M = j := by have := HJ.out; omega
            have HO2 : Hid (Blk wr go 30 (ints .u32 (outL l (i + 1)))) := by rw [outL_any l i hil.out, ← HM.out]; exact HO
            clear HO
            go_wp2_with fail
            go_roundw
            case rel => exact ⟨i + 1, by omega, by go_num, HO2, HK⟩
            case measure => simp [intOf]; omega
      · obtain rfl : i = n := by omega
        have HB2 := Lib.hid (HB.out.trans (HK.out.below.mono HB.out.size))
        go_wp2_with fail
        go_ret2
        refine coded_ok (v := .slice (some ⟨go, 0, none⟩) i i) (ls := outL l i) (by rw [HR.out, HLL.out]) (by rw [outL_len, HLL.out]) ?_ HB2.out
        exact own_of_blkK HOUT.out (by rw [outL_len, HLL.out]) hge.out (by omega)
  · have e1 : (checkF l != 0) = true := by simpa using hc
    have HR : Hid (codesF l = ([], checkF l)) := if_neg hc
    go_wp2_with fail
    go_ret2
    exact coded_err HR.out (HD.out.keeps (S := [])).below
end Go.Proofs.Ytcblibefmclloaa
