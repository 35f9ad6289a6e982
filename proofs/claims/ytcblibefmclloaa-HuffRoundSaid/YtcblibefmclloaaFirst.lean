import Derived.Test.YtcblibefmclloaaMCode
import Derived.RegionTactic
import Derived.BigRegion
import Derived.ChangeAlike
import Derived.Laws.Rows
import Derived.Deep.RegionLaw
import Derived.Outline
set_option linter.unusedVariables false
set_option linter.unusedSimpArgs false
namespace Go.Proofs.Ytcblibefmclloaa
open Go.RowKit
theorem set_ints (k : IntKind) (xs : List Int) (j : Nat) (x : Int) : (ints k xs).set j (.int k x) = ints k (xs.set j x) := by simp [ints, List.map_set]
theorem Blk.cellI {w : World} {g : Nat} {t : TypeId} {k : IntKind} {xs : List Int} (h : Blk w g t (ints k xs)) {j : Nat} (hj : j < xs.length) : w.cell? ⟨g, j, none⟩ = some (.int k (nth xs j)) := by
  rw [h.cell, ints_getElem?, nth_lt hj]; simp [hj]
theorem step_of_wp {ops : Array Oper} {o : Oper} {a : Act} {K : Act → World → Prop} {Q : Exit → Act → World → Prop} {E : Prop} {w : World} (hgd : o.guard = none) (h : Oper.wp Try.prog o a w K Q) :
    if Region.wanted o (yielded ops a.tmps) = true then Oper.wp Try.prog o a w K Q else E := by
  rw [if_pos (by simp [Region.wanted, hgd])]; exact h
theorem all_ints_one (xs : List Int) : (ints .i64 xs).toArray.all (·.oneCell') = true := by
  rw [Array.all_eq_true_iff_forall_mem]
  intro v hv
  simp only [ints, List.mem_toArray, List.mem_map] at hv
  obtain ⟨x, _, rfl⟩ := hv
  rfl
theorem setRow_drew (w : World) (g : Nat) (cs : Array Value) : (w.drew).setRow g cs = (w.setRow g cs).drew := rfl
theorem results_two_rows {fn : Func} {p q : Tmp} (h : fn.results = #[.cell p 58, .cell q 58]) (tmps : Array Value) (w : World) (g1 g2 : Nat) (t1 t2 : TypeId) (c1 c2 : Array Value)
    (hp : tmps.getD p undef = .pointer (some ⟨g1, 0, none⟩)) (hq : tmps.getD q undef = .pointer (some ⟨g2, 0, none⟩)) (h1 : w.heap[g1]? = some (.cells c1 t1 (0, 0))) (h2 : w.heap[g2]? = some (.cells c2 t2 (0, 0)))
    (hi1 : (Try.prog.info? 58).map (·.size) = some c1.size) (hi2 : (Try.prog.info? 58).map (·.size) = some c2.size) :
    (results fn tmps).run Try.prog w = .ok (.tuple #[.agg c1, .agg c2]) w := by
  have hp' : tmps[p]?.getD undef = .pointer (some ⟨g1, 0, none⟩) := by simpa using hp
  have hq' : tmps[q]?.getD undef = .pointer (some ⟨g2, 0, none⟩) := by simpa using hq
  simp [results, h, hp', hq', asAddr, run_loadVar_row w g1 t1 58 c1 _ (.array 16 3) h1 Try.underlying58 rfl hi1, run_loadVar_row w g2 t2 58 c2 _ (.array 16 3) h2 Try.underlying58 rfl hi2]
set_option maxRecDepth 100000 in
set_option maxHeartbeats 1000000 in
theorem first_calls (w : World) (A : Option Addr) (n c : Nat) (l : List Int) (hl : RI .i64 w A n l) (hn : n ≤ 288) (hok : l.all okLen = true) :
    Calls Try.prog 30 #[.slice A n c] w fun e w' => e = .returned (.tuple #[.agg (ints .i64 (lowL (lenCnt l) 16)).toArray, .agg (ints .i64 (lenCnt l)).toArray]) ∧ Below w.heap.size w w' := by
  have HL := Lib.hid hl
  have HLL := Lib.hid hl.len
  have HOK := Lib.hid hok
  clear hl hok
  obtain ⟨g, hg⟩ : ∃ g, g = w.heap.size := ⟨_, rfl⟩
  have HG := Lib.hid hg
  have HB0 : Hid (∀ Z : List Value, Z = ints .i64 (List.replicate 16 0) → Blk ((w.alloc (.cells Z.toArray 58)).alloc (.cells Z.toArray 58)) g 58 (ints .i64 (List.replicate 16 0)) ∧ Blk ((w.alloc (.cells Z.toArray 58)).alloc (.cells Z.toArray 58)) (g + 1) 58 (ints .i64 (List.replicate 16 0)) ∧ Below w.heap.size w ((w.alloc (.cells Z.toArray 58)).alloc (.cells Z.toArray 58))) := by
    rintro Z rfl
    subst hg
    refine ⟨Blk.alloc (blk_new w _ _) _, ?_, ((Below.refl _ _).alloc (Nat.le_refl _) _).alloc (by simp) _⟩
    have := blk_new (w.alloc (.cells (ints .i64 (List.replicate 16 0)).toArray 58)) 58 (ints .i64 (List.replicate 16 0))
    simpa using this
  clear hg
  go_enter Try.func30, Try.ntmps30
  go_wp2_with fail
  obtain ⟨z0, z1, z2⟩ := HB0.out [.int .i64 0, .int .i64 0, .int .i64 0, .int .i64 0, .int .i64 0, .int .i64 0, .int .i64 0, .int .i64 0, .int .i64 0, .int .i64 0, .int .i64 0, .int .i64 0, .int .i64 0, .int .i64 0, .int .i64 0, .int .i64 0] rfl
  have Z0 := Lib.hid z0
  have Z1 := Lib.hid z1
  have Z2 := Lib.hid z2
  clear z0 z1 z2 HB0
  rw [← HG.out]
  go_loopw [10] (fun i wr => ∃ k : Nat, k ≤ n ∧ i = .int .i64 k ∧ Hid (Blk wr g 58 (ints .i64 (List.replicate 16 0))) ∧ Hid (Blk wr (g + 1) 58 (ints .i64 (lenCnt (l.take k)))) ∧ Hid (Below w.heap.size w wr)) (fun i _ => n - (intOf i).toNat)
  case atStart => exact ⟨0, by omega, rfl, Z0, by rw [List.take_zero, show lenCnt [] = List.replicate 16 0 by unfold lenCnt; rw [List.filter_nil, cntF_nil]]; exact Z1, Z2⟩
  case round =>
    clear Z0 Z1 Z2
    obtain ⟨k, hk, rfl, HA, HB, HW⟩ := hrel
    by_cases hlt : k < n
    · obtain ⟨b, o, rfl, hc⟩ := HL.out.at hlt
      have hc := (Keeps.of_below (S := []) HW.out).cell (by simp) hc
      have hx : okLen (nth l k) = true := by rw [nth_lt (by have := HLL.out; omega)]; exact List.all_eq_true.1 HOK.out _ (List.getElem_mem _)
      have hx1 : 0 ≤ nth l k ∧ nth l k ≤ 15 := by simpa [okLen] using hx
      obtain ⟨hx2, hx3⟩ := hx1
      clear hx
      by_cases hz : 0 < nth l k
      · obtain ⟨s, hs, hs16, hsn⟩ := lenCnt_snoc l k (by have := HLL.out; omega) hz hx3
        have SN := Lib.hid hsn
        have h0 := HB.out.cellI (j := s) (by rw [lenCnt_len]; exact hs16)
        have hf := HB.out.frozen s
        obtain ⟨b0, b1⟩ := lenCnt_bd (l.take k) s hs16
        have b2 : (l.take k).length ≤ 288 := by rw [List.length_take]; omega
        have b3 : nth (lenCnt (l.take k)) s ≤ 288 := by omega
        have HSET : Hid (Blk (wr.setCell ⟨g + 1, s, none⟩ (.int .i64 (nth (lenCnt (l.take k)) s + 1))) (g + 1) 58 (ints .i64 (lenCnt (l.take (k + 1))))) := by
          have := HB.out.set s (.int .i64 (nth (lenCnt (l.take k)) s + 1))
          rw [set_ints, ← SN.out] at this; exact this
        have HSET0 : Hid (Blk (wr.setCell ⟨g + 1, s, none⟩ (.int .i64 (nth (lenCnt (l.take k)) s + 1))) g 58 (ints .i64 (List.replicate 16 0))) := Lib.hid (HA.out.set_other (by simp) _)
        have HSW : Hid (Below w.heap.size w (wr.setCell ⟨g + 1, s, none⟩ (.int .i64 (nth (lenCnt (l.take k)) s + 1)))) := Lib.hid (HW.out.setCell (p := ⟨g + 1, s, none⟩) (by have := HG.out; show _ ≤ g + 1; omega) _)
        generalize nth (lenCnt (l.take k)) s = x at *
        rw [hs] at hc hx2 hx3 hz
        have e3 : decide (0 < s) = true := by simp; omega
        clear hsn b1 b2 hs HB HA HW
        go_wp2_with fail
        go_roundw
        case rel => exact ⟨k + 1, by omega, by go_num, HSET0, HSET, HSW⟩
        case measure => simp [intOf]; omega
      · have e3 : decide (0 < nth l k) = false := by simpa using hz
        have SN := Lib.hid (lenCnt_skip l k (by have := HLL.out; omega) hz)
        go_wp2_with fail
        go_roundw
        case rel => exact ⟨k + 1, by omega, by go_num, HA, by rw [SN.out]; exact HB, HW⟩
        case measure => simp [intOf]; omega
    · obtain rfl : k = n := by omega
      have HB2 : Hid (Blk wr (g + 1) 58 (ints .i64 (lenCnt l))) := by have := HB.out; rwa [List.take_of_length_le (by have := HLL.out; omega)] at this
      have HA2 : Hid (Blk wr g 58 (ints .i64 (lowL (lenCnt l) 1))) := by rw [lowL_zero]; exact HA
      clear HA HB
      obtain ⟨wo, rfl⟩ : ∃ wo : World, wo = wr := ⟨_, rfl⟩
      go_wp2_with fail
      go_loopw [6, 7] (fun cv i wr => ∃ j : Nat, 1 ≤ j ∧ j ≤ 16 ∧ i = .int .i64 j ∧ cv = .int .i64 (lowF (lenCnt l) (j - 1)) ∧ Hid (Blk wr g 58 (ints .i64 (lowL (lenCnt l) j))) ∧ Hid (Blk wr (g + 1) 58 (ints .i64 (lenCnt l))) ∧ Hid (Below w.heap.size w wr)) (fun _ i _ => 16 - (intOf i).toNat)
      case atStart => exact ⟨1, by omega, by omega, rfl, rfl, HA2, HB2, HW⟩
      case round =>
        clear HA2 HB2 HW
        obtain ⟨j, hj1, hj, rfl, rfl, HA, HB, HW⟩ := hrel
        obtain ⟨q, rfl⟩ : ∃ q, j = q + 1 := ⟨j - 1, by omega⟩
        have LB := Lib.hid (lowF_small l (by have := HLL.out; omega) (q + 1) (by omega))
        obtain ⟨l0, l1⟩ := lowF_small l (by have := HLL.out; omega) q (by omega)
        have hq1 : q + 1 - 1 = q := by omega
        rw [hq1]
        clear hq1
        by_cases hlt : q + 1 ≤ 15
        · have h0 := HB.out.cellI (j := q) (by rw [lenCnt_len]; omega)
          obtain ⟨b0, b1⟩ := lenCnt_bd l q (by omega)
          have b3 : nth (lenCnt l) q ≤ 288 := by have := HLL.out; omega
          have EL : Hid (lowF (lenCnt l) (q + 1) = 2 * (lowF (lenCnt l) q + nth (lenCnt l) q)) := rfl
          have h1 := HA.out.cellI (j := q + 1) (by rw [lowL_len]; omega)
          have hf := HA.out.frozen (q + 1)
          have EL2 : Hid ((lowF (lenCnt l) q + nth (lenCnt l) q) * 2 = lowF (lenCnt l) (q + 1)) := by show _ = _; rw [EL.out]; omega
          have HSA : Hid (Blk (wr.setCell ⟨g, q + 1, none⟩ (.int .i64 ((lowF (lenCnt l) q + nth (lenCnt l) q) * 2))) g 58 (ints .i64 (lowL (lenCnt l) (q + 2)))) := by
            have := HA.out.set (q + 1) (.int .i64 ((lowF (lenCnt l) q + nth (lenCnt l) q) * 2))
            rw [set_ints, EL2.out, ← lowL_succ _ _ (by omega)] at this
            rw [EL2.out]; exact this
          have HSB : Hid (Blk (wr.setCell ⟨g, q + 1, none⟩ (.int .i64 ((lowF (lenCnt l) q + nth (lenCnt l) q) * 2))) (g + 1) 58 (ints .i64 (lenCnt l))) := Lib.hid (HB.out.set_other (by simp) _)
          have HSW : Hid (Below w.heap.size w (wr.setCell ⟨g, q + 1, none⟩ (.int .i64 ((lowF (lenCnt l) q + nth (lenCnt l) q) * 2)))) := Lib.hid (HW.out.setCell (p := ⟨g, q + 1, none⟩) (by have := HG.out; show _ ≤ g; omega) _)
          generalize lowF (lenCnt l) q = x at *
          generalize nth (lenCnt l) q = y at *
          clear HA HB HW
          go_wp2_with fail
          refine ⟨⟨q + 2, by omega, by omega, by congr 1, by rw [EL2.out]; rfl, HSA, HSB, HSW⟩, by simp [intOf]; omega⟩
        · obtain rfl : q = 15 := by omega
          have LX : Hid ((lowL (lenCnt l) 16).length = 16) := lowL_len _ _
          have LY : Hid ((lenCnt l).length = 16) := lenCnt_len _
          have HA2 : Hid (Blk wr g 58 (ints .i64 (lowL (lenCnt l) 16))) := HA
          clear HA
          obtain ⟨xs, hxs⟩ : ∃ xs, xs = lowL (lenCnt l) 16 := ⟨_, rfl⟩
          obtain ⟨ys, hys⟩ : ∃ ys, ys = lenCnt l := ⟨_, rfl⟩
          rw [← hxs] at HA2 LX
          rw [← hys] at HB LY
          have HXS := Lib.hid hxs
          have HYS := Lib.hid hys
          clear hxs hys
          have SX : Hid ((ints .i64 xs).toArray.size = 16) := by show _ = _; simp [ints, LX.out]
          have SY : Hid ((ints .i64 ys).toArray.size = 16) := by show _ = _; simp [ints, LY.out]
          have WX : Hid (wr.setRow g (ints .i64 xs).toArray = wr) := setRow_self wr g _ _ _ HA2.out
          have WY : Hid (wr.setRow (g + 1) (ints .i64 ys).toArray = wr) := setRow_self wr (g + 1) _ _ _ HB.out
          have OX : Hid ((ints .i64 xs).toArray.all (·.oneCell') = true) := all_ints_one xs
          have OY : Hid ((ints .i64 ys).toArray.all (·.oneCell') = true) := all_ints_one ys
          go_wp2_with fail
          refine wp_region_any (by kernel_rfl) ?_
          try (change wpAny _ _ _ _ _ _ _ (World.drew _))
          refine wpAny_ready (rs := [0, 1]) (by kernel_rfl) (by simp) ?_
          refine AllReady.cons rfl (fun K hK => ?_) (AllReady.cons rfl (fun K hK => ?_) AllReady.nil)
          · refine step_of_wp rfl (wp_load_row 58 (.tmp 2) rfl g rfl 58 (ints .i64 xs).toArray (0, 0) (.array 16 3) (by exact HA2.out) Try.underlying58 rfl (by rw [SX.out]; kernel_rfl) ?_); refine hK _ _ ?_; clear hK K
            refine wpAny_ready (rs := [1, 2]) (by kernel_rfl) (by simp) ?_
            refine AllReady.cons rfl (fun K hK => ?_) (AllReady.cons rfl (fun K hK => ?_) AllReady.nil)
            · refine step_of_wp rfl (wp_load_row 58 (.tmp 3) rfl (g + 1) rfl 58 (ints .i64 ys).toArray (0, 0) (.array 16 3) (by exact HB.out) Try.underlying58 rfl (by rw [SY.out]; kernel_rfl) ?_); refine hK _ _ ?_; clear hK K
              refine wpAny_ready (rs := [2]) (by kernel_rfl) (by simp) ?_
              refine AllReady.cons rfl (fun K hK => ?_) AllReady.nil
              refine step_of_wp rfl (wp_store_row 58 (.tmp 2) (.tmp 36) rfl g (ints .i64 xs).toArray rfl rfl 58 (ints .i64 xs).toArray (by exact HA2.out) (by rw [SX.out]; kernel_rfl) rfl OX.out ?_); rw [setRow_drew, WX.out]; refine hK _ _ ?_; clear hK K
              refine wpAny_ready (rs := [3]) (by kernel_rfl) (by simp) ?_
              refine AllReady.cons rfl (fun K hK => ?_) AllReady.nil
              refine step_of_wp rfl (wp_store_row 58 (.tmp 3) (.tmp 37) rfl (g + 1) (ints .i64 ys).toArray rfl rfl 58 (ints .i64 ys).toArray (by exact HB.out) (by rw [SY.out]; kernel_rfl) rfl OY.out ?_); rw [setRow_drew, WY.out]; refine hK _ _ ?_; clear hK K
              refine wpAny_done (by kernel_rfl) ?_ _
              go_wp2_with fail
              exact bodyPost_ret (v := .tuple #[.agg (ints .i64 xs).toArray, .agg (ints .i64 ys).toArray]) (results_two_rows rfl _ _ g (g + 1) 58 58 _ _ rfl rfl HA2.out HB.out (by rw [SX.out]; kernel_rfl) (by rw [SY.out]; kernel_rfl)) rfl ⟨by rw [HXS.out, HYS.out], HW.out.drew⟩
            · refine step_of_wp rfl (wp_store_row 58 (.tmp 2) (.tmp 36) rfl g (ints .i64 xs).toArray rfl rfl 58 (ints .i64 xs).toArray (by exact HA2.out) (by rw [SX.out]; kernel_rfl) rfl OX.out ?_); rw [setRow_drew, WX.out]; refine hK _ _ ?_; clear hK K
              refine wpAny_ready (rs := [1]) (by kernel_rfl) (by simp) ?_
              refine AllReady.cons rfl (fun K hK => ?_) AllReady.nil
              refine step_of_wp rfl (wp_load_row 58 (.tmp 3) rfl (g + 1) rfl 58 (ints .i64 ys).toArray (0, 0) (.array 16 3) (by exact HB.out) Try.underlying58 rfl (by rw [SY.out]; kernel_rfl) ?_); refine hK _ _ ?_; clear hK K
              refine wpAny_ready (rs := [3]) (by kernel_rfl) (by simp) ?_
              refine AllReady.cons rfl (fun K hK => ?_) AllReady.nil
              refine step_of_wp rfl (wp_store_row 58 (.tmp 3) (.tmp 37) rfl (g + 1) (ints .i64 ys).toArray rfl rfl 58 (ints .i64 ys).toArray (by exact HB.out) (by rw [SY.out]; kernel_rfl) rfl OY.out ?_); rw [setRow_drew, WY.out]; refine hK _ _ ?_; clear hK K
              refine wpAny_done (by kernel_rfl) ?_ _
              go_wp2_with fail
              exact bodyPost_ret (v := .tuple #[.agg (ints .i64 xs).toArray, .agg (ints .i64 ys).toArray]) (results_two_rows rfl _ _ g (g + 1) 58 58 _ _ rfl rfl HA2.out HB.out (by rw [SX.out]; kernel_rfl) (by rw [SY.out]; kernel_rfl)) rfl ⟨by rw [HXS.out, HYS.out], HW.out.drew⟩
          · refine step_of_wp rfl (wp_load_row 58 (.tmp 3) rfl (g + 1) rfl 58 (ints .i64 ys).toArray (0, 0) (.array 16 3) (by exact HB.out) Try.underlying58 rfl (by rw [SY.out]; kernel_rfl) ?_); refine hK _ _ ?_; clear hK K
            refine wpAny_ready (rs := [0]) (by kernel_rfl) (by simp) ?_
            refine AllReady.cons rfl (fun K hK => ?_) AllReady.nil
            refine step_of_wp rfl (wp_load_row 58 (.tmp 2) rfl g rfl 58 (ints .i64 xs).toArray (0, 0) (.array 16 3) (by exact HA2.out) Try.underlying58 rfl (by rw [SX.out]; kernel_rfl) ?_); refine hK _ _ ?_; clear hK K
            refine wpAny_ready (rs := [2]) (by kernel_rfl) (by simp) ?_
            refine AllReady.cons rfl (fun K hK => ?_) AllReady.nil
            refine step_of_wp rfl (wp_store_row 58 (.tmp 2) (.tmp 36) rfl g (ints .i64 xs).toArray rfl rfl 58 (ints .i64 xs).toArray (by exact HA2.out) (by rw [SX.out]; kernel_rfl) rfl OX.out ?_); rw [setRow_drew, WX.out]; refine hK _ _ ?_; clear hK K
            refine wpAny_ready (rs := [3]) (by kernel_rfl) (by simp) ?_
            refine AllReady.cons rfl (fun K hK => ?_) AllReady.nil
            refine step_of_wp rfl (wp_store_row 58 (.tmp 3) (.tmp 37) rfl (g + 1) (ints .i64 ys).toArray rfl rfl 58 (ints .i64 ys).toArray (by exact HB.out) (by rw [SY.out]; kernel_rfl) rfl OY.out ?_); rw [setRow_drew, WY.out]; refine hK _ _ ?_; clear hK K
            refine wpAny_done (by kernel_rfl) ?_ _
            go_wp2_with fail
            exact bodyPost_ret (v := .tuple #[.agg (ints .i64 xs).toArray, .agg (ints .i64 ys).toArray]) (results_two_rows rfl _ _ g (g + 1) 58 58 _ _ rfl rfl HA2.out HB.out (by rw [SX.out]; kernel_rfl) (by rw [SY.out]; kernel_rfl)) rfl ⟨by rw [HXS.out, HYS.out], HW.out.drew⟩
end Go.Proofs.Ytcblibefmclloaa
