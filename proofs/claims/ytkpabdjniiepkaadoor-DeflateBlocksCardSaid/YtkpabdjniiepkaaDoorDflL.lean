import Derived.Test.YtkpabdjniiepkaaDoorDflB
import Derived.Test.YtkpabdjniiepkaaDoorDflH
import Derived.Test.YtkpabdjniiepkaaDoorDflA
import Derived.Test.YtkpabdjniiepkaaDoorDflC
import Derived.Laws.BytesArg
import Derived.Test.YtkpabdjniiepkaaDoorCards
import Derived.Test.YtkpabdjniiepkaaDoorTie
import Derived.ProofKit
import Derived.OpenShut
import Derived.ChangeOld
import Derived.Deep.DeepHandedRow
import Derived.Deep.DeepLaidRun
import Derived.Lib.LaidTab
set_option linter.unusedVariables false
set_option linter.unusedSimpArgs false
namespace Go.Proofs.YtkpabdjniiepkaaDoor
open Go.RowKit
set_option maxHeartbeats 400000 in
theorem keepBytes_calls (w : World) (A B : Option Addr) (n m c d : Nat) (xs ys : List Int) (hx : RI .u8 w A n xs) (hy : RI .u8 w B m ys) (hn : n ≤ 140737488355328) (hm : m ≤ 140737488355328) :
    Calls Tryd.prog 12 #[.slice A n c, .slice B m d] w fun e w' => e = .returned (.bool (xs == ys)) ∧ Dr w w' := by
  have lx := hx.len
  have ly := hy.len
  by_cases hnm : n = m
  · subst hnm
    have t0 : ((n : Int) != (n : Int)) = false := by simp
    go_enter Tryd.func12, Tryd.ntmps12
    go_wp2
    clear t0
    have HX := Lib.hid hx
    have HY := Lib.hid hy
    have LX := Lib.hid lx
    have LY := Lib.hid ly
    clear hx hy lx ly
    go_loopw [5] (fun i wr => ∃ k : Nat, k ≤ n ∧ i = .int .i64 k ∧ Hid (∀ j, j < k → nth xs j = nth ys j) ∧ Hid (Dr w wr)) (fun i _ => n - (intOf i).toNat)
    case atStart => exact ⟨0, by omega, rfl, fun j hj => by omega, Dr.refl _⟩
    case round =>
      obtain ⟨k, hk, rfl, HE, HW⟩ := hrel
      obtain ⟨q, rfl⟩ := HW.out
      clear HW
      by_cases hlt : k < n
      · obtain ⟨a, o, rfl, ha⟩ := HX.out.at hlt
        obtain ⟨b, o', rfl, hb⟩ := HY.out.at hlt
        by_cases hv : nth xs k = nth ys k
        · have t1 : (nth xs k != nth ys k) = false := by simpa using hv
          have HV := Lib.hid hv
          clear hv
          go_wp2
          go_quiet (fail)
          go_wp2
          go_roundw
          case rel => exact ⟨k + 1, by omega, by go_num, eq_snoc HE.out HV.out, ⟨_, rfl⟩⟩
          case measure => simp [intOf]; omega
        · have t1 : (nth xs k != nth ys k) = true := by simpa using hv
          have HV := Lib.hid hv
          clear hv
          go_wp2
          go_quiet (fail)
          go_wp2
          go_ret
          rw [beq_of_ne xs ys k HV.out]
          exact ⟨rfl, Dr.step ⟨_, rfl⟩ _⟩
      · go_wp2
        go_ret
        rw [beq_of_getD xs ys n LX.out LY.out (fun j hj => HE.out j (by omega))]
        exact ⟨rfl, _, rfl⟩
  · have t0 : ((n : Int) != (m : Int)) = true := by simp; omega
    go_enter Tryd.func12, Tryd.ntmps12
    go_wp2
    go_ret
    rw [beq_of_len xs ys (by omega)]
    exact ⟨rfl, 0, rfl⟩
end Go.Proofs.YtkpabdjniiepkaaDoor

set_option linter.unusedVariables false
set_option linter.unusedSimpArgs false
namespace Go.Proofs.YtkpabdjniiepkaaDoor
open Go.RowKit
/-- Bytes that are lent: two marks behind them. -/
def Lent8 (w : World) (g : Nat) (xs : List Int) : Prop := Blk w g 5 (ints .u8 (xs ++ [165, 90]))
theorem Lent8.ri {w : World} {g : Nat} {xs : List Int} (h : Lent8 w g xs) : RI .u8 w (some ⟨g, 0, none⟩) xs.length xs := Blk.ri h
set_option maxRecDepth 100000 in
set_option maxHeartbeats 1000000 in
theorem lend_calls (w : World) (A : Option Addr) (n c : Nat) (xs : List Int) (hr : RI .u8 w A n xs) (hn : n ≤ 100000000) :
    Calls Tryd.prog 8 #[.slice A n c] w fun e w' => ∃ g, e = .returned (.slice (some ⟨g, 0, none⟩) n (n + 2)) ∧ Lent8 w' g xs ∧ w.heap.size ≤ g ∧ Below w.heap.size w w' := by
  have HX := Lib.hid hr
  have LX := Lib.hid hr.len
  clear hr
  have hmk := fun w => make_ints (P := Tryd.prog) w 22 5 .u8 1 Tryd.underlying22 info_u8 ((n : Int) + 2) (n + 2) (by omega) (by omega) (by omega)
  have hcap : CapOk (some ⟨w.heap.size, 0, none⟩) (n + 2) (n + 2) := ⟨Nat.le_refl _, by unfold maxLen; omega, fun _ => ⟨_, _, rfl⟩⟩
  have hsl := fun w' => slice_to8 w' (some ⟨w.heap.size, 0, none⟩) (n + 2) (n + 2) n n rfl (by omega) hcap
  go_enter Tryd.func8, Tryd.ntmps8
  go_wp2_with (with_reducible refine wpList_copy_splice rfl (.tmp 8) (.tmp 9) _ _ rfl 5 Tryd.underlying22 size_u8b _ _ _ _ _ _ rfl rfl w.heap.size 0 (ints .u8 (List.replicate (n + 2) 0)) 5 ?h1 (ints .u8 xs) ?h2 ?h3 ?h4 ?h5 w.heap.size w ?h6 (Nat.le_refl _) ?_)
  case h1 => first | exact blk_new w _ _ | exact (Array.getElem?_eq_some_iff.1 (blk_new w 5 (ints .u8 (List.replicate (n + 2) 0)))).2
  case h2 => have := LX.out; simp [ints]; omega
  case h3 =>
    intro hp
    obtain ⟨a, o, ha⟩ := HX.out.hd (by have := LX.out; simpa [ints, this] using hp)
    refine ⟨_, ha, fun j v hv => ?_⟩
    have hj : j < n := by have := LX.out; have := (List.getElem?_eq_some_iff.1 hv).1; simp [ints] at this; omega
    have hc := HX.out.cell a o ha j hj
    have e : (ints .u8 xs)[j]? = some (.int .u8 (nth xs j)) := by rw [ints_getElem?]; simp [nth, List.getD, show j < xs.length from by have := LX.out; omega]
    rw [e] at hv
    rw [← Option.some.inj hv, add_plain2]
    exact (Keeps.refl [] w).alloc _ |>.cell (by simp) hc
  case h4 => have := LX.out; simp [ints]; omega
  case h5 => intro v hv; simp only [ints, List.mem_map] at hv; obtain ⟨x, _, rfl⟩ := hv; rfl
  case h6 => exact (Below.refl _ _).alloc (Nat.le_refl _) _
  intro w1 hg1 hb1
  have hB : Blk w1 w.heap.size 5 (splice (ints .u8 (List.replicate (n + 2) 0)) 0 (ints .u8 xs)) := hg1.out
  have hsp : splice (ints .u8 (List.replicate (n + 2) 0)) 0 (ints .u8 xs) = ints .u8 (xs ++ [0, 0]) := by
    have h1 := LX.out
    have h2 : List.replicate (n + 2) (0 : Int) = List.replicate n 0 ++ [0, 0] := by rw [show [(0 : Int), 0] = List.replicate 2 0 from rfl, List.replicate_append_replicate]
    simp [splice, ints, h1]
  rw [hsp] at hB
  have HB := Lib.hid hB
  have HB1 := Lib.hid hb1
  have hln : (xs ++ [(0 : Int), 0]).length = n + 2 := by rw [List.length_append, LX.out]; rfl
  have k1 : w1.cell? ⟨w.heap.size, n, none⟩ = some (.int .u8 (nth (xs ++ [0, 0]) n)) := hB.cellI (j := n) (by omega)
  have k2 : w1.cell? ⟨w.heap.size, n + 1, none⟩ = some (.int .u8 (nth (xs ++ [0, 0]) (n + 1))) := hB.cellI (j := n + 1) (by omega)
  have f1 := hB.frozen n
  have f2 := hB.frozen (n + 1)
  generalize nth (xs ++ [0, 0]) n = y1 at *
  generalize nth (xs ++ [0, 0]) (n + 1) = y2 at *
  clear hg1 hsp hB hmk hb1 hln
  go_wp2
  go_ret
  have hs := (HB.out.set n (.int .u8 165)).set (n + 1) (.int .u8 90)
  rw [set_ints, set_ints] at hs
  have hx : ((xs ++ [(0 : Int), 0]).set n 165).set (n + 1) 90 = xs ++ [165, 90] := by
    have := LX.out
    subst this
    rw [List.set_append_right _ _ (Nat.le_refl _), List.set_append_right _ _ (by omega)]
    simp
  rw [hx] at hs
  exact ⟨_, rfl, hs, Nat.le_refl _, (HB1.out.setCell (p := ⟨w.heap.size, n, none⟩) (Nat.le_refl _) _).setCell (p := ⟨w.heap.size, n + 1, none⟩) (Nat.le_refl _) _⟩
/-- A block of bytes, whatever they are. -/
def Any8 (w : World) (g m : Nat) : Prop := ∃ zs : List Int, zs.length = m ∧ Blk w g 5 (ints .u8 zs)
set_option maxRecDepth 100000 in
set_option maxHeartbeats 2000000 in
theorem back_keep_calls (w : World) (g : Nat) (B : Option Addr) (n c : Nat) (xs : List Int) (h : Lent8 w g xs) (hl : xs.length = n) (hr : RI .u8 w B n xs) (hn : n ≤ 100000000) :
    Calls Tryd.prog 10 #[.slice (some ⟨g, 0, none⟩) n (n + 2), .slice B n c] w fun e w' => e = .returned (.bool true) ∧ Keeps [g] w w' := by
  have HL := Lib.hid h
  have HR := Lib.hid hr
  have HLN := Lib.hid hl
  have hln : (xs ++ [(165 : Int), 90]).length = n + 2 := by rw [List.length_append, hl]; rfl
  have k1 : w.cell? ⟨g, n, none⟩ = some (.int .u8 165) := by
    have := Blk.cellI h (j := n) (by omega)
    rwa [show nth (xs ++ [165, 90]) n = 165 by have := nth_append_right xs [165, 90] 0; rw [Nat.add_zero, hl] at this; rw [this]; rfl] at this
  have k2 : w.cell? ⟨g, n + 1, none⟩ = some (.int .u8 90) := by
    have := Blk.cellI h (j := n + 1) (by omega)
    rwa [show nth (xs ++ [165, 90]) (n + 1) = 90 by have := nth_append_right xs [165, 90] 1; rw [hl] at this; rw [this]; rfl] at this
  have hcap : CapOk (some ⟨g, 0, none⟩) (n + 2) (n + 2) := ⟨Nat.le_refl _, by unfold maxLen; omega, fun _ => ⟨_, _, rfl⟩⟩
  have hsl : ∀ w', (Instr.slice 22 (.slice (some ⟨g, 0, none⟩) n (n + 2)) none (some (.int .i64 ((n : Int) + 2))) none).run Tryd.prog w' = .ok (.slice (some ⟨g, 0, none⟩) (n + 2) (n + 2)) w' := fun w' => by
    rw [run_slice_h w' 22 (some ⟨g, 0, none⟩) n (n + 2) (by kernel_rfl) .i64 ((n : Int) + 2) (by omega) (by omega)]
    have hs : (sizeOf (Tryd.prog.elem 22)).run Tryd.prog w' = .ok 1 w' := by kernel_rfl
    rw [hs]
    simp [Result.andThen, sliced, add_plain2]
    omega
  clear h hr hl hcap
  go_enter Tryd.func10, Tryd.ntmps10
  go_wp2_with fail
  clear k1 k2 hsl hln
  go_loopw [6, 7] (fun ov iv wr => ∃ k : Nat, k ≤ n ∧ iv = .int .i64 k ∧ ov = .bool true ∧ Hid (Dr w wr)) (fun _ iv _ => n - (intOf iv).toNat)
  case atStart => exact ⟨0, by omega, rfl, rfl, Lib.hid (Dr.refl w)⟩
  case round =>
    obtain ⟨k, hk, rfl, rfl, HD⟩ := hrel
    obtain ⟨q, rfl⟩ := HD.out
    clear HD
    by_cases hlt : k < n
    · have e1 : decide (k < n) = true := by simpa using hlt
      obtain ⟨b, o, rfl, hc1⟩ := HR.out.at hlt
      have hc2 := Blk.cellI HL.out (j := k) (by rw [List.length_append, HLN.out]; simp; omega)
      rw [nth_append_left _ _ _ (by rw [HLN.out]; exact hlt)] at hc2
      have t1 : (nth xs k == nth xs k) = true := by simp
      have t2 : k < n + 2 := by omega
      go_wp2
      go_quiet (fail)
      go_wp2
      go_roundw
      case rel => exact ⟨k + 1, by omega, by go_num, rfl, Lib.hid ⟨_, rfl⟩⟩
      case measure => simp [intOf]; omega
    · obtain rfl : k = n := by omega
      have e1 : decide (k < k) = false := by simp
      obtain ⟨wo, hwo⟩ : ∃ wo : World, wo = w.drewN q := ⟨_, rfl⟩
      have HK0 : Hid (Keeps [g] w wo) := Lib.hid (by rw [hwo]; exact (Keeps.refl [g] w).drewN q)
      have HA0 : Hid (Any8 wo g (k + 2)) := Lib.hid ⟨xs ++ [165, 90], by rw [List.length_append, HLN.out]; rfl, by rw [hwo]; exact HL.out⟩
      rw [← hwo]
      clear hwo HL HR
      go_wp2_with fail
      go_loopw [8] (fun iv wr => ∃ i : Nat, i ≤ k + 2 ∧ iv = .int .i64 i ∧ Hid (Any8 wr g (k + 2)) ∧ Hid (Keeps [g] w wr)) (fun iv _ => k + 2 - (intOf iv).toNat)
      case atStart => exact ⟨0, by omega, rfl, HA0, HK0⟩
      case round =>
        clear HA0 HK0
        obtain ⟨i, hi, rfl, HA, HK⟩ := hrel
        obtain ⟨zs, hz, hblk⟩ := HA.out
        by_cases hlt2 : i < k + 2
        · have e2 : decide (i < k + 2) = true := by simpa using hlt2
          have e2' : decide ((i : Int) < (k : Int) + 2) = true := by simp; omega
          have hc := hblk.cellI (j := i) (by omega)
          have f1 := hblk.frozen i
          have HA' : ∀ y, Hid (Any8 (wr.setCell ⟨g, i, none⟩ (.int .u8 y)) g (k + 2)) := fun y => Lib.hid ⟨zs.set i y, by rw [List.length_set]; exact hz, by have := hblk.set i (.int .u8 y); rwa [set_ints] at this⟩
          have HAH := Lib.hid HA'
          clear hz hblk HA HA'
          generalize nth zs i = z at *
          go_wp2_with fail
          go_roundw
          case rel => exact ⟨i + 1, by omega, by go_num, HAH.out _, Lib.hid (HK.out.setCell (p := ⟨g, i, none⟩) (Or.inl (by simp)) _)⟩
          case measure => simp [intOf]; omega
        · obtain rfl : i = k + 2 := by omega
          have e2 : decide (k + 2 < k + 2) = false := by simp
          have e2' : decide (((k + 2 : Nat) : Int) < (k : Int) + 2) = false := by simp
          clear HA hblk hz
          go_wp2_with fail
          go_ret
          exact ⟨rfl, HK.out⟩
set_option maxRecDepth 100000 in
set_option maxHeartbeats 1000000 in
theorem spoil_calls (w : World) (base : Nat) (A : Option Addr) (n c : Nat) (xs : List Int) (hown : w.ownsRow base 5 1 (.slice A n c) n (ints .u8 xs)) (hU : AllU8 w (.slice A n c)) :
    Calls Tryd.prog 24 #[.slice A n c] w fun e w' => e = .returned (.tuple #[]) ∧ Keeps ((Value.slice A n c).ownBlock.toList) w w' := by
  have hcap := own_cap hown
  obtain ⟨h1, h2⟩ := hown
  rcases h2 with ⟨hv, rfl⟩ | ⟨g, cap, cur, hv, hb, hh, hc, hm, hs, ht⟩
  · injection hv with q1 q2 q3
    subst q1
    subst q3
    have hsl := fun w => slice_to8 w none 0 0 0 0 rfl (by omega) hcap
    clear hcap h1 hU
    go_enter Tryd.func24, Tryd.ntmps24
    go_wp2_with fail
    clear hsl
    go_loopg [2] 1 (fun k iv wr => iv = .int .i64 0 ∧ Hid (wr = w))
    case atStart => exact ⟨rfl, Lib.hid rfl⟩
    case round =>
      obtain ⟨rfl, HW⟩ := hrel
      go_wp2_with fail
      go_end0
      exact ⟨rfl, by rw [HW.out]; exact Keeps.refl _ _⟩
  · injection hv with q1 q2 q3
    subst q1
    subst q3
    obtain ⟨cur', hg', hall⟩ := hU g rfl
    have hcc : cur' = cur := by
      rw [hh] at hg'
      injection hg' with hg'
      injection hg' with hg' _ _
      exact hg'.symm
    subst hcc
    have HA0 : Hid (Any8 w g c) := Lib.hid (by
      refine ⟨cur'.toList.map intOf, by simp; omega, ?_⟩
      have e : ints .u8 (cur'.toList.map intOf) = cur'.toList := by
        unfold ints
        rw [List.map_map]
        conv => rhs; rw [← List.map_id cur'.toList]
        refine List.map_congr_left fun u hu => ?_
        obtain ⟨k, rfl⟩ := hall u hu
        rfl
      show w.heap[g]? = _
      rw [e]
      simpa using hh)
    have hml : c ≤ 9223372036854775807 := by unfold maxLen at hm; omega
    have hsl : ∀ w', (Instr.slice 22 (.slice (some ⟨g, 0, none⟩) n c) none (some (.int .i64 (c : Int))) none).run Tryd.prog w' = .ok (.slice (some ⟨g, 0, none⟩) c c) w' := fun w' => by
      rw [run_slice_h w' 22 (some ⟨g, 0, none⟩) n c (by kernel_rfl) .i64 (c : Int) (by omega) (by omega)]
      have hs : (sizeOf (Tryd.prog.elem 22)).run Tryd.prog w' = .ok 1 w' := by kernel_rfl
      rw [hs]
      by_cases h0 : c = 0
      · subst h0
        simp [Result.andThen, sliced]
      · simp [Result.andThen, sliced, add_plain2]
    clear hcap h1 hU hg' hall hh hb ht hs hm
    go_enter Tryd.func24, Tryd.ntmps24
    go_wp2_with fail
    clear hsl
    go_loopw [2] (fun iv wr => ∃ i : Nat, i ≤ c ∧ iv = .int .i64 i ∧ Hid (Any8 wr g c) ∧ Hid (Keeps [g] w wr)) (fun iv _ => c - (intOf iv).toNat)
    case atStart => exact ⟨0, by omega, rfl, HA0, Lib.hid (Keeps.refl _ _)⟩
    case round =>
      clear HA0
      obtain ⟨i, hi, rfl, HA, HK⟩ := hrel
      obtain ⟨zs, hz, hblk⟩ := HA.out
      by_cases hlt2 : i < c
      · have e2 : decide (i < c) = true := by simpa using hlt2
        have hc := hblk.cellI (j := i) (by omega)
        have f1 := hblk.frozen i
        have HA' : ∀ y, Hid (Any8 (wr.setCell ⟨g, i, none⟩ (.int .u8 y)) g c) := fun y => Lib.hid ⟨zs.set i y, by rw [List.length_set]; exact hz, by have := hblk.set i (.int .u8 y); rwa [set_ints] at this⟩
        have HAH := Lib.hid HA'
        clear hz hblk HA HA'
        generalize nth zs i = z at *
        go_wp2_with fail
        go_roundw
        case rel => exact ⟨i + 1, by omega, by go_num, HAH.out _, Lib.hid (HK.out.setCell (p := ⟨g, i, none⟩) (Or.inl (by simp)) _)⟩
        case measure => simp [intOf]; omega
      · obtain rfl : i = c := by omega
        have e2 : decide (i < i) = false := by simp
        clear HA hblk hz
        go_wp2_with fail
        go_end0
        exact ⟨rfl, HK.out⟩
end Go.Proofs.YtkpabdjniiepkaaDoor

set_option linter.unusedVariables false
set_option linter.unusedSimpArgs false
namespace Go.Proofs.YtkpabdjniiepkaaDoor
open Go.RowKit
theorem by_all {xs : List Int} (h : xs.all (fun x => decide (0 ≤ x) && decide (x ≤ 255)) = true) (j : Nat) : 0 ≤ nth xs j ∧ nth xs j ≤ 255 := by
  by_cases hj : j < xs.length
  · have := List.all_eq_true.1 h (nth xs j) (by rw [nth_lt hj]; exact List.getElem_mem _)
    simpa using this
  · simp [nth, List.getD, List.getElem?_eq_none (Nat.le_of_not_lt hj)]
theorem conv_str {w : World} {A : Option Addr} {n c : Nat} {xs : List Int} (h : RI .u8 w A n xs) (h1 : 0 < n) (s : ByteArray) (hs : strOfNums xs = s) : (convert 22 9 (.slice A n c)).run Tryd.prog w = .ok (.string s) w := by
  subst hs
  obtain ⟨b, o, rfl⟩ := h.hd h1
  exact run_convert_bytes_arg w 22 5 Tryd.underlying22 Tryd.underlying5 b o n c xs h.len (fun i hi => h.cell b o rfl i hi) 9 Tryd.underlying9
theorem lit_bytes (w : World) (xs : List Int) : RI .u8 (w.alloc (.cells (ints .u8 xs).toArray 5)) (some ⟨w.heap.size, 0, none⟩) xs.length xs := by
  have := Blk.ri (xs := xs) (ys := []) (k := .u8) (by simpa using blk_new w 5 (ints .u8 xs))
  exact this
theorem byte_ofwf {zs : List Int} (h : ∀ x ∈ zs, (Lit.int .u8 x).wf = true) (j : Nat) : 0 ≤ nth zs j ∧ nth zs j ≤ 255 := by
  by_cases hj : j < zs.length
  · have := h (nth zs j) (by rw [nth_lt hj]; exact List.getElem_mem _)
    simp [Lit.wf] at this
    rwa [show IntKind.u8.min = 0 from rfl, show IntKind.u8.max = 255 from rfl] at this
  · simp [nth, List.getD, List.getElem?_eq_none (Nat.le_of_not_lt hj)]
theorem int_ofwf {k : Int} (hk : (Lit.int .i64 k).wf = true) : -9223372036854775808 ≤ k ∧ k ≤ 9223372036854775807 := by
  simp [Lit.wf] at hk
  first
    | exact hk
    | rwa [show IntKind.i64.min = -9223372036854775808 from rfl, show IntKind.i64.max = 9223372036854775807 from rfl] at hk
end Go.Proofs.YtkpabdjniiepkaaDoor

/- What every row of this seat uses: the tables as the row lists them, a world for the witness, a slice of numbers that came in. -/
set_option linter.unusedVariables false
set_option linter.unusedSimpArgs false
namespace Go.Proofs.YtkpabdjniiepkaaDoor
open Go.ChangeShapes Go.WideShapes Go.ChangeAt Go.RowKit
theorem own : ownKnob Tryd.prog.godebug = none := by kernel_rfl
theorem laidOut : laidOutB Tryd.prog = true := by kernel_rfl
abbrev theLaid : List (String × DataW Unit) := [("haversack/lens.order", Rows.laid_haversack_lens_order), ("haversack/lens.wide", Rows.laid_haversack_lens_wide), ("haversack/lens.from", Rows.laid_haversack_lens_from)]
theorem cellsArr : Tryd.prog.cellsOf 104 = 19 := by kernel_rfl
theorem cellsInt : Tryd.prog.cellsOf 3 = 1 := by kernel_rfl
theorem cellsU8 : Tryd.prog.cellsOf 5 = 1 := by kernel_rfl
theorem gFrom : Tryd.prog.globalNamed "haversack/lens.from" = some 2 := by kernel_rfl
theorem gWide : Tryd.prog.globalNamed "haversack/lens.wide" = some 1 := by kernel_rfl
theorem gOrder : Tryd.prog.globalNamed "haversack/lens.order" = some 0 := by kernel_rfl
theorem tFrom : (Tryd.prog.globals[2]?).map (·.type) = some 104 := by kernel_rfl
theorem tWide : (Tryd.prog.globals[1]?).map (·.type) = some 104 := by kernel_rfl
theorem tOrder : (Tryd.prog.globals[0]?).map (·.type) = some 104 := by kernel_rfl
theorem ri_of_tab {W : World} {g : Nat} {zs : List Int} (hl : zs.length = 19) (h : ∀ i, i < zs.length → W.cell? ⟨g, i, none⟩ = some (.int .i64 (zs.getD i 0))) : RI .i64 W (some ⟨g, 0, none⟩) 19 zs :=
  ⟨hl, fun _ => ⟨_, _, rfl⟩, fun b o ha j hj => by
    injection ha with ha; injection ha with h1 h2 h3; subst h1; subst h2
    rw [Nat.zero_add]; exact h j (by omega)⟩
theorem tabs_of {W : World} (h : laidMet Tryd.prog theLaid W) : Tabs W := by
  have h1 : laidMet Tryd.prog [("haversack/lens.from", Lib.tabData .i64 fromL)] W := laidMet.filter (fun x => x.1 == "haversack/lens.from") h
  have h2 : laidMet Tryd.prog [("haversack/lens.wide", Lib.tabData .i64 wideL)] W := laidMet.filter (fun x => x.1 == "haversack/lens.wide") h
  have h3 : laidMet Tryd.prog [("haversack/lens.order", Lib.tabData .i64 orderL)] W := laidMet.filter (fun x => x.1 == "haversack/lens.order") h
  have t1 := Lib.tabIs_of_head (rest := []) gFrom tFrom Tryd.underlying104 Tryd.underlying3 cellsInt cellsArr h1
  have t2 := Lib.tabIs_of_head (rest := []) gWide tWide Tryd.underlying104 Tryd.underlying3 cellsInt cellsArr h2
  have t3 := Lib.tabIs_of_head (rest := []) gOrder tOrder Tryd.underlying104 Tryd.underlying3 cellsInt cellsArr h3
  exact ⟨ri_of_tab rfl (t1.cell gFrom), ri_of_tab rfl (t2.cell gWide), ri_of_tab rfl (t3.cell gOrder)⟩
def setTab (zs : List Int) : Obj → Obj
  | .cells _ t frozen => .cells (ints .i64 zs).toArray t frozen
  | o => o
/-- A world for the witness: the settled one, the tables holding what their initialisers lay. -/
noncomputable def laidWorld (os : Os) : World :=
  { World.holding Tryd.prog os ⟨#[], #[], []⟩ with heap := (((World.holding Tryd.prog os ⟨#[], #[], []⟩).heap.modify 2 (setTab fromL)).modify 1 (setTab wideL)).modify 0 (setTab orderL) }
theorem laid_met (os : Os) (args : Array Value) : laidMet Tryd.prog theLaid ((laidWorld os).forCall (fun _ _ => 0) ⟨#[], args, []⟩).memory :=
  laidMet_of_run3 8 (by kernel_rfl) (by kernel_rfl) (by kernel_rfl)
/-- A slice of numbers that came in. -/
theorem ri_came {H : Type} {enc : TypeId × Value → H} {W : World} {k : IntKind} {t e : TypeId} {a0 : Option Addr} {len0 cap0 : Nat} {d : DataW H} {p : List MemPlace}
    (ht : Tryd.prog.underlying t = some (.slice e)) (he : Tryd.prog.underlying e = some (.int k)) (hc : Tryd.prog.cellsOf e = 1)
    (h : DataW.Trod enc Tryd.prog W 0 (fun _ => true) true t (Value.slice a0 len0 cap0) d p) :
    ∃ xs, RI k W a0 len0 xs ∧ len0 ≤ maxLen ∧ (a0 = none → len0 = 0 ∧ cap0 = 0) ∧ ∀ x ∈ xs, (Lit.int k x).wf = true := by
  obtain ⟨fuel, hf⟩ := h
  rcases open_ints ht he hc hf with ⟨hcs, _⟩ | ⟨x, l, c, zs, hcs, _, hl, hm, hz, _, hcell, hwz⟩
  · simp [Value.cells] at hcs
    obtain ⟨rfl, rfl, rfl⟩ := hcs
    exact ⟨[], ⟨rfl, by omega, by simp⟩, by omega, fun _ => ⟨rfl, rfl⟩, by simp⟩
  · simp [Value.cells] at hcs
    obtain ⟨rfl, rfl, rfl⟩ := hcs
    have hz' : zs.length = cap0 := by simpa using hz
    refine ⟨zs.take len0, ⟨by simp; omega, fun hp => ?_, fun b o ha j hj => ?_⟩, by omega, (by simp), fun y hy => hwz y (List.mem_of_mem_take hy)⟩
    · obtain ⟨b, o, rfl, _⟩ := ints_at hcell (by omega)
      exact ⟨b, o, rfl⟩
    · obtain rfl := Option.some.inj ha
      rw [nth_take _ _ _ hj, ← add_plain2]
      exact hcell j (by omega)
end Go.Proofs.YtkpabdjniiepkaaDoor
