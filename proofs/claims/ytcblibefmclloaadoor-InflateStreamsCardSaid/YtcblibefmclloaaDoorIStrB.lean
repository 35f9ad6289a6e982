import Derived.Test.YtcblibefmclloaaDoorIStrA
import Derived.Lib.AppendZerosOnto
import Derived.Laws.AppendOwnNone
import Derived.OneCell
import Derived.OwnWalk
import Derived.Deep.MidRow
set_option linter.unusedVariables false
set_option linter.unusedSimpArgs false
namespace Go.Proofs.YtcblibefmclloaaDoor
open Go.RowKit
set_option maxRecDepth 100000 in
set_option maxHeartbeats 1000000 in
theorem check_calls (w : World) (A : Option Addr) (n c : Nat) (l : List Int) (hl : RI .i64 w A n l) (hn : n ≤ 140737488355328) :
    Calls Tryd.prog 100 #[.slice A n c] w fun e w' => e = .returned (.int .i64 (checkF l)) ∧ Dr w w' := by
  have hll := hl.len
  have HL := Lib.hid hl
  have HLL := Lib.hid hll
  clear hl
  by_cases h0 : n = 0
  · subst h0
    have hr : checkF l = 1 := by rw [checkF, if_pos (by omega)]
    clear hll
    rw [hr]
    clear hr
    go_enter Tryd.func100, Tryd.ntmps100
    go_wp2_with fail
    go_ret
    exact ⟨rfl, 0, rfl⟩
  · have e0 : ((n : Int) == 0) = false := by simp; omega
    by_cases hb : 288 < n
    · have hr : checkF l = 1 := by rw [checkF, if_pos (by omega)]
      have e1 : decide (288 < n) = true := by simpa using hb
      clear hll
      rw [hr]
      clear hr
      go_enter Tryd.func100, Tryd.ntmps100
      go_wp2_with fail
      go_ret
      exact ⟨rfl, 0, rfl⟩
    · have e1 : decide (288 < n) = false := by simp; omega
      clear hll
      go_enter Tryd.func100, Tryd.ntmps100
      go_wp2_with fail
      clear e0 e1
      go_loopw [3, 4, 17] (fun v3 v4 i wr => ∃ k : Nat, k ≤ n ∧ i = .int .i64 k ∧ v3 = .int .i64 (usedF (l.take k)) ∧ v4 = .int .i64 (measF (l.take k)) ∧ Hid ((l.take k).all okLen = true) ∧ Hid (Dr w wr)) (fun _ _ i _ => n - (intOf i).toNat)
      case atStart => exact ⟨0, by omega, rfl, rfl, rfl, Lib.hid (by simp), ⟨0, rfl⟩⟩
      case round =>
        obtain ⟨k, hk, rfl, rfl, rfl, HA, HD⟩ := hrel
        obtain ⟨q, rfl⟩ := HD.out
        clear HD
        have hu := usedF_le (l.take k)
        have hm := measF_le (l.take k) HA.out
        have htk : (l.take k).length = k := by rw [List.length_take]; have := HLL.out; omega
        rw [htk] at hu hm
        clear htk
        by_cases hlt : k < n
        · obtain ⟨b, o, rfl, hc⟩ := HL.out.at hlt
          have us := usedF_snoc l k (by have := HLL.out; omega)
          have ms := measF_snoc l k (by have := HLL.out; omega)
          have asn := all_snoc l k (by have := HLL.out; omega)
          rw [HA.out] at asn
          have US := Lib.hid us
          have MS := Lib.hid ms
          have AS := Lib.hid asn
          clear us ms asn
          generalize usedF (l.take k) = U at *
          generalize measF (l.take k) = M at *
          by_cases hneg : nth l k < 0
          · have e1 : decide (nth l k < 0) = true := by simpa using hneg
            have hok : okLen (nth l k) = false := by simp [okLen]; omega
            have hr : checkF l = 1 := by rw [checkF, if_neg (by have := HLL.out; omega), if_pos (all_hit l k (by have := HLL.out; omega) hok)]
            have HR := Lib.hid hr
            clear hr hok
            go_wp2_with fail
            go_ret
            rw [HR.out]
            exact ⟨rfl, _, rfl⟩
          · have e1 : decide (nth l k < 0) = false := by simpa using hneg
            by_cases hbig : 15 < nth l k
            · have e2 : decide (15 < nth l k) = true := by simpa using hbig
              have hok : okLen (nth l k) = false := by simp [okLen]; omega
              have hr : checkF l = 1 := by rw [checkF, if_neg (by have := HLL.out; omega), if_pos (all_hit l k (by have := HLL.out; omega) hok)]
              have HR := Lib.hid hr
              clear hr hok
              go_wp2_with fail
              go_ret
              rw [HR.out]
              exact ⟨rfl, _, rfl⟩
            · have e2 : decide (15 < nth l k) = false := by simpa using hbig
              have hok : okLen (nth l k) = true := by simp [okLen]; omega
              have HOK := Lib.hid hok
              clear hok
              by_cases hz : 0 < nth l k
              · have e3 : decide (0 < nth l k) = true := by simpa using hz
                have hp := part_pos (nth l k) hz (by omega)
                have hple := part_le (nth l k) HOK.out
                have hp' := hp.symm
                clear hp
                have HU : Hid (usedF (l.take (k + 1)) = U + 1) := by have := US.out; rwa [if_pos hz] at this
                go_wp2_with fail
                clear hp'
                go_roundw
                case rel => exact ⟨k + 1, by omega, by go_num, by rw [HU.out]; go_num, by rw [MS.out]; go_num, Lib.hid (AS.out.trans (by rw [HOK.out]; rfl)), ⟨_, rfl⟩⟩
                case measure => simp [intOf]; omega
              · have e3 : decide (0 < nth l k) = false := by simpa using hz
                have HU : Hid (usedF (l.take (k + 1)) = U) := by have := US.out; rwa [if_neg hz, Nat.add_zero] at this
                have HM : Hid (measF (l.take (k + 1)) = M) := by have := MS.out; rwa [part_zero _ hz, Nat.add_zero] at this
                go_wp2_with fail
                go_roundw
                case rel => exact ⟨k + 1, by omega, by go_num, by rw [HU.out], by rw [HM.out], Lib.hid (AS.out.trans (by rw [HOK.out]; rfl)), ⟨_, rfl⟩⟩
                case measure => simp [intOf]; omega
        · obtain rfl : k = n := by omega
          have htk : l.take k = l := List.take_of_length_le (by have := HLL.out; omega)
          rw [htk] at HA hu hm ⊢
          have hlen := HLL.out
          have HR : Hid (checkF l = if 32768 < measF l then 30 else if measF l = 32768 then 0 else if usedF l = 1 ∧ measF l = 16384 then 0 else 31) := by
            show _ = _
            rw [checkF, if_neg (by omega), if_neg (by rw [HA.out]; simp)]
          clear htk hlen
          generalize measF l = M at *
          generalize usedF l = U at *
          by_cases c1 : 32768 < M
          · have e1 : decide ((32768 : Int) < (M : Int)) = true := by simp; omega
            go_wp2_with fail
            go_ret
            rw [HR.out, if_pos c1]
            exact ⟨rfl, _, rfl⟩
          · have e1 : decide ((32768 : Int) < (M : Int)) = false := by simp; omega
            by_cases c2 : M = 32768
            · have e2 : decide ((M : Int) < 32768) = false := by simp; omega
              have C2 := Lib.hid c2
              clear c2
              go_wp2_with fail
              go_ret
              rw [HR.out, if_neg c1, if_pos C2.out]
              exact ⟨rfl, _, rfl⟩
            · have e2 : decide ((M : Int) < 32768) = true := by simp; omega
              by_cases c3 : U = 1
              · have e3 : ((U : Int) != 1) = false := by simp; omega
                have C3 := Lib.hid c3
                clear c3
                by_cases c4 : M = 16384
                · have e4 : ((M : Int) != 16384) = false := by simp; omega
                  have C4 := Lib.hid c4
                  have C2 := Lib.hid c2
                  clear c4 c2
                  go_wp2_with fail
                  go_ret
                  rw [HR.out, if_neg c1, if_neg C2.out, if_pos ⟨C3.out, C4.out⟩]
                  exact ⟨rfl, _, rfl⟩
                · have e4 : ((M : Int) != 16384) = true := by simp; omega
                  go_wp2_with fail
                  go_ret
                  rw [HR.out, if_neg c1, if_neg c2, if_neg (fun h => c4 h.2)]
                  exact ⟨rfl, _, rfl⟩
              · have e3 : ((U : Int) != 1) = true := by simp; omega
                go_wp2_with fail
                go_ret
                rw [HR.out, if_neg c1, if_neg c2, if_neg (fun h => c3 h.1)]
                exact ⟨rfl, _, rfl⟩
end Go.Proofs.YtcblibefmclloaaDoor

set_option linter.unusedVariables false
set_option linter.unusedSimpArgs false
namespace Go.Proofs.YtcblibefmclloaaDoor
open Go.RowKit
theorem info_u32 : (Tryd.prog.info? 68).map (fun i => (i.zero, i.size, i.bytes)) = some (some (.int .u32 0), 1, 4) := by kernel_rfl
theorem own_of_blkK {w : World} {base g n : Nat} {k : IntKind} {t : TypeId} {xs : List Int} (h : Blk w g t (ints k xs)) (hl : xs.length = n) (hb : base ≤ g) (hn : n ≤ 1000000000) : w.ownsRow base t 1 (.slice (some ⟨g, 0, none⟩) n n) n (ints k xs) :=
  ⟨by simp [ints, hl], .inr ⟨g, n, _, rfl, hb, h, Nat.le_refl _, by unfold maxLen; omega, by simp [ints, hl], by rw [List.toList_toArray, List.take_of_length_le (by simp [ints, hl])]⟩⟩
theorem wpList_store_row {ops : Array Oper} {rest : List Oper} {o : Oper} {a : Act} {w : World} {Q : Exit → Act → World → Prop} (hgd : o.guard = none) (ty : TypeId) (x y : Operand) (ho : o.op = .store ty x y)
    (g : Nat) (cells : Array Value) (hx : a.eval x = .pointer (some ⟨g, 0, none⟩)) (hy : a.eval y = .agg cells)
    (t : TypeId) (old : Array Value) (hg : w.heap[g]? = some (.cells old t (0, 0))) (hi : (Tryd.prog.info? ty).map (·.size) = some cells.size)
    (hold : old.size = cells.size) (h1 : cells.all (·.oneCell') = true)
    (h : wpList Tryd.prog ops Q rest (a.put o.dst undef) (w.setRow g cells)) : wpList Tryd.prog ops Q (o :: rest) a w :=
  wpList_plain hgd fun _ hK => wp_store_row ty x y ho g cells hx hy t old hg hi hold h1 (hK _ _ h)
theorem Blk.row {w : World} {g : Nat} {t : TypeId} {old : List Value} (h : Blk w g t old) (cs : List Value) : Blk (w.setRow g cs.toArray) g t cs := setRow_heap w g _ _ t _ h
theorem Blk.row_other {w : World} {g g' : Nat} {t : TypeId} {cs : List Value} (h : Blk w g t cs) (hne : g ≠ g') (ds : Array Value) : Blk (w.setRow g' ds) g t cs := (setRow_other w g' g ds hne).trans h
theorem below_row {B g : Nat} {w0 w : World} (hb : Below B w0 w) (hBg : B ≤ g) (cs : Array Value) : Below B w0 (w.setRow g cs) :=
  hb.trans ⟨rfl, rfl, rfl, by simp [World.setRow], fun k hk => setRow_other w g k cs (by omega)⟩
/-- A symbol's code, the highest bit first. -/
def codeI (l : List Int) (i : Nat) : Int := lowF (lenCnt l) (nth l i).toNat + nth (lenCnt (l.take i)) (nth l i).toNat
/-- The codes as they are laid. -/
def outL (l : List Int) (k : Nat) : List Int := (List.range l.length).map fun i => if i < k ∧ 0 < nth l i then revF (codeI l i) (nth l i).toNat else 0
/-- What code comes next, of each length. -/
def nextL (l : List Int) (k : Nat) : List Int := (List.range 16).map fun n => lowF (lenCnt l) n + nth (lenCnt (l.take k)) n
/-- Codes: the list, and what is wrong. -/
def codesF (l : List Int) : List Int × Int := if checkF l = 0 then (outL l l.length, 0) else ([], checkF l)
theorem outL_len (l : List Int) (k : Nat) : (outL l k).length = l.length := by simp [outL]
theorem nextL_len (l : List Int) (k : Nat) : (nextL l k).length = 16 := by simp [nextL]
theorem outL_zero (l : List Int) : outL l 0 = List.replicate l.length 0 := by
  refine List.ext_getElem (by simp [outL]) fun j h1 h2 => ?_
  simp [outL]
theorem nth_map_range (f : Nat → Int) (n j : Nat) (h : j < n) : nth ((List.range n).map f) j = f j := by simp [nth, List.getD, h]
theorem nextL_zero (l : List Int) : nextL l 0 = lowL (lenCnt l) 16 := by
  refine List.ext_getElem (by simp [nextL, lowL]) fun j h1 h2 => ?_
  have hj : j < 16 := by simpa [nextL] using h1
  simp only [nextL, lowL, List.getElem_map, List.getElem_range, List.take_zero]
  rw [if_pos hj]
  have : nth (lenCnt []) j = 0 := by unfold lenCnt; rw [cntF_nth _ _ _ hj]; simp
  omega
theorem outL_skip (l : List Int) (k : Nat) (h : ¬ 0 < nth l k) : outL l (k + 1) = outL l k := by
  refine List.ext_getElem (by simp [outL]) fun j h1 h2 => ?_
  simp only [outL, List.getElem_map, List.getElem_range]
  by_cases e : j = k
  · subst e; rw [if_neg (fun h' => h h'.2), if_neg (fun h' => h h'.2)]
  · by_cases hj : j < k
    · by_cases hz : 0 < nth l j
      · rw [if_pos ⟨by omega, hz⟩, if_pos ⟨hj, hz⟩]
      · rw [if_neg (fun h' => hz h'.2), if_neg (fun h' => hz h'.2)]
    · rw [if_neg (by omega), if_neg (by omega)]
theorem outL_step (l : List Int) (k : Nat) (hk : k < l.length) (h : 0 < nth l k) : outL l (k + 1) = (outL l k).set k (revF (codeI l k) (nth l k).toNat) := by
  refine List.ext_getElem (by simp [outL]) fun j h1 h2 => ?_
  rw [List.getElem_set]
  simp only [outL, List.getElem_map, List.getElem_range]
  by_cases e : k = j
  · subst e; rw [if_pos rfl, if_pos ⟨by omega, h⟩]
  · rw [if_neg e]
    by_cases hj : j < k
    · by_cases hz : 0 < nth l j
      · rw [if_pos ⟨by omega, hz⟩, if_pos ⟨hj, hz⟩]
      · rw [if_neg (fun h' => hz h'.2), if_neg (fun h' => hz h'.2)]
    · rw [if_neg (by omega), if_neg (by omega)]
theorem nextL_skip (l : List Int) (k : Nat) (hk : k < l.length) (h : ¬ 0 < nth l k) : nextL l (k + 1) = nextL l k := by
  unfold nextL; rw [lenCnt_skip l k hk h]
theorem nextL_step (l : List Int) (k : Nat) (hk : k < l.length) (s : Nat) (hs : s < 16) (hsn : lenCnt (l.take (k + 1)) = (lenCnt (l.take k)).set s (nth (lenCnt (l.take k)) s + 1)) : nextL l (k + 1) = (nextL l k).set s (nth (nextL l k) s + 1) := by
  refine List.ext_getElem (by simp [nextL]) fun j h1 h2 => ?_
  have hj : j < 16 := by simpa [nextL] using h1
  rw [List.getElem_set]
  simp only [nextL, List.getElem_map, List.getElem_range]
  rw [hsn, nth_map_range _ _ _ hs]
  by_cases e : s = j
  · subst e
    rw [if_pos rfl]
    have : nth ((lenCnt (l.take k)).set s (nth (lenCnt (l.take k)) s + 1)) s = nth (lenCnt (l.take k)) s + 1 := by
      simp [nth, List.getD, lenCnt_len, hs]
    omega
  · rw [if_neg e]
    congr 1
    simp [nth, List.getD, e]
/-- What coding is to give. -/
def Coded (w : World) (r : List Int × Int) (e : Ending) (w' : World) : Prop :=
  ∃ v, e = .returned (.tuple #[v, .int .i64 r.2]) ∧ w'.ownsRow w.heap.size 68 1 v r.1.length (ints .u32 r.1) ∧ Below w.heap.size w w'
theorem coded_err {w w' : World} {r : List Int × Int} {e : Int} (hr : r = ([], e)) (h : Below w.heap.size w w') : Coded w r (.returned (.tuple #[.slice none 0 0, .int .i64 e])) w' := by
  subst hr
  exact ⟨_, rfl, World.ownsRow_nil _ _ _ _, h⟩
theorem coded_ok {w w' : World} {r : List Int × Int} {v : Value} {n : Nat} {ls : List Int} (hr : r = (ls, 0)) (hl : ls.length = n) (ho : w'.ownsRow w.heap.size 68 1 v n (ints .u32 ls)) (h : Below w.heap.size w w') : Coded w r (.returned (.tuple #[v, .int .i64 0])) w' := by
  subst hr hl
  exact ⟨_, rfl, ho, h⟩
set_option maxRecDepth 100000 in
set_option maxHeartbeats 2000000 in
theorem codes_calls (w : World) (A : Option Addr) (n c : Nat) (l : List Int) (hl : RI .i64 w A n l) (hn : n ≤ 140737488355328) :
    Calls Tryd.prog 73 #[.slice A n c] w (Coded w (codesF l)) := by
  have HL := Lib.hid hl
  have HLL := Lib.hid hl.len
  clear hl
  go_enter Tryd.func73, Tryd.ntmps73
  go_wp2_with fail
  refine (check_calls _ _ _ _ l HL.out hn).mono ?_
  rintro _ w1 ⟨rfl, hd⟩
  have HD := Lib.hid hd
  clear hd
  by_cases hc : checkF l = 0
  · have e1 : (checkF l != 0) = false := by simp [hc]
    have HR : Hid (codesF l = (outL l l.length, 0)) := if_pos hc
    have HC := Lib.hid hc
    have hok := check_ok hc
    have HOK := Lib.hid hok.2
    have hn288 : n ≤ 288 := by rw [← HLL.out]; exact hok.1
    have HL1 := Lib.hid (HL.out.keeps (HD.out.keeps (S := [])) (off_nil _))
    clear hc hok
    go_wp2_with fail
    refine (first_calls _ _ _ _ l HL1.out hn288 HOK.out).mono ?_
    rintro _ w2 ⟨rfl, hb⟩
    have HB := Lib.hid ((HD.out.keeps (S := [])).below.trans (hb.mono (HD.out.keeps (S := [])).size))
    clear hb
    have Z16 : Hid (∀ z : List Value, z = ints .i64 (List.replicate 16 0) → Blk ((w2.alloc (.cells z.toArray 140)).alloc (.cells z.toArray 140)) w2.heap.size 140 (ints .i64 (List.replicate 16 0)) ∧ Blk ((w2.alloc (.cells z.toArray 140)).alloc (.cells z.toArray 140)) (w2.heap.size + 1) 140 (ints .i64 (List.replicate 16 0)) ∧ Below w.heap.size w ((w2.alloc (.cells z.toArray 140)).alloc (.cells z.toArray 140))) := by
      rintro z rfl
      refine ⟨Blk.alloc (blk_new w2 _ _) _, ?_, (HB.out.alloc HB.out.size _).alloc (by have := HB.out.size; simp; omega) _⟩
      have := blk_new (w2.alloc (.cells (ints .i64 (List.replicate 16 0)).toArray 140)) 140 (ints .i64 (List.replicate 16 0))
      simpa using this
    obtain ⟨z0, z1, z2⟩ := Z16.out [.int .i64 0, .int .i64 0, .int .i64 0, .int .i64 0, .int .i64 0, .int .i64 0, .int .i64 0, .int .i64 0, .int .i64 0, .int .i64 0, .int .i64 0, .int .i64 0, .int .i64 0, .int .i64 0, .int .i64 0, .int .i64 0] rfl
    have LX : Hid ((ints .i64 (lowL (lenCnt l) 16)).toArray.size = 16) := by show _ = _; simp [ints, lowL_len]
    have LY : Hid ((ints .i64 (lenCnt l)).toArray.size = 16) := by show _ = _; simp [ints, lenCnt_len]
    have y0 := z0.row (ints .i64 (lowL (lenCnt l) 16))
    have y1 := (z1.row_other (g' := w2.heap.size) (by simp) (ints .i64 (lowL (lenCnt l) 16)).toArray).row (ints .i64 (lenCnt l))
    have y2 := below_row (below_row z2 HB.out.size (ints .i64 (lowL (lenCnt l) 16)).toArray) (g := w2.heap.size + 1) (by have := HB.out.size; omega) (ints .i64 (lenCnt l)).toArray
    have y3 := y0.row_other (g' := w2.heap.size + 1) (by simp) (ints .i64 (lenCnt l)).toArray
    have Z0 := Lib.hid z0
    have Z1 := Lib.hid (z1.row_other (g' := w2.heap.size) (by simp) (ints .i64 (lowL (lenCnt l) 16)).toArray)
    have Y2 := Lib.hid y2
    have Y3 := Lib.hid y3
    have hbz := HB.out.size
    clear z0 z1 z2 Z16 y0 y1 y2 y3
    have hmk := fun w => make_ints (P := Tryd.prog) w 106 68 .u32 4 Tryd.underlying106 info_u32 (n : Int) n rfl (by omega) (by omega)
    go_upto_region 5 with (first
      | (refine wpList_store_row rfl 140 (.tmp 5) (.tmp 18) rfl w2.heap.size (ints .i64 (lowL (lenCnt l) 16)).toArray rfl rfl 140 (ints .i64 (List.replicate 16 0)).toArray (by exact Z0.out) (by rw [LX.out]; kernel_rfl) (by rw [LX.out]; rfl) (all_ints_one _) ?_)
      | (refine wpList_store_row rfl 140 (.tmp 6) (.tmp 19) rfl (w2.heap.size + 1) (ints .i64 (lenCnt l)).toArray rfl rfl 140 (ints .i64 (List.replicate 16 0)).toArray (by exact Z1.out) (by rw [LY.out]; kernel_rfl) (by rw [LY.out]; rfl) (all_ints_one _) ?_))
    obtain ⟨w3, hw3⟩ : ∃ w3, w3 = (((w2.alloc (.cells #[.int .i64 0, .int .i64 0, .int .i64 0, .int .i64 0, .int .i64 0, .int .i64 0, .int .i64 0, .int .i64 0, .int .i64 0, .int .i64 0, .int .i64 0, .int .i64 0, .int .i64 0, .int .i64 0, .int .i64 0, .int .i64 0] 140)).alloc (.cells #[.int .i64 0, .int .i64 0, .int .i64 0, .int .i64 0, .int .i64 0, .int .i64 0, .int .i64 0, .int .i64 0, .int .i64 0, .int .i64 0, .int .i64 0, .int .i64 0, .int .i64 0, .int .i64 0, .int .i64 0, .int .i64 0] 140)).setRow w2.heap.size (ints .i64 (lowL (lenCnt l) 16)).toArray).setRow (w2.heap.size + 1) (ints .i64 (lenCnt l)).toArray := ⟨_, rfl⟩
    rw [← hw3] at Y2 Y3 ⊢
    clear hw3 Z0 Z1
    have HNX : Hid (Blk (w3.alloc (.cells (ints .u32 (List.replicate n 0)).toArray 68)) w2.heap.size 140 (ints .i64 (nextL l 0))) := by rw [nextL_zero]; exact Y3.out.alloc _
    have HOUT : Hid (Blk (w3.alloc (.cells (ints .u32 (List.replicate n 0)).toArray 68)) w3.heap.size 68 (ints .u32 (outL l 0))) := by rw [outL_zero, HLL.out]; exact blk_new w3 _ _
    have HBW := Lib.hid (Y2.out.alloc (Y2.out.size) (.cells (ints .u32 (List.replicate n 0)).toArray 68))
    have HLT := Lib.hid Y3.out.lt
    have hb3 := Y2.out.size
    clear Y2 Y3
    generalize hq : w2.heap.size = q at *
    go_wp2_with fail
    generalize hgo : w3.heap.size = go at *
    go_loopw [25] (fun i wr => ∃ k : Nat, k ≤ n ∧ i = .int .i64 k ∧ Hid (Blk wr q 140 (ints .i64 (nextL l k))) ∧ Hid (Blk wr go 68 (ints .u32 (outL l k))) ∧ Hid (Below w.heap.size w wr)) (fun i _ => n - (intOf i).toNat)
    case atStart => exact ⟨0, by omega, rfl, HNX, HOUT, HBW⟩
    case round =>
      clear HNX HOUT HBW
      obtain ⟨k, hk, rfl, HNX, HOUT, HBW⟩ := hrel
      by_cases hlt : k < n
      · obtain ⟨b, o, rfl, hc⟩ := HL.out.at hlt
        have hc := (Keeps.of_below (S := []) HBW.out).cell (by simp) hc
        have hx : okLen (nth l k) = true := by rw [nth_lt (by have := HLL.out; omega)]; exact List.all_eq_true.1 HOK.out _ (List.getElem_mem _)
        have hx1 : 0 ≤ nth l k ∧ nth l k ≤ 15 := by simpa [okLen] using hx
        obtain ⟨hx2, hx3⟩ := hx1
        clear hx
        by_cases hz : 0 < nth l k
        · obtain ⟨s, hs, hs16, hsn⟩ := lenCnt_snoc l k (by have := HLL.out; omega) hz hx3
          have S1 := Lib.hid (nextL_step l k (by have := HLL.out; omega) s hs16 hsn)
          have S2 := Lib.hid (outL_step l k (by have := HLL.out; omega) hz)
          have h0 := HNX.out.cellI (j := s) (by rw [nextL_len]; exact hs16)
          have hf := HNX.out.frozen s
          have g0 := HOUT.out.cellI (j := k) (by rw [outL_len, HLL.out]; exact hlt)
          have gf := HOUT.out.frozen k
          have HCI : Hid (codeI l k = nth (nextL l k) s) := by
            show _ = _
            unfold codeI nextL
            rw [nth_map_range _ _ _ hs16, hs]; simp
          obtain ⟨b0, b1⟩ := lenCnt_bd (l.take k) s hs16
          obtain ⟨c0, c1⟩ := lowF_small l (by have := HLL.out; omega) s (by omega)
          have hxv : nth (nextL l k) s = lowF (lenCnt l) s + nth (lenCnt (l.take k)) s := by unfold nextL; rw [nth_map_range _ _ _ hs16]
          have b2 : (l.take k).length ≤ 288 := by rw [List.length_take]; omega
          have x0 : 0 ≤ nth (nextL l k) s := by omega
          have x1 : nth (nextL l k) s ≤ 50000000 := by omega
          have hks : Hid ((nth l k).toNat = s) := by show _ = _; rw [hs]; simp
          rw [hs] at hc hx2 hx3 hz
          have e3 : decide (0 < s) = true := by simp; omega
          clear hxv b0 b1 b2 c0 c1 hsn hs
          generalize nth (nextL l k) s = x at *
          go_wp2_with fail
          refine (turned_calls _ x s x0 (by omega) (by omega)).mono ?_
          rintro _ w4 ⟨rfl, rfl⟩
          have HSET1 : Hid (Blk (wr.setCell ⟨go, k, none⟩ (.int .u32 (revF x s))) go 68 (ints .u32 (outL l (k + 1)))) := by
            have := HOUT.out.set k (.int .u32 (revF x s))
            rw [set_ints] at this
            rw [S2.out, HCI.out, hks.out]; exact this
          have HSET2 := Lib.hid (HNX.out.set_other (a := ⟨go, k, none⟩) (by have := HLT.out; show q ≠ go; omega) (.int .u32 (revF x s)))
          have HW4 := Lib.hid (HBW.out.setCell (p := ⟨go, k, none⟩) hb3 (.int .u32 (revF x s)))
          have hne1 : ¬ q = go := by have := HLT.out; omega
          have hne2 : ¬ go = q := by have := HLT.out; omega
          have HSET3 : Hid (Blk ((wr.setCell ⟨go, k, none⟩ (.int .u32 (revF x s))).setCell ⟨q, s, none⟩ (.int .i64 (x + 1))) q 140 (ints .i64 (nextL l (k + 1)))) := by
            have := HSET2.out.set s (.int .i64 (x + 1))
            rw [set_ints, ← S1.out] at this; exact this
          have HSET4 := Lib.hid (HSET1.out.set_other (a := ⟨q, s, none⟩) (by exact hne2) (.int .i64 (x + 1)))
          have HW5 := Lib.hid (HW4.out.setCell (p := ⟨q, s, none⟩) hbz (.int .i64 (x + 1)))
          clear HNX HOUT HBW HSET1 HSET2 HW4
          go_wp2_with fail
          go_roundw
          case rel => exact ⟨k + 1, by omega, by go_num, HSET3, HSET4, HW5⟩
          case measure => simp [intOf]; omega
        · have e3 : decide (0 < nth l k) = false := by simpa using hz
          have S1 := Lib.hid (nextL_skip l k (by have := HLL.out; omega) hz)
          have S2 := Lib.hid (outL_skip l k hz)
          go_wp2_with fail
          go_roundw
          case rel => exact ⟨k + 1, by omega, by go_num, by rw [S1.out]; exact HNX, by rw [S2.out]; exact HOUT, HBW⟩
          case measure => simp [intOf]; omega
      · obtain rfl : k = n := by omega
        go_wp2_with fail
        go_ret2
        refine coded_ok (v := .slice (some ⟨go, 0, none⟩) k k) (ls := outL l k) (by rw [HR.out, HLL.out]) (by rw [outL_len, HLL.out]) ?_ HBW.out
        exact own_of_blkK HOUT.out (by rw [outL_len, HLL.out]) hb3 (by omega)
  · have e1 : (checkF l != 0) = true := by simpa using hc
    have HR : Hid (codesF l = ([], checkF l)) := if_neg hc
    go_wp2_with fail
    go_ret2
    exact coded_err HR.out (HD.out.keeps (S := [])).below
end Go.Proofs.YtcblibefmclloaaDoor

/- Rows of bits of codes: plain numbers. -/
set_option linter.unusedVariables false
set_option linter.unusedSimpArgs false
namespace Go.Proofs.YtcblibefmclloaaDoor
/-- The n bits of a code, the highest first. -/
def msbF (c : Int) (n : Nat) : List Int := (List.range n).map fun t => c / 2 ^ (n - 1 - t) % 2
/-- The last j of them. -/
def msbP (c : Int) (n j : Nat) : List Int := (List.range n).map fun t => if n ≤ t + j then c / 2 ^ (n - 1 - t) % 2 else 0
theorem msbP_zero (c : Int) (n : Nat) : msbP c n 0 = List.replicate n 0 := by
  refine List.ext_getElem (by simp [msbP]) fun t h1 h2 => ?_
  have ht : t < n := by simpa [msbP] using h1
  simp only [msbP, List.getElem_map, List.getElem_range, List.getElem_replicate]
  rw [if_neg (by omega)]
theorem msbP_all (c : Int) (n : Nat) : msbP c n n = msbF c n := by
  refine List.ext_getElem (by simp [msbP, msbF]) fun t h1 h2 => ?_
  simp only [msbP, msbF, List.getElem_map, List.getElem_range]
  rw [if_pos (by omega)]
theorem msbP_len (c : Int) (n j : Nat) : (msbP c n j).length = n := by simp [msbP]
theorem msbF_len (c : Int) (n : Nat) : (msbF c n).length = n := by simp [msbF]
theorem msbF_nth (c : Int) (n t : Nat) (h : t < n) : nth (msbF c n) t = c / 2 ^ (n - 1 - t) % 2 := by
  unfold msbF; rw [nth_map_range _ _ _ h]
theorem msbP_step (c : Int) (n j : Nat) (h : j < n) : msbP c n (j + 1) = (msbP c n j).set (n - 1 - j) (c / 2 ^ j % 2) := by
  refine List.ext_getElem (by simp [msbP]) fun t h1 h2 => ?_
  have ht : t < n := by simpa [msbP] using h1
  rw [List.getElem_set]
  simp only [msbP, List.getElem_map, List.getElem_range]
  by_cases e : n - 1 - j = t
  · rw [if_pos e, if_pos (by omega), show n - 1 - t = j by omega]
  · rw [if_neg e]
    by_cases hj : n ≤ t + j
    · rw [if_pos (by omega), if_pos hj]
    · rw [if_neg (by omega), if_neg hj]
/-- The rows that are laid before the n-th length's i-th symbol. -/
def rowsAt (l : List Int) (n i : Nat) : List (List Int) := (List.range l.length).map fun j => if 0 < nth l j ∧ (nth l j < n ∨ nth l j = n ∧ j < i) then msbF (codeI l j) (nth l j).toNat else []
def rowsF (l : List Int) : List (List Int) := (List.range l.length).map fun j => if 0 < nth l j then msbF (codeI l j) (nth l j).toNat else []
theorem rowsAt_len (l : List Int) (n i : Nat) : (rowsAt l n i).length = l.length := by simp [rowsAt]
theorem rowsF_len (l : List Int) : (rowsF l).length = l.length := by simp [rowsF]
theorem rowsAt_zero (l : List Int) : rowsAt l 1 0 = List.replicate l.length [] := by
  refine List.ext_getElem (by simp [rowsAt]) fun j h1 h2 => ?_
  simp only [rowsAt, List.getElem_map, List.getElem_range, List.getElem_replicate]
  rw [if_neg (by omega)]
theorem rowsAt_all (l : List Int) (h : l.all okLen = true) : rowsAt l 16 0 = rowsF l := by
  refine List.ext_getElem (by simp [rowsAt, rowsF]) fun j h1 h2 => ?_
  have hj : j < l.length := by simpa [rowsAt] using h1
  have hx : okLen (nth l j) = true := by rw [nth_lt hj]; exact List.all_eq_true.1 h _ (List.getElem_mem _)
  have hx1 : 0 ≤ nth l j ∧ nth l j ≤ 15 := by simpa [okLen] using hx
  simp only [rowsAt, rowsF, List.getElem_map, List.getElem_range]
  by_cases e : 0 < nth l j
  · rw [if_pos ⟨e, by omega⟩, if_pos e]
  · rw [if_neg (by omega), if_neg e]
theorem rowsAt_next (l : List Int) (n : Nat) : rowsAt l n l.length = rowsAt l (n + 1) 0 := by
  refine List.ext_getElem (by simp [rowsAt]) fun j h1 h2 => ?_
  have hj : j < l.length := by simpa [rowsAt] using h1
  simp only [rowsAt, List.getElem_map, List.getElem_range]
  by_cases e : 0 < nth l j ∧ (nth l j < n ∨ nth l j = n)
  · rw [if_pos (by omega), if_pos (by omega)]
  · rw [if_neg (by omega), if_neg (by omega)]
theorem rowsAt_skip (l : List Int) (n i : Nat) (h : nth l i ≠ n) : rowsAt l n (i + 1) = rowsAt l n i := by
  refine List.ext_getElem (by simp [rowsAt]) fun j h1 h2 => ?_
  simp only [rowsAt, List.getElem_map, List.getElem_range]
  by_cases e : j = i
  · subst e
    by_cases e2 : 0 < nth l j ∧ nth l j < n
    · rw [if_pos (by omega), if_pos (by omega)]
    · rw [if_neg (by omega), if_neg (by omega)]
  · by_cases e2 : 0 < nth l j ∧ (nth l j < n ∨ nth l j = n ∧ j < i)
    · rw [if_pos (by omega), if_pos e2]
    · rw [if_neg (by omega), if_neg e2]
theorem rowsAt_step (l : List Int) (n i : Nat) (hi : i < l.length) (hn : 1 ≤ n) (h : nth l i = n) : rowsAt l n (i + 1) = (rowsAt l n i).set i (msbF (codeI l i) n) := by
  refine List.ext_getElem (by simp [rowsAt]) fun j h1 h2 => ?_
  rw [List.getElem_set]
  simp only [rowsAt, List.getElem_map, List.getElem_range]
  by_cases e : i = j
  · subst e
    rw [if_pos rfl, if_pos (by omega), h]; simp
  · rw [if_neg e]
    by_cases e2 : 0 < nth l j ∧ (nth l j < n ∨ nth l j = n ∧ j < i)
    · rw [if_pos (by omega), if_pos e2]
    · rw [if_neg (by omega), if_neg e2]
/-- The code that comes next at a length. -/
def posF (l : List Int) (n i : Nat) : Int := lowF (lenCnt l) n + nth (lenCnt (l.take i)) n
theorem posF_skip (l : List Int) (n i : Nat) (hn : n < 16) (hi : i < l.length) (h : nth l i ≠ n) : posF l n (i + 1) = posF l n i := by
  unfold posF
  congr 1
  unfold lenCnt
  rw [cntF_nth _ _ _ hn, cntF_nth _ _ _ hn, take_snoc' l i hi, List.filter_append, List.count_append]
  have : List.count (n : Int) (List.filter (fun x => decide (0 < x)) [nth l i]) = 0 := List.count_eq_zero_of_not_mem (fun hm => by
    have := (List.mem_filter.1 hm).1
    exact h (List.mem_singleton.1 this).symm)
  omega
theorem posF_step (l : List Int) (n i : Nat) (hn : n < 16) (h1 : 1 ≤ n) (hi : i < l.length) (h : nth l i = n) : posF l n (i + 1) = posF l n i + 1 := by
  unfold posF
  unfold lenCnt
  rw [cntF_nth _ _ _ hn, cntF_nth _ _ _ hn, take_snoc' l i hi, List.filter_append, List.count_append, h, List.filter_cons_of_pos (by simp; omega)]
  simp; omega
theorem posF_next (l : List Int) (n : Nat) (hn : n < 16) : posF l (n + 1) 0 = 2 * posF l n l.length ∨ 15 ≤ n := by
  by_cases h : n < 15
  · left
    unfold posF
    rw [List.take_zero, List.take_length, lowF]
    have : nth (lenCnt []) (n + 1) = 0 := by unfold lenCnt; rw [cntF_nth _ _ _ (by omega)]; simp
    omega
  · right; omega
theorem posF_one (l : List Int) : posF l 1 0 = 0 := by
  unfold posF
  have h1 : nth (lenCnt (l.take 0)) 1 = 0 := by rw [List.take_zero]; unfold lenCnt; rw [cntF_nth _ _ _ (by omega)]; simp
  have h2 : nth (lenCnt l) 0 = 0 := by
    unfold lenCnt
    rw [cntF_nth _ _ _ (by omega)]
    have : List.count (0 : Int) (List.filter (fun x => decide (0 < x)) l) = 0 := List.count_eq_zero_of_not_mem (fun hm => by
      have := (List.mem_filter.1 hm).2; simp at this)
    exact_mod_cast this
  simp only [lowF]
  omega
theorem posF_code (l : List Int) (n i : Nat) (h : nth l i = n) : codeI l i = posF l n i := by unfold codeI posF; rw [h]; simp
theorem posF_bd (l : List Int) (hl : l.length ≤ 288) (n i : Nat) (hn : n < 16) : 0 ≤ posF l n i ∧ posF l n i ≤ 50000000 := by
  unfold posF
  have h1 := lowF_small l hl n (by omega)
  have h2 := lenCnt_bd (l.take i) n hn
  have : (l.take i).length ≤ 288 := by rw [List.length_take]; omega
  omega
/-- What the laying of rows keeps: the last code and its length. -/
def Last (l : List Int) (n i : Nat) (code : Int) (last : Nat) : Prop := 0 ≤ code ∧ code ≤ 50000000 ∧ last ≤ n ∧ if last = 0 then posF l n i = 0 ∧ code = 0 else (code + 1) * 2 ^ (n - last) = posF l n i
theorem last_start (l : List Int) : Last l 1 0 0 0 := ⟨by omega, by omega, by omega, by rw [if_pos rfl]; exact ⟨posF_one l, rfl⟩⟩
theorem last_skip {l : List Int} {n i : Nat} {code : Int} {last : Nat} (h : Last l n i code last) (hn : n < 16) (hi : i < l.length) (hne : nth l i ≠ n) : Last l n (i + 1) code last := by
  obtain ⟨h1, h2, h3, h4⟩ := h
  refine ⟨h1, h2, h3, ?_⟩
  rw [posF_skip l n i hn hi hne]; exact h4
theorem last_step {l : List Int} {n i : Nat} (hl : l.length ≤ 288) (hn : n < 16) (h1 : 1 ≤ n) (hi : i < l.length) (h : nth l i = n) : Last l n (i + 1) (codeI l i) n := by
  rw [posF_code l n i h]
  have := posF_bd l hl n i hn
  refine ⟨this.1, this.2, Nat.le_refl _, ?_⟩
  rw [if_neg (by omega), posF_step l n i hn h1 hi h, Nat.sub_self]; simp
theorem last_next {l : List Int} {n : Nat} {code : Int} {last : Nat} (h : Last l n l.length code last) (hn : n < 15) : Last l (n + 1) 0 code last := by
  obtain ⟨h1, h2, h3, h4⟩ := h
  refine ⟨h1, h2, by omega, ?_⟩
  have hp := (posF_next l n (by omega)).resolve_right (by omega)
  split at h4
  · rename_i h0
    rw [if_pos h0, hp]; exact ⟨by omega, h4.2⟩
  · rename_i h0
    rw [if_neg h0, hp, ← h4, show n + 1 - last = (n - last) + 1 by omega, Int.pow_succ]
    rw [← Int.mul_assoc]; omega
theorem last_code {l : List Int} {n i : Nat} {code : Int} {last : Nat} (h : Last l n i code last) (hx : nth l i = n) (h0 : last ≠ 0) : (code + 1) * 2 ^ (n - last) = codeI l i := by
  rw [posF_code l n i hx]
  have := h.2.2.2
  rwa [if_neg h0] at this
theorem last_code0 {l : List Int} {n i : Nat} {code : Int} {last : Nat} (h : Last l n i code last) (hx : nth l i = n) (h0 : last = 0) : code = codeI l i := by
  rw [posF_code l n i hx]
  have := h.2.2.2
  rw [if_pos h0] at this
  omega
end Go.Proofs.YtcblibefmclloaaDoor

/- What a decoder holds: plain numbers. -/
set_option linter.unusedVariables false
set_option linter.unusedSimpArgs false
namespace Go.Proofs.YtcblibefmclloaaDoor
/-- How many of the first have this length. -/
def cntN (l : List Int) (n i : Nat) : Int := nth (lenCnt (l.take i)) n
theorem cntN_zero (l : List Int) (n : Nat) (hn : n < 16) : cntN l n 0 = 0 := by
  unfold cntN; rw [List.take_zero]; unfold lenCnt; rw [cntF_nth _ _ _ hn]; simp
theorem cntN_all (l : List Int) (n : Nat) : cntN l n l.length = nth (lenCnt l) n := by unfold cntN; rw [List.take_length]
theorem cntN_skip (l : List Int) (n i : Nat) (hn : n < 16) (hi : i < l.length) (h : nth l i ≠ n) : cntN l n (i + 1) = cntN l n i := by
  have := posF_skip l n i hn hi h
  unfold posF at this
  unfold cntN; omega
theorem cntN_step (l : List Int) (n i : Nat) (hn : n < 16) (h1 : 1 ≤ n) (hi : i < l.length) (h : nth l i = n) : cntN l n (i + 1) = cntN l n i + 1 := by
  have := posF_step l n i hn h1 hi h
  unfold posF at this
  unfold cntN; omega
theorem cntN_nn (l : List Int) (n i : Nat) (hn : n < 16) : 0 ≤ cntN l n i := (lenCnt_bd (l.take i) n hn).1
/-- The symbols of a length among the first. -/
def symsOf (l : List Int) (n : Nat) : Nat → List Int
  | 0 => []
  | i + 1 => symsOf l n i ++ (if nth l i = n then [(i : Int)] else [])
theorem symsOf_skip (l : List Int) (n i : Nat) (h : nth l i ≠ n) : symsOf l n (i + 1) = symsOf l n i := by simp [symsOf, h]
theorem symsOf_step (l : List Int) (n i : Nat) (h : nth l i = n) : symsOf l n (i + 1) = symsOf l n i ++ [(i : Int)] := by simp [symsOf, h]
theorem symsOf_len (l : List Int) (n : Nat) : ∀ i, (symsOf l n i).length ≤ i
  | 0 => by simp [symsOf]
  | i + 1 => by
    have := symsOf_len l n i
    unfold symsOf
    rw [List.length_append]
    split <;> simp <;> omega
theorem symsOf_cnt (l : List Int) (n : Nat) (hn : n < 16) (h1 : 1 ≤ n) : ∀ i, i ≤ l.length → ((symsOf l n i).length : Int) = cntN l n i
  | 0, _ => by rw [cntN_zero l n hn]; rfl
  | i + 1, hi => by
    have := symsOf_cnt l n hn h1 i (by omega)
    by_cases h : nth l i = n
    · rw [symsOf_step l n i h, cntN_step l n i hn h1 (by omega) h, List.length_append]; simp; omega
    · rw [symsOf_skip l n i h, cntN_skip l n i hn (by omega) h]; exact this
theorem nth_append_left (xs ys : List Int) (k : Nat) (h : k < xs.length) : nth (xs ++ ys) k = nth xs k := by simp [nth, List.getD, List.getElem?_append_left h]
theorem nth_append_right (xs ys : List Int) (k : Nat) : nth (xs ++ ys) (xs.length + k) = nth ys k := by simp [nth, List.getD, List.getElem?_append_right]
/-- Which symbol stands at a place. -/
theorem symsOf_at (l : List Int) (n : Nat) (hn : n < 16) (h1 : 1 ≤ n) : ∀ i k, i ≤ l.length → k < (symsOf l n i).length → ∃ j, j < i ∧ nth (symsOf l n i) k = (j : Int) ∧ nth l j = n ∧ cntN l n j = k
  | 0, k, _, hk => by simp [symsOf] at hk
  | i + 1, k, hi, hk => by
    by_cases h : nth l i = n
    · rw [symsOf_step l n i h] at hk ⊢
      by_cases e : k < (symsOf l n i).length
      · obtain ⟨j, a, b, c, d⟩ := symsOf_at l n hn h1 i k (by omega) e
        exact ⟨j, by omega, by rw [nth_append_left _ _ _ e]; exact b, c, d⟩
      · have hk' : k = (symsOf l n i).length := by rw [List.length_append] at hk; simp at hk; omega
        refine ⟨i, by omega, ?_, h, ?_⟩
        · have := nth_append_right (symsOf l n i) [(i : Int)] 0
          rw [Nat.add_zero, ← hk'] at this
          rw [this]; rfl
        · rw [hk']; exact (symsOf_cnt l n hn h1 i (by omega)).symm
    · rw [symsOf_skip l n i h] at hk ⊢
      obtain ⟨j, a, b, c, d⟩ := symsOf_at l n hn h1 i k (by omega) hk
      exact ⟨j, by omega, b, c, d⟩
/-- All symbols of the lengths before. -/
def symsB (l : List Int) : Nat → List Int
  | 0 => []
  | n + 1 => symsB l n ++ (if n = 0 then [] else symsOf l n l.length)
theorem symsB_one (l : List Int) : symsB l 1 = [] := by simp [symsB]
theorem symsB_next (l : List Int) (n : Nat) (h : 1 ≤ n) : symsB l (n + 1) = symsB l n ++ symsOf l n l.length := by
  rw [symsB, if_neg (by omega)]
theorem symsB_len (l : List Int) : ∀ n, (symsB l n).length ≤ n * l.length
  | 0 => by simp [symsB]
  | n + 1 => by
    have h1 := symsB_len l n
    have h2 := symsOf_len l n l.length
    rw [symsB, List.length_append, Nat.add_mul]
    split <;> simp <;> omega
theorem symsB_split (l : List Int) (n : Nat) (h : 1 ≤ n) : ∀ d, ∃ r, symsB l (n + 1 + d) = symsB l n ++ (symsOf l n l.length ++ r)
  | 0 => ⟨[], by rw [Nat.add_zero, symsB_next l n h, List.append_nil]⟩
  | d + 1 => by
    obtain ⟨r, hr⟩ := symsB_split l n h d
    exact ⟨r ++ symsOf l (n + 1 + d) l.length, by rw [show n + 1 + (d + 1) = (n + 1 + d) + 1 by omega, symsB_next l _ (by omega), hr]; simp only [List.append_assoc]⟩
/-- The symbol that a code says. -/
theorem symsB_at (l : List Int) (n : Nat) (hn : n < 16) (h1 : 1 ≤ n) (k : Nat) (hk : (k : Int) < nth (lenCnt l) n) :
    (symsB l n).length + k < (symsB l 16).length ∧ ∃ j, j < l.length ∧ nth (symsB l 16) ((symsB l n).length + k) = (j : Int) ∧ nth l j = n ∧ codeI l j = lowF (lenCnt l) n + k := by
  have hc := symsOf_cnt l n hn h1 l.length (Nat.le_refl _)
  rw [cntN_all] at hc
  obtain ⟨r, hr⟩ := symsB_split l n h1 (15 - n)
  rw [show n + 1 + (15 - n) = 16 by omega] at hr
  have hk2 : k < (symsOf l n l.length).length := by omega
  obtain ⟨j, a, b, c, d⟩ := symsOf_at l n hn h1 l.length k (Nat.le_refl _) hk2
  refine ⟨by rw [hr]; simp; omega, j, a, ?_, c, ?_⟩
  · rw [hr, nth_append_right, nth_append_left _ _ _ hk2]; exact b
  · rw [posF_code l n j c]; unfold posF; unfold cntN at d; rw [d]
/-- Where each length's symbols begin. -/
def atL (l : List Int) (n : Nat) : List Int := (List.range 16).map fun m => if 1 ≤ m ∧ m < n then ((symsB l m).length : Int) else 0
theorem atL_len (l : List Int) (n : Nat) : (atL l n).length = 16 := by simp [atL]
theorem atL_one (l : List Int) : atL l 1 = List.replicate 16 0 := by
  refine List.ext_getElem (by simp [atL]) fun j h1 h2 => ?_
  simp only [atL, List.getElem_map, List.getElem_range, List.getElem_replicate]
  rw [if_neg (by omega)]
theorem atL_next (l : List Int) (n : Nat) (h1 : 1 ≤ n) (hn : n < 16) : atL l (n + 1) = (atL l n).set n ((symsB l n).length : Int) := by
  refine List.ext_getElem (by simp [atL]) fun j h1 h2 => ?_
  rw [List.getElem_set]
  simp only [atL, List.getElem_map, List.getElem_range]
  by_cases e : n = j
  · subst e; rw [if_pos rfl, if_pos (by omega)]
  · rw [if_neg e]
    by_cases e2 : 1 ≤ j ∧ j < n
    · rw [if_pos (by omega), if_pos e2]
    · rw [if_neg (by omega), if_neg e2]
theorem atL_at (l : List Int) (n : Nat) (h1 : 1 ≤ n) (hn : n < 16) : nth (atL l 16) n = ((symsB l n).length : Int) := by
  unfold atL; rw [show nth ((List.range 16).map fun m => if 1 ≤ m ∧ m < 16 then ((symsB l m).length : Int) else 0) n = (fun m => if 1 ≤ m ∧ m < 16 then ((symsB l m).length : Int) else 0) n by simp [nth, List.getD, hn]]
  simp only []
  rw [if_pos ⟨h1, hn⟩]
/-- The longest length before. -/
def longN (l : List Int) : Nat → Nat
  | 0 => 0
  | n + 1 => if 1 ≤ n ∧ 0 < nth (lenCnt l) n then n else longN l n
def longA (l : List Int) (n i : Nat) : Nat := if 0 < cntN l n i then n else longN l n
theorem longN_one (l : List Int) : longN l 1 = 0 := by simp [longN]
theorem longA_zero (l : List Int) (n : Nat) (hn : n < 16) : longA l n 0 = longN l n := by unfold longA; rw [cntN_zero l n hn, if_neg (by omega)]
theorem longA_all (l : List Int) (n : Nat) (h1 : 1 ≤ n) : longA l n l.length = longN l (n + 1) := by
  unfold longA
  rw [cntN_all, longN]
  by_cases h : 0 < nth (lenCnt l) n
  · rw [if_pos h, if_pos ⟨h1, h⟩]
  · rw [if_neg h, if_neg (fun h' => h h'.2)]
theorem longA_skip (l : List Int) (n i : Nat) (hn : n < 16) (hi : i < l.length) (h : nth l i ≠ n) : longA l n (i + 1) = longA l n i := by
  unfold longA; rw [cntN_skip l n i hn hi h]
theorem longA_step (l : List Int) (n i : Nat) (hn : n < 16) (h1 : 1 ≤ n) (hi : i < l.length) (h : nth l i = n) : longA l n (i + 1) = n := by
  unfold longA; rw [cntN_step l n i hn h1 hi h, if_pos (by have := cntN_nn l n i hn; omega)]
theorem longN_le (l : List Int) : ∀ n, longN l n < n ∨ n = 0
  | 0 => .inr rfl
  | n + 1 => by
    left
    rw [longN]
    split
    · omega
    · have := longN_le l n
      rcases this with h | h
      · omega
      · subst h; simp [longN]
theorem longN_top (l : List Int) : ∀ n m, longN l n < m → m < n → nth (lenCnt l) m ≤ 0 ∨ m = 0
  | 0, m, _, h => by omega
  | n + 1, m, h1, h2 => by
    rw [longN] at h1
    split at h1
    · omega
    · rename_i h3
      by_cases e : m = n
      · subst e
        by_cases h0 : m = 0
        · exact .inr h0
        · left; omega
      · exact longN_top l n m h1 (by omega)
theorem longN_has (l : List Int) : ∀ n, longN l n = 0 ∨ 0 < nth (lenCnt l) (longN l n)
  | 0 => .inl rfl
  | n + 1 => by
    rw [longN]
    split
    · rename_i h; exact .inr h.2
    · exact longN_has l n
end Go.Proofs.YtcblibefmclloaaDoor

/- slices.Grow of no slice, appends of whole numbers. -/
set_option linter.unusedVariables false
set_option linter.unusedSimpArgs false
namespace Go.Proofs.YtcblibefmclloaaDoor
open Go.RowKit
theorem ints_one2 (k : IntKind) (xs : List Int) : ∀ v ∈ ints k xs, v.oneCell' = true := by
  intro u hu; simp only [ints, List.mem_map] at hu; obtain ⟨x, _, rfl⟩ := hu; rfl
theorem own_lo {w : World} {base : Nat} {e : TypeId} {size n : Nat} {v : Value} {xs : List Value} (h : w.ownsRow base e size v n xs) (k : Nat) (hk : v.ownBlock = some k) : base ≤ k := by
  rcases h.2 with ⟨rfl, _⟩ | ⟨g, cap, cur, rfl, hb, _⟩
  · simp [Value.ownBlock] at hk
  · have : g = k := by simpa [Value.ownBlock] using hk
    omega
theorem own_hi {w : World} {base : Nat} {e : TypeId} {size n : Nat} {v : Value} {xs : List Value} (h : w.ownsRow base e size v n xs) (k : Nat) (hk : v.ownBlock = some k) : k < w.heap.size := by
  rcases h.2 with ⟨rfl, _⟩ | ⟨g, cap, cur, rfl, hb, hh, _⟩
  · simp [Value.ownBlock] at hk
  · have : g = k := by simpa [Value.ownBlock] using hk
    subst this
    exact (Array.getElem?_eq_some_iff.1 hh).1
/-- 's = append(s, ys...)' of numbers, whatever slice the source is. -/
theorem app_intsG {ops : Array Oper} {rest : List Oper} {o : Oper} {a : Act} {Q : Exit → Act → World → Prop} {w : World} (hgd : o.guard = none) (s x : Operand)
    (ho : o.op = .call { callee := .builtin .append, args := #[s, x], argTypes := #[22, 22] })
    (base : Nat) (v : Value) (n : Nat) (xs : List Int) (hs : a.eval s = v) (hown : w.ownsRow base 3 1 v n (ints .i64 xs))
    (A : Option Addr) (m c : Nat) (ys : List Int) (hx : a.eval x = .slice A m c) (hy : RI .i64 w A m ys) (hnil : A = none → m = 0 ∧ c = 0) (hpl : ∀ ad, A = some ad → ∃ b o, ad = ⟨b, o, none⟩)
    (hn : n + m ≤ 8000000000) (hbase : base ≤ w.heap.size)
    (h : ∀ v' w', w'.ownsRow base 3 1 v' (n + m) (ints .i64 (xs ++ ys)) → w.grownBy w' v.ownBlock → wpList Tryd.prog ops Q rest (a.put o.dst v') w') : wpList Tryd.prog ops Q (o :: rest) a w := by
  obtain ⟨i0, hi, hz0, hz1, hz2⟩ := info_parts info_int
  cases A with
  | none =>
    obtain ⟨rfl, rfl⟩ := hnil rfl
    obtain rfl : ys = [] := List.eq_nil_of_length_eq_zero hy.len
    refine wpList_append_own_none hgd s x 22 ho base 3 i0 1 Tryd.underlying22 hi v n (ints .i64 xs) hs hown hx ?_
    exact h v w (by simpa using hown) ⟨rfl, rfl, rfl, Nat.le_refl _, fun _ _ _ => rfl⟩
  | some ad =>
    obtain ⟨b, of, rfl⟩ := hpl ad rfl
    refine wpList_append_own _ hgd s x 22 ho base 3 i0 (.int .i64 0) 1 8 Tryd.underlying22 hi hz0 hz1 hz2 rfl (by decide) v n (ints .i64 xs) hs hown ⟨b, of, none⟩ m c (ints .i64 ys) hx (by simp [ints, hy.len]) ?_ (ints_one2 _ _) (by unfold maxLen; omega) (by omega) hbase ?_
    · intro j u hu
      have hj : j < m := by have := (List.getElem?_eq_some_iff.1 hu).1; have := hy.len; simp [ints] at *; omega
      rw [add_plain2]
      have hc := hy.cell b of rfl j hj
      rw [hc, ← hu, ints_getElem?]
      simp [nth, List.getD, show j < ys.length by have := hy.len; omega]
    · intro v' w' h2 h3 _
      have e : ints .i64 (xs ++ ys) = ints .i64 xs ++ ints .i64 ys := by simp [ints]
      rw [e] at h
      exact h v' w' h2 h3
theorem grow_run (w : World) (n : Nat) (h0 : 0 < n) (hn : n ≤ 4000000000) : ∃ c w1, (∀ ty, (Builtin.append_ #[22, 3] ty #[.slice none 0 0, .int .i64 n]).run Tryd.prog w = .ok (.slice (some ⟨w.heap.size, 0, none⟩) n c) w1) ∧
    (∀ base, base ≤ w.heap.size → w1.ownsRow base 3 1 (.slice (some ⟨w.heap.size, 0, none⟩) 0 c) 0 []) ∧ n ≤ c ∧ c ≤ 9223372036854775807 ∧ Below w.heap.size w w1 := by
  obtain ⟨i0, hi, hz0, hz1, hz2⟩ := info_parts info_int
  have hr := fun ty => Lib.run_append_grow_zeros w 22 3 ty 3 i0 (.int .i64 0) .i64 .i64 Tryd.underlying22 Tryd.underlying3 hi hz0 none 0 0 [] (run_firstCells_none w.drew i0.size 0 0 0) n h0 (by rw [hz1]; decide) (by omega) (by omega) (by rw [hz2]; omega) (by rw [hz2]; exact growslice_fits (by omega) (by omega))
  simp only [Nat.zero_add] at hr
  have hge := grownCap_ge w n 0 3
  have hcm := grownCap_le_maxLen w n 0 3 (by unfold maxLen; omega)
  refine ⟨_, _, hr, fun base hb => ?_, hge, by unfold maxLen at hcm; exact hcm, ?_⟩
  · refine ⟨rfl, .inr ⟨w.heap.size, _, _, rfl, hb, heap_alloc_new w.drew _, Nat.zero_le _, hcm, ?_, rfl⟩⟩
    simp [size_zeroCells, Value.cells]
    omega
  · exact ((Below.refl _ _).drew).alloc (Nat.le_refl _) _
/-- An append, its run being known. -/
theorem wpList_append_run {ops : Array Oper} {rest : List Oper} {o : Oper} {a : Act} {Q : Exit → Act → World → Prop} {w w1 : World} (hgd : o.guard = none) (s x : Operand) (t ti : TypeId)
    (ho : o.op = .call { callee := .builtin .append, args := #[s, x], argTypes := #[t, ti] }) (u y v : Value) (hs : a.eval s = u) (hx : a.eval x = y)
    (hrun : ∀ ty, (Builtin.append_ #[t, ti] ty #[u, y]).run Tryd.prog w = .ok v w1) (h : wpList Tryd.prog ops Q rest (a.put o.dst v) w1) : wpList Tryd.prog ops Q (o :: rest) a w := by
  refine wpList_plain hgd fun K hK => ?_
  unfold Oper.wp
  simp [execOp, ho, resolve, invoke, builtin, hs, hx, hrun, Result.andThen]
  exact hK _ _ h
set_option maxRecDepth 100000 in
set_option maxHeartbeats 1000000 in
theorem grow_calls' (w : World) (A : Option Addr) (hA : A = none) (n : Nat) (hn : n ≤ 4000000000) :
    Calls Tryd.prog 96 #[.slice A 0 0, .int .i64 n] w fun e w' => ∃ v, e = .returned v ∧ (∀ base, base ≤ w.heap.size → w'.ownsRow base 3 1 v 0 []) ∧ Below w.heap.size w w' := by
  have e0 : decide ((n : Int) < 0) = false := by simp
  have HA := Lib.hid hA
  clear hA
  by_cases h0 : 0 < n
  · obtain ⟨c, w1, hr, ho, hc, hc2, hb⟩ := grow_run w n h0 hn
    have e1 : decide ((0 : Int) < n) = true := by simp; omega
    have HO := Lib.hid ho
    have HB := Lib.hid hb
    have HR := Lib.hid hr
    clear ho hb hr
    go_enter Tryd.func96, Tryd.ntmps96
    go_wp2_with (with_reducible refine wpList_append_run rfl (.tmp 20) (.tmp 21) _ _ rfl (.slice A 0 0) (.int .i64 n) _ rfl rfl (by rw [HA.out]; exact HR.out) ?_)
    go_wp2
    go_ret
    exact ⟨_, rfl, HO.out, HB.out⟩
  · obtain rfl : n = 0 := by omega
    go_enter Tryd.func96, Tryd.ntmps96
    go_wp2
    go_ret
    exact ⟨_, rfl, fun base _ => by rw [HA.out]; exact World.ownsRow_nil _ _ _ _, Below.refl _ _⟩
theorem grow_calls (w : World) (n : Nat) (hn : n ≤ 4000000000) :
    Calls Tryd.prog 96 #[.slice none 0 0, .int .i64 n] w fun e w' => ∃ v, e = .returned v ∧ (∀ base, base ≤ w.heap.size → w'.ownsRow base 3 1 v 0 []) ∧ Below w.heap.size w w' := grow_calls' w none rfl n hn
end Go.Proofs.YtcblibefmclloaaDoor

/- A decoder in memory. -/
set_option linter.unusedVariables false
set_option linter.unusedSimpArgs false
namespace Go.Proofs.YtcblibefmclloaaDoor
open Go.RowKit
def setL (cs : List Value) : Nat → List Value → List Value
  | _, [] => cs
  | o, v :: r => setL (cs.set o v) (o + 1) r
theorem setL_mid : ∀ (vs a old b : List Value), old.length = vs.length → setL (a ++ (old ++ b)) a.length vs = a ++ (vs ++ b)
  | [], a, old, b, h => by
    obtain rfl := List.eq_nil_of_length_eq_zero (by simpa using h)
    rfl
  | v :: r, a, [], b, h => by simp at h
  | v :: r, a, x :: old, b, h => by
    have e : (a ++ (x :: old ++ b)).set a.length v = (a ++ [v]) ++ (old ++ b) := by simp
    rw [setL, e]
    have := setL_mid r (a ++ [v]) old b (by simpa using h)
    rw [show (a ++ [v]).length = a.length + 1 by simp] at this
    rw [this]; simp
theorem Blk.there {w : World} {g : Nat} {t : TypeId} {cs : List Value} (h : Blk w g t cs) (o n : Nat) (ho : o + n ≤ cs.length) : w.there g o n := fun j hj => by
  rw [h.cell]
  refine ⟨?_, h.frozen _⟩
  rw [List.getElem?_eq_getElem (by omega)]; rfl
theorem Blk.setCells {g : Nat} {t : TypeId} : ∀ (vs : List Value) (w : World) (cs : List Value) (o : Nat), Blk w g t cs → Blk (w.setCells g o vs) g t (setL cs o vs)
  | [], w, cs, o, h => h
  | v :: r, w, cs, o, h => by
    rw [World.setCells, setL]
    exact Blk.setCells r _ _ _ (h.set o v)
theorem Keeps.setCells {S : List Nat} {w0 : World} {g : Nat} (hp : g ∈ S ∨ w0.heap.size ≤ g) : ∀ (vs : List Value) (w : World) (o : Nat), Keeps S w0 w → Keeps S w0 (w.setCells g o vs)
  | [], w, o, h => h
  | v :: r, w, o, h => by
    rw [World.setCells]
    exact Keeps.setCells hp r _ _ (h.setCell (p := ⟨g, o, none⟩) hp v)
/-- A decoder's cells. -/
def dcells (cd ct az : List Int) (v : Value) (L : Int) : List Value := ints .i64 cd ++ (ints .i64 ct ++ (ints .i64 az ++ [v, .int .i64 L]))
def DB (w : World) (g : Nat) (cd ct az : List Int) (v : Value) (L : Int) : Prop := cd.length = 16 ∧ ct.length = 16 ∧ az.length = 16 ∧ Blk w g 149 (dcells cd ct az v L)
theorem DB.lt {w : World} {g : Nat} {cd ct az : List Int} {v : Value} {L : Int} (h : DB w g cd ct az v L) : g < w.heap.size := h.2.2.2.lt
theorem DB.keeps {S : List Nat} {w w' : World} {g : Nat} {cd ct az : List Int} {v : Value} {L : Int} (h : DB w g cd ct az v L) (hk : Keeps S w w') (hn : g ∉ S) : DB w' g cd ct az v L :=
  ⟨h.1, h.2.1, h.2.2.1, h.2.2.2.keeps hk hn⟩
theorem DB.code {w : World} {g : Nat} {cd ct az : List Int} {v : Value} {L : Int} (h : DB w g cd ct az v L) {j : Nat} (hj : j < 16) : w.cell? ⟨g, j, none⟩ = some (.int .i64 (nth cd j)) := by
  obtain ⟨h1, h2, h3, h4⟩ := h
  rw [h4.cell, dcells, List.getElem?_append_left (by simp [ints]; omega), ints_getElem?, nth_lt (by omega), List.getElem?_eq_getElem (by omega)]; rfl
theorem DB.count {w : World} {g : Nat} {cd ct az : List Int} {v : Value} {L : Int} (h : DB w g cd ct az v L) {j : Nat} (hj : j < 16) : w.cell? ⟨g, 16 + j, none⟩ = some (.int .i64 (nth ct j)) := by
  obtain ⟨h1, h2, h3, h4⟩ := h
  have e : (ints .i64 cd).length = 16 := by simp [ints, h1]
  rw [h4.cell, dcells, List.getElem?_append_right (by omega), e, show 16 + j - 16 = j by omega, List.getElem?_append_left (by simp [ints]; omega), ints_getElem?, nth_lt (by omega), List.getElem?_eq_getElem (by omega)]; rfl
theorem DB.at {w : World} {g : Nat} {cd ct az : List Int} {v : Value} {L : Int} (h : DB w g cd ct az v L) {j : Nat} (hj : j < 16) : w.cell? ⟨g, 32 + j, none⟩ = some (.int .i64 (nth az j)) := by
  obtain ⟨h1, h2, h3, h4⟩ := h
  have e : (ints .i64 cd).length = 16 := by simp [ints, h1]
  have e2 : (ints .i64 ct).length = 16 := by simp [ints, h2]
  rw [h4.cell, dcells, List.getElem?_append_right (by omega), e, List.getElem?_append_right (by omega), e2, show 32 + j - 16 - 16 = j by omega, List.getElem?_append_left (by simp [ints]; omega), ints_getElem?, nth_lt (by omega), List.getElem?_eq_getElem (by omega)]; rfl
theorem DB.syms {w : World} {g : Nat} {cd ct az : List Int} {v : Value} {L : Int} (h : DB w g cd ct az v L) : w.cell? ⟨g, 48, none⟩ = some v ∧ w.cell? ⟨g, 49, none⟩ = some (.int .i64 L) := by
  obtain ⟨h1, h2, h3, h4⟩ := h
  have e : (ints .i64 cd).length = 16 := by simp [ints, h1]
  have e2 : (ints .i64 ct).length = 16 := by simp [ints, h2]
  have e3 : (ints .i64 az).length = 16 := by simp [ints, h3]
  constructor
  · rw [h4.cell, dcells, List.getElem?_append_right (by omega), e, List.getElem?_append_right (by omega), e2, List.getElem?_append_right (by omega), e3]; rfl
  · rw [h4.cell, dcells, List.getElem?_append_right (by omega), e, List.getElem?_append_right (by omega), e2, List.getElem?_append_right (by omega), e3]; rfl
theorem DB.free {w : World} {g : Nat} {cd ct az : List Int} {v : Value} {L : Int} (h : DB w g cd ct az v L) (j : Nat) : w.frozen? ⟨g, j, none⟩ = false := h.2.2.2.frozen j
theorem DB.setAt {w : World} {g : Nat} {cd ct az : List Int} {v : Value} {L : Int} (h : DB w g cd ct az v L) {j : Nat} (hj : j < 16) (x : Int) : DB (w.setCell ⟨g, 32 + j, none⟩ (.int .i64 x)) g cd ct (az.set j x) v L := by
  obtain ⟨h1, h2, h3, h4⟩ := h
  have e : (ints .i64 cd).length = 16 := by simp [ints, h1]
  have e2 : (ints .i64 ct).length = 16 := by simp [ints, h2]
  have e3 : (ints .i64 az).length = 16 := by simp [ints, h3]
  refine ⟨h1, h2, by simp [h3], ?_⟩
  have := h4.set (32 + j) (.int .i64 x)
  unfold dcells at this ⊢
  rw [List.set_append_right _ _ (by omega), e, List.set_append_right _ _ (by omega), e2, show 32 + j - 16 - 16 = j by omega, List.set_append_left _ _ (by omega)] at this
  simpa [ints, List.map_set] using this
theorem DB.setSyms {w : World} {g : Nat} {cd ct az : List Int} {v : Value} {L : Int} (h : DB w g cd ct az v L) (v' : Value) : DB (w.setCell ⟨g, 48, none⟩ v') g cd ct az v' L := by
  obtain ⟨h1, h2, h3, h4⟩ := h
  have e : (ints .i64 cd).length = 16 := by simp [ints, h1]
  have e2 : (ints .i64 ct).length = 16 := by simp [ints, h2]
  have e3 : (ints .i64 az).length = 16 := by simp [ints, h3]
  refine ⟨h1, h2, h3, ?_⟩
  have := h4.set 48 v'
  unfold dcells at this ⊢
  rw [List.set_append_right _ _ (by omega), e, List.set_append_right _ _ (by omega), e2, List.set_append_right _ _ (by omega), e3] at this
  exact this
theorem DB.setLong {w : World} {g : Nat} {cd ct az : List Int} {v : Value} {L : Int} (h : DB w g cd ct az v L) (x : Int) : DB (w.setCell ⟨g, 49, none⟩ (.int .i64 x)) g cd ct az v x := by
  obtain ⟨h1, h2, h3, h4⟩ := h
  have e : (ints .i64 cd).length = 16 := by simp [ints, h1]
  have e2 : (ints .i64 ct).length = 16 := by simp [ints, h2]
  have e3 : (ints .i64 az).length = 16 := by simp [ints, h3]
  refine ⟨h1, h2, h3, ?_⟩
  have := h4.set 49 (.int .i64 x)
  unfold dcells at this ⊢
  rw [List.set_append_right _ _ (by omega), e, List.set_append_right _ _ (by omega), e2, List.set_append_right _ _ (by omega), e3] at this
  exact this
/-- A new decoder's rows are laid. -/
theorem DB.start {w : World} {g : Nat} {Z : List Value} (hZ : Z = dcells (List.replicate 16 0) (List.replicate 16 0) (List.replicate 16 0) (.slice none 0 0) 0) (h : Blk w g 149 Z) (cd ct : List Int) (h1 : cd.length = 16) (h2 : ct.length = 16) :
    w.there g 0 (ints .i64 cd).toArray.size ∧ (w.setCells g 0 (ints .i64 cd)).there g 16 (ints .i64 ct).toArray.size ∧ DB ((w.setCells g 0 (ints .i64 cd)).setCells g 16 (ints .i64 ct)) g cd ct (List.replicate 16 0) (.slice none 0 0) 0 := by
  subst hZ
  have e : (ints .i64 cd).length = 16 := by simp [ints, h1]
  have e2 : (ints .i64 ct).length = 16 := by simp [ints, h2]
  have a := Blk.setCells (ints .i64 cd) w _ 0 h
  have b := setL_mid (ints .i64 cd) [] (ints .i64 (List.replicate 16 0)) (ints .i64 (List.replicate 16 0) ++ (ints .i64 (List.replicate 16 0) ++ [.slice none 0 0, .int .i64 0])) (by rw [e]; simp [ints])
  rw [show setL (dcells (List.replicate 16 0) (List.replicate 16 0) (List.replicate 16 0) (.slice none 0 0) 0) 0 (ints .i64 cd) = _ from b] at a
  rw [List.nil_append] at a
  have c := Blk.setCells (ints .i64 ct) _ _ 16 a
  have d := setL_mid (ints .i64 ct) (ints .i64 cd) (ints .i64 (List.replicate 16 0)) (ints .i64 (List.replicate 16 0) ++ [.slice none 0 0, .int .i64 0]) (by rw [e2]; simp [ints])
  rw [e] at d
  rw [d] at c
  refine ⟨h.there _ _ ?_, a.there _ _ ?_, h1, h2, by simp, c⟩
  · simp [dcells, ints, h1]
  · simp [ints, h1, h2]
theorem there_append {xs : List Value} {n : Nat} (h : xs.length = n) : xs.toArray.size = n := by simpa using h
end Go.Proofs.YtcblibefmclloaaDoor

set_option linter.unusedVariables false
set_option linter.unusedSimpArgs false
namespace Go.Proofs.YtcblibefmclloaaDoor
open Go.RowKit
/-- A reader of bytes, so many of whose bits are gone. -/
structure Rdr (w : World) (g : Nat) (A : Option Addr) (c : Nat) (bs : List Int) (p : Nat) : Prop where
  blk : Blk w g 93 [.slice A bs.length c, .int .i64 p]
  ri : RI .u8 w A bs.length bs
  off : Off [g] A
  le : p ≤ 8 * bs.length
  byte : ∀ j, 0 ≤ nth bs j ∧ nth bs j ≤ 255
  size : bs.length ≤ 4000000000
theorem Rdr.lt {w : World} {g : Nat} {A : Option Addr} {c : Nat} {bs : List Int} {p : Nat} (h : Rdr w g A c bs p) : g < w.heap.size := h.blk.lt
theorem Rdr.keeps {S : List Nat} {w w' : World} {g : Nat} {A : Option Addr} {c : Nat} {bs : List Int} {p : Nat} (h : Rdr w g A c bs p) (hk : Keeps S w w') (hg : g ∉ S) (ho : Off S A) : Rdr w' g A c bs p :=
  ⟨h.blk.keeps hk hg, h.ri.keeps hk ho, h.off, h.le, h.byte, h.size⟩
theorem Rdr.dr {w w' : World} {g : Nat} {A : Option Addr} {c : Nat} {bs : List Int} {p : Nat} (h : Rdr w g A c bs p) (hk : Keeps [] w w') : Rdr w' g A c bs p := h.keeps hk (by simp) (off_nil _)
/-- The reader further on (or back). -/
theorem Rdr.move {w : World} {g : Nat} {A : Option Addr} {c : Nat} {bs : List Int} {p : Nat} (h : Rdr w g A c bs p) {q : Nat} (hq : q ≤ 8 * bs.length) : Rdr (w.setCell ⟨g, 1, none⟩ (.int .i64 q)) g A c bs q :=
  ⟨h.blk.set 1 (.int .i64 q), h.ri.keeps ((Keeps.refl [g] w).setCell (Or.inl (by simp)) _) h.off, h.off, hq, h.byte, h.size⟩
set_option maxHeartbeats 400000 in
theorem left_calls (w : World) (g : Nat) (A : Option Addr) (c : Nat) (bs : List Int) (p : Nat) (hr : Rdr w g A c bs p) :
    Calls Tryd.prog 29 #[.pointer (some ⟨g, 0, none⟩)] w fun e w' => e = .returned (.int .i64 ((8 * bs.length - p : Nat) : Int)) ∧ Dr w w' := by
  have hb := hr.blk
  have h0 := hb.cell 0
  have h1 := hb.cell 1
  simp only [List.getElem?_cons_zero, List.getElem?_cons_succ] at h0 h1
  have hl := hr.le
  have hs := hr.size
  clear hb hr
  go_enter Tryd.func29, Tryd.ntmps29
  go_wp2
  go_quiet (fail)
  go_wp2
  go_ret
  rw [show ((8 * bs.length - p : Nat) : Int) = 8 * (bs.length : Int) - (p : Int) by omega]
  exact ⟨rfl, _, rfl⟩
set_option maxHeartbeats 400000 in
theorem gone_calls (w : World) (g : Nat) (A : Option Addr) (c : Nat) (bs : List Int) (p : Nat) (hr : Rdr w g A c bs p) :
    Calls Tryd.prog 28 #[.pointer (some ⟨g, 0, none⟩)] w fun e w' => e = .returned (.int .i64 p) ∧ Dr w w' := by
  have hb := hr.blk
  have h1 := hb.cell 1
  simp only [List.getElem?_cons_zero, List.getElem?_cons_succ] at h1
  clear hb hr
  go_enter Tryd.func28, Tryd.ntmps28
  go_wp2
  go_ret
  exact ⟨rfl, 0, rfl⟩
set_option maxHeartbeats 400000 in
theorem back_calls (w : World) (g : Nat) (A : Option Addr) (c : Nat) (bs : List Int) (p n : Nat) (hr : Rdr w g A c bs p) (hn : n ≤ p) :
    Calls Tryd.prog 59 #[.pointer (some ⟨g, 0, none⟩), .int .i64 n] w fun e w' => e = .returned (.int .i64 0) ∧ Rdr w' g A c bs (p - n) ∧ Keeps [g] w w' := by
  have hb := hr.blk
  have h1 := hb.cell 1
  simp only [List.getElem?_cons_zero, List.getElem?_cons_succ] at h1
  have hf := hb.frozen 1
  have hl := hr.le
  have hs := hr.size
  have HR := Lib.hid hr
  clear hb hr
  have e1 : decide ((n : Int) < 0) = false := by simp
  have e2 : decide ((p : Int) < (n : Int)) = false := by simp; omega
  have e3 : IntKind.i64.wrap ((p : Int) - (n : Int)) = (p : Int) - (n : Int) := IntWalk.i64_in _ (by omega)
  go_enter Tryd.func59, Tryd.ntmps59
  have E : Hid ((p : Int) - (n : Int) = ((p - n : Nat) : Int)) := by show _ = _; omega
  go_wp2
  go_ret
  rw [E.out]
  exact ⟨rfl, HR.out.move (by omega), (Keeps.refl _ _).setCell (Or.inl (by simp)) _⟩
theorem back_calls' (w : World) (g : Nat) (A : Option Addr) (c : Nat) (bs : List Int) (p n : Nat) (ni : Int) (hni : ni = n) (hr : Rdr w g A c bs p) (hn : n ≤ p) :
    Calls Tryd.prog 59 #[.pointer (some ⟨g, 0, none⟩), .int .i64 ni] w fun e w' => e = .returned (.int .i64 0) ∧ Rdr w' g A c bs (p - n) ∧ Keeps [g] w w' := by
  subst hni
  exact back_calls w g A c bs p n hr hn
set_option maxHeartbeats 400000 in
theorem take_arg (w : World) (g : Nat) (m : Int) (hm : m < 0 ∨ 32 < m) :
    Calls Tryd.prog 49 #[.pointer (some ⟨g, 0, none⟩), .int .i64 m] w fun e w' => e = .returned (.tuple #[.int .u32 0, .int .i64 1]) ∧ w = w' := by
  rcases hm with h | h
  · have e1 : decide (m < 0) = true := by simpa using h
    go_enter Tryd.func49, Tryd.ntmps49
    go_wp2
    go_ret2
    exact ⟨rfl, rfl⟩
  · have e1 : decide (m < 0) = false := by simp; omega
    have e2 : decide (32 < m) = true := by simpa using h
    go_enter Tryd.func49, Tryd.ntmps49
    go_wp2
    go_ret2
    exact ⟨rfl, rfl⟩
set_option maxHeartbeats 400000 in
theorem take_end (w : World) (g : Nat) (A : Option Addr) (c : Nat) (bs : List Int) (p m : Nat) (hr : Rdr w g A c bs p) (hm : m ≤ 32) (hf : 8 * bs.length < p + m) :
    Calls Tryd.prog 49 #[.pointer (some ⟨g, 0, none⟩), .int .i64 m] w fun e w' => e = .returned (.tuple #[.int .u32 0, .int .i64 10]) ∧ Dr w w' := by
  have e1 : decide ((m : Int) < 0) = false := by simp
  have e2 : decide ((32 : Int) < (m : Int)) = false := by simp; omega
  have HR := Lib.hid hr
  have hl := hr.le
  clear hr
  go_enter Tryd.func49, Tryd.ntmps49
  go_wp2_with fail
  refine (left_calls _ _ _ _ _ _ HR.out).mono ?_
  rintro e w' ⟨rfl, q, rfl⟩
  have e3 : decide (8 * bs.length - p < m) = true := by simp; omega
  go_wp2_with fail
  go_ret2
  exact ⟨rfl, _, rfl⟩
set_option maxHeartbeats 1000000 in
theorem take_calls (w : World) (g : Nat) (A : Option Addr) (c : Nat) (bs : List Int) (p m : Nat) (hr : Rdr w g A c bs p) (hm : m ≤ 32) (hf : p + m ≤ 8 * bs.length) :
    Calls Tryd.prog 49 #[.pointer (some ⟨g, 0, none⟩), .int .i64 m] w fun e w' => e = .returned (.tuple #[.int .u32 (numB bs p m), .int .i64 0]) ∧ Rdr w' g A c bs (p + m) ∧ Keeps [g] w w' := by
  have e1 : decide ((m : Int) < 0) = false := by simp
  have e2 : decide ((32 : Int) < (m : Int)) = false := by simp; omega
  have HR := Lib.hid hr
  have hl := hr.le
  have hsz := hr.size
  clear hr
  go_enter Tryd.func49, Tryd.ntmps49
  go_wp2_with fail
  refine (left_calls _ _ _ _ _ _ HR.out).mono ?_
  rintro e w' ⟨rfl, hd⟩
  have HR1 := Lib.hid (HR.out.dr hd.keeps)
  have HD := Lib.hid hd
  have e3 : decide (8 * bs.length - p < m) = false := by simp; omega
  clear hd HR
  go_wp2_with fail
  clear e1 e2 e3
  go_loopw [6, 7] (fun v6 v7 wr => ∃ h : Nat, h ≤ m ∧ v6 = .int .u64 (numB bs p h) ∧ v7 = .int .i64 h ∧ Hid (Rdr wr g A c bs (p + h)) ∧ Hid (Keeps [g] w' wr)) (fun _ v7 _ => (m - intOf v7).toNat)
  case atStart => exact ⟨0, by omega, rfl, rfl, HR1, Lib.hid (Keeps.refl _ _)⟩
  case round =>
    clear HR1
    obtain ⟨h, hh, rfl, rfl, HR, HK⟩ := hrel
    by_cases hlt : h < m
    · have hb := HR.out.blk
      have hri := HR.out.ri
      have h0 := hb.cell 0
      have h1 := hb.cell 1
      simp only [List.getElem?_cons_zero, List.getElem?_cons_succ] at h0 h1
      have hfz := hb.frozen 1
      obtain ⟨b, o, rfl, hbyte⟩ := hri.at (show (p + h) / 8 < bs.length by omega)
      have hbb := HR.out.byte ((p + h) / 8)
      have hc1 : ((p + h : Nat) : Int) = (p : Int) + (h : Int) := by omega
      rw [hc1] at h1
      clear hb hri hc1
      obtain ⟨k, hk⟩ : ∃ k : Nat, (if 8 - ((p : Int) + h) % 8 < (m : Int) - h then 8 - ((p : Int) + h) % 8 else (m : Int) - h) = (k : Int) := ⟨min (m - h) (8 - (p + h) % 8), by split <;> omega⟩
      have hk1 : 1 ≤ k := by split at hk <;> omega
      have hk8 : (p + h) % 8 + k ≤ 8 := by split at hk <;> omega
      have hkm : h + k ≤ m := by split at hk <;> omega
      have HKK := Lib.hid hk
      have s1 : ((p : Int) + h).toNat = p + h := by omega
      have s2 : (((p : Int) + h) / 8).toNat = (p + h) / 8 := by omega
      have s3 : (0 : Int) ≤ ((p : Int) + h) / 8 := by omega
      have s4 : ((p : Int) + h) / 8 < (bs.length : Int) := by omega
      have s5 : (0 : Int) ≤ ((p : Int) + h) % 8 := by omega
      have s6 : ((p : Int) + h) % 8 < 8 := by omega
      have s7 : (0 : Int) ≤ (p : Int) + h := by omega
      go_upto_region 11 with (fail)
      clear hk
      go_quiet (fail)
      have T := Lib.hid (take_part bs p h k hbb hk8 (by omega))
      go_upto_region 14 with (fail)
      rw [T.out]
      have E : Hid ((p : Int) + h + k = ((p + (h + k) : Nat) : Int)) := by show _ = _; omega
      have e4 : IntKind.i64.wrap ((p : Int) + h + k) = (p : Int) + h + k := IntWalk.i64_in _ (by omega)
      go_wp2_with fail
      go_roundw
      case rel =>
        refine ⟨h + k, hkm, rfl, by go_num, Lib.hid ?_, Lib.hid ?_⟩
        · rw [E.out]; exact (Rdr.dr HR.out (by repeat (first | exact Keeps.refl _ _ | apply Keeps.drewN | apply Keeps.drew))).move (by omega)
        · exact (HK.out.trans (by repeat (first | exact Keeps.refl _ _ | apply Keeps.drewN | apply Keeps.drew))).setCell (Or.inl (by simp)) _
      case measure => simp [intOf]; omega
    · obtain rfl : h = m := by omega
      have E := Lib.hid (num_u32 bs p h hm)
      go_wp2_with fail
      go_ret2
      rw [E.out]
      exact ⟨rfl, HR.out, (HD.out.keeps (S := [g])).trans HK.out⟩
end Go.Proofs.YtcblibefmclloaaDoor

set_option linter.unusedVariables false
set_option linter.unusedSimpArgs false
namespace Go.Proofs.YtcblibefmclloaaDoor
open Go.RowKit
theorem ints_one' (k : IntKind) (xs : List Int) : ∀ v ∈ ints k xs, v.oneCell' = true := by
  intro u hu; simp only [ints, List.mem_map] at hu; obtain ⟨x, _, rfl⟩ := hu; rfl
/-- 's = append(s, ys...)' of bytes, whatever slice the source is. -/
theorem app_bytes {ops : Array Oper} {rest : List Oper} {o : Oper} {a : Act} {Q : Exit → Act → World → Prop} {w : World} (hgd : o.guard = none) (s x : Operand)
    (ho : o.op = .call { callee := .builtin .append, args := #[s, x], argTypes := #[37, 37] })
    (base : Nat) (v : Value) (n : Nat) (xs : List Int) (hs : a.eval s = v) (hown : w.ownsRow base 5 1 v n (ints .u8 xs))
    (A : Option Addr) (m c : Nat) (ys : List Int) (hx : a.eval x = .slice A m c) (hy : RI .u8 w A m ys) (hnil : A = none → m = 0 ∧ c = 0)
    (hn : n + m ≤ 8000000000) (hbase : base ≤ w.heap.size)
    (h : ∀ v' w', w'.ownsRow base 5 1 v' (n + m) (ints .u8 (xs ++ ys)) → w.grownBy w' v.ownBlock → wpList Tryd.prog ops Q rest (a.put o.dst v') w') : wpList Tryd.prog ops Q (o :: rest) a w := by
  obtain ⟨i0, hi, hz0, hz1, hz2⟩ := info_parts info_u8
  cases A with
  | none =>
    obtain ⟨rfl, rfl⟩ := hnil rfl
    obtain rfl : ys = [] := List.eq_nil_of_length_eq_zero hy.len
    refine wpList_append_own_none hgd s x 37 ho base 5 i0 1 Tryd.underlying37 hi v n (ints .u8 xs) hs hown hx ?_
    exact h v w (by simpa using hown) ⟨rfl, rfl, rfl, Nat.le_refl _, fun _ _ _ => rfl⟩
  | some ad =>
    refine wpList_append_own _ hgd s x 37 ho base 5 i0 (.int .u8 0) 1 1 Tryd.underlying37 hi hz0 hz1 hz2 rfl (by decide) v n (ints .u8 xs) hs hown ad m c (ints .u8 ys) hx (by simp [ints, hy.len]) ?_ (ints_one' _ _) (by unfold maxLen; omega) (by omega) hbase ?_
    · intro j u hu
      have hj : j < m := by have := (List.getElem?_eq_some_iff.1 hu).1; have := hy.len; simp [ints] at *; omega
      obtain ⟨b, of, hab⟩ := hy.hd (by omega)
      obtain rfl := Option.some.inj hab
      rw [add_plain2]
      have hc := hy.cell b of rfl j hj
      rw [hc, ← hu, ints_getElem?]
      simp [nth, List.getD, show j < ys.length by have := hy.len; omega]
    · intro v' w' h2 h3 _
      have e : ints .u8 (xs ++ ys) = ints .u8 xs ++ ints .u8 ys := by simp [ints]
      rw [e] at h
      exact h v' w' h2 h3
set_option maxRecDepth 100000 in
set_option maxHeartbeats 1000000 in
theorem more_calls (w : World) (g : Nat) (A : Option Addr) (n c : Nat) (bs : List Int) (hb : Blk w g 93 [.slice none 0 0, .int .i64 0]) (hr : RI .u8 w A n bs) (hnil : A = none → n = 0 ∧ c = 0)
    (hbyte : ∀ j, 0 ≤ nth bs j ∧ nth bs j ≤ 255) (hn : n ≤ 4000000000) :
    Calls Tryd.prog 74 #[.pointer (some ⟨g, 0, none⟩), .slice A n c] w fun e w' => ∃ A' c', e = .returned (.int .i64 0) ∧ Rdr w' g A' c' bs 0 ∧ (∀ a, A' = some a → g < a.block ∧ a.block < w'.heap.size) ∧ Below g w w' := by
  have h0 := hb.cell 0
  simp only [List.getElem?_cons_zero] at h0
  have hf := hb.frozen 0
  have hlt := hb.lt
  have HB := Lib.hid hb
  have HR := Lib.hid hr
  have HN := Lib.hid hnil
  have HBY := Lib.hid hbyte
  clear hb hr hnil hbyte
  go_enter Tryd.func74, Tryd.ntmps74
  go_wp2_with (at_builtin; refine app_bytes rfl (.tmp 11) (.tmp 12) rfl (g + 1) _ _ [] rfl (World.ownsRow_nil _ _ _ _) A n c bs rfl HR.out HN.out (by omega) hlt ?_)
  intro v1 w1 h1 hg1
  have hb1 : Blk w1 g 93 [.slice none 0 0, .int .i64 0] := (hg1.block g hlt (by simp [Value.ownBlock])).trans HB.out
  have c0 := hb1.cell 0
  simp only [List.getElem?_cons_zero] at c0
  have f0 := hb1.frozen 0
  obtain ⟨A1, c1, rfl, hri, hcap, hblk⟩ := own_ri h1
  have HB1 := Lib.hid hb1
  have HRI := Lib.hid hri
  have HBK := Lib.hid hblk
  have HG := Lib.hid hg1
  clear hb1 hri hblk hg1 h1
  go_wp2_with fail
  go_ret
  have hl := HR.out.len
  refine ⟨A1, c1, rfl, ⟨?_, ?_, ?_, by simp, HBY.out, by omega⟩, fun a ha => ⟨(HBK.out a ha).1, by have := (HBK.out a ha).2.1; simpa [World.setCell] using this⟩, ?_⟩
  · rw [hl]; exact HB1.out.set 0 _
  · rw [hl]
    exact HRI.out.keeps ((Keeps.refl [g] w1).setCell (Or.inl (by simp)) _) (fun a ha => by have := (HBK.out a ha).1; simp; omega)
  · intro a ha; have := (HBK.out a ha).1; simp; omega
  · exact ((Below.refl g w).grown HG.out (Nat.le_of_lt hlt) (fun k hk => by simp [Value.ownBlock] at hk)).setCell (p := ⟨g, 0, none⟩) (Nat.le_refl g) _
set_option maxRecDepth 100000 in
set_option maxHeartbeats 1000000 in
theorem newReader_calls (w : World) (A : Option Addr) (n c : Nat) (bs : List Int) (hr : RI .u8 w A n bs) (hnil : A = none → n = 0 ∧ c = 0)
    (hbyte : ∀ j, 0 ≤ nth bs j ∧ nth bs j ≤ 255) (hn : n ≤ 4000000000) :
    Calls Tryd.prog 47 #[.slice A n c] w fun e w' => ∃ g A' c', e = .returned (.pointer (some ⟨g, 0, none⟩)) ∧ Rdr w' g A' c' bs 0 ∧ w.heap.size ≤ g ∧ (∀ a, A' = some a → g < a.block ∧ a.block < w'.heap.size) ∧ Below w.heap.size w w' := by
  have HR := Lib.hid hr
  have HN := Lib.hid hnil
  have HBY := Lib.hid hbyte
  clear hr hnil hbyte
  go_enter Tryd.func47, Tryd.ntmps47
  go_wp2_with fail
  refine (more_calls _ _ _ _ _ bs (blk_new w 93 [.slice none 0 0, .int .i64 0]) (HR.out.keeps ((Keeps.refl _ _).alloc _) (off_nil _)) HN.out HBY.out hn).mono ?_
  rintro e w1 ⟨A1, c1, rfl, hrd, hab, hb⟩
  have HRD := Lib.hid hrd
  have HB := Lib.hid hb
  have HAB := Lib.hid hab
  clear hrd hb hab
  go_wp2_with fail
  go_ret
  exact ⟨_, _, _, rfl, HRD.out, Nat.le_refl _, HAB.out, ((Below.refl _ w).alloc (Nat.le_refl _) _).trans HB.out⟩
end Go.Proofs.YtcblibefmclloaaDoor

set_option linter.unusedVariables false
set_option linter.unusedSimpArgs false
namespace Go.Proofs.YtcblibefmclloaaDoor
open Go.RowKit
/-- The first bits of bytes. -/
def bitsP (bs : List Int) (m : Nat) : List Int := (List.range m).map (bitAt bs)
theorem bitsP_len (bs : List Int) (m : Nat) : (bitsP bs m).length = m := by simp [bitsP]
theorem bitsP_succ (bs : List Int) (m : Nat) : bitsP bs (m + 1) = bitsP bs m ++ [bitAt bs m] := by simp [bitsP, List.range_succ]
theorem bitsP_nth (bs : List Int) (m j : Nat) (h : j < m) : nth (bitsP bs m) j = bitAt bs j := by simp [bitsP, nth, List.getD, h]
theorem ri_one (w : World) (k : IntKind) (t : TypeId) (x : Int) : RI k (w.alloc (.cells #[.int k x] t)) (some ⟨w.heap.size, 0, none⟩) 1 [x] := by
  have := (blk_new w t (ints k [x]))
  have h2 := Blk.ri (xs := [x]) (ys := []) (k := k) (by simpa [ints] using this)
  exact h2
set_option maxRecDepth 100000 in
set_option maxHeartbeats 1000000 in
theorem of_calls (w : World) (A : Option Addr) (n c : Nat) (bs : List Int) (hr : RI .u8 w A n bs) (hbyte : ∀ j, 0 ≤ nth bs j ∧ nth bs j ≤ 255) (hn : n ≤ 10000000) :
    Calls Tryd.prog 27 #[.slice A n c] w fun e w' => ∃ v, e = .returned v ∧ w'.ownsRow w.heap.size 5 1 v (8 * n) (ints .u8 (bitsP bs (8 * n))) ∧ Below w.heap.size w w' := by
  have HR := Lib.hid hr
  have HBY := Lib.hid hbyte
  clear hr hbyte
  go_enter Tryd.func27, Tryd.ntmps27
  go_wp2_with fail
  go_loopw [3, 4] (fun v iv wr => ∃ i : Nat, i ≤ n ∧ iv = .int .i64 i ∧ Hid (wr.ownsRow w.heap.size 5 1 v (8 * i) (ints .u8 (bitsP bs (8 * i)))) ∧ Hid (Below w.heap.size w wr)) (fun _ iv _ => n - (intOf iv).toNat)
  case atStart => exact ⟨0, by omega, rfl, Lib.hid (World.ownsRow_nil _ _ _ _), Lib.hid (Below.refl _ _)⟩
  case round =>
    rename_i v _ _
    obtain ⟨i, hi, rfl, HO, HB⟩ := hrel
    by_cases hlt : i < n
    · obtain ⟨b, o, rfl, hc⟩ := HR.out.at hlt
      have hc := (Keeps.of_below (S := []) HB.out).cell (by simp) hc
      obtain ⟨hb0, hb1⟩ := HBY.out i
      obtain ⟨wm, rfl⟩ : ∃ wm : World, wm = wr := ⟨_, rfl⟩
      go_wp2_with fail
      go_loopw [3, 5, 6] (fun v cv kv wr => ∃ (k : Nat) (x : Int), k ≤ 8 ∧ kv = .int .i64 k ∧ cv = .int .u8 x ∧ 0 ≤ x ∧ x ≤ 255 ∧ Hid (x = nth bs i / 2 ^ k) ∧ Hid (wr.ownsRow w.heap.size 5 1 v (8 * i + k) (ints .u8 (bitsP bs (8 * i + k)))) ∧ Hid (Below w.heap.size w wr)) (fun _ _ kv _ => 8 - (intOf kv).toNat)
      case atStart => exact ⟨0, nth bs i, by omega, rfl, rfl, hb0, hb1, Lib.hid (by simp), HO, HB⟩
      case round =>
        clear HO HB
        obtain ⟨k, x, hk, rfl, rfl, hx0, hx1, HX, HO, HB⟩ := hrel
        by_cases hlk : k < 8
        · have HBIT : Hid (bitAt bs (8 * i + k) = x % 2) := by
            show _ = _
            unfold bitAt
            rw [HX.out, show (8 * i + k) / 8 = i by omega, show (8 * i + k) % 8 = k by omega]
          have hge := HB.out.size
          have e3 : x.tmod 2 = x % 2 := by rw [Int.tmod_eq_emod_of_nonneg hx0]
          have e4 : x % 2 % 256 = x % 2 := by omega
          have HRI : Hid (RI .u8 (wr.alloc (.cells #[.int .u8 (x % 2)] 5)) (some ⟨wr.heap.size, 0, none⟩) 1 [x % 2]) := Lib.hid (ri_one wr _ _ _)
          have HOA := Lib.hid (own_keeps HO.out ((Keeps.refl [] wr).alloc (.cells #[.int .u8 (x % 2)] 5)) (by simp))
          have HBA := Lib.hid (HB.out.alloc hge (.cells #[.int .u8 (x % 2)] 5))
          clear HO HB
          go_wp2_with (at_builtin; refine app_bytes rfl (.tmp 21) (.tmp 24) rfl w.heap.size _ _ _ rfl (by exact HOA.out) _ 1 1 [x % 2] rfl (by exact HRI.out) ?c1 ?c3 ?c4 ?_)
          case c1 => simp
          case c3 => omega
          case c4 => simp; omega
          intro v' w1 hv hg
          have HO1 : Hid (w1.ownsRow w.heap.size 5 1 v' (8 * i + (k + 1)) (ints .u8 (bitsP bs (8 * i + (k + 1))))) := by
            rw [← Nat.add_assoc, bitsP_succ, HBIT.out]; exact hv
          have HB1 := Lib.hid (HBA.out.grown hg (by simp; omega) (fun k hk => (HOA.out.lt k hk).1))
          clear hv hg HOA HBA
          go_wp2_with fail
          go_roundw
          case rel => exact ⟨k + 1, x / 2, by omega, by go_num, rfl, by omega, by omega, Lib.hid (by rw [HX.out, div_two]), HO1, HB1⟩
          case measure => simp [intOf]; omega
        · obtain rfl : k = 8 := by omega
          go_wp2_with fail
          go_roundw
          case rel => exact ⟨i + 1, by omega, by go_num, HO, HB⟩
          case measure => simp [intOf]; omega
    · obtain rfl : i = n := by omega
      go_wp2_with fail
      go_ret
      exact ⟨_, rfl, HO.out, HB.out⟩
end Go.Proofs.YtcblibefmclloaaDoor

set_option linter.unusedVariables false
set_option linter.unusedSimpArgs false
namespace Go.Proofs.YtcblibefmclloaaDoor
open Go.RowKit
theorem own_form' {w : World} {base : Nat} {e : TypeId} {size n : Nat} {v : Value} {xs : List Value} (h : w.ownsRow base e size v n xs) : ∃ A c, v = .slice A n c := by
  rcases h.2 with ⟨rfl, rfl⟩ | ⟨g, cap, cur, rfl, _⟩
  · exact ⟨_, _, rfl⟩
  · exact ⟨_, _, rfl⟩
/-- A decoder under way. -/
def DSt (w : World) (g : Nat) (l : List Int) (a : Nat) (S : List Int) (L : Int) : Prop :=
  ∃ v, DB w g (lowL (lenCnt l) 16) (lenCnt l) (atL l a) v L ∧ w.ownsRow (g + 1) 3 1 v S.length (ints .i64 S)
/-- A decoder of a list of lengths, all of it from a block on. -/
def Dec (w : World) (g : Nat) (l : List Int) : Prop := DSt w g l 16 (symsB l 16) (longN l 16)
theorem DSt.keeps {w w' : World} {g a : Nat} {l S : List Int} {L : Int} {K : List Nat} (h : DSt w g l a S L) (hk : Keeps K w w') (hK : ∀ x ∈ K, x < g ∨ w.heap.size ≤ x) : DSt w' g l a S L := by
  obtain ⟨v, h1, h2⟩ := h
  refine ⟨v, h1.keeps hk (fun hm => by have := h1.lt; rcases hK g hm with h | h <;> omega), own_keeps h2 hk fun x hx hm => ?_⟩
  have a := own_lo h2 x hx
  have b := own_hi h2 x hx
  rcases hK x hm with h | h <;> omega
theorem DSt.at' {w : World} {g a : Nat} {l S : List Int} {L : Int} (h : DSt w g l a S L) (j : Nat) (hj : j < 16) (x : Int) (as' : List Int) (ha : (atL l a).set j x = atL l as'.length) : DSt (w.setCell ⟨g, 32 + j, none⟩ (.int .i64 x)) g l as'.length S L := by
  obtain ⟨v, h1, h2⟩ := h
  refine ⟨v, ?_, own_keeps h2 (S := [g]) ((Keeps.refl [g] w).setCell (Or.inl (by simp)) _) fun x hx hm => ?_⟩
  · have := h1.setAt hj x; rwa [ha] at this
  · have a := own_lo h2 x hx
    rw [List.mem_singleton.1 hm] at a; omega
/-- What making a decoder is to give. -/
def Made (w : World) (l : List Int) (e : Ending) (w' : World) : Prop :=
  Below w.heap.size w w' ∧ if checkF l = 0 then ∃ g, e = .returned (.tuple #[.pointer (some ⟨g, 0, none⟩), .int .i64 0]) ∧ Dec w' g l ∧ w.heap.size ≤ g
  else e = .returned (.tuple #[.pointer none, .int .i64 (checkF l)])
theorem made_err {w w' : World} {l : List Int} {e : Int} (hc : ¬ checkF l = 0) (he : e = checkF l) (h : Below w.heap.size w w') : Made w l (.returned (.tuple #[.pointer none, .int .i64 e])) w' := by
  subst he
  exact ⟨h, by rw [if_neg hc]⟩
theorem made_ok {w w' : World} {l : List Int} {g : Nat} (hc : checkF l = 0) (h : Below w.heap.size w w') (hd : Dec w' g l) (hg : w.heap.size ≤ g) : Made w l (.returned (.tuple #[.pointer (some ⟨g, 0, none⟩), .int .i64 0])) w' :=
  ⟨h, by rw [if_pos hc]; exact ⟨g, rfl, hd, hg⟩⟩
set_option maxRecDepth 100000 in
set_option maxHeartbeats 2000000 in
theorem new_calls (w : World) (A : Option Addr) (n c : Nat) (l : List Int) (hl : RI .i64 w A n l) (hn : n ≤ 140737488355328) :
    Calls Tryd.prog 80 #[.slice A n c] w (Made w l) := by
  have HL := Lib.hid hl
  have HLL := Lib.hid hl.len
  clear hl
  go_enter Tryd.func80, Tryd.ntmps80
  go_wp2_with fail
  refine (check_calls _ _ _ _ l HL.out hn).mono ?_
  rintro _ w1 ⟨rfl, hd⟩
  have HD := Lib.hid hd
  clear hd
  by_cases hc : checkF l = 0
  · have e1 : (checkF l != 0) = false := by simp [hc]
    have HC := Lib.hid hc
    have hok := check_ok hc
    have HOK := Lib.hid hok.2
    have hn288 : n ≤ 288 := by rw [← HLL.out]; exact hok.1
    have HL1 := Lib.hid (HL.out.keeps (HD.out.keeps (S := [])) (off_nil _))
    have HB1 := Lib.hid (HD.out.keeps (S := [])).below
    clear hc hok
    go_upto_region 5 with fail
    obtain ⟨wz, hwz⟩ : ∃ wz, wz = (w1.alloc (.cells (dcells (List.replicate 16 0) (List.replicate 16 0) (List.replicate 16 0) (.slice none 0 0) 0).toArray 149)) := ⟨_, rfl⟩
    change Code.wp _ _ _ _ (w1.alloc (.cells (dcells (List.replicate 16 0) (List.replicate 16 0) (List.replicate 16 0) (.slice none 0 0) 0).toArray 149))
    obtain ⟨g, hg⟩ : ∃ g, g = w1.heap.size := ⟨_, rfl⟩
    rw [← hg, ← hwz]
    have HZ : Hid (Blk wz g 149 (dcells (List.replicate 16 0) (List.replicate 16 0) (List.replicate 16 0) (.slice none 0 0) 0)) := by rw [hwz, hg]; exact blk_new w1 _ _
    have HKZ : Hid (Keeps [] w wz) := by rw [hwz]; exact Lib.hid ((HD.out.keeps (S := [])).alloc _)
    have HG : Hid (w.heap.size ≤ g) := by rw [hg]; exact Lib.hid HB1.out.size
    have HL2 := Lib.hid (HL.out.keeps HKZ.out (off_nil _))
    clear hg hwz HL1 HB1
    go_wp2_with fail
    refine (first_calls _ _ _ _ l HL2.out hn288 HOK.out).mono ?_
    rintro _ w2 ⟨rfl, hb⟩
    have HBZ := Lib.hid (HZ.out.keeps (Keeps.of_below (S := []) hb) (by simp))
    have HK2 := Lib.hid (HKZ.out.trans ((Keeps.of_below (S := []) hb)))
    clear hb HZ HKZ HL2
    obtain ⟨t1, t2, db⟩ := DB.start rfl HBZ.out (lowL (lenCnt l) 16) (lenCnt l) (lowL_len _ _) (lenCnt_len _)
    have hk3 : Keeps [] w ((w2.setCells g 0 (ints .i64 (lowL (lenCnt l) 16))).setCells g 16 (ints .i64 (lenCnt l))) := Keeps.setCells (.inr HG.out) _ _ _ (Keeps.setCells (.inr HG.out) _ _ _ HK2.out)
    obtain ⟨ca, hca⟩ : ∃ ca : Array Value, ca = (ints .i64 (lowL (lenCnt l) 16)).toArray := ⟨_, rfl⟩
    obtain ⟨cb, hcb⟩ : ∃ cb : Array Value, cb = (ints .i64 (lenCnt l)).toArray := ⟨_, rfl⟩
    have ka : ints .i64 (lowL (lenCnt l) 16) = ca.toList := by rw [hca]
    have kb : ints .i64 (lenCnt l) = cb.toList := by rw [hcb]
    have OA : Hid (ca.all (·.oneCell') = true) := by rw [hca]; exact Lib.hid (all_ints_one _)
    have OB : Hid (cb.all (·.oneCell') = true) := by rw [hcb]; exact Lib.hid (all_ints_one _)
    have LX : Hid (ca.size = 16) := by show _ = _; rw [hca]; simp [ints, lowL_len]
    have LY : Hid (cb.size = 16) := by show _ = _; rw [hcb]; simp [ints, lenCnt_len]
    rw [← hca, ← hcb]
    rw [← hca] at t1
    rw [← hcb, ka] at t2
    rw [ka, kb] at db hk3
    have T1 := Lib.hid t1
    have T2 := Lib.hid t2
    have DB0 := Lib.hid db
    have HK3 := Lib.hid hk3
    clear t1 t2 db hk3 ka kb hca hcb
    have KX : Hid ((Tryd.prog.info? 140).map (·.size) = some ca.size) := by show _ = _; rw [LX.out]; kernel_rfl
    have KY : Hid ((Tryd.prog.info? 140).map (·.size) = some cb.size) := by show _ = _; rw [LY.out]; kernel_rfl
    go_wp2_with (first
      | (refine wpList_store_mid rfl 140 (.tmp 24) (.tmp 21) rfl g 0 ca rfl rfl T1.out KX.out OA.out ?_)
      | (refine wpList_store_mid rfl 140 (.tmp 26) (.tmp 22) rfl g 16 cb rfl rfl T2.out KY.out OB.out ?_))
    generalize (w2.setCells g 0 ca.toList).setCells g 16 cb.toList = w3 at *
    have HS0 : Hid (DSt w3 g l 1 (symsB l 1) (longN l 1)) := by rw [symsB_one, longN_one]; exact ⟨_, by rw [atL_one]; exact DB0.out, World.ownsRow_nil _ _ _ _⟩
    clear HBZ HK2 T1 T2 DB0 KX KY OA OB LX LY
    have HLk : Hid (∀ wr : World, Keeps [] w wr → RI .i64 wr A n l) := Lib.hid (fun wr hk => HL.out.keeps hk (off_nil _))
    go_loopw [6] (fun mv wr => ∃ m : Nat, 1 ≤ m ∧ m ≤ 16 ∧ mv = .int .i64 m ∧ Hid (DSt wr g l m (symsB l m) (longN l m)) ∧ Hid (Keeps [] w wr)) (fun mv _ => 16 - (intOf mv).toNat)
    case atStart => exact ⟨1, by omega, by omega, rfl, HS0, HK3⟩
    case round =>
      clear HS0 HK3
      obtain ⟨m, hm1, hm2, rfl, HS, HK⟩ := hrel
      by_cases hm : m ≤ 15
      · have e0 : decide ((m : Int) ≤ 15) = true := by simp; omega
        have hsl := symsB_len l m
        obtain ⟨v, hdb, how⟩ := HS.out
        obtain ⟨vA, vc, rfl⟩ := own_form' how
        obtain ⟨q1, -⟩ := hdb.syms
        have q2 := hdb.at (j := m) (by omega)
        have q3 := hdb.free (32 + m)
        have HS1 : Hid (DSt (wr.setCell ⟨g, 32 + m, none⟩ (.int .i64 ((symsB l m).length : Int))) g l (m + 1) (symsB l m ++ symsOf l m 0) (longA l m 0)) := by
          have := HS.out.at' m (by omega) ((symsB l m).length : Int) (List.replicate (m + 1) 0) (by rw [List.length_replicate, atL_next l m hm1 (by omega)])
          rw [List.length_replicate] at this
          rw [longA_zero l m (by omega), show symsOf l m 0 = [] from rfl, List.append_nil]
          exact this
        have HK1 := Lib.hid (HK.out.setCell (p := ⟨g, 32 + m, none⟩) (.inr HG.out) (.int .i64 ((symsB l m).length : Int)))
        generalize nth (atL l m) m = z at *
        have HSL := Lib.hid hsl
        generalize hsz : (symsB l m).length = sz at *
        have HSZ := Lib.hid hsz
        clear hdb how HS HK hsl hsz
        go_wp2_with fail
        go_region
        go_wp2_with fail
        have HS2 : Hid (DSt (wr.setCell ⟨g, 32 + m, none⟩ (.int .i64 (sz : Int))).drew g l (m + 1) (symsB l m ++ symsOf l m 0) (longA l m 0)) := Lib.hid (HS1.out.keeps (Keeps.refl [] _).drew (by simp))
        have HK2 : Hid (Keeps [] w (wr.setCell ⟨g, 32 + m, none⟩ (.int .i64 (sz : Int))).drew) := Lib.hid HK1.out.drew
        clear HS1 HK1
        have q4 : 0 = 0 := rfl
        clear q1 q2 q3 q4
        go_loopw [43] (fun iv wr => ∃ i : Nat, i ≤ n ∧ iv = .int .i64 i ∧ Hid (DSt wr g l (m + 1) (symsB l m ++ symsOf l m i) (longA l m i)) ∧ Hid (Keeps [] w wr)) (fun iv _ => n - (intOf iv).toNat)
        case atStart => exact ⟨0, by omega, rfl, HS2, HK2⟩
        case round =>
          clear HS2 HK2
          obtain ⟨i, hi, rfl, HS, HK⟩ := hrel
          by_cases hlt : i < n
          · have hil : Hid (i < l.length) := by have := HLL.out; show _ < _; omega
            obtain ⟨b, o, rfl, hc⟩ := HL.out.at hlt
            have hc := HK.out.cell (by simp) hc
            by_cases hx : nth l i = m
            · have e1 : (nth l i == (m : Int)) = true := by simpa using hx
              have hs1 := symsOf_step l m i hx
              have hs2 := longA_step l m i (by omega) hm1 hil.out hx
              have HX1 := Lib.hid hs1
              have HX2 := Lib.hid hs2
              have hol : (symsOf l m i).length ≤ i := symsOf_len l m i
              have hsl := symsB_len l m
              clear hx hs1 hs2
              obtain ⟨v, hdb, how⟩ := HS.out
              obtain ⟨vA, vc, hvf⟩ := own_form' how
              subst hvf
              have hsn : (symsB l m ++ symsOf l m i).length ≤ 10000 := by
                rw [List.length_append]
                have : m * l.length ≤ 15 * 288 := Nat.mul_le_mul (by omega) (by have := HLL.out; omega)
                omega
              have HX3 : Hid (symsB l m ++ symsOf l m (i + 1) = (symsB l m ++ symsOf l m i) ++ [(i : Int)]) := by show _ = _; rw [HX1.out, List.append_assoc]
              generalize symsB l m ++ symsOf l m i = S at *
              generalize hsz : S.length = sz at *
              obtain ⟨q1, -⟩ := hdb.syms
              have HOW := Lib.hid (own_keeps how ((Keeps.refl [] wr).alloc (.cells #[.int .i64 (i : Int)] 3)) (by simp))
              have HDB := Lib.hid (hdb.keeps ((Keeps.refl [] wr).alloc (.cells #[.int .i64 (i : Int)] 3)) (by simp))
              have HRI : Hid (RI .i64 (wr.alloc (.cells #[.int .i64 (i : Int)] 3)) (some ⟨wr.heap.size, 0, none⟩) 1 [(i : Int)]) := Lib.hid (ri_one wr _ _ _)
              have HKA := Lib.hid (HK.out.alloc (.cells #[.int .i64 (i : Int)] 3))
              have hgl := hdb.lt
              have HSZ := Lib.hid hsz
              clear HS HK hdb how hol hsl hsz
              go_wp2_with (at_builtin; refine app_intsG rfl (.tmp 55) (.tmp 57) rfl (g + 1) _ _ S rfl (by exact HOW.out) _ 1 1 [(i : Int)] rfl (by exact HRI.out) ?c1 ?c2 ?c3 ?c4 ?_)
              case c1 => simp
              case c2 => simp
              case c3 => omega
              case c4 => simp; omega
              intro v' w4 hv hg
              obtain ⟨A', c', hvf⟩ := own_form' hv
              subst hvf
              have hk4 := (Keeps.refl (Value.ownBlock (.slice vA sz vc)).toList (wr.alloc (.cells #[.int .i64 (i : Int)] 3))).grown hg (fun k hk => Or.inl (by simp [hk]))
              have hng : g ∉ (Value.ownBlock (.slice vA sz vc)).toList := fun hm => by
                have := own_lo HOW.out g (by simpa using hm)
                omega
              have hdb4 := HDB.out.keeps hk4 hng
              have hkw := HKA.out.grown hg (fun k hk => Or.inr (by have := own_lo HOW.out k hk; have := HG.out; omega))
              have HDB4 := Lib.hid hdb4
              have HKW := Lib.hid hkw
              have HV := Lib.hid hv
              obtain ⟨r1, -⟩ := hdb4.syms
              have r2 := hdb4.free 48
              have hdb5 := hdb4.setSyms (.slice A' (sz + 1) c')
              obtain ⟨-, r3⟩ := hdb5.syms
              have r4 := hdb5.free 49
              have HDB6 := Lib.hid (hdb5.setLong m)
              have hk6 : Keeps [g] w4 ((w4.setCell ⟨g, 48, none⟩ (.slice A' (sz + 1) c')).setCell ⟨g, 49, none⟩ (.int .i64 (m : Int))) := ((Keeps.refl [g] w4).setCell (Or.inl (by simp)) _).setCell (Or.inl (by simp)) _
              have HO6 : Hid (((w4.setCell ⟨g, 48, none⟩ (.slice A' (sz + 1) c')).setCell ⟨g, 49, none⟩ (.int .i64 (m : Int))).ownsRow (g + 1) 3 1 (.slice A' (sz + 1) c') (sz + 1) (ints .i64 (S ++ [(i : Int)]))) :=
                own_keeps HV.out hk6 (fun x hx hm => by have := own_lo HV.out x hx; rw [List.mem_singleton.1 hm] at this; omega)
              have HKX := Lib.hid ((HKW.out.setCell (p := ⟨g, 48, none⟩) (.inr HG.out) (.slice A' (sz + 1) c')).setCell (p := ⟨g, 49, none⟩) (.inr HG.out) (.int .i64 (m : Int)))
              clear hk4 hng hdb4 hkw hv hg hdb5 hk6 HOW HDB HRI HKA HDB4 HKW HV
              go_wp2_with fail
              go_roundw
              case rel => exact ⟨i + 1, by omega, by go_num, by rw [HX2.out, HX3.out]; exact ⟨.slice A' (sz + 1) c', HDB6.out, by rw [List.length_append, HSZ.out]; exact HO6.out⟩, HKX⟩
              case measure => simp [intOf]; omega
            · have e1 : (nth l i == (m : Int)) = false := by simpa using hx
              have HX1 := Lib.hid (symsOf_skip l m i hx)
              have HX2 := Lib.hid (longA_skip l m i (by omega) hil.out hx)
              clear hx
              go_wp2_with fail
              go_roundw
              case rel => exact ⟨i + 1, by omega, by go_num, by rw [HX1.out, HX2.out]; exact HS, HK⟩
              case measure => simp [intOf]; omega
          · obtain rfl : i = n := by omega
            have HS3 : Hid (DSt wr g l (m + 1) (symsB l (m + 1)) (longN l (m + 1))) := by
              have := HS.out
              rw [← HLL.out, longA_all l m hm1, ← symsB_next l m hm1] at this; exact this
            go_wp2_with fail
            go_roundw
            case rel => exact ⟨m + 1, by omega, by omega, by go_num, HS3, HK⟩
            case measure => simp [intOf]; omega
      · obtain rfl : m = 16 := by omega
        go_wp2_with fail
        go_ret2
        exact made_ok HC.out HK.out.below HS.out HG.out
  · have e1 : (checkF l != 0) = true := by simpa using hc
    have HR : Hid (¬ checkF l = 0) := Lib.hid hc
    go_wp2_with fail
    go_ret2
    exact made_err HR.out rfl (HD.out.keeps (S := [])).below
end Go.Proofs.YtcblibefmclloaaDoor
