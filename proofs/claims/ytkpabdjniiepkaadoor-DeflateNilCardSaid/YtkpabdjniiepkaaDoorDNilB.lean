import Derived.Test.YtkpabdjniiepkaaDoorDNilA
import Derived.Laws.AppendOwnNone
import Derived.OneCell
import Derived.Lib.AppendZerosOnto
import Derived.OwnWalk
import Derived.WalkMore
import Derived.Deep.Heap
import Derived.Laws.CopyOwn
import Derived.Laws.OwnMore
import Derived.Deep.AppendLies
import Derived.RegionTactic
import Derived.BigQuiet
import Derived.BigRegion
set_option linter.unusedVariables false
set_option linter.unusedSimpArgs false
namespace Go.Proofs.YtkpabdjniiepkaaDoor
open Go.RowKit
theorem info_u32 : (Tryd.prog.info? 57).map (fun i => (i.zero, i.size, i.bytes)) = some (some (.int .u32 0), 1, 4) := by kernel_rfl
theorem own_of_blkK {w : World} {base g n : Nat} {k : IntKind} {t : TypeId} {xs : List Int} (h : Blk w g t (ints k xs)) (hl : xs.length = n) (hb : base ≤ g) (hn : n ≤ 1000000000) : w.ownsRow base t 1 (.slice (some ⟨g, 0, none⟩) n n) n (ints k xs) :=
  ⟨by simp [ints, hl], .inr ⟨g, n, _, rfl, hb, h, Nat.le_refl _, by unfold maxLen; omega, by simp [ints, hl], by rw [List.toList_toArray, List.take_of_length_le (by simp [ints, hl])]⟩⟩
theorem wpList_store_row {ops : Array Oper} {rest : List Oper} {o : Oper} {a : Act} {w : World} {Q : Exit → Act → World → Prop} (hgd : o.guard = none) (ty : TypeId) (x y : Operand) (ho : o.op = .store ty x y)
    (g : Nat) (cells : Array Value) (hx : a.eval x = .pointer (some ⟨g, 0, none⟩)) (hy : a.eval y = .agg cells)
    (t : TypeId) (old : Array Value) (hg : w.heap[g]? = some (.cells old t (0, 0))) (hi : (Tryd.prog.info? ty).map (·.size) = some cells.size)
    (hold : old.size = cells.size) (h1 : cells.all (·.oneCell') = true)
    (h : wpList Tryd.prog ops Q rest (a.put o.dst undef) (w.setRow g cells)) : wpList Tryd.prog ops Q (o :: rest) a w :=
  wpList_plain hgd fun _ hK => wp_store_row ty x y ho g cells hx hy t old hg hi hold h1 (hK _ _ h)
theorem Blk.row {w : World} {g : Nat} {t : TypeId} {old : List Value} (h : Blk w g t old) (cs : List Value) : Blk (w.setRow g cs.toArray) g t cs := setRow_heap w g _ _ t _ h
theorem Blk.row_other {w : World} {g g' : Nat} {t : TypeId} {cs : List Value} (h : Blk w g t cs) (hne : g ≠ g') (ds : Array Value) : Blk (w.setRow g' ds) g t cs := (setRow_other w g' g ds hne).trans h
theorem below_row {B g : Nat} {w0 w : World} (hb : Below B w0 w) (hBg : B ≤ g) (cs : Array Value) : Below B w0 (w.setRow g cs) :=
  hb.trans ⟨rfl, rfl, rfl, by simp [World.setRow], fun k hk => setRow_other w g k cs (by omega)⟩
/-- A symbol's code, the highest bit first. -/
def codeI (l : List Int) (i : Nat) : Int := lowF (lenCnt l) (nth l i).toNat + nth (lenCnt (l.take i)) (nth l i).toNat
/-- The codes as they are laid. -/
def outL (l : List Int) (k : Nat) : List Int := (List.range l.length).map fun i => if i < k ∧ 0 < nth l i then revF (codeI l i) (nth l i).toNat else 0
/-- What code comes next, of each length. -/
def nextL (l : List Int) (k : Nat) : List Int := (List.range 16).map fun n => lowF (lenCnt l) n + nth (lenCnt (l.take k)) n
/-- Codes: the list, and what is wrong. -/
def codesF (l : List Int) : List Int × Int := if checkF l = 0 then (outL l l.length, 0) else ([], checkF l)
theorem outL_len (l : List Int) (k : Nat) : (outL l k).length = l.length := by simp [outL]
theorem nextL_len (l : List Int) (k : Nat) : (nextL l k).length = 16 := by simp [nextL]
theorem outL_zero (l : List Int) : outL l 0 = List.replicate l.length 0 := by
  refine List.ext_getElem (by simp [outL]) fun j h1 h2 => ?_
  simp [outL]
theorem nth_map_range (f : Nat → Int) (n j : Nat) (h : j < n) : nth ((List.range n).map f) j = f j := by simp [nth, List.getD, h]
theorem nextL_zero (l : List Int) : nextL l 0 = lowL (lenCnt l) 16 := by
  refine List.ext_getElem (by simp [nextL, lowL]) fun j h1 h2 => ?_
  have hj : j < 16 := by simpa [nextL] using h1
  simp only [nextL, lowL, List.getElem_map, List.getElem_range, List.take_zero]
  rw [if_pos hj]
  have : nth (lenCnt []) j = 0 := by unfold lenCnt; rw [cntF_nth _ _ _ hj]; simp
  omega
theorem outL_skip (l : List Int) (k : Nat) (h : ¬ 0 < nth l k) : outL l (k + 1) = outL l k := by
  refine List.ext_getElem (by simp [outL]) fun j h1 h2 => ?_
  simp only [outL, List.getElem_map, List.getElem_range]
  by_cases e : j = k
  · subst e; rw [if_neg (fun h' => h h'.2), if_neg (fun h' => h h'.2)]
  · by_cases hj : j < k
    · by_cases hz : 0 < nth l j
      · rw [if_pos ⟨by omega, hz⟩, if_pos ⟨hj, hz⟩]
      · rw [if_neg (fun h' => hz h'.2), if_neg (fun h' => hz h'.2)]
    · rw [if_neg (by omega), if_neg (by omega)]
theorem outL_step (l : List Int) (k : Nat) (hk : k < l.length) (h : 0 < nth l k) : outL l (k + 1) = (outL l k).set k (revF (codeI l k) (nth l k).toNat) := by
  refine List.ext_getElem (by simp [outL]) fun j h1 h2 => ?_
  rw [List.getElem_set]
  simp only [outL, List.getElem_map, List.getElem_range]
  by_cases e : k = j
  · subst e; rw [if_pos rfl, if_pos ⟨by omega, h⟩]
  · rw [if_neg e]
    by_cases hj : j < k
    · by_cases hz : 0 < nth l j
      · rw [if_pos ⟨by omega, hz⟩, if_pos ⟨hj, hz⟩]
      · rw [if_neg (fun h' => hz h'.2), if_neg (fun h' => hz h'.2)]
    · rw [if_neg (by omega), if_neg (by omega)]
theorem nextL_skip (l : List Int) (k : Nat) (hk : k < l.length) (h : ¬ 0 < nth l k) : nextL l (k + 1) = nextL l k := by
  unfold nextL; rw [lenCnt_skip l k hk h]
theorem nextL_step (l : List Int) (k : Nat) (hk : k < l.length) (s : Nat) (hs : s < 16) (hsn : lenCnt (l.take (k + 1)) = (lenCnt (l.take k)).set s (nth (lenCnt (l.take k)) s + 1)) : nextL l (k + 1) = (nextL l k).set s (nth (nextL l k) s + 1) := by
  refine List.ext_getElem (by simp [nextL]) fun j h1 h2 => ?_
  have hj : j < 16 := by simpa [nextL] using h1
  rw [List.getElem_set]
  simp only [nextL, List.getElem_map, List.getElem_range]
  rw [hsn, nth_map_range _ _ _ hs]
  by_cases e : s = j
  · subst e
    rw [if_pos rfl]
    have : nth ((lenCnt (l.take k)).set s (nth (lenCnt (l.take k)) s + 1)) s = nth (lenCnt (l.take k)) s + 1 := by
      simp [nth, List.getD, lenCnt_len, hs]
    omega
  · rw [if_neg e]
    congr 1
    simp [nth, List.getD, e]
/-- What coding is to give. -/
def Coded (w : World) (r : List Int × Int) (e : Ending) (w' : World) : Prop :=
  ∃ v, e = .returned (.tuple #[v, .int .i64 r.2]) ∧ w'.ownsRow w.heap.size 57 1 v r.1.length (ints .u32 r.1) ∧ Below w.heap.size w w'
theorem coded_err {w w' : World} {r : List Int × Int} {e : Int} (hr : r = ([], e)) (h : Below w.heap.size w w') : Coded w r (.returned (.tuple #[.slice none 0 0, .int .i64 e])) w' := by
  subst hr
  exact ⟨_, rfl, World.ownsRow_nil _ _ _ _, h⟩
theorem coded_ok {w w' : World} {r : List Int × Int} {v : Value} {n : Nat} {ls : List Int} (hr : r = (ls, 0)) (hl : ls.length = n) (ho : w'.ownsRow w.heap.size 57 1 v n (ints .u32 ls)) (h : Below w.heap.size w w') : Coded w r (.returned (.tuple #[v, .int .i64 0])) w' := by
  subst hr hl
  exact ⟨_, rfl, ho, h⟩
set_option maxRecDepth 100000 in
set_option maxHeartbeats 2000000 in
theorem codes_calls (w : World) (A : Option Addr) (n c : Nat) (l : List Int) (hl : RI .i64 w A n l) (hn : n ≤ 140737488355328) :
    Calls Tryd.prog 56 #[.slice A n c] w (Coded w (codesF l)) := by
  have HL := Lib.hid hl
  have HLL := Lib.hid hl.len
  clear hl
  go_enter Tryd.func56, Tryd.ntmps56
  go_wp2_with fail
  refine (check_calls _ _ _ _ l HL.out hn).mono ?_
  rintro _ w1 ⟨rfl, hd⟩
  have HD := Lib.hid hd
  clear hd
  by_cases hc : checkF l = 0
  · have e1 : (checkF l != 0) = false := by simp [hc]
    have HR : Hid (codesF l = (outL l l.length, 0)) := if_pos hc
    have HC := Lib.hid hc
    have hok := check_ok hc
    have HOK := Lib.hid hok.2
    have hn288 : n ≤ 288 := by rw [← HLL.out]; exact hok.1
    have HL1 := Lib.hid (HL.out.keeps (HD.out.keeps (S := [])) (off_nil _))
    clear hc hok
    go_wp2_with fail
    refine (first_calls _ _ _ _ l HL1.out hn288 HOK.out).mono ?_
    rintro _ w2 ⟨rfl, hb⟩
    have HB := Lib.hid ((HD.out.keeps (S := [])).below.trans (hb.mono (HD.out.keeps (S := [])).size))
    clear hb
    have Z16 : Hid (∀ z : List Value, z = ints .i64 (List.replicate 16 0) → Blk ((w2.alloc (.cells z.toArray 119)).alloc (.cells z.toArray 119)) w2.heap.size 119 (ints .i64 (List.replicate 16 0)) ∧ Blk ((w2.alloc (.cells z.toArray 119)).alloc (.cells z.toArray 119)) (w2.heap.size + 1) 119 (ints .i64 (List.replicate 16 0)) ∧ Below w.heap.size w ((w2.alloc (.cells z.toArray 119)).alloc (.cells z.toArray 119))) := by
      rintro z rfl
      refine ⟨Blk.alloc (blk_new w2 _ _) _, ?_, (HB.out.alloc HB.out.size _).alloc (by have := HB.out.size; simp; omega) _⟩
      have := blk_new (w2.alloc (.cells (ints .i64 (List.replicate 16 0)).toArray 119)) 119 (ints .i64 (List.replicate 16 0))
      simpa using this
    obtain ⟨z0, z1, z2⟩ := Z16.out [.int .i64 0, .int .i64 0, .int .i64 0, .int .i64 0, .int .i64 0, .int .i64 0, .int .i64 0, .int .i64 0, .int .i64 0, .int .i64 0, .int .i64 0, .int .i64 0, .int .i64 0, .int .i64 0, .int .i64 0, .int .i64 0] rfl
    have LX : Hid ((ints .i64 (lowL (lenCnt l) 16)).toArray.size = 16) := by show _ = _; simp [ints, lowL_len]
    have LY : Hid ((ints .i64 (lenCnt l)).toArray.size = 16) := by show _ = _; simp [ints, lenCnt_len]
    have y0 := z0.row (ints .i64 (lowL (lenCnt l) 16))
    have y1 := (z1.row_other (g' := w2.heap.size) (by simp) (ints .i64 (lowL (lenCnt l) 16)).toArray).row (ints .i64 (lenCnt l))
    have y2 := below_row (below_row z2 HB.out.size (ints .i64 (lowL (lenCnt l) 16)).toArray) (g := w2.heap.size + 1) (by have := HB.out.size; omega) (ints .i64 (lenCnt l)).toArray
    have y3 := y0.row_other (g' := w2.heap.size + 1) (by simp) (ints .i64 (lenCnt l)).toArray
    have Z0 := Lib.hid z0
    have Z1 := Lib.hid (z1.row_other (g' := w2.heap.size) (by simp) (ints .i64 (lowL (lenCnt l) 16)).toArray)
    have Y2 := Lib.hid y2
    have Y3 := Lib.hid y3
    have hbz := HB.out.size
    clear z0 z1 z2 Z16 y0 y1 y2 y3
    have hmk := fun w => make_ints (P := Tryd.prog) w 68 57 .u32 4 Tryd.underlying68 info_u32 (n : Int) n rfl (by omega) (by omega)
    go_upto_region 5 with (first
      | (refine wpList_store_row rfl 119 (.tmp 5) (.tmp 18) rfl w2.heap.size (ints .i64 (lowL (lenCnt l) 16)).toArray rfl rfl 119 (ints .i64 (List.replicate 16 0)).toArray (by exact Z0.out) (by rw [LX.out]; kernel_rfl) (by rw [LX.out]; rfl) (all_ints_one _) ?_)
      | (refine wpList_store_row rfl 119 (.tmp 6) (.tmp 19) rfl (w2.heap.size + 1) (ints .i64 (lenCnt l)).toArray rfl rfl 119 (ints .i64 (List.replicate 16 0)).toArray (by exact Z1.out) (by rw [LY.out]; kernel_rfl) (by rw [LY.out]; rfl) (all_ints_one _) ?_))
    obtain ⟨w3, hw3⟩ : ∃ w3, w3 = (((w2.alloc (.cells #[.int .i64 0, .int .i64 0, .int .i64 0, .int .i64 0, .int .i64 0, .int .i64 0, .int .i64 0, .int .i64 0, .int .i64 0, .int .i64 0, .int .i64 0, .int .i64 0, .int .i64 0, .int .i64 0, .int .i64 0, .int .i64 0] 119)).alloc (.cells #[.int .i64 0, .int .i64 0, .int .i64 0, .int .i64 0, .int .i64 0, .int .i64 0, .int .i64 0, .int .i64 0, .int .i64 0, .int .i64 0, .int .i64 0, .int .i64 0, .int .i64 0, .int .i64 0, .int .i64 0, .int .i64 0] 119)).setRow w2.heap.size (ints .i64 (lowL (lenCnt l) 16)).toArray).setRow (w2.heap.size + 1) (ints .i64 (lenCnt l)).toArray := ⟨_, rfl⟩
    rw [← hw3] at Y2 Y3 ⊢
    clear hw3 Z0 Z1
    have HNX : Hid (Blk (w3.alloc (.cells (ints .u32 (List.replicate n 0)).toArray 57)) w2.heap.size 119 (ints .i64 (nextL l 0))) := by rw [nextL_zero]; exact Y3.out.alloc _
    have HOUT : Hid (Blk (w3.alloc (.cells (ints .u32 (List.replicate n 0)).toArray 57)) w3.heap.size 57 (ints .u32 (outL l 0))) := by rw [outL_zero, HLL.out]; exact blk_new w3 _ _
    have HBW := Lib.hid (Y2.out.alloc (Y2.out.size) (.cells (ints .u32 (List.replicate n 0)).toArray 57))
    have HLT := Lib.hid Y3.out.lt
    have hb3 := Y2.out.size
    clear Y2 Y3
    generalize hq : w2.heap.size = q at *
    go_wp2_with fail
    generalize hgo : w3.heap.size = go at *
    go_loopw [25] (fun i wr => ∃ k : Nat, k ≤ n ∧ i = .int .i64 k ∧ Hid (Blk wr q 119 (ints .i64 (nextL l k))) ∧ Hid (Blk wr go 57 (ints .u32 (outL l k))) ∧ Hid (Below w.heap.size w wr)) (fun i _ => n - (intOf i).toNat)
    case atStart => exact ⟨0, by omega, rfl, HNX, HOUT, HBW⟩
    case round =>
      clear HNX HOUT HBW
      obtain ⟨k, hk, rfl, HNX, HOUT, HBW⟩ := hrel
      by_cases hlt : k < n
      · obtain ⟨b, o, rfl, hc⟩ := HL.out.at hlt
        have hc := (Keeps.of_below (S := []) HBW.out).cell (by simp) hc
        have hx : okLen (nth l k) = true := by rw [nth_lt (by have := HLL.out; omega)]; exact List.all_eq_true.1 HOK.out _ (List.getElem_mem _)
        have hx1 : 0 ≤ nth l k ∧ nth l k ≤ 15 := by simpa [okLen] using hx
        obtain ⟨hx2, hx3⟩ := hx1
        clear hx
        by_cases hz : 0 < nth l k
        · obtain ⟨s, hs, hs16, hsn⟩ := lenCnt_snoc l k (by have := HLL.out; omega) hz hx3
          have S1 := Lib.hid (nextL_step l k (by have := HLL.out; omega) s hs16 hsn)
          have S2 := Lib.hid (outL_step l k (by have := HLL.out; omega) hz)
          have h0 := HNX.out.cellI (j := s) (by rw [nextL_len]; exact hs16)
          have hf := HNX.out.frozen s
          have g0 := HOUT.out.cellI (j := k) (by rw [outL_len, HLL.out]; exact hlt)
          have gf := HOUT.out.frozen k
          have HCI : Hid (codeI l k = nth (nextL l k) s) := by
            show _ = _
            unfold codeI nextL
            rw [nth_map_range _ _ _ hs16, hs]; simp
          obtain ⟨b0, b1⟩ := lenCnt_bd (l.take k) s hs16
          obtain ⟨c0, c1⟩ := lowF_small l (by have := HLL.out; omega) s (by omega)
          have hxv : nth (nextL l k) s = lowF (lenCnt l) s + nth (lenCnt (l.take k)) s := by unfold nextL; rw [nth_map_range _ _ _ hs16]
          have b2 : (l.take k).length ≤ 288 := by rw [List.length_take]; omega
          have x0 : 0 ≤ nth (nextL l k) s := by omega
          have x1 : nth (nextL l k) s ≤ 50000000 := by omega
          have hks : Hid ((nth l k).toNat = s) := by show _ = _; rw [hs]; simp
          rw [hs] at hc hx2 hx3 hz
          have e3 : decide (0 < s) = true := by simp; omega
          clear hxv b0 b1 b2 c0 c1 hsn hs
          generalize nth (nextL l k) s = x at *
          go_wp2_with fail
          refine (turned_calls _ x s x0 (by omega) (by omega)).mono ?_
          rintro _ w4 ⟨rfl, rfl⟩
          have HSET1 : Hid (Blk (wr.setCell ⟨go, k, none⟩ (.int .u32 (revF x s))) go 57 (ints .u32 (outL l (k + 1)))) := by
            have := HOUT.out.set k (.int .u32 (revF x s))
            rw [set_ints] at this
            rw [S2.out, HCI.out, hks.out]; exact this
          have HSET2 := Lib.hid (HNX.out.set_other (a := ⟨go, k, none⟩) (by have := HLT.out; show q ≠ go; omega) (.int .u32 (revF x s)))
          have HW4 := Lib.hid (HBW.out.setCell (p := ⟨go, k, none⟩) hb3 (.int .u32 (revF x s)))
          have hne1 : ¬ q = go := by have := HLT.out; omega
          have hne2 : ¬ go = q := by have := HLT.out; omega
          have HSET3 : Hid (Blk ((wr.setCell ⟨go, k, none⟩ (.int .u32 (revF x s))).setCell ⟨q, s, none⟩ (.int .i64 (x + 1))) q 119 (ints .i64 (nextL l (k + 1)))) := by
            have := HSET2.out.set s (.int .i64 (x + 1))
            rw [set_ints, ← S1.out] at this; exact this
          have HSET4 := Lib.hid (HSET1.out.set_other (a := ⟨q, s, none⟩) (by exact hne2) (.int .i64 (x + 1)))
          have HW5 := Lib.hid (HW4.out.setCell (p := ⟨q, s, none⟩) hbz (.int .i64 (x + 1)))
          clear HNX HOUT HBW HSET1 HSET2 HW4
          go_wp2_with fail
          go_roundw
          case rel => exact ⟨k + 1, by omega, by go_num, HSET3, HSET4, HW5⟩
          case measure => simp [intOf]; omega
        · have e3 : decide (0 < nth l k) = false := by simpa using hz
          have S1 := Lib.hid (nextL_skip l k (by have := HLL.out; omega) hz)
          have S2 := Lib.hid (outL_skip l k hz)
          go_wp2_with fail
          go_roundw
          case rel => exact ⟨k + 1, by omega, by go_num, by rw [S1.out]; exact HNX, by rw [S2.out]; exact HOUT, HBW⟩
          case measure => simp [intOf]; omega
      · obtain rfl : k = n := by omega
        go_wp2_with fail
        go_ret2
        refine coded_ok (v := .slice (some ⟨go, 0, none⟩) k k) (ls := outL l k) (by rw [HR.out, HLL.out]) (by rw [outL_len, HLL.out]) ?_ HBW.out
        exact own_of_blkK HOUT.out (by rw [outL_len, HLL.out]) hb3 (by omega)
  · have e1 : (checkF l != 0) = true := by simpa using hc
    have HR : Hid (codesF l = ([], checkF l)) := if_neg hc
    go_wp2_with fail
    go_ret2
    exact coded_err HR.out (HD.out.keeps (S := [])).below
end Go.Proofs.YtkpabdjniiepkaaDoor

/- Rows of bits of codes: plain numbers. -/
set_option linter.unusedVariables false
set_option linter.unusedSimpArgs false
namespace Go.Proofs.YtkpabdjniiepkaaDoor
/-- The n bits of a code, the highest first. -/
def msbF (c : Int) (n : Nat) : List Int := (List.range n).map fun t => c / 2 ^ (n - 1 - t) % 2
/-- The last j of them. -/
def msbP (c : Int) (n j : Nat) : List Int := (List.range n).map fun t => if n ≤ t + j then c / 2 ^ (n - 1 - t) % 2 else 0
theorem msbP_zero (c : Int) (n : Nat) : msbP c n 0 = List.replicate n 0 := by
  refine List.ext_getElem (by simp [msbP]) fun t h1 h2 => ?_
  have ht : t < n := by simpa [msbP] using h1
  simp only [msbP, List.getElem_map, List.getElem_range, List.getElem_replicate]
  rw [if_neg (by omega)]
theorem msbP_all (c : Int) (n : Nat) : msbP c n n = msbF c n := by
  refine List.ext_getElem (by simp [msbP, msbF]) fun t h1 h2 => ?_
  simp only [msbP, msbF, List.getElem_map, List.getElem_range]
  rw [if_pos (by omega)]
theorem msbP_len (c : Int) (n j : Nat) : (msbP c n j).length = n := by simp [msbP]
theorem msbF_len (c : Int) (n : Nat) : (msbF c n).length = n := by simp [msbF]
theorem msbF_nth (c : Int) (n t : Nat) (h : t < n) : nth (msbF c n) t = c / 2 ^ (n - 1 - t) % 2 := by
  unfold msbF; rw [nth_map_range _ _ _ h]
theorem msbP_step (c : Int) (n j : Nat) (h : j < n) : msbP c n (j + 1) = (msbP c n j).set (n - 1 - j) (c / 2 ^ j % 2) := by
  refine List.ext_getElem (by simp [msbP]) fun t h1 h2 => ?_
  have ht : t < n := by simpa [msbP] using h1
  rw [List.getElem_set]
  simp only [msbP, List.getElem_map, List.getElem_range]
  by_cases e : n - 1 - j = t
  · rw [if_pos e, if_pos (by omega), show n - 1 - t = j by omega]
  · rw [if_neg e]
    by_cases hj : n ≤ t + j
    · rw [if_pos (by omega), if_pos hj]
    · rw [if_neg (by omega), if_neg hj]
/-- The rows that are laid before the n-th length's i-th symbol. -/
def rowsAt (l : List Int) (n i : Nat) : List (List Int) := (List.range l.length).map fun j => if 0 < nth l j ∧ (nth l j < n ∨ nth l j = n ∧ j < i) then msbF (codeI l j) (nth l j).toNat else []
def rowsF (l : List Int) : List (List Int) := (List.range l.length).map fun j => if 0 < nth l j then msbF (codeI l j) (nth l j).toNat else []
theorem rowsAt_len (l : List Int) (n i : Nat) : (rowsAt l n i).length = l.length := by simp [rowsAt]
theorem rowsF_len (l : List Int) : (rowsF l).length = l.length := by simp [rowsF]
theorem rowsAt_zero (l : List Int) : rowsAt l 1 0 = List.replicate l.length [] := by
  refine List.ext_getElem (by simp [rowsAt]) fun j h1 h2 => ?_
  simp only [rowsAt, List.getElem_map, List.getElem_range, List.getElem_replicate]
  rw [if_neg (by omega)]
theorem rowsAt_all (l : List Int) (h : l.all okLen = true) : rowsAt l 16 0 = rowsF l := by
  refine List.ext_getElem (by simp [rowsAt, rowsF]) fun j h1 h2 => ?_
  have hj : j < l.length := by simpa [rowsAt] using h1
  have hx : okLen (nth l j) = true := by rw [nth_lt hj]; exact List.all_eq_true.1 h _ (List.getElem_mem _)
  have hx1 : 0 ≤ nth l j ∧ nth l j ≤ 15 := by simpa [okLen] using hx
  simp only [rowsAt, rowsF, List.getElem_map, List.getElem_range]
  by_cases e : 0 < nth l j
  · rw [if_pos ⟨e, by omega⟩, if_pos e]
  · rw [if_neg (by omega), if_neg e]
theorem rowsAt_next (l : List Int) (n : Nat) : rowsAt l n l.length = rowsAt l (n + 1) 0 := by
  refine List.ext_getElem (by simp [rowsAt]) fun j h1 h2 => ?_
  have hj : j < l.length := by simpa [rowsAt] using h1
  simp only [rowsAt, List.getElem_map, List.getElem_range]
  by_cases e : 0 < nth l j ∧ (nth l j < n ∨ nth l j = n)
  · rw [if_pos (by omega), if_pos (by omega)]
  · rw [if_neg (by omega), if_neg (by omega)]
theorem rowsAt_skip (l : List Int) (n i : Nat) (h : nth l i ≠ n) : rowsAt l n (i + 1) = rowsAt l n i := by
  refine List.ext_getElem (by simp [rowsAt]) fun j h1 h2 => ?_
  simp only [rowsAt, List.getElem_map, List.getElem_range]
  by_cases e : j = i
  · subst e
    by_cases e2 : 0 < nth l j ∧ nth l j < n
    · rw [if_pos (by omega), if_pos (by omega)]
    · rw [if_neg (by omega), if_neg (by omega)]
  · by_cases e2 : 0 < nth l j ∧ (nth l j < n ∨ nth l j = n ∧ j < i)
    · rw [if_pos (by omega), if_pos e2]
    · rw [if_neg (by omega), if_neg e2]
theorem rowsAt_step (l : List Int) (n i : Nat) (hi : i < l.length) (hn : 1 ≤ n) (h : nth l i = n) : rowsAt l n (i + 1) = (rowsAt l n i).set i (msbF (codeI l i) n) := by
  refine List.ext_getElem (by simp [rowsAt]) fun j h1 h2 => ?_
  rw [List.getElem_set]
  simp only [rowsAt, List.getElem_map, List.getElem_range]
  by_cases e : i = j
  · subst e
    rw [if_pos rfl, if_pos (by omega), h]; simp
  · rw [if_neg e]
    by_cases e2 : 0 < nth l j ∧ (nth l j < n ∨ nth l j = n ∧ j < i)
    · rw [if_pos (by omega), if_pos e2]
    · rw [if_neg (by omega), if_neg e2]
/-- The code that comes next at a length. -/
def posF (l : List Int) (n i : Nat) : Int := lowF (lenCnt l) n + nth (lenCnt (l.take i)) n
theorem posF_skip (l : List Int) (n i : Nat) (hn : n < 16) (hi : i < l.length) (h : nth l i ≠ n) : posF l n (i + 1) = posF l n i := by
  unfold posF
  congr 1
  unfold lenCnt
  rw [cntF_nth _ _ _ hn, cntF_nth _ _ _ hn, take_snoc' l i hi, List.filter_append, List.count_append]
  have : List.count (n : Int) (List.filter (fun x => decide (0 < x)) [nth l i]) = 0 := List.count_eq_zero_of_not_mem (fun hm => by
    have := (List.mem_filter.1 hm).1
    exact h (List.mem_singleton.1 this).symm)
  omega
theorem posF_step (l : List Int) (n i : Nat) (hn : n < 16) (h1 : 1 ≤ n) (hi : i < l.length) (h : nth l i = n) : posF l n (i + 1) = posF l n i + 1 := by
  unfold posF
  unfold lenCnt
  rw [cntF_nth _ _ _ hn, cntF_nth _ _ _ hn, take_snoc' l i hi, List.filter_append, List.count_append, h, List.filter_cons_of_pos (by simp; omega)]
  simp; omega
theorem posF_next (l : List Int) (n : Nat) (hn : n < 16) : posF l (n + 1) 0 = 2 * posF l n l.length ∨ 15 ≤ n := by
  by_cases h : n < 15
  · left
    unfold posF
    rw [List.take_zero, List.take_length, lowF]
    have : nth (lenCnt []) (n + 1) = 0 := by unfold lenCnt; rw [cntF_nth _ _ _ (by omega)]; simp
    omega
  · right; omega
theorem posF_one (l : List Int) : posF l 1 0 = 0 := by
  unfold posF
  have h1 : nth (lenCnt (l.take 0)) 1 = 0 := by rw [List.take_zero]; unfold lenCnt; rw [cntF_nth _ _ _ (by omega)]; simp
  have h2 : nth (lenCnt l) 0 = 0 := by
    unfold lenCnt
    rw [cntF_nth _ _ _ (by omega)]
    have : List.count (0 : Int) (List.filter (fun x => decide (0 < x)) l) = 0 := List.count_eq_zero_of_not_mem (fun hm => by
      have := (List.mem_filter.1 hm).2; simp at this)
    exact_mod_cast this
  simp only [lowF]
  omega
theorem posF_code (l : List Int) (n i : Nat) (h : nth l i = n) : codeI l i = posF l n i := by unfold codeI posF; rw [h]; simp
theorem posF_bd (l : List Int) (hl : l.length ≤ 288) (n i : Nat) (hn : n < 16) : 0 ≤ posF l n i ∧ posF l n i ≤ 50000000 := by
  unfold posF
  have h1 := lowF_small l hl n (by omega)
  have h2 := lenCnt_bd (l.take i) n hn
  have : (l.take i).length ≤ 288 := by rw [List.length_take]; omega
  omega
/-- What the laying of rows keeps: the last code and its length. -/
def Last (l : List Int) (n i : Nat) (code : Int) (last : Nat) : Prop := 0 ≤ code ∧ code ≤ 50000000 ∧ last ≤ n ∧ if last = 0 then posF l n i = 0 ∧ code = 0 else (code + 1) * 2 ^ (n - last) = posF l n i
theorem last_start (l : List Int) : Last l 1 0 0 0 := ⟨by omega, by omega, by omega, by rw [if_pos rfl]; exact ⟨posF_one l, rfl⟩⟩
theorem last_skip {l : List Int} {n i : Nat} {code : Int} {last : Nat} (h : Last l n i code last) (hn : n < 16) (hi : i < l.length) (hne : nth l i ≠ n) : Last l n (i + 1) code last := by
  obtain ⟨h1, h2, h3, h4⟩ := h
  refine ⟨h1, h2, h3, ?_⟩
  rw [posF_skip l n i hn hi hne]; exact h4
theorem last_step {l : List Int} {n i : Nat} (hl : l.length ≤ 288) (hn : n < 16) (h1 : 1 ≤ n) (hi : i < l.length) (h : nth l i = n) : Last l n (i + 1) (codeI l i) n := by
  rw [posF_code l n i h]
  have := posF_bd l hl n i hn
  refine ⟨this.1, this.2, Nat.le_refl _, ?_⟩
  rw [if_neg (by omega), posF_step l n i hn h1 hi h, Nat.sub_self]; simp
theorem last_next {l : List Int} {n : Nat} {code : Int} {last : Nat} (h : Last l n l.length code last) (hn : n < 15) : Last l (n + 1) 0 code last := by
  obtain ⟨h1, h2, h3, h4⟩ := h
  refine ⟨h1, h2, by omega, ?_⟩
  have hp := (posF_next l n (by omega)).resolve_right (by omega)
  split at h4
  · rename_i h0
    rw [if_pos h0, hp]; exact ⟨by omega, h4.2⟩
  · rename_i h0
    rw [if_neg h0, hp, ← h4, show n + 1 - last = (n - last) + 1 by omega, Int.pow_succ]
    rw [← Int.mul_assoc]; omega
theorem last_code {l : List Int} {n i : Nat} {code : Int} {last : Nat} (h : Last l n i code last) (hx : nth l i = n) (h0 : last ≠ 0) : (code + 1) * 2 ^ (n - last) = codeI l i := by
  rw [posF_code l n i hx]
  have := h.2.2.2
  rwa [if_neg h0] at this
theorem last_code0 {l : List Int} {n i : Nat} {code : Int} {last : Nat} (h : Last l n i code last) (hx : nth l i = n) (h0 : last = 0) : code = codeI l i := by
  rw [posF_code l n i hx]
  have := h.2.2.2
  rw [if_pos h0] at this
  omega
end Go.Proofs.YtkpabdjniiepkaaDoor

/- What a decoder holds: plain numbers. -/
set_option linter.unusedVariables false
set_option linter.unusedSimpArgs false
namespace Go.Proofs.YtkpabdjniiepkaaDoor
/-- How many of the first have this length. -/
def cntN (l : List Int) (n i : Nat) : Int := nth (lenCnt (l.take i)) n
theorem cntN_zero (l : List Int) (n : Nat) (hn : n < 16) : cntN l n 0 = 0 := by
  unfold cntN; rw [List.take_zero]; unfold lenCnt; rw [cntF_nth _ _ _ hn]; simp
theorem cntN_all (l : List Int) (n : Nat) : cntN l n l.length = nth (lenCnt l) n := by unfold cntN; rw [List.take_length]
theorem cntN_skip (l : List Int) (n i : Nat) (hn : n < 16) (hi : i < l.length) (h : nth l i ≠ n) : cntN l n (i + 1) = cntN l n i := by
  have := posF_skip l n i hn hi h
  unfold posF at this
  unfold cntN; omega
theorem cntN_step (l : List Int) (n i : Nat) (hn : n < 16) (h1 : 1 ≤ n) (hi : i < l.length) (h : nth l i = n) : cntN l n (i + 1) = cntN l n i + 1 := by
  have := posF_step l n i hn h1 hi h
  unfold posF at this
  unfold cntN; omega
theorem cntN_nn (l : List Int) (n i : Nat) (hn : n < 16) : 0 ≤ cntN l n i := (lenCnt_bd (l.take i) n hn).1
/-- The symbols of a length among the first. -/
def symsOf (l : List Int) (n : Nat) : Nat → List Int
  | 0 => []
  | i + 1 => symsOf l n i ++ (if nth l i = n then [(i : Int)] else [])
theorem symsOf_skip (l : List Int) (n i : Nat) (h : nth l i ≠ n) : symsOf l n (i + 1) = symsOf l n i := by simp [symsOf, h]
theorem symsOf_step (l : List Int) (n i : Nat) (h : nth l i = n) : symsOf l n (i + 1) = symsOf l n i ++ [(i : Int)] := by simp [symsOf, h]
theorem symsOf_len (l : List Int) (n : Nat) : ∀ i, (symsOf l n i).length ≤ i
  | 0 => by simp [symsOf]
  | i + 1 => by
    have := symsOf_len l n i
    unfold symsOf
    rw [List.length_append]
    split <;> simp <;> omega
theorem symsOf_cnt (l : List Int) (n : Nat) (hn : n < 16) (h1 : 1 ≤ n) : ∀ i, i ≤ l.length → ((symsOf l n i).length : Int) = cntN l n i
  | 0, _ => by rw [cntN_zero l n hn]; rfl
  | i + 1, hi => by
    have := symsOf_cnt l n hn h1 i (by omega)
    by_cases h : nth l i = n
    · rw [symsOf_step l n i h, cntN_step l n i hn h1 (by omega) h, List.length_append]; simp; omega
    · rw [symsOf_skip l n i h, cntN_skip l n i hn (by omega) h]; exact this
theorem nth_append_left (xs ys : List Int) (k : Nat) (h : k < xs.length) : nth (xs ++ ys) k = nth xs k := by simp [nth, List.getD, List.getElem?_append_left h]
theorem nth_append_right (xs ys : List Int) (k : Nat) : nth (xs ++ ys) (xs.length + k) = nth ys k := by simp [nth, List.getD, List.getElem?_append_right]
/-- Which symbol stands at a place. -/
theorem symsOf_at (l : List Int) (n : Nat) (hn : n < 16) (h1 : 1 ≤ n) : ∀ i k, i ≤ l.length → k < (symsOf l n i).length → ∃ j, j < i ∧ nth (symsOf l n i) k = (j : Int) ∧ nth l j = n ∧ cntN l n j = k
  | 0, k, _, hk => by simp [symsOf] at hk
  | i + 1, k, hi, hk => by
    by_cases h : nth l i = n
    · rw [symsOf_step l n i h] at hk ⊢
      by_cases e : k < (symsOf l n i).length
      · obtain ⟨j, a, b, c, d⟩ := symsOf_at l n hn h1 i k (by omega) e
        exact ⟨j, by omega, by rw [nth_append_left _ _ _ e]; exact b, c, d⟩
      · have hk' : k = (symsOf l n i).length := by rw [List.length_append] at hk; simp at hk; omega
        refine ⟨i, by omega, ?_, h, ?_⟩
        · have := nth_append_right (symsOf l n i) [(i : Int)] 0
          rw [Nat.add_zero, ← hk'] at this
          rw [this]; rfl
        · rw [hk']; exact (symsOf_cnt l n hn h1 i (by omega)).symm
    · rw [symsOf_skip l n i h] at hk ⊢
      obtain ⟨j, a, b, c, d⟩ := symsOf_at l n hn h1 i k (by omega) hk
      exact ⟨j, by omega, b, c, d⟩
/-- All symbols of the lengths before. -/
def symsB (l : List Int) : Nat → List Int
  | 0 => []
  | n + 1 => symsB l n ++ (if n = 0 then [] else symsOf l n l.length)
theorem symsB_one (l : List Int) : symsB l 1 = [] := by simp [symsB]
theorem symsB_next (l : List Int) (n : Nat) (h : 1 ≤ n) : symsB l (n + 1) = symsB l n ++ symsOf l n l.length := by
  rw [symsB, if_neg (by omega)]
theorem symsB_len (l : List Int) : ∀ n, (symsB l n).length ≤ n * l.length
  | 0 => by simp [symsB]
  | n + 1 => by
    have h1 := symsB_len l n
    have h2 := symsOf_len l n l.length
    rw [symsB, List.length_append, Nat.add_mul]
    split <;> simp <;> omega
theorem symsB_split (l : List Int) (n : Nat) (h : 1 ≤ n) : ∀ d, ∃ r, symsB l (n + 1 + d) = symsB l n ++ (symsOf l n l.length ++ r)
  | 0 => ⟨[], by rw [Nat.add_zero, symsB_next l n h, List.append_nil]⟩
  | d + 1 => by
    obtain ⟨r, hr⟩ := symsB_split l n h d
    exact ⟨r ++ symsOf l (n + 1 + d) l.length, by rw [show n + 1 + (d + 1) = (n + 1 + d) + 1 by omega, symsB_next l _ (by omega), hr]; simp only [List.append_assoc]⟩
/-- The symbol that a code says. -/
theorem symsB_at (l : List Int) (n : Nat) (hn : n < 16) (h1 : 1 ≤ n) (k : Nat) (hk : (k : Int) < nth (lenCnt l) n) :
    (symsB l n).length + k < (symsB l 16).length ∧ ∃ j, j < l.length ∧ nth (symsB l 16) ((symsB l n).length + k) = (j : Int) ∧ nth l j = n ∧ codeI l j = lowF (lenCnt l) n + k := by
  have hc := symsOf_cnt l n hn h1 l.length (Nat.le_refl _)
  rw [cntN_all] at hc
  obtain ⟨r, hr⟩ := symsB_split l n h1 (15 - n)
  rw [show n + 1 + (15 - n) = 16 by omega] at hr
  have hk2 : k < (symsOf l n l.length).length := by omega
  obtain ⟨j, a, b, c, d⟩ := symsOf_at l n hn h1 l.length k (Nat.le_refl _) hk2
  refine ⟨by rw [hr]; simp; omega, j, a, ?_, c, ?_⟩
  · rw [hr, nth_append_right, nth_append_left _ _ _ hk2]; exact b
  · rw [posF_code l n j c]; unfold posF; unfold cntN at d; rw [d]
/-- Where each length's symbols begin. -/
def atL (l : List Int) (n : Nat) : List Int := (List.range 16).map fun m => if 1 ≤ m ∧ m < n then ((symsB l m).length : Int) else 0
theorem atL_len (l : List Int) (n : Nat) : (atL l n).length = 16 := by simp [atL]
theorem atL_one (l : List Int) : atL l 1 = List.replicate 16 0 := by
  refine List.ext_getElem (by simp [atL]) fun j h1 h2 => ?_
  simp only [atL, List.getElem_map, List.getElem_range, List.getElem_replicate]
  rw [if_neg (by omega)]
theorem atL_next (l : List Int) (n : Nat) (h1 : 1 ≤ n) (hn : n < 16) : atL l (n + 1) = (atL l n).set n ((symsB l n).length : Int) := by
  refine List.ext_getElem (by simp [atL]) fun j h1 h2 => ?_
  rw [List.getElem_set]
  simp only [atL, List.getElem_map, List.getElem_range]
  by_cases e : n = j
  · subst e; rw [if_pos rfl, if_pos (by omega)]
  · rw [if_neg e]
    by_cases e2 : 1 ≤ j ∧ j < n
    · rw [if_pos (by omega), if_pos e2]
    · rw [if_neg (by omega), if_neg e2]
theorem atL_at (l : List Int) (n : Nat) (h1 : 1 ≤ n) (hn : n < 16) : nth (atL l 16) n = ((symsB l n).length : Int) := by
  unfold atL; rw [show nth ((List.range 16).map fun m => if 1 ≤ m ∧ m < 16 then ((symsB l m).length : Int) else 0) n = (fun m => if 1 ≤ m ∧ m < 16 then ((symsB l m).length : Int) else 0) n by simp [nth, List.getD, hn]]
  simp only []
  rw [if_pos ⟨h1, hn⟩]
/-- The longest length before. -/
def longN (l : List Int) : Nat → Nat
  | 0 => 0
  | n + 1 => if 1 ≤ n ∧ 0 < nth (lenCnt l) n then n else longN l n
def longA (l : List Int) (n i : Nat) : Nat := if 0 < cntN l n i then n else longN l n
theorem longN_one (l : List Int) : longN l 1 = 0 := by simp [longN]
theorem longA_zero (l : List Int) (n : Nat) (hn : n < 16) : longA l n 0 = longN l n := by unfold longA; rw [cntN_zero l n hn, if_neg (by omega)]
theorem longA_all (l : List Int) (n : Nat) (h1 : 1 ≤ n) : longA l n l.length = longN l (n + 1) := by
  unfold longA
  rw [cntN_all, longN]
  by_cases h : 0 < nth (lenCnt l) n
  · rw [if_pos h, if_pos ⟨h1, h⟩]
  · rw [if_neg h, if_neg (fun h' => h h'.2)]
theorem longA_skip (l : List Int) (n i : Nat) (hn : n < 16) (hi : i < l.length) (h : nth l i ≠ n) : longA l n (i + 1) = longA l n i := by
  unfold longA; rw [cntN_skip l n i hn hi h]
theorem longA_step (l : List Int) (n i : Nat) (hn : n < 16) (h1 : 1 ≤ n) (hi : i < l.length) (h : nth l i = n) : longA l n (i + 1) = n := by
  unfold longA; rw [cntN_step l n i hn h1 hi h, if_pos (by have := cntN_nn l n i hn; omega)]
theorem longN_le (l : List Int) : ∀ n, longN l n < n ∨ n = 0
  | 0 => .inr rfl
  | n + 1 => by
    left
    rw [longN]
    split
    · omega
    · have := longN_le l n
      rcases this with h | h
      · omega
      · subst h; simp [longN]
theorem longN_top (l : List Int) : ∀ n m, longN l n < m → m < n → nth (lenCnt l) m ≤ 0 ∨ m = 0
  | 0, m, _, h => by omega
  | n + 1, m, h1, h2 => by
    rw [longN] at h1
    split at h1
    · omega
    · rename_i h3
      by_cases e : m = n
      · subst e
        by_cases h0 : m = 0
        · exact .inr h0
        · left; omega
      · exact longN_top l n m h1 (by omega)
theorem longN_has (l : List Int) : ∀ n, longN l n = 0 ∨ 0 < nth (lenCnt l) (longN l n)
  | 0 => .inl rfl
  | n + 1 => by
    rw [longN]
    split
    · rename_i h; exact .inr h.2
    · exact longN_has l n
end Go.Proofs.YtkpabdjniiepkaaDoor

set_option linter.unusedVariables false
set_option linter.unusedSimpArgs false
/-! Plain: what a decoder reads. -/
namespace Go.Proofs.YtkpabdjniiepkaaDoor
/-- What is read next: from the code so far, so many bits of it taken. -/
def decGo (l bs : List Int) (p : Nat) : Nat → Nat → Int → Int × Int × Nat
  | 0, _, _ => (0, 32, 0)
  | f + 1, n, x => if p + n + 1 ≤ 8 * bs.length then
      if 0 ≤ 2 * x + bitAt bs (p + n) - lowF (lenCnt l) (n + 1) ∧ 2 * x + bitAt bs (p + n) - lowF (lenCnt l) (n + 1) < nth (lenCnt l) (n + 1) then
        (nth (symsB l 16) ((symsB l (n + 1)).length + (2 * x + bitAt bs (p + n) - lowF (lenCnt l) (n + 1)).toNat), 0, n + 1)
      else decGo l bs p f (n + 1) (2 * x + bitAt bs (p + n))
    else (0, 10, 0)
def decF (l bs : List Int) (p : Nat) : Int × Int × Nat := decGo l bs p (longN l 16) 0 0
end Go.Proofs.YtkpabdjniiepkaaDoor

set_option linter.unusedVariables false
set_option linter.unusedSimpArgs false
namespace Go.Proofs.YtkpabdjniiepkaaDoor
open Go.RowKit
theorem ints_one' (k : IntKind) (xs : List Int) : ∀ v ∈ ints k xs, v.oneCell' = true := by
  intro u hu; simp only [ints, List.mem_map] at hu; obtain ⟨x, _, rfl⟩ := hu; rfl
/-- 's = append(s, ys...)' of bytes, whatever slice the source is. -/
theorem app_bytes {ops : Array Oper} {rest : List Oper} {o : Oper} {a : Act} {Q : Exit → Act → World → Prop} {w : World} (hgd : o.guard = none) (s x : Operand)
    (ho : o.op = .call { callee := .builtin .append, args := #[s, x], argTypes := #[22, 22] })
    (base : Nat) (v : Value) (n : Nat) (xs : List Int) (hs : a.eval s = v) (hown : w.ownsRow base 5 1 v n (ints .u8 xs))
    (A : Option Addr) (m c : Nat) (ys : List Int) (hx : a.eval x = .slice A m c) (hy : RI .u8 w A m ys) (hnil : A = none → m = 0 ∧ c = 0)
    (hn : n + m ≤ 8000000000) (hbase : base ≤ w.heap.size)
    (h : ∀ v' w', w'.ownsRow base 5 1 v' (n + m) (ints .u8 (xs ++ ys)) → w.grownBy w' v.ownBlock → wpList Tryd.prog ops Q rest (a.put o.dst v') w') : wpList Tryd.prog ops Q (o :: rest) a w := by
  obtain ⟨i0, hi, hz0, hz1, hz2⟩ := info_parts info_u8
  cases A with
  | none =>
    obtain ⟨rfl, rfl⟩ := hnil rfl
    obtain rfl : ys = [] := List.eq_nil_of_length_eq_zero hy.len
    refine wpList_append_own_none hgd s x 22 ho base 5 i0 1 Tryd.underlying22 hi v n (ints .u8 xs) hs hown hx ?_
    exact h v w (by simpa using hown) ⟨rfl, rfl, rfl, Nat.le_refl _, fun _ _ _ => rfl⟩
  | some ad =>
    refine wpList_append_own _ hgd s x 22 ho base 5 i0 (.int .u8 0) 1 1 Tryd.underlying22 hi hz0 hz1 hz2 rfl (by decide) v n (ints .u8 xs) hs hown ad m c (ints .u8 ys) hx (by simp [ints, hy.len]) ?_ (ints_one' _ _) (by unfold maxLen; omega) (by omega) hbase ?_
    · intro j u hu
      have hj : j < m := by have := (List.getElem?_eq_some_iff.1 hu).1; have := hy.len; simp [ints] at *; omega
      obtain ⟨b, of, hab⟩ := hy.hd (by omega)
      obtain rfl := Option.some.inj hab
      rw [add_plain2]
      have hc := hy.cell b of rfl j hj
      rw [hc, ← hu, ints_getElem?]
      simp [nth, List.getD, show j < ys.length by have := hy.len; omega]
    · intro v' w' h2 h3 _
      have e : ints .u8 (xs ++ ys) = ints .u8 xs ++ ints .u8 ys := by simp [ints]
      rw [e] at h
      exact h v' w' h2 h3
end Go.Proofs.YtkpabdjniiepkaaDoor

set_option linter.unusedVariables false
set_option linter.unusedSimpArgs false
namespace Go.Proofs.YtkpabdjniiepkaaDoor
open Go.RowKit
/-- The first bits of bytes. -/
def bitsP (bs : List Int) (m : Nat) : List Int := (List.range m).map (bitAt bs)
theorem bitsP_len (bs : List Int) (m : Nat) : (bitsP bs m).length = m := by simp [bitsP]
theorem bitsP_succ (bs : List Int) (m : Nat) : bitsP bs (m + 1) = bitsP bs m ++ [bitAt bs m] := by simp [bitsP, List.range_succ]
theorem bitsP_nth (bs : List Int) (m j : Nat) (h : j < m) : nth (bitsP bs m) j = bitAt bs j := by simp [bitsP, nth, List.getD, h]
theorem ri_one (w : World) (k : IntKind) (t : TypeId) (x : Int) : RI k (w.alloc (.cells #[.int k x] t)) (some ⟨w.heap.size, 0, none⟩) 1 [x] := by
  have := (blk_new w t (ints k [x]))
  have h2 := Blk.ri (xs := [x]) (ys := []) (k := k) (by simpa [ints] using this)
  exact h2
set_option maxRecDepth 100000 in
set_option maxHeartbeats 1000000 in
theorem of_calls (w : World) (A : Option Addr) (n c : Nat) (bs : List Int) (hr : RI .u8 w A n bs) (hbyte : ∀ j, 0 ≤ nth bs j ∧ nth bs j ≤ 255) (hn : n ≤ 10000000) :
    Calls Tryd.prog 67 #[.slice A n c] w fun e w' => ∃ v, e = .returned v ∧ w'.ownsRow w.heap.size 5 1 v (8 * n) (ints .u8 (bitsP bs (8 * n))) ∧ Below w.heap.size w w' := by
  have HR := Lib.hid hr
  have HBY := Lib.hid hbyte
  clear hr hbyte
  go_enter Tryd.func67, Tryd.ntmps67
  go_wp2_with fail
  go_loopw [3, 4] (fun v iv wr => ∃ i : Nat, i ≤ n ∧ iv = .int .i64 i ∧ Hid (wr.ownsRow w.heap.size 5 1 v (8 * i) (ints .u8 (bitsP bs (8 * i)))) ∧ Hid (Below w.heap.size w wr)) (fun _ iv _ => n - (intOf iv).toNat)
  case atStart => exact ⟨0, by omega, rfl, Lib.hid (World.ownsRow_nil _ _ _ _), Lib.hid (Below.refl _ _)⟩
  case round =>
    rename_i v _ _
    obtain ⟨i, hi, rfl, HO, HB⟩ := hrel
    by_cases hlt : i < n
    · obtain ⟨b, o, rfl, hc⟩ := HR.out.at hlt
      have hc := (Keeps.of_below (S := []) HB.out).cell (by simp) hc
      obtain ⟨hb0, hb1⟩ := HBY.out i
      obtain ⟨wm, rfl⟩ : ∃ wm : World, wm = wr := ⟨_, rfl⟩
      go_wp2_with fail
      go_loopw [3, 5, 6] (fun v cv kv wr => ∃ (k : Nat) (x : Int), k ≤ 8 ∧ kv = .int .i64 k ∧ cv = .int .u8 x ∧ 0 ≤ x ∧ x ≤ 255 ∧ Hid (x = nth bs i / 2 ^ k) ∧ Hid (wr.ownsRow w.heap.size 5 1 v (8 * i + k) (ints .u8 (bitsP bs (8 * i + k)))) ∧ Hid (Below w.heap.size w wr)) (fun _ _ kv _ => 8 - (intOf kv).toNat)
      case atStart => exact ⟨0, nth bs i, by omega, rfl, rfl, hb0, hb1, Lib.hid (by simp), HO, HB⟩
      case round =>
        clear HO HB
        obtain ⟨k, x, hk, rfl, rfl, hx0, hx1, HX, HO, HB⟩ := hrel
        by_cases hlk : k < 8
        · have HBIT : Hid (bitAt bs (8 * i + k) = x % 2) := by
            show _ = _
            unfold bitAt
            rw [HX.out, show (8 * i + k) / 8 = i by omega, show (8 * i + k) % 8 = k by omega]
          have hge := HB.out.size
          have e3 : x.tmod 2 = x % 2 := by rw [Int.tmod_eq_emod_of_nonneg hx0]
          have e4 : x % 2 % 256 = x % 2 := by omega
          have HRI : Hid (RI .u8 (wr.alloc (.cells #[.int .u8 (x % 2)] 5)) (some ⟨wr.heap.size, 0, none⟩) 1 [x % 2]) := Lib.hid (ri_one wr _ _ _)
          have HOA := Lib.hid (own_keeps HO.out ((Keeps.refl [] wr).alloc (.cells #[.int .u8 (x % 2)] 5)) (by simp))
          have HBA := Lib.hid (HB.out.alloc hge (.cells #[.int .u8 (x % 2)] 5))
          clear HO HB
          go_wp2_with (at_builtin; refine app_bytes rfl (.tmp 21) (.tmp 24) rfl w.heap.size _ _ _ rfl (by exact HOA.out) _ 1 1 [x % 2] rfl (by exact HRI.out) ?c1 ?c3 ?c4 ?_)
          case c1 => simp
          case c3 => omega
          case c4 => simp; omega
          intro v' w1 hv hg
          have HO1 : Hid (w1.ownsRow w.heap.size 5 1 v' (8 * i + (k + 1)) (ints .u8 (bitsP bs (8 * i + (k + 1))))) := by
            rw [← Nat.add_assoc, bitsP_succ, HBIT.out]; exact hv
          have HB1 := Lib.hid (HBA.out.grown hg (by simp; omega) (fun k hk => (HOA.out.lt k hk).1))
          clear hv hg HOA HBA
          go_wp2_with fail
          go_roundw
          case rel => exact ⟨k + 1, x / 2, by omega, by go_num, rfl, by omega, by omega, Lib.hid (by rw [HX.out, div_two]), HO1, HB1⟩
          case measure => simp [intOf]; omega
        · obtain rfl : k = 8 := by omega
          go_wp2_with fail
          go_roundw
          case rel => exact ⟨i + 1, by omega, by go_num, HO, HB⟩
          case measure => simp [intOf]; omega
    · obtain rfl : i = n := by omega
      go_wp2_with fail
      go_ret
      exact ⟨_, rfl, HO.out, HB.out⟩
end Go.Proofs.YtkpabdjniiepkaaDoor

/- slices.Grow of no slice, appends of whole numbers. -/
set_option linter.unusedVariables false
set_option linter.unusedSimpArgs false
namespace Go.Proofs.YtkpabdjniiepkaaDoor
open Go.RowKit
theorem ints_one2 (k : IntKind) (xs : List Int) : ∀ v ∈ ints k xs, v.oneCell' = true := by
  intro u hu; simp only [ints, List.mem_map] at hu; obtain ⟨x, _, rfl⟩ := hu; rfl
theorem own_lo {w : World} {base : Nat} {e : TypeId} {size n : Nat} {v : Value} {xs : List Value} (h : w.ownsRow base e size v n xs) (k : Nat) (hk : v.ownBlock = some k) : base ≤ k := by
  rcases h.2 with ⟨rfl, _⟩ | ⟨g, cap, cur, rfl, hb, _⟩
  · simp [Value.ownBlock] at hk
  · have : g = k := by simpa [Value.ownBlock] using hk
    omega
theorem own_hi {w : World} {base : Nat} {e : TypeId} {size n : Nat} {v : Value} {xs : List Value} (h : w.ownsRow base e size v n xs) (k : Nat) (hk : v.ownBlock = some k) : k < w.heap.size := by
  rcases h.2 with ⟨rfl, _⟩ | ⟨g, cap, cur, rfl, hb, hh, _⟩
  · simp [Value.ownBlock] at hk
  · have : g = k := by simpa [Value.ownBlock] using hk
    subst this
    exact (Array.getElem?_eq_some_iff.1 hh).1
/-- 's = append(s, ys...)' of numbers, whatever slice the source is. -/
theorem app_intsG {ops : Array Oper} {rest : List Oper} {o : Oper} {a : Act} {Q : Exit → Act → World → Prop} {w : World} (hgd : o.guard = none) (s x : Operand)
    (ho : o.op = .call { callee := .builtin .append, args := #[s, x], argTypes := #[51, 51] })
    (base : Nat) (v : Value) (n : Nat) (xs : List Int) (hs : a.eval s = v) (hown : w.ownsRow base 3 1 v n (ints .i64 xs))
    (A : Option Addr) (m c : Nat) (ys : List Int) (hx : a.eval x = .slice A m c) (hy : RI .i64 w A m ys) (hnil : A = none → m = 0 ∧ c = 0) (hpl : ∀ ad, A = some ad → ∃ b o, ad = ⟨b, o, none⟩)
    (hn : n + m ≤ 8000000000) (hbase : base ≤ w.heap.size)
    (h : ∀ v' w', w'.ownsRow base 3 1 v' (n + m) (ints .i64 (xs ++ ys)) → w.grownBy w' v.ownBlock → wpList Tryd.prog ops Q rest (a.put o.dst v') w') : wpList Tryd.prog ops Q (o :: rest) a w := by
  obtain ⟨i0, hi, hz0, hz1, hz2⟩ := info_parts info_int
  cases A with
  | none =>
    obtain ⟨rfl, rfl⟩ := hnil rfl
    obtain rfl : ys = [] := List.eq_nil_of_length_eq_zero hy.len
    refine wpList_append_own_none hgd s x 51 ho base 3 i0 1 Tryd.underlying51 hi v n (ints .i64 xs) hs hown hx ?_
    exact h v w (by simpa using hown) ⟨rfl, rfl, rfl, Nat.le_refl _, fun _ _ _ => rfl⟩
  | some ad =>
    obtain ⟨b, of, rfl⟩ := hpl ad rfl
    refine wpList_append_own _ hgd s x 51 ho base 3 i0 (.int .i64 0) 1 8 Tryd.underlying51 hi hz0 hz1 hz2 rfl (by decide) v n (ints .i64 xs) hs hown ⟨b, of, none⟩ m c (ints .i64 ys) hx (by simp [ints, hy.len]) ?_ (ints_one2 _ _) (by unfold maxLen; omega) (by omega) hbase ?_
    · intro j u hu
      have hj : j < m := by have := (List.getElem?_eq_some_iff.1 hu).1; have := hy.len; simp [ints] at *; omega
      rw [add_plain2]
      have hc := hy.cell b of rfl j hj
      rw [hc, ← hu, ints_getElem?]
      simp [nth, List.getD, show j < ys.length by have := hy.len; omega]
    · intro v' w' h2 h3 _
      have e : ints .i64 (xs ++ ys) = ints .i64 xs ++ ints .i64 ys := by simp [ints]
      rw [e] at h
      exact h v' w' h2 h3
theorem grow_run (w : World) (n : Nat) (h0 : 0 < n) (hn : n ≤ 4000000000) : ∃ c w1, (∀ ty, (Builtin.append_ #[51, 3] ty #[.slice none 0 0, .int .i64 n]).run Tryd.prog w = .ok (.slice (some ⟨w.heap.size, 0, none⟩) n c) w1) ∧
    (∀ base, base ≤ w.heap.size → w1.ownsRow base 3 1 (.slice (some ⟨w.heap.size, 0, none⟩) 0 c) 0 []) ∧ n ≤ c ∧ c ≤ 9223372036854775807 ∧ Below w.heap.size w w1 := by
  obtain ⟨i0, hi, hz0, hz1, hz2⟩ := info_parts info_int
  have hr := fun ty => Lib.run_append_grow_zeros w 51 3 ty 3 i0 (.int .i64 0) .i64 .i64 Tryd.underlying51 Tryd.underlying3 hi hz0 none 0 0 [] (run_firstCells_none w.drew i0.size 0 0 0) n h0 (by rw [hz1]; decide) (by omega) (by omega) (by rw [hz2]; omega) (by rw [hz2]; exact growslice_fits (by omega) (by omega))
  simp only [Nat.zero_add] at hr
  have hge := grownCap_ge w n 0 3
  have hcm := grownCap_le_maxLen w n 0 3 (by unfold maxLen; omega)
  refine ⟨_, _, hr, fun base hb => ?_, hge, by unfold maxLen at hcm; exact hcm, ?_⟩
  · refine ⟨rfl, .inr ⟨w.heap.size, _, _, rfl, hb, heap_alloc_new w.drew _, Nat.zero_le _, hcm, ?_, rfl⟩⟩
    simp [size_zeroCells, Value.cells]
    omega
  · exact ((Below.refl _ _).drew).alloc (Nat.le_refl _) _
/-- An append, its run being known. -/
theorem wpList_append_run {ops : Array Oper} {rest : List Oper} {o : Oper} {a : Act} {Q : Exit → Act → World → Prop} {w w1 : World} (hgd : o.guard = none) (s x : Operand) (t ti : TypeId)
    (ho : o.op = .call { callee := .builtin .append, args := #[s, x], argTypes := #[t, ti] }) (u y v : Value) (hs : a.eval s = u) (hx : a.eval x = y)
    (hrun : ∀ ty, (Builtin.append_ #[t, ti] ty #[u, y]).run Tryd.prog w = .ok v w1) (h : wpList Tryd.prog ops Q rest (a.put o.dst v) w1) : wpList Tryd.prog ops Q (o :: rest) a w := by
  refine wpList_plain hgd fun K hK => ?_
  unfold Oper.wp
  simp [execOp, ho, resolve, invoke, builtin, hs, hx, hrun, Result.andThen]
  exact hK _ _ h
set_option maxRecDepth 100000 in
set_option maxHeartbeats 1000000 in
theorem grow_calls' (w : World) (A : Option Addr) (hA : A = none) (n : Nat) (hn : n ≤ 4000000000) :
    Calls Tryd.prog 54 #[.slice A 0 0, .int .i64 n] w fun e w' => ∃ v, e = .returned v ∧ (∀ base, base ≤ w.heap.size → w'.ownsRow base 3 1 v 0 []) ∧ Below w.heap.size w w' := by
  have e0 : decide ((n : Int) < 0) = false := by simp
  have HA := Lib.hid hA
  clear hA
  by_cases h0 : 0 < n
  · obtain ⟨c, w1, hr, ho, hc, hc2, hb⟩ := grow_run w n h0 hn
    have e1 : decide ((0 : Int) < n) = true := by simp; omega
    have HO := Lib.hid ho
    have HB := Lib.hid hb
    have HR := Lib.hid hr
    clear ho hb hr
    go_enter Tryd.func54, Tryd.ntmps54
    go_wp2_with (with_reducible refine wpList_append_run rfl (.tmp 20) (.tmp 21) _ _ rfl (.slice A 0 0) (.int .i64 n) _ rfl rfl (by rw [HA.out]; exact HR.out) ?_)
    go_wp2
    go_ret
    exact ⟨_, rfl, HO.out, HB.out⟩
  · obtain rfl : n = 0 := by omega
    go_enter Tryd.func54, Tryd.ntmps54
    go_wp2
    go_ret
    exact ⟨_, rfl, fun base _ => by rw [HA.out]; exact World.ownsRow_nil _ _ _ _, Below.refl _ _⟩
theorem grow_calls (w : World) (n : Nat) (hn : n ≤ 4000000000) :
    Calls Tryd.prog 54 #[.slice none 0 0, .int .i64 n] w fun e w' => ∃ v, e = .returned v ∧ (∀ base, base ≤ w.heap.size → w'.ownsRow base 3 1 v 0 []) ∧ Below w.heap.size w w' := grow_calls' w none rfl n hn
end Go.Proofs.YtkpabdjniiepkaaDoor

/- Rows of bytes, in memory. -/
set_option linter.unusedVariables false
set_option linter.unusedSimpArgs false
namespace Go.Proofs.YtkpabdjniiepkaaDoor
open Go.RowKit
def rth (rs : List (List Int)) (j : Nat) : List Int := rs.getD j []
theorem rth_lt {rs : List (List Int)} {j : Nat} (h : j < rs.length) : rth rs j = rs[j] := by simp [rth, List.getD, h]
/-- A block of slices, each of bytes in memory behind it. -/
def RB (w : World) (g n : Nat) (rs : List (List Int)) : Prop :=
  rs.length = n ∧ ∃ vs : List Value, vs.length = n ∧ Blk w g 22 vs ∧ ∀ j v, vs[j]? = some v → w.ownsRow (g + 1) 5 1 v (rth rs j).length (ints .u8 (rth rs j))
theorem RB.len {w : World} {g n : Nat} {rs : List (List Int)} (h : RB w g n rs) : rs.length = n := h.1
theorem RB.lt {w : World} {g n : Nat} {rs : List (List Int)} (h : RB w g n rs) : g < w.heap.size := by
  obtain ⟨_, vs, _, h2, _⟩ := h; exact h2.lt
theorem RB.keeps {w w' : World} {g n : Nat} {rs : List (List Int)} {S : List Nat} (h : RB w g n rs) (hk : Keeps S w w') (hS : ∀ x ∈ S, x < g ∨ w.heap.size ≤ x) : RB w' g n rs := by
  obtain ⟨h0, vs, h1, h2, h3⟩ := h
  refine ⟨h0, vs, h1, h2.keeps hk (fun hm => by have := h2.lt; rcases hS g hm with h | h <;> omega), fun j v hv => own_keeps (h3 j v hv) hk fun x hx hm => ?_⟩
  have a := own_lo (h3 j v hv) x hx
  have b := own_hi (h3 j v hv) x hx
  rcases hS x hm with h | h <;> omega
theorem RB.below {w w' : World} {g n : Nat} {rs : List (List Int)} (h : RB w g n rs) (hk : Below w.heap.size w w') : RB w' g n rs := h.keeps (Keeps.of_below (S := []) hk) (by simp)
theorem RB.set {w : World} {g n : Nat} {rs : List (List Int)} (h : RB w g n rs) (i : Nat) (v : Value) (row : List Int) (ho : w.ownsRow (g + 1) 5 1 v row.length (ints .u8 row)) :
    RB (w.setCell ⟨g, i, none⟩ v) g n (rs.set i row) := by
  obtain ⟨h0, vs, h1, h2, h3⟩ := h
  have hk : Keeps [g] w (w.setCell ⟨g, i, none⟩ v) := (Keeps.refl [g] w).setCell (Or.inl (by simp)) v
  have hne : ∀ {u : Value} {m : Nat} {xs : List Value}, w.ownsRow (g + 1) 5 1 u m xs → ∀ x, u.ownBlock = some x → x ∉ [g] := fun ho x hx hm => by
    have := own_lo ho x hx; rw [List.mem_singleton.1 hm] at this; omega
  refine ⟨by simp [h0], vs.set i v, by simp [h1], h2.set i v, fun j u hu => ?_⟩
  rw [List.getElem?_set] at hu
  by_cases e : i = j
  · subst e
    by_cases hj : i < vs.length
    · rw [if_pos rfl, if_pos hj] at hu
      obtain rfl := Option.some.inj hu
      have : rth (rs.set i row) i = row := by simp [rth, List.getD, show i < rs.length by omega]
      rw [this]
      exact own_keeps ho hk (hne ho)
    · rw [if_pos rfl, if_neg hj] at hu; simp at hu
  · rw [if_neg e] at hu
    have : rth (rs.set i row) j = rth rs j := by simp [rth, List.getD, e]
    rw [this]
    exact own_keeps (h3 j u hu) hk (hne (h3 j u hu))
theorem RB.new (w : World) (n : Nat) : RB (w.alloc (.cells (List.replicate n (Value.slice none 0 0)).toArray 22 (0, 0))) w.heap.size n (List.replicate n []) := by
  refine ⟨by simp, _, by simp, blk_new w _ _, fun j v hv => ?_⟩
  have hj : j < n := by
    have := (List.getElem?_eq_some_iff.1 hv).1; simpa using this
  have e : v = .slice none 0 0 := by
    rw [List.getElem?_eq_getElem (by simpa using hj)] at hv; simpa using hv.symm
  have e2 : rth (List.replicate n []) j = [] := by simp [rth, List.getD, hj]
  rw [e, e2]
  exact World.ownsRow_nil _ _ _ _
theorem RB.at {w : World} {g n : Nat} {rs : List (List Int)} (h : RB w g n rs) {j : Nat} (hj : j < n) :
    ∃ A c, w.cell? ⟨g, j, none⟩ = some (.slice A (rth rs j).length c) ∧ RI .u8 w A (rth rs j).length (rth rs j) ∧ (∀ a, A = some a → g + 1 ≤ a.block ∧ a.block < w.heap.size) := by
  obtain ⟨h0, vs, h1, h2, h3⟩ := h
  obtain ⟨A, c, e, hr, _, ha⟩ := own_ri (h3 j _ (List.getElem?_eq_getElem (by omega)))
  refine ⟨A, c, ?_, hr, fun a h => ⟨(ha a h).1, (ha a h).2.1⟩⟩
  rw [h2.cell, List.getElem?_eq_getElem (by omega), e]
theorem RB.free {w : World} {g n : Nat} {rs : List (List Int)} (h : RB w g n rs) (j : Nat) : w.frozen? ⟨g, j, none⟩ = false := by
  obtain ⟨_, vs, _, h2, _⟩ := h; exact h2.frozen j
theorem info_row : (Tryd.prog.info? 22).map (fun i => (i.zero, i.size, i.bytes)) = some (some (.slice none 0 0), 1, 24) := by kernel_rfl
set_option maxRecDepth 100000 in
/-- 'make([][]byte, n)'. -/
theorem make_rows (w : World) (n : Nat) (hn : n ≤ 1000000) :
    (Instr.makeSlice 39 (.int .i64 n) (.int .i64 n)).run Tryd.prog w = .ok (.slice (some ⟨w.heap.size, 0, none⟩) n n) (w.alloc (.cells (List.replicate n (Value.slice none 0 0)).toArray 22)) := by
  obtain ⟨i, hi, hz, hs, hb⟩ := info_parts info_row
  have e1 : (i.bytes : Int) * (n : Int) ≤ 281474976710656 := by rw [hb]; omega
  rw [run_make w 39 22 i _ Tryd.underlying39 hi hz .i64 .i64 n n (by omega) (Int.le_refl _) e1 (by omega)]
  simp only [Int.toNat_natCast]
  congr 4
  rw [hs, Nat.mul_one]
  apply Array.toList_inj.1
  show (madeCells #[.slice none 0 0] n).toList = _
  rw [toList_madeCells_one]
end Go.Proofs.YtkpabdjniiepkaaDoor

set_option linter.unusedVariables false
set_option linter.unusedSimpArgs false
/-! Plain mathematics: the reference's reading of a symbol, and that the decoder's is the same. -/
namespace Go.Proofs.YtkpabdjniiepkaaDoor
/-- How many bits of a row are those from a place on. -/
def agr (row bits : List Int) (p : Nat) : Nat → Nat → Nat
  | 0, n => n
  | f + 1, n => if n < row.length ∧ p + n < bits.length ∧ nth row n = nth bits (p + n) then agr row bits p f (n + 1) else n
def agrN (row bits : List Int) (p : Nat) : Nat := agr row bits p row.length 0
/-- The reference's reading: symbol, bits, what is wrong. -/
def nextG (rows : List (List Int)) (bits : List Int) (p : Nat) : Nat → Nat → Bool → Int × Nat × Int
  | 0, _, b => (0, 0, if b then 10 else 32)
  | f + 1, i, b => if (rth rows i).length = 0 then nextG rows bits p f (i + 1) b else
      if agrN (rth rows i) bits p = (rth rows i).length then (i, (rth rows i).length, 0)
      else nextG rows bits p f (i + 1) (b || decide (p + agrN (rth rows i) bits p = bits.length))
def nextR (rows : List (List Int)) (bits : List Int) (p : Nat) : Int × Nat × Int := nextG rows bits p rows.length 0 false
theorem agr_spec (row bits : List Int) (p : Nat) : ∀ f n, n + f = row.length → n ≤ agr row bits p f n ∧ agr row bits p f n ≤ row.length ∧ (∀ t, n ≤ t → t < agr row bits p f n → p + t < bits.length ∧ nth row t = nth bits (p + t)) ∧
    (agr row bits p f n = row.length ∨ bits.length ≤ p + agr row bits p f n ∨ nth row (agr row bits p f n) ≠ nth bits (p + agr row bits p f n))
  | 0, n, h => by
    unfold agr
    exact ⟨Nat.le_refl _, by omega, fun t h1 h2 => by omega, .inl (by omega)⟩
  | f + 1, n, h => by
    unfold agr
    split
    · next hc =>
      obtain ⟨h1, h2, h3, h4⟩ := agr_spec row bits p f (n + 1) (by omega)
      refine ⟨by omega, h2, fun t ht1 ht2 => ?_, h4⟩
      by_cases ht : t = n
      · subst ht; exact ⟨hc.2.1, hc.2.2⟩
      · exact h3 t (by omega) ht2
    · next hc =>
      refine ⟨Nat.le_refl _, by omega, fun t h1 h2 => by omega, ?_⟩
      by_cases h1 : bits.length ≤ p + n
      · exact .inr (.inl h1)
      · refine .inr (.inr fun h2 => hc ⟨by omega, by omega, h2⟩)
theorem agrN_spec (row bits : List Int) (p : Nat) : agrN row bits p ≤ row.length ∧ (∀ t, t < agrN row bits p → p + t < bits.length ∧ nth row t = nth bits (p + t)) ∧
    (agrN row bits p = row.length ∨ bits.length ≤ p + agrN row bits p ∨ nth row (agrN row bits p) ≠ nth bits (p + agrN row bits p)) := by
  obtain ⟨_, h2, h3, h4⟩ := agr_spec row bits p row.length 0 (by omega)
  exact ⟨h2, fun t ht => h3 t (by omega) ht, h4⟩
theorem agrN_full {row bits : List Int} {p : Nat} (h : ∀ t, t < row.length → p + t < bits.length ∧ nth row t = nth bits (p + t)) : agrN row bits p = row.length := by
  obtain ⟨h1, _, h3⟩ := agrN_spec row bits p
  rcases Nat.lt_or_ge (agrN row bits p) row.length with hlt | hge
  · obtain ⟨a, b⟩ := h _ hlt
    rcases h3 with h3 | h3 | h3
    · omega
    · omega
    · exact absurd b h3
  · omega
theorem nextG_hit (rows : List (List Int)) (bits : List Int) (p j : Nat) (hj : 0 < (rth rows j).length) (ha : agrN (rth rows j) bits p = (rth rows j).length) :
    ∀ f i b, i ≤ j → j < i + f → (∀ t, t < j → 0 < (rth rows t).length → agrN (rth rows t) bits p ≠ (rth rows t).length) → nextG rows bits p f i b = ((j : Int), (rth rows j).length, 0)
  | 0, i, b, h1, h2, _ => by omega
  | f + 1, i, b, h1, h2, h3 => by
    rw [nextG]
    by_cases hi : i = j
    · subst hi
      rw [if_neg (by omega), if_pos ha]
    · by_cases hz : (rth rows i).length = 0
      · rw [if_pos hz]; exact nextG_hit rows bits p j hj ha f (i + 1) b (by omega) (by omega) h3
      · rw [if_neg hz, if_neg (h3 i (by omega) (by omega))]
        exact nextG_hit rows bits p j hj ha f (i + 1) _ (by omega) (by omega) h3
theorem nextG_begins (rows : List (List Int)) (bits : List Int) (p : Nat) :
    ∀ f i b, (∀ t, i ≤ t → t < i + f → 0 < (rth rows t).length → agrN (rth rows t) bits p ≠ (rth rows t).length) → (b = true ∨ ∃ j, i ≤ j ∧ j < i + f ∧ 0 < (rth rows j).length ∧ p + agrN (rth rows j) bits p = bits.length) → nextG rows bits p f i b = (0, 0, 10)
  | 0, i, b, h1, h2 => by
    rcases h2 with rfl | ⟨j, a, b, _⟩
    · rfl
    · omega
  | f + 1, i, b, h1, h2 => by
    rw [nextG]
    by_cases hz : (rth rows i).length = 0
    · rw [if_pos hz]
      refine nextG_begins rows bits p f (i + 1) b (fun t a b => h1 t (by omega) (by omega)) ?_
      rcases h2 with rfl | ⟨j, a, b, c, d⟩
      · exact .inl rfl
      · refine .inr ⟨j, ?_, by omega, c, d⟩
        rcases Nat.lt_or_ge i j with h | h
        · omega
        · obtain rfl : i = j := by omega
          omega
    · rw [if_neg hz, if_neg (h1 i (by omega) (by omega) (by omega))]
      refine nextG_begins rows bits p f (i + 1) _ (fun t a b => h1 t (by omega) (by omega)) ?_
      rcases h2 with rfl | ⟨j, a, b, c, d⟩
      · exact .inl rfl
      · rcases Nat.lt_or_ge i j with h | h
        · exact .inr ⟨j, by omega, by omega, c, d⟩
        · obtain rfl : i = j := by omega
          exact .inl (by simp [d])
theorem nextG_none (rows : List (List Int)) (bits : List Int) (p : Nat) :
    ∀ f i, (∀ t, i ≤ t → t < i + f → 0 < (rth rows t).length → agrN (rth rows t) bits p ≠ (rth rows t).length ∧ p + agrN (rth rows t) bits p ≠ bits.length) → nextG rows bits p f i false = (0, 0, 32)
  | 0, i, h1 => rfl
  | f + 1, i, h1 => by
    rw [nextG]
    by_cases hz : (rth rows i).length = 0
    · rw [if_pos hz]
      exact nextG_none rows bits p f (i + 1) (fun t a b => h1 t (by omega) (by omega))
    · obtain ⟨a, b⟩ := h1 i (by omega) (by omega) (by omega)
      rw [if_neg hz, if_neg a, decide_eq_false b]
      exact nextG_none rows bits p f (i + 1) (fun t a b => h1 t (by omega) (by omega))
/-! Places of codes. -/
theorem posF_le (l : List Int) (n : Nat) (hn : n < 16) (h1 : 1 ≤ n) (i : Nat) : ∀ d, i + d ≤ l.length → posF l n i ≤ posF l n (i + d)
  | 0, _ => Int.le_refl _
  | d + 1, h => by
    have := posF_le l n hn h1 i d (by omega)
    by_cases hx : nth l (i + d) = n
    · have := posF_step l n (i + d) hn h1 (by omega) hx
      rw [← Nat.add_assoc]; omega
    · have := posF_skip l n (i + d) hn (by omega) hx
      rw [← Nat.add_assoc]; omega
theorem codeI_bd (l : List Int) (n j : Nat) (hn : n < 16) (h1 : 1 ≤ n) (hj : j < l.length) (h : nth l j = n) : lowF (lenCnt l) n ≤ codeI l j ∧ codeI l j < lowF (lenCnt l) n + nth (lenCnt l) n := by
  rw [posF_code l n j h]
  have a := posF_step l n j hn h1 hj h
  have b := posF_le l n hn h1 (j + 1) (l.length - (j + 1)) (by omega)
  rw [show j + 1 + (l.length - (j + 1)) = l.length by omega] at b
  have c : posF l n l.length = lowF (lenCnt l) n + nth (lenCnt l) n := by
    unfold posF; rw [List.take_length]
  have d := cntN_nn l n j hn
  unfold cntN at d
  refine ⟨?_, by omega⟩
  unfold posF; omega
theorem codeI_ne (l : List Int) (n i j : Nat) (hn : n < 16) (h1 : 1 ≤ n) (hij : i < j) (hj : j < l.length) (hi : nth l i = n) (hj' : nth l j = n) : codeI l i < codeI l j := by
  rw [posF_code l n i hi, posF_code l n j hj']
  have a := posF_step l n i hn h1 (by omega) hi
  have b := posF_le l n hn h1 (i + 1) (j - (i + 1)) (by omega)
  rw [show i + 1 + (j - (i + 1)) = j by omega] at b
  omega
/-! How much of all codes is taken. -/
def partN (n : Nat) (x : Int) : Nat := if 0 < x ∧ x ≤ n then 2 ^ (15 - x).toNat else 0
def takenN (l : List Int) (n : Nat) : Nat := (l.map (partN n)).sum
theorem lenCnt_cons (x : Int) (l : List Int) (n : Nat) (hn : n < 16) : nth (lenCnt (x :: l)) n = nth (lenCnt l) n + if 0 < x ∧ x = (n : Int) then 1 else 0 := by
  unfold lenCnt
  rw [cntF_nth _ _ _ hn, cntF_nth _ _ _ hn]
  by_cases h0 : 0 < x
  · rw [List.filter_cons_of_pos (by simpa using h0), List.count_cons]
    by_cases hx : x = n
    · rw [if_pos (c := 0 < x ∧ x = n) ⟨h0, hx⟩, show (x == (n : Int)) = true by simpa using hx]; simp
    · rw [if_neg (c := 0 < x ∧ x = n) (fun h => hx h.2), show (x == (n : Int)) = false by simpa using hx]; simp
  · rw [List.filter_cons_of_neg (by simpa using h0), if_neg (c := 0 < x ∧ x = n) (fun h => h0 h.1)]; simp
theorem lenCnt_zero (l : List Int) : nth (lenCnt l) 0 = 0 := by
  induction l with
  | nil => unfold lenCnt; rw [cntF_nth _ _ _ (by omega)]; simp
  | cons x l ih =>
    rw [lenCnt_cons x l 0 (by omega), ih, if_neg (by omega)]; rfl
theorem takenN_zero (l : List Int) : takenN l 0 = 0 := by
  induction l with
  | nil => rfl
  | cons x l ih =>
    unfold takenN at *
    rw [List.map_cons, List.sum_cons, ih]; unfold partN; rw [if_neg (by omega)]
theorem takenN_succ (l : List Int) (n : Nat) (hn : n < 15) : (takenN l (n + 1) : Int) = takenN l n + nth (lenCnt l) (n + 1) * 2 ^ (15 - (n + 1)) := by
  induction l with
  | nil => unfold lenCnt; rw [cntF_nth _ _ _ (by omega)]; simp [takenN]
  | cons x l ih =>
    rw [lenCnt_cons x l (n + 1) (by omega)]
    have e : ∀ m, takenN (x :: l) m = partN m x + takenN l m := fun m => by unfold takenN; rw [List.map_cons, List.sum_cons]
    rw [e, e]
    push_cast
    rw [ih, Int.add_mul]
    have : (partN (n + 1) x : Int) = partN n x + (if 0 < x ∧ x = (n : Int) + 1 then 1 else 0) * 2 ^ (15 - (n + 1)) := by
      unfold partN
      by_cases hx : x = (n : Int) + 1
      · rw [if_pos (by omega), if_neg (by omega), if_pos (by omega), hx, show ((15 : Int) - ((n : Int) + 1)).toNat = 15 - (n + 1) by omega]; simp
      · rw [if_neg (c := 0 < x ∧ x = (n : Int) + 1) (fun h => hx h.2), Int.zero_mul, Int.add_zero]
        by_cases h2 : 0 < x ∧ x ≤ n
        · rw [if_pos h2, if_pos (by omega)]
        · rw [if_neg h2, if_neg (by push_cast; omega)]
    rw [this, show 15 - (n + 1) = 14 - n by omega]
    omega
theorem taken_low (l : List Int) : ∀ n, n ≤ 15 → (takenN l n : Int) = (lowF (lenCnt l) n + nth (lenCnt l) n) * 2 ^ (15 - n)
  | 0, _ => by rw [takenN_zero, lenCnt_zero]; simp [lowF]
  | n + 1, h => by
    have key : ∀ a b c K : Int, (a + b) * (K * 2) + c * K = (2 * (a + b) + c) * K := fun a b c K => by
      rw [Int.add_mul (2 * (a + b)), Int.mul_comm K 2, ← Int.mul_assoc, Int.mul_comm (a + b) 2]
    rw [takenN_succ l n (by omega), taken_low l n (by omega), lowF, show 15 - n = (15 - (n + 1)) + 1 by omega, Int.pow_succ]
    exact key _ _ _ _
theorem taken_mono (l : List Int) (n : Nat) : takenN l n ≤ takenN l (n + 1) := by
  induction l with
  | nil => exact Nat.le_refl _
  | cons x l ih =>
    unfold takenN at *
    rw [List.map_cons, List.sum_cons, List.map_cons, List.sum_cons]
    have : partN n x ≤ partN (n + 1) x := by
      unfold partN
      by_cases h : 0 < x ∧ x ≤ n
      · rw [if_pos h, if_pos (by push_cast; omega)]; exact Nat.le_refl _
      · rw [if_neg h]; exact Nat.zero_le _
    omega
theorem taken_mono' (l : List Int) (n : Nat) : ∀ d, takenN l n ≤ takenN l (n + d)
  | 0 => Nat.le_refl _
  | d + 1 => Nat.le_trans (taken_mono' l n d) (taken_mono l (n + d))
theorem taken_all (l : List Int) (h : l.all okLen = true) : takenN l 15 = measF l := by
  induction l with
  | nil => rfl
  | cons x l ih =>
    rw [List.all_cons, Bool.and_eq_true] at h
    have := ih h.2
    unfold takenN measF at *
    rw [List.map_cons, List.sum_cons, List.map_cons, List.sum_cons, this]
    congr 1
    have hx := h.1
    unfold okLen at hx
    simp only [Bool.and_eq_true, decide_eq_true_eq] at hx
    unfold partN part
    by_cases h0 : 0 < x
    · rw [if_pos ⟨h0, by push_cast; omega⟩, if_pos h0]
    · rw [if_neg (fun h => h0 h.1), if_neg h0]
theorem taken_top (l : List Int) : ∀ d, longN l 16 + d ≤ 15 → takenN l (longN l 16 + d) = takenN l (longN l 16)
  | 0, _ => rfl
  | d + 1, h => by
    have ih := taken_top l d (by omega)
    have a := takenN_succ l (longN l 16 + d) (by omega)
    have b := longN_top l 16 (longN l 16 + d + 1) (by omega) (by omega)
    have c := lenCnt_bd l (longN l 16 + d + 1) (by omega)
    have e : nth (lenCnt l) (longN l 16 + d + 1) = 0 := by omega
    rw [e, Int.zero_mul, Int.add_zero, ih] at a
    rw [← Nat.add_assoc]; omega
/-- No more codes than may be. -/
theorem kraft_le {l : List Int} (hc : checkF l = 0) (n : Nat) (hn : n ≤ 15) : lowF (lenCnt l) n + nth (lenCnt l) n ≤ 2 ^ n := by
  have hm : measF l ≤ 32768 := by
    unfold checkF at hc
    repeat' split at hc
    all_goals first | omega | (exfalso; revert hc; decide) | skip
  have h1 := taken_low l n hn
  have h2 := taken_mono' l n (15 - n)
  rw [show n + (15 - n) = 15 by omega, taken_all l (check_ok hc).2] at h2
  have h3 : (takenN l n : Int) ≤ 2 ^ n * 2 ^ (15 - n) := by
    rw [← Int.pow_add, show n + (15 - n) = 15 by omega]; omega
  rw [h1] at h3
  exact Int.le_of_mul_le_mul_right h3 (pow_cast _)
end Go.Proofs.YtkpabdjniiepkaaDoor

set_option linter.unusedVariables false
set_option linter.unusedSimpArgs false
/-! Plain mathematics: a decoder reads what the document says. -/
namespace Go.Proofs.YtkpabdjniiepkaaDoor
/-- The number of the next bits, the first bit highest. -/
def xv (bs : List Int) (p : Nat) : Nat → Int
  | 0 => 0
  | n + 1 => 2 * xv bs p n + bitAt bs (p + n)
theorem xv_bd (bs : List Int) (p : Nat) : ∀ n, 0 ≤ xv bs p n ∧ xv bs p n < 2 ^ n
  | 0 => by simp [xv]
  | n + 1 => by
    have := xv_bd bs p n
    have := bitAt_le bs (p + n)
    rw [xv, Int.pow_succ]; omega
theorem div_half (c : Int) (m k : Nat) (h : k < m) : c / 2 ^ (m - k) = c / 2 ^ (m - (k + 1)) / 2 := by
  rw [show m - k = (m - (k + 1)) + 1 by omega, Int.pow_succ, Int.mul_comm, Int.ediv_ediv_of_nonneg (by have := pow_cast (m - (k + 1)); omega), Int.mul_comm]
theorem pre_iff (c : Int) (m : Nat) (h0 : 0 ≤ c) (hc : c < 2 ^ m) (bs : List Int) (p : Nat) : ∀ k, k ≤ m → ((∀ t, t < k → nth (msbF c m) t = bitAt bs (p + t)) ↔ c / 2 ^ (m - k) = xv bs p k)
  | 0, _ => by
    rw [Nat.sub_zero, Int.ediv_eq_zero_of_lt h0 hc]
    exact ⟨fun _ => rfl, fun _ t ht => by omega⟩
  | k + 1, h => by
    have ih := pre_iff c m h0 hc bs p k (by omega)
    have e := div_half c m k (by omega)
    have en := msbF_nth c m k (by omega)
    rw [show m - 1 - k = m - (k + 1) by omega] at en
    have hb := bitAt_le bs (p + k)
    rw [xv]
    constructor
    · intro hall
      have h1 := ih.1 (fun t ht => hall t (by omega))
      have h2 := hall k (by omega)
      rw [en] at h2
      rw [e] at h1
      omega
    · intro hd t ht
      by_cases hk : t = k
      · subst hk; rw [en]; omega
      · exact ih.2 (by rw [e]; omega) t (by omega)
theorem rows_rth (l : List Int) (j m : Nat) (hj : j < l.length) (h1 : 1 ≤ m) (h : nth l j = m) : rth (rowsF l) j = msbF (codeI l j) m := by
  rw [rth_lt (by rw [rowsF_len]; exact hj)]
  simp only [rowsF, List.getElem_map, List.getElem_range]
  rw [if_pos (by omega), h]; rfl
theorem rows_none (l : List Int) (j : Nat) (hj : j < l.length) (h : ¬ 0 < nth l j) : rth (rowsF l) j = [] := by
  rw [rth_lt (by rw [rowsF_len]; exact hj)]
  simp only [rowsF, List.getElem_map, List.getElem_range]
  rw [if_neg h]
theorem row_len {l : List Int} (hok : l.all okLen = true) (j : Nat) (hj : j < l.length) (h : 0 < (rth (rowsF l) j).length) : ∃ m : Nat, 1 ≤ m ∧ m ≤ 15 ∧ nth l j = m ∧ rth (rowsF l) j = msbF (codeI l j) m := by
  by_cases h0 : 0 < nth l j
  · have hx := List.all_eq_true.1 hok (nth l j) (by rw [nth_lt hj]; exact List.getElem_mem _)
    unfold okLen at hx
    simp only [Bool.and_eq_true, decide_eq_true_eq] at hx
    obtain ⟨m, hm⟩ := Int.eq_ofNat_of_zero_le hx.1
    exact ⟨m, by omega, by omega, hm, rows_rth l j m hj (by omega) hm⟩
  · rw [rows_none l j hj h0] at h; simp at h
/-- A row stands there just if the number of so many bits is its code. -/
theorem full_iff {l : List Int} (hc : checkF l = 0) (bs : List Int) (p T : Nat) (j m : Nat) (hj : j < l.length) (h1 : 1 ≤ m) (h15 : m ≤ 15) (h : nth l j = m) :
    agrN (rth (rowsF l) j) (bitsP bs T) p = (rth (rowsF l) j).length ↔ p + m ≤ T ∧ xv bs p m = codeI l j := by
  have hb := codeI_bd l m j (by omega) h1 hj h
  have hk := kraft_le hc m h15
  have hl0 := (lowF_small l (check_ok hc).1 m (by omega)).1
  rw [rows_rth l j m hj h1 h]
  have hp := pre_iff (codeI l j) m (by omega) (by omega) bs p m (Nat.le_refl _)
  rw [Nat.sub_self, Int.pow_zero, Int.ediv_one] at hp
  rw [msbF_len]
  constructor
  · intro ha
    obtain ⟨_, h2, _⟩ := agrN_spec (msbF (codeI l j) m) (bitsP bs T) p
    rw [ha] at h2
    have hT : p + m ≤ T := by
      have := (h2 (m - 1) (by omega)).1
      rw [bitsP_len] at this; omega
    refine ⟨hT, (hp.1 fun t ht => ?_).symm⟩
    rw [(h2 t ht).2, bitsP_nth _ _ _ (by omega)]
  · intro ⟨hT, hx⟩
    have := hp.2 hx.symm
    have := agrN_full (row := msbF (codeI l j) m) (bits := bitsP bs T) (p := p) (fun t ht => by
      rw [msbF_len] at ht
      rw [bitsP_len, bitsP_nth _ _ _ (by omega)]
      exact ⟨by omega, this t ht⟩)
    rw [this, msbF_len]
/-! A code that may be is complete, or has one symbol. -/
theorem used_none (l : List Int) (h : usedF l = 0) : measF l = 0 := by
  induction l with
  | nil => rfl
  | cons x l ih =>
    unfold usedF at h
    by_cases hx : 0 < x
    · rw [List.filter_cons_of_pos (by simpa using hx)] at h; simp at h
    · rw [List.filter_cons_of_neg (by simpa using hx)] at h
      have := ih h
      unfold measF at *
      rw [List.map_cons, List.sum_cons, this, part_zero x hx]
theorem used_one (l : List Int) (hok : l.all okLen = true) (h : usedF l = 1) (hm : measF l = 16384) : 1 ≤ nth (lenCnt l) 1 := by
  induction l with
  | nil => simp [usedF] at h
  | cons x l ih =>
    rw [List.all_cons, Bool.and_eq_true] at hok
    rw [lenCnt_cons x l 1 (by omega)]
    have hn := (lenCnt_bd l 1 (by omega)).1
    have hms : measF (x :: l) = part x + measF l := by unfold measF; rw [List.map_cons, List.sum_cons]
    rw [hms] at hm
    unfold usedF at h
    by_cases hx : 0 < x
    · rw [List.filter_cons_of_pos (by simpa using hx), List.length_cons] at h
      have := used_none l (by unfold usedF; omega)
      have hx1 : x = 1 := by
        have h15 := hok.1
        unfold okLen at h15
        simp only [Bool.and_eq_true, decide_eq_true_eq] at h15
        have hp : part x = 2 ^ 14 := by rw [this] at hm; omega
        unfold part at hp
        rw [if_pos hx] at hp
        have := (Nat.pow_right_inj (by decide)).1 hp
        omega
      rw [if_pos ⟨hx, by simpa using hx1⟩]; omega
    · rw [List.filter_cons_of_neg (by simpa using hx)] at h
      rw [part_zero x hx, Nat.zero_add] at hm
      have := ih hok.2 h hm
      split <;> omega
theorem longN_15 (l : List Int) : longN l 16 ≤ 15 := by have := longN_le l 16; omega
theorem code_full {l : List Int} (hc : checkF l = 0) : lowF (lenCnt l) (longN l 16) + nth (lenCnt l) (longN l 16) = 2 ^ longN l 16 ∨ (1 ≤ nth (lenCnt l) 1 ∧ longN l 16 ≤ 1) := by
  have hL := longN_15 l
  have hok := (check_ok hc).2
  have ht := taken_top l (15 - longN l 16) (by omega)
  rw [show longN l 16 + (15 - longN l 16) = 15 by omega, taken_all l hok] at ht
  have hlo := taken_low l (longN l 16) hL
  have hm : measF l = 32768 ∨ (usedF l = 1 ∧ measF l = 16384) := by
    unfold checkF at hc
    repeat' split at hc
    all_goals first | (left; assumption) | (right; assumption) | (exfalso; revert hc; decide)
  rcases hm with hm | ⟨hu, hm⟩
  · left
    rw [← ht, hm] at hlo
    have e : ((32768 : Nat) : Int) = 2 ^ longN l 16 * 2 ^ (15 - longN l 16) := by rw [← Int.pow_add, show longN l 16 + (15 - longN l 16) = 15 by omega]; rfl
    rw [e] at hlo
    exact (Int.eq_of_mul_eq_mul_right (Int.ne_of_gt (pow_cast _)) hlo).symm
  · right
    have h1 := used_one l hok hu hm
    refine ⟨h1, ?_⟩
    rcases Nat.lt_or_ge 1 (longN l 16) with h2 | h2
    · exfalso
      have a := taken_low l 1 (by omega)
      have b := taken_mono' l 1 (longN l 16 - 1 - 1)
      have c := takenN_succ l (longN l 16 - 1) (by omega)
      rw [show longN l 16 - 1 + 1 = longN l 16 by omega] at c
      rw [show 1 + (longN l 16 - 1 - 1) = longN l 16 - 1 by omega] at b
      have d : 0 < nth (lenCnt l) (longN l 16) := (longN_has l 16).resolve_left (by omega)
      have e : 0 < nth (lenCnt l) (longN l 16) * 2 ^ (15 - longN l 16) := Int.mul_pos d (pow_cast _)
      simp only [lowF, lenCnt_zero] at a
      omega
    · exact h2
/-- Bits that end within no code begin one. -/
theorem some_begins {l : List Int} (hc : checkF l = 0) (bs : List Int) (p n : Nat) (hn : n < longN l 16) (hx : lowF (lenCnt l) n + nth (lenCnt l) n ≤ xv bs p n) :
    ∃ j m : Nat, j < l.length ∧ n < m ∧ m ≤ 15 ∧ nth l j = m ∧ codeI l j = xv bs p n * 2 ^ (m - n) := by
  have hL := longN_15 l
  rcases code_full hc with hf | ⟨h1, h2⟩
  · have key : ∀ d, n + d ≤ longN l 16 → (∃ j m : Nat, j < l.length ∧ n < m ∧ m ≤ 15 ∧ nth l j = m ∧ codeI l j = xv bs p n * 2 ^ (m - n)) ∨ lowF (lenCnt l) (n + d) + nth (lenCnt l) (n + d) ≤ xv bs p n * 2 ^ d := by
      intro d
      induction d with
      | zero => intro _; right; rw [Int.pow_zero, Int.mul_one]; exact hx
      | succ d ih =>
        intro hd
        rcases ih (by omega) with h | h
        · exact .inl h
        · by_cases hlt : xv bs p n * 2 ^ (d + 1) < lowF (lenCnt l) (n + (d + 1)) + nth (lenCnt l) (n + (d + 1))
          · left
            have e : xv bs p n * 2 ^ (d + 1) = 2 * (xv bs p n * 2 ^ d) := by rw [Int.pow_succ, ← Int.mul_assoc, Int.mul_comm]
            have hlo : lowF (lenCnt l) (n + (d + 1)) ≤ xv bs p n * 2 ^ (d + 1) := by
              rw [e, ← Nat.add_assoc, lowF]; omega
            obtain ⟨k, hk⟩ := Int.eq_ofNat_of_zero_le (Int.sub_nonneg.2 hlo)
            obtain ⟨_, j, a, b, c, f⟩ := symsB_at l (n + (d + 1)) (by omega) (by omega) k (by omega)
            refine ⟨j, n + (d + 1), a, by omega, by omega, c, ?_⟩
            rw [f, show n + (d + 1) - n = d + 1 by omega]; omega
          · exact .inr (by omega)
    rcases key (longN l 16 - n) (by omega) with h | h
    · exact h
    · exfalso
      rw [show n + (longN l 16 - n) = longN l 16 by omega, hf] at h
      have := Int.mul_lt_mul_of_pos_right (xv_bd bs p n).2 (pow_cast (longN l 16 - n))
      rw [← Int.pow_add, show n + (longN l 16 - n) = longN l 16 by omega] at this
      omega
  · obtain rfl : n = 0 := by omega
    obtain ⟨_, j, a, b, c, f⟩ := symsB_at l 1 (by omega) (by omega) 0 (by omega)
    refine ⟨j, 1, a, by omega, by omega, c, ?_⟩
    rw [f]; simp [xv, lowF, lenCnt_zero]
/-- What the decoder reads, said by its codes. -/
theorem dec_spec (l bs : List Int) (p : Nat) : ∀ f n, n + f = longN l 16 → p + n ≤ 8 * bs.length → (∀ m, m ≤ n → lowF (lenCnt l) m + nth (lenCnt l) m ≤ xv bs p m) →
    (∃ j m : Nat, j < l.length ∧ 1 ≤ m ∧ m ≤ 15 ∧ nth l j = m ∧ codeI l j = xv bs p m ∧ p + m ≤ 8 * bs.length ∧ (∀ i, i < m → lowF (lenCnt l) i + nth (lenCnt l) i ≤ xv bs p i) ∧ decGo l bs p f n (xv bs p n) = ((j : Int), 0, m)) ∨
    (∃ k, k < longN l 16 ∧ p + k = 8 * bs.length ∧ (∀ m, m ≤ k → lowF (lenCnt l) m + nth (lenCnt l) m ≤ xv bs p m) ∧ decGo l bs p f n (xv bs p n) = (0, 10, 0)) ∨
    (p + longN l 16 ≤ 8 * bs.length ∧ (∀ m, m ≤ longN l 16 → lowF (lenCnt l) m + nth (lenCnt l) m ≤ xv bs p m) ∧ decGo l bs p f n (xv bs p n) = (0, 32, 0))
  | 0, n, hn, hp, hx => by
    obtain rfl : n = longN l 16 := by omega
    exact .inr (.inr ⟨hp, hx, rfl⟩)
  | f + 1, n, hn, hp, hx => by
    have hL := longN_15 l
    rw [decGo]
    by_cases he : p + n + 1 ≤ 8 * bs.length
    · rw [if_pos he]
      have hlo : lowF (lenCnt l) (n + 1) ≤ xv bs p (n + 1) := by
        have := hx n (Nat.le_refl _)
        have := bitAt_le bs (p + n)
        rw [xv, lowF]; omega
      rw [show 2 * xv bs p n + bitAt bs (p + n) = xv bs p (n + 1) from rfl]
      by_cases hk : xv bs p (n + 1) - lowF (lenCnt l) (n + 1) < nth (lenCnt l) (n + 1)
      · rw [if_pos ⟨by omega, hk⟩]
        left
        obtain ⟨k, hk'⟩ := Int.eq_ofNat_of_zero_le (Int.sub_nonneg.2 hlo)
        rw [hk'] at hk ⊢
        obtain ⟨_, j, a, b, c, d⟩ := symsB_at l (n + 1) (by omega) (by omega) k hk
        refine ⟨j, n + 1, a, by omega, by omega, c, by rw [d]; omega, by omega, fun i hi => hx i (by omega), ?_⟩
        rw [Int.toNat_natCast, b]
      · rw [if_neg (fun h => hk h.2)]
        refine dec_spec l bs p f (n + 1) (by omega) (by omega) (fun m hm => ?_)
        by_cases hmn : m ≤ n
        · exact hx m hmn
        · obtain rfl : m = n + 1 := by omega
          omega
    · rw [if_neg he]
      exact .inr (.inl ⟨n, by omega, by omega, hx, rfl⟩)
/-- What stands behind a code that is read is no code. -/
theorem above (l bs : List Int) (p m : Nat) (h : xv bs p m < lowF (lenCnt l) m + nth (lenCnt l) m) : ∀ d, xv bs p (m + (d + 1)) < lowF (lenCnt l) (m + (d + 1))
  | 0 => by
    have := bitAt_le bs (p + m)
    rw [xv, lowF]; omega
  | d + 1 => by
    have ih := above l bs p m h d
    by_cases hq : 0 ≤ nth (lenCnt l) (m + (d + 1))
    · have := bitAt_le bs (p + (m + (d + 1)))
      rw [← Nat.add_assoc m, xv, lowF]; omega
    · exfalso
      apply hq
      by_cases h16 : m + (d + 1) < 16
      · exact (lenCnt_bd l _ h16).1
      · have : (lenCnt l)[m + (d + 1)]? = none := List.getElem?_eq_none (by rw [lenCnt_len]; omega)
        simp [nth, List.getD, this]
theorem next_same {l : List Int} (hc : checkF l = 0) (bs : List Int) (p : Nat) (hp : p ≤ 8 * bs.length) :
    nextR (rowsF l) (bitsP bs (8 * bs.length)) p = ((decF l bs p).1, (decF l bs p).2.2, (decF l bs p).2.1) := by
  have hok := (check_ok hc).2
  have hno : ∀ k, (∀ m, m ≤ k → lowF (lenCnt l) m + nth (lenCnt l) m ≤ xv bs p m) → ∀ t m : Nat, t < l.length → m ≤ k → 1 ≤ m → nth l t = m → m ≤ 15 → xv bs p m ≠ codeI l t := fun k hk t m ht hm h1 hx h15 he => by
    have := codeI_bd l m t (by omega) h1 ht hx
    have := hk m hm
    omega
  have hs := dec_spec l bs p (longN l 16) 0 (by omega) (by omega) (fun m hm => by
    obtain rfl : m = 0 := by omega
    simp [xv, lowF, lenCnt_zero])
  rw [show decGo l bs p (longN l 16) 0 (xv bs p 0) = decF l bs p from rfl] at hs
  rcases hs with ⟨j, m, hj, h1, h15, hjm, hcode, hend, hpre, hr⟩ | ⟨k, hk, hend, hpre, hr⟩ | ⟨hend, hpre, hr⟩
  · rw [hr]
    have hrow := rows_rth l j m hj h1 hjm
    have hb := codeI_bd l m j (by omega) h1 hj hjm
    have := nextG_hit (rowsF l) (bitsP bs (8 * bs.length)) p j (by rw [hrow, msbF_len]; omega) ((full_iff hc bs p _ j m hj h1 h15 hjm).2 ⟨hend, hcode.symm⟩) (rowsF l).length 0 false (by omega) (by rw [rowsF_len]; omega) (fun t ht h0 ha => by
      obtain ⟨mt, a, b, c, _⟩ := row_len hok t (by omega) h0
      obtain ⟨_, hx⟩ := (full_iff hc bs p _ t mt (by omega) a b c).1 ha
      have hbt := codeI_bd l mt t (by omega) a (by omega) c
      rcases Nat.lt_trichotomy mt m with h | h | h
      · have := hpre mt h; omega
      · subst h
        have := codeI_ne l mt t j (by omega) a ht hj c hjm
        omega
      · have := above l bs p m (by omega) (mt - m - 1)
        rw [show m + (mt - m - 1 + 1) = mt by omega] at this
        omega)
    unfold nextR
    rw [this, hrow, msbF_len]
  · rw [hr]
    have hL := longN_15 l
    unfold nextR
    refine nextG_begins _ _ _ _ _ _ (fun t _ ht h0 ha => ?_) (.inr ?_)
    · rw [rowsF_len, Nat.zero_add] at ht
      obtain ⟨mt, a, b, c, _⟩ := row_len hok t ht h0
      obtain ⟨h2, hx⟩ := (full_iff hc bs p _ t mt ht a b c).1 ha
      exact hno k hpre t mt ht (by omega) a c b hx
    · obtain ⟨j, m, hj, hm, h15, hjm, hcode⟩ := some_begins hc bs p k hk (hpre k (Nat.le_refl _))
      have hrow := rows_rth l j m hj (by omega) hjm
      have hb := codeI_bd l m j (by omega) (by omega) hj hjm
      have hkr := kraft_le hc m h15
      have hx0 := (xv_bd bs p k).1
      have hc0 : 0 ≤ codeI l j := by have := (lowF_small l (check_ok hc).1 m (by omega)).1; omega
      refine ⟨j, by omega, by rw [rowsF_len]; omega, by rw [hrow, msbF_len]; omega, ?_⟩
      rw [hrow, bitsP_len]
      have hag := (pre_iff (codeI l j) m hc0 (by omega) bs p k (by omega)).2 (by rw [hcode]; exact Int.mul_ediv_cancel _ (Int.ne_of_gt (pow_cast _)))
      obtain ⟨s1, s2, s3⟩ := agrN_spec (msbF (codeI l j) m) (bitsP bs (8 * bs.length)) p
      rw [msbF_len, bitsP_len] at s3
      rcases Nat.lt_trichotomy (agrN (msbF (codeI l j) m) (bitsP bs (8 * bs.length)) p) k with h | h | h
      · rcases s3 with s3 | s3 | s3
        · omega
        · omega
        · exfalso; apply s3; rw [bitsP_nth _ _ _ (by omega)]; exact hag _ h
      · omega
      · have := (s2 k h).1
        rw [bitsP_len] at this; omega
  · rw [hr]
    unfold nextR
    refine nextG_none _ _ _ _ _ (fun t _ ht h0 => ?_)
    rw [rowsF_len, Nat.zero_add] at ht
    obtain ⟨mt, a, b, c, hrow⟩ := row_len hok t ht h0
    have hmt : mt ≤ longN l 16 := by
      rcases Nat.lt_or_ge (longN l 16) mt with h | h
      · exfalso
        have hb := codeI_bd l mt t (by omega) a ht c
        have := longN_top l 16 mt h (by omega)
        omega
      · exact h
    have hne : agrN (rth (rowsF l) t) (bitsP bs (8 * bs.length)) p ≠ (rth (rowsF l) t).length := fun ha => hno _ hpre t mt ht hmt a c b ((full_iff hc bs p _ t mt ht a b c).1 ha).2
    refine ⟨hne, ?_⟩
    obtain ⟨s1, _, _⟩ := agrN_spec (rth (rowsF l) t) (bitsP bs (8 * bs.length)) p
    rw [bitsP_len]
    have : (rth (rowsF l) t).length = mt := by rw [hrow, msbF_len]
    omega
end Go.Proofs.YtkpabdjniiepkaaDoor

/- What a step says: plain lists. -/
set_option linter.unusedVariables false
set_option linter.unusedSimpArgs false
namespace Go.Proofs.YtkpabdjniiepkaaDoor
/-- Which length a step says, and how many times. -/
def sayF (l : List Int) (sym extra : Int) : Option (Int × Nat) :=
  if 0 ≤ sym ∧ sym ≤ 15 ∧ extra = 0 then some (sym, 1)
  else if sym = 16 ∧ 0 ≤ extra ∧ extra ≤ 3 ∧ l ≠ [] then some (l.getD (l.length - 1) 0, extra.toNat + 3)
  else if sym = 17 ∧ 0 ≤ extra ∧ extra ≤ 7 then some (0, extra.toNat + 3)
  else if sym = 18 ∧ 0 ≤ extra ∧ extra ≤ 127 then some (0, extra.toNat + 11)
  else none
/-- Lengths with those that a step says, n in all at most. -/
def addF (l : List Int) (sym extra n : Int) : Option (List Int) :=
  match sayF l sym extra with
  | some (v, k) => if ((l.length + k : Nat) : Int) ≤ n then some (l ++ List.replicate k v) else none
  | none => none
theorem sayF_lit {l : List Int} {sym : Int} (h0 : 0 ≤ sym) (h1 : sym ≤ 15) : sayF l sym 0 = some (sym, 1) := by
  rw [sayF, if_pos ⟨h0, h1, rfl⟩]
theorem sayF_lit_none {l : List Int} {sym extra : Int} (h1 : sym ≤ 15) (h2 : sym < 0 ∨ extra ≠ 0) : sayF l sym extra = none := by
  rw [sayF, if_neg (by rintro ⟨a, b, c⟩; rcases h2 with h | h; omega; exact h c), if_neg (by omega), if_neg (by omega), if_neg (by omega)]
theorem sayF_16 {l : List Int} {extra : Int} (h0 : 0 ≤ extra) (h1 : extra ≤ 3) (h : l ≠ []) : sayF l 16 extra = some (l.getD (l.length - 1) 0, extra.toNat + 3) := by
  rw [sayF, if_neg (by omega), if_pos ⟨rfl, h0, h1, h⟩]
theorem sayF_16_none {l : List Int} {extra : Int} (h : extra < 0 ∨ 3 < extra ∨ l = []) : sayF l 16 extra = none := by
  rw [sayF, if_neg (by omega), if_neg (by rintro ⟨_, a, b, c⟩; rcases h with h | h | h; omega; omega; exact c h), if_neg (by omega), if_neg (by omega)]
theorem sayF_17 {l : List Int} {extra : Int} (h0 : 0 ≤ extra) (h1 : extra ≤ 7) : sayF l 17 extra = some (0, extra.toNat + 3) := by
  rw [sayF, if_neg (by omega), if_neg (by omega), if_pos ⟨rfl, h0, h1⟩]
theorem sayF_17_none {l : List Int} {extra : Int} (h : extra < 0 ∨ 7 < extra) : sayF l 17 extra = none := by
  rw [sayF, if_neg (by omega), if_neg (by omega), if_neg (by omega), if_neg (by omega)]
theorem sayF_18 {l : List Int} {extra : Int} (h0 : 0 ≤ extra) (h1 : extra ≤ 127) : sayF l 18 extra = some (0, extra.toNat + 11) := by
  rw [sayF, if_neg (by omega), if_neg (by omega), if_neg (by omega), if_pos ⟨rfl, h0, h1⟩]
theorem sayF_18_none {l : List Int} {extra : Int} (h : extra < 0 ∨ 127 < extra) : sayF l 18 extra = none := by
  rw [sayF, if_neg (by omega), if_neg (by omega), if_neg (by omega), if_neg (by omega)]
theorem sayF_big {l : List Int} {sym extra : Int} (h : 18 < sym) : sayF l sym extra = none := by
  rw [sayF, if_neg (by omega), if_neg (by omega), if_neg (by omega), if_neg (by omega)]
theorem sayF_pos {l : List Int} {sym extra v : Int} {k : Nat} (h : sayF l sym extra = some (v, k)) : 1 ≤ k ∧ k ≤ 138 := by
  simp only [sayF] at h
  split at h
  · simp at h; omega
  · split at h
    · simp at h; omega
    · split at h
      · simp at h; omega
      · split at h
        · simp at h; omega
        · simp at h
theorem addF_none {l : List Int} {sym extra n : Int} (h : sayF l sym extra = none) : addF l sym extra n = none := by rw [addF, h]
theorem addF_many {l : List Int} {sym extra n v : Int} {k : Nat} (h : sayF l sym extra = some (v, k)) (hn : n < ((l.length + k : Nat) : Int)) : addF l sym extra n = none := by
  rw [addF, h]; exact if_neg (by omega)
theorem addF_some {l : List Int} {sym extra n v : Int} {k : Nat} (h : sayF l sym extra = some (v, k)) (hn : ((l.length + k : Nat) : Int) ≤ n) : addF l sym extra n = some (l ++ List.replicate k v) := by
  rw [addF, h]; exact if_pos hn
theorem addF_len {l l' : List Int} {sym extra n : Int} (h : addF l sym extra n = some l') : l.length < l'.length ∧ (l'.length : Int) ≤ n := by
  simp only [addF] at h
  split at h
  · rename_i v k hs
    have := sayF_pos hs
    split at h
    · injection h with h; subst h; simp only [List.length_append, List.length_replicate]; omega
    · simp at h
  · simp at h
/-- Lengths with those that steps say. -/
def unpackTo (l : List Int) : List (Int × Int) → Int → Option (List Int)
  | [], _ => some l
  | s :: r, n => match addF l s.1 s.2 n with
    | some l' => unpackTo l' r n
    | none => none
/-- Unpacking: the lengths, and what is wrong. -/
def unpackF (xs : List (Int × Int)) (n : Int) : List Int × Int :=
  if n < 0 ∨ 316 < n then ([], 1) else match unpackTo [] xs n with
    | none => ([], 41)
    | some l => if (l.length : Int) < n then ([], 41) else (l, 0)
theorem unpackF_arg {xs : List (Int × Int)} {n : Int} (h : n < 0 ∨ 316 < n) : unpackF xs n = ([], 1) := if_pos h
theorem unpackF_none {xs : List (Int × Int)} {n : Int} (h0 : 0 ≤ n) (h1 : n ≤ 316) (h : unpackTo [] xs n = none) : unpackF xs n = ([], 41) := by
  rw [unpackF, if_neg (by omega), h]
theorem unpackF_few {xs : List (Int × Int)} {n : Int} {l : List Int} (h0 : 0 ≤ n) (h1 : n ≤ 316) (h : unpackTo [] xs n = some l) (hl : (l.length : Int) < n) : unpackF xs n = ([], 41) := by
  rw [unpackF, if_neg (by omega), h]; exact if_pos hl
theorem unpackF_ok {xs : List (Int × Int)} {n : Int} {l : List Int} (h0 : 0 ≤ n) (h1 : n ≤ 316) (h : unpackTo [] xs n = some l) (hl : ¬ (l.length : Int) < n) : unpackF xs n = (l, 0) := by
  rw [unpackF, if_neg (by omega), h]; exact if_neg hl
theorem unpackTo_cons {l : List Int} {s : Int × Int} {r : List (Int × Int)} {n : Int} {l' : List Int} (h : addF l s.1 s.2 n = some l') : unpackTo l (s :: r) n = unpackTo l' r n := by
  rw [unpackTo, h]
theorem unpackTo_stop {l : List Int} {s : Int × Int} {r : List (Int × Int)} {n : Int} (h : addF l s.1 s.2 n = none) : unpackTo l (s :: r) n = none := by
  rw [unpackTo, h]
end Go.Proofs.YtkpabdjniiepkaaDoor

set_option linter.unusedVariables false
set_option linter.unusedSimpArgs false
/-! Plain: how a head is read. -/
namespace Go.Proofs.YtkpabdjniiepkaaDoor
/-- How many bits a step's number has. -/
def wN (sym : Int) : Nat := if sym = 16 then 2 else if sym = 17 then 3 else if sym = 18 then 7 else 0
theorem wN_le (s : Int) : wN s ≤ 7 := by unfold wN; split; omega; split; omega; split <;> omega
theorem wN_tab (j : Nat) (h : j < 19) : nth wideL j = (wN (j : Int) : Int) := by
  rcases (by omega : j < 16 ∨ j = 16 ∨ j = 17 ∨ j = 18) with h | rfl | rfl | rfl
  · have : wN (j : Int) = 0 := by unfold wN; rw [if_neg (by omega), if_neg (by omega), if_neg (by omega)]
    rw [this]
    revert h; revert j
    decide
  · rfl
  · rfl
  · rfl
/-- What is read of a symbol stays in its bounds. -/
theorem dec_bd (l bs : List Int) (p : Nat) (hp : p ≤ 8 * bs.length) : ((decF l bs p).2.1 = 0 ∧ ∃ j : Nat, (decF l bs p).1 = j ∧ j < l.length ∧ p + (decF l bs p).2.2 ≤ 8 * bs.length) ∨
    ((decF l bs p).2.1 ≠ 0 ∧ (decF l bs p).1 = 0 ∧ (decF l bs p).2.2 = 0) := by
  have hs := dec_spec l bs p (longN l 16) 0 (by omega) (by omega) (fun m hm => by
    obtain rfl : m = 0 := by omega
    simp [xv, lowF, lenCnt_zero])
  rw [show decGo l bs p (longN l 16) 0 (xv bs p 0) = decF l bs p from rfl] at hs
  rcases hs with ⟨j, m, hj, _, _, _, _, hend, _, hr⟩ | ⟨k, _, _, _, hr⟩ | ⟨_, _, hr⟩
  · rw [hr]; exact .inl ⟨rfl, j, rfl, hj, hend⟩
  · rw [hr]; exact .inr ⟨by decide, rfl, rfl⟩
  · rw [hr]; exact .inr ⟨by decide, rfl, rfl⟩
/-- The codes of the steps: so many are read. -/
def cL (bs : List Int) (p : Nat) : Nat → List Int
  | 0 => List.replicate 19 0
  | k + 1 => (cL bs p k).set (nth orderL k).toNat (numB bs (p + 3 * k) 3)
theorem cL_len (bs : List Int) (p : Nat) : ∀ k, (cL bs p k).length = 19
  | 0 => by simp [cL]
  | k + 1 => by rw [cL, List.length_set, cL_len bs p k]
def stepsF (codes bs : List Int) (N : Int) : Nat → List Int → Nat → List Int × Nat × Int
  | 0, l, q => (l, q, 0)
  | f + 1, l, q =>
    if N ≤ l.length then (l, q, 0)
    else if (decF codes bs q).2.1 ≠ 0 then ([], q, (decF codes bs q).2.1)
    else if 8 * bs.length < q + (decF codes bs q).2.2 + wN (decF codes bs q).1 then ([], q, 10)
    else match addF l (decF codes bs q).1 (numB bs (q + (decF codes bs q).2.2) (wN (decF codes bs q).1)) N with
      | none => ([], q, 41)
      | some l' => stepsF codes bs N f l' (q + (decF codes bs q).2.2 + wN (decF codes bs q).1)
theorem stepsF_done (codes bs : List Int) (N : Int) (f : Nat) (l : List Int) (q : Nat) (h : N ≤ l.length) : stepsF codes bs N f l q = (l, q, 0) := by
  cases f with
  | zero => rfl
  | succ f => rw [stepsF, if_pos h]
theorem addF_grows {l l' : List Int} {s e n : Int} (h : addF l s e n = some l') : l.length + 1 ≤ l'.length ∧ (l'.length : Int) ≤ n ∧ l'.length ≤ l.length + 138 := by
  unfold addF at h
  cases hs : sayF l s e with
  | none => rw [hs] at h; cases h
  | some p =>
    obtain ⟨v, k⟩ := p
    rw [hs] at h
    have hk := sayF_pos hs
    simp only [] at h
    split at h
    · next hle =>
      obtain rfl := Option.some.inj h
      rw [List.length_append, List.length_replicate]; omega
    · cases h
/-- How many codes there are; how many lengths. -/
def manyF (bs : List Int) (p : Nat) : Nat := (numB bs (p + 10) 4).toNat + 4
def litF (bs : List Int) (p : Nat) : Nat := (numB bs p 5).toNat + 257
def distF (bs : List Int) (p : Nat) : Nat := (numB bs (p + 5) 5).toNat + 1
def codesH (bs : List Int) (p : Nat) : List Int := cL bs (p + 14) (manyF bs p)
def readR (bs : List Int) (p : Nat) : List Int × Nat × Int := stepsF (codesH bs p) bs ((litF bs p + distF bs p : Nat) : Int) (litF bs p + distF bs p) [] (p + 14 + 3 * manyF bs p)
/-- A head that is read: two lists, how many bits, what is wrong. -/
def headF (bs : List Int) (p : Nat) : List Int × List Int × Nat × Int :=
  if 8 * bs.length < p + 14 then ([], [], 0, 10)
  else if 29 < numB bs p 5 ∨ 29 < numB bs (p + 5) 5 then ([], [], 0, 40)
  else if 8 * bs.length < p + 14 + 3 * manyF bs p then ([], [], 0, 10)
  else if checkF (codesH bs p) ≠ 0 then ([], [], 0, checkF (codesH bs p))
  else if (readR bs p).2.2 ≠ 0 then ([], [], 0, (readR bs p).2.2)
  else ((readR bs p).1.take (litF bs p), (readR bs p).1.drop (litF bs p), (readR bs p).2.1 - p, 0)
theorem manyF_le (bs : List Int) (p : Nat) : manyF bs p ≤ 19 := by
  have := numB_lt bs (p + 10) 4
  unfold manyF
  have e : (2 : Int) ^ 4 = 16 := rfl
  omega
theorem order_lt (k : Nat) (h : k < 19) : 0 ≤ nth orderL k ∧ nth orderL k < 19 := by revert h; revert k; decide
theorem head_err {bs : List Int} {p : Nat} {e : Int} (h1 : ¬ 8 * bs.length < p + 14) (h2 : ¬ (29 < numB bs p 5 ∨ 29 < numB bs (p + 5) 5)) (h3 : ¬ 8 * bs.length < p + 14 + 3 * manyF bs p) (h4 : checkF (codesH bs p) = 0) (h5 : (readR bs p).2.2 = e) (he : e ≠ 0) : headF bs p = ([], [], 0, e) := by
  unfold headF
  rw [if_neg h1, if_neg h2, if_neg h3, if_neg (by rw [h4]; simp), if_pos (by rw [h5]; exact he), h5]
theorem head_ok {bs l : List Int} {p q : Nat} (h1 : ¬ 8 * bs.length < p + 14) (h2 : ¬ (29 < numB bs p 5 ∨ 29 < numB bs (p + 5) 5)) (h3 : ¬ 8 * bs.length < p + 14 + 3 * manyF bs p) (h4 : checkF (codesH bs p) = 0) (h5 : readR bs p = (l, q, 0)) : headF bs p = (l.take (litF bs p), l.drop (litF bs p), q - p, 0) := by
  unfold headF
  rw [if_neg h1, if_neg h2, if_neg h3, if_neg (by rw [h4]; simp), h5]
  rfl
end Go.Proofs.YtkpabdjniiepkaaDoor

set_option linter.unusedVariables false
set_option linter.unusedSimpArgs false
/-! Bits that are laid into bytes: plain mathematics, then the writer's walks. -/
namespace Go.Proofs.YtkpabdjniiepkaaDoor
open Go.RowKit
def vbits (r : Int) (k : Nat) : List Int := (List.range k).map fun t => r / 2 ^ t % 2
theorem vbits_len (r : Int) (k : Nat) : (vbits r k).length = k := by simp [vbits]
theorem vbits_nth (r : Int) (k t : Nat) (h : t < k) : nth (vbits r k) t = r / 2 ^ t % 2 := by simp [vbits, nth, List.getD, h]
theorem vbits_add (r : Int) (j k : Nat) : vbits r (j + k) = vbits r j ++ vbits (r / 2 ^ j) k := by
  unfold vbits
  rw [List.range_add, List.map_append, List.map_map]
  congr 1
  refine List.map_congr_left fun t _ => ?_
  simp only [Function.comp]
  rw [Int.pow_add, div_div _ _ _ (pow_cast _)]
/-- Bytes hold these bits, and no more. -/
structure WB (xs bl : List Int) : Prop where
  len : xs.length = (bl.length + 7) / 8
  byte : ∀ j, 0 ≤ nth xs j ∧ nth xs j ≤ 255
  top : bl.length % 8 ≠ 0 → nth xs (bl.length / 8) < 2 ^ (bl.length % 8)
  bit : ∀ i, i < bl.length → bitAt xs i = nth bl i
theorem WB.zero : WB [] [] := ⟨rfl, fun j => by simp [nth], fun h => absurd rfl h, fun i h => by simp at h⟩
/-- The bytes, one more if the last is full. -/
def padF (xs bl : List Int) : List Int := if bl.length % 8 = 0 then xs ++ [0] else xs
theorem pad_len {xs bl : List Int} (h : WB xs bl) : (padF xs bl).length = bl.length / 8 + 1 := by
  unfold padF
  have := h.len
  split
  · rw [List.length_append, List.length_singleton]; omega
  · omega
theorem pad_nth {xs bl : List Int} (h : WB xs bl) (j : Nat) : nth (padF xs bl) j = nth xs j := by
  unfold padF
  split
  · by_cases hj : j < xs.length
    · simp [nth, List.getD, List.getElem?_append_left hj]
    · by_cases hj2 : j = xs.length
      · subst hj2; simp [nth, List.getD]
      · simp [nth, List.getD, List.getElem?_eq_none (show xs.length ≤ j by omega), List.getElem?_eq_none (show (xs ++ [0]).length ≤ j by simp; omega)]
  · rfl
theorem pad_last {xs bl : List Int} (h : WB xs bl) : 0 ≤ nth (padF xs bl) (bl.length / 8) ∧ nth (padF xs bl) (bl.length / 8) < 2 ^ (bl.length % 8) := by
  rw [pad_nth h]
  refine ⟨(h.byte _).1, ?_⟩
  by_cases h8 : bl.length % 8 = 0
  · have : nth xs (bl.length / 8) = 0 := by
      have := h.len
      simp [nth, List.getD, List.getElem?_eq_none (show xs.length ≤ bl.length / 8 by omega)]
    rw [this]; exact pow_cast _
  · exact h.top h8
theorem nth_set_eq (xs : List Int) (i : Nat) (y : Int) (h : i < xs.length) : nth (xs.set i y) i = y := by simp [nth, List.getD, h]
theorem nth_set_ne (xs : List Int) (i j : Nat) (y : Int) (h : j ≠ i) : nth (xs.set i y) j = nth xs j := by simp [nth, List.getD, List.getElem?_set_ne (Ne.symm h)]
theorem mod_div_mod (r : Int) (k t : Nat) (h : t < k) : r % 2 ^ k / 2 ^ t % 2 = r / 2 ^ t % 2 := by
  have e : r = r % 2 ^ k + 2 ^ (k - t - 1) * 2 * (r / 2 ^ k) * 2 ^ t := by
    have h1 := Int.emod_add_mul_ediv r (2 ^ k)
    have h2 : (2 : Int) ^ k = 2 ^ (k - t - 1) * 2 * 2 ^ t := by rw [← Int.pow_succ, ← Int.pow_add]; congr 1; omega
    rw [Int.mul_assoc (2 ^ (k - t - 1) * 2), Int.mul_comm (r / 2 ^ k), ← Int.mul_assoc, ← h2]
    omega
  have h3 : r / 2 ^ t = r % 2 ^ k / 2 ^ t + 2 ^ (k - t - 1) * 2 * (r / 2 ^ k) := by
    conv => lhs; rw [e]
    exact Int.add_mul_ediv_right _ _ (Int.ne_of_gt (pow_cast t))
  rw [h3, Int.mul_comm (2 ^ (k - t - 1)) 2, Int.mul_assoc 2]
  omega
theorem pad_step {xs bl : List Int} (h : WB xs bl) (r : Int) (k : Nat) (h1 : 1 ≤ k) (hk : bl.length % 8 + k ≤ 8) :
    WB ((padF xs bl).set (bl.length / 8) (nth (padF xs bl) (bl.length / 8) + r % 2 ^ k * 2 ^ (bl.length % 8))) (bl ++ vbits r k) := by
  have hpl := pad_len h
  obtain ⟨x0, x1⟩ := pad_last h
  have hpn := pad_nth h
  have hby := h.byte
  generalize hX : padF xs bl = X at *
  obtain ⟨s, hs⟩ : ∃ s, s = bl.length % 8 := ⟨_, rfl⟩
  obtain ⟨q, hq⟩ : ∃ q, q = bl.length / 8 := ⟨_, rfl⟩
  rw [← hs] at hk x1 ⊢
  rw [← hq] at hpl x0 x1 ⊢
  have hL : bl.length = 8 * q + s := by omega
  have hr0 := Int.emod_nonneg r (show (2 : Int) ^ k ≠ 0 from Int.ne_of_gt (pow_cast k))
  have hr1 := Int.emod_lt_of_pos r (pow_cast k)
  have hps := pow_cast s
  generalize hx : nth X q = x at *
  obtain ⟨y, hy⟩ : ∃ y, y = x + r % 2 ^ k * 2 ^ s := ⟨_, rfl⟩
  rw [← hy]
  have y0 : 0 ≤ y := by rw [hy]; have := Int.mul_nonneg hr0 (Int.le_of_lt hps); omega
  have y1 : y < 2 ^ (s + k) := by
    have a : r % 2 ^ k * 2 ^ s ≤ (2 ^ k - 1) * 2 ^ s := Int.mul_le_mul_of_nonneg_right (by omega) (Int.le_of_lt hps)
    rw [Int.sub_mul, Int.one_mul, ← Int.pow_add, Nat.add_comm k s] at a
    omega
  have y2 := pow_le8 (s + k) hk
  have ydiv : y / 2 ^ s = r % 2 ^ k := by
    rw [hy, Int.add_mul_ediv_right _ _ (Int.ne_of_gt hps), Int.ediv_eq_zero_of_lt x0 x1]; omega
  refine ⟨?_, fun j => ?_, fun h8 => ?_, fun i hi => ?_⟩
  · rw [List.length_set, hpl, List.length_append, vbits_len]; omega
  · by_cases hj : j = q
    · subst hj; rw [nth_set_eq _ _ _ (by omega)]; omega
    · rw [nth_set_ne _ _ _ _ hj, hpn]; exact hby j
  · rw [List.length_append, vbits_len] at h8 ⊢
    rw [show (bl.length + k) / 8 = q by omega, nth_set_eq _ _ _ (by omega), show (bl.length + k) % 8 = s + k by omega]
    exact y1
  · rw [List.length_append, vbits_len] at hi
    by_cases hlt : i < bl.length
    · rw [show nth (bl ++ vbits r k) i = nth bl i by simp [nth, List.getD, List.getElem?_append_left hlt], ← h.bit i hlt]
      unfold bitAt
      by_cases hj : i / 8 = q
      · rw [hj, nth_set_eq _ _ _ (by omega), ← hpn, hx, hy]
        have ht : i % 8 < s := by omega
        generalize i % 8 = t at *
        have e : (2 : Int) ^ s = 2 ^ (s - t - 1) * 2 * 2 ^ t := by rw [← Int.pow_succ, ← Int.pow_add]; congr 1; omega
        rw [e, ← Int.mul_assoc, Int.add_mul_ediv_right _ _ (Int.ne_of_gt (pow_cast t)), ← Int.mul_assoc]
        omega
      · rw [nth_set_ne _ _ _ _ hj, hpn]
    · obtain ⟨t, rfl⟩ : ∃ t, i = bl.length + t := ⟨i - bl.length, by omega⟩
      have e2 : nth (bl ++ vbits r k) (bl.length + t) = nth (vbits r k) t := by simp [nth, List.getD, List.getElem?_append_right]
      rw [e2, vbits_nth _ _ _ (by omega)]
      unfold bitAt
      rw [show (bl.length + t) / 8 = q by omega, show (bl.length + t) % 8 = s + t by omega, nth_set_eq _ _ _ (by omega), Int.pow_add, ← div_div _ _ _ hps, ydiv, mod_div_mod r k t (by omega)]
theorem put_byte (x r : Int) (k s : Nat) (hx : 0 ≤ x) (hx1 : x < 2 ^ s) (hr : 0 ≤ r) (hr1 : r < 4294967296) (hk : s + k ≤ 8) :
    Go.bits .or .u8 x (IntKind.u8.wrap (IntKind.u8.wrap (Go.bits .and .u64 r (2 ^ k - 1)) * 2 ^ s)) = x + r % 2 ^ k * 2 ^ s := by
  have hps := pow_cast s
  have h0 := Int.emod_nonneg r (show (2 : Int) ^ k ≠ 0 from Int.ne_of_gt (pow_cast k))
  have h1 := Int.emod_lt_of_pos r (pow_cast k)
  have hk8 := pow_le8 k (by omega)
  have hsk := pow_le8 (s + k) hk
  have hs8 := pow_le8 s (by omega)
  have a0 : 0 ≤ r % 2 ^ k * 2 ^ s := Int.mul_nonneg h0 (Int.le_of_lt hps)
  have a1 : r % 2 ^ k * 2 ^ s < 256 := by
    have a : r % 2 ^ k * 2 ^ s ≤ (2 ^ k - 1) * 2 ^ s := Int.mul_le_mul_of_nonneg_right (by omega) (Int.le_of_lt hps)
    rw [Int.sub_mul, Int.one_mul, ← Int.pow_add, Nat.add_comm k s] at a
    omega
  rw [bits_mask .u64 64 (by decide) wraps_u64 k (by omega) r hr (by omega), wraps_u8 _ h0 (by omega), wraps_u8 _ a0 (by omega)]
  have hj := bits_join .u8 8 (by decide) wraps_u8 s (r % 2 ^ k * 2 ^ s) x a0 (by simp) (by omega) hx hx1 (by omega)
  obtain ⟨a, ha⟩ := Int.eq_ofNat_of_zero_le a0
  obtain ⟨b, rfl⟩ := Int.eq_ofNat_of_zero_le hx
  rw [ha] at hj a1 ⊢
  have ha' : a < 2 ^ 8 := by omega
  have hb' : b < 2 ^ 8 := by omega
  rw [(bits_nat .u8 8 (by decide) wraps_u8 a b ha' hb').2] at hj
  rw [(bits_nat .u8 8 (by decide) wraps_u8 b a hb' ha').2, Nat.or_comm, hj]
  omega
theorem put_byte2 (x r : Int) (k s : Nat) (hx : 0 ≤ x) (hx1 : x < 2 ^ s) (hr : 0 ≤ r) (hr1 : r < 4294967296) (hk : s + k ≤ 8) :
    Go.bits .or .u8 x (Go.bits .and .u64 r (IntKind.u64.wrap (IntKind.u64.wrap (2 ^ k) - 1)) % 256 * 2 ^ s % 256) = x + r % 2 ^ k * 2 ^ s := by
  have h := put_byte x r k s hx hx1 hr hr1 hk
  have e : ∀ n : Int, IntKind.u8.wrap n = n % 256 := fun n => by simp [IntKind.wrap, IntKind.bits, IntKind.signed]
  have hp := pow_cast k
  have hp8 := pow_le8 k (by omega)
  rw [wraps_u64 (2 ^ k) (by omega) (by omega), wraps_u64 (2 ^ k - 1) (by omega) (by omega)]
  rw [e, e] at h
  exact h

/-- A writer: its block, and a row of bytes behind it that hold these bits. -/
def Wtr (w : World) (g : Nat) (bl : List Int) : Prop :=
  ∃ (xs : List Int) (v : Value) (n : Nat), n = xs.length ∧ Blk w g 89 [v, .int .i64 bl.length] ∧ w.ownsRow (g + 1) 5 1 v n (ints .u8 xs) ∧ WB xs bl
theorem Wtr.lt {w : World} {g : Nat} {bl : List Int} (h : Wtr w g bl) : g < w.heap.size := by
  obtain ⟨_, _, _, _, h, _⟩ := h; exact h.lt
theorem Wtr.keeps {w w' : World} {g : Nat} {bl : List Int} {K : List Nat} (h : Wtr w g bl) (hk : Keeps K w w') (hK : ∀ x ∈ K, x < g ∨ w.heap.size ≤ x) : Wtr w' g bl := by
  obtain ⟨xs, v, n, h0, h1, h2, h3⟩ := h
  refine ⟨xs, v, n, h0, h1.keeps hk (fun hm => by have := h1.lt; rcases hK g hm with h | h <;> omega), own_keeps h2 hk fun x hx hm => ?_, h3⟩
  have a := own_lo h2 x hx
  have b := own_hi h2 x hx
  rcases hK x hm with h | h <;> omega
set_option maxRecDepth 100000 in
set_option maxHeartbeats 400000 in
theorem newWriter_calls (w : World) :
    Calls Tryd.prog 35 #[] w fun e w' => e = .returned (.pointer (some ⟨w.heap.size, 0, none⟩)) ∧ Wtr w' w.heap.size [] ∧ Below w.heap.size w w' := by
  go_enter Tryd.func35, Tryd.ntmps35
  go_wp2_with fail
  go_ret
  exact ⟨rfl, ⟨[], .slice none 0 0, 0, rfl, blk_new w 89 [.slice none 0 0, .int .i64 0], World.ownsRow_nil _ _ _ _, WB.zero⟩, (Below.refl _ w).alloc (Nat.le_refl _) _⟩
/-- A block of bytes. -/
def U8 (w : World) (k : Nat) : Prop := ∃ cur fr, w.heap[k]? = some (.cells cur 5 fr)
theorem own_u8 {w : World} {base size n : Nat} {v : Value} {xs : List Value} (h : w.ownsRow base 5 size v n xs) : ∀ k, v.ownBlock = some k → U8 w k := by
  intro k hk
  rcases h.2 with ⟨rfl, _⟩ | ⟨g, cap, cur, rfl, _, hh, _⟩
  · cases hk
  · obtain rfl := Option.some.inj hk
    exact ⟨_, _, hh⟩
/-- Nothing has turned but a writer's block, and blocks of bytes. -/
structure PT (g : Nat) (w w' : World) : Prop where
  size : w.heap.size ≤ w'.heap.size
  same : ∀ k, k < w.heap.size → k ≠ g → ¬ U8 w k → w'.heap[k]? = w.heap[k]?
theorem PT.refl (g : Nat) (w : World) : PT g w w := ⟨Nat.le_refl _, fun _ _ _ _ => rfl⟩
theorem PT.step {g : Nat} {w w1 w2 : World} (h : PT g w w1) (hs : w1.heap.size ≤ w2.heap.size) (h2 : ∀ k, k < w1.heap.size → k ≠ g → ¬ U8 w1 k → w2.heap[k]? = w1.heap[k]?) : PT g w w2 :=
  ⟨Nat.le_trans h.size hs, fun k hk hg hu => by
    have e := h.same k hk hg hu
    rw [h2 k (Nat.lt_of_lt_of_le hk h.size) hg (fun ⟨c, f, hc⟩ => hu ⟨c, f, by rw [← e]; exact hc⟩), e]⟩
theorem PT.trans {g : Nat} {w w1 w2 : World} (h : PT g w w1) (k : PT g w1 w2) : PT g w w2 := h.step k.size k.same
theorem PT.alloc {g : Nat} {w w1 : World} (h : PT g w w1) (o : Obj) : PT g w (w1.alloc o) := h.step (by simp) (fun k hk _ _ => Go.Deep.blk_alloc_lt _ _ _ hk)
theorem PT.drew {g : Nat} {w w1 : World} (h : PT g w w1) : PT g w w1.drew := h.step (Nat.le_refl _) (fun _ _ _ _ => rfl)
theorem PT.setG {g : Nat} {w w1 : World} (h : PT g w w1) (i : Nat) (v : Value) : PT g w (w1.setCell ⟨g, i, none⟩ v) := h.step (by simp [World.setCell]) (fun k _ hg _ => Go.Deep.blk_setCell_other _ _ _ _ hg)
theorem PT.setU {g : Nat} {w w1 : World} (h : PT g w w1) {b : Nat} (hb : U8 w1 b) (i : Nat) (v : Value) : PT g w (w1.setCell ⟨b, i, none⟩ v) := h.step (by simp [World.setCell]) (fun k _ _ hu => Go.Deep.blk_setCell_other _ _ _ _ (fun e => hu (by rw [e]; exact hb)))
theorem PT.grown {g : Nat} {w w1 w2 : World} {row : Option Nat} (h : PT g w w1) (hg : w1.grownBy w2 row) (hr : ∀ k, row = some k → U8 w1 k) : PT g w w2 := h.step hg.size (fun k hk _ hu => hg.block k hk (fun e => hu (hr k e.symm)))
theorem own_formW {w : World} {base : Nat} {e : TypeId} {size n : Nat} {v : Value} {xs : List Value} (h : w.ownsRow base e size v n xs) : ∃ A c, v = .slice A n c := by
  rcases h.2 with ⟨rfl, rfl⟩ | ⟨g, cap, cur, rfl, _⟩
  · exact ⟨_, _, rfl⟩
  · exact ⟨_, _, rfl⟩
set_option maxRecDepth 100000 in
set_option maxHeartbeats 4000000 in
theorem put_calls (w : World) (g : Nat) (bl : List Int) (x : Int) (m : Nat) (hw : Wtr w g bl) (hx : 0 ≤ x) (hx1 : x < 4294967296) (hm : m ≤ 32) (hxm : x / 2 ^ m = 0) (hb : bl.length ≤ 100000000) :
    Calls Tryd.prog 36 #[.pointer (some ⟨g, 0, none⟩), .int .u32 x, .int .i64 m] w fun e w' => e = .returned (.int .i64 0) ∧ Wtr w' g (bl ++ vbits x m) ∧ Below g w w' ∧ PT g w w' := by
  have HW := Lib.hid hw
  have HXM := Lib.hid hxm
  clear hw hxm
  go_enter Tryd.func36, Tryd.ntmps36
  have e1 : decide ((m : Int) < 0) = false := by simp
  have e2 : decide (32 < m) = false := by simp; omega
  have e3 : decide ((32 : Int) < (m : Int)) = false := by simp; omega
  have e4 : (x / 2 ^ m != 0) = false := by simpa using HXM.out
  go_wp2_with fail
  go_step3
  go_wp2_with fail
  go_step3
  go_wp2_with fail
  clear e1 e2 e3 e4
  have HW0 : Hid (Wtr w g (bl ++ vbits x 0)) := Lib.hid (by simpa [vbits] using HW.out)
  clear HW
  go_loopw [2, 7] (fun nv rv wr => ∃ j : Nat, j ≤ m ∧ nv = .int .i64 ((m : Int) - j) ∧ rv = .int .u64 (x / 2 ^ j) ∧ Hid (Wtr wr g (bl ++ vbits x j)) ∧ Hid (Below g w wr) ∧ Hid (PT g w wr)) (fun nv _ _ => (intOf nv).toNat)
  case atStart => exact ⟨0, by omega, by simp, by simp, HW0, Lib.hid (Below.refl _ _), Lib.hid (PT.refl _ _)⟩
  case round =>
    clear HW0
    obtain ⟨j, hj, rfl, rfl, HW, HB, HP⟩ := hrel
    by_cases hjm : j < m
    · have e1 : ((m : Int) - j == 0) = false := by simp; omega
      obtain ⟨xs, v, n2, hn2, hblk, hown, hwb⟩ := HW.out
      have hlen : (bl ++ vbits x j).length = bl.length + j := by rw [List.length_append, vbits_len]
      obtain ⟨L, hL⟩ : ∃ L, L = bl.length + j := ⟨_, rfl⟩
      have hLb : L ≤ 100000032 := by omega
      rw [hlen, ← hL] at hblk
      have HL := Lib.hid hL
      have HLEN : Hid ((bl ++ vbits x j).length = L) := Lib.hid (by rw [hlen, hL])
      have hr0 : 0 ≤ x / 2 ^ j := Int.ediv_nonneg hx (Int.le_of_lt (pow_cast j))
      have hr1 : x / 2 ^ j < 4294967296 := Int.lt_of_le_of_lt (Int.ediv_le_self _ hx) hx1
      obtain ⟨k, hk⟩ : ∃ k : Nat, (if 8 - (L : Int) % 8 < (m : Int) - j then 8 - (L : Int) % 8 else (m : Int) - j) = (k : Int) := ⟨min (m - j) (8 - L % 8), by split <;> omega⟩
      have hk1 : 1 ≤ k := by split at hk <;> omega
      have hk8 : L % 8 + k ≤ 8 := by split at hk <;> omega
      have hkm : j + k ≤ m := by split at hk <;> omega
      have s5 : (0 : Int) ≤ (L : Int) % 8 := by omega
      have s6 : (L : Int) % 8 < 8 := by omega
      have s7 : (0 : Int) ≤ (L : Int) := by omega
      have hnext : Hid (x / 2 ^ j / 2 ^ k = x / 2 ^ (j + k)) := Lib.hid (by rw [div_div _ _ _ (pow_cast j), ← Int.pow_add])
      have hstep : Hid (WB ((padF xs (bl ++ vbits x j)).set (L / 8) (nth (padF xs (bl ++ vbits x j)) (L / 8) + x / 2 ^ j % 2 ^ k * 2 ^ (L % 8))) (bl ++ vbits x (j + k))) := Lib.hid (by
        have := pad_step hwb (x / 2 ^ j) k hk1 (by rw [HLEN.out]; exact hk8)
        rw [HLEN.out, List.append_assoc, ← vbits_add] at this
        exact this)
      have hplen : Hid ((padF xs (bl ++ vbits x j)).length = L / 8 + 1) := Lib.hid (by rw [pad_len hwb, HLEN.out])
      have hplast : Hid (0 ≤ nth (padF xs (bl ++ vbits x j)) (L / 8) ∧ nth (padF xs (bl ++ vbits x j)) (L / 8) < 2 ^ (L % 8)) := Lib.hid (by have := pad_last hwb; rwa [HLEN.out] at this)
      have hpad : Hid (padF xs (bl ++ vbits x j) = if L % 8 = 0 then xs ++ [0] else xs) := Lib.hid (by unfold padF; rw [HLEN.out])
      clear hlen hwb hL HLEN
      generalize padF xs (bl ++ vbits x j) = X at *
      have h0 := hblk.cell 0
      have h1 := hblk.cell 1
      simp only [List.getElem?_cons_zero, List.getElem?_cons_succ] at h0 h1
      have hf0 := hblk.frozen 0
      have hf1 := hblk.frozen 1
      by_cases h8 : L % 8 = 0
      · have e2 : ((L : Int) % 8 == 0) = true := by simp; omega
        have hX : X = xs ++ [0] := by have := hpad.out; rwa [if_pos h8] at this
        have hxl : xs.length = L / 8 := by have := hplen.out; rw [hX, List.length_append, List.length_singleton] at this; omega
        have hlt := hblk.lt
        have HOA : Hid ((wr.alloc (.cells #[.int .u8 0] 5)).ownsRow (g + 1) 5 1 v n2 (ints .u8 xs)) := Lib.hid (own_keeps hown ((Keeps.refl [] wr).alloc _) (by simp))
        have HRI : Hid (RI .u8 (wr.alloc (.cells #[.int .u8 0] 5)) (some ⟨wr.heap.size, 0, none⟩) 1 [0]) := Lib.hid (Blk.ri (xs := [0]) (ys := []) (k := .u8) (by simpa [ints] using blk_new wr 5 (ints .u8 [0])))
        have HBA := Lib.hid (HB.out.alloc (Nat.le_of_lt hlt) (.cells #[.int .u8 0] 5))
        have HPA := Lib.hid (HP.out.alloc (.cells #[.int .u8 0] 5))
        have HBK := Lib.hid (hblk.keeps ((Keeps.refl [] wr).alloc (.cells #[.int .u8 0] 5)) (by simp))
        have hn2b : n2 ≤ 100000032 := by omega
        have HN2 : Hid (n2 = L / 8) := Lib.hid (by rw [hn2, hxl])
        obtain ⟨vA, vc, rfl⟩ : ∃ A c, v = .slice A n2 c := own_formW hown
        clear hown hblk hn2 HW hpad
        go_wp2_with (at_builtin; refine app_bytes rfl (.tmp 40) (.tmp 41) rfl (g + 1) _ _ xs rfl (by exact HOA.out) _ 1 1 [0] rfl (by exact HRI.out) (by simp) (by omega) ?c4 ?_)
        case c4 => simp; omega
        intro v1 w1 ho1 hg1
        have hg0 : ∀ k, (Value.slice vA n2 vc).ownBlock = some k → g + 1 ≤ k := fun k hk => (HOA.out.lt k hk).1
        have hblk1 : Blk w1 g 89 [.slice vA n2 vc, .int .i64 L] := (hg1.block g (Nat.lt_trans hlt (by simp)) (fun e => by have := hg0 g e.symm; omega)).trans HBK.out
        have HB1 := Lib.hid (HBA.out.grown hg1 (by simp; omega) (fun k hk => by have := hg0 k hk; omega))
        have HP1 := Lib.hid (HPA.out.grown hg1 (own_u8 HOA.out))
        clear HPA HP
        rw [← hX, HN2.out] at ho1
        have ho1' : w1.ownsRow (g + 1) 5 1 v1 (L / 8 + 1) (ints .u8 X) := ho1
        obtain ⟨rb, cap, rfl, hrb1, hrb2⟩ := ho1'.form (by omega)
        have c0 := hblk1.cell 0
        have c1 := hblk1.cell 1
        simp only [List.getElem?_cons_zero, List.getElem?_cons_succ] at c0 c1
        have cf0 := hblk1.frozen 0
        have hS1 := ownsRow_setCell_below ho1' (a := ⟨g, 0, none⟩) (Nat.lt_succ_self g) (.slice (some ⟨rb, 0, none⟩) (L / 8 + 1) cap)
        have hS2 := hblk1.set 0 (.slice (some ⟨rb, 0, none⟩) (L / 8 + 1) cap)
        have hS3 := HB1.out.setCell (p := ⟨g, 0, none⟩) (Nat.le_refl g) (.slice (some ⟨rb, 0, none⟩) (L / 8 + 1) cap)
        have hP4 := HP1.out.setG 0 (.slice (some ⟨rb, 0, none⟩) (L / 8 + 1) cap)
        have hS4 : rb < (w1.setCell ⟨g, 0, none⟩ (.slice (some ⟨rb, 0, none⟩) (L / 8 + 1) cap)).heap.size := by simpa [World.setCell] using hrb2
        simp only [List.set_cons_zero] at hS2
        have HS := Lib.hid (And.intro hS1 (And.intro hS2 (And.intro hS3 hP4)))
        clear hS1 hS2 hS3 hP4 HP1 h0 h1 hf0 hf1 HOA HRI HBA HBK hblk1 ho1 ho1' HB1 hg1 HB hrb2
        go_upto_region 9 with (fail)
        obtain ⟨hown, hblk, hHB, hHP⟩ := HS.out
        clear HS c0 c1 cf0 hg0 HN2 hX hxl h8 e2
        generalize w1.setCell ⟨g, 0, none⟩ (.slice (some ⟨rb, 0, none⟩) (L / 8 + 1) cap) = ws at *
        have HB := Lib.hid hHB
        have HP := Lib.hid hHP
        have hrb2 := hS4
        have h0 := hblk.cell 0
        have h1 := hblk.cell 1
        simp only [List.getElem?_cons_zero, List.getElem?_cons_succ] at h0 h1
        have hf0 := hblk.frozen 0
        have hf1 := hblk.frozen 1
        clear hHB hHP hS4
        have hcl := hown.cellAt (L / 8) (by omega)
        have hfr := hown.frozenAt (L / 8)
        rw [show (ints .u8 X)[L / 8]? = some (.int .u8 (nth X (L / 8))) by rw [ints_getElem?]; simp [nth, List.getD, show L / 8 < X.length by rw [hplen.out]; omega]] at hcl
        have HST := Lib.hid (hown.stored (L / 8) (.int .u8 (nth X (L / 8) + x / 2 ^ j % 2 ^ k * 2 ^ (L % 8))))
        have T := Lib.hid (put_byte2 (nth X (L / 8)) (x / 2 ^ j) k (L % 8) hplast.out.1 hplast.out.2 hr0 hr1 hk8)
        have HBLK := Lib.hid hblk
        have HU := Lib.hid (own_u8 hown rb rfl)
        clear hown hblk
        have t1 : ((L : Int) % 8).toNat = L % 8 := by omega
        have t2 : (((L / 8 + 1 : Nat) : Int) - 1).toNat = L / 8 := by omega
        have t3 : (0 : Int) ≤ ((L / 8 + 1 : Nat) : Int) - 1 := by omega
        have t4 : ((L / 8 + 1 : Nat) : Int) - 1 < ((L / 8 + 1 : Nat) : Int) := by omega
        have hnb : rb ≠ g := by omega
        generalize nth X (L / 8) = b at *
        generalize x / 2 ^ j = r at *
        have hqb : L / 8 ≤ 100000032 := by omega
        generalize L / 8 = q at *
        have t5 : IntKind.i64.wrap (q : Int) = (q : Int) := IntWalk.i64_in _ (by omega)
        have t6 : (q : Int) < (q : Int) + 1 := by omega
        have t7 : (0 : Int) ≤ (q : Int) := by omega
        have t8 : (q : Int) < ((q + 1 : Nat) : Int) := by omega
        clear t2 t3 t4
        go_upto_region 10 with (fail)
        clear hk
        go_region
        rw [T.out]
        have hk2 : Keeps [rb] ws (ws.setCell ⟨rb, q, none⟩ (.int .u8 (b + r % 2 ^ k * 2 ^ (L % 8)))) := (Keeps.refl [rb] ws).setCell (p := ⟨rb, q, none⟩) (Or.inl (by simp)) _
        have hblk2 := HBLK.out.keeps hk2 (by simpa using Ne.symm hnb)
        have HB2 := Lib.hid (HB.out.setCell (p := ⟨rb, q, none⟩) (show g ≤ rb by omega) (.int .u8 (b + r % 2 ^ k * 2 ^ (L % 8))))
        have HP2 := Lib.hid (HP.out.setU HU.out q (.int .u8 (b + r % 2 ^ k * 2 ^ (L % 8))))
        obtain ⟨ho2, -⟩ := HST.out
        rw [show (ints .u8 X).set q (.int .u8 (b + r % 2 ^ k * 2 ^ (L % 8))) = ints .u8 (X.set q (b + r % 2 ^ k * 2 ^ (L % 8))) by simp [ints, List.map_set]] at ho2
        generalize ws.setCell ⟨rb, q, none⟩ (.int .u8 (b + r % 2 ^ k * 2 ^ (L % 8))) = w2 at *
        have h1' := hblk2.cell 1
        simp only [List.getElem?_cons_zero, List.getElem?_cons_succ] at h1'
        have hf1' := hblk2.frozen 1
        have HBLK2 := Lib.hid hblk2
        have HOWN2 := Lib.hid ho2
        have v1 : IntKind.i64.wrap ((L : Int) + k) = (L : Int) + k := IntWalk.i64_in _ (by omega)
        have v2 : IntKind.i64.wrap ((m : Int) - j - k) = (m : Int) - j - k := IntWalk.i64_in _ (by omega)
        clear hk2 hblk2 ho2 h0 h1 hf0 hf1 hfr hcl HBLK HST T HB HP HU
        go_wp2_with fail
        go_roundw
        case rel =>
          refine ⟨j + k, hkm, by go_num, by rw [← hnext.out], Lib.hid ?_, Lib.hid ?_, Lib.hid (HP2.out.drew.setG 1 _)⟩
          · refine ⟨_, _, _, ?_, ?_, ownsRow_setCell_below HOWN2.out.drew (a := ⟨g, 1, none⟩) (Nat.lt_succ_self g) _, hstep.out⟩
            · rw [List.length_set, hplen.out]
            · have := (HBLK2.out.keeps (Keeps.refl [] w2).drew (by simp)).set 1 (.int .i64 ((L : Int) + k))
              rw [show (bl ++ vbits x (j + k)).length = L + k by rw [List.length_append, vbits_len, HL.out]; omega]
              exact this
          · exact (HB2.out.trans ((Keeps.refl [] w2).drew.below.mono (Nat.le_of_lt HBLK2.out.lt))).setCell (p := ⟨g, 1, none⟩) (Nat.le_refl g) _
        case measure => simp [intOf]; omega
      · have e2 : ((L : Int) % 8 == 0) = false := by simp; omega
        have hX : X = xs := by have := hpad.out; rwa [if_neg h8] at this
        subst hX
        have hn3 : n2 = L / 8 + 1 := by rw [hn2, hplen.out]
        subst hn3
        obtain ⟨rb, cap, rfl, hrb1, hrb2⟩ := hown.form (by omega)
        obtain ⟨ws, hws⟩ : ∃ ws : World, ws = wr := ⟨_, rfl⟩
        rw [← hws] at hown hblk HB HP h0 h1 hf0 hf1 hrb2 ⊢
        clear hws HW
        have hcl := hown.cellAt (L / 8) (by omega)
        have hfr := hown.frozenAt (L / 8)
        rw [show (ints .u8 X)[L / 8]? = some (.int .u8 (nth X (L / 8))) by rw [ints_getElem?]; simp [nth, List.getD, show L / 8 < X.length by rw [hplen.out]; omega]] at hcl
        have HST := Lib.hid (hown.stored (L / 8) (.int .u8 (nth X (L / 8) + x / 2 ^ j % 2 ^ k * 2 ^ (L % 8))))
        have T := Lib.hid (put_byte2 (nth X (L / 8)) (x / 2 ^ j) k (L % 8) hplast.out.1 hplast.out.2 hr0 hr1 hk8)
        have HBLK := Lib.hid hblk
        have HU := Lib.hid (own_u8 hown rb rfl)
        clear hown hblk hn2 hpad
        have t1 : ((L : Int) % 8).toNat = L % 8 := by omega
        have t2 : (((L / 8 + 1 : Nat) : Int) - 1).toNat = L / 8 := by omega
        have t3 : (0 : Int) ≤ ((L / 8 + 1 : Nat) : Int) - 1 := by omega
        have t4 : ((L / 8 + 1 : Nat) : Int) - 1 < ((L / 8 + 1 : Nat) : Int) := by omega
        have hnb : rb ≠ g := by omega
        generalize nth X (L / 8) = b at *
        generalize x / 2 ^ j = r at *
        have hqb : L / 8 ≤ 100000032 := by omega
        generalize L / 8 = q at *
        have t5 : IntKind.i64.wrap (q : Int) = (q : Int) := IntWalk.i64_in _ (by omega)
        have t6 : (q : Int) < (q : Int) + 1 := by omega
        have t7 : (0 : Int) ≤ (q : Int) := by omega
        have t8 : (q : Int) < ((q + 1 : Nat) : Int) := by omega
        clear t2 t3 t4
        go_upto_region 10 with (fail)
        clear hk
        go_region
        rw [T.out]
        have hk2 : Keeps [rb] ws (ws.setCell ⟨rb, q, none⟩ (.int .u8 (b + r % 2 ^ k * 2 ^ (L % 8)))) := (Keeps.refl [rb] ws).setCell (p := ⟨rb, q, none⟩) (Or.inl (by simp)) _
        have hblk2 := HBLK.out.keeps hk2 (by simpa using Ne.symm hnb)
        have HB2 := Lib.hid (HB.out.setCell (p := ⟨rb, q, none⟩) (show g ≤ rb by omega) (.int .u8 (b + r % 2 ^ k * 2 ^ (L % 8))))
        have HP2 := Lib.hid (HP.out.setU HU.out q (.int .u8 (b + r % 2 ^ k * 2 ^ (L % 8))))
        obtain ⟨ho2, -⟩ := HST.out
        rw [show (ints .u8 X).set q (.int .u8 (b + r % 2 ^ k * 2 ^ (L % 8))) = ints .u8 (X.set q (b + r % 2 ^ k * 2 ^ (L % 8))) by simp [ints, List.map_set]] at ho2
        generalize ws.setCell ⟨rb, q, none⟩ (.int .u8 (b + r % 2 ^ k * 2 ^ (L % 8))) = w2 at *
        have h1' := hblk2.cell 1
        simp only [List.getElem?_cons_zero, List.getElem?_cons_succ] at h1'
        have hf1' := hblk2.frozen 1
        have HBLK2 := Lib.hid hblk2
        have HOWN2 := Lib.hid ho2
        have v1 : IntKind.i64.wrap ((L : Int) + k) = (L : Int) + k := IntWalk.i64_in _ (by omega)
        have v2 : IntKind.i64.wrap ((m : Int) - j - k) = (m : Int) - j - k := IntWalk.i64_in _ (by omega)
        clear hk2 hblk2 ho2 h0 h1 hf0 hf1 hfr hcl HBLK HST T HB HP HU
        go_wp2_with fail
        go_roundw
        case rel =>
          refine ⟨j + k, hkm, by go_num, by rw [← hnext.out], Lib.hid ?_, Lib.hid ?_, Lib.hid (HP2.out.drew.setG 1 _)⟩
          · refine ⟨_, _, _, ?_, ?_, ownsRow_setCell_below HOWN2.out.drew (a := ⟨g, 1, none⟩) (Nat.lt_succ_self g) _, hstep.out⟩
            · rw [List.length_set, hplen.out]
            · have := (HBLK2.out.keeps (Keeps.refl [] w2).drew (by simp)).set 1 (.int .i64 ((L : Int) + k))
              rw [show (bl ++ vbits x (j + k)).length = L + k by rw [List.length_append, vbits_len, HL.out]; omega]
              exact this
          · exact (HB2.out.trans ((Keeps.refl [] w2).drew.below.mono (Nat.le_of_lt HBLK2.out.lt))).setCell (p := ⟨g, 1, none⟩) (Nat.le_refl g) _
        case measure => simp [intOf]; omega
    · obtain rfl : j = m := by omega
      have e1 : ((j : Int) - j == 0) = true := by simp
      go_wp2_with fail
      dsimp only [Exit.noGoto]
      go_ret
      exact ⟨rfl, HW.out, HB.out, HP.out⟩

theorem size_u8b : (Tryd.prog.info? 5).map (·.size) = some 1 := by kernel_rfl
set_option maxRecDepth 100000 in
set_option maxHeartbeats 400000 in
theorem bytes_calls (w : World) (g : Nat) (bl : List Int) (hw : Wtr w g bl) (hb : bl.length ≤ 100000000) :
    Calls Tryd.prog 38 #[.pointer (some ⟨g, 0, none⟩)] w fun e w' => ∃ (n : Nat) (xs : List Int), e = .returned (.slice (some ⟨w.heap.size, 0, none⟩) n n) ∧ RI .u8 w' (some ⟨w.heap.size, 0, none⟩) n xs ∧ WB xs bl ∧ Below w.heap.size w w' := by
  obtain ⟨xs, v, n, hn, hblk, hown, hwb⟩ := hw
  obtain ⟨A, c, rfl⟩ := own_formW hown
  obtain ⟨A', c', hv, hri, -, -⟩ := own_ri hown
  injection hv with h1 h2 h3
  subst h1
  subst h3
  have hnb : n ≤ 12500001 := by have := hwb.len; omega
  have h0 := hblk.cell 0
  simp only [List.getElem?_cons_zero] at h0
  have hlt := hblk.lt
  have LX : Hid (xs.length = n) := Lib.hid hn.symm
  have HX := Lib.hid hri
  have HWB := Lib.hid hwb
  clear hown hri hwb hn hblk
  have hmk := fun w => make_ints (P := Tryd.prog) w 22 5 .u8 1 Tryd.underlying22 info_u8 (n : Int) n rfl (by omega) (by omega)
  go_enter Tryd.func38, Tryd.ntmps38
  go_wp2_with (with_reducible refine wpList_copy_splice rfl (.tmp 12) (.tmp 16) _ _ rfl 5 Tryd.underlying22 size_u8b _ _ _ _ _ _ rfl rfl w.heap.size 0 (ints .u8 (List.replicate n 0)) 5 ?h1 (ints .u8 xs) ?h2 ?h3 ?h4 ?h5 w.heap.size w ?h6 (Nat.le_refl _) ?_)
  case h1 => first | exact blk_new w _ _ | exact (Array.getElem?_eq_some_iff.1 (blk_new w 5 (ints .u8 (List.replicate n 0)))).2
  case h2 => have := LX.out; simp [ints]; omega
  case h3 =>
    intro hp
    obtain ⟨a, o, ha⟩ := HX.out.hd (by have := LX.out; simpa [ints, this] using hp)
    refine ⟨_, ha, fun j v hv => ?_⟩
    have hj : j < n := by have := LX.out; have := (List.getElem?_eq_some_iff.1 hv).1; simp [ints] at this; omega
    have hc := HX.out.cell a o ha j hj
    have e : (ints .u8 xs)[j]? = some (.int .u8 (nth xs j)) := by rw [ints_getElem?]; simp [nth, List.getD, show j < xs.length from by have := LX.out; omega]
    rw [e] at hv
    rw [← Option.some.inj hv, add_plain2]
    exact (Keeps.refl [] w).alloc _ |>.cell (by simp) hc
  case h4 => have := LX.out; simp [ints]; omega
  case h5 => intro v hv; simp only [ints, List.mem_map] at hv; obtain ⟨x, _, rfl⟩ := hv; rfl
  case h6 => exact (Below.refl _ _).alloc (Nat.le_refl _) _
  intro w1 hg1 hb1
  have hB : Blk w1 w.heap.size 5 (splice (ints .u8 (List.replicate n 0)) 0 (ints .u8 xs)) := hg1.out
  have hsp : splice (ints .u8 (List.replicate n 0)) 0 (ints .u8 xs) = ints .u8 (xs ++ []) := by
    have := LX.out
    simp [splice, ints, this]
  rw [hsp] at hB
  have HR2 := Lib.hid hB.ri
  have HB1 := Lib.hid hb1
  clear hg1 hsp hB hmk hb1
  go_wp2
  go_ret
  exact ⟨n, xs, rfl, by have := HR2.out; rwa [LX.out] at this, HWB.out, HB1.out⟩
end Go.Proofs.YtkpabdjniiepkaaDoor
