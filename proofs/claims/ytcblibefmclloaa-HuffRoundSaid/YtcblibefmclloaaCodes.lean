import Derived.Test.YtcblibefmclloaaTurned
import Derived.Test.YtcblibefmclloaaFirst
import Derived.Test.YtcblibefmclloaaCheck
set_option linter.unusedVariables false
set_option linter.unusedSimpArgs false
namespace Go.Proofs.Ytcblibefmclloaa
open Go.RowKit
theorem info_u32 : (Try.prog.info? 30).map (fun i => (i.zero, i.size, i.bytes)) = some (some (.int .u32 0), 1, 4) := by kernel_rfl
theorem own_of_blkK {w : World} {base g n : Nat} {k : IntKind} {t : TypeId} {xs : List Int} (h : Blk w g t (ints k xs)) (hl : xs.length = n) (hb : base ≤ g) (hn : n ≤ 1000000000) : w.ownsRow base t 1 (.slice (some ⟨g, 0, none⟩) n n) n (ints k xs) :=
  ⟨by simp [ints, hl], .inr ⟨g, n, _, rfl, hb, h, Nat.le_refl _, by unfold maxLen; omega, by simp [ints, hl], by rw [List.toList_toArray, List.take_of_length_le (by simp [ints, hl])]⟩⟩
theorem wpList_store_row {ops : Array Oper} {rest : List Oper} {o : Oper} {a : Act} {w : World} {Q : Exit → Act → World → Prop} (hgd : o.guard = none) (ty : TypeId) (x y : Operand) (ho : o.op = .store ty x y)
    (g : Nat) (cells : Array Value) (hx : a.eval x = .pointer (some ⟨g, 0, none⟩)) (hy : a.eval y = .agg cells)
    (t : TypeId) (old : Array Value) (hg : w.heap[g]? = some (.cells old t (0, 0))) (hi : (Try.prog.info? ty).map (·.size) = some cells.size)
    (hold : old.size = cells.size) (h1 : cells.all (·.oneCell') = true)
    (h : wpList Try.prog ops Q rest (a.put o.dst undef) (w.setRow g cells)) : wpList Try.prog ops Q (o :: rest) a w :=
  wpList_plain hgd fun _ hK => wp_store_row ty x y ho g cells hx hy t old hg hi hold h1 (hK _ _ h)
theorem Blk.row {w : World} {g : Nat} {t : TypeId} {old : List Value} (h : Blk w g t old) (cs : List Value) : Blk (w.setRow g cs.toArray) g t cs := setRow_heap w g _ _ t _ h
theorem Blk.row_other {w : World} {g g' : Nat} {t : TypeId} {cs : List Value} (h : Blk w g t cs) (hne : g ≠ g') (ds : Array Value) : Blk (w.setRow g' ds) g t cs := (setRow_other w g' g ds hne).trans h
theorem below_row {B g : Nat} {w0 w : World} (hb : Below B w0 w) (hBg : B ≤ g) (cs : Array Value) : Below B w0 (w.setRow g cs) :=
  hb.trans ⟨rfl, rfl, rfl, by simp [World.setRow], fun k hk => setRow_other w g k cs (by omega)⟩
/-- A symbol's code, the highest bit first. -/
def codeI (l : List Int) (i : Nat) : Int := lowF (lenCnt l) (nth l i).toNat + nth (lenCnt (l.take i)) (nth l i).toNat
/-- The codes as they are laid. -/
def outL (l : List Int) (k : Nat) : List Int := (List.range l.length).map fun i => if i < k ∧ 0 < nth l i then revF (codeI l i) (nth l i).toNat else 0
/-- What code comes next, of each length. -/
def nextL (l : List Int) (k : Nat) : List Int := (List.range 16).map fun n => lowF (lenCnt l) n + nth (lenCnt (l.take k)) n
/-- Codes: the list, and what is wrong. -/
def codesF (l : List Int) : List Int × Int := if checkF l = 0 then (outL l l.length, 0) else ([], checkF l)
theorem outL_len (l : List Int) (k : Nat) : (outL l k).length = l.length := by simp [outL]
theorem nextL_len (l : List Int) (k : Nat) : (nextL l k).length = 16 := by simp [nextL]
theorem outL_zero (l : List Int) : outL l 0 = List.replicate l.length 0 := by
  refine List.ext_getElem (by simp [outL]) fun j h1 h2 => ?_
  simp [outL]
theorem nth_map_range (f : Nat → Int) (n j : Nat) (h : j < n) : nth ((List.range n).map f) j = f j := by simp [nth, List.getD, h]
theorem nextL_zero (l : List Int) : nextL l 0 = lowL (lenCnt l) 16 := by
  refine List.ext_getElem (by simp [nextL, lowL]) fun j h1 h2 => ?_
  have hj : j < 16 := by simpa [nextL] using h1
  simp only [nextL, lowL, List.getElem_map, List.getElem_range, List.take_zero]
  rw [if_pos hj]
  have : nth (lenCnt []) j = 0 := by unfold lenCnt; rw [cntF_nth _ _ _ hj]; simp
  omega
theorem outL_skip (l : List Int) (k : Nat) (h : ¬ 0 < nth l k) : outL l (k + 1) = outL l k := by
  refine List.ext_getElem (by simp [outL]) fun j h1 h2 => ?_
  simp only [outL, List.getElem_map, List.getElem_range]
  by_cases e : j = k
  · subst e; rw [if_neg (fun h' => h h'.2), if_neg (fun h' => h h'.2)]
  · by_cases hj : j < k
    · by_cases hz : 0 < nth l j
      · rw [if_pos ⟨by omega, hz⟩, if_pos ⟨hj, hz⟩]
      · rw [if_neg (fun h' => hz h'.2), if_neg (fun h' => hz h'.2)]
    · rw [if_neg (by omega), if_neg (by omega)]
theorem outL_step (l : List Int) (k : Nat) (hk : k < l.length) (h : 0 < nth l k) : outL l (k + 1) = (outL l k).set k (revF (codeI l k) (nth l k).toNat) := by
  refine List.ext_getElem (by simp [outL]) fun j h1 h2 => ?_
  rw [List.getElem_set]
  simp only [outL, List.getElem_map, List.getElem_range]
  by_cases e : k = j
  · subst e; rw [if_pos rfl, if_pos ⟨by omega, h⟩]
  · rw [if_neg e]
    by_cases hj : j < k
    · by_cases hz : 0 < nth l j
      · rw [if_pos ⟨by omega, hz⟩, if_pos ⟨hj, hz⟩]
      · rw [if_neg (fun h' => hz h'.2), if_neg (fun h' => hz h'.2)]
    · rw [if_neg (by omega), if_neg (by omega)]
theorem nextL_skip (l : List Int) (k : Nat) (hk : k < l.length) (h : ¬ 0 < nth l k) : nextL l (k + 1) = nextL l k := by
  unfold nextL; rw [lenCnt_skip l k hk h]
theorem nextL_step (l : List Int) (k : Nat) (hk : k < l.length) (s : Nat) (hs : s < 16) (hsn : lenCnt (l.take (k + 1)) = (lenCnt (l.take k)).set s (nth (lenCnt (l.take k)) s + 1)) : nextL l (k + 1) = (nextL l k).set s (nth (nextL l k) s + 1) := by
  refine List.ext_getElem (by simp [nextL]) fun j h1 h2 => ?_
  have hj : j < 16 := by simpa [nextL] using h1
  rw [List.getElem_set]
  simp only [nextL, List.getElem_map, List.getElem_range]
  rw [hsn, nth_map_range _ _ _ hs]
  by_cases e : s = j
  · subst e
    rw [if_pos rfl]
    have : nth ((lenCnt (l.take k)).set s (nth (lenCnt (l.take k)) s + 1)) s = nth (lenCnt (l.take k)) s + 1 := by
      simp [nth, List.getD, lenCnt_len, hs]
    omega
  · rw [if_neg e]
    congr 1
    simp [nth, List.getD, e]
/-- What coding is to give. -/
def Coded (w : World) (r : List Int × Int) (e : Ending) (w' : World) : Prop :=
  ∃ v, e = .returned (.tuple #[v, .int .i64 r.2]) ∧ w'.ownsRow w.heap.size 30 1 v r.1.length (ints .u32 r.1) ∧ Below w.heap.size w w'
theorem coded_err {w w' : World} {r : List Int × Int} {e : Int} (hr : r = ([], e)) (h : Below w.heap.size w w') : Coded w r (.returned (.tuple #[.slice none 0 0, .int .i64 e])) w' := by
  subst hr
  exact ⟨_, rfl, World.ownsRow_nil _ _ _ _, h⟩
theorem coded_ok {w w' : World} {r : List Int × Int} {v : Value} {n : Nat} {ls : List Int} (hr : r = (ls, 0)) (hl : ls.length = n) (ho : w'.ownsRow w.heap.size 30 1 v n (ints .u32 ls)) (h : Below w.heap.size w w') : Coded w r (.returned (.tuple #[v, .int .i64 0])) w' := by
  subst hr hl
  exact ⟨_, rfl, ho, h⟩
set_option maxRecDepth 100000 in
set_option maxHeartbeats 2000000 in
theorem codes_calls (w : World) (A : Option Addr) (n c : Nat) (l : List Int) (hl : RI .i64 w A n l) (hn : n ≤ 140737488355328) :
    Calls Try.prog 11 #[.slice A n c] w (Coded w (codesF l)) := by
  have HL := Lib.hid hl
  have HLL := Lib.hid hl.len
  clear hl
  go_enter Try.func11, Try.ntmps11
  go_wp2_with fail
  refine (check_calls _ _ _ _ l HL.out hn).mono ?_
  rintro _ w1 ⟨rfl, hd⟩
  have HD := Lib.hid hd
  clear hd
  by_cases hc : checkF l = 0
  · have e1 : (checkF l != 0) = false := by simp [hc]
    have HR : Hid (codesF l = (outL l l.length, 0)) := if_pos hc
    have HC := Lib.hid hc
    have hok := check_ok hc
    have HOK := Lib.hid hok.2
    have hn288 : n ≤ 288 := by rw [← HLL.out]; exact hok.1
    have HL1 := Lib.hid (HL.out.keeps (HD.out.keeps (S := [])) (off_nil _))
    clear hc hok
    go_wp2_with fail
    refine (first_calls _ _ _ _ l HL1.out hn288 HOK.out).mono ?_
    rintro _ w2 ⟨rfl, hb⟩
    have HB := Lib.hid ((HD.out.keeps (S := [])).below.trans (hb.mono (HD.out.keeps (S := [])).size))
    clear hb
    have Z16 : Hid (∀ z : List Value, z = ints .i64 (List.replicate 16 0) → Blk ((w2.alloc (.cells z.toArray 58)).alloc (.cells z.toArray 58)) w2.heap.size 58 (ints .i64 (List.replicate 16 0)) ∧ Blk ((w2.alloc (.cells z.toArray 58)).alloc (.cells z.toArray 58)) (w2.heap.size + 1) 58 (ints .i64 (List.replicate 16 0)) ∧ Below w.heap.size w ((w2.alloc (.cells z.toArray 58)).alloc (.cells z.toArray 58))) := by
      rintro z rfl
      refine ⟨Blk.alloc (blk_new w2 _ _) _, ?_, (HB.out.alloc HB.out.size _).alloc (by have := HB.out.size; simp; omega) _⟩
      have := blk_new (w2.alloc (.cells (ints .i64 (List.replicate 16 0)).toArray 58)) 58 (ints .i64 (List.replicate 16 0))
      simpa using this
    obtain ⟨z0, z1, z2⟩ := Z16.out [.int .i64 0, .int .i64 0, .int .i64 0, .int .i64 0, .int .i64 0, .int .i64 0, .int .i64 0, .int .i64 0, .int .i64 0, .int .i64 0, .int .i64 0, .int .i64 0, .int .i64 0, .int .i64 0, .int .i64 0, .int .i64 0] rfl
    have LX : Hid ((ints .i64 (lowL (lenCnt l) 16)).toArray.size = 16) := by show _ = _; simp [ints, lowL_len]
    have LY : Hid ((ints .i64 (lenCnt l)).toArray.size = 16) := by show _ = _; simp [ints, lenCnt_len]
    have y0 := z0.row (ints .i64 (lowL (lenCnt l) 16))
    have y1 := (z1.row_other (g' := w2.heap.size) (by simp) (ints .i64 (lowL (lenCnt l) 16)).toArray).row (ints .i64 (lenCnt l))
    have y2 := below_row (below_row z2 HB.out.size (ints .i64 (lowL (lenCnt l) 16)).toArray) (g := w2.heap.size + 1) (by have := HB.out.size; omega) (ints .i64 (lenCnt l)).toArray
    have y3 := y0.row_other (g' := w2.heap.size + 1) (by simp) (ints .i64 (lenCnt l)).toArray
    have Z0 := Lib.hid z0
    have Z1 := Lib.hid (z1.row_other (g' := w2.heap.size) (by simp) (ints .i64 (lowL (lenCnt l) 16)).toArray)
    have Y2 := Lib.hid y2
    have Y3 := Lib.hid y3
    have hbz := HB.out.size
    clear z0 z1 z2 Z16 y0 y1 y2 y3
    have hmk := fun w => make_ints (P := Try.prog) w 26 30 .u32 4 Try.underlying26 info_u32 (n : Int) n rfl (by omega) (by omega)
    go_upto_region 5 with (first
      | (refine wpList_store_row rfl 58 (.tmp 5) (.tmp 18) rfl w2.heap.size (ints .i64 (lowL (lenCnt l) 16)).toArray rfl rfl 58 (ints .i64 (List.replicate 16 0)).toArray (by exact Z0.out) (by rw [LX.out]; kernel_rfl) (by rw [LX.out]; rfl) (all_ints_one _) ?_)
      | (refine wpList_store_row rfl 58 (.tmp 6) (.tmp 19) rfl (w2.heap.size + 1) (ints .i64 (lenCnt l)).toArray rfl rfl 58 (ints .i64 (List.replicate 16 0)).toArray (by exact Z1.out) (by rw [LY.out]; kernel_rfl) (by rw [LY.out]; rfl) (all_ints_one _) ?_))
    obtain ⟨w3, hw3⟩ : ∃ w3, w3 = (((w2.alloc (.cells #[.int .i64 0, .int .i64 0, .int .i64 0, .int .i64 0, .int .i64 0, .int .i64 0, .int .i64 0, .int .i64 0, .int .i64 0, .int .i64 0, .int .i64 0, .int .i64 0, .int .i64 0, .int .i64 0, .int .i64 0, .int .i64 0] 58)).alloc (.cells #[.int .i64 0, .int .i64 0, .int .i64 0, .int .i64 0, .int .i64 0, .int .i64 0, .int .i64 0, .int .i64 0, .int .i64 0, .int .i64 0, .int .i64 0, .int .i64 0, .int .i64 0, .int .i64 0, .int .i64 0, .int .i64 0] 58)).setRow w2.heap.size (ints .i64 (lowL (lenCnt l) 16)).toArray).setRow (w2.heap.size + 1) (ints .i64 (lenCnt l)).toArray := ⟨_, rfl⟩
    rw [← hw3] at Y2 Y3 ⊢
    clear hw3 Z0 Z1
    have HNX : Hid (Blk (w3.alloc (.cells (ints .u32 (List.replicate n 0)).toArray 30)) w2.heap.size 58 (ints .i64 (nextL l 0))) := by rw [nextL_zero]; exact Y3.out.alloc _
    have HOUT : Hid (Blk (w3.alloc (.cells (ints .u32 (List.replicate n 0)).toArray 30)) w3.heap.size 30 (ints .u32 (outL l 0))) := by rw [outL_zero, HLL.out]; exact blk_new w3 _ _
    have HBW := Lib.hid (Y2.out.alloc (Y2.out.size) (.cells (ints .u32 (List.replicate n 0)).toArray 30))
    have HLT := Lib.hid Y3.out.lt
    have hb3 := Y2.out.size
    clear Y2 Y3
    generalize hq : w2.heap.size = q at *
    go_wp2_with fail
    generalize hgo : w3.heap.size = go at *
    go_loopw [25] (fun i wr => ∃ k : Nat, k ≤ n ∧ i = .int .i64 k ∧ Hid (Blk wr q 58 (ints .i64 (nextL l k))) ∧ Hid (Blk wr go 30 (ints .u32 (outL l k))) ∧ Hid (Below w.heap.size w wr)) (fun i _ => n - (intOf i).toNat)
    case atStart => exact ⟨0, by omega, rfl, HNX, HOUT, HBW⟩
    case round =>
      clear HNX HOUT HBW
      obtain ⟨k, hk, rfl, HNX, HOUT, HBW⟩ := hrel
      by_cases hlt : k < n
      · obtain ⟨b, o, rfl, hc⟩ := HL.out.at hlt
        have hc := (Keeps.of_below (S := []) HBW.out).cell (by simp) hc
        have hx : okLen (nth l k) = true := by rw [nth_lt (by have := HLL.out; omega)]; exact List.all_eq_true.1 HOK.out _ (List.getElem_mem _)
        have hx1 : 0 ≤ nth l k ∧ nth l k ≤ 15 := by simpa [okLen] using hx
        obtain ⟨hx2, hx3⟩ := hx1
        clear hx
        by_cases hz : 0 < nth l k
        · obtain ⟨s, hs, hs16, hsn⟩ := lenCnt_snoc l k (by have := HLL.out; omega) hz hx3
          have S1 := Lib.hid (nextL_step l k (by have := HLL.out; omega) s hs16 hsn)
          have S2 := Lib.hid (outL_step l k (by have := HLL.out; omega) hz)
          have h0 := HNX.out.cellI (j := s) (by rw [nextL_len]; exact hs16)
          have hf := HNX.out.frozen s
          have g0 := HOUT.out.cellI (j := k) (by rw [outL_len, HLL.out]; exact hlt)
          have gf := HOUT.out.frozen k
          have HCI : Hid (codeI l k = nth (nextL l k) s) := by
            show _ = _
            unfold codeI nextL
            rw [nth_map_range _ _ _ hs16, hs]; simp
          obtain ⟨b0, b1⟩ := lenCnt_bd (l.take k) s hs16
          obtain ⟨c0, c1⟩ := lowF_small l (by have := HLL.out; omega) s (by omega)
          have hxv : nth (nextL l k) s = lowF (lenCnt l) s + nth (lenCnt (l.take k)) s := by unfold nextL; rw [nth_map_range _ _ _ hs16]
          have b2 : (l.take k).length ≤ 288 := by rw [List.length_take]; omega
          have x0 : 0 ≤ nth (nextL l k) s := by omega
          have x1 : nth (nextL l k) s ≤ 50000000 := by omega
          have hks : Hid ((nth l k).toNat = s) := by show _ = _; rw [hs]; simp
          rw [hs] at hc hx2 hx3 hz
          have e3 : decide (0 < s) = true := by simp; omega
          clear hxv b0 b1 b2 c0 c1 hsn hs
          generalize nth (nextL l k) s = x at *
          go_wp2_with fail
          refine (turned_calls _ x s x0 (by omega) (by omega)).mono ?_
          rintro _ w4 ⟨rfl, rfl⟩
          have HSET1 : Hid (Blk (wr.setCell ⟨go, k, none⟩ (.int .u32 (revF x s))) go 30 (ints .u32 (outL l (k + 1)))) := by
            have := HOUT.out.set k (.int .u32 (revF x s))
            rw [set_ints] at this
            rw [S2.out, HCI.out, hks.out]; exact this
          have HSET2 := Lib.hid (HNX.out.set_other (a := ⟨go, k, none⟩) (by have := HLT.out; show q ≠ go; omega) (.int .u32 (revF x s)))
          have HW4 := Lib.hid (HBW.out.setCell (p := ⟨go, k, none⟩) hb3 (.int .u32 (revF x s)))
          have hne1 : ¬ q = go := by have := HLT.out; omega
          have hne2 : ¬ go = q := by have := HLT.out; omega
          have HSET3 : Hid (Blk ((wr.setCell ⟨go, k, none⟩ (.int .u32 (revF x s))).setCell ⟨q, s, none⟩ (.int .i64 (x + 1))) q 58 (ints .i64 (nextL l (k + 1)))) := by
            have := HSET2.out.set s (.int .i64 (x + 1))
            rw [set_ints, ← S1.out] at this; exact this
          have HSET4 := Lib.hid (HSET1.out.set_other (a := ⟨q, s, none⟩) (by exact hne2) (.int .i64 (x + 1)))
          have HW5 := Lib.hid (HW4.out.setCell (p := ⟨q, s, none⟩) hbz (.int .i64 (x + 1)))
          clear HNX HOUT HBW HSET1 HSET2 HW4
          go_wp2_with fail
          go_roundw
          case rel => exact ⟨k + 1, by omega, by go_num, HSET3, HSET4, HW5⟩
          case measure => simp [intOf]; omega
        · have e3 : decide (0 < nth l k) = false := by simpa using hz
          have S1 := Lib.hid (nextL_skip l k (by have := HLL.out; omega) hz)
          have S2 := Lib.hid (outL_skip l k hz)
          go_wp2_with fail
          go_roundw
          case rel => exact ⟨k + 1, by omega, by go_num, by rw [S1.out]; exact HNX, by rw [S2.out]; exact HOUT, HBW⟩
          case measure => simp [intOf]; omega
      · obtain rfl : k = n := by omega
        go_wp2_with fail
        go_ret2
        refine coded_ok (v := .slice (some ⟨go, 0, none⟩) k k) (ls := outL l k) (by rw [HR.out, HLL.out]) (by rw [outL_len, HLL.out]) ?_ HBW.out
        exact own_of_blkK HOUT.out (by rw [outL_len, HLL.out]) hb3 (by omega)
  · have e1 : (checkF l != 0) = true := by simpa using hc
    have HR : Hid (codesF l = ([], checkF l)) := if_neg hc
    go_wp2_with fail
    go_ret2
    exact coded_err HR.out (HD.out.keeps (S := [])).below
end Go.Proofs.Ytcblibefmclloaa
