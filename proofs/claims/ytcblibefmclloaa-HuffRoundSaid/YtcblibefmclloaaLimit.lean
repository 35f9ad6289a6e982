import Derived.Test.YtcblibefmclloaaPackRow
import Derived.Test.YtcblibefmclloaaConcat
import Derived.Test.YtcblibefmclloaaMHuff
import Derived.Test.YtcblibefmclloaaMLim2
set_option linter.unusedVariables false
set_option linter.unusedSimpArgs false
namespace Go.Proofs.Ytcblibefmclloaa
open Go.RowKit
/-- What limiting is to give. -/
def Limited (w : World) (r : List Int × Int) (e : Ending) (w' : World) : Prop :=
  ∃ v, e = .returned (.tuple #[v, .int .i64 r.2]) ∧ w'.ownsRow w.heap.size 3 1 v r.1.length (ints .i64 r.1) ∧ Below w.heap.size w w'
theorem limited_err (w w' : World) (r : List Int × Int) (e : Int) (hr : r = ([], e)) (h : Below w.heap.size w w') : Limited w r (.returned (.tuple #[.slice none 0 0, .int .i64 e])) w' := by
  subst hr
  exact ⟨_, rfl, World.ownsRow_nil _ _ _ _, h⟩
theorem limited_ok {w w' : World} {r : List Int × Int} {v : Value} {n : Nat} {ls : List Int} (hr : r = (ls, 0)) (hl : ls.length = n) (ho : w'.ownsRow w.heap.size 3 1 v n (ints .i64 ls)) (h : Below w.heap.size w w') : Limited w r (.returned (.tuple #[v, .int .i64 0])) w' := by
  subst hr hl
  exact ⟨_, rfl, ho, h⟩
set_option maxRecDepth 100000 in
set_option maxHeartbeats 1000000 in
theorem limit_arg (w : World) (A : Option Addr) (n c : Nat) (l : List Int) (most : Int) (hl : l.length = n) (hb : n = 0 ∨ 288 < n ∨ most < 1 ∨ 15 < most) :
    Calls Try.prog 15 #[.slice A n c, .int .i64 most] w (Limited w (limF l most)) := by
  have HR : Hid (limF l most = ([], 1)) := by show _ = _; rw [limF, if_pos (by omega)]
  by_cases h0 : n = 0
  · subst h0
    clear hb hl
    go_enter Try.func15, Try.ntmps15
    go_wp2_with fail
    go_ret2
    exact limited_err _ _ _ _ HR.out (Below.refl _ _)
  · have e0 : ((n : Int) == 0) = false := by simp; omega
    by_cases h1 : 288 < n
    · have e1 : decide (288 < n) = true := by simpa using h1
      clear hb hl
      go_enter Try.func15, Try.ntmps15
      go_wp2_with fail
      go_ret2
      exact limited_err _ _ _ _ HR.out (Below.refl _ _)
    · have e1 : decide (288 < n) = false := by simpa using h1
      by_cases h2 : most < 1
      · have e2 : decide (most < 1) = true := by simpa using h2
        clear hb hl
        go_enter Try.func15, Try.ntmps15
        go_wp2_with fail
        go_ret2
        exact limited_err _ _ _ _ HR.out (Below.refl _ _)
      · have e2 : decide (most < 1) = false := by simpa using h2
        have e3 : decide (15 < most) = true := by simp; omega
        clear hb hl
        go_enter Try.func15, Try.ntmps15
        go_wp2_with fail
        go_ret2
        exact limited_err _ _ _ _ HR.out (Below.refl _ _)
theorem any_snoc (l : List Int) (k : Nat) (h : k < l.length) : (l.take (k + 1)).any badCount = ((l.take k).any badCount || badCount (nth l k)) := by
  rw [take_snoc' l k h, List.any_append]; simp
theorem leaves_snoc (l : List Int) (k : Nat) (h : k < l.length) : leavesF (l.take (k + 1)) 0 = leavesF (l.take k) 0 ++ if 0 < nth l k then [(nth l k, [(k : Int)])] else [] := by
  rw [take_snoc' l k h, leavesF_snoc]
  simp [List.length_take, Nat.min_eq_left (Nat.le_of_lt h)]
theorem any_hit (l : List Int) (k : Nat) (h : k < l.length) (hb : badCount (nth l k) = true) : l.any badCount = true := by
  rw [List.any_eq_true]
  rw [nth_lt h] at hb
  exact ⟨_, List.getElem_mem h, hb⟩
set_option maxRecDepth 100000 in
set_option maxHeartbeats 4000000 in
theorem limit_rest (w : World) (A : Option Addr) (n c : Nat) (l : List Int) (m : Nat) (hl : RI .i64 w A n l) (h0 : 0 < n) (h1 : n ≤ 288) (h2 : 1 ≤ m) (h3 : m ≤ 15) :
    Calls Try.prog 15 #[.slice A n c, .int .i64 m] w (Limited w (limF l m)) := by
  have hll := hl.len
  have HL := Lib.hid hl
  have HLL := Lib.hid hll
  have HR : Hid (limF l m = if l.any badCount then ([], 1) else if 2 ^ m < (leavesF l 0).length then ([], 30) else (limLens l m, 0)) := by
    show _ = _; rw [limF, if_neg (by omega)]; simp
  clear hl hll
  have e0 : ((n : Int) == 0) = false := by simp; omega
  have e1 : decide (288 < n) = false := by simp; omega
  have e2 : decide ((m : Int) < 1) = false := by simp; omega
  have e3 : decide ((15 : Int) < m) = false := by simp; omega
  go_enter Try.func15, Try.ntmps15
  go_wp2_with fail
  clear e0 e1 e2 e3
  go_loopw [6, 36] (fun v i wr => ∃ (k : Nat) (L : List Pk), k ≤ n ∧ i = .int .i64 k ∧ L.length ≤ k ∧ Hid ((l.take k).any badCount = false) ∧ Hid (PR wr w.heap.size (fun _ => True) w.heap.size v L (leavesF (l.take k) 0)) ∧ Hid (Below w.heap.size w wr)) (fun _ i _ => n - (intOf i).toNat)
  case atStart => exact ⟨0, [], by omega, rfl, by simp, Lib.hid (by simp), Lib.hid (PR.nil _ _ _ _), Lib.hid (Below.refl _ _)⟩
  case round =>
    obtain ⟨k, L, hk, rfl, hLk, HA, HP, HW⟩ := hrel
    by_cases hlt : k < n
    · obtain ⟨b, o, rfl, hc⟩ := HL.out.at hlt
      have hc := (Keeps.of_below (S := []) HW.out).cell (by simp) hc
      have as1 := any_snoc l k (by have := HLL.out; omega)
      have ls := leaves_snoc l k (by have := HLL.out; omega)
      rw [HA.out] at as1
      have AS := Lib.hid as1
      have LS := Lib.hid ls
      clear as1 ls
      by_cases hneg : nth l k < 0
      · have e1 : decide (nth l k < 0) = true := by simpa using hneg
        have HR2 : Hid (limF l m = ([], 1)) := by show _ = _; rw [HR.out, if_pos (any_hit l k (by have := HLL.out; omega) (by simp [badCount]; omega))]
        go_wp2_with fail
        go_ret2
        exact limited_err _ _ _ _ HR2.out HW.out
      · have e1 : decide (nth l k < 0) = false := by simpa using hneg
        by_cases hbig : 1000000000000 < nth l k
        · have e2 : decide (1000000000000 < nth l k) = true := by simpa using hbig
          have HR2 : Hid (limF l m = ([], 1)) := by show _ = _; rw [HR.out, if_pos (any_hit l k (by have := HLL.out; omega) (by simp [badCount]; omega))]
          go_wp2_with fail
          go_ret2
          exact limited_err _ _ _ _ HR2.out HW.out
        · have e2 : decide (1000000000000 < nth l k) = false := by simpa using hbig
          have HB : Hid ((l.take (k + 1)).any badCount = false) := by show _ = _; rw [AS.out]; simp [badCount]; omega
          by_cases hz : 0 < nth l k
          · have e3 : decide (0 < nth l k) = true := by simpa using hz
            have hsz := HW.out.size
            have HO := Lib.hid HP.out.own
            obtain ⟨vA, vc, rfl⟩ := own_form HO.out
            go_wp2_with (at_builtin; refine app_pack rfl (.tmp 49) (.tmp 54) rfl w.heap.size _ L.length L rfl ?c0 (wr.heap.size + 1) ⟨nth l k, some ⟨wr.heap.size, 0, none⟩, 1, 1⟩ ?c5 ?c1 ?c2 ?c3 ?c4 ?_)
            case c0 => exact own_keeps HO.out (((Keeps.refl [] wr).alloc _).alloc _) (by simp)
            case c3 => omega
            case c4 => omega
            intro v' w1 h1 hg
            have hk2 : Keeps [] wr ((wr.alloc (.cells #[.int .i64 k] 3)).alloc (.cells #[.int .i64 (nth l k), .slice (some ⟨wr.heap.size, 0, none⟩) 1 1] 64)) := ((Keeps.refl [] wr).alloc _).alloc _
            obtain ⟨hs1, hs2⟩ := sy_new (w := (wr.alloc (.cells #[.int .i64 k] 3)).alloc (.cells #[.int .i64 (nth l k), .slice (some ⟨wr.heap.size, 0, none⟩) 1 1] 64)) (x := nth l k) (k := (k : Int)) (ok := fun _ => True) hsz (Blk.alloc (blk_new wr 3 [.int .i64 k]) _) trivial
            have hp2 := HP.out.snoc hk2 hs1 h1 hg
            rw [hs2] at hp2
            have HP2 : Hid (PR w1 w.heap.size (fun _ => True) w.heap.size v' (L ++ [⟨nth l k, some ⟨wr.heap.size, 0, none⟩, 1, 1⟩]) (leavesF (l.take (k + 1)) 0)) := by
              show PR _ _ _ _ _ _ _; rw [LS.out, if_pos hz]; exact hp2
            have HW2 := Lib.hid (((HW.out.alloc hsz _).alloc (by simp; omega) _).grown hg (by simp; omega) (fun g hg => own_lo HO.out g hg))
            clear h1 hg hk2 hs1 hs2 hp2
            go_wp2_with fail
            go_roundw
            case rel => exact ⟨k + 1, _, by omega, by go_num, by rw [List.length_append]; simp; omega, HB, HP2, HW2⟩
            case measure => simp [intOf]; omega
          · have e3 : decide (0 < nth l k) = false := by simpa using hz
            go_wp2_with fail
            go_roundw
            case rel => exact ⟨k + 1, L, by omega, by go_num, by omega, HB, by rw [LS.out, if_neg hz, List.append_nil]; exact HP, HW⟩
            case measure => simp [intOf]; omega
    · obtain rfl : k = n := by omega
      have htk : l.take k = l := List.take_of_length_le (by have := HLL.out; omega)
      rw [htk] at HA HP
      obtain ⟨b1, b2, b3, b4, b5⟩ := leaves_bd l HA.out 0
      have HR2 : Hid (limF l m = if 2 ^ m < (leavesF l 0).length then ([], 30) else (limLens l m, 0)) := by show _ = _; rw [HR.out, if_neg (by rw [HA.out]; simp)]
      have hlen := HP.out.len
      obtain ⟨P, hP⟩ : ∃ P : Nat, P = 2 ^ m := ⟨_, rfl⟩
      have hP2 : (2 : Int) ^ m = (P : Int) := by rw [hP]; simp
      have hPb : P ≤ 32768 := by rw [hP]; exact Nat.pow_le_pow_right (by decide) h3
      have HPP := Lib.hid hP
      have HLEN := Lib.hid hlen
      have B1 := Lib.hid b1
      have B2 := Lib.hid b2
      have B3 := Lib.hid b3
      have B5 := Lib.hid b5
      clear hP hlen b1 b2 b3 b5 htk HR
      obtain ⟨vA, vc, rfl⟩ := own_form HP.out.own
      by_cases hov : P < L.length
      · have e1 : decide (P < L.length) = true := by simpa using hov
        have HR3 : Hid (limF l m = ([], 30)) := by show _ = _; rw [HR2.out, if_pos (by rw [HLEN.out, ← HPP.out]; exact hov)]
        go_wp2_with fail
        go_ret2
        exact limited_err _ _ _ _ HR3.out HW.out
      · have e1 : decide (P < L.length) = false := by simpa using hov
        have HR3 : Hid (limF l m = (limLens l m, 0)) := by show _ = _; rw [HR2.out, if_neg (by rw [HLEN.out, ← HPP.out]; exact hov)]
        have hmk := fun w => make_ints (P := Try.prog) w 22 3 .i64 8 Try.underlying22 info_int (k : Int) k rfl (by omega) (by omega)
        clear HR2
        by_cases hl1 : L.length = 1
        · have e2 : ((L.length : Int) == 1) = true := by simp; omega
          have e3 : decide (L.length < 2) = true := by simp; omega
          obtain ⟨g, c', hv, hg, hg2, hob, hcell⟩ := HP.out.cells (by omega)
          injection hv with hv1 hv2 hv3
          subst hv1
          obtain ⟨p1, p2⟩ := hcell 0 (by omega)
          have hx := HP.out.ath (j := 0) (by omega)
          have hsy := HP.out.sy (kth L 0) (kth_mem (by omega))
          obtain ⟨hri, gs, hpa, hgs, hgs2, -⟩ := hsy.reads
          have hpn := hsy.1
          generalize kth L 0 = p at *
          obtain ⟨pw, pa, pn, pcap⟩ := p
          dsimp only at hpa hpn p1 p2 hri
          subst hpa
          have hs0 := hri.cell gs 0 rfl 0 hpn
          have hsl : leavesF l 0 = [((pw, rdS wr ⟨pw, some ⟨gs, 0, none⟩, pn, pcap⟩) : PP)] := by
            have hlen := HLEN.out
            match hLL : leavesF l 0, hlen with
            | [x], _ => rw [hLL] at hx; rw [show x = _ from hx]; rfl
            | [], h => simp at h; omega
            | x :: y :: r, h => simp at h; omega
          have hB3 := B3.out
          have hB5 := B5.out
          rw [hsl] at hB3 hB5
          have hrl : (rdS wr ⟨pw, some ⟨gs, 0, none⟩, pn, pcap⟩).length = 1 := by simpa [sumS] using hB3
          have hrd : rdS wr ⟨pw, some ⟨gs, 0, none⟩, pn, pcap⟩ = [nth (rdS wr ⟨pw, some ⟨gs, 0, none⟩, pn, pcap⟩) 0] := by
            match hm : rdS wr ⟨pw, some ⟨gs, 0, none⟩, pn, pcap⟩, hrl with
            | [s], _ => rfl
          have hsr := hB5 _ (List.mem_singleton.2 rfl) (nth (rdS wr ⟨pw, some ⟨gs, 0, none⟩, pn, pcap⟩) 0) (by rw [hrd]; simp [nth])
          obtain ⟨s, hs⟩ := Int.eq_ofNat_of_zero_le (show 0 ≤ nth (rdS wr ⟨pw, some ⟨gs, 0, none⟩, pn, pcap⟩) 0 by omega)
          rw [hs] at hrd hsr hs0
          have hsk : s < k := by have := HLL.out; omega
          have HRES : Hid (limLens l m = cntF k ([] ++ [(s : Int)])) := by
            show _ = _
            unfold limLens
            rw [hsl, hrd, HLL.out]
            rfl
          have p2' := ((Keeps.refl [] wr).alloc (.cells (ints .i64 (List.replicate k 0)).toArray 3)).cell (by simp) p2
          have hs0' := ((Keeps.refl [] wr).alloc (.cells (ints .i64 (List.replicate k 0)).toArray 3)).cell (by simp) hs0
          have hbz := blk_new wr 3 (ints .i64 (List.replicate k 0))
          have c0 : (wr.alloc (.cells (ints .i64 (List.replicate k 0)).toArray 3)).cell? ⟨wr.heap.size, s, none⟩ = some (.int .i64 0) := by rw [hbz.cell, ints_getElem?]; simp [hsk]
          have f0 := hbz.frozen s
          have HBS := Lib.hid (blk_new wr 3 ((ints .i64 (List.replicate k 0)).set s (.int .i64 1)))
          clear hcell p1 p2 hx hsy hri hs0 hsl hB3 hB5 hrl hrd hsr hs hbz
          have HBW := Lib.hid (HW.out.alloc HW.out.size (.cells ((ints .i64 (List.replicate k 0)).set s (.int .i64 1)).toArray 3))
          have hwz := HW.out.size
          go_wp2_with fail
          go_ret2
          refine limited_ok (v := .slice (some ⟨wr.heap.size, 0, none⟩) k k) HR3.out (by rw [HRES.out, cntF_len]) ?_ HBW.out
          have hz : cntF k ([] ++ [(s : Int)]) = (List.replicate k 0).set s 1 := by
            rw [cntF_snoc k [] s hsk, cntF_nil]
            congr 1
            simp [nth, hsk]
          rw [HRES.out, hz]
          refine own_of_blk ?_ (by simp) hwz (by omega)
          rw [← show (ints .i64 (List.replicate k 0)).set s (.int .i64 1) = ints .i64 ((List.replicate k 0).set s 1) by simp [ints, List.map_set]]
          exact HBS.out
        · have e2 : ((L.length : Int) == 1) = false := by simp; omega
          by_cases hl2 : L.length < 2
          · have e3 : decide (L.length < 2) = true := by simpa using hl2
            have hz : Hid (limLens l m = List.replicate k 0) := by
              show _ = _
              have h0 : leavesF l 0 = [] := List.eq_nil_of_length_eq_zero (by rw [HLEN.out]; omega)
              unfold limLens
              rw [h0, HLL.out]
              exact cntF_nil k
            have HBW := Lib.hid (HW.out.alloc HW.out.size (.cells (ints .i64 (List.replicate k 0)).toArray 3))
            have HBS := Lib.hid (blk_new wr 3 (ints .i64 (List.replicate k 0)))
            have hwz := HW.out.size
            go_wp2_with fail
            go_ret2
            refine limited_ok (v := .slice (some ⟨wr.heap.size, 0, none⟩) k k) HR3.out (by rw [hz.out, List.length_replicate]) ?_ HBW.out
            rw [hz.out]
            exact own_of_blk HBS.out (by simp) hwz (by omega)
          · have e3 : decide (L.length < 2) = false := by simpa using hl2
            have hwz := HW.out.size
            have HP1 := Lib.hid ((HP.out.mono (ok' := fun g => g ≠ wr.heap.size) (fun g _ hg _ => Nat.ne_of_lt hg)).dr ((Keeps.refl [] wr).alloc (.cells (ints .i64 (List.replicate k 0)).toArray 3)))
            have HBZ := Lib.hid (blk_new wr 3 (ints .i64 (List.replicate k 0)))
            have HBW := Lib.hid (HW.out.alloc HW.out.size (.cells (ints .i64 (List.replicate k 0)).toArray 3))
            have hvlt := Lib.hid (fun g (h : (Value.slice vA L.length vc).ownBlock = some g) => own_hi HP.out.own g h)
            have B2' : Hid (sumW (leavesF l 0) ≤ 288000000000000) := by have := B2.out; have := HLL.out; show _ ≤ _; omega
            have B3' : Hid (sumS (leavesF l 0) ≤ 288) := by have := B3.out; have := HLL.out; show _ ≤ _; omega
            have HKP : Hid (L.length ≤ 2 ^ m) := by show _ ≤ _; rw [← HPP.out]; omega
            go_wp2_with fail
            refine (HP1.out.sort (by omega) (by omega) (leaf_ok B1.out B2'.out)).mono ?_
            rintro _ w2 ⟨rfl, g, r, hvg, hbg, hpr, hkp, hrl, -⟩
            have hgk : g < wr.heap.size := hvlt.out g hvg
            have HP2 := Lib.hid hpr
            have HBZ2 := Lib.hid (HBZ.out.keeps hkp (by simp; omega))
            have HBW2 : Hid (Below w.heap.size w w2) := Lib.hid (((Keeps.of_below HBW.out).then hkp (fun x hx => Or.inr (by simp at hx; omega)) : Keeps [] w w2).below)
            have hz2 : wr.heap.size < w2.heap.size := HBZ2.out.lt
            have HGK := Lib.hid hgk
            have HVG := Lib.hid hvg
            have HRL := Lib.hid hrl
            clear hpr hkp HP HP1 HBZ HBW hrl hvg hbg hvlt HW HA
            generalize hgo : wr.heap.size = go at *
            obtain ⟨wo, rfl⟩ : ∃ wo : World, wo = w2 := ⟨_, rfl⟩
            go_wp2_with fail
            go_loopw [11, 84] (fun v i wx => ∃ (t : Nat) (Ll : List Pk), t ≤ m ∧ i = .int .i64 t ∧ Hid (PR wx w.heap.size (fun x => x ≠ go) w.heap.size v Ll (levelF (sortP (leavesF l 0)) t)) ∧ Hid (PR wx w.heap.size (fun x => x ≠ go) w.heap.size (.slice vA L.length vc) r (sortP (leavesF l 0))) ∧ Hid (Blk wx go 3 (ints .i64 (List.replicate k 0))) ∧ Hid (Below w.heap.size w wx) ∧ Hid (wo.heap.size ≤ wx.heap.size)) (fun _ i _ => m - (intOf i).toNat)
            case atStart => exact ⟨0, [], by omega, rfl, Lib.hid (PR.nil _ _ _ _), HP2, HBZ2, HBW2, Lib.hid (Nat.le_refl _)⟩
            case round =>
              obtain ⟨t, Ll, ht, rfl, HPl, HPv, HBZ, HBW, HWO⟩ := hrel
              obtain ⟨wu, rfl⟩ : ∃ wu : World, wu = wr := ⟨_, rfl⟩
              obtain ⟨lA, lc, rfl, hlc⟩ := own_form2 HPl.out.own
              have hlvl := HPl.out.len
              by_cases hlt : t < m
              · have hlb : Ll.length ≤ 576 := by
                  have := (level_bd (sortP (leavesF l 0)) (sortP_pos B1.out) t).2.2.2
                  rw [sortP_len, HLEN.out] at this
                  omega
                have HLVL := Lib.hid hlvl
                clear hlvl
                go_wp2_with fail
                refine (clone_calls _ _ _ _ r (by have := HPv.out.own; rwa [HRL.out] at this) (by omega) (by omega)).mono ?_
                rintro _ w3 ⟨v3, rfl, ho3, hb3⟩
                have K3 := Lib.hid (Keeps.of_below (S := []) hb3)
                have hz3 := hb3.size
                have HPl3 := Lib.hid (HPl.out.dr K3.out)
                have HPv3 := Lib.hid (HPv.out.dr K3.out)
                have HBZ3 := Lib.hid (HBZ.out.keeps K3.out (by simp))
                have HBW3 := Lib.hid (HBW.out.trans (hb3.mono HBW.out.size))
                have HPn : Hid (PR w3 w.heap.size (fun x => x ≠ go) wu.heap.size v3 r (sortP (leavesF l 0) ++ (pairsF (levelF (sortP (leavesF l 0)) t)).take 0)) := by
                  rw [List.take_zero, List.append_nil]
                  exact ⟨by rw [HRL.out]; exact ho3, HPv3.out.sy, HPv3.out.ab⟩
                have HLO := Lib.hid (fun x (h : (Value.slice lA Ll.length lc).ownBlock = some x) => own_hi HPl.out.own x h)
                have HLV := Lib.hid (fun x (h : (Value.slice vA L.length vc).ownBlock = some x) => own_hi HPv.out.own x h)
                have HGO := Lib.hid HBZ.out.lt
                have hbu := HBW.out.size
                have HWQ : Hid (wo.heap.size ≤ w3.heap.size) := Lib.hid (Nat.le_trans HWO.out hz3)
                clear ho3 hb3 HPl HPv HBZ HBW
                obtain ⟨wq, rfl⟩ : ∃ wq : World, wq = w3 := ⟨_, rfl⟩
                go_wp2_with fail
                go_loopw [12, 13] (fun v i wx => ∃ (I j : Nat) (Lc : List Pk), i = .int .i64 I ∧ I ≤ 600 ∧ Lc.length ≤ 1000 ∧ Hid (I = 2 * j) ∧ Hid (PR wx w.heap.size (fun x => x ≠ go) wu.heap.size v Lc (sortP (leavesF l 0) ++ (pairsF (levelF (sortP (leavesF l 0)) t)).take j)) ∧ Hid (PR wx w.heap.size (fun x => x ≠ go) w.heap.size (.slice lA Ll.length lc) Ll (levelF (sortP (leavesF l 0)) t)) ∧ Hid (PR wx w.heap.size (fun x => x ≠ go) w.heap.size (.slice vA L.length vc) r (sortP (leavesF l 0))) ∧ Hid (Blk wx go 3 (ints .i64 (List.replicate k 0))) ∧ Hid (Below w.heap.size w wx) ∧ Hid (wq.heap.size ≤ wx.heap.size)) (fun _ i _ => (1000 - intOf i).toNat)
                case atStart => exact ⟨0, 0, r, rfl, by omega, by rw [HRL.out]; omega, Lib.hid rfl, HPn, HPl3, HPv3, HBZ3, HBW3, Lib.hid (Nat.le_refl _)⟩
                case round =>
                  clear HPn HPl3 HPv3 HBZ3 HBW3
                  obtain ⟨I, j, Lc, rfl, hI, hLc, HI, HPc, HPl, HPv, HBZ, HBW, HWX⟩ := hrel
                  obtain ⟨cA, cc, rfl⟩ := own_form HPc.out.own
                  by_cases hlt2 : I + 1 < Ll.length
                  · have e5 : decide ((I : Int) + 1 < (Ll.length : Int)) = true := by simp; omega
                    obtain ⟨gl, c', hv, hgl, hgl2, hob, hcell⟩ := HPl.out.cells (by omega)
                    injection hv with hv1 hv2 hv3
                    subst hv1
                    subst hv3
                    obtain ⟨p1, p2⟩ := hcell I (by omega)
                    obtain ⟨q1, q2⟩ := hcell (I + 1) hlt2
                    have hxp := HPl.out.ath (j := I) (by omega)
                    have hxq := HPl.out.ath (j := I + 1) hlt2
                    have hsp := HPl.out.sy (kth Ll I) (kth_mem (by omega))
                    have hsq := HPl.out.sy (kth Ll (I + 1)) (kth_mem hlt2)
                    have hxl := HPl.out.len
                    have hpn := hsp.1
                    have okp := level_ok B1.out B2'.out B3'.out (t := t) (by omega) (absW wr (kth Ll I)) (by rw [← hxp, List.getD_eq_getElem?_getD, List.getElem?_eq_getElem (by omega)]; exact List.getElem_mem _)
                    have okq := level_ok B1.out B2'.out B3'.out (t := t) (by omega) (absW wr (kth Ll (I + 1))) (by rw [← hxq, List.getD_eq_getElem?_getD, List.getElem?_eq_getElem (by omega)]; exact List.getElem_mem _)
                    have HTK : Hid ((pairsF (levelF (sortP (leavesF l 0)) t)).take (j + 1) = (pairsF (levelF (sortP (leavesF l 0)) t)).take j ++ [((absW wr (kth Ll I)).1 + (absW wr (kth Ll (I + 1))).1, (absW wr (kth Ll I)).2 ++ (absW wr (kth Ll (I + 1))).2)]) := by
                      have := pairsF_take (levelF (sortP (leavesF l 0)) t) j (by have := HI.out; omega)
                      unfold pth2 at this
                      rw [← HI.out, hxp, hxq] at this
                      exact this
                    generalize kth Ll I = p at *
                    generalize kth Ll (I + 1) = q at *
                    obtain ⟨pw, pa, pn, pcap⟩ := p
                    obtain ⟨qw, qa, qn, qcap⟩ := q
                    obtain ⟨hrp, gp, hpa, hgp, hgp2, -⟩ := hsp.reads
                    obtain ⟨hrq, gq, hqa, hgq, hgq2, -⟩ := hsq.reads
                    dsimp only at hpa hqa p1 p2 q1 q2 hrp hrq hpn
                    subst hpa
                    subst hqa
                    have lp := hrp.len
                    have lq := hrq.len
                    have okp1 : 0 < pw := okp.1
                    have okp2 : pw ≤ 100000000000000000 := okp.2.1
                    have okq1 : 0 < qw := okq.1
                    have okq2 : qw ≤ 100000000000000000 := okq.2.1
                    have okp3 : pn ≤ 4320 := by rw [← lp]; exact okp.2.2
                    have okq3 : qn ≤ 4320 := by rw [← lq]; exact okq.2.2
                    have e6 : IntKind.i64.wrap (pw + qw) = pw + qw := IntWalk.i64_in _ (by omega)
                    have e7 : IntKind.i64.wrap ((I : Int) + 1) = (I : Int) + 1 := IntWalk.i64_in _ (by omega)
                    have e8 : ((I : Int) + 1).toNat = I + 1 := by omega
                    have e9 : (0 : Int) ≤ (I : Int) + 1 := by omega
                    have e10 : (I : Int) + 1 < (Ll.length : Int) := by omega
                    have e11 : (I : Int) < (Ll.length : Int) := by omega
                    have HRP := Lib.hid hrp
                    have HRQ := Lib.hid hrq
                    have hwq := HWX.out
                    have hbz := HBW.out.size
                    have HGZ := Lib.hid HBZ.out.lt
                    have NOB : Hid (gl ∉ ob (.slice cA Lc.length cc)) := fun hm => by have q1 := own_lo HPc.out.own gl (mem_ob.1 hm); have q2 := HLO.out gl rfl; omega
                    clear okp okq hrp hrq lp lq hsp hsq hxp hxq hcell hxl
                    go_wp2_with fail
                    go_region_held3 (fun w' => w'.cell? ⟨gl, I * 2, none⟩ = some (.int .i64 pw) ∧ w'.cell? ⟨gl, I * 2 + 1, none⟩ = some (.slice (some ⟨gp, 0, none⟩) pn pcap) ∧ w'.cell? ⟨gl, (I + 1) * 2, none⟩ = some (.int .i64 qw) ∧ w'.cell? ⟨gl, (I + 1) * 2 + 1, none⟩ = some (.slice (some ⟨gq, 0, none⟩) qn qcap))
                      (first | go_keep | (exact ⟨by assumption, by assumption, by assumption, by assumption⟩))
                      (first
                        | (go_at_call 36; refine (concat_from wr _ wr.heap.size (some ⟨gp, 0, none⟩) (some ⟨gq, 0, none⟩) pn qn pcap qcap _ _ (by repeat (first | exact Keeps.refl _ _ | apply Keeps.drewN | apply Keeps.drew | apply Keeps.alloc)) (by simp) (by simp) HRP.out HRQ.out nofun nofun (fun ad h => ⟨gp, 0, (Option.some.inj h).symm⟩) (fun ad h => ⟨gq, 0, (Option.some.inj h).symm⟩) (by omega) (by omega)).mono ?_; rintro _ w1 ⟨A5, c5, rfl, ho5, hk5⟩; have hz5 := hk5.size; have r1 := hk5.cell (by simp) p1; have r2 := hk5.cell (by simp) p2; have r3 := hk5.cell (by simp) q1; have r4 := hk5.cell (by simp) q2)
                        | (refine step_pack rfl (.tmp 95) (.tmp 122) rfl wu.heap.size _ Lc.length Lc rfl (own_keeps HPc.out.own (hk5.alloc _) (by simp)) w1.heap.size ⟨pw + qw, A5, pn + qn, c5⟩ rfl (by simp) (by simp) (by omega) (by simp; omega) ?_; intro g6 c6 w6 ho6 hg6; have hk6 : Keeps (ob (.slice cA Lc.length cc)) wr w6 := ((hk5.alloc _).mono (by simp)).trans (grown_keeps hg6); have t1 := hk6.cell NOB.out p1; have t2 := hk6.cell NOB.out p2; have t3 := hk6.cell NOB.out q1; have t4 := hk6.cell NOB.out q2))
                    have hK7 : Keeps [] wr (w1.alloc (.cells #[.int .i64 (pw + qw), .slice A5 (pn + qn) c5] 64)) := hk5.alloc _
                    have hsn : Sy w1 w.heap.size (fun x => x ≠ go) ⟨pw + qw, A5, pn + qn, c5⟩ :=
                      ⟨by show 0 < pn + qn; omega, _, ho5.mono hbz, fun x hx => by have q1 := own_lo ho5 x hx; have q2 := HGZ.out; show x ≠ go; omega⟩
                    have hrd := rdS_own (p := ⟨pw + qw, A5, pn + qn, c5⟩) ho5
                    have hsn2 := hsn.keeps ((Keeps.refl [] w1).alloc (.cells #[.int .i64 (pw + qw), .slice A5 (pn + qn) c5] 64)) (by simp)
                    have hsnoc := HPc.out.snoc hK7 hsn2.1 ho6 hg6
                    have hab : absW (w1.alloc (.cells #[.int .i64 (pw + qw), .slice A5 (pn + qn) c5] 64)) ⟨pw + qw, A5, pn + qn, c5⟩ = ((absW wr ⟨pw, some ⟨gp, 0, none⟩, pn, pcap⟩).1 + (absW wr ⟨qw, some ⟨gq, 0, none⟩, qn, qcap⟩).1, (absW wr ⟨pw, some ⟨gp, 0, none⟩, pn, pcap⟩).2 ++ (absW wr ⟨qw, some ⟨gq, 0, none⟩, qn, qcap⟩).2) := by
                      unfold absW; rw [hsn2.2, hrd]
                    rw [hab, List.append_assoc, ← HTK.out] at hsnoc
                    have HPc6 := Lib.hid hsnoc
                    have HPl6 := Lib.hid (HPl.out.other HPc.out hk6 HLO.out)
                    have HPv6 := Lib.hid (HPv.out.other HPc.out hk6 HLV.out)
                    have HBZ6 := Lib.hid (HBZ.out.keeps hk6 (fun hm => by have q1 := own_lo HPc.out.own go (mem_ob.1 hm); have q2 := HGO.out; omega))
                    have HBW6 : Hid (Below w.heap.size w w6) := Lib.hid (((Keeps.of_below HBW.out).then hk6 (fun x hm => Or.inr (by have q1 := own_lo HPc.out.own x (mem_ob.1 hm); omega)) : Keeps [] w w6).below)
                    have HWX6 : Hid (wq.heap.size ≤ w6.heap.size) := Lib.hid (Nat.le_trans HWX.out hk6.size)
                    clear hK7 hsn hrd hsn2 hsnoc hab hk6 hg6 ho6 t1 t2 t3 t4 HPc HPl HPv HBZ HBW HWX
                    go_wp2_with fail
                    go_roundw
                    case rel => exact ⟨I + 2, j + 1, Lc ++ [⟨pw + qw, A5, pn + qn, c5⟩], by go_num, by omega, by have hq := HPc6.out.len; rw [List.length_append, sortP_len, HLEN.out, List.length_take] at hq; have := HI.out; omega, Lib.hid (by have := HI.out; omega), HPc6, HPl6, HPv6, HBZ6, HBW6, HWX6⟩
                    case measure => simp [intOf]; omega
                  · have e5 : decide ((I : Int) + 1 < (Ll.length : Int)) = false := by simp; omega
                    have HDN : Hid (sortP (leavesF l 0) ++ (pairsF (levelF (sortP (leavesF l 0)) t)).take j = sortP (leavesF l 0) ++ pairsF (levelF (sortP (leavesF l 0)) t)) := by
                      show _ = _; rw [pairsF_done _ j (by rw [HLVL.out]; have := HI.out; omega)]
                    have HPc2 : Hid (PR wr w.heap.size (fun x => x ≠ go) wu.heap.size (.slice cA Lc.length cc) Lc (sortP (leavesF l 0) ++ pairsF (levelF (sortP (leavesF l 0)) t))) := by have := HPc.out; rwa [HDN.out] at this
                    have hlc0 : 0 < Lc.length := by have hq := HPc2.out.len; rw [List.length_append, sortP_len, HLEN.out] at hq; omega
                    have hwq := HWX.out
                    go_wp2_with fail
                    refine (HPc2.out.sort hlc0 (by omega) (level_next_ok B1.out B2'.out B3'.out (by omega))).mono ?_
                    rintro _ w7 ⟨rfl, g7, r7, hg7, hb7, hpr7, hk7, hl7, -⟩
                    have hobv : ob (Value.slice cA Lc.length cc) = [g7] := by unfold ob; rw [hg7]; rfl
                    have hk8 : Keeps (ob (Value.slice cA Lc.length cc)) wr w7 := by rw [hobv]; exact hk7
                    have HPv7 := Lib.hid (HPv.out.other HPc2.out hk8 HLV.out)
                    have HBZ7 := Lib.hid (HBZ.out.keeps hk7 (by have := HGO.out; simp; omega))
                    have HBW7 : Hid (Below w.heap.size w w7) := Lib.hid (((Keeps.of_below HBW.out).then hk7 (fun x hm => Or.inr (by simp at hm; omega)) : Keeps [] w w7).below)
                    have HWO7 : Hid (wo.heap.size ≤ w7.heap.size) := Lib.hid (Nat.le_trans HWQ.out (Nat.le_trans hwq hk7.size))
                    have HPl7 : Hid (PR w7 w.heap.size (fun x => x ≠ go) w.heap.size (.slice cA Lc.length cc) r7 (levelF (sortP (leavesF l 0)) (t + 1))) := Lib.hid ⟨hpr7.own.mono hbu, hpr7.sy, hpr7.ab⟩
                    clear hpr7 hk7 hk8 hobv hl7 hg7 hb7 HPc HPl HPv HBZ HBW
                    go_wp2_with fail
                    refine ⟨⟨t + 1, r7, by omega, by go_num, HPl7, HPv7, HBZ7, HBW7, HWO7⟩, by simp [intOf]; omega⟩
              · obtain rfl : t = m := by omega
                have hlen2 := level_len (leavesF l 0) t (by rw [HLEN.out]; omega) (by rw [HLEN.out]; exact HKP.out)
                rw [HLEN.out, hlvl] at hlen2
                obtain ⟨Q, hQ⟩ : ∃ Q : Nat, Q = 2 * L.length - 2 := ⟨_, rfl⟩
                have s1 : 2 * (L.length : Int) - 2 = (Q : Int) := by omega
                have s2 : Q ≤ lc := by omega
                have s3 : Q ≤ Ll.length := by omega
                have s4 : 0 < Q := by omega
                have HQ := Lib.hid hQ
                have HINR : Hid (inR k (levelF (sortP (leavesF l 0)) t)) := by
                  refine level_inR _ (fun p hp s hs => ?_) t
                  have := B5.out p ((sortP_perm _).mem_iff.1 hp) s hs
                  have h5 := HLL.out
                  omega
                have HLVL := Lib.hid hlvl
                have HBZ0 : Hid (Blk wu go 3 (ints .i64 (cntF k (((levelF (sortP (leavesF l 0)) t).take 0).flatMap Prod.snd)))) := by
                  rw [List.take_zero, List.flatMap_nil, cntF_nil]; exact HBZ
                clear hQ hlen2 hlvl HBZ
                go_wp2_with fail
                go_loopw [136] (fun i wx => ∃ q : Nat, q ≤ Q ∧ i = .int .i64 q ∧ Hid (PR wx w.heap.size (fun x => x ≠ go) w.heap.size (.slice lA Ll.length lc) Ll (levelF (sortP (leavesF l 0)) t)) ∧ Hid (Blk wx go 3 (ints .i64 (cntF k (((levelF (sortP (leavesF l 0)) t).take q).flatMap Prod.snd)))) ∧ Hid (Below w.heap.size w wx)) (fun i _ => Q - (intOf i).toNat)
                case atStart => exact ⟨0, by omega, rfl, HPl, HBZ0, HBW⟩
                case round =>
                  clear HPl HBZ0 HBW
                  obtain ⟨q, hq, rfl, HPl, HBZ, HBW⟩ := hrel
                  by_cases hlt3 : q < Q
                  · obtain ⟨gl, c', hv, hgl, hgl2, hob, hcell⟩ := HPl.out.cells (by omega)
                    injection hv with hv1 hv2 hv3
                    subst hv1
                    subst hv3
                    obtain ⟨p1, p2⟩ := hcell q (by omega)
                    have hxp := HPl.out.ath (j := q) (by omega)
                    have hsp := HPl.out.sy (kth Ll q) (kth_mem (by omega))
                    have hpn := hsp.1
                    have hxl := HPl.out.len
                    have hmem : absW wr (kth Ll q) ∈ levelF (sortP (leavesF l 0)) t := by rw [← hxp, List.getD_eq_getElem?_getD, List.getElem?_eq_getElem (by omega)]; exact List.getElem_mem _
                    have HTK : Hid (((levelF (sortP (leavesF l 0)) t).take (q + 1)).flatMap Prod.snd = ((levelF (sortP (leavesF l 0)) t).take q).flatMap Prod.snd ++ (absW wr (kth Ll q)).2) := by
                      show _ = _
                      rw [List.take_succ_eq_append_getElem (by omega), List.flatMap_append, ← hxp, List.getD_eq_getElem?_getD, List.getElem?_eq_getElem (by omega)]
                      simp
                    have hin := HINR.out _ hmem
                    have okp := (level_ok B1.out B2'.out B3'.out (t := t) (by omega) _ hmem).2.2
                    generalize kth Ll q = p at *
                    obtain ⟨pw, pa, pn, pcap⟩ := p
                    obtain ⟨hrp, gp, hpa, hgp, hgp2, hgo2⟩ := hsp.reads
                    dsimp only at hpa p1 p2 hrp hpn hgo2
                    subst hpa
                    have HSY : Hid (∃ xs, xs = rdS wr ⟨pw, some ⟨gp, 0, none⟩, pn, pcap⟩) := ⟨_, rfl⟩
                    obtain ⟨xs, hxs⟩ := HSY.out
                    have hxs2 : (absW wr ⟨pw, some ⟨gp, 0, none⟩, pn, pcap⟩).2 = xs := hxs.symm
                    rw [← hxs] at hrp
                    rw [hxs2] at hin okp
                    have HTK2 : Hid (((levelF (sortP (leavesF l 0)) t).take (q + 1)).flatMap Prod.snd = ((levelF (sortP (leavesF l 0)) t).take q).flatMap Prod.snd ++ xs) := by show _ = _; rw [HTK.out, hxs2]
                    have HRP := Lib.hid hrp
                    have HIN := Lib.hid hin
                    have hpn2 : pn ≤ 4320 := by rw [← hrp.len]; exact okp
                    have HPA := Lib.hid (HPl.out.dr ((Keeps.refl [] wr).alloc (.cells #[.int .i64 pw, .slice (some ⟨gp, 0, none⟩) pn pcap] 64)))
                    have HRPA := Lib.hid (hrp.keeps ((Keeps.refl [] wr).alloc (.cells #[.int .i64 pw, .slice (some ⟨gp, 0, none⟩) pn pcap] 64)) (off_nil _))
                    have HBZA : Hid (Blk (wr.alloc (.cells #[.int .i64 pw, .slice (some ⟨gp, 0, none⟩) pn pcap] 64)) go 3 (ints .i64 (cntF k (((levelF (sortP (leavesF l 0)) t).take q).flatMap Prod.snd ++ xs.take 0)))) := by
                      rw [List.take_zero, List.append_nil]; exact HBZ.out.alloc _
                    have HOKL : Hid (¬ (Value.slice (some ⟨gl, 0, none⟩) Ll.length lc).ownBlock = some go) := fun h => by
                      obtain ⟨cs, hcs⟩ := own_int_block HPl.out.own h
                      rw [show wr.heap[go]? = some (.cells _ 3 (0, 0)) from HBZ.out] at hcs
                      injection hcs with hcs
                      injection hcs with _ h2
                      exact absurd h2 (by decide)
                    have HBWA := Lib.hid (HBW.out.alloc HBW.out.size (.cells #[.int .i64 pw, .slice (some ⟨gp, 0, none⟩) pn pcap] 64))
                    clear hcell hxp hsp hxl hmem hin okp hxs2 HTK hrp HSY hxs HPl HBZ HBW
                    go_wp2_with fail
                    go_loopw [143] (fun i wx => ∃ j : Nat, j ≤ pn ∧ i = .int .i64 j ∧ Hid (PR wx w.heap.size (fun x => x ≠ go) w.heap.size (.slice (some ⟨gl, 0, none⟩) Ll.length lc) Ll (levelF (sortP (leavesF l 0)) t)) ∧ Hid (RI .i64 wx (some ⟨gp, 0, none⟩) pn xs) ∧ Hid (Blk wx go 3 (ints .i64 (cntF k (((levelF (sortP (leavesF l 0)) t).take q).flatMap Prod.snd ++ xs.take j)))) ∧ Hid (Below w.heap.size w wx)) (fun i _ => pn - (intOf i).toNat)
                    case atStart => exact ⟨0, by omega, rfl, HPA, HRPA, HBZA, HBWA⟩
                    case round =>
                      clear HPA HRPA HBZA HBWA
                      obtain ⟨j, hj, rfl, HPl, HRP2, HBZ, HBW⟩ := hrel
                      by_cases hlt4 : j < pn
                      · have hc := HRP2.out.cell gp 0 rfl j hlt4
                        rw [Nat.zero_add] at hc
                        have hs := HIN.out (nth xs j) (by have := HRP.out.len; rw [nth_lt (by omega)]; exact List.getElem_mem _)
                        have HT1 : Hid (xs.take (j + 1) = xs.take j ++ [nth xs j]) := take_snoc' xs j (by have := HRP.out.len; omega)
                        obtain ⟨s, hs0⟩ := Int.eq_ofNat_of_zero_le hs.1
                        rw [hs0] at hc
                        have hsk : s < k := by have := hs.2; rw [hs0] at this; omega
                        have HT2 : Hid (xs.take (j + 1) = xs.take j ++ [(s : Int)]) := by have := HT1.out; rwa [hs0] at this
                        clear hs hs0 HT1
                        have hbd : (((levelF (sortP (leavesF l 0)) t).take q).flatMap Prod.snd ++ xs.take j).length ≤ 10000000 := by
                          have h1 := flat_len (X := (levelF (sortP (leavesF l 0)) t).take q) (fun x hx => (level_ok B1.out B2'.out B3'.out (t := t) (by omega) x (List.mem_of_mem_take hx)).2.2)
                          rw [List.length_take] at h1
                          rw [List.length_append, List.length_take]
                          have := HQ.out
                          omega
                        have HTJ : Hid (((levelF (sortP (leavesF l 0)) t).take q).flatMap Prod.snd ++ xs.take (j + 1) = (((levelF (sortP (leavesF l 0)) t).take q).flatMap Prod.snd ++ xs.take j) ++ [(s : Int)]) := by show _ = _; rw [HT2.out, List.append_assoc]
                        generalize ((levelF (sortP (leavesF l 0)) t).take q).flatMap Prod.snd ++ xs.take j = S0 at *
                        obtain ⟨x0, x1⟩ := cnt_bd k S0 s hsk
                        have HC2 := Lib.hid (cntF_snoc k S0 s hsk)
                        have hc0 : wr.cell? ⟨go, s, none⟩ = some (.int .i64 (nth (cntF k S0) s)) := by
                          rw [HBZ.out.cell, ints_getElem?]
                          have := cntF_len k S0
                          simp [nth, List.getD, show s < (cntF k S0).length by omega]
                        have hf0 := HBZ.out.frozen s
                        generalize nth (cntF k S0) s = x at *
                        have HKG : Hid (Keeps [go] wr (wr.setCell ⟨go, s, none⟩ (.int .i64 (x + 1)))) := Lib.hid ((Keeps.refl _ _).setCell (Or.inl (by simp)) _)
                        have HPlK := Lib.hid (HPl.out.keeps HKG.out (fun g hg hm => by rw [List.mem_singleton.1 hm] at hg; exact HOKL.out hg) (fun g hg h => by rw [List.mem_singleton.1 hg] at h; exact h.1 rfl))
                        have HRPK := Lib.hid (HRP2.out.keeps HKG.out (fun ad h => by obtain rfl := Option.some.inj h; simpa using hgo2))
                        have HBZK := Lib.hid (HBZ.out.set s (.int .i64 (x + 1)))
                        have HBWK := Lib.hid (HBW.out.setCell (p := ⟨go, s, none⟩) hwz (.int .i64 (x + 1)))
                        have x2 : x ≤ 10000000 := by omega
                        clear hbd HPl HRP2 HBZ HBW x1
                        go_wp2_with fail
                        refine ⟨⟨j + 1, by omega, by go_num, HPlK, HRPK, Lib.hid ?_, HBWK⟩, by simp [intOf]; omega⟩
                        rw [HTJ.out, HC2.out]
                        have := HBZK.out
                        rw [show (ints .i64 (cntF k S0)).set s (.int .i64 (x + 1)) = ints .i64 ((cntF k S0).set s (x + 1)) by simp [ints, List.map_set]] at this
                        exact this
                      · obtain rfl : j = pn := by omega
                        have hxt : xs.take j = xs := List.take_of_length_le (by have := HRP.out.len; omega)
                        have HBZ2 : Hid (Blk wr go 3 (ints .i64 (cntF k (((levelF (sortP (leavesF l 0)) t).take (q + 1)).flatMap Prod.snd)))) := by
                          have := HBZ.out; rw [hxt, ← HTK2.out] at this; exact this
                        clear hxt HBZ
                        go_wp2_with fail
                        refine ⟨⟨q + 1, by omega, by go_num, HPl, HBZ2, HBW⟩, by simp [intOf]; omega⟩
                  · obtain rfl : q = Q := by omega
                    have HRES : Hid (limLens l t = cntF k (((levelF (sortP (leavesF l 0)) t).take q).flatMap Prod.snd)) := by
                      show _ = _
                      unfold limLens
                      rw [if_neg (by rw [HLEN.out]; omega), HLL.out, HLEN.out, HQ.out]
                    go_wp2_with fail
                    go_ret2
                    refine limited_ok (v := .slice (some ⟨go, 0, none⟩) k k) HR3.out (by rw [HRES.out, cntF_len]) ?_ HBW.out
                    rw [HRES.out]
                    exact own_of_blk HBZ.out (cntF_len _ _) hwz (by omega)
/-- Limited lengths. -/
theorem limit_calls (w : World) (A : Option Addr) (n c : Nat) (l : List Int) (most : Int) (hl : RI .i64 w A n l) :
    Calls Try.prog 15 #[.slice A n c, .int .i64 most] w (Limited w (limF l most)) := by
  by_cases h : n = 0 ∨ 288 < n ∨ most < 1 ∨ 15 < most
  · exact limit_arg w A n c l most hl.len h
  · obtain ⟨m, rfl⟩ := Int.eq_ofNat_of_zero_le (show 0 ≤ most by omega)
    exact limit_rest w A n c l m hl (by omega) (by omega) (by omega) (by omega)
end Go.Proofs.Ytcblibefmclloaa
