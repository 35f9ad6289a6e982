import Derived.Test.YtcblibefmclloaaDoorReadsE
import Derived.Test.YtcblibefmclloaaDoorReadsG
import Derived.Deep.Onto
import Derived.Outline
import Derived.Test.YtcblibefmclloaaDoorReadsF
import Derived.Deep.RegionWith
import Derived.Test.YtcblibefmclloaaDoorReadsB
import Derived.Test.YtcblibefmclloaaDoorReadsA
set_option linter.unusedVariables false
set_option linter.unusedSimpArgs false
namespace Go.Proofs.YtcblibefmclloaaDoor
open Go.RowKit
theorem msb_bit (c : Int) (j : Nat) (h : 0 ≤ c) : IntKind.u8.wrap (c / 2 ^ j % 2) = c / 2 ^ j % 2 := by rw [IntKind.wrap_u8]; omega
set_option maxRecDepth 100000 in
set_option maxHeartbeats 1000000 in
theorem rows_calls (w : World) (A : Option Addr) (n c : Nat) (l : List Int) (hl : RI .i64 w A n l) (hn : n ≤ 288) (hok : l.all okLen = true) :
    Calls Tryd.prog 62 #[.slice A n c] w fun e w' => e = .returned (.slice (some ⟨w.heap.size, 0, none⟩) n n) ∧ RB w' w.heap.size n (rowsF l) ∧ Below w.heap.size w w' := by
  have HL := Lib.hid hl
  have HLL := Lib.hid hl.len
  have HOK := Lib.hid hok
  clear hl hok
  obtain ⟨g, hg⟩ : ∃ g, g = w.heap.size := ⟨_, rfl⟩
  have HG := Lib.hid hg
  clear hg
  have hmk := fun w => make_rows w n (by omega)
  go_enter Tryd.func62, Tryd.ntmps62
  go_wp2_with fail
  rw [← HG.out]
  clear hmk
  have hw1 : w.alloc (.cells (Array.replicate n (Value.slice none 0 0)) 37) = w.alloc (.cells (List.replicate n (Value.slice none 0 0)).toArray 37) := by rw [List.toArray_replicate]
  rw [hw1]
  clear hw1
  have R0 : Hid (RB (w.alloc (.cells (List.replicate n (Value.slice none 0 0)).toArray 37)) g n (rowsAt l 1 0)) := by
    rw [rowsAt_zero, HLL.out, HG.out]; exact RB.new w n
  have B0 : Hid (Below g w (w.alloc (.cells (List.replicate n (Value.slice none 0 0)).toArray 37))) := by rw [HG.out]; exact Lib.hid ((Below.refl _ _).alloc (Nat.le_refl _) _)
  generalize hw0 : w.alloc (.cells (List.replicate n (Value.slice none 0 0)).toArray 37) = w0 at *
  have HW0 := Lib.hid hw0
  clear hw0
  go_loopw [4, 5, 6] (fun cv lv nv wr => ∃ (m last : Nat) (code : Int), 1 ≤ m ∧ m ≤ 16 ∧ nv = .int .i64 m ∧ lv = .int .i64 last ∧ cv = .int .i64 code ∧ Hid (m < 16 → Last l m 0 code last) ∧ Hid (RB wr g n (rowsAt l m 0)) ∧ Hid (Below g w wr)) (fun _ _ nv _ => 16 - (intOf nv).toNat)
  case atStart => exact ⟨1, 0, 0, by omega, by omega, rfl, rfl, rfl, Lib.hid (fun _ => last_start l), R0, B0⟩
  case round =>
    clear R0 B0
    obtain ⟨m, last0, code0, hm1, hm2, rfl, rfl, rfl, HLS0, HR0, HB0⟩ := hrel
    by_cases hm : m ≤ 15
    · obtain ⟨wo, rfl⟩ : ∃ wo : World, wo = wr := ⟨_, rfl⟩
      have HLS1 := Lib.hid (HLS0.out (by omega))
      clear HLS0
      have e0 : decide ((m : Int) ≤ 15) = true := by simp; omega
      go_wp2_with fail
      go_loopw [4, 5, 7] (fun cv lv iv wr => ∃ (i last : Nat) (code : Int), i ≤ n ∧ iv = .int .i64 i ∧ lv = .int .i64 last ∧ cv = .int .i64 code ∧ Hid (Last l m i code last) ∧ Hid (RB wr g n (rowsAt l m i)) ∧ Hid (Below g w wr)) (fun _ _ iv _ => n - (intOf iv).toNat)
      case atStart => exact ⟨0, last0, code0, by omega, rfl, rfl, rfl, HLS1, HR0, HB0⟩
      case round =>
        clear HLS1 HR0 HB0
        obtain ⟨i, last, code, hi, rfl, rfl, rfl, HLS, HR, HB⟩ := hrel
        by_cases hlt : i < n
        · obtain ⟨b, o, rfl, hc⟩ := HL.out.at hlt
          have hc := (Keeps.of_below (S := []) (HG.out ▸ HB.out)).cell (by simp) hc
          by_cases hx : nth l i = m
          · have e1 : (nth l i != (m : Int)) = false := by simpa using hx
            have HX := Lib.hid hx
            clear hx
            have hil : Hid (i < l.length) := by have := HLL.out; show _ < _; omega
            go_upto_if 31 with (fail)
            go_cut [4] (fun cv wc => ∃ d : Int, cv = .int .i64 d ∧ 0 ≤ d ∧ d ≤ 50000000 ∧ Hid (d = codeI l i) ∧ Hid (Dr wr wc))
            case first =>
              have hbd := posF_bd l (by have := HLL.out; omega) m i (by omega)
              rw [← posF_code l m i HX.out] at hbd
              obtain ⟨hb0, hb1⟩ := hbd
              have hlast : last ≤ m := HLS.out.2.2.1
              have hcd0 : 0 ≤ code := HLS.out.1
              have hcd1 : code ≤ 50000000 := HLS.out.2.1
              by_cases hz : last = 0
              · have HC := Lib.hid (last_code0 HLS.out HX.out hz)
                subst hz
                go_wp2_with fail
                go_meet
                case rel => exact ⟨code, rfl, by have := HC.out; omega, by have := HC.out; omega, HC, Lib.hid (Dr.refl _)⟩
              · have e2 : 0 < last := by omega
                have HC := Lib.hid (last_code HLS.out HX.out hz)
                have hp : Hid ((2 ^ (m - last) : Int) = ((2 ^ (m - last) : Nat) : Int)) := by show _ = _; simp
                rw [hp.out] at HC
                clear hz hp
                go_wp2_with fail
                refine (power_calls' _ (m - last) _ (by omega) (by omega)).mono ?_
                rintro _ w2 ⟨rfl, hd2⟩
                have HD2 := Lib.hid hd2
                clear hd2
                generalize 2 ^ (m - last) = P at *
                have hwr : IntKind.i64.wrap ((code + 1) * (P : Int)) = (code + 1) * (P : Int) := IntWalk.i64_in _ (by rw [HC.out]; omega)
                go_wp2_with fail
                go_meet
                case rel => exact ⟨_, rfl, by rw [HC.out]; omega, by rw [HC.out]; omega, HC, HD2⟩
            case rest =>
              obtain ⟨d, rfl, hd0, hd1, HD, HDR⟩ := hcut
              obtain ⟨q1, rfl⟩ := HDR.out
              clear HDR
              obtain ⟨h, hh⟩ : ∃ h, h = wr.heap.size := ⟨_, rfl⟩
              have HH := Lib.hid hh
              clear hh
              have hmk := fun w => make_ints (P := Tryd.prog) w 37 5 .u8 1 Tryd.underlying37 info_u8 (m : Int) m rfl (by omega) (by omega)
              have HN : Hid (Blk ((wr.drewN q1).alloc (.cells (ints .u8 (List.replicate m 0)).toArray 5)) h 5 (ints .u8 (msbP d m 0))) := by
                rw [msbP_zero, HH.out]; exact blk_new (wr.drewN q1) _ _
              have HNB : Hid (Below h wr ((wr.drewN q1).alloc (.cells (ints .u8 (List.replicate m 0)).toArray 5))) := by rw [HH.out]; exact (((Keeps.refl [] wr).drewN q1).alloc _).below
              clear hc
              go_wp2_with fail
              rw [← HH.out]
              obtain ⟨wm, rfl⟩ : ∃ wm : World, wm = wr := ⟨_, rfl⟩
              go_loopw [9, 10] (fun cv kv wx => ∃ (j K : Nat) (x : Int), K ≤ m ∧ kv = .int .i64 ((K : Int) - 1) ∧ cv = .int .i64 x ∧ 0 ≤ x ∧ x ≤ 50000000 ∧ Hid (K + j = m) ∧ Hid (x = d / 2 ^ j) ∧ Hid (Blk wx h 5 (ints .u8 (msbP d m j))) ∧ Hid (Below h wm wx)) (fun _ kv _ => (intOf kv + 1).toNat)
              case atStart => exact ⟨0, m, d, by omega, by go_num, rfl, hd0, hd1, Lib.hid rfl, Lib.hid (by simp), HN, HNB⟩
              case round =>
                clear HN HNB
                obtain ⟨j, K, x, hK, rfl, rfl, hx0, hx1, HJ, HX2, HBK, HBW⟩ := hrel
                by_cases hk : 0 < K
                · obtain ⟨k, rfl⟩ : ∃ k, K = k + 1 := ⟨K - 1, by omega⟩
                  have hk1 : ((k + 1 : Nat) : Int) - 1 = k := by omega
                  rw [hk1]
                  clear hk1
                  have hfr := HBK.out.frozen k
                  have hcl := HBK.out.cellI (j := k) (by rw [msbP_len]; omega)
                  generalize nth (msbP d m j) k = z at *
                  have HBK2 : Hid (Blk (wr.setCell ⟨h, k, none⟩ (.int .u8 (x % 2))) h 5 (ints .u8 (msbP d m (j + 1)))) := by
                    have := HBK.out.set k (.int .u8 (x % 2))
                    rw [set_ints] at this
                    rw [msbP_step d m j (by have := HJ.out; omega), ← HX2.out, show m - 1 - j = k by have := HJ.out; omega]; exact this
                  have HBW2 := Lib.hid (HBW.out.setCell (p := ⟨h, k, none⟩) (Nat.le_refl _) (.int .u8 (x % 2)))
                  have e3 : x.tmod 2 = x % 2 := by rw [Int.tmod_eq_emod_of_nonneg hx0]
                  have e4 : x % 2 % 256 = x % 2 := by omega
                  clear HBK HBW
                  go_wp2_with fail
                  go_roundw
                  case rel => exact ⟨j + 1, k, x / 2, by omega, rfl, rfl, by omega, by omega, Lib.hid (by have := HJ.out; omega), Lib.hid (by rw [HX2.out, div_two]), HBK2, HBW2⟩
                  case measure => simp [intOf]
                · obtain rfl : K = 0 := by omega
                  obtain rfl : m = j := by have := HJ.out; omega
                  rw [msbP_all] at HBK
                  have HRX : Hid (RB wr g n (rowsAt l m i)) := HR.out.below (HH.out ▸ HBW.out)
                  have HWW := Lib.hid (HB.out.trans (HBW.out.mono (by have := HR.out.lt; rw [HH.out]; omega)))
                  have hgs : Hid (g ≤ h) := by have := HR.out.lt; rw [HH.out]; show _ ≤ _; omega
                  obtain ⟨A', c', hcl, -, -⟩ := HRX.out.at hlt
                  have hfr := HRX.out.free i
                  have HOWN : Hid (wr.ownsRow (g + 1) 5 1 (.slice (some ⟨h, 0, none⟩) m m) m (ints .u8 (msbF d m))) := own_of_blkK HBK.out (msbF_len d m) (by have := HR.out.lt; rw [HH.out]; omega) (by omega)
                  have HSET : Hid (RB (wr.setCell ⟨g, i, none⟩ (.slice (some ⟨h, 0, none⟩) m m)) g n (rowsAt l m (i + 1))) := by
                    rw [rowsAt_step l m i hil.out hm1 HX.out, ← HD.out]
                    exact HRX.out.set i _ _ (by rw [msbF_len]; exact HOWN.out)
                  have HSW := Lib.hid (HWW.out.setCell (p := ⟨g, i, none⟩) (Nat.le_refl _) (.slice (some ⟨h, 0, none⟩) m m))
                  have HLS2 : Hid (Last l m (i + 1) d m) := by rw [HD.out]; exact last_step (by have := hil.out; have := HLL.out; omega) (by omega) hm1 hil.out HX.out
                  clear HRX HWW HBK HBW HB HR HOWN HLS
                  go_wp2_with fail
                  go_roundw
                  case rel => exact ⟨i + 1, m, d, by omega, by go_num, rfl, rfl, HLS2, HSET, HSW⟩
                  case measure => simp [intOf]; omega
          · have e1 : (nth l i != (m : Int)) = true := by simpa using hx
            have HX := Lib.hid hx
            have HS := Lib.hid (rowsAt_skip l m i hx)
            clear hx
            go_wp2_with fail
            go_roundw
            case rel => exact ⟨i + 1, last, code, by omega, by go_num, rfl, rfl, Lib.hid (last_skip HLS.out (by omega) (by have := HLL.out; omega) HX.out), by rw [HS.out]; exact HR, HB⟩
            case measure => simp [intOf]; omega
        · obtain rfl : i = n := by omega
          go_wp2_with fail
          go_roundw
          case rel => exact ⟨m + 1, last, code, by omega, by omega, by go_num, rfl, rfl, Lib.hid (fun h => last_next (HLL.out ▸ HLS.out) (by omega)), by rw [← rowsAt_next, HLL.out]; exact HR, HB⟩
          case measure => simp [intOf]; omega
    · obtain rfl : m = 16 := by omega
      have HR1 : Hid (RB wr g n (rowsF l)) := by rw [← rowsAt_all l HOK.out]; exact HR0
      go_wp2_with fail
      go_ret
      refine ⟨?_, HG.out ▸ HR1.out, HG.out ▸ HB0.out⟩
      rw [← HG.out]; rfl
end Go.Proofs.YtcblibefmclloaaDoor

set_option linter.unusedVariables false
set_option linter.unusedSimpArgs false
namespace Go.Proofs.YtcblibefmclloaaDoor
open Go.RowKit
theorem rows_short {l : List Int} (hok : l.all okLen = true) (j : Nat) : (rth (rowsF l) j).length ≤ 15 := by
  by_cases hj : j < l.length
  · by_cases h0 : 0 < (rth (rowsF l) j).length
    · obtain ⟨m, h1, h2, _, h4⟩ := row_len hok j hj h0
      rw [h4, msbF_len]; exact h2
    · omega
  · have : rth (rowsF l) j = [] := by
      unfold rth; simp [List.getD, List.getElem?_eq_none (show (rowsF l).length ≤ j by rw [rowsF_len]; omega)]
    rw [this]; simp
/-- Reading bits, whatever has gone wrong before. -/
def Took (w : World) (gh : Nat) (B : Option Addr) (M c q n : Nat) (E : Int) (bs : List Int) (e : Ending) (w' : World) : Prop :=
  ∃ (v : Int) (q' : Nat) (E' : Int), e = .returned (.int .i64 v) ∧ HB w' gh B M c q' E' ∧ Keeps [gh] w w' ∧ 0 ≤ v ∧ v < 256 ∧ q' ≤ M ∧
    ((E = 0 ∧ q + n ≤ M ∧ E' = 0 ∧ v = numB bs q n ∧ q' = q + n) ∨ ((E ≠ 0 ∨ M < q + n) ∧ E' = 10))
theorem htake3 (w : World) (gh : Nat) (B : Option Addr) (M c q n : Nat) (E : Int) (bs : List Int) (hb : HB w gh B M c q E) (hr : RI .u8 w B M (bitsP bs M)) (hE : E = 0 ∨ E = 10) (hn : n ≤ 8) (hq : q ≤ M) (hM : M ≤ 100000000) :
    Calls Tryd.prog 60 #[.pointer (some ⟨gh, 0, none⟩), .int .i64 n] w (Took w gh B M c q n E bs) := by
  obtain ⟨n0, n1⟩ := numB_lt bs q n
  have n2 := pow_le8 n hn
  rcases hE with rfl | rfl
  · by_cases hf : q + n ≤ M
    · refine (htake_ok w gh B M c q n bs hb hr hf (by omega) hM).mono ?_
      rintro e w' ⟨rfl, h1, h2⟩
      exact ⟨_, _, _, rfl, h1, h2, n0, by omega, hf, .inl ⟨rfl, hf, rfl, rfl, rfl⟩⟩
    · refine (htake_end w gh B M c q n hb (by omega) (by omega) hq hM).mono ?_
      rintro e w' ⟨rfl, h1, h2⟩
      exact ⟨_, _, _, rfl, h1, h2, by omega, by omega, hq, .inr ⟨.inr (by omega), rfl⟩⟩
  · refine (htake_bad w gh B M c q n 10 hb (by decide)).mono ?_
    rintro e w' ⟨rfl, h1, h2⟩
    exact ⟨_, _, _, rfl, h1, h2.mono (by simp), by omega, by omega, hq, .inr ⟨.inl (by decide), rfl⟩⟩
/-- One more code is read. -/
theorem codes_more {w wr w5 : World} {gh gc go M c q q' i p o : Nat} {B : Option Addr} {E E' v : Int} {bs cs : List Int}
    (hgn : Off [gh] B) (hgcB : Off [gc] B) (hgch : gc ≠ gh) (hgco : gc ≠ go) (hne : go ≠ gh) (hgc : w.heap.size ≤ gc) (hgh : w.heap.size ≤ gh) (hcl : cs.length = 19)
    (hcL : cL bs (p + 14) (i + 1) = (cL bs (p + 14) i).set o (numB bs (p + 14 + 3 * i) 3))
    (hI : (p + 14 + 3 * i ≤ M ∧ E = 0 ∧ q = p + 14 + 3 * i ∧ cs = cL bs (p + 14) i) ∨ (M < p + 14 + 3 * i ∧ E = 10))
    (hc : (E = 0 ∧ q + 3 ≤ M ∧ E' = 0 ∧ v = numB bs q 3 ∧ q' = q + 3) ∨ ((E ≠ 0 ∨ M < q + 3) ∧ E' = 10))
    (hC : Blk w5 gc 3 (ints .i64 cs)) (hH : HB w5 gh B M c q' E') (hR : RI .u8 wr B M (bitsP bs M)) (hO : Blk wr go 3 (ints .i64 orderL)) (hK : Keeps [] w wr) (hk5 : Keeps [gh] wr.drew w5) :
    (E' = 0 ∨ E' = 10) ∧ Hid ((p + 14 + 3 * (i + 1) ≤ M ∧ E' = 0 ∧ q' = p + 14 + 3 * (i + 1) ∧ cs.set o v = cL bs (p + 14) (i + 1)) ∨ (M < p + 14 + 3 * (i + 1) ∧ E' = 10)) ∧
    Hid (Blk (w5.setCell ⟨gc, o, none⟩ (.int .i64 v)) gc 3 (ints .i64 (cs.set o v))) ∧ Hid (HB (w5.setCell ⟨gc, o, none⟩ (.int .i64 v)) gh B M c q' E') ∧ Hid (RI .u8 (w5.setCell ⟨gc, o, none⟩ (.int .i64 v)) B M (bitsP bs M)) ∧
    Hid (Blk (w5.setCell ⟨gc, o, none⟩ (.int .i64 v)) go 3 (ints .i64 orderL)) ∧ Hid (Keeps [] w (w5.setCell ⟨gc, o, none⟩ (.int .i64 v))) := by
  have kd := (Keeps.refl [] wr).drew
  have ks : Keeps [gc] w5 (w5.setCell ⟨gc, o, none⟩ (.int .i64 v)) := (Keeps.refl [gc] w5).setCell (p := ⟨gc, o, none⟩) (Or.inl (by simp)) _
  refine ⟨by omega, Lib.hid ?_, Lib.hid ?_, Lib.hid (HB.keeps hH ks (by simpa using Ne.symm hgch)), Lib.hid (((hR.keeps kd (off_nil _)).keeps hk5 hgn).keeps ks hgcB), Lib.hid (((hO.keeps kd (by simp)).keeps hk5 (by simpa using hne)).keeps ks (by simpa using Ne.symm hgco)), Lib.hid (((hK.trans kd).then hk5 (fun x hx => Or.inr (by rw [List.mem_singleton.1 hx]; exact hgh))).setCell (p := ⟨gc, o, none⟩) (Or.inr hgc) _)⟩
  · rcases hI with ⟨a1, rfl, rfl, rfl⟩ | ⟨a1, rfl⟩
    · rcases hc with ⟨_, b1, rfl, rfl, rfl⟩ | ⟨b1, rfl⟩
      · exact .inl ⟨by omega, rfl, by omega, hcL.symm⟩
      · exact .inr ⟨by omega, rfl⟩
    · rcases hc with ⟨b0, _⟩ | ⟨_, rfl⟩
      · exact absurd b0 (by decide)
      · exact .inr ⟨by omega, rfl⟩
  · have := hC.set o (.int .i64 v)
    rwa [show (ints .i64 cs).set o (.int .i64 v) = ints .i64 (cs.set o v) by simp [ints, List.map_set]] at this
/-- What reading a head is to give. -/
def ReadV (w : World) (h : List Int × List Int × Nat × Int) (e : Ending) (w' : World) : Prop :=
  ∃ A1 c1 A2 c2, e = .returned (.tuple #[.slice A1 h.1.length c1, .slice A2 h.2.1.length c2, .int .i64 (h.2.2.1 : Nat), .int .i64 h.2.2.2]) ∧ RI .i64 w' A1 h.1.length h.1 ∧ RI .i64 w' A2 h.2.1.length h.2.1 ∧ Keeps [] w w'
theorem ri_nil (k : IntKind) (w : World) : RI k w none 0 [] := ⟨rfl, by omega, by simp⟩
theorem readV_err {w w' : World} {h : List Int × List Int × Nat × Int} {e : Int} (hh : h = ([], [], 0, e)) (hk : Keeps [] w w') : ReadV w h (.returned (.tuple #[.slice none 0 0, .slice none 0 0, .int .i64 0, .int .i64 e])) w' := by
  subst hh
  exact ⟨none, 0, none, 0, rfl, ri_nil _ _, ri_nil _ _, hk⟩
set_option maxRecDepth 100000 in
set_option maxHeartbeats 4000000 in
theorem refRead_calls (w : World) (B : Option Addr) (M c p : Nat) (bs : List Int) (hM : M = 8 * bs.length) (hr : RI .u8 w B M (bitsP bs M)) (hp : p ≤ M) (hMb : M ≤ 100000000) (hB : ∀ a, B = some a → a.block < w.heap.size) :
    Calls Tryd.prog 26 #[.slice B M c, .int .i64 p] w (ReadV w (headF bs p)) := by
  have HM := Lib.hid hM
  have HR := Lib.hid hr
  clear hM hr
  obtain ⟨go, hgo⟩ : ∃ x, x = w.heap.size := ⟨_, rfl⟩
  obtain ⟨gh, hgh⟩ : ∃ x, x = w.heap.size + 1 := ⟨_, rfl⟩
  obtain ⟨w0, hw0⟩ : ∃ w0, w0 = (w.alloc (.cells (ints .i64 orderL).toArray 3)).alloc (.cells #[.slice B M c, .int .i64 p, .int .i64 0] 86) := ⟨_, rfl⟩
  have hk0 : Keeps [] w w0 := by rw [hw0]; exact ((Keeps.refl [] w).alloc _).alloc _
  have HO0 : Hid (Blk w0 go 3 (ints .i64 orderL)) := by
    rw [hw0, hgo]
    exact Lib.hid ((blk_new w 3 (ints .i64 orderL)).keeps ((Keeps.refl [] _).alloc _) (by simp))
  have HH0 : Hid (HB w0 gh B M c p 0) := by
    rw [hw0, hgh]
    have := blk_new (w.alloc (.cells (ints .i64 orderL).toArray 3)) 86 [.slice B M c, .int .i64 p, .int .i64 0]
    exact Lib.hid (by simpa [HB] using this)
  have HR0 := Lib.hid (HR.out.keeps hk0 (off_nil _))
  have HK0 := Lib.hid hk0
  have HGO : Hid (w.heap.size ≤ go) := Lib.hid (by omega)
  have HGH : Hid (w.heap.size ≤ gh) := Lib.hid (by omega)
  have hne : go ≠ gh := by omega
  clear hk0
  go_enter Tryd.func26, Tryd.ntmps26
  go_wp2_with fail
  change Calls _ _ #[.pointer (some ⟨w.heap.size + 1, 0, none⟩), .int .i64 5] ((w.alloc (.cells (ints .i64 orderL).toArray 3)).alloc (.cells #[.slice B M c, .int .i64 p, .int .i64 0] 86)) _
  rw [← hw0, ← hgh, ← hgo]
  clear hw0 hgo hgh
  refine (htake3 _ _ _ _ _ p 5 0 bs HH0.out HR0.out (.inl rfl) (by omega) hp hMb).mono ?_
  rintro _ w1 ⟨v1, q1, E1, rfl, hh1, hk1, v10, v11, hq1, hc1⟩
  have hgn : Off [gh] B := by
    intro a ha hm
    have h1 := hB a ha
    have h2 := HGH.out
    rw [List.mem_singleton.1 hm] at h1
    omega
  have HR1 := Lib.hid (HR0.out.keeps hk1 hgn)
  have HO1 := Lib.hid (HO0.out.keeps hk1 (by simpa using hne))
  have HK1 := Lib.hid (HK0.out.then hk1 (fun x hx => Or.inr (by rw [List.mem_singleton.1 hx]; exact HGH.out)))
  have HH1 := Lib.hid hh1
  have hE1 : E1 = 0 ∨ E1 = 10 := by omega
  clear hh1 hk1 HR0 HO0 HK0 HH0
  go_wp2_with fail
  refine (htake3 _ _ _ _ _ q1 5 E1 bs HH1.out HR1.out hE1 (by omega) hq1 hMb).mono ?_
  rintro _ w2 ⟨v2, q2, E2, rfl, hh1, hk1, v20, v21, hq2, hc2⟩
  have HR2 := Lib.hid (HR1.out.keeps hk1 hgn)
  have HO2 := Lib.hid (HO1.out.keeps hk1 (by simpa using hne))
  have HK2 := Lib.hid (HK1.out.then hk1 (fun x hx => Or.inr (by rw [List.mem_singleton.1 hx]; exact HGH.out)))
  have HH2 := Lib.hid hh1
  have hE2 : E2 = 0 ∨ E2 = 10 := by omega
  clear hh1 hk1 HR1 HO1 HK1 HH1
  go_wp2_with fail
  refine (htake3 _ _ _ _ _ q2 4 E2 bs HH2.out HR2.out hE2 (by omega) hq2 hMb).mono ?_
  rintro _ w3 ⟨v3, q3, E3, rfl, hh1, hk1, v30, v31, hq3, hc3⟩
  have HR3 := Lib.hid (HR2.out.keeps hk1 hgn)
  have HO3 := Lib.hid (HO2.out.keeps hk1 (by simpa using hne))
  have HK3 := Lib.hid (HK2.out.then hk1 (fun x hx => Or.inr (by rw [List.mem_singleton.1 hx]; exact HGH.out)))
  have HH3 := Lib.hid hh1
  have HT : Hid ((p + 14 ≤ M ∧ E3 = 0 ∧ v1 = numB bs p 5 ∧ v2 = numB bs (p + 5) 5 ∧ v3 = numB bs (p + 10) 4 ∧ q3 = p + 14) ∨ (M < p + 14 ∧ E3 = 10)) := by
    rcases hc1 with ⟨_, a1, rfl, rfl, rfl⟩ | ⟨a1, rfl⟩
    · rcases hc2 with ⟨_, a2, rfl, rfl, rfl⟩ | ⟨a2, rfl⟩
      · rcases hc3 with ⟨_, a3, rfl, rfl, rfl⟩ | ⟨a3, rfl⟩
        · exact Lib.hid (.inl ⟨by omega, rfl, rfl, rfl, rfl, rfl⟩)
        · exact Lib.hid (.inr ⟨by omega, rfl⟩)
      · exact Lib.hid (.inr ⟨by omega, by omega⟩)
    · exact Lib.hid (.inr ⟨by omega, by omega⟩)
  clear hh1 hk1 HR2 HO2 HK2 HH2 hc1 hc2 hc3 hE1 hE2 hq1 hq2 hq3
  have h2 := Blk.cell HH3.out 2
  simp only [List.getElem?_cons_zero, List.getElem?_cons_succ] at h2
  rcases HT.out with ⟨hfit, rfl, hv1, hv2, hv3, rfl⟩ | ⟨hend, rfl⟩
  · clear HT
    have HV1 := Lib.hid hv1
    have HV2 := Lib.hid hv2
    have HV3 := Lib.hid hv3
    clear hv1 hv2 hv3
    by_cases hb1 : 286 < v1 + 257
    · have HRES : Hid (headF bs p = ([], [], 0, 40)) := Lib.hid (by unfold headF; rw [← HM.out, if_neg (by omega), if_pos (by left; have := HV1.out; omega)])
      have e1 : decide (286 < v1 + 257) = true := by simpa using hb1
      go_wp2_with fail
      exact bodyPost_ret (v := .tuple #[.slice none 0 0, .slice none 0 0, .int .i64 0, .int .i64 40]) (by simp [results, Tryd.results26, go_sem]) rfl (readV_err HRES.out HK3.out)
    have e1 : decide (286 < v1 + 257) = false := by simpa using hb1
    by_cases hb2 : 30 < v2 + 1
    · have HRES : Hid (headF bs p = ([], [], 0, 40)) := Lib.hid (by unfold headF; rw [← HM.out, if_neg (by omega), if_pos (by right; have := HV2.out; omega)])
      have e2 : decide (30 < v2 + 1) = true := by simpa using hb2
      go_wp2_with fail
      exact bodyPost_ret (v := .tuple #[.slice none 0 0, .slice none 0 0, .int .i64 0, .int .i64 40]) (by simp [results, Tryd.results26, go_sem]) rfl (readV_err HRES.out HK3.out)
    have e2 : decide (30 < v2 + 1) = false := by simpa using hb2
    have HNB : Hid (¬ (29 < numB bs p 5 ∨ 29 < numB bs (p + 5) 5)) := Lib.hid (by have := HV1.out; have := HV2.out; omega)
    obtain ⟨mn, hmn⟩ : ∃ mn, mn = manyF bs p := ⟨_, rfl⟩
    have hmn2 : v3 + 4 = (mn : Int) := by rw [hmn]; unfold manyF; rw [← HV3.out]; omega
    have hmn3 : mn ≤ 19 := by rw [hmn]; exact manyF_le bs p
    have HMN := Lib.hid hmn
    obtain ⟨lit, hlit⟩ : ∃ x, x = litF bs p := ⟨_, rfl⟩
    obtain ⟨dist, hdist⟩ : ∃ x, x = distF bs p := ⟨_, rfl⟩
    have hl2 : v1 + 257 = (lit : Int) := by rw [hlit]; unfold litF; rw [← HV1.out]; omega
    have hd2 : v2 + 1 = (dist : Int) := by rw [hdist]; unfold distF; rw [← HV2.out]; omega
    have hlb : lit ≤ 286 := by omega
    have hdb : dist ≤ 30 := by omega
    have hd1 : 1 ≤ dist := by omega
    have HLI := Lib.hid hlit
    have HDI := Lib.hid hdist
    clear hmn hlit hdist HV1 HV2 HV3
    have hmk := fun w => make_ints (P := Tryd.prog) w 22 3 .i64 8 Tryd.underlying22 info_int 19 19 rfl (by omega) (by omega)
    have e1' : decide (286 < (lit : Int)) = false := by simp; omega
    have e2' : decide (30 < (dist : Int)) = false := by simp; omega
    clear e1 e2 v10 v11 v20 v21 hb1 hb2
    go_upto_region 11 with (fail)
    obtain ⟨gc, hgc⟩ : ∃ x, x = w3.heap.size := ⟨_, rfl⟩
    obtain ⟨w4, hw4⟩ : ∃ x, x = w3.alloc (.cells (ints .i64 (List.replicate 19 0)).toArray 3) := ⟨_, rfl⟩
    have hk4 : Keeps [] w3 w4 := by rw [hw4]; exact (Keeps.refl [] w3).alloc _
    have HC4 : Hid (Blk w4 gc 3 (ints .i64 (cL bs (p + 14) 0))) := by rw [hw4, hgc]; exact Lib.hid (blk_new w3 _ _)
    have HH4 := Lib.hid (HB.keeps HH3.out hk4 (by simp))
    have HR4 := Lib.hid (HR3.out.keeps hk4 (off_nil _))
    have HO4 := Lib.hid (HO3.out.keeps hk4 (by simp))
    have HK4 := Lib.hid (HK3.out.trans hk4)
    have hgch : gc ≠ gh := by have := Blk.lt HH3.out; omega
    have hgco : gc ≠ go := by have := HO3.out.lt; omega
    have HGC : Hid (w.heap.size ≤ gc) := Lib.hid (by rw [hgc]; exact HK3.out.size)
    clear hk4 HH3 HR3 HO3 HK3 h2
    change Code.wp _ _ _ _ (w3.alloc (.cells (ints .i64 (List.replicate 19 0)).toArray 3))
    rw [← hw4, ← hgc]
    clear hw4 hgc hmk
    have hgcB : Off [gc] B := by
      intro a ha hm
      have h1 := hB a ha
      have h2 := HGC.out
      rw [List.mem_singleton.1 hm] at h1
      omega
    go_wp2_with fail
    go_loopw [14] (fun iv wr => ∃ (i q : Nat) (E : Int) (cs : List Int), i ≤ mn ∧ iv = .int .i64 i ∧ cs.length = 19 ∧ q ≤ M ∧ (E = 0 ∨ E = 10) ∧ Hid ((p + 14 + 3 * i ≤ M ∧ E = 0 ∧ q = p + 14 + 3 * i ∧ cs = cL bs (p + 14) i) ∨ (M < p + 14 + 3 * i ∧ E = 10)) ∧
      Hid (Blk wr gc 3 (ints .i64 cs)) ∧ Hid (HB wr gh B M c q E) ∧ Hid (RI .u8 wr B M (bitsP bs M)) ∧ Hid (Blk wr go 3 (ints .i64 orderL)) ∧ Hid (Keeps [] w wr)) (fun iv _ => mn - (intOf iv).toNat)
    case atStart => exact ⟨0, p + 14, 0, cL bs (p + 14) 0, by omega, rfl, cL_len _ _ _, hfit, .inl rfl, Lib.hid (.inl ⟨by omega, rfl, rfl, rfl⟩), HC4, HH4, HR4, HO4, HK4⟩
    case round =>
      clear HC4 HH4 HR4 HO4 HK4
      obtain ⟨i, q, E, cs, hi, rfl, hcl, hq, hE, HI, HC, HH, HRR, HO, HK⟩ := hrel
      by_cases hlt : i < mn
      · have e0 : decide (i < mn) = true := by simpa using hlt
        obtain ⟨o0, o1⟩ := order_lt i (by omega)
        have ho := HO.out.cell i
        rw [show (ints .i64 orderL)[i]? = some (.int .i64 (nth orderL i)) by rw [ints_getElem?]; simp [nth, List.getD, show i < orderL.length by show i < 19; omega]] at ho
        have HCL : Hid (cL bs (p + 14) (i + 1) = (cL bs (p + 14) i).set (nth orderL i).toNat (numB bs (p + 14 + 3 * i) 3)) := Lib.hid rfl
        obtain ⟨o, hoo⟩ : ∃ o : Nat, nth orderL i = o := ⟨(nth orderL i).toNat, by omega⟩
        rw [hoo] at ho o1 HCL
        rw [Int.toNat_natCast] at HCL
        have ho19 : o < 19 := by omega
        clear hoo o0 o1
        have s1 : (0 : Int) ≤ (o : Int) := by omega
        have s2 : (o : Int) < 19 := by omega
        have s3 : IntKind.i64.wrap (i : Int) = (i : Int) := IntWalk.i64_in _ (by omega)
        have s4 : IntKind.i64.wrap (o : Int) = (o : Int) := IntWalk.i64_in _ (by omega)
        have s5 : (0 : Int) ≤ (i : Int) := by omega
        have s6 : (i : Int) < 19 := by omega
        go_wp2_with fail
        go_region_with (first | (go_at_call 60; refine (htake3 _ gh B M c q 3 E bs (HB.keeps HH.out (Keeps.refl [] wr).drew (by simp)) (HRR.out.keeps (Keeps.refl [] wr).drew (off_nil _)) hE (by omega) hq hMb).mono ?_; rintro _ w5 ⟨v, q', E', rfl, hh5, hk5, hv0, hv1, hq', hc'⟩; have ho5 := hk5.cell (p := ⟨go, i, none⟩) (by simpa using hne) ((Keeps.refl [] wr).drew.cell (by simp) ho); have hb5 := (HC.out.keeps (Keeps.refl [] wr).drew (by simp)).keeps hk5 (by simpa using hgch); have hc5 := hb5.cell o; have hf5 := hb5.frozen o; rw [show (ints .i64 cs)[o]? = some (.int .i64 (nth cs o)) by rw [ints_getElem?]; simp [nth, List.getD, show o < cs.length by omega]] at hc5))
        all_goals (obtain ⟨hE', HI', HC', HH', HRR', HO', HK'⟩ := codes_more hgn hgcB hgch hgco hne HGC.out HGH.out hcl HCL.out HI.out hc' hb5 hh5 HRR.out HO.out HK.out hk5)
        all_goals clear hb5 hh5 hk5 hc5 hf5 ho5 hc' HI HC HH HRR HO HK ho
        all_goals go_wp2_with fail
        all_goals go_roundw
        all_goals first
          | exact ⟨i + 1, q', E', cs.set o v, by omega, by go_num, by rw [List.length_set]; exact hcl, hq', hE', HI', HC', HH', HRR', HO', HK'⟩
          | (simp [intOf]; omega)
      · obtain rfl : i = mn := by omega
        have e0 : decide (i < i) = false := by simp
        have h2 := Blk.cell HH.out 2
        simp only [List.getElem?_cons_zero, List.getElem?_cons_succ] at h2
        rcases HI.out with ⟨hf3, rfl, rfl, rfl⟩ | ⟨hend, rfl⟩
        · clear HI
          obtain ⟨cd, hcd⟩ : ∃ cd, cd = cL bs (p + 14) i := ⟨_, rfl⟩
          have hcl' : cd.length = 19 := by rw [hcd]; exact cL_len _ _ _
          have HCD : Hid (cd = codesH bs p) := Lib.hid (by rw [hcd]; unfold codesH; rw [← HMN.out])
          rw [← hcd] at HC
          have HCR : Hid (RI .i64 wr (some ⟨gc, 0, none⟩) 19 cd) := Lib.hid (by
            have := Blk.ri (xs := cd) (ys := []) (by rw [List.append_nil]; exact HC.out)
            rwa [hcl'] at this)
          have HF3 : Hid (¬ (8 * bs.length < p + 14 + 3 * manyF bs p)) := Lib.hid (by rw [← HM.out, ← HMN.out]; omega)
          have HQ : Hid (p + 14 + 3 * i = p + 14 + 3 * manyF bs p) := Lib.hid (by rw [← HMN.out])
          clear hcd HC HO hcl
          obtain ⟨wc, hwc⟩ : ∃ x : World, x = wr := ⟨_, rfl⟩
          rw [← hwc] at HH HRR HK HCR h2 ⊢
          clear hwc
          go_wp2_with fail
          clear h2
          refine (refCheck_calls _ _ _ _ cd HCR.out (by omega)).mono ?_
          rintro _ w6 ⟨rfl, hd6⟩
          have hk6 := hd6.keeps (S := [])
          have HH6 := Lib.hid (HB.keeps HH.out hk6 (by simp))
          have HR6 := Lib.hid (HRR.out.keeps hk6 (off_nil _))
          have HC6 := Lib.hid (HCR.out.keeps hk6 (off_nil _))
          have HK6 := Lib.hid (HK.out.trans hk6)
          clear hd6 hk6 HH HRR HCR HK
          by_cases hck : checkF cd = 0
          · have HCK := Lib.hid hck
            have HOK := Lib.hid (check_ok hck).2
            have HSH := Lib.hid (rows_short HOK.out)
            have e3 : (checkF cd != 0) = false := by simp [hck]
            clear hck
            go_wp2_with fail
            refine (rows_calls _ _ _ _ cd HC6.out (by omega) HOK.out).mono ?_
            rintro _ w7 ⟨rfl, hrb, hb7⟩
            obtain ⟨gr, hgr⟩ : ∃ x, x = w6.heap.size := ⟨_, rfl⟩
            have hk7 := Keeps.of_below hb7 (S := [])
            rw [← hgr] at hrb ⊢
            have hghr : gh < gr := by have := Blk.lt HH6.out; omega
            have HH7 := Lib.hid (HB.keeps HH6.out hk7 (by simp))
            have HR7 := Lib.hid (HR6.out.keeps hk7 (off_nil _))
            have HK7 := Lib.hid (HK6.out.trans hk7)
            have HRB7 := Lib.hid hrb
            clear hrb hb7 hk7 hgr HH6 HR6 HC6 HK6
            obtain ⟨N, hN⟩ : ∃ N, N = lit + dist := ⟨_, rfl⟩
            have HRR0 : Hid (readR bs p = stepsF cd bs N N [] (p + 14 + 3 * i)) := Lib.hid (by
              unfold readR
              rw [← HCD.out, HQ.out, hN, HLI.out, HDI.out])
            have hNb : N ≤ 316 := by omega
            have hN3 : IntKind.i64.wrap ((lit : Int) + (dist : Int)) = (N : Int) := by rw [show (lit : Int) + (dist : Int) = (N : Int) by omega]; exact IntWalk.i64_in _ (by omega)
            have hLN : lit < N := by omega
            clear hN
            have hpi : p ≤ p + 14 + 3 * i := by omega
            have HE1 : Hid (∀ e, (readR bs p).2.2 = e → e ≠ 0 → headF bs p = ([], [], 0, e)) := Lib.hid (fun e h he => head_err (by have := HM.out; omega) HNB.out HF3.out (by rw [← HCD.out]; exact HCK.out) h he)
            have HE2 : Hid (∀ l q, readR bs p = (l, q, 0) → headF bs p = (l.take lit, l.drop lit, q - p, 0)) := Lib.hid (fun l q h => by rw [HLI.out]; exact head_ok (by have := HM.out; omega) HNB.out HF3.out (by rw [← HCD.out]; exact HCK.out) h)
            clear e1' e2' hl2 hd2 HF3 HQ HCD HLI HDI HNB HMN
            go_wp2_with fail
            go_loopw [17] (fun lv wr => ∃ (f q len cc : Nat) (l : List Int) (A : Option Addr), lv = .slice A len cc ∧ len ≤ N ∧ N ≤ len + f ∧ p ≤ q ∧ q ≤ M ∧ Hid (readR bs p = stepsF cd bs N f l q) ∧ Hid (wr.ownsRow (gr + 1) 3 1 (.slice A len cc) len (ints .i64 l)) ∧
              Hid (HB wr gh B M c q 0) ∧ Hid (RI .u8 wr B M (bitsP bs M)) ∧ Hid (RB wr gr 19 (rowsF cd)) ∧ Hid (Keeps [] w wr)) (fun lv _ => N - sLen lv)
            case atStart => exact ⟨N, p + 14 + 3 * i, 0, 0, [], none, rfl, by omega, by omega, hpi, hf3, HRR0, Lib.hid (World.ownsRow_nil _ _ _ _), HH7, HR7, HRB7, HK7⟩
            case round =>
              clear HRR0 HH7 HR7 HRB7 HK7
              obtain ⟨f, q, len, cc, l, A, rfl, hlen, hf, hpq, hqM, HRD, HLO, HH, HRR, HRB, HK⟩ := hrel
              by_cases hlt2 : len < N
              · have e4 : decide ((len : Int) < (N : Int)) = true := by simp; omega
                have HLEN : Hid (l.length = len) := Lib.hid (by have := HLO.out.1; simpa [ints] using this)
                obtain ⟨f', rfl⟩ : ∃ f', f = f' + 1 := ⟨f - 1, by omega⟩
                have HUN : Hid (readR bs p = if (decF cd bs q).2.1 ≠ 0 then ([], q, (decF cd bs q).2.1)
                    else if M < q + (decF cd bs q).2.2 + wN (decF cd bs q).1 then ([], q, 10)
                    else match addF l (decF cd bs q).1 (numB bs (q + (decF cd bs q).2.2) (wN (decF cd bs q).1)) N with
                      | none => ([], q, 41)
                      | some l' => stepsF cd bs N f' l' (q + (decF cd bs q).2.2 + wN (decF cd bs q).1)) := Lib.hid (by
                  rw [HRD.out, stepsF, if_neg (by rw [HLEN.out]; omega), ← HM.out]
                  rfl)
                clear HRD
                obtain ⟨wl, hwl⟩ : ∃ x : World, x = wr := ⟨_, rfl⟩
                rw [← hwl] at HLO HH HRR HRB HK ⊢
                clear hwl
                go_wp2_with fail
                refine (step_calls wl gh gr B M c q bs cd HM.out HH.out HRR.out HRB.out HCK.out hcl' HSH.out hqM hMb hgn (by intro x hx; rw [List.mem_singleton.1 hx]; exact Or.inl hghr)).mono ?_
                rintro _ w8 ⟨sy, ex, q2, E2, rfl, hh8, hk8, hs1, hs2⟩
                have hg8 : ∀ x ∈ [gh], x < gr ∨ wl.heap.size ≤ x := by intro x hx; rw [List.mem_singleton.1 hx]; exact Or.inl hghr
                have HH8 := Lib.hid hh8
                have HR8 := Lib.hid (HRR.out.keeps hk8 hgn)
                have HRB8 := Lib.hid (HRB.out.keeps hk8 hg8)
                have HLO8 := Lib.hid (own_keeps HLO.out hk8 (fun x hx hm => by have := (HLO.out.lt x hx).1; rw [List.mem_singleton.1 hm] at this; omega))
                have HK8 := Lib.hid (HK.out.then hk8 (fun x hx => Or.inr (by rw [List.mem_singleton.1 hx]; exact HGH.out)))
                have h2 := Blk.cell hh8 2
                simp only [List.getElem?_cons_zero, List.getElem?_cons_succ] at h2
                have hg8lt : gh < w8.heap.size := Blk.lt hh8
                have hgr8 : gr < w8.heap.size := HRB8.out.lt
                have hn8 : gh ≠ w8.heap.size := by omega
                have hn8' : w8.heap.size ≠ gh := by omega
                have hw8 : w.heap.size ≤ w8.heap.size := HK8.out.size
                clear hh8 hk8 hg8 HH HRR HRB HLO HK
                have HBD := Lib.hid (dec_bd cd bs q (by rw [← HM.out]; exact hqM))
                generalize decF cd bs q = d at *
                obtain ⟨sy0, er, k⟩ := d
                simp only [] at hs1 hs2 HBD HUN
                by_cases her : er = 0
                · subst her
                  have hs2' := hs2 rfl
                  clear hs1 hs2
                  by_cases hov : M < q + k + wN sy0
                  · rw [if_pos hov] at hs2'
                    subst hs2'
                    have HRES := Lib.hid (HE1.out 10 (by rw [HUN.out, if_neg (by simp), if_pos hov]) (by decide))
                    clear HUN HBD
                    go_wp2_with fail
                    go_quiet (fail)
                    go_wp2_with fail
                    exact bodyPost_ret (v := .tuple #[.slice none 0 0, .slice none 0 0, .int .i64 0, .int .i64 10]) (by simp [results, Tryd.results26, go_sem]) rfl (readV_err HRES.out ((HK8.out.alloc _).drewN _))
                  · rw [if_neg hov] at hs2'
                    obtain ⟨rfl, rfl, rfl, rfl⟩ := hs2'
                    have HUN2 : Hid (readR bs p = match addF l sy (numB bs (q + k) (wN sy)) N with
                      | none => ([], q, 41)
                      | some l' => stepsF cd bs N f' l' (q + k + wN sy)) := Lib.hid (by rw [HUN.out, if_neg (by simp), if_neg hov])
                    clear HUN
                    generalize numB bs (q + k) (wN sy) = ex at *
                    generalize hqq : q + k + wN sy = q2 at *
                    have hq2 : q2 ≤ M := by omega
                    have hpq2 : p ≤ q2 := by omega
                    obtain ⟨gs, hgs⟩ : ∃ x, x = w8.heap.size := ⟨_, rfl⟩
                    obtain ⟨w9, hw9⟩ : ∃ x, x = w8.alloc (.cells #[.int .i64 sy, .int .i64 ex] 31) := ⟨_, rfl⟩
                    have hk9 : Keeps [] w8 w9 := by rw [hw9]; exact (Keeps.refl [] w8).alloc _
                    have hB9 : Blk w9 gs 31 [.int .i64 sy, .int .i64 ex] := by
                      rw [hw9, hgs]
                      exact blk_new w8 31 [.int .i64 sy, .int .i64 ex]
                    have HH9 := Lib.hid (HB.keeps HH8.out hk9 (by simp))
                    have HR9 := Lib.hid (HR8.out.keeps hk9 (off_nil _))
                    have HRB9 := Lib.hid (HRB8.out.keeps hk9 (by simp))
                    have HLO9 := Lib.hid (own_keeps HLO8.out hk9 (by simp))
                    have HK9 := Lib.hid (HK8.out.trans hk9)
                    obtain ⟨A9, c9, hv9, hri9, hcap9, hnil9, hpl9, -⟩ := own_full HLO9.out
                    injection hv9 with hv1 hv2 hv3
                    subst hv1
                    subst hv3
                    have hri8 : RI .i64 w8 A len l := by
                      obtain ⟨_, _, hv9, hri, -⟩ := own_full HLO8.out
                      injection hv9 with hv1 hv2 hv3
                      rw [hv1]; exact hri
                    have k0 := hB9.cell 0
                    have k1 := hB9.cell 1
                    simp only [List.getElem?_cons_zero, List.getElem?_cons_succ] at k0 k1
                    have HRI9 := Lib.hid hri9
                    have HN9 := Lib.hid hnil9
                    have HP9 := Lib.hid hpl9
                    clear hri9 hnil9 hpl9 hri8 hk9 hB9 HH8 HR8 HRB8 HLO8 HK8 HBD hov
                    go_upto_region 26 with (fail)
                    rw [← hgs, ← hw9]
                    clear hgs hw9 h2 hn8 hn8' hg8lt
                    go_wp2_with fail
                    refine (with_calls w9 len cc A l sy ex N HRI9.out (by omega) HN9.out HP9.out).mono ?_
                    intro e w10 hv
                    cases haf : addF l sy ex N with
                    | none =>
                      rw [haf] at hv
                      obtain ⟨rfl, hb10⟩ := hv
                      have HRES := Lib.hid (HE1.out 41 (by rw [HUN2.out, haf]) (by decide))
                      go_wp2_with fail
                      exact bodyPost_ret (v := .tuple #[.slice none 0 0, .slice none 0 0, .int .i64 0, .int .i64 41]) (by simp [results, Tryd.results26, go_sem]) rfl (readV_err HRES.out (HK9.out.trans (Keeps.of_below hb10)))
                    | some l' =>
                      rw [haf] at hv
                      obtain ⟨v10, rfl, ho10, hb10⟩ := hv
                      obtain ⟨g1, g2, -⟩ := addF_grows haf
                      have hk10 := Keeps.of_below hb10 (S := [])
                      obtain ⟨A10, c10, rfl, -⟩ := own_full ho10
                      have HRD10 : Hid (readR bs p = stepsF cd bs N f' l' q2) := Lib.hid (by rw [HUN2.out, haf])
                      have HLO10 := Lib.hid (ho10.mono (show gr + 1 ≤ w9.heap.size from HRB9.out.lt))
                      have HH10 := Lib.hid (HB.keeps HH9.out hk10 (by simp))
                      have HR10 := Lib.hid (HR9.out.keeps hk10 (off_nil _))
                      have HRB10 := Lib.hid (HRB9.out.keeps hk10 (by simp))
                      have HK10 := Lib.hid (HK9.out.trans hk10)
                      have hlen' := HLEN.out
                      clear ho10 hb10 hk10 HLO9 HH9 HR9 HRB9 HK9 HRI9 HN9 HP9 HUN2
                      go_wp2_with fail
                      go_roundw
                      case rel => exact ⟨f', q2, l'.length, c10, l', A10, rfl, by omega, by omega, hpq2, hq2, HRD10, HLO10, HH10, HR10, HRB10, HK10⟩
                      case measure => simp [sLen]; omega
                · have hs1' := hs1 her
                  subst hs1'
                  have HRES := Lib.hid (HE1.out E2 (by rw [HUN.out, if_pos her]) her)
                  clear hs1 hs2 HUN HBD
                  have e5 : (E2 != 0) = true := by simpa using her
                  go_wp2_with fail
                  go_quiet (fail)
                  go_wp2_with fail
                  exact bodyPost_ret (v := .tuple #[.slice none 0 0, .slice none 0 0, .int .i64 0, .int .i64 E2]) (by simp [results, Tryd.results26, go_sem]) rfl (readV_err HRES.out ((HK8.out.alloc _).drewN _))
              · obtain rfl : len = N := by omega
                have e4 : decide ((len : Int) < (len : Int)) = false := by simp
                have HLEN : Hid (l.length = len) := Lib.hid (by have := HLO.out.1; simpa [ints] using this)
                have HRES := Lib.hid (HE2.out l q (by rw [HRD.out, stepsF_done _ _ _ _ _ _ (by rw [HLEN.out]; omega)]))
                obtain ⟨A9, c9, hv9, hri9, hcap9, -⟩ := own_full HLO.out
                injection hv9 with hv1 hv2 hv3
                subst hv1
                subst hv3
                obtain ⟨ab, ao, rfl⟩ := hri9.hd (by omega)
                have HRI := Lib.hid hri9
                have h1 := Blk.cell HH.out 1
                simp only [List.getElem?_cons_zero, List.getElem?_cons_succ] at h1
                have t1 : IntKind.i64.wrap ((q : Int) - (p : Int)) = ((q - p : Nat) : Int) := by rw [show (q : Int) - (p : Int) = ((q - p : Nat) : Int) by omega]; exact IntWalk.i64_in _ (by omega)
                have t2 : (0 : Int) ≤ (lit : Int) := by omega
                have t3 : (lit : Int) ≤ (len : Int) := by omega
                have t4 : (lit : Int) ≤ (cc : Int) := by omega
                have t5 : lit ≤ len := by omega
                have t6 : lit ≤ cc := by omega
                have t7 : ¬ cc = lit := by omega
                have t8 : ¬ lit = cc := by omega
                clear HRD hri9 hv2
                go_wp2_with fail
                go_quiet (fail)
                go_wp2_with fail
                have hl1 : (l.take lit).length = lit := by rw [List.length_take, HLEN.out]; omega
                have hl2' : (l.drop lit).length = len - lit := by rw [List.length_drop, HLEN.out]
                have hr1 := (HRI.out.take t5).keeps ((Keeps.refl [] wr).drewN nq) (off_nil _)
                have hr2 : RI .i64 (wr.drewN nq) (some ⟨ab, ao + lit, none⟩) (len - lit) (l.drop lit) := ⟨hl2', fun _ => ⟨_, _, rfl⟩, fun b' o' ha j hj => by
                  injection ha with ha; injection ha with h1 h2 h3; subst h1; subst h2
                  have := (HRI.out.keeps ((Keeps.refl [] wr).drewN nq) (off_nil _)).cell ab ao rfl (lit + j) (by omega)
                  rw [show ao + lit + j = ao + (lit + j) by omega, this]
                  simp [nth, List.getD]⟩
                refine bodyPost_ret (v := .tuple #[.slice (some ⟨ab, ao, none⟩) lit cc, .slice (some ⟨ab, ao + lit, none⟩) (len - lit) (cc - lit), .int .i64 ((q - p : Nat) : Int), .int .i64 0]) (by simp [results, Tryd.results26, go_sem]) rfl ?_
                rw [HRES.out]
                exact ⟨_, _, _, _, by rw [hl1, hl2'], by rw [hl1]; exact hr1, by rw [hl2']; exact hr2, HK.out.drewN _⟩
          · have HRES : Hid (headF bs p = ([], [], 0, checkF cd)) := Lib.hid (by unfold headF; rw [← HM.out, if_neg (by omega), if_neg HNB.out, HM.out, if_neg HF3.out, ← HCD.out, if_pos hck])
            have e3 : (checkF cd != 0) = true := by simpa using hck
            generalize checkF cd = er at *
            go_wp2_with fail
            exact bodyPost_ret (v := .tuple #[.slice none 0 0, .slice none 0 0, .int .i64 0, .int .i64 er]) (by simp [results, Tryd.results26, go_sem]) rfl (readV_err HRES.out HK6.out)
        · have HRES : Hid (headF bs p = ([], [], 0, 10)) := Lib.hid (by unfold headF; rw [← HM.out, if_neg (by omega), if_neg HNB.out, ← HMN.out, if_pos hend])
          clear HI
          go_wp2_with fail
          go_quiet (fail)
          go_wp2_with fail
          exact bodyPost_ret (v := .tuple #[.slice none 0 0, .slice none 0 0, .int .i64 0, .int .i64 10]) (by simp [results, Tryd.results26, go_sem]) rfl (readV_err HRES.out (HK.out.drewN _))
  · have HRES : Hid (headF bs p = ([], [], 0, 10)) := Lib.hid (by unfold headF; rw [← HM.out, if_pos hend])
    clear HT
    go_wp2_with fail
    go_quiet (fail)
    go_wp2_with fail
    exact bodyPost_ret (v := .tuple #[.slice none 0 0, .slice none 0 0, .int .i64 0, .int .i64 10]) (by simp [results, Tryd.results26, go_sem]) rfl (readV_err HRES.out (HK3.out.drewN _))
end Go.Proofs.YtcblibefmclloaaDoor

set_option linter.unusedVariables false
set_option linter.unusedSimpArgs false
namespace Go.Proofs.YtcblibefmclloaaDoor
open Go.RowKit
set_option maxRecDepth 100000 in
set_option maxHeartbeats 400000 in
theorem lawGone_calls (w : World) (A : Option Addr) (n c : Nat) (bs : List Int) (k : Nat) (hr : RI .u8 w A n bs) (hnil : A = none → n = 0 ∧ c = 0)
    (hbyte : ∀ j, 0 ≤ nth bs j ∧ nth bs j ≤ 255) (hn : n ≤ 4000000000) (hk : k ≤ 8 * bs.length) (hk7 : k ≤ 1000) :
    Calls Tryd.prog 24 #[.slice A n c, .int .i64 k] w fun e w' => ∃ g A' c', e = .returned (.pointer (some ⟨g, 0, none⟩)) ∧ Rdr w' g A' c' bs k ∧ w.heap.size ≤ g ∧ (∀ a, A' = some a → g < a.block ∧ a.block < w'.heap.size) ∧ Keeps [] w w' := by
  have HR := Lib.hid hr
  have HN := Lib.hid hnil
  have HY := Lib.hid hbyte
  clear hr hnil hbyte
  go_enter Tryd.func24, Tryd.ntmps24
  go_wp2_with fail
  refine (newReader_calls _ _ _ _ bs HR.out HN.out HY.out hn).mono ?_
  rintro e w1 ⟨g, A1, c1, rfl, hr1, hg1, ha1, hb1⟩
  have HR1 := Lib.hid hr1
  have K1 := Lib.hid (Keeps.of_below hb1 (S := []))
  have HG := Lib.hid hg1
  have HA := Lib.hid ha1
  clear hr1 hb1 hg1 ha1
  go_wp2_with fail
  go_loopw [6] (fun iv wr => ∃ i : Nat, i ≤ k ∧ iv = .int .i64 i ∧ Hid (Rdr wr g A1 c1 bs i) ∧ Hid (Keeps [g] w1 wr)) (fun iv _ => k - (intOf iv).toNat)
  case atStart => exact ⟨0, by omega, rfl, HR1, Lib.hid (Keeps.refl _ _)⟩
  case round =>
    clear HR1
    obtain ⟨i, hi, rfl, HR1, HK⟩ := hrel
    by_cases hlt : i < k
    · have e0 : decide (i < k) = true := by simpa using hlt
      go_wp2_with fail
      refine (take_calls _ _ _ _ _ _ 1 HR1.out (by omega) (by omega)).mono ?_
      rintro _ w2 ⟨rfl, hr2, hk2⟩
      have HR2 := Lib.hid hr2
      have HK2 := Lib.hid (HK.out.trans hk2)
      clear hr2 hk2 HR1 HK
      go_wp2_with fail
      go_roundw
      case rel => exact ⟨i + 1, by omega, by go_num, HR2, HK2⟩
      case measure => simp [intOf]; omega
    · obtain rfl : i = k := by omega
      have e0 : decide (i < i) = false := by simp
      go_wp2_with fail
      go_ret
      refine ⟨g, A1, c1, rfl, HR1.out, HG.out, fun a ha => ⟨(HA.out a ha).1, Nat.lt_of_lt_of_le (HA.out a ha).2 HK.out.size⟩, K1.out.then HK.out (fun x hx => Or.inr (by rw [List.mem_singleton.1 hx]; exact HG.out))⟩
end Go.Proofs.YtcblibefmclloaaDoor

set_option linter.unusedVariables false
set_option linter.unusedSimpArgs false
namespace Go.Proofs.YtcblibefmclloaaDoor
open Go.RowKit
set_option maxRecDepth 100000 in
set_option maxHeartbeats 1000000 in
theorem readHead_bad (w : World) (g : Nat) (A : Option Addr) (c : Nat) (bs : List Int) (p : Nat) (hr : Rdr w g A c bs p) (ha : ∀ a, A = some a → a.block < w.heap.size) (hf : p + 14 ≤ 8 * bs.length) (hbad : 29 < numB bs p 5 ∨ 29 < numB bs (p + 5) 5) :
    Calls Tryd.prog 25 #[.pointer (some ⟨g, 0, none⟩)] w fun r w' => r = .returned (.tuple #[.slice none 0 0, .slice none 0 0, .int .i64 40]) ∧ Rdr w' g A c bs p ∧ Keeps [g] w w' := by
  have HR := Lib.hid hr
  have hsz := hr.size
  clear hr
  go_enter Tryd.func25, Tryd.ntmps25
  go_wp2_with fail
  refine (gone_calls _ _ _ _ _ _ HR.out).mono ?_
  rintro r w1 ⟨rfl, hd⟩
  have H1 := Lib.hid (HR.out.dr hd.keeps)
  have K1 := Lib.hid (hd.keeps (S := [g]))
  have HA1 : Hid (∀ a, A = some a → a.block < w1.heap.size) := fun a h => Nat.lt_of_lt_of_le (ha a h) (hd.keeps (S := [])).size
  clear hd HR ha
  go_wp2_with fail
  refine (read_bad _ _ _ _ _ _ H1.out HA1.out hf hbad).mono ?_
  rintro r w2 ⟨rfl, h2, k2⟩
  have H2 := Lib.hid h2
  have K2 := Lib.hid (K1.out.trans k2)
  clear h2 k2 H1 K1 HA1 hbad
  go_wp2_with fail
  refine (gone_calls _ _ _ _ _ _ H2.out).mono ?_
  rintro r w3 ⟨rfl, hd⟩
  have H3 := Lib.hid (H2.out.dr hd.keeps)
  have K3 := Lib.hid (K2.out.trans (hd.keeps (S := [g])))
  clear hd H2 K2
  go_wp2_with fail
  refine (back_calls' _ _ _ _ _ _ 14 _ (by omega) H3.out (by omega)).mono ?_
  rintro r w4 ⟨rfl, h4, k4⟩
  have H4 := Lib.hid h4
  have K4 := Lib.hid (K3.out.trans k4)
  clear h4 k4 H3 K3
  go_wp2_with fail
  go_ret3
  exact ⟨rfl, by simpa using H4.out, K4.out⟩
end Go.Proofs.YtcblibefmclloaaDoor

set_option linter.unusedVariables false
set_option linter.unusedSimpArgs false
namespace Go.Proofs.YtcblibefmclloaaDoor
open Go.RowKit
/-- A run begun at a place, so far. -/
structure RunTo (xs : List Int) (i m : Nat) : Prop where
  one : 1 ≤ m
  le : i + m ≤ xs.length
  eq : ∀ j, j < m → nth xs (i + j) = nth xs i
/-- A run at a place, whole. -/
structure RunOk (xs : List Int) (i m : Nat) : Prop extends RunTo xs i m where
  stop : i + m < xs.length → nth xs (i + m) ≠ nth xs i
theorem RunTo.step {xs : List Int} {i m : Nat} (h : RunTo xs i m) (hl : i + m < xs.length) (hv : nth xs (i + m) = nth xs i) : RunTo xs i (m + 1) :=
  ⟨by omega, by omega, fun j hj => by
    by_cases e : j = m
    · subst e; exact hv
    · exact h.eq j (by omega)⟩
theorem RunOk.pack {xs : List Int} {i m : Nat} (h : RunOk xs i m) : packF (xs.drop i) = rsteps (nth xs i) m ++ packF (xs.drop (i + m)) :=
  packF_at xs i m (by have := h.one; have := h.le; omega) h.le h.eq h.stop
theorem own_as {w : World} {base n : Nat} {e : TypeId} {v : Value} {xs ys : List (Int × Int)} (h : w.ownsRow base e 2 v n (pcells xs)) (he : xs = ys) : w.ownsRow base e 2 v ys.length (pcells ys) := by
  subst he
  have := h.1
  rw [pcells_length] at this
  obtain rfl : n = xs.length := by omega
  exact h
theorem RunOk.zstep {xs : List Int} {k m : Nat} {out es : List (Int × Int)} {r : Nat} (h : RunOk xs k m) (hz : nth xs k = 0) (hp : out ++ packF (xs.drop k) = packF xs) (ho : out.length ≤ k) (h1 : reps 11 18 138 m = es) (h2 : left 11 138 m = r) :
    (out ++ (es ++ (reps 3 17 10 r ++ List.replicate (left 3 10 r) (0, 0)))) ++ packF (xs.drop (k + m)) = packF xs ∧ (out ++ (es ++ (reps 3 17 10 r ++ List.replicate (left 3 10 r) (0, 0)))).length ≤ k + m := by
  have e : es ++ (reps 3 17 10 r ++ List.replicate (left 3 10 r) (0, 0)) = rsteps (nth xs k) m := by
    rw [rsteps, if_pos hz, zsteps, h1, h2]
  rw [e]
  have := rsteps_len (nth xs k) m h.one
  refine ⟨?_, by rw [List.length_append]; omega⟩
  rw [← hp, h.pack, List.append_assoc]
theorem RunOk.vstep {xs : List Int} {k m : Nat} {out es : List (Int × Int)} {r : Nat} (h : RunOk xs k m) (hz : ¬ nth xs k = 0) (hp : out ++ packF (xs.drop k) = packF xs) (ho : out.length ≤ k) (h1 : reps 3 16 6 (m - 1) = es) (h2 : left 3 6 (m - 1) = r) :
    (out ++ ((nth xs k, 0) :: (es ++ List.replicate r (nth xs k, 0)))) ++ packF (xs.drop (k + m)) = packF xs ∧ (out ++ ((nth xs k, 0) :: (es ++ List.replicate r (nth xs k, 0)))).length ≤ k + m := by
  have e : (nth xs k, 0) :: (es ++ List.replicate r (nth xs k, 0)) = rsteps (nth xs k) m := by
    rw [rsteps, if_neg hz, vsteps, h1, h2]
  rw [e]
  have := rsteps_len (nth xs k) m h.one
  refine ⟨?_, by rw [List.length_append]; omega⟩
  rw [← hp, h.pack, List.append_assoc]
/-- What packing answers. -/
def Packed (w : World) (xs : List Int) (e : Ending) (w' : World) : Prop :=
  (xs.length ≤ 316 ∧ anyBad xs = false ∧ ∃ v, e = .returned (.tuple #[v, .int .i64 0]) ∧ w'.ownsRow w.heap.size 31 2 v (packF xs).length (pcells (packF xs)) ∧ Below w.heap.size w w') ∨
  ((316 < xs.length ∨ anyBad xs = true) ∧ e = .returned (.tuple #[.slice none 0 0, .int .i64 1]) ∧ Below w.heap.size w w')
theorem Dr.below {w w' : World} (h : Dr w w') : Below w.heap.size w w' := (h.keeps (S := [])).below
set_option maxRecDepth 100000 in
set_option maxHeartbeats 1000000 in
theorem refPack_calls (w : World) (A : Option Addr) (n c : Nat) (xs : List Int) (hx : RI .i64 w A n xs) (hn : n ≤ 1048576) :
    Calls Tryd.prog 18 #[.slice A n c] w (Packed w xs) := by
  have HX := Lib.hid hx
  have HL := Lib.hid hx.len
  clear hx
  by_cases hbig : 316 < n
  · have e1 : decide (316 < n) = true := by simpa using hbig
    go_enter Tryd.func18, Tryd.ntmps18
    go_wp2_with fail
    go_ret2
    exact Or.inr ⟨Or.inl (by have := HL.out; omega), rfl, Below.refl _ _⟩
  · have e1 : decide (316 < n) = false := by simpa using hbig
    go_enter Tryd.func18, Tryd.ntmps18
    go_wp2_with fail
    refine (refLengths_calls w _ _ _ xs HX.out (by omega)).mono ?_
    rintro e w' ⟨rfl, q, rfl⟩
    cases hb : anyBad xs with
    | true =>
      have HB := Lib.hid hb
      clear hb
      go_wp2_with fail
      go_ret2
      exact Or.inr ⟨Or.inr HB.out, rfl, Dr.below ⟨q, rfl⟩⟩
    | false =>
      have HB := Lib.hid hb
      clear hb e1
      go_wp2_with fail
      go_loopw [4, 5] (fun v i wr => ∃ (k : Nat) (out : List (Int × Int)), k ≤ n ∧ i = .int .i64 k ∧ Hid (wr.ownsRow w.heap.size 31 2 v out.length (pcells out)) ∧ Hid (out ++ packF (xs.drop k) = packF xs) ∧ out.length ≤ k ∧ Hid (Below w.heap.size w wr)) (fun _ i _ => n - (intOf i).toNat)
      case atStart => exact ⟨0, [], by omega, rfl, Lib.hid (World.ownsRow_nil _ _ _ _), Lib.hid (by simp), by simp, Lib.hid (Dr.below ⟨q, rfl⟩)⟩
      case round =>
        obtain ⟨k, out, hk, rfl, HO, HP, hol, HW⟩ := hrel
        by_cases hlt : k < n
        · go_upto_block 2 with (fail)
          go_cut [6] (fun v6 wc => ∃ m : Nat, m + k ≤ n ∧ 1 ≤ m ∧ v6 = .int .i64 m ∧ Hid (RunOk xs k m) ∧ Hid (Dr wr wc))
          case first =>
            go_wp2_with fail
            go_loopw [6] (fun v6 wi => ∃ m : Nat, m + k ≤ n ∧ 1 ≤ m ∧ v6 = .int .i64 m ∧ Hid (RunTo xs k m) ∧ Hid (Dr wr wi)) (fun v6 _ => n - (intOf v6).toNat)
            case atStart => exact ⟨1, by omega, by omega, rfl, Lib.hid ⟨by omega, by have := HL.out; omega, fun j hj => by rw [show j = 0 by omega]; rfl⟩, ⟨0, rfl⟩⟩
            case round =>
              obtain ⟨m, hm, hm1, rfl, HR, HD⟩ := hrel
              obtain ⟨q1, rfl⟩ := HD.out
              clear HD
              obtain ⟨b, o, rfl, hc1⟩ := HX.out.at hlt
              have hc1' := (Keeps.of_below (S := []) HW.out).cell (by simp) hc1
              clear hc1
              by_cases h1 : k + m < n
              · obtain ⟨b', o', he, hc2⟩ := HX.out.at h1
                injection he with he; injection he with he1 he2 he3; subst he1; subst he2; clear he3
                have hc2' := (Keeps.of_below (S := []) HW.out).cell (by simp) hc2
                clear hc2
                have e1 : IntKind.i64.wrap ((k : Int) + (m : Int)) = (k : Int) + (m : Int) := IntWalk.i64_in _ (by omega)
                have e2 : (0 : Int) ≤ (k : Int) + (m : Int) := by omega
                have e3 : ((k : Int) + (m : Int)).toNat = k + m := by omega
                have e4 : decide ((k : Int) + (m : Int) < (n : Int)) = true := by simp; omega
                have E1 := Lib.hid e1
                by_cases hv : nth xs (k + m) = nth xs k
                · have e5 : (nth xs (k + m) == nth xs k) = true := by simpa using hv
                  have HV := Lib.hid hv
                  clear hv
                  go_wp2_with fail
                  go_quiet (fail)
                  clear e1 e2 e3 e4 e5
                  go_wp2_with fail
                  go_roundw
                  case rel => exact ⟨m + 1, by omega, by omega, by go_num, Lib.hid (HR.out.step (by have := HL.out; omega) HV.out), Lib.hid (by first | exact ⟨_, rfl⟩ | exact Dr.step ⟨_, rfl⟩ _)⟩
                  case measure => simp [intOf]; omega
                · have e5 : (nth xs (k + m) == nth xs k) = false := by simpa using hv
                  have HV := Lib.hid hv
                  clear hv
                  go_wp2_with fail
                  go_quiet (fail)
                  clear e1 e2 e3 e4 e5
                  go_wp2_with fail
                  go_meet
                  case rel => exact ⟨m, by omega, by omega, rfl, Lib.hid { toRunTo := HR.out, stop := fun _ => HV.out }, Lib.hid (by first | exact ⟨_, rfl⟩ | exact Dr.step ⟨_, rfl⟩ _)⟩
              · have e1 : IntKind.i64.wrap ((k : Int) + (m : Int)) = (k : Int) + (m : Int) := IntWalk.i64_in _ (by omega)
                have e4 : decide ((k : Int) + (m : Int) < (n : Int)) = false := by simp; omega
                go_wp2_with fail
                go_quiet (fail)
                clear e1 e4
                go_wp2_with fail
                go_meet
                case rel => exact ⟨m, by omega, by omega, rfl, Lib.hid { toRunTo := HR.out, stop := fun h => absurd h (by have := HL.out; omega) }, Lib.hid (by first | exact ⟨_, rfl⟩ | exact Dr.step ⟨_, rfl⟩ _)⟩
          case rest =>
            obtain ⟨m, hm, hm1, rfl, HR, HD⟩ := hcut
            have HO1 : Hid (wc.ownsRow w.heap.size 31 2 u4 out.length (pcells out)) := by obtain ⟨q1, rfl⟩ := HD.out; exact HO.out
            have HW1 : Hid (Below w.heap.size w wc) := by obtain ⟨q1, rfl⟩ := HD.out; exact (HW.out.trans ((Dr.below ⟨q1, rfl⟩).mono HW.out.size))
            clear HD HO HW
            obtain ⟨b, o, rfl, hc1⟩ := HX.out.at hlt
            have hc1' := (Keeps.of_below (S := []) HW1.out).cell (by simp) hc1
            clear hc1
            by_cases hz : nth xs k = 0
            · have e5 : (nth xs k == 0) = true := by simpa using hz
              have HZ := Lib.hid hz
              clear hz
              go_upto_block 4 with (fail)
              clear e5
              go_cut [4, 6] (fun v4 v6 wc => ∃ (r : Nat) (es : List (Int × Int)), r < 11 ∧ v6 = .int .i64 r ∧ Hid (reps 11 18 138 m = es) ∧ Hid (left 11 138 m = r) ∧ out.length + es.length + r ≤ k + m ∧ Hid (wc.ownsRow w.heap.size 31 2 v4 (out.length + es.length) (pcells (out ++ es))) ∧ Hid (Below w.heap.size w wc))
              case first =>
                clear hc1'
                go_wp2_with fail
                go_loopw [4, 6] (fun v4 v6 wi => ∃ (r : Nat) (es : List (Int × Int)), v6 = .int .i64 r ∧ Hid (reps 11 18 138 m = es ++ reps 11 18 138 r) ∧ Hid (left 11 138 m = left 11 138 r) ∧ out.length + es.length + r ≤ k + m ∧ Hid (wi.ownsRow w.heap.size 31 2 v4 (out.length + es.length) (pcells (out ++ es))) ∧ Hid (Below w.heap.size w wi)) (fun _ v6 _ => (intOf v6).toNat)
                case atStart => exact ⟨m, [], rfl, Lib.hid rfl, Lib.hid rfl, by simp; omega, Lib.hid (by simpa using HO1.out), HW1⟩
                case round =>
                  clear HO1 HW1
                  obtain ⟨r, es, rfl, HA, HL2, hlen, HO, HW⟩ := hrel
                  by_cases h11 : 11 ≤ r
                  · have hsz := HW.out.size
                    rcases (by omega : ¬ ((138 : Int) < (r : Int)) ∨ (138 : Int) < (r : Int)) with h138 | h138
                    · go_wp2_with (at_builtin; refine app_step rfl (.tmp 56) (.tmp 60) rfl w.heap.size _ _ _ rfl (HO.out.alloc _) wr.heap.size 18 ((r : Int) - 11) rfl (by simp) (by simp) (by omega) (by simp; omega) ?_)
                      intro v' w1 h1 hg g' c' hv
                      subst hv
                      have HO1 := Lib.hid h1
                      have HB1 := Lib.hid ((HW.out.alloc (by omega) _).grown hg (by simp; omega) (fun k hk => (HO.out.lt k hk).1))
                      clear HO HW h1 hg
                      go_wp2_with fail
                      go_roundw
                      case rel =>
                        have hs := reps_step (by omega) (by omega) h11 HA.out HL2.out (q := (r : Int) - 11) (r' := 0) (by omega) (by omega)
                        exact ⟨0, es ++ [(18, (r : Int) - 11)], rfl, Lib.hid hs.1, Lib.hid hs.2, by simp; omega, Lib.hid (by simpa [Nat.add_assoc] using HO1.out), HB1⟩
                      case measure => simp [intOf]; omega
                    · go_wp2_with (at_builtin; refine app_step rfl (.tmp 56) (.tmp 60) rfl w.heap.size _ _ _ rfl (HO.out.alloc _) wr.heap.size 18 127 rfl (by simp) (by simp) (by omega) (by simp; omega) ?_)
                      intro v' w1 h1 hg g' c' hv
                      subst hv
                      have HO1 := Lib.hid h1
                      have HB1 := Lib.hid ((HW.out.alloc (by omega) _).grown hg (by simp; omega) (fun k hk => (HO.out.lt k hk).1))
                      clear HO HW h1 hg
                      go_wp2_with fail
                      go_roundw
                      case rel =>
                        have hs := reps_step (by omega) (by omega) h11 HA.out HL2.out (q := 127) (r' := r - 138) (by omega) (by omega)
                        exact ⟨r - 138, es ++ [(18, 127)], by go_num, Lib.hid hs.1, Lib.hid hs.2, by simp; omega, Lib.hid (by simpa [Nat.add_assoc] using HO1.out), HB1⟩
                      case measure => simp [intOf]; omega
                  · go_wp2_with fail
                    go_meet
                    case rel =>
                      have hs := reps_stop (by omega) HA.out HL2.out
                      exact ⟨r, es, by omega, rfl, Lib.hid hs.1, Lib.hid hs.2, hlen, HO, HW⟩
              case rest =>
                clear HO1 HW1
                obtain ⟨r, es, hr11, rfl, HA, HL2, hlen, HO, HW⟩ := hcut
                have hsz := HW.out.size
                by_cases h3 : 3 ≤ r
                · go_wp2_with (at_builtin; refine app_step rfl (.tmp 67) (.tmp 71) rfl w.heap.size _ _ _ rfl (HO.out.alloc _) wc.heap.size 17 ((r : Int) - 3) rfl (by simp) (by simp) (by omega) (by simp; omega) ?_)
                  intro v' w1 h1 hg g' c' hv
                  subst hv
                  have HO1 := Lib.hid h1
                  have HB1 := Lib.hid ((HW.out.alloc (by omega) _).grown hg (by simp; omega) (fun k hk => (HO.out.lt k hk).1))
                  clear HO HW h1 hg
                  go_wp2_with fail
                  refine (times_calls _ _ _ _ _ _ _ HO1.out HB1.out.size (by omega) (by omega)).mono ?_
                  rintro e w' ⟨v2, rfl, ho2, hb2⟩
                  have HO2 := Lib.hid ho2
                  have HB2 := Lib.hid hb2
                  clear ho2 hb2
                  go_wp2_with fail
                  go_roundw
                  case rel =>
                    have hs := HR.out.zstep HZ.out HP.out hol HA.out HL2.out
                    refine ⟨k + m, _, by omega, by go_num, Lib.hid (own_as HO2.out ?_), Lib.hid hs.1, hs.2, Lib.hid (HB1.out.trans HB2.out)⟩
                    rw [(zlast_ge h3 hr11).1, (zlast_ge h3 hr11).2]
                    simp
                  case measure => simp [intOf]; omega
                · go_wp2_with fail
                  refine (times_calls _ _ _ _ _ _ _ HO.out HW.out.size (by omega) (by omega)).mono ?_
                  rintro e w' ⟨v2, rfl, ho2, hb2⟩
                  have HO2 := Lib.hid ho2
                  have HB2 := Lib.hid hb2
                  clear ho2 hb2
                  go_wp2_with fail
                  go_roundw
                  case rel =>
                    have hs := HR.out.zstep HZ.out HP.out hol HA.out HL2.out
                    refine ⟨k + m, _, by omega, by go_num, Lib.hid (own_as HO2.out ?_), Lib.hid hs.1, hs.2, Lib.hid (HW.out.trans HB2.out)⟩
                    rw [(zlast_lt (by omega)).1, (zlast_lt (by omega)).2]
                    simp
                  case measure => simp [intOf]; omega
            · have e5 : (nth xs k == 0) = false := by simpa using hz
              have HZ := Lib.hid hz
              clear hz
              have hsz := HW1.out.size
              go_wp2_with (at_builtin; refine app_step rfl (.tmp 76) (.tmp 79) rfl w.heap.size _ _ _ rfl (HO1.out.alloc _) wc.heap.size (nth xs k) 0 rfl (by simp) (by simp) (by omega) (by simp; omega) ?_)
              intro v' w1 h1 hg g' c' hv
              subst hv
              have HO2 := Lib.hid h1
              have HB2 := Lib.hid ((HW1.out.alloc (by omega) _).grown hg (by simp; omega) (fun k hk => (HO1.out.lt k hk).1))
              clear HO1 HW1 h1 hg
              go_upto_block 6 with (fail)
              clear e5 hc1'
              go_cut [4, 6] (fun v4 v6 wc => ∃ (r : Nat) (es : List (Int × Int)), v6 = .int .i64 r ∧ Hid (reps 3 16 6 (m - 1) = es) ∧ Hid (left 3 6 (m - 1) = r) ∧ out.length + es.length + r + 1 ≤ k + m ∧ Hid (wc.ownsRow w.heap.size 31 2 v4 (out.length + 1 + es.length) (pcells (out ++ ((nth xs k, 0) :: es)))) ∧ Hid (Below w.heap.size w wc))
              case first =>
                go_wp2_with fail
                go_loopw [4, 6] (fun v4 v6 wi => ∃ (r : Nat) (es : List (Int × Int)), v6 = .int .i64 r ∧ Hid (reps 3 16 6 (m - 1) = es ++ reps 3 16 6 r) ∧ Hid (left 3 6 (m - 1) = left 3 6 r) ∧ out.length + es.length + r + 1 ≤ k + m ∧ Hid (wi.ownsRow w.heap.size 31 2 v4 (out.length + 1 + es.length) (pcells (out ++ ((nth xs k, 0) :: es)))) ∧ Hid (Below w.heap.size w wi)) (fun _ v6 _ => (intOf v6).toNat)
                case atStart => exact ⟨m - 1, [], by go_num, Lib.hid rfl, Lib.hid rfl, by simp; omega, Lib.hid (by simpa using HO2.out), HB2⟩
                case round =>
                  clear HO2 HB2
                  obtain ⟨r, es, rfl, HA, HL2, hlen, HO, HW⟩ := hrel
                  by_cases h3 : 3 ≤ r
                  · have hsz := HW.out.size
                    rcases (by omega : ¬ ((6 : Int) < (r : Int)) ∨ (6 : Int) < (r : Int)) with h6 | h6
                    · go_wp2_with (at_builtin; refine app_step rfl (.tmp 87) (.tmp 91) rfl w.heap.size _ _ _ rfl (HO.out.alloc _) wr.heap.size 16 ((r : Int) - 3) rfl (by simp) (by simp) (by omega) (by simp; omega) ?_)
                      intro v' w1 h1 hg g' c' hv
                      subst hv
                      have HO1 := Lib.hid h1
                      have HB1 := Lib.hid ((HW.out.alloc (by omega) _).grown hg (by simp; omega) (fun k hk => (HO.out.lt k hk).1))
                      clear HO HW h1 hg
                      go_wp2_with fail
                      go_roundw
                      case rel =>
                        have hs := reps_step (by omega) (by omega) h3 HA.out HL2.out (q := (r : Int) - 3) (r' := 0) (by omega) (by omega)
                        exact ⟨0, es ++ [(16, (r : Int) - 3)], rfl, Lib.hid hs.1, Lib.hid hs.2, by simp; omega, Lib.hid (by simpa [Nat.add_assoc] using HO1.out), HB1⟩
                      case measure => simp [intOf]; omega
                    · go_wp2_with (at_builtin; refine app_step rfl (.tmp 87) (.tmp 91) rfl w.heap.size _ _ _ rfl (HO.out.alloc _) wr.heap.size 16 3 rfl (by simp) (by simp) (by omega) (by simp; omega) ?_)
                      intro v' w1 h1 hg g' c' hv
                      subst hv
                      have HO1 := Lib.hid h1
                      have HB1 := Lib.hid ((HW.out.alloc (by omega) _).grown hg (by simp; omega) (fun k hk => (HO.out.lt k hk).1))
                      clear HO HW h1 hg
                      go_wp2_with fail
                      go_roundw
                      case rel =>
                        have hs := reps_step (by omega) (by omega) h3 HA.out HL2.out (q := 3) (r' := r - 6) (by omega) (by omega)
                        exact ⟨r - 6, es ++ [(16, 3)], by go_num, Lib.hid hs.1, Lib.hid hs.2, by simp; omega, Lib.hid (by simpa [Nat.add_assoc] using HO1.out), HB1⟩
                      case measure => simp [intOf]; omega
                  · go_wp2_with fail
                    go_meet
                    case rel =>
                      have hs := reps_stop (by omega) HA.out HL2.out
                      exact ⟨r, es, rfl, Lib.hid hs.1, Lib.hid hs.2, hlen, HO, HW⟩
              case rest =>
                clear HO2 HB2
                obtain ⟨r, es, rfl, HA, HL2, hlen, HO, HW⟩ := hcut
                go_wp2_with fail
                refine (times_calls _ _ _ _ _ _ _ HO.out HW.out.size (by omega) (by omega)).mono ?_
                rintro e w' ⟨v2, rfl, ho2, hb2⟩
                have HO2 := Lib.hid ho2
                have HB2 := Lib.hid hb2
                clear ho2 hb2
                go_wp2_with fail
                go_roundw
                case rel =>
                  have hs := HR.out.vstep HZ.out HP.out hol HA.out HL2.out
                  refine ⟨k + m, _, by omega, by go_num, Lib.hid (own_as HO2.out ?_), Lib.hid hs.1, hs.2, Lib.hid (HW.out.trans HB2.out)⟩
                  simp
                case measure => simp [intOf]; omega
        · go_wp2_with fail
          obtain rfl : k = n := by omega
          go_ret2
          have e1 : xs.drop k = [] := List.drop_eq_nil_of_le (by have := HL.out; omega)
          have e2 := HP.out
          rw [e1, packF_nil, List.append_nil] at e2
          subst e2
          exact Or.inl ⟨by have := HL.out; omega, HB.out, _, rfl, HO.out, HW.out⟩
end Go.Proofs.YtcblibefmclloaaDoor
