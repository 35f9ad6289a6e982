import Derived.Test.YtghjlpechjggjaaGreatDoorZshH
import Derived.Test.YtghjlpechjggjaaGreatDoorZshB
import Derived.Test.YtghjlpechjggjaaGreatDoorZshG
import Derived.Deep.RegionWith
import Derived.Test.YtghjlpechjggjaaGreatDoorZshA
import Derived.BigQuiet
import Derived.Test.YtghjlpechjggjaaGreatDoorZshC
import Derived.Outline
import Derived.StillTailTactics
import Derived.Deep.LoopGhost
import Derived.WalkMore
set_option linter.unusedVariables false
set_option linter.unusedSimpArgs false
set_option linter.constructorNameAsVariable false
set_option maxRecDepth 100000
set_option maxHeartbeats 60000000
namespace Go.Proofs.YtghjlpechjggjaaGreatDoor
open Go.RowKit
open Go.RowKit
def TookP (w : World) (rb eb g : Nat) (A : Option Addr) (c q n : Nat) (e : Int) (bs : List Int) (r : Ending) (w' : World) : Prop :=
 ∃ (v : Int) (q' : Nat) (e' : Int), r = .returned (.int .i64 v) ∧ Hd w' rb eb g A c bs q' e' ∧ Keeps [g, eb] w w' ∧ 0 ≤ v ∧ v < 256 ∧ q ≤ q' ∧
  ((e = 0 ∧ q + n ≤ 8 * bs.length ∧ e' = 0 ∧ v = numB bs q n ∧ q' = q + n) ∨ ((e ≠ 0 ∨ 8 * bs.length < q + n) ∧ e' = 10))
theorem read1_any (w : World) (rb eb g : Nat) (A : Option Addr) (c q n : Nat) (e : Int) (bs : List Int) (h : Hd w rb eb g A c bs q e) (he : e = 0 ∨ e = 10) (hn : n ≤ 8) :
  Calls Tryz.prog 183 #[.int .i64 n, .pointer (some ⟨rb, 0, none⟩), .pointer (some ⟨eb, 0, none⟩)] w (TookP w rb eb g A c q n e bs) := by
 obtain ⟨n0, n1⟩ := numB_lt bs q n
 have n2 := pow_le8 n hn
 by_cases hf : q + n ≤ 8 * bs.length
 ·refine (read1_ok w rb eb g A c bs q n e h (by omega) hf).mono ?_
  rintro r w' ⟨rfl, h1, h2⟩
  refine ⟨_, _, _, rfl, h1, h2, n0, by omega, by omega, ?_⟩
  rcases he with rfl | rfl
  ·exact .inl ⟨rfl, hf, rfl, rfl, rfl⟩
  ·exact .inr ⟨.inl (by decide), rfl⟩
 ·refine (read1_end w rb eb g A c bs q n e h (by omega) (by omega)).mono ?_
  rintro r w' ⟨rfl, h1, h2⟩
  refine ⟨_, _, _, rfl, h1, h2, by omega, by omega, Nat.le_refl _, .inr ⟨.inr (by omega), ?_⟩⟩
  rcases he with rfl | rfl <;> rfl
theorem Rdr.below {w w' : World} {B g : Nat} {A : Option Addr} {c : Nat} {bs : List Int} {p : Nat} (h : Rdr w g A c bs p) (hb : Below B w w') (hg : g < B) (ha : ∀ a, A = some a → a.block < B) : Rdr w' g A c bs p :=
 ⟨(hb.block g hg).trans h.blk, h.ri.below hb ha, h.off, h.le, h.byte, h.size⟩
theorem codes_moreP {T q q' i p o : Nat} {E E' v : Int} {bs cs : List Int}
  (hcL : cL bs (p + 14) (i + 1) = (cL bs (p + 14) i).set o (numB bs (p + 14 + 3 * i) 3))
  (hI : (p + 14 + 3 * i ≤ T ∧ E = 0 ∧ q = p + 14 + 3 * i ∧ cs = cL bs (p + 14) i) ∨ (T < p + 14 + 3 * i ∧ E = 10))
  (hc : (E = 0 ∧ q + 3 ≤ T ∧ E' = 0 ∧ v = numB bs q 3 ∧ q' = q + 3) ∨ ((E ≠ 0 ∨ T < q + 3) ∧ E' = 10)) :
  (E' = 0 ∨ E' = 10) ∧ ((p + 14 + 3 * (i + 1) ≤ T ∧ E' = 0 ∧ q' = p + 14 + 3 * (i + 1) ∧ cs.set o v = cL bs (p + 14) (i + 1)) ∨ (T < p + 14 + 3 * (i + 1) ∧ E' = 10)) := by
 refine ⟨by omega, ?_⟩
 rcases hI with ⟨a1, rfl, rfl, rfl⟩ | ⟨a1, rfl⟩
 ·rcases hc with ⟨_, b1, rfl, rfl, rfl⟩ | ⟨b1, rfl⟩
  ·exact .inl ⟨by omega, rfl, by omega, hcL.symm⟩
  ·exact .inr ⟨by omega, rfl⟩
 ·rcases hc with ⟨b0, _⟩ | ⟨_, rfl⟩
  ·exact absurd b0 (by decide)
  ·exact .inr ⟨by omega, rfl⟩
theorem keeps_ge {g eb : Nat} {w w1 w2 : World} (h : Keeps [g] w w1) (hk : Keeps [g, eb] w1 w2) (he : w.heap.size ≤ eb) : Keeps [g] w w2 := h.then hk (fun x hx => by
 rcases List.mem_cons.1 hx with rfl | hx
 ·exact Or.inl (by simp)
 ·rw [List.mem_singleton.1 hx]; exact Or.inr he)
def ReadP (w : World) (g : Nat) (A : Option Addr) (c : Nat) (bs : List Int) (p : Nat) (h : List Int × List Int × Nat × Int) (e : Ending) (w' : World) : Prop :=
 ∃ (v1 v2 : Value) (q : Nat), e = .returned (.tuple #[v1, v2, .int .i64 h.2.2.2]) ∧ w'.ownsRow w.heap.size 3 1 v1 h.1.length (ints .i64 h.1) ∧ w'.ownsRow w.heap.size 3 1 v2 h.2.1.length (ints .i64 h.2.1) ∧
  Rdr w' g A c bs q ∧ p ≤ q ∧ (h.2.2.2 = 0 → q = p + h.2.2.1) ∧ Keeps [g] w w'
theorem readP_err {w w' : World} {g : Nat} {A : Option Addr} {c : Nat} {bs : List Int} {p q : Nat} {h : List Int × List Int × Nat × Int} {e : Int} (hh : h = ([], [], 0, e)) (he : e ≠ 0) (hr : Rdr w' g A c bs q) (hp : p ≤ q) (hk : Keeps [g] w w') :
  ReadP w g A c bs p h (.returned (.tuple #[.slice none 0 0, .slice none 0 0, .int .i64 e])) w' := by
 subst hh
 exact ⟨_, _, q, rfl, World.ownsRow_nil _ _ _ _, World.ownsRow_nil _ _ _ _, hr, hp, fun h => absurd h he, hk⟩
theorem read_calls (w : World) (g : Nat) (A : Option Addr) (c : Nat) (bs : List Int) (p : Nat) (hT : Tabs w) (hg : gtop ≤ g) (hr : Rdr w g A c bs p) (ha : ∀ a, A = some a → a.block < w.heap.size) :
  Calls Tryz.prog 179 #[.pointer (some ⟨g, 0, none⟩)] w (ReadP w g A c bs p (headF bs p)) := by
 have hglt := hr.lt
 have hple := hr.le
 have hsz := hr.size
 obtain ⟨rb, hrb⟩ : ∃ x, x = w.heap.size := ⟨_, rfl⟩
 obtain ⟨eb, heb⟩ : ∃ x, x = w.heap.size + 1 := ⟨_, rfl⟩
 obtain ⟨w0, hw0⟩ : ∃ w0, w0 = (w.alloc (.cells #[.pointer (some ⟨g, 0, none⟩)] 176)).alloc (.cells #[.int .i64 0] 27) := ⟨_, rfl⟩
 have k1 : Keeps [] w w0 := by rw [hw0]; exact ((Keeps.refl [] w).alloc _).alloc _
 have H0 : Hid (Hd w0 rb eb g A c bs p 0) := by
  rw [hrb, heb, hw0]
  exact Lib.hid ⟨by rw [← hw0]; exact hr.dr k1, ⟨by simp, by simp⟩, ⟨by simp, by simp⟩, by omega, by omega, ha⟩
 have K0 := Lib.hid (k1.mono (by simp) : Keeps [g] w w0)
 have HT := Lib.hid hT
 have HRB : Hid (w.heap.size ≤ rb) := Lib.hid (by omega)
 have HEB : Hid (w.heap.size ≤ eb) := Lib.hid (by omega)
 have HA := Lib.hid ha
 have hre : rb < eb := by omega
 have hgr : g < rb := by omega
 clear hr ha hT k1
 go_enter Tryz.func179, Tryz.ntmps179
 go_wp2_with fail
 change Calls _ _ #[.int .i64 5, .pointer (some ⟨w.heap.size, 0, none⟩), .pointer (some ⟨w.heap.size + 1, 0, none⟩)] ((w.alloc (.cells #[.pointer (some ⟨g, 0, none⟩)] 176)).alloc (.cells #[.int .i64 0] 27)) _
 rw [← hw0, ← heb, ← hrb]
 clear hw0 hrb heb
 refine (read1_any _ _ _ _ _ _ p 5 0 bs H0.out (.inl rfl) (by omega)).mono ?_
 rintro _ w1 ⟨v1, q1, E1, rfl, hh1, hk1, v10, v11, hq1, hc1⟩
 have H1 := Lib.hid hh1
 have K1 := Lib.hid (K0.out.then hk1 (fun x hx => by
  rcases List.mem_cons.1 hx with rfl | hx
  ·exact Or.inl (by simp)
  ·rw [List.mem_singleton.1 hx]; exact Or.inr HEB.out))
 have hE1 : E1 = 0 ∨ E1 = 10 := by omega
 clear hh1 hk1 H0 K0
 go_wp2_with fail
 refine (read1_any _ _ _ _ _ _ q1 5 E1 bs H1.out hE1 (by omega)).mono ?_
 rintro _ w2 ⟨v2, q2, E2, rfl, hh1, hk1, v20, v21, hq2, hc2⟩
 have H2 := Lib.hid hh1
 have K2 := Lib.hid (K1.out.then hk1 (fun x hx => by
  rcases List.mem_cons.1 hx with rfl | hx
  ·exact Or.inl (by simp)
  ·rw [List.mem_singleton.1 hx]; exact Or.inr HEB.out))
 have hE2 : E2 = 0 ∨ E2 = 10 := by omega
 clear hh1 hk1 H1 K1
 go_wp2_with fail
 refine (read1_any _ _ _ _ _ _ q2 4 E2 bs H2.out hE2 (by omega)).mono ?_
 rintro _ w3 ⟨v3, q3, E3, rfl, hh1, hk1, v30, v31, hq3, hc3⟩
 have H3 := Lib.hid hh1
 have K3 := Lib.hid (K2.out.then hk1 (fun x hx => by
  rcases List.mem_cons.1 hx with rfl | hx
  ·exact Or.inl (by simp)
  ·rw [List.mem_singleton.1 hx]; exact Or.inr HEB.out))
 have hpq : p ≤ q3 := by omega
 have HC : Hid ((p + 14 ≤ 8 * bs.length ∧ E3 = 0 ∧ v1 = numB bs p 5 ∧ v2 = numB bs (p + 5) 5 ∧ v3 = numB bs (p + 10) 4 ∧ q3 = p + 14) ∨ (8 * bs.length < p + 14 ∧ E3 = 10)) := by
  rcases hc1 with ⟨_, a1, rfl, rfl, rfl⟩ | ⟨a1, rfl⟩
  ·rcases hc2 with ⟨_, a2, rfl, rfl, rfl⟩ | ⟨a2, rfl⟩
   ·rcases hc3 with ⟨_, a3, rfl, rfl, rfl⟩ | ⟨a3, rfl⟩
    ·exact Lib.hid (.inl ⟨by omega, rfl, rfl, rfl, rfl, rfl⟩)
    ·exact Lib.hid (.inr ⟨by omega, rfl⟩)
   ·exact Lib.hid (.inr ⟨by omega, by omega⟩)
  ·exact Lib.hid (.inr ⟨by omega, by omega⟩)
 clear hh1 hk1 H2 K2 hc1 hc2 hc3 hE1 hE2 hq1 hq2 hq3
 have ce := H3.out.bxe.cell
 have fe := H3.out.bxe.free
 rcases HC.out with ⟨hfit, rfl, hv1, hv2, hv3, rfl⟩ | ⟨hend, rfl⟩
 ·clear HC
  have HV1 := Lib.hid hv1
  have HV2 := Lib.hid hv2
  have HV3 := Lib.hid hv3
  clear hv1 hv2 hv3
  by_cases hb1 : 286 < 257 + v1
  ·have HRES : Hid (headF bs p = ([], [], 0, 40)) := Lib.hid (by unfold headF; rw [if_neg (by omega), if_pos (by left; have := HV1.out; omega)])
   have e1 : decide (286 < 257 + v1) = true := by simpa using hb1
   go_wp2_with fail
   have H4 := H3.out.set 40
   have c4 := H4.bxe.cell
   exact bodyPost_ret (v := .tuple #[.slice none 0 0, .slice none 0 0, .int .i64 40]) (by simp [results, Tryz.results179, go_sem, c4]) rfl (readP_err HRES.out (by first | decide | assumption) H4.rd hpq (K3.out.setCell (p := ⟨eb, 0, none⟩) (Or.inr HEB.out) _))
  have e1 : decide (286 < 257 + v1) = false := by simpa using hb1
  by_cases hb2 : 30 < 1 + v2
  ·have HRES : Hid (headF bs p = ([], [], 0, 40)) := Lib.hid (by unfold headF; rw [if_neg (by omega), if_pos (by right; have := HV2.out; omega)])
   have e2 : decide (30 < 1 + v2) = true := by simpa using hb2
   go_wp2_with fail
   have H4 := H3.out.set 40
   have c4 := H4.bxe.cell
   exact bodyPost_ret (v := .tuple #[.slice none 0 0, .slice none 0 0, .int .i64 40]) (by simp [results, Tryz.results179, go_sem, c4]) rfl (readP_err HRES.out (by first | decide | assumption) H4.rd hpq (K3.out.setCell (p := ⟨eb, 0, none⟩) (Or.inr HEB.out) _))
  have e2 : decide (30 < 1 + v2) = false := by simpa using hb2
  have HNB : Hid (¬ (29 < numB bs p 5 ∨ 29 < numB bs (p + 5) 5)) := Lib.hid (by have := HV1.out; have := HV2.out; omega)
  obtain ⟨mn, hmn⟩ : ∃ mn, mn = manyF bs p := ⟨_, rfl⟩
  have hmn2 : 4 + v3 = (mn : Int) := by rw [hmn]; unfold manyF; rw [← HV3.out]; omega
  have hmn3 : mn ≤ 19 := by rw [hmn]; exact manyF_le bs p
  have HMN := Lib.hid hmn
  obtain ⟨lit, hlit⟩ : ∃ x, x = litF bs p := ⟨_, rfl⟩
  obtain ⟨dist, hdist⟩ : ∃ x, x = distF bs p := ⟨_, rfl⟩
  have hl2 : 257 + v1 = (lit : Int) := by rw [hlit]; unfold litF; rw [← HV1.out]; omega
  have hd2 : 1 + v2 = (dist : Int) := by rw [hdist]; unfold distF; rw [← HV2.out]; omega
  have hlb : lit ≤ 286 := by omega
  have hdb : dist ≤ 30 := by omega
  have hd1 : 1 ≤ dist := by omega
  have HLI := Lib.hid hlit
  have HDI := Lib.hid hdist
  clear hmn hlit hdist HV1 HV2 HV3
  have e1' : decide (286 < (lit : Int)) = false := by simp; omega
  have e2' : decide (30 < (dist : Int)) = false := by simp; omega
  clear e1 e2 v10 v11 v20 v21 hb1 hb2
  have hmk := fun w => make_ints (P := Tryz.prog) w 90 3 .i64 8 Tryz.underlying90 info_int 19 19 rfl (by omega) (by omega)
  obtain ⟨gc, hgc⟩ : ∃ x, x = w3.heap.size := ⟨_, rfl⟩
  obtain ⟨w4, hw4⟩ : ∃ x, x = w3.alloc (.cells (ints .i64 (List.replicate 19 0)).toArray 3) := ⟨_, rfl⟩
  have hk4 : Keeps [] w3 w4 := by rw [hw4]; exact (Keeps.refl [] w3).alloc _
  have HC4 : Hid (Blk w4 gc 3 (ints .i64 (cL bs (p + 14) 0))) := by rw [hw4, hgc]; exact Lib.hid (blk_new w3 _ _)
  have H4 := Lib.hid (H3.out.keeps hk4 (by simp) (by simp) (by simp) (off_nil _))
  have K4 := Lib.hid (K3.out.trans (hk4.mono (by simp)))
  have hgce : eb < gc := by have := H3.out.bxe.lt; omega
  have hgcg : gc ≠ g := by omega
  have HGC : Hid (w.heap.size ≤ gc) := Lib.hid (by have := HEB.out; omega)
  clear hk4 H3 K3
  have hsl := fun w => slice_arr w 1 mn hmn3
  go_upto_region 10 with (fail)
  change Code.wp _ _ _ _ (w3.alloc (.cells (ints .i64 (List.replicate 19 0)).toArray 3))
  rw [← hw4, ← hgc]
  clear hw4 hgc hmk
  go_wp2_with fail
  go_loopw [43] (fun iv wr => ∃ (i q : Nat) (E : Int) (cs : List Int), i ≤ mn ∧ iv = .int .i64 i ∧ cs.length = 19 ∧ p ≤ q ∧ (E = 0 ∨ E = 10) ∧ Hid ((p + 14 + 3 * i ≤ 8 * bs.length ∧ E = 0 ∧ q = p + 14 + 3 * i ∧ cs = cL bs (p + 14) i) ∨ (8 * bs.length < p + 14 + 3 * i ∧ E = 10)) ∧
   Hid (Blk wr gc 3 (ints .i64 cs)) ∧ Hid (Hd wr rb eb g A c bs q E) ∧ Hid (Keeps [g] w wr)) (fun iv _ => mn - (intOf iv).toNat)
  case atStart => exact ⟨0, p + 14, 0, cL bs (p + 14) 0, by omega, rfl, cL_len _ _ _, by omega, .inl rfl, Lib.hid (.inl ⟨by omega, rfl, rfl, rfl⟩), HC4, H4, K4⟩
  case round =>
   clear HC4 H4 K4
   obtain ⟨i, q, E, cs, hi, rfl, hcl, hq, hE, HI, HC, H, HK⟩ := hrel
   by_cases hlt : i < mn
   ·have e0 : decide (i < mn) = true := by simpa using hlt
    obtain ⟨o0, o1⟩ := order_lt i (by omega)
    have ho := (HT.out.keeps HK.out (fun x hx => by rw [List.mem_singleton.1 hx]; exact hg)).ord.cell _ _ rfl i (by omega)
    rw [Nat.zero_add] at ho
    have HCL : Hid (cL bs (p + 14) (i + 1) = (cL bs (p + 14) i).set (nth orderL i).toNat (numB bs (p + 14 + 3 * i) 3)) := Lib.hid rfl
    obtain ⟨o, hoo⟩ : ∃ o : Nat, nth orderL i = o := ⟨(nth orderL i).toNat, by omega⟩
    rw [hoo] at ho o1 HCL
    rw [Int.toNat_natCast] at HCL
    have ho19 : o < 19 := by omega
    clear hoo o0 o1
    go_wp2_with fail
    refine (read1_any _ _ _ _ _ _ q 3 E bs H.out hE (by omega)).mono ?_
    rintro _ w5 ⟨v, q', E', rfl, hh5, hk5, hv0, hv1, hq', hc'⟩
    have hb5 := HC.out.keeps hk5 (by simp; omega)
    have hc5 := hb5.cell o
    rw [show (ints .i64 cs)[o]? = some (.int .i64 (nth cs o)) by rw [ints_getElem?]; simp [nth, List.getD, show o < cs.length by omega]] at hc5
    have hf5 := hb5.frozen o
    obtain ⟨hE', hI'⟩ := codes_moreP HCL.out HI.out hc'
    have HI' := Lib.hid hI'
    have ks : Keeps [gc] w5 (w5.setCell ⟨gc, o, none⟩ (.int .i64 v)) := (Keeps.refl [gc] w5).setCell (p := ⟨gc, o, none⟩) (Or.inl (by simp)) _
    have HC' : Hid (Blk (w5.setCell ⟨gc, o, none⟩ (.int .i64 v)) gc 3 (ints .i64 (cs.set o v))) := Lib.hid (by
     have := hb5.set o (.int .i64 v)
     rwa [show (ints .i64 cs).set o (.int .i64 v) = ints .i64 (cs.set o v) by simp [ints, List.map_set]] at this)
    have H' := Lib.hid (hh5.keeps ks (by simpa using Ne.symm hgcg) (by simp; omega) (by simp; omega) (fun a ha hm => by have := HA.out a ha; rw [List.mem_singleton.1 hm] at this; have := HGC.out; omega))
    have HK' := Lib.hid ((keeps_ge HK.out hk5 HEB.out).setCell (p := ⟨gc, o, none⟩) (Or.inr HGC.out) (.int .i64 v))
    clear hh5 hk5 hb5 hI' hc' ks HC H HK HI HCL ho
    go_wp2_with fail
    go_roundw
    case rel => exact ⟨i + 1, q', E', cs.set o v, by omega, by go_num, by rw [List.length_set]; exact hcl, by omega, hE', HI', HC', H', HK'⟩
    case measure => simp [intOf]; omega
   ·obtain rfl : i = mn := by omega
    have e0 : decide (i < i) = false := by simp
    have ce := H.out.bxe.cell
    have fe := H.out.bxe.free
    rcases HI.out with ⟨hf3, rfl, rfl, rfl⟩ | ⟨hend, rfl⟩
    ·clear HI
     obtain ⟨cd, hcd⟩ : ∃ cd, cd = cL bs (p + 14) i := ⟨_, rfl⟩
     have hcl' : cd.length = 19 := by rw [hcd]; exact cL_len _ _ _
     have HCD : Hid (cd = codesH bs p) := Lib.hid (by rw [hcd]; unfold codesH; rw [← HMN.out])
     rw [← hcd] at HC
     have HCR : Hid (RI .i64 wr (some ⟨gc, 0, none⟩) 19 cd) := Lib.hid (by
      have := Blk.ri (xs := cd) (ys := []) (by rw [List.append_nil]; exact HC.out)
      rwa [hcl'] at this)
     have HF3 : Hid (¬ (8 * bs.length < p + 14 + 3 * manyF bs p)) := Lib.hid (by rw [← HMN.out]; omega)
     have HQ : Hid (p + 14 + 3 * i = p + 14 + 3 * manyF bs p) := Lib.hid (by rw [← HMN.out])
     have HF1 : Hid (¬ 8 * bs.length < p + 14) := Lib.hid (by omega)
     clear hcd HC hcl
     obtain ⟨wc, hwc⟩ : ∃ x : World, x = wr := ⟨_, rfl⟩
     rw [← hwc] at H HK HCR ce fe ⊢
     clear hwc
     go_wp2_with fail
     refine (new_calls wc _ _ _ cd HCR.out (by omega)).mono ?_
     rintro e w6 ⟨hb6, hmade⟩
     have hk6 := Keeps.of_below hb6 (S := [])
     have H6 := Lib.hid (H.out.keeps hk6 (by simp) (by simp) (by simp) (off_nil _))
     have K6 := Lib.hid (HK.out.trans (hk6.mono (by simp)))
     have c6 := H6.out.bxe.cell
     have f6 := H6.out.bxe.free
     have hgd : g < wc.heap.size := H.out.rd.lt
     have hebd : eb < wc.heap.size := H.out.bxe.lt
     clear ce fe H HK HCR hb6 hk6
     by_cases hck : checkF cd = 0
     ·rw [if_pos hck] at hmade
      obtain ⟨gd, rfl, hd, hgd2⟩ := hmade
      have HCK := Lib.hid hck
      obtain ⟨w7, hw7⟩ : ∃ x, x = w6.setCell ⟨eb, 0, none⟩ (.int .i64 0) := ⟨_, rfl⟩
      have hk7 : Keeps [eb] w6 w7 := by rw [hw7]; exact (Keeps.refl [eb] w6).setCell (p := ⟨eb, 0, none⟩) (Or.inl (by simp)) _
      have H7 : Hid (Hd w7 rb eb g A c bs (p + 14 + 3 * i) 0) := by rw [hw7]; exact Lib.hid (H6.out.set 0)
      have K7 : Hid (Keeps [g] w w7) := by rw [hw7]; exact Lib.hid (K6.out.setCell (p := ⟨eb, 0, none⟩) (Or.inr HEB.out) _)
      have D7 := Lib.hid (Dec.apart (gr := g) (show Dec w7 gd cd from DSt.keeps hd hk7 (fun x hx => by rw [List.mem_singleton.1 hx]; exact Or.inl (by omega))) (by omega))
      have T7 := Lib.hid (HT.out.keeps K7.out (fun x hx => by rw [List.mem_singleton.1 hx]; exact hg))
      obtain ⟨b0, hb0⟩ : ∃ x, x = w7.heap.size := ⟨_, rfl⟩
      have c7 := H7.out.bxe.cell
      obtain ⟨N, hN⟩ : ∃ N, N = lit + dist := ⟨_, rfl⟩
      have HRR0 : Hid (readR bs p = stepsF cd bs N N [] (p + 14 + 3 * i)) := Lib.hid (by
       unfold readR
       rw [← HCD.out, HQ.out, hN, HLI.out, HDI.out])
      have hNb : N ≤ 316 := by omega
      have hN3 : IntKind.i64.wrap ((lit : Int) + (dist : Int)) = (N : Int) := by rw [show (lit : Int) + (dist : Int) = (N : Int) by omega]; exact IntWalk.i64_in _ (by omega)
      have hLN : lit < N := by omega
      have HE1 : Hid (∀ e, (readR bs p).2.2 = e → e ≠ 0 → headF bs p = ([], [], 0, e)) := Lib.hid (fun e h he => head_err HF1.out HNB.out HF3.out (by rw [← HCD.out]; exact HCK.out) h he)
      have HE2 : Hid (∀ l q, readR bs p = (l, q, 0) → headF bs p = (l.take lit, l.drop lit, q - p, 0)) := Lib.hid (fun l q h => by rw [HLI.out]; exact head_ok HF1.out HNB.out HF3.out (by rw [← HCD.out]; exact HCK.out) h)
      have hpi : p ≤ p + 14 + 3 * i := by omega
      have hb0w : w.heap.size ≤ b0 := by rw [hb0]; exact K7.out.size
      have hb0g : g < b0 := by omega
      have hb0e : eb < b0 := by rw [hb0]; exact H7.out.bxe.lt
      have HW7 : Hid (Keeps [g] w7 w7) := Lib.hid (Keeps.refl _ _)
      clear hN hck hd hk7 e1' e2' hl2 hd2 hmn2 HF3 HQ HCD HLI HDI HNB HMN H6 K6 HF1
      go_wp2_with fail
      rw [← hw7]
      clear hw7
      go_loopw [13] (fun lv wr => ∃ (f q len cc : Nat) (l : List Int) (AL : Option Addr), lv = .slice AL len cc ∧ len ≤ N ∧ N ≤ len + f ∧ p ≤ q ∧ Hid (readR bs p = stepsF cd bs N f l q) ∧ Hid (wr.ownsRow b0 3 1 (.slice AL len cc) len (ints .i64 l)) ∧
       Hid (Rdr wr g A c bs q) ∧ Hid (Keeps [g] w7 wr)) (fun lv _ => N - sLen lv)
      case atStart => exact ⟨N, p + 14 + 3 * i, 0, 0, [], none, rfl, by omega, by omega, hpi, HRR0, Lib.hid (World.ownsRow_nil _ _ _ _), Lib.hid H7.out.rd, HW7⟩
      case round =>
       clear HRR0 HW7
       obtain ⟨f, q, len, cc, l, AL, rfl, hlen, hf, hpq', HRD, HLO, HR, HK⟩ := hrel
       have HLEN : Hid (l.length = len) := Lib.hid (by have := HLO.out.1; simpa [ints] using this)
       by_cases hlt2 : len < N
       ·have e4 : decide ((len : Int) < (N : Int)) = true := by simp; omega
        obtain ⟨f', rfl⟩ : ∃ f', f = f' + 1 := ⟨f - 1, by omega⟩
        have HUN : Hid (readR bs p = if (decF cd bs q).2.1 ≠ 0 then ([], q, (decF cd bs q).2.1)
          else if 8 * bs.length < q + (decF cd bs q).2.2 + wN (decF cd bs q).1 then ([], q, 10)
          else match addF l (decF cd bs q).1 (numB bs (q + (decF cd bs q).2.2) (wN (decF cd bs q).1)) N with
           | none => ([], q, 41)
           | some l' => stepsF cd bs N f' l' (q + (decF cd bs q).2.2 + wN (decF cd bs q).1)) := Lib.hid (by
         rw [HRD.out, stepsF, if_neg (by rw [HLEN.out]; omega)]
         rfl)
        have hqT := HR.out.le
        clear HRD
        obtain ⟨wl, hwl⟩ : ∃ x : World, x = wr := ⟨_, rfl⟩
        rw [← hwl] at HLO HR HK ⊢
        clear hwl
        have kr := (H7.out.bxr.keeps HK.out (by simp; omega)).cell
        go_wp2_with fail
        refine (nextN_calls wl gd g cd A c bs q (D7.out.keeps HK.out (fun x hx => List.mem_singleton.1 hx)) HR.out (by omega)).mono ?_
        rintro _ w8 ⟨rfl, hr8, hk8⟩
        have HK8 := Lib.hid (HK.out.trans hk8)
        have HLO8 := Lib.hid (own_keeps HLO.out hk8 (fun x hx hm => by have := (HLO.out.lt x hx).1; rw [List.mem_singleton.1 hm] at this; omega))
        have HR8 := Lib.hid hr8
        have HBD := Lib.hid (dec_bd cd bs q hqT)
        clear hr8 hk8 HR HK HLO kr
        generalize decF cd bs q = d at *
        obtain ⟨sy0, er, k⟩ := d
        have HR8' : Hid (Rdr w8 g A c bs (q + k)) := HR8
        simp only [] at HBD HUN
        have b8 := H7.out.bxe.keeps HK8.out (by simp; omega)
        have ce8 := b8.cell
        have fe8 := b8.free
        have hse : ∀ (W : World) (e : Int), Keeps [eb] W (W.setCell ⟨eb, 0, none⟩ (.int .i64 e)) := fun W e => (Keeps.refl [eb] W).setCell (p := ⟨eb, 0, none⟩) (Or.inl (by simp)) _
        have hoE : Off [eb] A := fun a ha hm => by have := HA.out a ha; rw [List.mem_singleton.1 hm] at this; have := HEB.out; omega
        have hge : g ∉ [eb] := by simp; omega
        by_cases her : er = 0
        ·subst her
         obtain ⟨j, rfl, hj, hpk⟩ : ∃ j : Nat, sy0 = j ∧ j < 19 ∧ q + k ≤ 8 * bs.length := by
          rcases HBD.out with ⟨_, j, h1, h2, h3⟩ | ⟨h, _⟩
          ·exact ⟨j, h1, by omega, h3⟩
          ·exact absurd rfl h
         clear HBD HR8
         have kr := (H7.out.bxr.keeps HK8.out (by simp; omega)).cell
         have kw := (T7.out.keeps HK8.out (fun x hx => by rw [List.mem_singleton.1 hx]; exact hg)).wid.cell _ _ rfl j (by omega)
         rw [Nat.zero_add, wN_tab j hj] at kw
         have hw7 := wN_le (j : Int)
         obtain ⟨W, hW⟩ : ∃ W, W = wN (j : Int) := ⟨_, rfl⟩
         rw [← hW] at kw hw7 HUN
         have s1 : (j : Int) < 19 := by omega
         have s2 : (0 : Int) ≤ (j : Int) := by omega
         have s3 : IntKind.i64.wrap (j : Int) = (j : Int) := IntWalk.i64_in _ (by omega)
         clear hW
         by_cases hov : 8 * bs.length < q + k + W
         ·have HRES := Lib.hid (HE1.out 10 (by rw [HUN.out, if_neg (by simp), if_pos hov]) (by decide))
          clear HUN
          go_wp2_with fail
          go_region_with (first | (go_at_call 160; refine (take_end _ g A c bs (q + k) W (HR8'.out.dr (Keeps.refl [] w8).drew) (by omega) (by omega)).mono ?_; rintro _ w9 ⟨rfl, hd9⟩))
          all_goals (
           have HK9 := HK8.out.trans (((Keeps.refl [g] w8).drew).trans (hd9.keeps (S := [g])))
           have HR9 := (HR8'.out.dr (Keeps.refl [] w8).drew).dr (hd9.keeps (S := []))
           have b9 := H7.out.bxe.keeps HK9 (by simp; omega)
           have ce9 := b9.cell
           have fe9 := b9.free
           go_wp2_with fail
           have c4 := (b9.set (.int .i64 10)).cell
           exact bodyPost_ret (v := .tuple #[.slice none 0 0, .slice none 0 0, .int .i64 10]) (by simp [results, Tryz.results179, go_sem, c4]) rfl (readP_err HRES.out (by decide) (HR9.keeps (hse _ _) hge hoE) (by omega) ((K7.out.trans HK9).setCell (p := ⟨eb, 0, none⟩) (Or.inr HEB.out) _)))
         ·have HUN2 : Hid (readR bs p = match addF l (j : Int) (numB bs (q + k) W) N with
           | none => ([], q, 41)
           | some l' => stepsF cd bs N f' l' (q + k + W)) := Lib.hid (by rw [HUN.out, if_neg (by simp), if_neg hov])
          clear HUN
          obtain ⟨n0, n1⟩ := numB_lt bs (q + k) W
          have n2 := pow_le8 W (by omega)
          have hex : Hid (numB bs (q + k) W = numB bs (q + k) W) := Lib.hid rfl
          have e5 : IntKind.i64.wrap (numB bs (q + k) W) = numB bs (q + k) W := IntWalk.i64_in _ (by omega)
          go_wp2_with fail
          go_region_with (first | (go_at_call 160; refine (take_calls _ g A c bs (q + k) W (HR8'.out.dr (Keeps.refl [] w8).drew) (by omega) (by omega)).mono ?_; rintro _ w9 ⟨rfl, hr9, hk9⟩))
          all_goals (
           have HK9 := Lib.hid (HK8.out.trans (((Keeps.refl [g] w8).drew).trans hk9))
           have HR9 := Lib.hid hr9
           have HLO9 := Lib.hid (own_keeps HLO8.out (((Keeps.refl [g] w8).drew).trans hk9) (fun x hx hm => by have := (HLO8.out.lt x hx).1; rw [List.mem_singleton.1 hm] at this; omega))
           have HT9 := Lib.hid (T7.out.keeps HK9.out (fun x hx => by rw [List.mem_singleton.1 hx]; exact hg))
           have hb9 : b0 ≤ w9.heap.size := by rw [hb0]; exact HK9.out.size
           clear hr9 hk9 HK8 HLO8 HR8' kr kw ce8 fe8 b8 hov
           generalize numB bs (q + k) W = ex at *
           generalize hqq : q + k + W = q2 at *
           have hpq2 : p ≤ q2 := by omega
           go_wp2_with fail
           refine (add_calls w9 b0 len _ l j ex N hb9 HT9.out HLO9.out (by omega)).mono ?_
           intro e w10 hv
           have hw70 : w7.heap.size ≤ b0 := by omega
           have hAb : ∀ a, A = some a → a.block < b0 := fun a ha => by have := HA.out a ha; omega
           cases haf : addF l (j : Int) ex N with
           | none =>
            rw [haf] at hv
            obtain ⟨rfl, hb10⟩ := hv
            have HRES := Lib.hid (HE1.out 41 (by rw [HUN2.out, haf]) (by decide))
            have HK10 := HK9.out.under hb10 hw70
            have HR10 := HR9.out.below hb10 hb0g hAb
            have b10 := H7.out.bxe.keeps HK10 (by simp; omega)
            have ce10 := b10.cell
            have fe10 := b10.free
            go_wp2_with fail
            have c4 := (b10.set (.int .i64 41)).cell
            exact bodyPost_ret (v := .tuple #[.slice none 0 0, .slice none 0 0, .int .i64 41]) (by simp [results, Tryz.results179, go_sem, c4]) rfl (readP_err HRES.out (by decide) (HR10.keeps (hse _ _) hge hoE) (by omega) ((K7.out.trans HK10).setCell (p := ⟨eb, 0, none⟩) (Or.inr HEB.out) _))
           | some l' =>
            rw [haf] at hv
            obtain ⟨v10, rfl, ho10, hb10⟩ := hv
            obtain ⟨g1, g2, -⟩ := addF_grows haf
            obtain ⟨A10, c10, rfl⟩ := own_form' ho10
            have HRD10 : Hid (readR bs p = stepsF cd bs N f' l' q2) := Lib.hid (by rw [HUN2.out, haf])
            have HK10 := Lib.hid (HK9.out.under hb10 hw70)
            have HR10 := Lib.hid (HR9.out.below hb10 hb0g hAb)
            have HLO10 := Lib.hid ho10
            have hlen' := HLEN.out
            clear ho10 hb10 HK9 HR9 HLO9 HT9 HUN2
            go_wp2_with fail
            go_roundw
            case rel => exact ⟨f', q2, l'.length, c10, l', A10, rfl, by omega, by omega, hpq2, HRD10, HLO10, HR10, HK10⟩
            case measure => simp [sLen]; omega)
        ·have HRES := Lib.hid (HE1.out er (by rw [HUN.out, if_pos her]) her)
         have e5 : (er != 0) = true := by simpa using her
         clear HUN HBD
         go_wp2_with fail
         have c4 := (b8.set (.int .i64 er)).cell
         exact bodyPost_ret (v := .tuple #[.slice none 0 0, .slice none 0 0, .int .i64 er]) (by simp [results, Tryz.results179, go_sem, c4]) rfl (readP_err HRES.out her (HR8'.out.keeps (hse _ _) hge hoE) (by omega) ((K7.out.trans HK8.out).setCell (p := ⟨eb, 0, none⟩) (Or.inr HEB.out) _))
       ·obtain rfl : len = N := by omega
        have e4 : decide ((len : Int) < (len : Int)) = false := by simp
        have HRES := Lib.hid (HE2.out l q (by rw [HRD.out, stepsF_done _ _ _ _ _ _ (by rw [HLEN.out]; omega)]))
        obtain ⟨A9, c9, hv9, hri9, hcap9, -, -, hbk9⟩ := own_full HLO.out
        injection hv9 with hv1 hv2 hv3
        subst hv1
        subst hv3
        obtain ⟨ab, ao, rfl⟩ := hri9.hd (by omega)
        have hr0 := hri9.keeps (Keeps.refl [] wr).drew (off_nil _)
        have hr1 : RI .i64 wr.drew (some ⟨ab, ao, none⟩) lit (l.take lit) := hr0.take (by omega)
        have hl2' : (l.drop lit).length = len - lit := by rw [List.length_drop, HLEN.out]
        have hr2 : RI .i64 wr.drew (some ⟨ab, ao + lit, none⟩) (len - lit) (l.drop lit) := ⟨hl2', fun _ => ⟨_, _, rfl⟩, fun b' o' ha j hj => by
         injection ha with ha; injection ha with h1 h2 h3; subst h1; subst h2
         have := hr0.cell ab ao rfl (lit + j) (by omega)
         rw [show ao + lit + j = ao + (lit + j) by omega, this]
         simp [nth, List.getD]⟩
        have HR1 := Lib.hid hr1
        have HR2 := Lib.hid hr2
        have t2 : (0 : Int) ≤ (lit : Int) := by omega
        have t3 : (lit : Int) ≤ (len : Int) := by omega
        have t4 : (lit : Int) ≤ (cc : Int) := by omega
        have t5 : lit ≤ len := by omega
        have t6 : lit ≤ cc := by omega
        have t7 : ¬ cc = lit := by omega
        have t8 : ¬ lit = cc := by omega
        have hwlt : w7.heap.size ≤ wr.heap.size := HK.out.size
        have b8 := H7.out.bxe.keeps HK.out (by simp; omega)
        have HB8 := Lib.hid b8
        clear HRD hri9 hv2 hr0 hr1 hr2 b8
        go_wp2_with fail
        go_region_with (first
         | (go_at_call_of 185 (some (Addr.mk ab ao none)); refine (cloneI_calls _ _ _ _ (l.take lit) (by first | exact HR1.out | exact HR1.out.keeps (Keeps.of_below hbB) (off_nil _)) (by simp) (by intro ad h; exact ⟨_, _, (Option.some.inj h).symm⟩) (by omega)).mono ?_; rintro _ wA ⟨vA, rfl, hoA, hbA⟩; have bxA : Box wA eb (.int .i64 0) := (by first | exact HB8.out.keeps ((Keeps.refl [] wr).drew.trans (Keeps.of_below hbA)) (by simp) | exact bxB.keeps (Keeps.of_below (S := []) hbA) (by simp)); have ceA := bxA.cell; have feA := bxA.free)
         | (go_at_call_of 185 (some (Addr.mk ab (ao + lit) none)); refine (cloneI_calls _ _ _ _ (l.drop lit) (by first | exact HR2.out | exact HR2.out.keeps (Keeps.of_below hbA) (off_nil _)) (by simp) (by intro ad h; exact ⟨_, _, (Option.some.inj h).symm⟩) (by omega)).mono ?_; rintro _ wB ⟨vB, rfl, hoB, hbB⟩; have bxB : Box wB eb (.int .i64 0) := (by first | exact HB8.out.keeps ((Keeps.refl [] wr).drew.trans (Keeps.of_below hbB)) (by simp) | exact bxA.keeps (Keeps.of_below (S := []) hbB) (by simp)); have ceB := bxB.cell; have feB := bxB.free))
        all_goals (
         have kA : Keeps [] wr wA := (Keeps.refl [] wr).drew.trans (Keeps.of_below hbA)
         have kB : Keeps [] wA wB := Keeps.of_below hbB
         have hwr : wr.heap.size ≤ wA.heap.size := kA.size
         have hebw : eb < wr.heap.size := by omega
         have kS : Keeps [eb] wB (wB.setCell ⟨eb, 0, none⟩ (.int .i64 0)) := (Keeps.refl [eb] wB).setCell (p := ⟨eb, 0, none⟩) (Or.inl (by simp)) _
         have oA := own_keeps (own_keeps hoA kB (by simp)) kS (fun x hx hm => by
          have h1 := (hoA.lt x hx).1
          rw [List.mem_singleton.1 hm] at h1
          have h2 : wr.heap.size ≤ eb := h1
          omega)
         have oB := own_keeps hoB kS (fun x hx hm => by
          have h1 := (hoB.lt x hx).1
          rw [List.mem_singleton.1 hm] at h1
          omega)
         have hR := (((HR.out.dr kA).dr kB).keeps kS (by simp; omega) (fun a ha hm => by have := HA.out a ha; rw [List.mem_singleton.1 hm] at this; have := HEB.out; omega))
         have hKK : Keeps [g] w (wB.setCell ⟨eb, 0, none⟩ (.int .i64 0)) := (((K7.out.trans HK.out).trans (kA.mono (by simp))).trans (kB.mono (by simp))).setCell (p := ⟨eb, 0, none⟩) (Or.inr HEB.out) _
         have hww : w.heap.size ≤ wr.heap.size := by omega
         have c4 := (bxB.set (.int .i64 0)).cell
         have hl1 : (l.take lit).length = lit := by rw [List.length_take, HLEN.out]; omega
         go_wp2_with fail
         refine bodyPost_ret (v := .tuple #[vA, vB, .int .i64 0]) (by simp [results, Tryz.results179, go_sem, c4]) rfl ?_
         rw [HRES.out]
         exact ⟨vA, vB, q, rfl, by rw [hl1]; exact oA.mono hww, by rw [hl2']; exact oB.mono (by omega), hR, hpq', fun _ => by simp only []; omega, hKK⟩)
     ·rw [if_neg hck] at hmade
      subst hmade
      have HRES : Hid (headF bs p = ([], [], 0, checkF cd)) := Lib.hid (by unfold headF; rw [if_neg HF1.out, if_neg HNB.out, if_neg HF3.out, ← HCD.out, if_pos hck])
      have e3 : (checkF cd != 0) = true := by simpa using hck
      generalize checkF cd = er at *
      go_wp2_with fail
      go_region
      go_wp2_with fail
      have H8 := (((H6.out.set er).set er).keeps (Keeps.refl [] _).drew (by simp) (by simp) (by simp) (off_nil _))
      have c4 := H8.bxe.cell
      exact bodyPost_ret (v := .tuple #[.slice none 0 0, .slice none 0 0, .int .i64 er]) (by simp [results, Tryz.results179, go_sem, c4]) rfl (readP_err HRES.out hck H8.rd (by omega) ((K6.out.setCell (p := ⟨eb, 0, none⟩) (Or.inr HEB.out) _).setCell (p := ⟨eb, 0, none⟩) (Or.inr HEB.out) _).drew)
    ·have HRES : Hid (headF bs p = ([], [], 0, 10)) := Lib.hid (by unfold headF; rw [if_neg (by omega), if_neg HNB.out, ← HMN.out, if_pos hend])
     clear HI
     go_wp2_with fail
     go_region
     go_wp2_with fail
     have H5 := (H.out.set 10).keeps (Keeps.refl [] _).drew (by simp) (by simp) (by simp) (off_nil _)
     have c4 := H5.bxe.cell
     exact bodyPost_ret (v := .tuple #[.slice none 0 0, .slice none 0 0, .int .i64 10]) (by simp [results, Tryz.results179, go_sem, c4]) rfl (readP_err HRES.out (by first | decide | assumption) H5.rd hq (HK.out.setCell (p := ⟨eb, 0, none⟩) (Or.inr HEB.out) _).drew)
 ·have HRES : Hid (headF bs p = ([], [], 0, 10)) := Lib.hid (by unfold headF; rw [if_pos hend])
  clear HC
  go_wp2_with fail
  go_region
  go_wp2_with fail
  have H4 := (H3.out.set 10).keeps (Keeps.refl [] _).drew (by simp) (by simp) (by simp) (off_nil _)
  have c4 := H4.bxe.cell
  exact bodyPost_ret (v := .tuple #[.slice none 0 0, .slice none 0 0, .int .i64 10]) (by simp [results, Tryz.results179, go_sem, c4]) rfl (readP_err HRES.out (by first | decide | assumption) H4.rd hpq (K3.out.setCell (p := ⟨eb, 0, none⟩) (Or.inr HEB.out) _).drew)
open Go.RowKit
theorem headF_n {bs : List Int} {p : Nat} (h : (headF bs p).2.2.2 ≠ 0) : (headF bs p).2.2.1 = 0 := by
 unfold headF at h ⊢
 split
 ·rfl
 split
 ·rfl
 split
 ·rfl
 split
 ·rfl
 split
 ·rfl
 ·next h1 h2 h3 h4 h5 =>
  rw [if_neg h1, if_neg h2, if_neg h3, if_neg h4, if_neg h5] at h
  exact absurd rfl h
theorem lensRead_calls (w : World) (g : Nat) (A : Option Addr) (c : Nat) (bs : List Int) (p : Nat) (hT : Tabs w) (hg : gtop ≤ g) (hr : Rdr w g A c bs p) (ha : ∀ a, A = some a → a.block < w.heap.size) :
  Calls Tryz.prog 168 #[.pointer (some ⟨g, 0, none⟩)] w fun e w' => ∃ v1 v2, e = .returned (.tuple #[v1, v2, .int .i64 (headF bs p).2.2.2]) ∧ w'.ownsRow w.heap.size 3 1 v1 (headF bs p).1.length (ints .i64 (headF bs p).1) ∧
   w'.ownsRow w.heap.size 3 1 v2 (headF bs p).2.1.length (ints .i64 (headF bs p).2.1) ∧ Rdr w' g A c bs (p + (headF bs p).2.2.1) ∧ Keeps [g] w w' := by
 have HR := Lib.hid hr
 have HT := Lib.hid hT
 have hsz := hr.size
 clear hr hT
 go_enter Tryz.func168, Tryz.ntmps168
 go_wp2_with fail
 refine (gone_calls _ _ _ _ _ _ HR.out).mono ?_
 rintro r w1 ⟨rfl, hd⟩
 have hk1 := hd.keeps (S := [])
 have H1 := Lib.hid (HR.out.dr hk1)
 have T1 := Lib.hid (HT.out.keeps hk1 (by simp))
 have K1 := Lib.hid (hd.keeps (S := [g]))
 have HA1 : Hid (∀ a, A = some a → a.block < w1.heap.size) := Lib.hid (fun a h => Nat.lt_of_lt_of_le (ha a h) hk1.size)
 have S1 : Hid (w.heap.size ≤ w1.heap.size) := Lib.hid hk1.size
 clear hd HR HT ha hk1
 go_wp2_with fail
 refine (read_calls _ _ _ _ _ _ T1.out hg H1.out HA1.out).mono ?_
 rintro _ w2 ⟨v1, v2, q, rfl, ho1, ho2, hr2, hpq, hq, hk2⟩
 have HO1 := Lib.hid (ho1.mono S1.out)
 have HO2 := Lib.hid (ho2.mono S1.out)
 have H2 := Lib.hid hr2
 have K2 := Lib.hid (K1.out.trans hk2)
 have HGW : Hid (g < w1.heap.size) := Lib.hid H1.out.lt
 have HOW1 := Lib.hid ho1
 have HOW2 := Lib.hid ho2
 have hqT := hr2.le
 clear ho1 ho2 hr2 hk2 H1 K1 T1 HA1
 by_cases her : (headF bs p).2.2.2 = 0
 ·have HQ := Lib.hid (hq her)
  have e1 : ((headF bs p).2.2.2 != 0) = false := by simp [her]
  have HER := Lib.hid her
  clear hq
  obtain ⟨A1, c1, rfl⟩ := own_form' HO1.out
  obtain ⟨A2, c2, rfl⟩ := own_form' HO2.out
  go_wp2_with fail
  go_ret3
  exact ⟨_, _, by first | rfl | (rw [HER.out]; rfl), HO1.out, HO2.out, by rw [← HQ.out]; exact H2.out, K2.out⟩
 ·have HN := Lib.hid (headF_n her)
  have e1 : ((headF bs p).2.2.2 != 0) = true := by simpa using her
  obtain ⟨A1, c1, rfl⟩ := own_form' HO1.out
  obtain ⟨A2, c2, rfl⟩ := own_form' HO2.out
  clear hq
  generalize hE : (headF bs p).2.2.2 = er at *
  go_wp2_with fail
  refine (gone_calls _ _ _ _ _ _ H2.out).mono ?_
  rintro r w3 ⟨rfl, hd⟩
  have H3 := Lib.hid (H2.out.dr hd.keeps)
  have K3 := Lib.hid (K2.out.trans (hd.keeps (S := [g])))
  have O1 := Lib.hid (own_keeps HOW1.out (hd.keeps (S := [])) (by simp))
  have O2 := Lib.hid (own_keeps HOW2.out (hd.keeps (S := [])) (by simp))
  have e2 : IntKind.i64.wrap ((q : Int) - (p : Int)) = ((q - p : Nat) : Int) := by rw [show (q : Int) - (p : Int) = ((q - p : Nat) : Int) by omega]; exact IntWalk.i64_in _ (by omega)
  clear hd H2 K2 HO1 HO2 HOW1 HOW2
  go_wp2_with fail
  refine (back_calls' _ _ _ _ _ q (q - p) _ (by first | rfl | omega) H3.out (by omega)).mono ?_
  rintro r w4 ⟨rfl, h4, k4⟩
  have H4 := Lib.hid h4
  have K4 := Lib.hid (K3.out.trans k4)
  have P1 := Lib.hid (own_keeps O1.out k4 (fun x hx hm => by have := (O1.out.lt x hx).1; rw [List.mem_singleton.1 hm] at this; have := HGW.out; omega))
  have P2 := Lib.hid (own_keeps O2.out k4 (fun x hx hm => by have := (O2.out.lt x hx).1; rw [List.mem_singleton.1 hm] at this; have := HGW.out; omega))
  clear h4 k4 H3 K3 O1 O2
  go_wp2_with fail
  go_ret3
  refine ⟨_, _, by rw [hE]; rfl, P1.out.mono S1.out, P2.out.mono S1.out, ?_, K4.out⟩
  rw [HN.out]
  have := H4.out
  rwa [show q - (q - p) = p + 0 by omega] at this
open Go.RowKit
structure IR (w : World) (g gr : Nat) (A : Option Addr) (c : Nat) (bs : List Int) (p most : Nat) (out : List Int) : Prop where
 rd : Rdr w gr A c bs p
 box : ∃ v, Blk w g 178 [.pointer (some ⟨gr, 0, none⟩), v, .int .i64 most] ∧ w.ownsRow (g + 1) 5 1 v out.length (ints .u8 out)
 lt : gr < g
 data : ∀ a, A = some a → a.block < g
 cap : out.length ≤ most
 mx : most ≤ 16384
 u8 : ∀ v, w.cell? ⟨g, 1, none⟩ = some v → AllU8 w v
structure KT (g gr : Nat) (w w' : World) : Prop where
 os : w'.os = w.os
 tape : w'.tape = w.tape
 output : w'.output = w.output
 size : w.heap.size ≤ w'.heap.size
 same : ∀ k, k < w.heap.size → k ≠ g → k ≠ gr → (k < g ∨ ¬ U8 w k) → w'.heap[k]? = w.heap[k]?
theorem KT.refl (g gr : Nat) (w : World) : KT g gr w w := ⟨rfl, rfl, rfl, Nat.le_refl _, fun _ _ _ _ _ => rfl⟩
theorem KT.trans {g gr : Nat} {a b c : World} (h : KT g gr a b) (k : KT g gr b c) : KT g gr a c :=
 ⟨k.os.trans h.os, k.tape.trans h.tape, k.output.trans h.output, Nat.le_trans h.size k.size, fun x hx h1 h2 h3 => by
  have e := h.same x hx h1 h2 h3
  rw [k.same x (by have := h.size; omega) h1 h2 (h3.imp id (fun hn ⟨cur, fr, hc⟩ => hn ⟨cur, fr, by rw [← e]; exact hc⟩)), e]⟩
theorem KT.of_keeps {g gr : Nat} {S : List Nat} {w w' : World} (h : Keeps S w w') (hS : ∀ x ∈ S, x = g ∨ x = gr) : KT g gr w w' :=
 ⟨h.os, h.tape, h.output, h.size, fun k hk h1 h2 _ => h.block k hk (fun hm => by rcases hS k hm with h | h <;> omega)⟩
theorem KT.keeps {g gr : Nat} {w w1 w2 : World} (hk : Keeps [] w w1) (h : KT g gr w1 w2) (hg : w.heap.size ≤ g) (hr : w.heap.size ≤ gr) : Keeps [] w w2 :=
 ⟨h.os.trans hk.os, h.tape.trans hk.tape, h.output.trans hk.output, Nat.le_trans hk.size h.size, fun k hk2 _ =>
  (h.same k (by have := hk.size; omega) (by omega) (by omega) (.inl (by omega))).trans (hk.block k hk2 (by simp))⟩
theorem KT.set {g gr : Nat} {w w' : World} (h : KT g gr w w') (j : Nat) (v : Value) : KT g gr w (w'.setCell ⟨g, j, none⟩ v) :=
 h.trans (KT.of_keeps (S := [g]) ((Keeps.refl [g] w').setCell (p := ⟨g, j, none⟩) (Or.inl (by simp)) v) (fun x hx => .inl (List.mem_singleton.1 hx)))
theorem KT.grown {g gr : Nat} {w w1 w2 : World} {row : Option Nat} (h : KT g gr w w1) (hg : w1.grownBy w2 row) (hr : ∀ k, row = some k → U8 w1 k ∧ g < k) : KT g gr w w2 :=
 h.trans ⟨hg.os, hg.tape, hg.output, hg.size, fun k hk _ _ h3 => hg.block k hk (fun e => by
  obtain ⟨a, b⟩ := hr k e.symm
  rcases h3 with h3 | h3
  ·omega
  ·exact h3 a)⟩
theorem IR.glt {w : World} {g gr c p most : Nat} {A : Option Addr} {bs out : List Int} (h : IR w g gr A c bs p most out) : g < w.heap.size := by
 obtain ⟨v, h1, _⟩ := h.box; exact h1.lt
theorem IR.u8v {w : World} {g gr c p most : Nat} {A : Option Addr} {bs out : List Int} (h : IR w g gr A c bs p most out) {v x y : Value} (hb : Blk w g 178 [x, v, y]) : AllU8 w v := h.u8 v (by have := hb.cell 1; simpa using this)
theorem u8_same {w' : World} {g : Nat} {v x y : Value} (hb : Blk w' g 178 [x, v, y]) (hu : AllU8 w' v) : ∀ u, w'.cell? ⟨g, 1, none⟩ = some u → AllU8 w' u := fun u hc => by
 have h := hb.cell 1
 simp only [List.getElem?_cons_zero, List.getElem?_cons_succ] at h
 rw [h] at hc
 injection hc with hc
 subst hc
 exact hu
theorem IR.keeps {w w' : World} {g gr c p most : Nat} {A : Option Addr} {bs out : List Int} (h : IR w g gr A c bs p most out) (hk : Keeps [] w w') : IR w' g gr A c bs p most out := by
 obtain ⟨v, h1, h2⟩ := h.box
 exact ⟨h.rd.dr hk, ⟨v, h1.keeps hk (by simp), own_keeps h2 hk (by simp)⟩, h.lt, h.data, h.cap, h.mx, u8_same (h1.keeps hk (by simp)) ((h.u8v h1).keeps hk (by simp))⟩
theorem IR.read {w w' : World} {g gr c p q most : Nat} {A : Option Addr} {bs out : List Int} (h : IR w g gr A c bs p most out) (hr : Rdr w' gr A c bs q) (hk : Keeps [gr] w w') : IR w' g gr A c bs q most out := by
 obtain ⟨v, h1, h2⟩ := h.box
 have := h.lt
 exact ⟨hr, ⟨v, h1.keeps hk (by simp; omega), own_keeps h2 hk (fun x hx hm => by have := own_lo h2 x hx; rw [List.mem_singleton.1 hm] at this; omega)⟩, h.lt, h.data, h.cap, h.mx, u8_same (h1.keeps hk (by simp; omega)) ((h.u8v h1).keeps hk (fun x hx hm => by have := own_lo h2 x hx; rw [List.mem_singleton.1 hm] at this; omega))⟩
theorem grown_keepsI {w w' : World} {row : Option Nat} (h : w.grownBy w' row) : Keeps row.toList w w' :=
 ⟨h.os, h.tape, h.output, h.size, fun k hk hm => h.block k hk (fun e => hm (Option.mem_toList.2 e.symm))⟩
theorem own_kt {w w' : World} {g gr base n size : Nat} {t : TypeId} {v : Value} {xs : List Value} (ht : t ≠ 5) (hb : g < base) (hr : gr < base) (h : w.ownsRow base t size v n xs) (hp : KT g gr w w') : w'.ownsRow base t size v n xs := by
 obtain ⟨h1, h2⟩ := h
 refine ⟨h1, ?_⟩
 rcases h2 with h2 | ⟨b, cap, cur, hv, hb2, hh, r⟩
 ·exact Or.inl h2
 ·refine Or.inr ⟨b, cap, cur, hv, hb2, ?_, r⟩
  rw [hp.same b (Array.getElem?_eq_some_iff.1 hh).1 (by omega) (by omega) (.inr fun ⟨c, f, hc⟩ => ?_), hh]
  rw [hh] at hc
  injection hc with hc
  injection hc with _ h2 _
  exact ht h2
theorem blk_kt {w w' : World} {g gr k : Nat} {t : TypeId} {cs : List Value} (ht : t ≠ 5) (hk : k ≠ g) (hr : k ≠ gr) (h : Blk w k t cs) (hp : KT g gr w w') : Blk w' k t cs := by
 refine (hp.same k h.lt hk hr (.inr fun ⟨c, f, hc⟩ => ?_)).trans h
 have h2 : w.heap[k]? = _ := h
 rw [h2] at hc
 injection hc with hc
 injection hc with _ h3 _
 exact ht h3
theorem cell_kt {w w' : World} {g gr : Nat} (hp : KT g gr w w') {a : Addr} {v : Value} (h : w.cell? a = some v) (h1 : a.block < g) (h2 : a.block ≠ gr) : w'.cell? a = some v := by
 have hb := World.block_lt_of_cell? _ _ h
 have e := hp.same a.block hb (by omega) h2 (.inl h1)
 have k : Keeps [g, gr] ({ w with heap := w.heap } : World) w := Keeps.refl _ _
 unfold World.cell? at h ⊢
 rw [e]; exact h
theorem ri_kt {w w' : World} {g gr n : Nat} {k : IntKind} {A : Option Addr} {xs : List Int} (h : RI k w A n xs) (hp : KT g gr w w') (ho : ∀ a, A = some a → a.block < g ∧ a.block ≠ gr) : RI k w' A n xs :=
 ⟨h.len, h.hd, fun b o ha j hj => cell_kt hp (h.cell b o ha j hj) (ho _ ha).1 (ho _ ha).2⟩
theorem tabs_kt {w w' : World} {g gr : Nat} (h : Tabs w) (hp : KT g gr w w') (h3 : gtop ≤ gr) (hg : gr < g) : Tabs w' := by
 have := glt
 exact ⟨ri_kt h.fro hp (by rintro a ⟨⟩; constructor <;> simp only [] <;> omega), ri_kt h.wid hp (by rintro a ⟨⟩; constructor <;> simp only [] <;> omega), ri_kt h.ord hp (by rintro a ⟨⟩; constructor <;> simp only [] <;> omega)⟩
theorem end_calls (w : World) (e o : Int) : Calls Tryz.prog 161 #[.int .i64 e, .int .i64 o] w fun r w' => r = .returned (.int .i64 (endF e o)) ∧ Dr w w' := by
 by_cases h0 : e = 0
 ·subst h0
  go_enter Tryz.func161, Tryz.ntmps161
  go_wp2_with fail
  go_ret
  exact ⟨rfl, 0, rfl⟩
 ·by_cases h1 : e = 10
  ·subst h1
   go_enter Tryz.func161, Tryz.ntmps161
   go_wp2_with fail
   go_ret
   exact ⟨rfl, 0, rfl⟩
  ·have HE : Hid (endF e o = o) := Lib.hid (by unfold endF; rw [if_neg h0, if_neg h1])
   have e0 : (e == 0) = false := by simpa using h0
   have e1 : (e == 10) = false := by simpa using h1
   have e0' : decide (e = 0) = false := by simpa using h0
   have e1' : decide (e = 10) = false := by simpa using h1
   go_enter Tryz.func161, Tryz.ntmps161
   go_wp2_with fail
   go_ret
   rw [HE.out]
   exact ⟨rfl, 0, rfl⟩
def Took (w : World) (g gr : Nat) (A : Option Addr) (c : Nat) (bs : List Int) (p most : Nat) (out : List Int) (n : Nat) (e : Ending) (w' : World) : Prop :=
 (p + n ≤ 8 * bs.length ∧ e = .returned (.tuple #[.int .i64 (numB bs p n), .int .i64 0]) ∧ IR w' g gr A c bs (p + n) most out ∧ KT g gr w w') ∨
 (8 * bs.length < p + n ∧ e = .returned (.tuple #[.int .i64 0, .int .i64 55]) ∧ IR w' g gr A c bs p most out ∧ KT g gr w w')
theorem itake_calls (w : World) (g gr : Nat) (A : Option Addr) (c : Nat) (bs : List Int) (p most : Nat) (out : List Int) (n : Nat) (h : IR w g gr A c bs p most out) (hn : n ≤ 16) :
  Calls Tryz.prog 142 #[.pointer (some ⟨g, 0, none⟩), .int .i64 n] w (Took w g gr A c bs p most out n) := by
 have H := Lib.hid h
 obtain ⟨v, hblk, -⟩ := h.box
 have c0 := hblk.cell 0
 simp only [List.getElem?_cons_zero] at c0
 have hgr := h.lt
 clear hblk h
 go_enter Tryz.func142, Tryz.ntmps142
 by_cases hf : p + n ≤ 8 * bs.length
 ·obtain ⟨n0, n1⟩ := numB_lt bs p n
  have h16 : (2 : Int) ^ n ≤ 65536 := pow16 n hn
  go_wp2_with fail
  refine (take_calls w gr A c bs p n H.out.rd (by omega) hf).mono ?_
  rintro _ w1 ⟨rfl, hr, hk⟩
  have H1 := Lib.hid (H.out.read hr hk)
  have K1 : Hid (KT g gr w w1) := Lib.hid (KT.of_keeps hk (fun x hx => .inr (List.mem_singleton.1 hx)))
  clear hr hk H c0
  have s1 : IntKind.i64.wrap (numB bs p n) = numB bs p n := IntWalk.i64_in _ (by omega)
  have HF := Lib.hid hf
  clear n1 h16
  generalize hx : numB bs p n = x at *
  have HX := Lib.hid hx
  clear hx
  go_wp2_with fail
  refine (end_calls w1 0 0).mono ?_
  rintro _ w2 ⟨rfl, hd⟩
  have H2 := Lib.hid (H1.out.keeps (hd.keeps (S := [])))
  have K2 := Lib.hid (K1.out.trans (KT.of_keeps (hd.keeps (S := [])) (by simp)))
  clear hd H1 K1
  go_wp2_with fail
  go_ret2
  exact .inl ⟨HF.out, by rw [HX.out]; rfl, H2.out, K2.out⟩
 ·have HF : Hid (8 * bs.length < p + n) := Lib.hid (by omega)
  go_wp2_with fail
  refine (take_end w gr A c bs p n H.out.rd (by omega) (by omega)).mono ?_
  rintro _ w1 ⟨rfl, hd⟩
  have H1 := Lib.hid (H.out.keeps (hd.keeps (S := [])))
  have K1 : Hid (KT g gr w w1) := Lib.hid (KT.of_keeps (hd.keeps (S := [])) (by simp))
  clear hd H c0
  go_wp2_with fail
  refine (end_calls w1 10 10).mono ?_
  rintro _ w2 ⟨rfl, hd⟩
  have H2 := Lib.hid (H1.out.keeps (hd.keeps (S := [])))
  have K2 := Lib.hid (K1.out.trans (KT.of_keeps (hd.keeps (S := [])) (by simp)))
  clear hd H1 K1
  go_wp2_with fail
  go_ret2
  exact .inr ⟨HF.out, rfl, H2.out, K2.out⟩
theorem align_calls (w : World) (gr : Nat) (A : Option Addr) (c : Nat) (bs : List Int) (p : Nat) (hr : Rdr w gr A c bs p) :
  Calls Tryz.prog 162 #[.pointer (some ⟨gr, 0, none⟩)] w fun e w' => e = .returned (.int .i64 0) ∧ Rdr w' gr A c bs (alignF p) ∧ Keeps [gr] w w' := by
 have hb := hr.blk
 have h1 := hb.cell 1
 have f1 := hb.frozen 1
 simp only [List.getElem?_cons_succ, List.getElem?_cons_zero] at h1
 have hle := hr.le
 have hsz := hr.size
 have HR := Lib.hid hr
 clear hb hr
 have s1 : IntKind.i64.wrap ((p : Int) + 7) = (p : Int) + 7 := IntWalk.i64_in _ (by omega)
 have s2 : ((p : Int) + 7).tdiv 8 = (((p + 7) / 8 : Nat) : Int) := by rw [Int.tdiv_eq_ediv_of_nonneg (by omega)]; omega
 have s3 : IntKind.i64.wrap ((((p + 7) / 8 : Nat) : Int) * 8) = (((p + 7) / 8 * 8 : Nat) : Int) := by
  rw [IntWalk.i64_in _ (by omega)]; omega
 go_enter Tryz.func162, Tryz.ntmps162
 go_wp2_with fail
 have HA : Hid (alignF p ≤ 8 * bs.length) := Lib.hid (by unfold alignF; omega)
 have HE : Hid (((p : Int) + 7) / 8 * 8 = ((alignF p : Nat) : Int)) := Lib.hid (by unfold alignF; omega)
 go_ret
 rw [HE.out]
 exact ⟨rfl, HR.out.move HA.out, (Keeps.refl [gr] w).setCell (p := ⟨gr, 1, none⟩) (Or.inl (by simp)) _⟩
theorem lay_calls (w : World) (g gr : Nat) (A : Option Addr) (c : Nat) (bs : List Int) (p most : Nat) (out : List Int) (x : Int) (h : IR w g gr A c bs p most out) :
  Calls Tryz.prog 163 #[.pointer (some ⟨g, 0, none⟩), .int .u8 x] w fun e w' =>
   (most ≤ out.length ∧ e = .returned (.int .i64 56) ∧ IR w' g gr A c bs p most out ∧ KT g gr w w') ∨ (out.length < most ∧ e = .returned (.int .i64 0) ∧ IR w' g gr A c bs p most (out ++ [x]) ∧ KT g gr w w') := by
 have H := Lib.hid h
 obtain ⟨v, hblk, hown⟩ := h.box
 obtain ⟨vA, vc, rfl⟩ := own_formW hown
 have c1 := hblk.cell 1
 have c2 := hblk.cell 2
 simp only [List.getElem?_cons_zero, List.getElem?_cons_succ] at c1 c2
 have f1 := hblk.frozen 1
 have hlt := hblk.lt
 have hcap := h.cap
 have hmx := h.mx
 have HU := Lib.hid (h.u8v hblk)
 have HB := Lib.hid hblk
 have HO := Lib.hid hown
 clear hblk hown h
 go_enter Tryz.func163, Tryz.ntmps163
 obtain ⟨L, hL⟩ : ∃ L, L = out.length := ⟨_, rfl⟩
 have HL := Lib.hid hL
 rw [← hL] at HO c1 HB HU hcap ⊢
 clear hL
 by_cases hm : most ≤ L
 ·have e1 : decide (most ≤ L) = true := by simpa using hm
  have e1' : decide ((most : Int) ≤ (L : Int)) = true := by simp; omega
  go_upto_region 1 with (fail)
  go_quiet (fail)
  go_wp2_with fail
  go_ret
  exact .inl ⟨hm, rfl, H.out.keeps ((Keeps.refl [] w).drewN nq), KT.of_keeps ((Keeps.refl [] w).drewN nq) (by simp)⟩
 ·have e1 : decide (most ≤ L) = false := by simpa using hm
  have e1' : decide ((most : Int) ≤ (L : Int)) = false := by simp; omega
  go_upto_region 1 with (fail)
  go_quiet (fail)
  have hkq : Keeps [] w (w.drewN nq) := (Keeps.refl [] w).drewN nq
  obtain ⟨wq, hwq⟩ : ∃ z, z = w.drewN nq := ⟨_, rfl⟩
  rw [← hwq] at hkq ⊢
  clear hwq
  have ka : Keeps [] wq (wq.alloc (.cells #[.int .u8 x] 5)) := (Keeps.refl [] wq).alloc _
  have HOA := Lib.hid (own_keeps HO.out (hkq.trans ka) (by simp))
  have HBA := Lib.hid (HB.out.keeps (hkq.trans ka) (by simp))
  have HQ := Lib.hid (H.out.keeps (hkq.trans ka))
  have HUA := Lib.hid (HU.out.keeps (hkq.trans ka) (by simp))
  have HKA : Hid (KT g gr w (wq.alloc (.cells #[.int .u8 x] 5))) := Lib.hid (KT.of_keeps (hkq.trans ka) (by simp))
  have HRI : Hid (RI .u8 (wq.alloc (.cells #[.int .u8 x] 5)) (some ⟨wq.heap.size, 0, none⟩) 1 [x]) := Lib.hid (Blk.ri (xs := [x]) (ys := []) (k := .u8) (by simpa [ints] using blk_new wq 5 (ints .u8 [x])))
  have c1' := hkq.cell (by simp) c1
  have hltq : g < wq.heap.size := Nat.lt_of_lt_of_le hlt hkq.size
  clear c1 c2 f1 hkq ka HO HB H HU e1
  go_wp2_with (at_builtin; refine app_bytesU rfl (.tmp 19) (.tmp 21) rfl (g + 1) _ _ out rfl (by exact HOA.out) _ 1 1 [x] rfl (by exact HRI.out) (by simp) (by omega) ?c4 ?_)
  case c4 => simp; omega
  intro v1 w1 ho1 hg1 _ hu1
  have HU1 := Lib.hid (hu1 HUA.out)
  clear hu1
  have hg0 : ∀ k, (Value.slice vA L vc).ownBlock = some k → g + 1 ≤ k := fun k hk => (HOA.out.lt k hk).1
  have hblk1 : Blk w1 g 178 [.pointer (some ⟨gr, 0, none⟩), .slice vA L vc, .int .i64 most] := (hg1.block g (Nat.lt_trans hltq (by simp)) (fun e => by have := hg0 g e.symm; omega)).trans HBA.out
  have kg := grown_keepsI hg1
  have HR1 := Lib.hid (HQ.out.rd.keeps kg (fun hm => by have := hg0 gr (Option.mem_toList.1 hm); have := HQ.out.lt; omega) (fun a ha hm => by have := hg0 a.block (Option.mem_toList.1 hm); have := HQ.out.data a ha; omega))
  have K1 := Lib.hid (HKA.out.grown hg1 (fun k hk => ⟨own_u8 HOA.out k hk, hg0 k hk⟩))
  have HO1 := Lib.hid ho1
  have HB1 := Lib.hid hblk1
  obtain ⟨vB, vd, rfl⟩ : ∃ A c, v1 = .slice A (L + 1) c := own_formW ho1
  have c1 := hblk1.cell 1
  simp only [List.getElem?_cons_zero, List.getElem?_cons_succ] at c1
  have f1 := hblk1.frozen 1
  clear HOA HBA HKA HRI c1' kg hg1 ho1 hblk1 hg0
  go_wp2_with fail
  go_ret
  have hs := (HB1.out.set 1 (.slice vB (L + 1) vd))
  simp only [List.set_cons_succ, List.set_cons_zero] at hs
  have ks : Keeps [g] w1 (w1.setCell ⟨g, 1, none⟩ (.slice vB (L + 1) vd)) := (Keeps.refl [g] w1).setCell (p := ⟨g, 1, none⟩) (Or.inl (by simp)) _
  have hgr := HQ.out.lt
  refine .inr ⟨by omega, rfl, ⟨HR1.out.keeps ks (by simp; omega) (fun a ha hm => by have := HQ.out.data a ha; rw [List.mem_singleton.1 hm] at this; omega), ⟨_, hs, ?_⟩, hgr, HQ.out.data, ?_, hmx, u8_same hs (HU1.out.keeps ks (fun x hx hm => by have := own_lo HO1.out x hx; rw [List.mem_singleton.1 hm] at this; omega))⟩, K1.out.set 1 _⟩
  ·rw [List.length_append, List.length_singleton, ← HL.out]
   exact ownsRow_setCell_below HO1.out (a := ⟨g, 1, none⟩) (Nat.lt_succ_self g) _
  ·rw [List.length_append, List.length_singleton, ← HL.out]; omega
open Go.RowKit
def Part (w : World) (g gr : Nat) (A : Option Addr) (c : Nat) (bs : List Int) (most : Nat) (r : IRes) (e : Ending) (w' : World) : Prop :=
 ∃ q, e = .returned (.int .i64 r.2.2) ∧ IR w' g gr A c bs q most r.1 ∧ KT g gr w w' ∧ (r.2.2 = 0 → q = r.2.1)
theorem part_ok {w w' : World} {g gr c most q : Nat} {A : Option Addr} {bs out : List Int} {r : IRes} (hr : r = (out, q, 0)) (h : IR w' g gr A c bs q most out) (k : KT g gr w w') : Part w g gr A c bs most r (.returned (.int .i64 0)) w' := by
 subst hr; exact ⟨q, rfl, h, k, fun _ => rfl⟩
theorem part_err {w w' : World} {g gr c most q : Nat} {A : Option Addr} {bs out : List Int} {r : IRes} {e : Int} (hr : r = (out, 0, e)) (he : e ≠ 0) (h : IR w' g gr A c bs q most out) (k : KT g gr w w') : Part w g gr A c bs most r (.returned (.int .i64 e)) w' := by
 subst hr; exact ⟨q, rfl, h, k, fun h => absurd h he⟩
theorem xor_16 (m : Int) (h0 : 0 ≤ m) (h1 : m < 65536) : Go.bits .xor .i64 m 65535 = 65535 - m := by
 obtain ⟨k, rfl⟩ := Int.eq_ofNat_of_zero_le h0
 have hk : k < 65536 := by omega
 have hx : k ^^^ 65535 < 2 ^ 62 := Nat.lt_of_lt_of_le (Nat.xor_lt_two_pow (show k < 2 ^ 16 by omega) (by decide : 65535 < 2 ^ 16)) (by decide)
 have e : k ^^^ 65535 = 65535 - k := by
  apply Nat.eq_of_testBit_eq
  intro i
  have h2 := Nat.testBit_two_pow_sub_succ (show k < 2 ^ 16 by omega) i
  rw [show 2 ^ 16 - (k + 1) = 65535 - k by omega] at h2
  rw [Nat.testBit_xor, h2, show (65535 : Nat) = 2 ^ 16 - 1 from rfl, Nat.testBit_two_pow_sub_one]
  by_cases hi : i < 16
  ·simp [hi]
  ·have : k.testBit i = false := Nat.testBit_lt_two_pow (Nat.lt_of_lt_of_le (show k < 2 ^ 16 by omega) (Nat.pow_le_pow_right (by decide) (by omega)))
   simp [hi, this]
 have e2 : Go.bits .xor .i64 (k : Int) ((65535 : Nat) : Int) = ((k ^^^ 65535 : Nat) : Int) := by
  simp only [Go.bits, BitVec.ofInt_natCast, BitVec.toNat_xor, BitVec.toNat_ofNat, show k % 2 ^ IntKind.i64.bits = k from Nat.mod_eq_of_lt (Nat.lt_of_lt_of_le (show k < 2 ^ 16 by omega) (by decide)), show 65535 % 2 ^ IntKind.i64.bits = 65535 from rfl]
  exact IntWalk.i64_in _ (by rw [e]; omega)
 rw [show (65535 : Int) = ((65535 : Nat) : Int) from rfl]
 refine Eq.trans e2 ?_
 rw [e]
 omega
theorem stored_calls (w : World) (g gr : Nat) (A : Option Addr) (c : Nat) (bs : List Int) (p most : Nat) (out : List Int) (h : IR w g gr A c bs p most out) :
  Calls Tryz.prog 143 #[.pointer (some ⟨g, 0, none⟩)] w (Part w g gr A c bs most (storedF bs most out p)) := by
 have H := Lib.hid h
 obtain ⟨v, hblk, -⟩ := h.box
 have c0 := hblk.cell 0
 simp only [List.getElem?_cons_zero] at c0
 clear hblk h
 go_enter Tryz.func143, Tryz.ntmps143
 go_wp2_with fail
 refine (align_calls w gr A c bs p H.out.rd).mono ?_
 rintro _ w1 ⟨rfl, hr, hk⟩
 have H1 := Lib.hid (H.out.read hr hk)
 have K1 : Hid (KT g gr w w1) := Lib.hid (KT.of_keeps hk (fun x hx => .inr (List.mem_singleton.1 hx)))
 clear hr hk H c0
 obtain ⟨a, ha⟩ : ∃ a, a = alignF p := ⟨_, rfl⟩
 have HA := Lib.hid ha
 rw [← ha] at H1
 clear ha
 go_wp2_with fail
 refine (itake_calls w1 g gr A c bs a most out 16 H1.out (by omega)).mono ?_
 rintro _ w2 (⟨hf, rfl, h2, k2⟩ | ⟨hf, rfl, h2, k2⟩)
 rotate_left
 ·have HR : Hid (storedF bs most out p = (out, 0, 55)) := Lib.hid (by unfold storedF; rw [← HA.out, if_pos hf])
  have H2 := Lib.hid h2
  have K2 := Lib.hid (K1.out.trans k2)
  clear h2 k2 H1 K1
  go_wp2_with fail
  go_ret
  exact part_err HR.out (by decide) H2.out K2.out
 have H2 := Lib.hid h2
 have K2 := Lib.hid (K1.out.trans k2)
 clear h2 k2 H1 K1
 obtain ⟨n0, n1⟩ := numB_lt bs a 16
 rw [show (2 : Int) ^ 16 = 65536 from rfl] at n1
 obtain ⟨N, hN⟩ : ∃ N : Nat, numB bs a 16 = N := ⟨(numB bs a 16).toNat, by omega⟩
 have HN := Lib.hid hN
 rw [hN] at n1 ⊢
 clear hN n0
 go_wp2_with fail
 refine (itake_calls w2 g gr A c bs (a + 16) most out 16 H2.out (by omega)).mono ?_
 rintro _ w3 (⟨hf3, rfl, h3, k3⟩ | ⟨hf3, rfl, h3, k3⟩)
 rotate_left
 ·have HR : Hid (storedF bs most out p = (out, 0, 55)) := Lib.hid (by unfold storedF; rw [← HA.out, if_neg (by omega), if_pos (by omega)])
  have H3 := Lib.hid h3
  have K3 := Lib.hid (K2.out.trans k3)
  clear h3 k3 H2 K2
  go_wp2_with fail
  go_ret
  exact part_err HR.out (by decide) H3.out K3.out
 have H3 := Lib.hid h3
 have K3 := Lib.hid (K2.out.trans k3)
 clear h3 k3 H2 K2
 obtain ⟨m0, m1⟩ := numB_lt bs (a + 16) 16
 rw [show (2 : Int) ^ 16 = 65536 from rfl] at m1
 obtain ⟨M, hM⟩ : ∃ M : Nat, numB bs (a + 16) 16 = M := ⟨(numB bs (a + 16) 16).toNat, by omega⟩
 have HM := Lib.hid hM
 rw [hM] at m0 m1 ⊢
 clear hM
 have X := xor_16 M m0 m1
 by_cases hs : (N : Int) = 65535 - (M : Int)
 ·have e1 : ((N : Int) != 65535 - (M : Int)) = false := by simpa using hs
  have HR : Hid (storedF bs most out p = storF bs most N out (a + 32)) := Lib.hid (by
   unfold storedF
   rw [← HA.out, if_neg (by omega), if_neg (by omega), HN.out, HM.out, if_neg (by omega), Int.toNat_natCast])
  clear hs m0 m1
  go_wp2_with fail
  clear X e1
  go_loopw [35] (fun iv wr => ∃ (i q : Nat) (o : List Int), i ≤ N ∧ iv = .int .i64 i ∧ Hid (storF bs most N out (a + 32) = storF bs most (N - i) o q) ∧ Hid (IR wr g gr A c bs q most o) ∧ Hid (KT g gr w wr)) (fun iv _ => N - (intOf iv).toNat)
  case atStart => exact ⟨0, a + 32, out, by omega, rfl, Lib.hid rfl, by rw [show a + 32 = a + 16 + 16 by omega]; exact H3, K3⟩
  case round =>
   clear H3 K3
   obtain ⟨i, q, o, hi, rfl, HS, H, K⟩ := hrel
   by_cases hlt : i < N
   ·have e0 : decide (i < N) = true := by simpa using hlt
    have HS' : Hid (storF bs most (N - i) o q = if 8 * bs.length < q + 8 then (o, 0, 55) else if most ≤ o.length then (o, 0, 56) else storF bs most (N - (i + 1)) (o ++ [numB bs q 8]) (q + 8)) := Lib.hid (by rw [show N - i = (N - (i + 1)) + 1 by omega, storF])
    go_wp2_with fail
    refine (itake_calls wr g gr A c bs q most o 8 H.out (by omega)).mono ?_
    rintro _ w4 (⟨hf4, rfl, h4, k4⟩ | ⟨hf4, rfl, h4, k4⟩)
    ·have H4 := Lib.hid h4
     have K4 := Lib.hid (K.out.trans k4)
     have HF := Lib.hid hf4
     clear h4 k4 H K hf4
     obtain ⟨b0, b1⟩ := numB_lt bs q 8
     rw [show (2 : Int) ^ 8 = 256 from rfl] at b1
     obtain ⟨x, hx⟩ : ∃ x, x = numB bs q 8 := ⟨_, rfl⟩
     rw [← hx] at b0 b1 HS' ⊢
     have HX := Lib.hid hx
     clear hx
     have s1 : IntKind.u8.wrap x = x := by rw [IntKind.wrap_u8]; omega
     go_wp2_with fail
     refine (lay_calls w4 g gr A c bs (q + 8) most o x H4.out).mono ?_
     rintro _ w5 (⟨hm, rfl, h5, k5⟩ | ⟨hm, rfl, h5, k5⟩)
     ·have H5 := Lib.hid h5
      have K5 := Lib.hid (K4.out.trans k5)
      have HE : Hid (storedF bs most out p = (o, 0, 56)) := Lib.hid (by rw [HR.out, HS.out, HS'.out, if_neg (by have := HF.out; omega), if_pos hm])
      clear h5 k5 H4 K4 HS HS' HR
      go_wp2_with fail
      go_ret
      exact part_err HE.out (by decide) H5.out K5.out
     ·have H5 := Lib.hid h5
      have K5 := Lib.hid (K4.out.trans k5)
      have HS2 : Hid (storF bs most N out (a + 32) = storF bs most (N - (i + 1)) (o ++ [x]) (q + 8)) := Lib.hid (by rw [HS.out, HS'.out, if_neg (by have := HF.out; omega), if_neg (by omega)])
      clear h5 k5 H4 K4 HS HS'
      go_wp2_with fail
      go_roundw
      case rel => exact ⟨i + 1, q + 8, o ++ [x], by omega, by go_num, HS2, H5, K5⟩
      case measure => simp [intOf]; omega
    ·have H4 := Lib.hid h4
     have K4 := Lib.hid (K.out.trans k4)
     have HE : Hid (storedF bs most out p = (o, 0, 55)) := Lib.hid (by rw [HR.out, HS.out, HS'.out, if_pos hf4])
     clear h4 k4 H K hf4 HS HS' HR
     go_wp2_with fail
     go_ret
     exact part_err HE.out (by decide) H4.out K4.out
   ·obtain rfl : i = N := by omega
    have e0 : decide (i < i) = false := by simp
    have HE : Hid (storedF bs most out p = (o, q, 0)) := Lib.hid (by rw [HR.out, HS.out, Nat.sub_self, storF])
    clear HS HR
    go_wp2_with fail
    go_ret
    exact part_ok HE.out H.out K.out
 ·have e1 : ((N : Int) != 65535 - (M : Int)) = true := by simpa using hs
  have HR : Hid (storedF bs most out p = (out, 0, 51)) := Lib.hid (by
   unfold storedF
   rw [← HA.out, if_neg (by omega), if_neg (by omega), HN.out, HM.out, if_pos (by omega)])
  clear hs m0 m1
  go_wp2_with fail
  go_ret
  exact part_err HR.out (by decide) H3.out K3.out
open Go.RowKit
theorem any_iff (l : List Int) : anyUsed l = true ↔ ∃ j, j < l.length ∧ 0 < nth l j := by
 unfold anyUsed
 rw [List.any_eq_true]
 constructor
 ·rintro ⟨x, hx, h⟩
  obtain ⟨j, hj, rfl⟩ := List.getElem_of_mem hx
  exact ⟨j, hj, by rw [nth_lt hj]; simpa using h⟩
 ·rintro ⟨j, hj, h⟩
  exact ⟨l[j], List.getElem_mem _, by rw [nth_lt hj] at h; simpa using h⟩
def MaxP (w : World) (l : List Int) (e : Ending) (w' : World) : Prop := ∃ m : Int, e = .returned (.int .i64 m) ∧ decide (0 < m) = anyUsed l ∧ Dr w w'
theorem max_done {w w' : World} {l : List Int} {m : Int} (h : 0 < m ↔ ∃ j, j < l.length ∧ 0 < nth l j) (hd : Dr w w') : MaxP w l (.returned (.int .i64 m)) w' := by
 refine ⟨m, rfl, ?_, hd⟩
 rw [Bool.eq_iff_iff, any_iff, decide_eq_true_iff]
 exact h
theorem max_calls (w : World) (A : Option Addr) (n c : Nat) (l : List Int) (hl : RI .i64 w A n l) (h1 : 1 ≤ n) (hn : n ≤ 140737488355328) :
  Calls Tryz.prog 177 #[.slice A n c] w (MaxP w l) := by
 have HL := Lib.hid hl
 have HLL := Lib.hid hl.len
 obtain ⟨b, o, rfl, hc0⟩ := hl.at (show 0 < n by omega)
 rw [Nat.add_zero] at hc0
 clear hl
 have e0 : decide (n < 1) = false := by simp; omega
 have e0' : decide ((n : Int) < 1) = false := by simp; omega
 go_enter Tryz.func177, Tryz.ntmps177
 go_wp2_with fail
 clear hc0 e0 e0'
 go_loopw [3, 4] (fun mv iv wr => ∃ (m : Int) (k : Nat), 1 ≤ k ∧ k ≤ n ∧ iv = .int .i64 k ∧ mv = .int .i64 m ∧ Hid (0 < m ↔ ∃ j, j < k ∧ 0 < nth l j) ∧ Hid (Dr w wr)) (fun _ iv _ => n - (intOf iv).toNat)
 case atStart => exact ⟨nth l 0, 1, by omega, by omega, rfl, rfl, Lib.hid ⟨fun h => ⟨0, by omega, h⟩, fun ⟨j, hj, h⟩ => by rwa [show j = 0 by omega] at h⟩, Lib.hid (Dr.refl w)⟩
 case round =>
  obtain ⟨m, k, hk1, hk, rfl, rfl, HM, HD⟩ := hrel
  by_cases hlt : k < n
  ·have e1 : decide (k < n) = true := by simpa using hlt
   have hc := (HL.out.keeps (HD.out.keeps (S := [])) (off_nil _)).cell b o rfl k hlt
   obtain ⟨x, hx⟩ : ∃ x, x = nth l k := ⟨_, rfl⟩
   have HX := Lib.hid hx
   rw [← hx] at hc
   clear hx
   go_wp2_with fail
   go_roundw
   case rel =>
    refine ⟨_, k + 1, by omega, by omega, by go_num, rfl, Lib.hid ?_, HD⟩
    constructor
    ·intro h
     by_cases hm : 0 < m
     ·obtain ⟨j, hj, h2⟩ := HM.out.1 hm
      exact ⟨j, by omega, h2⟩
     ·exact ⟨k, by omega, by rw [← HX.out]; first | omega | (split at h <;> omega)⟩
    ·rintro ⟨j, hj, h2⟩
     by_cases hjk : j = k
     ·subst hjk; rw [← HX.out] at h2; first | omega | (split <;> omega)
     ·have := HM.out.2 ⟨j, by omega, h2⟩; first | omega | (split <;> omega)
   case measure => simp [intOf]; omega
  ·obtain rfl : k = n := by omega
   have e1 : decide (k < k) = false := by simp
   go_wp2_with fail
   go_ret
   exact max_done (by rw [HLL.out]; exact HM.out) HD.out
theorem iused_calls (w : World) (A : Option Addr) (n c : Nat) (l : List Int) (hl : RI .i64 w A n l) (h1 : 1 ≤ n) (hn : n ≤ 140737488355328) :
  Calls Tryz.prog 165 #[.slice A n c] w fun e w' => e = .returned (.bool (anyUsed l)) ∧ Dr w w' := by
 have HL := Lib.hid hl
 clear hl
 go_enter Tryz.func165, Tryz.ntmps165
 go_wp2_with fail
 refine (max_calls w A n c l HL.out h1 hn).mono ?_
 rintro _ w1 ⟨m, rfl, hm, hd⟩
 have HD := Lib.hid hd
 clear hd
 have HM := Lib.hid hm
 clear hm
 go_wp2_with fail
 go_ret
 rw [HM.out]
 exact ⟨rfl, HD.out⟩
def fixGo (k : Nat) : Int := if k < 144 ∨ 279 < k then 8 else if k < 256 then 9 else 7
def fixL (n : Nat) : List Int := (List.range n).map fixGo
theorem fixL_succ (n : Nat) : fixL (n + 1) = fixL n ++ [fixGo n] := by unfold fixL; rw [List.range_succ]; simp
theorem fixL_all : fixL 288 = fixLit := by decide +kernel
theorem fix_info : checkF fixLit = 0 ∧ checkF fixDist = 0 ∧ anyUsed fixDist = true ∧ fixLit.length = 288 ∧ fixDist.length = 32 := by decide +kernel
theorem fixed_calls (w : World) : Calls Tryz.prog 145 #[] w fun e w' => ∃ v1 g2, e = .returned (.tuple #[v1, .slice (some ⟨g2, 0, none⟩) 32 32]) ∧ w'.ownsRow w.heap.size 3 1 v1 288 (ints .i64 fixLit) ∧ Blk w' g2 3 (ints .i64 fixDist) ∧ w.heap.size ≤ g2 ∧ Below w.heap.size w w' := by
 go_enter Tryz.func145, Tryz.ntmps145
 go_wp2_with fail
 go_loopw [0, 3] (fun u i wr => ∃ k : Nat, k ≤ 288 ∧ i = .int .i64 k ∧ Hid (wr.ownsRow w.heap.size 3 1 u k (ints .i64 (fixL k))) ∧ Hid (Below w.heap.size w wr)) (fun _ i _ => 288 - (intOf i).toNat)
 case atStart => exact ⟨0, by omega, rfl, Lib.hid (World.ownsRow_nil _ _ _ _), Below.refl _ _⟩
 case round =>
  obtain ⟨k, hk, rfl, HO, HW⟩ := hrel
  have hsz := HW.out.size
  by_cases hlt : k < 288
  ·have e0 : decide ((k : Int) < 288) = true := by simp; omega
   have fin : ∀ x, fixGo k = x → ∀ (v1 : Value) (w1 : World), w1.ownsRow w.heap.size 3 1 v1 (k + 1) (ints .i64 (fixL k ++ [x])) → w1.ownsRow w.heap.size 3 1 v1 (k + 1) (ints .i64 (fixL (k + 1))) := fun x hx v1 w1 h => by rw [fixL_succ, hx]; exact h
   have HF := Lib.hid fin
   clear fin
   have HRI : ∀ x, Hid (RI .i64 (wr.alloc (.cells #[.int .i64 x] 3)) (some ⟨wr.heap.size, 0, none⟩) 1 [x]) := fun x => Lib.hid (ri_one _ _ _ _)
   have HR8 := HRI 8
   have HR9 := HRI 9
   have HR7 := HRI 7
   clear HRI
   by_cases h144 : k < 144
   ·have e1 : decide ((k : Int) < 144) = true := by simp; omega
    go_wp2_with (at_builtin; refine app_intsG rfl (.tmp 16) (.tmp 17) rfl w.heap.size _ k (fixL k) rfl (HO.out.alloc _) (some ⟨wr.heap.size, 0, none⟩) 1 1 [8] rfl (by exact HR8.out) ?c1 ?c2 (by omega) ?c3 ?_)
    case c1 => simp
    case c2 => intro ad h; exact ⟨_, _, (Option.some.inj h).symm⟩
    case c3 => simp; omega
    intro v' w1 h1 hg
    have HO1 := Lib.hid (HF.out 8 (by unfold fixGo; rw [if_pos (by omega)]) _ _ h1)
    have HB1 := Lib.hid ((HW.out.alloc (by omega) _).grown hg (by simp; omega) (fun k hk => (HO.out.lt k hk).1))
    clear HO HW h1 hg HF
    go_wp2_with fail
    go_roundw
    case rel => exact ⟨k + 1, by omega, by go_num, HO1, HB1⟩
    case measure => simp [intOf]; omega
   ·have e1 : decide ((k : Int) < 144) = false := by simp; omega
    by_cases h279 : 279 < k
    ·have e2 : decide (279 < (k : Int)) = true := by simp; omega
     go_wp2_with (at_builtin; refine app_intsG rfl (.tmp 16) (.tmp 17) rfl w.heap.size _ k (fixL k) rfl (HO.out.alloc _) (some ⟨wr.heap.size, 0, none⟩) 1 1 [8] rfl (by exact HR8.out) ?d1 ?d2 (by omega) ?d3 ?_)
     case d1 => simp
     case d2 => intro ad h; exact ⟨_, _, (Option.some.inj h).symm⟩
     case d3 => simp; omega
     intro v' w1 h1 hg
     have HO1 := Lib.hid (HF.out 8 (by unfold fixGo; rw [if_pos (by omega)]) _ _ h1)
     have HB1 := Lib.hid ((HW.out.alloc (by omega) _).grown hg (by simp; omega) (fun k hk => (HO.out.lt k hk).1))
     clear HO HW h1 hg HF
     go_wp2_with fail
     go_roundw
     case rel => exact ⟨k + 1, by omega, by go_num, HO1, HB1⟩
     case measure => simp [intOf]; omega
    ·have e2 : decide (279 < (k : Int)) = false := by simp; omega
     by_cases h256 : k < 256
     ·have e3 : decide ((k : Int) < 256) = true := by simp; omega
      go_wp2_with (at_builtin; refine app_intsG rfl (.tmp 22) (.tmp 23) rfl w.heap.size _ k (fixL k) rfl (HO.out.alloc _) (some ⟨wr.heap.size, 0, none⟩) 1 1 [9] rfl (by exact HR9.out) ?f1 ?f2 (by omega) ?f3 ?_)
      case f1 => simp
      case f2 => intro ad h; exact ⟨_, _, (Option.some.inj h).symm⟩
      case f3 => simp; omega
      intro v' w1 h1 hg
      have HO1 := Lib.hid (HF.out 9 (by unfold fixGo; rw [if_neg (by omega), if_pos (by omega)]) _ _ h1)
      have HB1 := Lib.hid ((HW.out.alloc (by omega) _).grown hg (by simp; omega) (fun k hk => (HO.out.lt k hk).1))
      clear HO HW h1 hg HF
      go_wp2_with fail
      go_roundw
      case rel => exact ⟨k + 1, by omega, by go_num, HO1, HB1⟩
      case measure => simp [intOf]; omega
     ·have e3 : decide ((k : Int) < 256) = false := by simp; omega
      go_wp2_with (at_builtin; refine app_intsG rfl (.tmp 6) (.tmp 7) rfl w.heap.size _ k (fixL k) rfl (HO.out.alloc _) (some ⟨wr.heap.size, 0, none⟩) 1 1 [7] rfl (by exact HR7.out) ?g1 ?g2 (by omega) ?g3 ?_)
      case g1 => simp
      case g2 => intro ad h; exact ⟨_, _, (Option.some.inj h).symm⟩
      case g3 => simp; omega
      intro v' w1 h1 hg
      have HO1 := Lib.hid (HF.out 7 (by unfold fixGo; rw [if_neg (by omega), if_neg (by omega)]) _ _ h1)
      have HB1 := Lib.hid ((HW.out.alloc (by omega) _).grown hg (by simp; omega) (fun k hk => (HO.out.lt k hk).1))
      clear HO HW h1 hg HF
      go_wp2_with fail
      go_roundw
      case rel => exact ⟨k + 1, by omega, by go_num, HO1, HB1⟩
      case measure => simp [intOf]; omega
  ·obtain rfl : k = 288 := by omega
   have e0 : decide (((288 : Nat) : Int) < 288) = false := by decide
   have HO1 : Hid (wr.ownsRow w.heap.size 3 1 _ 288 (ints .i64 fixLit)) := Lib.hid (by have := HO.out; rwa [fixL_all] at this)
   clear HO
   go_wp2_with fail
   refine (repeat_calls' _ wr.heap.size 1 32 32 5 rfl (by simp) (by omega) (by omega)).mono ?_
   rintro _ w2 ⟨g2, rfl, hb2, hg2, hB2⟩
   have HB2 := Lib.hid hb2
   have hz : wr.heap.size < g2 := by simp at hg2; omega
   have HW2 := Lib.hid ((HW.out.alloc hsz (.cells #[.int .i64 5] 3)).trans (hB2.mono (by simp; omega)))
   have hO2 := own_keeps HO1.out ((Keeps.refl [] wr).alloc (.cells #[.int .i64 5] 3)) (by simp)
   have HO2 := Lib.hid (own_keeps hO2 (Keeps.of_below hB2 (S := [])) (by simp))
   clear hb2 hg2 hB2 hO2 HO1 HW
   go_wp2_with fail
   go_ret2
   exact ⟨_, _, rfl, HO2.out, HB2.out, by omega, HW2.out⟩
open Go.RowKit
def HeadP (w : World) (g gr : Nat) (A : Option Addr) (c : Nat) (bs : List Int) (most : Nat) (out : List Int) (p : Nat) (h : List Int × List Int × Nat × Int) (e : Ending) (w' : World) : Prop :=
 (codesE h ≠ 0 ∧ ∃ q, e = .returned (.tuple #[.slice none 0 0, .slice none 0 0, .int .i64 (codesE h)]) ∧ IR w' g gr A c bs q most out ∧ KT g gr w w') ∨
 (codesE h = 0 ∧ ∃ v1 v2, e = .returned (.tuple #[v1, v2, .int .i64 0]) ∧ w'.ownsRow w.heap.size 3 1 v1 h.1.length (ints .i64 h.1) ∧ w'.ownsRow w.heap.size 3 1 v2 h.2.1.length (ints .i64 h.2.1) ∧
  IR w' g gr A c bs (p + h.2.2.1) most out ∧ KT g gr w w')
theorem headP_err {w w' : World} {g gr c most p q : Nat} {A : Option Addr} {bs out : List Int} {h : List Int × List Int × Nat × Int} {e : Int} (hh : codesE h = e) (he : e ≠ 0) (hi : IR w' g gr A c bs q most out) (k : KT g gr w w') :
  HeadP w g gr A c bs most out p h (.returned (.tuple #[.slice none 0 0, .slice none 0 0, .int .i64 e])) w' := by
 subst hh; exact .inl ⟨he, q, rfl, hi, k⟩
theorem head_calls (w : World) (g gr : Nat) (A : Option Addr) (c : Nat) (bs : List Int) (p most : Nat) (out : List Int) (hT : Tabs w) (hg : gtop ≤ gr) (h : IR w g gr A c bs p most out) :
  Calls Tryz.prog 146 #[.pointer (some ⟨g, 0, none⟩)] w (HeadP w g gr A c bs most out p (headF bs p)) := by
 have H := Lib.hid h
 have HT := Lib.hid hT
 obtain ⟨v, hblk, -⟩ := h.box
 have hglt := h.glt
 have HA : Hid (∀ a, A = some a → a.block < w.heap.size) := Lib.hid (fun a ha => Nat.lt_trans (h.data a ha) hglt)
 have c0 := hblk.cell 0
 simp only [List.getElem?_cons_zero] at c0
 have HGR := Lib.hid (show gr < w.heap.size from Nat.lt_trans h.lt hglt)
 clear hblk h hT
 have hcR := lensRead_calls w gr A c bs p HT.out hg H.out.rd HA.out
 have hfull := @head_full bs p
 obtain ⟨hd, hhd⟩ : ∃ h, h = headF bs p := ⟨_, rfl⟩
 rw [← hhd] at hcR hfull ⊢
 clear hhd
 obtain ⟨L1, L2, nn, er⟩ := hd
 simp only [] at hcR hfull
 have HF := Lib.hid hfull
 clear hfull
 go_enter Tryz.func146, Tryz.ntmps146
 go_wp2_with fail
 refine hcR.mono ?_
 rintro _ w1 ⟨v1, v2, rfl, ho1, ho2, hr1, hk1⟩
 have H1 := Lib.hid (H.out.read hr1 hk1)
 have K1 : Hid (KT g gr w w1) := Lib.hid (KT.of_keeps hk1 (fun x hx => .inr (List.mem_singleton.1 hx)))
 have HO1 := Lib.hid ho1
 have HO2 := Lib.hid ho2
 clear ho1 ho2 hr1 hk1 H c0 hcR HT HA
 by_cases her : er = 0
 ·subst her
  obtain ⟨hl1, hl2⟩ := HF.out rfl
  have b1 : 257 ≤ L1.length := by rw [hl1]; unfold litF; omega
  have b2 : L1.length ≤ 288 := by rw [hl1]; exact litF_le _ _
  have b3 : 1 ≤ L2.length := by rw [hl2]; unfold distF; omega
  have b4 : L2.length ≤ 32 := by rw [hl2]; exact distF_le _ _
  clear hl1 hl2 HF
  obtain ⟨A1, c1, rfl, hri1, -, -⟩ := own_ri HO1.out
  obtain ⟨A2, c2, rfl, hri2, -, -⟩ := own_ri HO2.out
  have HR1 := Lib.hid hri1
  have HR2 := Lib.hid hri2
  obtain ⟨bb, oo, hAA, hc⟩ := hri1.at (show 256 < L1.length by omega)
  subst hAA
  clear hri1 hri2
  obtain ⟨n1, hn1⟩ : ∃ n, n = L1.length := ⟨_, rfl⟩
  obtain ⟨n2, hn2⟩ : ∃ n, n = L2.length := ⟨_, rfl⟩
  have HN1 := Lib.hid hn1
  have HN2 := Lib.hid hn2
  rw [← hn1] at b1 b2 HO1 HR1 ⊢
  rw [← hn2] at b3 b4 HO2 HR2 ⊢
  clear hn1 hn2
  obtain ⟨x, hx⟩ : ∃ x, x = nth L1 256 := ⟨_, rfl⟩
  rw [← hx] at hc
  have HX := Lib.hid hx
  clear hx
  by_cases hx0 : x = 0
  ·subst hx0
   have HE : Hid (codesE (L1, L2, nn, 0) = 52) := Lib.hid (by unfold codesE; rw [if_neg (by simp), if_pos (by rw [← HX.out])])
   go_wp2_with fail
   go_ret3
   exact headP_err HE.out (by decide) H1.out K1.out
  ·have e1 : (x == 0) = false := by simpa using hx0
   have e1' : decide (x = 0) = false := by simpa using hx0
   have HX0 := Lib.hid hx0
   clear hx0
   go_wp2_with fail
   refine (check_calls w1 _ n1 c1 L1 HR1.out (by omega)).mono ?_
   rintro _ w2 ⟨rfl, hd2⟩
   have hk2 := hd2.keeps (S := [])
   have H2 := Lib.hid (H1.out.keeps hk2)
   have K2 := Lib.hid (K1.out.trans (KT.of_keeps hk2 (by simp)))
   have HR22 := Lib.hid (HR2.out.keeps hk2 (off_nil _))
   have HO12 := Lib.hid (own_keeps HO1.out hk2 (by simp))
   have HO22 := Lib.hid (own_keeps HO2.out hk2 (by simp))
   clear hd2 hk2 H1 K1 HR1 HR2 HO1 HO2 hc
   by_cases hc1 : checkF L1 = 0
   ·have HC1 := Lib.hid hc1
    rw [hc1]
    clear hc1
    go_wp2_with fail
    refine (iused_calls w2 _ n2 c2 L2 HR22.out b3 (by omega)).mono ?_
    rintro _ w3 ⟨rfl, hd3⟩
    have hk3 := hd3.keeps (S := [])
    have H3 := Lib.hid (H2.out.keeps hk3)
    have K3 := Lib.hid (K2.out.trans (KT.of_keeps hk3 (by simp)))
    have HR23 := Lib.hid (HR22.out.keeps hk3 (off_nil _))
    have HO13 := Lib.hid (own_keeps HO12.out hk3 (by simp))
    have HO23 := Lib.hid (own_keeps HO22.out hk3 (by simp))
    clear hd3 hk3 H2 K2 HR22 HO12 HO22
    by_cases hu : anyUsed L2 = true
    ·have HU := Lib.hid hu
     rw [hu]
     clear hu
     go_wp2_with fail
     refine (check_calls w3 _ n2 c2 L2 HR23.out (by omega)).mono ?_
     rintro _ w4 ⟨rfl, hd4⟩
     have hk4 := hd4.keeps (S := [])
     have H4 := Lib.hid (H3.out.keeps hk4)
     have K4 := Lib.hid (K3.out.trans (KT.of_keeps hk4 (by simp)))
     have HO14 := Lib.hid (own_keeps HO13.out hk4 (by simp))
     have HO24 := Lib.hid (own_keeps HO23.out hk4 (by simp))
     clear hd4 hk4 H3 K3 HR23 HO13 HO23
     by_cases hc2 : checkF L2 = 0
     ·have HE : Hid (codesE (L1, L2, nn, 0) = 0) := Lib.hid (by unfold codesE; rw [if_neg (by simp), if_neg (by rw [← HX.out]; exact HX0.out), if_neg (by rw [HC1.out]; simp), if_neg (by rintro ⟨_, h⟩; exact h hc2)])
      rw [hc2]
      clear hc2
      go_wp2_with fail
      go_ret3
      exact .inr ⟨HE.out, _, _, rfl, by rw [← HN1.out]; exact HO14.out, by rw [← HN2.out]; exact HO24.out, H4.out, K4.out⟩
     ·have HE : Hid (codesE (L1, L2, nn, 0) = 52) := Lib.hid (by unfold codesE; rw [if_neg (by simp), if_neg (by rw [← HX.out]; exact HX0.out), if_neg (by rw [HC1.out]; simp), if_pos ⟨HU.out, hc2⟩])
      have e2 : (checkF L2 != 0) = true := by simpa using hc2
      generalize checkF L2 = y at *
      clear hc2
      go_wp2_with fail
      go_ret3
      exact headP_err HE.out (by decide) H4.out K4.out
    ·have hu : anyUsed L2 = false := by simpa using hu
     have HE : Hid (codesE (L1, L2, nn, 0) = 0) := Lib.hid (by unfold codesE; rw [if_neg (by simp), if_neg (by rw [← HX.out]; exact HX0.out), if_neg (by rw [HC1.out]; simp), if_neg (by rintro ⟨h, _⟩; rw [hu] at h; cases h)])
     rw [hu]
     clear hu
     go_wp2_with fail
     go_ret3
     exact .inr ⟨HE.out, _, _, rfl, by rw [← HN1.out]; exact HO13.out, by rw [← HN2.out]; exact HO23.out, H3.out, K3.out⟩
   ·have HE : Hid (codesE (L1, L2, nn, 0) = 52) := Lib.hid (by unfold codesE; rw [if_neg (by simp), if_neg (by rw [← HX.out]; exact HX0.out), if_pos hc1])
    have e2 : (checkF L1 != 0) = true := by simpa using hc1
    generalize checkF L1 = y at *
    clear hc1
    go_wp2_with fail
    go_ret3
    exact headP_err HE.out (by decide) H2.out K2.out
 ·have HE : Hid (codesE (L1, L2, nn, er) = endF er 52) := Lib.hid (by unfold codesE; rw [if_pos her])
  have HN : Hid (endF er 52 ≠ 0) := Lib.hid (fun h => her (endF_zero (by decide) h))
  have e1 : (er != 0) = true := by simpa using her
  clear her HF
  go_wp2_with fail
  refine (end_calls w1 er 52).mono ?_
  rintro _ w2 ⟨rfl, hd⟩
  have H2 := Lib.hid (H1.out.keeps (hd.keeps (S := [])))
  have K2 := Lib.hid (K1.out.trans (KT.of_keeps (hd.keeps (S := [])) (by simp)))
  clear hd H1 K1
  generalize endF er 52 = y at *
  go_wp2_with fail
  go_ret3
  exact headP_err HE.out HN.out H2.out K2.out
open Go.RowKit
def DistD (w : World) (g : Nat) (dist : List Int) (D : Option Addr) : Prop :=
 dist.length ≤ 288 ∧ ((anyUsed dist = false ∧ D = none) ∨ (anyUsed dist = true ∧ ∃ dg, D = some ⟨dg, 0, none⟩ ∧ g < dg ∧ Dec w dg dist))
theorem dec_kt {w w' : World} {g gr dg : Nat} {l : List Int} (h : Dec w dg l) (hp : KT g gr w w') (hg : g < dg) (hr : gr < g) : Dec w' dg l := by
 obtain ⟨v, ⟨a1, a2, a3, h1⟩, h2⟩ := h
 exact ⟨v, ⟨a1, a2, a3, blk_kt (by decide) (by omega) (by omega) h1 hp⟩, own_kt (by decide) (by omega) (by omega) h2 hp⟩
theorem DistD.kt {w w' : World} {g gr : Nat} {dist : List Int} {D : Option Addr} (h : DistD w g dist D) (hp : KT g gr w w') (hr : gr < g) : DistD w' g dist D := by
 obtain ⟨h0, h⟩ := h
 refine ⟨h0, ?_⟩
 rcases h with h | ⟨h1, dg, h2, h3, h4⟩
 ·exact .inl h
 ·exact .inr ⟨h1, dg, h2, h3, dec_kt h4 hp h3 hr⟩
theorem itake_calls' (w : World) (g gr : Nat) (A : Option Addr) (c : Nat) (bs : List Int) (p most : Nat) (out : List Int) (n : Nat) (ni : Int) (hni : ni = n) (h : IR w g gr A c bs p most out) (hn : n ≤ 16) :
  Calls Tryz.prog 142 #[.pointer (some ⟨g, 0, none⟩), .int .i64 ni] w (Took w g gr A c bs p most out n) := by
 subst hni; exact itake_calls w g gr A c bs p most out n h hn
theorem IR.cells {w : World} {g gr c p most : Nat} {A : Option Addr} {bs out : List Int} (h : IR w g gr A c bs p most out) : w.cell? ⟨g, 0, none⟩ = some (.pointer (some ⟨gr, 0, none⟩)) ∧
  ∃ v vc, w.cell? ⟨g, 1, none⟩ = some (.slice v out.length vc) ∧ RI .u8 w v out.length out := by
 obtain ⟨v, hblk, hown⟩ := h.box
 obtain ⟨vA, vc, rfl, hri, _, _⟩ := own_ri hown
 have c0 := hblk.cell 0
 have c1 := hblk.cell 1
 simp only [List.getElem?_cons_zero, List.getElem?_cons_succ] at c0 c1
 exact ⟨c0, vA, vc, c1, hri⟩
theorem copies_calls (w : World) (g gr : Nat) (A : Option Addr) (c : Nat) (bs : List Int) (p most : Nat) (out dist : List Int) (s : Nat) (D : Option Addr) (h : IR w g gr A c bs p most out) (hD : DistD w g dist D) (hs : 257 ≤ s) (hs2 : s ≤ 100000) :
  Calls Tryz.prog 167 #[.pointer (some ⟨g, 0, none⟩), .int .i64 s, .pointer D] w (Part w g gr A c bs most (copyF dist bs most s out p)) := by
 have H := Lib.hid h
 have HD := Lib.hid hD
 have hgr := h.lt
 obtain ⟨c0, -⟩ := h.cells
 clear h hD
 go_enter Tryz.func167, Tryz.ntmps167
 by_cases h1 : 285 < s
 ·have e1 : decide (285 < s) = true := by simpa using h1
  have e1' : decide ((285 : Int) < (s : Int)) = true := by simp; omega
  have HR : Hid (copyF dist bs most s out p = (out, 0, 53)) := Lib.hid (by unfold copyF; rw [if_pos h1])
  go_wp2_with fail
  go_ret
  exact part_err HR.out (by decide) H.out (KT.refl _ _ _)
 have e1 : decide (285 < s) = false := by simp; omega
 have e1' : decide ((285 : Int) < (s : Int)) = false := by simp; omega
 have HS := Lib.hid h1
 go_upto_block 0 with (fail)
 go_cut [7] (fun v7 wc => ∃ N : Nat, N ≤ 1000 ∧ v7 = .int .i64 N ∧ Hid (N = lenBase s + (numB bs p (lenK s)).toNat) ∧ Hid (p + lenK s ≤ 8 * bs.length) ∧ Hid (IR wc g gr A c bs (p + lenK s) most out) ∧ Hid (KT g gr w wc))
 case first =>
  have hle := H.out.rd.le
  by_cases h2 : s = 285
  ·subst h2
   have e2 : (((285 : Nat) : Int) == 285) = true := by decide
   go_wp2_with fail
   go_meet
   exact ⟨258, by omega, rfl, Lib.hid (by simp [lenBase, lenK, numB]), Lib.hid (by simp [lenK]; omega), by simpa [lenK] using H, Lib.hid (KT.refl _ _ _)⟩
  have e2 : ((s : Int) == 285) = false := by simp; omega
  by_cases h3 : 264 < s
  ·have e3 : decide (264 < s) = true := by simpa using h3
   have e3' : decide ((264 : Int) < (s : Int)) = true := by simp; omega
   obtain ⟨k, hk⟩ : ∃ k : Nat, k = lenK s := ⟨_, rfl⟩
   have hk5 : k ≤ 5 := by rw [hk]; unfold lenK; split <;> omega
   have HKK := Lib.hid hk
   have s1 : ((s : Int) - 261) / 4 = (k : Int) := by rw [hk]; unfold lenK; rw [if_neg (by omega)]; omega
   obtain ⟨r, hr⟩ : ∃ r : Nat, ((s : Int) - 261) % 4 = (r : Int) := ⟨(s - 261) % 4, by omega⟩
   have hr4 : r < 4 := by omega
   have HRR : Hid (lenBase s = 3 + (4 + r) * 2 ^ k) := Lib.hid (by unfold lenBase; rw [if_neg (by omega), if_neg h2, ← hk, show (s - 261) % 4 = r by omega])
   clear hk
   go_wp2_with fail
   refine (itake_calls' w g gr A c bs p most out k _ (by first | rfl | omega) H.out (by omega)).mono ?_
   rintro _ w1 (⟨hf, rfl, h1, k1⟩ | ⟨hf, rfl, h1, k1⟩)
   ·have HI := Lib.hid h1
    have K1 := Lib.hid k1
    have HF := Lib.hid hf
    clear h1 k1 H hf c0
    obtain ⟨n0, n1⟩ := numB_lt bs p k
    have p32 : (2 : Int) ^ k ≤ 32 := by
     have : (2 : Nat) ^ k ≤ 2 ^ 5 := Nat.pow_le_pow_right (by decide) hk5
     exact_mod_cast this
    obtain ⟨x, hx⟩ : ∃ x : Nat, numB bs p k = x := ⟨(numB bs p k).toNat, by omega⟩
    have HX := Lib.hid hx
    rw [hx] at n1 ⊢
    clear hx n0
    have t1 : (4 + (r : Int)) * 2 ^ k ≤ 7 * 32 := Int.mul_le_mul (by omega) p32 (by have := pow_cast k; omega) (by omega)
    have t0 : 0 ≤ (4 + (r : Int)) * 2 ^ k := Int.mul_nonneg (by omega) (by have := pow_cast k; omega)
    have s3 : IntKind.i64.wrap ((4 + (r : Int)) * 2 ^ k) = (4 + (r : Int)) * 2 ^ k := IntWalk.i64_in _ (by omega)
    obtain ⟨y, hy⟩ : ∃ y : Nat, (4 + (r : Int)) * 2 ^ k = y := ⟨((4 + (r : Int)) * 2 ^ k).toNat, by omega⟩
    have HY := Lib.hid hy
    rw [hy] at s3 t0 t1
    go_wp2_with fail
    go_meet
    refine ⟨3 + y + x, by omega, by go_num, Lib.hid ?_, Lib.hid (by rw [← HKK.out]; exact HF.out), by rw [← HKK.out]; exact HI, K1⟩
    rw [HRR.out, ← HKK.out, HX.out]
    have := HY.out
    have e : (((4 + r) * 2 ^ k : Nat) : Int) = y := by push_cast; exact this
    have : (4 + r) * 2 ^ k = y := by exact_mod_cast e
    omega
   ·have HI := Lib.hid h1
    have K1 := Lib.hid k1
    have HR : Hid (copyF dist bs most s out p = (out, 0, 55)) := Lib.hid (by unfold copyF; rw [if_neg HS.out, ← HKK.out, if_pos hf])
    clear h1 k1 H hf c0
    go_wp2_with fail
    go_ret
    exact part_err HR.out (by decide) HI.out K1.out
  ·have e3 : decide (264 < s) = false := by simpa using h3
   have e3' : decide ((264 : Int) < (s : Int)) = false := by simp; omega
   have hk : lenK s = 0 := by unfold lenK; rw [if_pos (by omega)]
   have hb : lenBase s = s - 254 := by unfold lenBase; rw [if_pos (by omega)]
   have HKK := Lib.hid hk
   have HB := Lib.hid hb
   clear hk hb
   go_wp2_with fail
   go_meet
   exact ⟨s - 254, by omega, by go_num, Lib.hid (by rw [HB.out, HKK.out, numB]; rfl), Lib.hid (by rw [HKK.out]; exact hle), by rw [HKK.out]; exact H, Lib.hid (KT.refl _ _ _)⟩
 case rest =>
  obtain ⟨N, hN, rfl, HN, HQ, H1, K1⟩ := hcut
  clear H c0
  obtain ⟨q, hq⟩ : ∃ q, q = p + lenK s := ⟨_, rfl⟩
  rw [← hq] at HQ H1
  have HQE := Lib.hid hq
  clear hq
  have HD1 := Lib.hid (HD.out.kt K1.out hgr)
  have hD1 := HD1.out
  clear HD
  obtain ⟨hdl, ⟨hu, hDn⟩ | ⟨hu, dg, hDs, hgd, hdec⟩⟩ := hD1
  ·subst hDn
   have HR : Hid (copyF dist bs most s out p = (out, 0, 53)) := Lib.hid (by unfold copyF; rw [if_neg HS.out, if_neg (by have := HQ.out; have := HQE.out; omega), if_pos hu])
   clear hu
   go_wp2_with fail
   go_ret
   exact part_err HR.out (by decide) H1.out K1.out
  subst hDs
  have HU := Lib.hid hu
  have HDC := Lib.hid hdec
  clear hu hdec HD1
  obtain ⟨c0, -⟩ := H1.out.cells
  go_wp2_with fail
  refine (nextN_calls wc dg gr dist A c bs q (HDC.out.apart (by omega)) H1.out.rd hdl).mono ?_
  rintro _ w2 ⟨rfl, hr2, hk2⟩
  have H2 := Lib.hid (H1.out.read hr2 hk2)
  have K2 := Lib.hid (K1.out.trans (KT.of_keeps hk2 (fun x hx => .inr (List.mem_singleton.1 hx))))
  have hbd := dec_bd dist bs q HQ.out
  clear hr2 hk2 H1 K1 c0 HDC
  have HC : Hid (copyF dist bs most s out p = if (decF dist bs q).2.1 ≠ 0 then (out, 0, endF (decF dist bs q).2.1 53)
   else if 29 < (decF dist bs q).1 then (out, 0, 53)
   else if 8 * bs.length < q + (decF dist bs q).2.2 + distK (decF dist bs q).1.toNat then (out, 0, 55)
   else if (out.length : Int) < distBase (decF dist bs q).1.toNat + numB bs (q + (decF dist bs q).2.2) (distK (decF dist bs q).1.toNat) then (out, 0, 54)
   else if (layN ((distBase (decF dist bs q).1.toNat : Int) + numB bs (q + (decF dist bs q).2.2) (distK (decF dist bs q).1.toNat)).toNat most N out).2 ≠ 0 then
    ((layN ((distBase (decF dist bs q).1.toNat : Int) + numB bs (q + (decF dist bs q).2.2) (distK (decF dist bs q).1.toNat)).toNat most N out).1, 0, 56)
   else ((layN ((distBase (decF dist bs q).1.toNat : Int) + numB bs (q + (decF dist bs q).2.2) (distK (decF dist bs q).1.toNat)).toNat most N out).1, q + (decF dist bs q).2.2 + distK (decF dist bs q).1.toNat, 0)) := Lib.hid (by
    have h1 := HQ.out
    have h2 := HQE.out
    have h3 := HN.out
    subst h2
    subst h3
    unfold copyF
    rw [if_neg HS.out, if_neg (by omega), if_neg (by rw [HU.out]; simp)])
  generalize decF dist bs q = dr at *
  obtain ⟨sy, er, nn⟩ := dr
  simp only [] at H2 hbd HC ⊢
  rcases hbd with ⟨rfl, d, rfl, hdl2, hq2⟩ | ⟨her, rfl, rfl⟩
  rotate_left
  ·have HR : Hid (copyF dist bs most s out p = (out, 0, endF er 53)) := Lib.hid (by rw [HC.out, if_pos her])
   have HNE : Hid (endF er 53 ≠ 0) := Lib.hid (fun h => her (endF_zero (by decide) h))
   have e5 : (er != 0) = true := by simpa using her
   clear her HC
   go_wp2_with fail
   refine (end_calls w2 er 53).mono ?_
   rintro _ w3 ⟨rfl, hd⟩
   have H3 := Lib.hid (H2.out.keeps (hd.keeps (S := [])))
   have K3 := Lib.hid (K2.out.trans (KT.of_keeps (hd.keeps (S := [])) (by simp)))
   clear hd H2 K2
   generalize endF er 53 = y at *
   go_wp2_with fail
   go_ret
   exact part_err HR.out HNE.out H3.out K3.out
  rw [Int.toNat_natCast] at HC
  by_cases hd29 : 29 < d
  ·have HR : Hid (copyF dist bs most s out p = (out, 0, 53)) := Lib.hid (by rw [HC.out, if_neg (by simp), if_pos (by omega)])
   have e5 : decide (29 < d) = true := by simpa using hd29
   have e5' : decide ((29 : Int) < (d : Int)) = true := by simp; omega
   clear HC
   go_wp2_with fail
   go_ret
   exact part_err HR.out (by decide) H2.out K2.out
  have e5 : decide (29 < d) = false := by simpa using hd29
  have e5' : decide ((29 : Int) < (d : Int)) = false := by simp; omega
  have HC2 := Lib.hid (HC.out.trans (by rw [if_neg (by simp), if_neg (by omega)]))
  clear HC
  obtain ⟨q2, hq2e⟩ : ∃ x, x = q + nn := ⟨_, rfl⟩
  rw [← hq2e] at HC2 H2 hq2
  have HQ2 := Lib.hid hq2e
  clear hq2e
  go_upto_if 71 with (fail)
  go_cut [13] (fun v13 wc2 => ∃ F : Nat, 1 ≤ F ∧ F ≤ 40000 ∧ v13 = .int .i64 F ∧ Hid ((F : Int) = distBase d + numB bs q2 (distK d)) ∧ Hid (q2 + distK d ≤ 8 * bs.length) ∧ Hid (IR wc2 g gr A c bs (q2 + distK d) most out) ∧ Hid (KT g gr w wc2))
  case first =>
   have hd29' : d ≤ 29 := by omega
   by_cases h3 : 3 < d
   ·have e3 : decide (3 < d) = true := by simpa using h3
    have e3' : decide ((3 : Int) < (d : Int)) = true := by simp; omega
    obtain ⟨k, hk⟩ : ∃ k : Nat, k = distK d := ⟨_, rfl⟩
    have hk13 : k ≤ 13 := by rw [hk]; unfold distK; split <;> omega
    have HKK := Lib.hid hk
    have s1 : (d : Int) / 2 - 1 = (k : Int) := by rw [hk]; unfold distK; rw [if_neg (by omega)]; omega
    obtain ⟨r, hr⟩ : ∃ r : Nat, (d : Int) % 2 = (r : Int) := ⟨d % 2, by omega⟩
    have hr4 : r < 2 := by omega
    have HRR : Hid (distBase d = 1 + (2 + r) * 2 ^ k) := Lib.hid (by unfold distBase; rw [if_neg (by omega), ← hk, show d % 2 = r by omega])
    have HR55 : Hid (8 * bs.length < q2 + k → copyF dist bs most s out p = (out, 0, 55)) := Lib.hid (fun h => by rw [HC2.out, if_pos (by rw [← hk]; exact h)])
    clear hk HC2
    go_wp2_with fail
    refine (itake_calls' w2 g gr A c bs q2 most out k _ (by first | rfl | omega) H2.out (by omega)).mono ?_
    rintro _ w3 (⟨hf, rfl, h1, k1⟩ | ⟨hf, rfl, h1, k1⟩)
    ·have HI := Lib.hid h1
     have K3 := Lib.hid (K2.out.trans k1)
     have HF := Lib.hid hf
     clear h1 k1 H2 K2 hf HR55
     obtain ⟨n0, n1⟩ := numB_lt bs q2 k
     have p13 : (2 : Int) ^ k ≤ 8192 := by
      have : (2 : Nat) ^ k ≤ 2 ^ 13 := Nat.pow_le_pow_right (by decide) hk13
      exact_mod_cast this
     obtain ⟨x, hx⟩ : ∃ x : Nat, numB bs q2 k = x := ⟨(numB bs q2 k).toNat, by omega⟩
     have HX := Lib.hid hx
     rw [hx] at n1 ⊢
     clear hx n0
     have t1 : (2 + (r : Int)) * 2 ^ k ≤ 3 * 8192 := Int.mul_le_mul (by omega) p13 (by have := pow_cast k; omega) (by omega)
     have t0 : 0 ≤ (2 + (r : Int)) * 2 ^ k := Int.mul_nonneg (by omega) (by have := pow_cast k; omega)
     have s3 : IntKind.i64.wrap ((2 + (r : Int)) * 2 ^ k) = (2 + (r : Int)) * 2 ^ k := IntWalk.i64_in _ (by omega)
     obtain ⟨y, hy⟩ : ∃ y : Nat, (2 + (r : Int)) * 2 ^ k = y := ⟨((2 + (r : Int)) * 2 ^ k).toNat, by omega⟩
     have HY := Lib.hid hy
     rw [hy] at s3 t0 t1
     go_wp2_with fail
     go_meet
     refine ⟨1 + y + x, by omega, by omega, by go_num, Lib.hid ?_, Lib.hid (by rw [← HKK.out]; exact HF.out), by rw [← HKK.out]; exact HI, K3⟩
     rw [HRR.out, ← HKK.out, HX.out]
     have := HY.out
     push_cast
     omega
    ·have HI := Lib.hid h1
     have K3 := Lib.hid (K2.out.trans k1)
     have HR := Lib.hid (HR55.out hf)
     clear h1 k1 H2 K2 hf HR55
     go_wp2_with fail
     go_ret
     exact part_err HR.out (by decide) HI.out K3.out
   ·have e3 : decide (3 < d) = false := by simpa using h3
    have e3' : decide ((3 : Int) < (d : Int)) = false := by simp; omega
    have hk : distK d = 0 := by unfold distK; rw [if_pos (by omega)]
    have hb : distBase d = d + 1 := by unfold distBase; rw [if_pos (by omega)]
    have HKK := Lib.hid hk
    have HB := Lib.hid hb
    clear hk hb
    go_wp2_with fail
    go_meet
    exact ⟨d + 1, by omega, by omega, by go_num, Lib.hid (by rw [HB.out, HKK.out, numB]; simp), Lib.hid (by rw [HKK.out]; exact hq2), by rw [HKK.out]; exact H2, K2⟩
  case rest =>
   obtain ⟨F, hF1, hF2, rfl, HF, HQ3, H3, K3⟩ := hcut
   clear H2 K2
   obtain ⟨q3, hq3⟩ : ∃ x, x = q2 + distK d := ⟨_, rfl⟩
   have HC3 : Hid (copyF dist bs most s out p = if out.length < F then (out, 0, 54) else if (layN F most N out).2 ≠ 0 then ((layN F most N out).1, 0, 56) else ((layN F most N out).1, q3, 0)) := Lib.hid (by
    rw [HC2.out, if_neg (by have := HQ3.out; omega), ← HF.out, hq3, Int.toNat_natCast]
    by_cases h : out.length < F
    ·rw [if_pos h, if_pos (by omega)]
    ·rw [if_neg h, if_neg (by omega)])
   rw [← hq3] at H3
   clear hq3 HC2 HF HQ3
   obtain ⟨-, A3, c3, hc1, -⟩ := H3.out.cells
   obtain ⟨Lo, hLo⟩ : ∃ L, L = out.length := ⟨_, rfl⟩
   have HLo := Lib.hid hLo
   rw [← hLo] at hc1 HC3
   clear hLo
   by_cases hfar : Lo < F
   ·have e6 : decide (Lo < F) = true := by simpa using hfar
    have e6' : decide ((Lo : Int) < (F : Int)) = true := by simp; omega
    have HR : Hid (copyF dist bs most s out p = (out, 0, 54)) := Lib.hid (by rw [HC3.out, if_pos hfar])
    clear HC3
    go_wp2_with fail
    go_ret
    exact part_err HR.out (by decide) H3.out K3.out
   have e6 : decide (Lo < F) = false := by simpa using hfar
   have e6' : decide ((Lo : Int) < (F : Int)) = false := by simp; omega
   have HC4 : Hid (copyF dist bs most s out p = if (layN F most N out).2 ≠ 0 then ((layN F most N out).1, 0, 56) else ((layN F most N out).1, q3, 0)) := Lib.hid (by rw [HC3.out, if_neg hfar])
   have HFL : Hid (F ≤ out.length) := Lib.hid (by have := HLo.out; omega)
   clear HC3
   go_wp2_with fail
   clear hc1 e6 e6' hfar HLo
   go_loopw [100] (fun iv wr => ∃ (i : Nat) (o : List Int), i ≤ N ∧ iv = .int .i64 i ∧ Hid (layN F most N out = layN F most (N - i) o) ∧ Hid (F ≤ o.length) ∧ Hid (IR wr g gr A c bs q3 most o) ∧ Hid (KT g gr w wr)) (fun iv _ => N - (intOf iv).toNat)
   case atStart => exact ⟨0, out, by omega, rfl, Lib.hid rfl, HFL, H3, K3⟩
   case round =>
    clear H3 K3 HFL
    obtain ⟨i, o, hi, rfl, HS2, HFL, H, K⟩ := hrel
    by_cases hlt : i < N
    ·have e0 : decide (i < N) = true := by simpa using hlt
     have HL' : Hid (layN F most (N - i) o = if most ≤ o.length then (o, 56) else layN F most (N - (i + 1)) (o ++ [nth o (o.length - F)])) := Lib.hid (by rw [show N - i = (N - (i + 1)) + 1 by omega, layN])
     obtain ⟨-, A4, c4, hc1, hri⟩ := H.out.cells
     have hfl := HFL.out
     obtain ⟨Lo, hLo⟩ : ∃ L, L = o.length := ⟨_, rfl⟩
     have HLo := Lib.hid hLo
     rw [← hLo] at hc1 hri hfl
     have hLb : Lo ≤ 16384 := by have := H.out.cap; have := H.out.mx; omega
     clear hLo
     obtain ⟨b4, o4, hA4, hcc⟩ := hri.at (show Lo - F < Lo by omega)
     subst hA4
     obtain ⟨x, hx⟩ : ∃ x, x = nth o (Lo - F) := ⟨_, rfl⟩
     rw [← hx] at hcc
     have HX : Hid (x = nth o (o.length - F)) := Lib.hid (by rw [hx, HLo.out])
     clear hx hri
     have s1 : IntKind.i64.wrap ((Lo : Int) - (F : Int)) = (Lo : Int) - (F : Int) := IntWalk.i64_in _ (by omega)
     have s2 : (0 : Int) ≤ (Lo : Int) - (F : Int) := by omega
     have s3 : (Lo : Int) - (F : Int) < (Lo : Int) := by omega
     have s4 : ((Lo : Int) - (F : Int)).toNat = Lo - F := by omega
     go_wp2_with fail
     go_still_tail 14, (by kernel_rfl)
     change wpList _ _ _ _ _ wr.drew
     have hdr := (Keeps.refl [] wr).drew
     have Hd := Lib.hid (H.out.keeps hdr)
     have Kd := Lib.hid (K.out.trans (KT.of_keeps hdr (by simp)))
     clear hdr H K hc1 hcc s1 s2 s3 s4
     go_wp2_with fail
     refine (lay_calls wr.drew g gr A c bs q3 most o x Hd.out).mono ?_
     rintro _ w5 (⟨hm, rfl, h5, k5⟩ | ⟨hm, rfl, h5, k5⟩)
     ·have H5 := Lib.hid h5
      have K5 := Lib.hid (Kd.out.trans k5)
      have HE : Hid (copyF dist bs most s out p = (o, 0, 56)) := Lib.hid (by rw [HC4.out, HS2.out, HL'.out, if_pos hm]; rfl)
      clear h5 k5 Hd Kd HS2 HL' HC4
      go_wp2_with fail
      go_ret
      exact part_err HE.out (by decide) H5.out K5.out
     ·have H5 := Lib.hid h5
      have K5 := Lib.hid (Kd.out.trans k5)
      have HS3 : Hid (layN F most N out = layN F most (N - (i + 1)) (o ++ [x])) := Lib.hid (by rw [HS2.out, HL'.out, if_neg (by omega), HX.out])
      clear h5 k5 Hd Kd HS2 HL'
      go_wp2_with fail
      go_roundw
      case rel => exact ⟨i + 1, o ++ [x], by omega, by go_num, HS3, Lib.hid (by have := HFL.out; rw [List.length_append]; omega), H5, K5⟩
      case measure => simp [intOf]; omega
    ·obtain rfl : i = N := by omega
     have e0 : decide (i < i) = false := by simp
     have HE : Hid (copyF dist bs most s out p = (o, q3, 0)) := Lib.hid (by rw [HC4.out, HS2.out, Nat.sub_self, layN, if_neg (by simp)])
     clear HS2 HC4
     go_wp2_with fail
     go_ret
     exact part_ok HE.out H.out K.out
open Go.RowKit
theorem KT.below {g gr : Nat} {w w' : World} (h : Below w.heap.size w w') : KT g gr w w' := KT.of_keeps (Keeps.of_below h (S := [])) (by simp)
theorem symbols_calls (w : World) (g gr : Nat) (A : Option Addr) (c : Nat) (bs : List Int) (p most : Nat) (out lit dist : List Int) (A1 A2 : Option Addr) (n1 n2 c1 c2 : Nat) (h : IR w g gr A c bs p most out)
  (hl : RI .i64 w A1 n1 lit) (hd : RI .i64 w A2 n2 dist) (hn1 : n1 ≤ 288) (hn2 : 1 ≤ n2) (hn3 : n2 ≤ 288) (hc1 : checkF lit = 0) (hc2 : anyUsed dist = true → checkF dist = 0) :
  Calls Tryz.prog 144 #[.pointer (some ⟨g, 0, none⟩), .slice A1 n1 c1, .slice A2 n2 c2] w (Part w g gr A c bs most (symF lit dist bs most (8 * bs.length + 1) out p)) := by
 have H := Lib.hid h
 have HL := Lib.hid hl
 have HDI := Lib.hid hd
 have HC1 := Lib.hid hc1
 have HC2 := Lib.hid hc2
 have hgr := h.lt
 have HN1 := Lib.hid hl.len
 have HN2 := Lib.hid hd.len
 clear h hl hd hc1 hc2
 go_enter Tryz.func144, Tryz.ntmps144
 go_wp2_with fail
 go_step3
 go_wp2_with fail
 refine (new_calls w A1 n1 c1 lit HL.out (by omega)).mono ?_
 rintro _ w1 ⟨hb, hm⟩
 rw [if_pos HC1.out] at hm
 obtain ⟨dl, rfl, hdl, hdlg⟩ := hm
 have hg1 := H.out.glt
 have hk1 := Keeps.of_below hb (S := [])
 have H1 := Lib.hid (H.out.keeps hk1)
 have K1 : Hid (KT g gr w w1) := Lib.hid (KT.below hb)
 have HDL := Lib.hid hdl
 have HD1 := Lib.hid (HDI.out.keeps hk1 (off_nil _))
 have hgdl : g < dl := by omega
 clear hb hk1 H HL HDI hdl hdlg hg1
 go_wp2_with fail
 refine (iused_calls w1 A2 n2 c2 dist HD1.out hn2 (by omega)).mono ?_
 rintro _ w2 ⟨rfl, hd2⟩
 have hk2 := hd2.keeps (S := [])
 have H2 := Lib.hid (H1.out.keeps hk2)
 have K2 := Lib.hid (K1.out.trans (KT.of_keeps hk2 (by simp)))
 have HDL2 := Lib.hid (dec_kt HDL.out (KT.of_keeps (g := g) (gr := gr) hk2 (by simp)) hgdl hgr)
 have HD2 := Lib.hid (HD1.out.keeps hk2 (off_nil _))
 clear hd2 hk2 H1 K1 HDL HD1
 obtain ⟨u, hu⟩ : ∃ u, u = anyUsed dist := ⟨_, rfl⟩
 have HU := Lib.hid hu
 rw [← hu]
 clear hu
 go_upto_if 18 with (fail)
 go_cut [9] (fun v9 wc => ∃ D : Option Addr, v9 = .pointer D ∧ Hid (DistD wc g dist D) ∧ Hid (IR wc g gr A c bs p most out) ∧ Hid (KT g gr w wc) ∧ Hid (Dec wc dl lit))
 case first =>
  cases u with
  | false =>
   go_wp2_with fail
   go_meet
   exact ⟨none, rfl, Lib.hid ⟨by rw [HN2.out]; exact hn3, .inl ⟨HU.out.symm, rfl⟩⟩, H2, K2, HDL2⟩
  | true =>
   go_wp2_with fail
   refine (new_calls w2 A2 n2 c2 dist HD2.out (by omega)).mono ?_
   rintro _ w3 ⟨hb, hm⟩
   rw [if_pos (HC2.out HU.out.symm)] at hm
   obtain ⟨dd, rfl, hdd, hddg⟩ := hm
   have hg2 := H2.out.glt
   have hk3 := Keeps.of_below hb (S := [])
   have H3 := Lib.hid (H2.out.keeps hk3)
   have K3 := Lib.hid (K2.out.trans (KT.below hb))
   have HDD := Lib.hid hdd
   have HDL3 := Lib.hid (dec_kt HDL2.out (KT.below (g := g) (gr := gr) hb) hgdl hgr)
   clear hb hk3 H2 K2 HDL2 HD2 hdd
   go_wp2_with fail
   go_meet
   exact ⟨some ⟨dd, 0, none⟩, rfl, Lib.hid ⟨by rw [HN2.out]; exact hn3, .inr ⟨HU.out.symm, dd, rfl, by omega, HDD.out⟩⟩, H3, K3, HDL3⟩
 case rest =>
  obtain ⟨D, rfl, HDD, H3, K3, HDL3⟩ := hcut
  clear H2 K2 HDL2 HD2 HU HC2
  go_wp2_with fail
  go_step3
  go_wp2_with fail
  go_loopg [11] (8 * bs.length + 1) (fun k v11 wr => ∃ (q : Nat) (o : List Int), 8 * bs.length - q < k ∧ Hid (q ≤ 8 * bs.length) ∧ Hid (symF lit dist bs most (8 * bs.length + 1) out p = symF lit dist bs most k o q) ∧ Hid (IR wr g gr A c bs q most o) ∧ Hid (DistD wr g dist D) ∧ Hid (Dec wr dl lit) ∧ Hid (KT g gr w wr))
  case atStart => exact ⟨p, out, by omega, Lib.hid H3.out.rd.le, Lib.hid rfl, H3, HDD, HDL3, K3⟩
  case round =>
   clear HDD H3 K3 HDL3
   obtain ⟨q, o, hk, HQ, HS, H, HDD, HDL, K⟩ := hrel
   obtain ⟨f, rfl⟩ : ∃ f, gk = f + 1 := ⟨gk - 1, by omega⟩
   obtain ⟨c0, -⟩ := H.out.cells
   go_wp2_with fail
   refine (nextN_calls wr dl gr lit A c bs q (HDL.out.apart (by omega)) H.out.rd (by rw [HN1.out]; exact hn1)).mono ?_
   rintro _ w2 ⟨rfl, hr2, hk2⟩
   have hkt := KT.of_keeps (g := g) (gr := gr) hk2 (fun x hx => .inr (List.mem_singleton.1 hx))
   have H2 := Lib.hid (H.out.read hr2 hk2)
   have K2 := Lib.hid (K.out.trans hkt)
   have HDD2 := Lib.hid (HDD.out.kt hkt hgr)
   have HDL2 := Lib.hid (dec_kt HDL.out hkt hgdl hgr)
   have hbd := dec_bd lit bs q HQ.out
   have hadv := dec_adv lit bs q HQ.out
   have HS2 : Hid (symF lit dist bs most (8 * bs.length + 1) out p = if (decF lit bs q).2.1 ≠ 0 then (o, 0, endF (decF lit bs q).2.1 53)
    else if (decF lit bs q).1 = 256 then (o, q + (decF lit bs q).2.2, 0)
    else if (decF lit bs q).1 < 256 then
     if most ≤ o.length then (o, 0, 56) else symF lit dist bs most f (o ++ [(decF lit bs q).1]) (q + (decF lit bs q).2.2)
    else if (copyF dist bs most (decF lit bs q).1.toNat o (q + (decF lit bs q).2.2)).2.2 ≠ 0 then copyF dist bs most (decF lit bs q).1.toNat o (q + (decF lit bs q).2.2)
    else symF lit dist bs most f (copyF dist bs most (decF lit bs q).1.toNat o (q + (decF lit bs q).2.2)).1 (copyF dist bs most (decF lit bs q).1.toNat o (q + (decF lit bs q).2.2)).2.1) := Lib.hid (by rw [HS.out, symF])
   clear hr2 hk2 hkt H K c0 HDD HDL HS
   generalize decF lit bs q = dr at *
   obtain ⟨sy, er, nn⟩ := dr
   simp only [] at H2 hbd hadv HS2 ⊢
   rcases hbd with ⟨rfl, d, rfl, hdl2, hq2⟩ | ⟨her, rfl, rfl⟩
   rotate_left
   ·have HR : Hid (symF lit dist bs most (8 * bs.length + 1) out p = (o, 0, endF er 53)) := Lib.hid (by rw [HS2.out, if_pos her])
    have HNE : Hid (endF er 53 ≠ 0) := Lib.hid (fun h => her (endF_zero (by decide) h))
    have e5 : (er != 0) = true := by simpa using her
    clear her HS2 hadv
    go_wp2_with fail
    refine (end_calls w2 er 53).mono ?_
    rintro _ w3 ⟨rfl, hd⟩
    have H3 := Lib.hid (H2.out.keeps (hd.keeps (S := [])))
    have K3 := Lib.hid (K2.out.trans (KT.of_keeps (hd.keeps (S := [])) (by simp)))
    clear hd H2 K2
    generalize endF er 53 = y at *
    go_wp2_with fail
    rw [Exit.noGoto_ret]
    go_ret
    exact part_err HR.out HNE.out H3.out K3.out
   obtain ⟨hn1', -, -, -⟩ := hadv rfl
   rw [Int.toNat_natCast] at HS2
   have hdl3 : d < 288 := by rw [HN1.out] at hdl2; omega
   have HQ2 : Hid (q + nn ≤ 8 * bs.length) := Lib.hid hq2
   clear hadv hdl2 hq2
   by_cases h256 : d = 256
   ·subst h256
    have HR : Hid (symF lit dist bs most (8 * bs.length + 1) out p = (o, q + nn, 0)) := Lib.hid (by rw [HS2.out, if_neg (by simp), if_pos (by decide)])
    have e6 : (((256 : Nat) : Int) == 256) = true := by decide
    clear HS2
    go_wp2_with fail
    rw [Exit.noGoto_ret]
    go_ret
    exact part_ok HR.out H2.out K2.out
   have e6 : ((d : Int) == 256) = false := by simp; omega
   by_cases hlt : d < 256
   ·have e7 : decide (d < 256) = true := by simpa using hlt
    have e7' : decide ((d : Int) < 256) = true := by simp; omega
    have s1 : IntKind.u8.wrap (d : Int) = d := by rw [IntKind.wrap_u8]; omega
    have HS3 := Lib.hid (HS2.out.trans (by rw [if_neg (by simp), if_neg (by omega), if_pos (by omega)]))
    clear HS2
    go_wp2_with fail
    refine (lay_calls w2 g gr A c bs (q + nn) most o d H2.out).mono ?_
    rintro _ w3 (⟨hm, rfl, h3, k3⟩ | ⟨hm, rfl, h3, k3⟩)
    ·have H3 := Lib.hid h3
     have K3 := Lib.hid (K2.out.trans k3)
     have HE : Hid (symF lit dist bs most (8 * bs.length + 1) out p = (o, 0, 56)) := Lib.hid (by rw [HS3.out, if_pos hm])
     clear h3 k3 H2 K2 HS3
     go_wp2_with fail
     rw [Exit.noGoto_ret]
     go_ret
     exact part_err HE.out (by decide) H3.out K3.out
    ·have H3 := Lib.hid h3
     have K3 := Lib.hid (K2.out.trans k3)
     have HE : Hid (symF lit dist bs most (8 * bs.length + 1) out p = symF lit dist bs most f (o ++ [(d : Int)]) (q + nn)) := Lib.hid (by rw [HS3.out, if_neg (by omega)])
     have HDD3 := Lib.hid (HDD2.out.kt k3 hgr)
     have HDL3 := Lib.hid (dec_kt HDL2.out k3 hgdl hgr)
     clear h3 k3 H2 K2 HS3 HDD2 HDL2
     go_wp2_with fail
     go_roundg f
     case measure => omega
     case rel => exact ⟨q + nn, o ++ [(d : Int)], by have := HQ2.out; omega, HQ2, HE, H3, HDD3, HDL3, K3⟩
   ·have e7 : decide (d < 256) = false := by simpa using hlt
    have e7' : decide ((d : Int) < 256) = false := by simp; omega
    have HS3 := Lib.hid (HS2.out.trans (by rw [if_neg (by simp), if_neg (by omega), if_neg (by omega)]))
    clear HS2
    go_wp2_with fail
    refine (copies_calls w2 g gr A c bs (q + nn) most o dist d D H2.out HDD2.out (by omega) (by omega)).mono ?_
    rintro _ w3 ⟨q3, rfl, h3, k3, hq3⟩
    have HP := Lib.hid (copyF_pos dist bs most d o (q + nn) HQ2.out)
    have H3 := Lib.hid h3
    have K3 := Lib.hid (K2.out.trans k3)
    have HDD3 := Lib.hid (HDD2.out.kt k3 hgr)
    have HDL3 := Lib.hid (dec_kt HDL2.out k3 hgdl hgr)
    have HQ3 := Lib.hid hq3
    clear h3 k3 H2 K2 HDD2 HDL2 hq3
    generalize copyF dist bs most d o (q + nn) = cr at *
    obtain ⟨o3, p3, er⟩ := cr
    simp only [] at HP H3 HQ3 HS3 ⊢
    by_cases her : er = 0
    ·subst her
     obtain ⟨a1, a2⟩ := HP.out rfl
     obtain rfl := HQ3.out rfl
     have HE : Hid (symF lit dist bs most (8 * bs.length + 1) out p = symF lit dist bs most f o3 q3) := Lib.hid (by rw [HS3.out, if_neg (by simp)])
     clear HS3 HP HQ3
     go_wp2_with fail
     go_roundg f
     case measure => omega
     case rel => exact ⟨q3, o3, by have := HQ2.out; omega, Lib.hid a2, HE, H3, HDD3, HDL3, K3⟩
    ·have e8 : (er != 0) = true := by simpa using her
     have HE : Hid (symF lit dist bs most (8 * bs.length + 1) out p = (o3, p3, er)) := Lib.hid (by rw [HS3.out, if_pos her])
     have HER := Lib.hid her
     clear HS3 HP HQ3 her
     go_wp2_with fail
     rw [Exit.noGoto_ret]
     go_ret
     exact ⟨q3, by rw [HE.out]; rfl, by rw [HE.out]; exact H3.out, K3.out, fun h => by rw [HE.out] at h; exact absurd h HER.out⟩
open Go.RowKit
theorem blocks_calls (w : World) (g gr : Nat) (A : Option Addr) (c : Nat) (bs : List Int) (p most : Nat) (out : List Int) (hT : Tabs w) (hg : gtop ≤ gr) (h : IR w g gr A c bs p most out) :
  Calls Tryz.prog 128 #[.pointer (some ⟨g, 0, none⟩)] w (Part w g gr A c bs most (blksF bs most (8 * bs.length + 1) out p)) := by
 have H := Lib.hid h
 have HT := Lib.hid hT
 have hgr := h.lt
 clear h hT
 go_enter Tryz.func128, Tryz.ntmps128
 go_wp2_with fail
 go_step3
 go_wp2_with fail
 go_step3
 go_wp2_with fail
 go_loopg [9] (8 * bs.length + 1) (fun k v9 wr => ∃ (q : Nat) (o : List Int), 8 * bs.length - q < k ∧ Hid (q ≤ 8 * bs.length) ∧ Hid (blksF bs most (8 * bs.length + 1) out p = blksF bs most k o q) ∧ Hid (IR wr g gr A c bs q most o) ∧ Hid (KT g gr w wr))
 case atStart => exact ⟨p, out, by omega, Lib.hid H.out.rd.le, Lib.hid rfl, H, Lib.hid (KT.refl _ _ _)⟩
 case round =>
  clear H
  obtain ⟨q, o, hk, HQ, HS, H, K⟩ := hrel
  obtain ⟨f, rfl⟩ : ∃ f, gk = f + 1 := ⟨gk - 1, by omega⟩
  have HS2 : Hid (blksF bs most (8 * bs.length + 1) out p = if 8 * bs.length < q + 1 then (o, 0, 55)
   else if 8 * bs.length < q + 3 then (o, 0, 55)
   else if (blockF bs most (numB bs (q + 1) 2) o (q + 3)).2.2 ≠ 0 then blockF bs most (numB bs (q + 1) 2) o (q + 3)
   else if numB bs q 1 = 0 then blksF bs most f (blockF bs most (numB bs (q + 1) 2) o (q + 3)).1 (blockF bs most (numB bs (q + 1) 2) o (q + 3)).2.1
   else blockF bs most (numB bs (q + 1) 2) o (q + 3)) := Lib.hid (by rw [HS.out, blksF])
  clear HS
  go_wp2_with fail
  refine (itake_calls wr g gr A c bs q most o 1 H.out (by omega)).mono ?_
  rintro _ w1 (⟨hf, rfl, h1, k1⟩ | ⟨hf, rfl, h1, k1⟩)
  rotate_left
  ·have H1 := Lib.hid h1
   have K1 := Lib.hid (K.out.trans k1)
   have HE : Hid (blksF bs most (8 * bs.length + 1) out p = (o, 0, 55)) := Lib.hid (by rw [HS2.out, if_pos hf])
   clear h1 k1 H K HS2
   go_wp2_with fail
   rw [Exit.noGoto_ret]
   go_ret
   exact part_err HE.out (by decide) H1.out K1.out
  have H1 := Lib.hid h1
  have K1 := Lib.hid (K.out.trans k1)
  clear h1 k1 H K
  obtain ⟨l0, l1⟩ := numB_lt bs q 1
  rw [show (2 : Int) ^ 1 = 2 from rfl] at l1
  obtain ⟨la, hla⟩ : ∃ la, la = numB bs q 1 := ⟨_, rfl⟩
  rw [← hla] at l0 l1 HS2 ⊢
  clear hla
  go_wp2_with fail
  refine (itake_calls w1 g gr A c bs (q + 1) most o 2 H1.out (by omega)).mono ?_
  rintro _ w2 (⟨hf2, rfl, h2, k2⟩ | ⟨hf2, rfl, h2, k2⟩)
  rotate_left
  ·have H2 := Lib.hid h2
   have K2 := Lib.hid (K1.out.trans k2)
   have HE : Hid (blksF bs most (8 * bs.length + 1) out p = (o, 0, 55)) := Lib.hid (by rw [HS2.out, if_neg (by omega), if_pos (by omega)])
   clear h2 k2 H1 K1 HS2
   go_wp2_with fail
   rw [Exit.noGoto_ret]
   go_ret
   exact part_err HE.out (by decide) H2.out K2.out
  have H2 := Lib.hid h2
  have K2 := Lib.hid (K1.out.trans k2)
  have HT2 := Lib.hid (tabs_kt HT.out K2.out hg hgr)
  clear h2 k2 H1 K1
  obtain ⟨n0, n1⟩ := numB_lt bs (q + 1) 2
  rw [show (2 : Int) ^ 2 = 4 from rfl] at n1
  obtain ⟨ki, hki⟩ : ∃ ki, ki = numB bs (q + 1) 2 := ⟨_, rfl⟩
  rw [← hki] at n0 n1 HS2 ⊢
  clear hki
  have HS3 := Lib.hid (HS2.out.trans (by rw [if_neg (by omega), if_neg (by omega)]))
  have HQ3 : Hid (q + 3 ≤ 8 * bs.length) := Lib.hid (by omega)
  clear HS2
  go_upto_block 2 with (fail)
  have HB : Hid (blockF bs most ki o (q + 3) = if ki = 0 then storedF bs most o (q + 3)
   else if ki = 1 then symF fixLit fixDist bs most (8 * bs.length + 1) o (q + 3)
   else if ki = 2 then
    if codesE (headF bs (q + 3)) ≠ 0 then (o, 0, codesE (headF bs (q + 3)))
    else symF (headF bs (q + 3)).1 (headF bs (q + 3)).2.1 bs most (8 * bs.length + 1) o (q + 3 + (headF bs (q + 3)).2.2.1)
   else (o, 0, 50)) := Lib.hid rfl
  obtain ⟨br, hbr⟩ : ∃ br, br = blockF bs most ki o (q + 3) := ⟨_, rfl⟩
  have HP : Hid (br.2.2 = 0 → q + 3 ≤ br.2.1 ∧ br.2.1 ≤ 8 * bs.length) := Lib.hid (fun h => by rw [hbr] at h ⊢; exact blockF_pos bs most ki o (q + 3) HQ3.out h)
  rw [← hbr] at HB HS3
  clear hbr
  go_cut [4] (fun v4 wc => ∃ q', v4 = .int .i64 br.2.2 ∧ Hid (br.2.2 = 0 → q' = br.2.1) ∧ Hid (IR wc g gr A c bs q' most br.1) ∧ Hid (KT g gr w wc))
  case first =>
   clear HS3 HP
   by_cases h0 : ki = 0
   ·subst h0
    have HB0 := Lib.hid (HB.out.trans (if_pos rfl))
    clear HB
    go_wp2_with fail
    refine (stored_calls w2 g gr A c bs (q + 1 + 2) most o H2.out).mono ?_
    rintro _ w3 ⟨q', rfl, h3, k3, hq3⟩
    have H3 := Lib.hid h3
    have K3 := Lib.hid (K2.out.trans k3)
    have HQ' := Lib.hid hq3
    clear h3 k3 hq3 H2 K2
    rw [show q + 1 + 2 = q + 3 by omega, ← HB0.out] at H3 HQ' ⊢
    generalize br.2.2 = er at *
    go_wp2_with fail
    go_meet
    exact ⟨q', rfl, HQ', H3, K3⟩
   have e0 : (ki == 0) = false := by simpa using h0
   have e0' : decide (ki = 0) = false := by simpa using h0
   by_cases h1 : ki = 1
   ·subst h1
    have HB0 := Lib.hid (HB.out.trans ((if_neg (by decide)).trans (if_pos rfl)))
    clear HB
    go_wp2_with fail
    refine (fixed_calls w2).mono ?_
    rintro _ w3 ⟨v1, g2, rfl, ho1, hb2, hg2, hw3⟩
    have hk3 := Keeps.of_below hw3 (S := [])
    have H3 := Lib.hid (H2.out.keeps hk3)
    have K3 := Lib.hid (K2.out.trans (KT.below hw3))
    obtain ⟨A1, c1, rfl, hri1, -, -⟩ := own_ri ho1
    have hri2 : RI .i64 w3 (some ⟨g2, 0, none⟩) 32 fixDist := by
     have := Blk.ri (xs := fixDist) (ys := []) (k := .i64) (by simpa using hb2)
     rwa [fix_info.2.2.2.2] at this
    have HR1 := Lib.hid hri1
    have HR2 := Lib.hid hri2
    clear ho1 hb2 hg2 hw3 hk3 hri1 hri2 H2 K2
    go_wp2_with fail
    refine (symbols_calls w3 g gr A c bs (q + 1 + 2) most o fixLit fixDist A1 (some ⟨g2, 0, none⟩) 288 32 c1 32 H3.out HR1.out HR2.out (by omega) (by omega) (by omega) fix_info.1 (fun _ => fix_info.2.1)).mono ?_
    rintro _ w4 ⟨q', rfl, h4, k4, hq4⟩
    have H4 := Lib.hid h4
    have K4 := Lib.hid (K3.out.trans k4)
    have HQ' := Lib.hid hq4
    clear h4 k4 hq4 H3 K3 HR1 HR2
    rw [show q + 1 + 2 = q + 3 by omega, ← HB0.out] at H4 HQ' ⊢
    generalize br.2.2 = er at *
    go_wp2_with fail
    go_meet
    exact ⟨q', rfl, HQ', H4, K4⟩
   have e1 : (ki == 1) = false := by simpa using h1
   have e1' : decide (ki = 1) = false := by simpa using h1
   by_cases h2 : ki = 2
   ·subst h2
    have HB0 := Lib.hid (HB.out.trans ((if_neg (by decide)).trans ((if_neg (by decide)).trans (if_pos rfl))))
    clear HB
    go_wp2_with fail
    refine (head_calls w2 g gr A c bs (q + 1 + 2) most o HT2.out hg H2.out).mono ?_
    have hfull := @head_full bs (q + 1 + 2)
    rw [show q + 1 + 2 = q + 3 by omega] at hfull ⊢
    have hl1 := litF_le bs (q + 3)
    have hl2 := distF_le bs (q + 3)
    have hl3 : 1 ≤ distF bs (q + 3) := by unfold distF; omega
    rintro _ w3 (⟨hne, q', rfl, h3, k3⟩ | ⟨heq, v1, v2, rfl, ho1, ho2, h3, k3⟩)
    ·have H3 := Lib.hid h3
     have K3 := Lib.hid (K2.out.trans k3)
     have HB1 := Lib.hid (HB0.out.trans (if_pos hne))
     have HNE : Hid (br.2.2 ≠ 0) := Lib.hid (by rw [HB1.out]; exact hne)
     have e2 : (codesE (headF bs (q + 3)) == 0) = false := by simpa using hne
     have hbe : codesE (headF bs (q + 3)) = br.2.2 := by rw [HB1.out]
     have hbo : o = br.1 := by rw [HB1.out]
     rw [hbo] at H3
     rw [hbe] at e2 ⊢
     clear h3 k3 H2 K2 HB0 HB1 hne hbe hbo hfull
     generalize br.2.2 = er at *
     go_wp2_with fail
     go_meet
     exact ⟨q', rfl, Lib.hid (fun h => absurd h HNE.out), H3, K3⟩
    ·have HB1 := Lib.hid (HB0.out.trans (if_neg (by rw [heq]; simp)))
     obtain ⟨hz, hck1, hck2⟩ := codesE_ok heq
     obtain ⟨hf1, hf2⟩ := hfull hz
     have H3 := Lib.hid h3
     have K3 := Lib.hid (K2.out.trans k3)
     obtain ⟨A1, c1, rfl, hri1, -, -⟩ := own_ri ho1
     obtain ⟨A2, c2, rfl, hri2, -, -⟩ := own_ri ho2
     have HR1 := Lib.hid hri1
     have HR2 := Lib.hid hri2
     have HCK1 := Lib.hid hck1
     have HCK2 := Lib.hid hck2
     have b1 : (headF bs (q + 3)).1.length ≤ 288 := by omega
     have b2 : 1 ≤ (headF bs (q + 3)).2.1.length := by omega
     have b3 : (headF bs (q + 3)).2.1.length ≤ 288 := by omega
     clear h3 k3 H2 K2 HB0 ho1 ho2 hri1 hri2 hfull hck1 hck2 hz heq hf1 hf2
     generalize headF bs (q + 3) = hd at *
     obtain ⟨L1, L2, nn, er0⟩ := hd
     simp only [] at H3 HR1 HR2 HCK1 HCK2 b1 b2 b3 HB1 ⊢
     obtain ⟨n1, hn1⟩ : ∃ n, n = L1.length := ⟨_, rfl⟩
     obtain ⟨n2, hn2⟩ : ∃ n, n = L2.length := ⟨_, rfl⟩
     rw [← hn1] at b1 HR1 ⊢
     rw [← hn2] at b2 b3 HR2 ⊢
     clear hn1 hn2
     go_wp2_with fail
     refine (symbols_calls w3 g gr A c bs (q + 3 + nn) most o L1 L2 A1 A2 n1 n2 c1 c2 H3.out HR1.out HR2.out b1 b2 b3 HCK1.out HCK2.out).mono ?_
     rintro _ w4 ⟨q', rfl, h4, k4, hq4⟩
     have H4 := Lib.hid h4
     have K4 := Lib.hid (K3.out.trans k4)
     have HQ' := Lib.hid hq4
     clear h4 k4 hq4 H3 K3 HR1 HR2
     rw [← HB1.out] at H4 HQ' ⊢
     generalize br.2.2 = er at *
     go_wp2_with fail
     go_meet
     exact ⟨q', rfl, HQ', H4, K4⟩
   ·obtain rfl : ki = 3 := by omega
    have HB0 := Lib.hid (HB.out.trans ((if_neg (by decide)).trans ((if_neg (by decide)).trans (if_neg (by decide)))))
    have hbo : o = br.1 := by rw [HB0.out]
    have hbe : (50 : Int) = br.2.2 := by rw [HB0.out]
    have HBE := Lib.hid hbe
    rw [hbo] at H2
    clear HB hbo hbe
    go_wp2_with fail
    go_meet
    exact ⟨_, by rw [← HBE.out], Lib.hid (fun h => by have := HBE.out; omega), H2, K2⟩
  case rest =>
   obtain ⟨q', rfl, HQ', H3, K3⟩ := hcut
   clear H2 K2 HB
   obtain ⟨o3, p3, er⟩ := br
   simp only [] at HQ' H3 HP HS3 ⊢
   by_cases her : er = 0
   ·subst her
    obtain ⟨a1, a2⟩ := HP.out rfl
    obtain rfl := HQ'.out rfl
    have HS4 : Hid (blksF bs most (8 * bs.length + 1) out p = if la = 0 then blksF bs most f o3 q' else (o3, q', 0)) := Lib.hid (by rw [HS3.out, if_neg (by simp)])
    clear HS3 HP HQ'
    by_cases hla : la = 0
    ·subst hla
     have HE := Lib.hid (HS4.out.trans (if_pos rfl))
     clear HS4
     go_wp2_with fail
     go_roundg f
     case measure => omega
     case rel => exact ⟨q', o3, by omega, Lib.hid a2, HE, H3, K3⟩
    ·have e5 : (la == 0) = false := by simpa using hla
     have HE := Lib.hid (HS4.out.trans (if_neg hla))
     clear HS4 hla
     go_wp2_with fail
     rw [Exit.noGoto_ret]
     go_ret
     exact part_ok HE.out H3.out K3.out
   ·have e5 : (er != 0) = true := by simpa using her
    have HE : Hid (blksF bs most (8 * bs.length + 1) out p = (o3, p3, er)) := Lib.hid (by rw [HS3.out, if_pos her])
    have HER := Lib.hid her
    clear HS3 HP HQ' her
    go_wp2_with fail
    rw [Exit.noGoto_ret]
    go_ret
    exact ⟨q', by rw [HE.out]; rfl, by rw [HE.out]; exact H3.out, K3.out, fun h => by rw [HE.out] at h; exact absurd h HER.out⟩
end Go.Proofs.YtghjlpechjggjaaGreatDoor
