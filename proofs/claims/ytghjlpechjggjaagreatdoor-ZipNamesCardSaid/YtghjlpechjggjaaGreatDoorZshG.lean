import Derived.Test.YtghjlpechjggjaaGreatDoorZshB
import Derived.Test.YtghjlpechjggjaaGreatDoorZshE
import Derived.Test.YtghjlpechjggjaaGreatDoorZshC
import Derived.Test.YtghjlpechjggjaaGreatDoorZshF
import Derived.StillTailTactics
import Derived.WalkMore
import Derived.Test.YtghjlpechjggjaaGreatDoorZshD
import Derived.BigQuiet
import Derived.Test.YtghjlpechjggjaaGreatDoorZshA
import Derived.Deep.Onto
import Derived.Deep.RegionLaw
import Derived.Maps.OwnSet
import Derived.Orders
set_option linter.unusedVariables false
set_option linter.unusedSimpArgs false
set_option linter.constructorNameAsVariable false
set_option maxRecDepth 100000
set_option maxHeartbeats 60000000
namespace Go.Proofs.YtghjlpechjggjaaGreatDoor
open Go.RowKit
theorem arr19 : Tryz.prog.underlying 164 = some (.array (Tryz.prog.arrayLen 164) (Tryz.prog.elem 164)) := by kernel_rfl
theorem len19 : Tryz.prog.arrayLen 164 = 19 := by kernel_rfl
theorem elem19 : Tryz.prog.elem 164 = 3 := by kernel_rfl
theorem slice_arr (w : World) (b mn : Nat) (h : mn ≤ 19) : (Instr.sliceAt 164 (.pointer (some ⟨b, 0, none⟩)) none (some (.int .i64 mn)) none).run Tryz.prog w = .ok (.slice (some ⟨b, 0, none⟩) mn 19) w := by
 rw [run_sliceAt_array_h w 164 ⟨b, 0, none⟩ arr19 .i64 (mn : Int) (by omega) (by rw [len19]; omega), elem19, len19]
 obtain ⟨i0, hi, hz0, hz1, hz2⟩ := info_parts info_int
 simp [sizeOf, typeInfo, hi, hz1, slicedAt, go_sem]
end Go.Proofs.YtghjlpechjggjaaGreatDoor
namespace Go.Proofs.YtghjlpechjggjaaGreatDoor
open Go.RowKit
theorem RP.keeps {S : List Nat} {w w' : World} {A : Option Addr} {n : Nat} {xs : List (Int × Int)} (h : RP w A n xs) (hk : Keeps S w w') (ho : Off S A) : RP w' A n xs :=
 ⟨h.len, h.hd, fun b o ha j hj => ⟨hk.cell (p := ⟨b, o + j * 2, none⟩) (ho ⟨b, o, none⟩ ha) (h.cell b o ha j hj).1, hk.cell (p := ⟨b, o + j * 2 + 1, none⟩) (ho ⟨b, o, none⟩ ha) (h.cell b o ha j hj).2⟩⟩
theorem own_rp {w : World} {base : Nat} {e : TypeId} {v : Value} {n : Nat} {xs : List (Int × Int)} (h : w.ownsRow base e 2 v n (pcells xs)) :
  ∃ A c, v = .slice A n c ∧ RP w A n xs ∧ n ≤ c ∧ (∀ a, A = some a → base ≤ a.block ∧ a.block < w.heap.size) := by
 obtain ⟨h1, h2⟩ := h
 have hl : xs.length = n := by rw [pcells_length] at h1; omega
 rcases h2 with ⟨rfl, rfl⟩ | ⟨g, cap, cur, rfl, hb, hh, hc, hm, hs, ht⟩
 ·exact ⟨none, 0, rfl, ⟨hl, by omega, by simp⟩, by omega, by simp⟩
 ·refine ⟨_, _, rfl, ⟨hl, fun _ => ⟨_, _, rfl⟩, fun b o ha j hj => ?_⟩, hc, fun a ha => ?_⟩
  ·injection ha with ha; injection ha with h1 h2 h3; subst h1; subst h2
   have hp := pcells_get xs j (by omega)
   have e1 : ∀ i, i < n * 2 → cur.toList[i]? = (pcells xs)[i]? := fun i hi => by rw [← ht, List.getElem?_take, if_pos hi]
   rw [Nat.zero_add]
   unfold World.cell?
   simp only [hh]
   rw [← Array.getElem?_toList, ← Array.getElem?_toList, e1 _ (by omega), e1 _ (by omega)]
   exact hp
  ·obtain rfl := Option.some.inj ha
   exact ⟨hb, (Array.getElem?_eq_some_iff.1 hh).1⟩
end Go.Proofs.YtghjlpechjggjaaGreatDoor
namespace Go.Proofs.YtghjlpechjggjaaGreatDoor
open Go.RowKit
theorem own_ptT {w w' : World} {g base n size : Nat} {t : TypeId} {v : Value} {xs : List Value} (ht : t ≠ 5) (hb : g < base) (h : w.ownsRow base t size v n xs) (hp : PT g w w') : w'.ownsRow base t size v n xs := by
 obtain ⟨h1, h2⟩ := h
 refine ⟨h1, ?_⟩
 rcases h2 with h2 | ⟨b, cap, cur, hv, hb2, hh, r⟩
 ·exact Or.inl h2
 ·refine Or.inr ⟨b, cap, cur, hv, hb2, ?_, r⟩
  rw [hp.same b (Array.getElem?_eq_some_iff.1 hh).1 (by omega) (fun ⟨c, f, hc⟩ => ?_), hh]
  rw [hh] at hc
  injection hc with hc
  injection hc with _ h2 _
  exact ht h2
theorem ri_pt {w w' : World} {g base n c : Nat} {t : TypeId} {A : Option Addr} {k : IntKind} {xs : List Int} (ht : t ≠ 5) (hb : g < base) (h : w.ownsRow base t 1 (.slice A n c) n (ints k xs)) (hp : PT g w w') : RI k w' A n xs := by
 obtain ⟨A', c', hv, hr, _⟩ := own_ri (own_ptT ht hb h hp)
 injection hv with h1 h2 h3
 rw [h1]; exact hr
theorem rp_pt {w w' : World} {g base n c : Nat} {t : TypeId} {A : Option Addr} {xs : List (Int × Int)} (ht : t ≠ 5) (hb : g < base) (h : w.ownsRow base t 2 (.slice A n c) n (pcells xs)) (hp : PT g w w') : RP w' A n xs := by
 obtain ⟨A', c', hv, hr, _⟩ := own_rp (own_ptT ht hb h hp)
 injection hv with h1 h2 h3
 rw [h1]; exact hr
theorem any_false {xs : List Int} (h : ∀ x ∈ xs, 0 ≤ x ∧ x ≤ 15) : anyBad xs = false := by
 unfold anyBad
 rw [List.any_eq_false]
 intro x hx
 have := h x hx
 simp [badLen]; omega
theorem revF_bitW (c : Int) : ∀ n t, t < n → revF c n / 2 ^ t % 2 = c / 2 ^ (n - 1 - t) % 2
 | 0, t, h => by omega
 | n + 1, t, h => by
  rw [revF]
  match t with
  | 0 => rw [Int.pow_zero, Int.ediv_one, show n + 1 - 1 - 0 = n by omega]; omega
  | t + 1 =>
   have ih := revF_bitW c n t (by omega)
   rw [Int.pow_succ, Int.mul_comm (2 ^ t) 2, ← div_div _ _ _ (by omega), show (2 * revF c n + c / 2 ^ n % 2) / 2 = revF c n by omega, ih, show n + 1 - 1 - (t + 1) = n - 1 - t by omega]
theorem vbits_revW (c : Int) (n : Nat) : vbits (revF c n) n = msbF c n := by
 unfold vbits msbF
 refine List.map_congr_left fun t ht => ?_
 exact revF_bitW c n t (List.mem_range.1 ht)
theorem codes_atW {l : List Int} (hc : checkF l = 0) : (codesF l).1.length = l.length ∧ ∀ k m : Nat, k < l.length → nth l k = m → 1 ≤ m → nth (codesF l).1 k = revF (codeI l k) m := by
 have e : (codesF l).1 = outL l l.length := by unfold codesF; rw [if_pos hc]
 rw [e]
 refine ⟨outL_len l _, fun k m hk hm h1 => ?_⟩
 unfold outL
 rw [nth_map_range _ _ _ hk, if_pos ⟨hk, by omega⟩, hm]; rfl
theorem pth_mem {xs : List (Int × Int)} {i : Nat} (h : i < xs.length) : pth xs i ∈ xs := by
 have : pth xs i = xs[i] := by simp [pth, List.getD, h]
 rw [this]; exact List.getElem_mem _
theorem take_pth {xs : List (Int × Int)} {i : Nat} (h : i < xs.length) : xs.take (i + 1) = xs.take i ++ [pth xs i] := by
 rw [List.take_succ_eq_append_getElem h]; simp [pth, List.getD, h]
theorem PT.of_keeps {g : Nat} {w w' : World} (h : Keeps [] w w') : PT g w w' := ⟨h.size, fun k hk _ _ => h.block k hk (by simp)⟩
theorem below_lower {B C : Nat} {w w' : World} (h : Below B w w') (hle : C ≤ B) : Below C w w' := ⟨h.os, h.tape, h.output, h.size, fun k hk => h.block k (Nat.lt_of_lt_of_le hk hle)⟩
theorem manyGo_down (codes : List Int) (m : Nat) (h4 : 4 < m) (h0 : nth codes (nth orderL (m - 1)).toNat = 0) : manyGo codes m = manyGo codes (m - 1) := by
 obtain ⟨k, rfl⟩ : ∃ k, m = k + 1 := ⟨m - 1, by omega⟩
 rw [manyGo, if_pos ⟨by omega, h0⟩]; rfl
theorem manyGo_stop (codes : List Int) (m : Nat) (h4 : 4 ≤ m) (h0 : m = 4 ∨ nth codes (nth orderL (m - 1)).toNat ≠ 0) : manyGo codes m = m := by
 obtain ⟨k, rfl⟩ : ∃ k, m = k + 1 := ⟨m - 1, by omega⟩
 rw [manyGo, if_neg]
 rintro ⟨h1, h2⟩
 rcases h0 with h | h
 ·omega
 ·exact h h2
def Wrote (w : World) (g : Nat) (bl lit dist : List Int) (e : Ending) (w' : World) : Prop :=
 (MayW lit dist ∧ e = .returned (.int .i64 0) ∧ Wtr w' g (bl ++ headB lit dist) ∧ Below g w w' ∧ PT g w w') ∨ (¬ MayW lit dist ∧ e = .returned (.int .i64 1) ∧ Below w.heap.size w w')
theorem write_good (w : World) (g : Nat) (bl : List Int) (A1 A2 : Option Addr) (n1 n2 c1 c2 : Nat) (lit dist : List Int) (hT : Tabs w) (hg : gtop ≤ g) (hw : Wtr w g bl) (hb : bl.length ≤ 50000000)
  (hx : RI .i64 w A1 n1 lit) (hy : RI .i64 w A2 n2 dist) (hm : MayW lit dist) :
  Calls Tryz.prog 69 #[.pointer (some ⟨g, 0, none⟩), .slice A1 n1 c1, .slice A2 n2 c2] w (Wrote w g bl lit dist) := by
 have hl0 := hx.len
 have hl1 := hy.len
 have b0 := hm.lit0
 have b1 := hm.lit1
 have b2 := hm.dist0
 have b3 := hm.dist1
 have e1 : decide (n1 < 257) = false := by simp; omega
 have e1' : decide ((n1 : Int) < 257) = false := by simp; omega
 have e2 : decide (286 < n1) = false := by simp; omega
 have e2' : decide ((286 : Int) < (n1 : Int)) = false := by simp; omega
 have e3 : decide (n2 < 1) = false := by simp; omega
 have e3' : decide ((n2 : Int) < 1) = false := by simp; omega
 have e4 : decide (30 < n2) = false := by simp; omega
 have e4' : decide ((30 : Int) < (n2 : Int)) = false := by simp; omega
 have hg0 : n1 ≤ 286 := by omega
 have hg1 : n2 ≤ 30 := by omega
 obtain ⟨ba, oa, rfl⟩ := hx.hd (by omega)
 obtain ⟨bb, ob, rfl⟩ := hy.hd (by omega)
 have HL1 : Hid (lit.length = n1) := Lib.hid hl0
 have HL2 : Hid (dist.length = n2) := Lib.hid hl1
 have HX := Lib.hid hx
 have HY := Lib.hid hy
 have HT := Lib.hid hT
 have HW := Lib.hid hw
 have HM := Lib.hid hm
 have hgt := hw.lt
 have HA1 : Hid (anyBad lit = false) := Lib.hid (any_false hm.litB)
 have HA2 : Hid (anyBad dist = false) := Lib.hid (any_false hm.distB)
 have HA3 : Hid (anyBad (lit ++ dist) = false) := Lib.hid (any_false hm.all)
 clear hx hy hT hw hm hl0 hl1 b0 b1 b2 b3
 go_enter Tryz.func69, Tryz.ntmps69
 go_wp2_with fail
 refine (lengths_calls _ _ _ _ lit HX.out (by omega)).mono ?_
 rintro _ wa ⟨rfl, hd1⟩
 rw [HA1.out]
 have K1 := Lib.hid (hd1.keeps (S := []))
 clear hd1
 go_wp2_with fail
 refine (lengths_calls _ _ _ _ dist (HY.out.keeps K1.out (off_nil _)) (by omega)).mono ?_
 rintro _ wb ⟨rfl, hd1⟩
 rw [HA2.out]
 have K2 := Lib.hid (K1.out.trans (hd1.keeps (S := [])))
 clear hd1 K1 e1 e2 e3 e4 e1' e2' e3' e4'
 go_wp2_with fail
 refine (concat_from w _ wb.heap.size _ _ n1 n2 c1 c2 lit dist (K2.out.alloc _) (by simp) (by simp) HX.out HY.out nofun nofun (fun ad h => ⟨ba, oa, (Option.some.inj h).symm⟩) (fun ad h => ⟨bb, ob, (Option.some.inj h).symm⟩) (by omega) (by omega)).mono ?_
 rintro _ wc ⟨AC, cc, rfl, hoc, hkc⟩
 obtain ⟨A', c', hv', hric, -⟩ := own_ri hoc
 injection hv' with q1 q2 q3
 subst q1
 subst q3
 have HRC := Lib.hid hric
 have KC := Lib.hid hkc
 have HTC := Lib.hid (HT.out.keeps hkc (by simp))
 clear hoc hric hkc HX HY K2
 go_wp2_with fail
 refine (lensPack_calls wc _ _ _ (lit ++ dist) HTC.out HRC.out (by omega)).mono ?_
 rintro e wd hpk
 obtain ⟨vs, rfl, hos, hbd⟩ : ∃ v, e = .returned (.tuple #[v, .int .i64 0]) ∧ wd.ownsRow wc.heap.size 163 2 v (packF (lit ++ dist)).length (pcells (packF (lit ++ dist))) ∧ Below wc.heap.size wc wd := by
  rcases hpk with ⟨_, _, h⟩ | ⟨h, _⟩
  ·exact h
  ·exfalso
   rw [HA3.out, List.length_append, HL1.out, HL2.out] at h
   rcases h with h | h
   ·omega
   ·cases h
 obtain ⟨st, hst⟩ : ∃ st, st = packF (lit ++ dist) := ⟨_, rfl⟩
 rw [← hst] at hos
 have HST := Lib.hid hst
 have HSL : Hid (st.length ≤ 316) := Lib.hid (by have := packF_len (lit ++ dist); rw [List.length_append, HL1.out, HL2.out] at this; rw [hst]; omega)
 have HSY : Hid (∀ s ∈ st, 0 ≤ s.1 ∧ s.1 ≤ 18 ∧ 0 ≤ s.2 ∧ s.2 < 2 ^ wN s.1) := Lib.hid (by rw [hst]; exact HM.out.sym)
 obtain ⟨AS, cs, rfl, hrp, -⟩ := own_rp hos
 have hk1 := Keeps.of_below hbd (S := [])
 have hgc : g < wc.heap.size := Nat.lt_of_lt_of_le hgt KC.out.size
 have KD := Lib.hid (KC.out.trans hk1)
 have HOS := Lib.hid (hos.mono (Nat.le_of_lt_succ (Nat.succ_lt_succ hgc)) : wd.ownsRow (g + 1) 163 2 _ _ _)
 have HRP := Lib.hid hrp
 clear hos hrp hbd hk1 hst HRC HTC HA1 HA2 HA3 hpk
 have HKL := Lib.hid (rfl : st.length = st.length)
 generalize hk : st.length = k at HOS HRP HSL HKL ⊢
 have hk316 : k ≤ 316 := HSL.out
 have HKK : Hid (st.length = k) := Lib.hid hk
 clear hk HKL HSL
 have hmk := fun w => make_ints (P := Tryz.prog) w 90 3 .i64 8 Tryz.underlying90 info_int 19 19 rfl (by omega) (by omega)
 obtain ⟨cb, hcb⟩ : ∃ x, x = wd.heap.size := ⟨_, rfl⟩
 obtain ⟨w4, hw4⟩ : ∃ x, x = wd.alloc (.cells (ints .i64 (List.replicate 19 0)).toArray 3) := ⟨_, rfl⟩
 have hk4 : Keeps [] wd w4 := by rw [hw4]; exact (Keeps.refl [] wd).alloc _
 have HC4 : Hid (Blk w4 cb 3 (ints .i64 (cntF 19 ((st.take 0).map Prod.fst)))) := by rw [hw4, hcb]; exact Lib.hid (by rw [List.take_zero]; exact blk_new wd _ _)
 have HK4 := Lib.hid hk4
 have hcb2 : wd.heap.size ≤ cb := by omega
 clear hk4
 go_upto_region 7 with (fail)
 change Code.wp _ _ _ _ (wd.alloc (.cells (ints .i64 (List.replicate 19 0)).toArray 3))
 rw [← hw4, ← hcb]
 clear hw4 hcb hmk
 go_wp2_with fail
 go_loopw [64] (fun iv wr => ∃ (i : Nat), i ≤ k ∧ iv = .int .i64 i ∧ Hid (Blk wr cb 3 (ints .i64 (cntF 19 ((st.take i).map Prod.fst)))) ∧ Hid (Keeps [] wd wr)) (fun iv _ => k - (intOf iv).toNat)
 case atStart => exact ⟨0, by omega, rfl, HC4, HK4⟩
 case round =>
  clear HC4 HK4
  obtain ⟨i, hi, rfl, HC, HK⟩ := hrel
  by_cases hlt : i < k
  ·have e0 : decide (i < k) = true := by simpa using hlt
   obtain ⟨b, o, rfl⟩ := HRP.out.hd (by omega)
   obtain ⟨p1, p2⟩ := (HRP.out.keeps HK.out (off_nil _)).cell b o rfl i hlt
   obtain ⟨s0, s1, -, -⟩ := HSY.out _ (pth_mem (show i < st.length by have := HKK.out; omega))
   obtain ⟨j, hj⟩ : ∃ j : Nat, (pth st i).1 = j := ⟨(pth st i).1.toNat, by omega⟩
   have hj19 : j < 19 := by omega
   have HCN : Hid (cntF 19 ((st.take (i + 1)).map Prod.fst) = (cntF 19 ((st.take i).map Prod.fst)).set j (nth (cntF 19 ((st.take i).map Prod.fst)) j + 1)) := Lib.hid (by
    rw [take_pth (show i < st.length by have := HKK.out; omega), List.map_append, List.map_singleton, hj, cntF_snoc _ _ _ hj19])
   have hbd := cnt_bd 19 ((st.take i).map Prod.fst) j hj19
   have hcl : (cntF 19 ((st.take i).map Prod.fst)).length = 19 := cntF_len _ _
   have hbl : ((st.take i).map Prod.fst).length ≤ 316 := by rw [List.length_map, List.length_take]; omega
   rw [hj] at p1
   generalize (pth st i).2 = x at *
   generalize cntF 19 ((st.take i).map Prod.fst) = cs0 at *
   obtain ⟨v, hv⟩ : ∃ v, v = nth cs0 j := ⟨_, rfl⟩
   have hcl2 := (HC.out).cell j
   rw [show (ints .i64 cs0)[j]? = some (.int .i64 v) by rw [ints_getElem?, hv]; simp [nth, List.getD, show j < cs0.length by omega]] at hcl2
   have hfr := (HC.out).frozen j
   have hclt := HC.out.lt
   have s2 : IntKind.i64.wrap (v + 1) = v + 1 := IntWalk.i64_in _ (by omega)
   go_wp2_with fail
   go_roundw
   case rel =>
    refine ⟨i + 1, by omega, by go_num, ?_, Lib.hid ((HK.out.setCell (p := ⟨cb, j, none⟩) (Or.inr hcb2) _).alloc _)⟩
    rw [HCN.out]
    have := (HC.out.set j (.int .i64 (nth cs0 j + 1))).keeps ((Keeps.refl [] _).alloc (.cells #[.int .i64 (j : Int), .int .i64 x] 163)) (by simp)
    rw [show (ints .i64 cs0).set j (.int .i64 (nth cs0 j + 1)) = ints .i64 (cs0.set j (nth cs0 j + 1)) by simp [ints, List.map_set]] at this
    exact Lib.hid this
   case measure => simp [intOf]; omega
  ·obtain rfl : i = k := by omega
   have e0 : decide (i < i) = false := by simp
   have HCR : Hid (RI .i64 wr (some ⟨cb, 0, none⟩) 19 (countsW lit dist)) := Lib.hid (by
    have h := HC.out
    rw [← HKK.out, List.take_length, HST.out] at h
    have := Blk.ri (xs := countsW lit dist) (ys := []) (by rw [List.append_nil]; exact h)
    rwa [countsW_len] at this)
   obtain ⟨w5, hw5⟩ : ∃ x : World, x = wr := ⟨_, rfl⟩
   rw [← hw5] at HK HCR ⊢
   clear HC hw5
   go_wp2_with fail
   refine (limit_calls w5 _ _ _ (countsW lit dist) 7 HCR.out).mono ?_
   rw [HM.out.lim]
   rintro e w6 ⟨vl, rfl, ho6, hb6⟩
   rw [codesW_len] at ho6
   obtain ⟨AL, cl, rfl, hrl, -⟩ := own_ri ho6
   have hk6 := Keeps.of_below hb6 (S := [])
   have hg5 : g + 1 ≤ w5.heap.size := by have := KD.out.size; have := HK.out.size; omega
   have HO6 : Hid (w6.ownsRow (g + 1) 3 1 (.slice AL 19 cl) 19 (ints .i64 (codesW lit dist))) := Lib.hid (ho6.mono hg5)
   have HRL := Lib.hid hrl
   have K6 := Lib.hid (HK.out.trans hk6)
   have hg6 : g + 1 ≤ w6.heap.size := by have := hk6.size; omega
   have HCB : Hid (∀ i, i < 19 → 0 ≤ nth (codesW lit dist) i ∧ nth (codesW lit dist) i ≤ 7) := Lib.hid (fun i hi => (HM.out.codes i hi).2)
   have HCS : Hid (∀ s ∈ st, 1 ≤ nth (codesW lit dist) s.1.toNat) := Lib.hid (by rw [HST.out]; exact fun s hs => (HM.out.code s hs).1)
   have HCK : Hid (checkF (codesW lit dist) = 0) := Lib.hid HM.out.check
   have HCL : Hid ((codesW lit dist).length = 19) := Lib.hid (codesW_len lit dist)
   have HHB : Hid (headB lit dist = vbits ((n1 : Int) - 257) 5 ++ (vbits ((n2 : Int) - 1) 5 ++ (vbits ((manyGo (codesW lit dist) 19 : Int) - 4) 4 ++ (codeBits (codesW lit dist) (manyGo (codesW lit dist) 19) ++ stepsB (codesW lit dist) st)))) := Lib.hid (by rw [HST.out]; unfold headB; rw [HL1.out, HL2.out])
   have hn1 : 257 ≤ n1 := by rw [← HL1.out]; exact HM.out.lit0
   have hn2 : 1 ≤ n2 := by rw [← HL2.out]; exact HM.out.dist0
   clear ho6 hrl hb6 hk6 HCR HK
   generalize codesW lit dist = cd at *
   go_wp2_with fail
   refine (codes_calls w6 _ _ _ cd HRL.out (by omega)).mono ?_
   rintro e w7 ⟨vr, rfl, ho7, hb7⟩
   obtain ⟨hcl7, hcat⟩ := codes_atW HCK.out
   rw [hcl7, HCL.out] at ho7
   obtain ⟨AR, cr, rfl, hrr, -⟩ := own_ri ho7
   have hk7 := Keeps.of_below hb7 (S := [])
   have HCA := Lib.hid hcat
   have HO7 : Hid (w7.ownsRow (g + 1) 49 1 (.slice AR 19 cr) 19 (ints .u32 (codesF cd).1)) := Lib.hid (ho7.mono hg6)
   have HO6' := Lib.hid (own_keeps HO6.out hk7 (by simp))
   have K7 := Lib.hid (KD.out.trans (K6.out.trans hk7))
   have HOS' := Lib.hid (own_keeps HOS.out (K6.out.trans hk7) (by simp))
   have HRL' := Lib.hid (HRL.out.keeps hk7 (off_nil _))
   have HT7 := Lib.hid (HT.out.keeps K7.out (by simp))
   have HW7 := Lib.hid (HW.out.keeps K7.out (by simp))
   clear ho7 hrr hb7 hk7 hcl7 hcat HO6 K6 HOS HRL HRP HT HW
   generalize (codesF cd).1 = rw at *
   generalize (codesF cd).2 = er at *
   go_upto_block 3 with (fail)
   go_cut [16] (fun mv wc => ∃ m : Nat, 4 ≤ m ∧ m ≤ 19 ∧ mv = .int .i64 m ∧ Hid (manyGo cd 19 = m) ∧ Hid (Keeps [] w7 wc))
   case first =>
    go_wp2_with fail
    go_loopw [16] (fun mv wr => ∃ (m : Nat), 4 ≤ m ∧ m ≤ 19 ∧ mv = .int .i64 m ∧ Hid (manyGo cd 19 = manyGo cd m) ∧ Hid (Keeps [] w7 wr)) (fun mv _ => (intOf mv).toNat)
    case atStart => exact ⟨19, by omega, by omega, rfl, Lib.hid rfl, Lib.hid (Keeps.refl _ _)⟩
    case round =>
     obtain ⟨m, hm4, hm19, rfl, HMG, HK⟩ := hrel
     obtain ⟨ol0, ol1⟩ := order_lt (m - 1) (by omega)
     have ho := (HT7.out.keeps HK.out (by simp)).ord.cell _ _ rfl (m - 1) (by omega)
     rw [Nat.zero_add] at ho
     have HDN : Hid (4 < m → nth cd (nth orderL (m - 1)).toNat = 0 → manyGo cd m = manyGo cd (m - 1)) := Lib.hid (manyGo_down cd m)
     have HSP : Hid (m = 4 ∨ nth cd (nth orderL (m - 1)).toNat ≠ 0 → manyGo cd m = m) := Lib.hid (manyGo_stop cd m hm4)
     obtain ⟨oj, hoo⟩ : ∃ o : Nat, nth orderL (m - 1) = o := ⟨(nth orderL (m - 1)).toNat, by omega⟩
     rw [hoo] at ho ol1 HDN HSP
     rw [Int.toNat_natCast] at HDN HSP
     have ho19 : oj < 19 := by omega
     obtain ⟨lb, lo, rfl, hlc⟩ := (HRL'.out.keeps HK.out (off_nil _)).at ho19
     clear hoo ol0 ol1
     have s1 : IntKind.i64.wrap ((m : Int) - 1) = ((m - 1 : Nat) : Int) := by rw [IntWalk.i64_in _ (by omega)]; omega
     have s2 : (m : Int) - 1 = ((m - 1 : Nat) : Int) := by omega
     by_cases h4 : 4 < m
     ·have e1 : decide (4 < m) = true := by simpa using h4
      have e2 : decide ((4 : Int) < (m : Int)) = true := by simp; omega
      by_cases h0 : nth cd oj = 0
      ·rw [h0] at hlc
       go_wp2_with fail
       go_roundw
       case rel => exact ⟨m - 1, by omega, by omega, by go_num, Lib.hid (by rw [HMG.out]; exact HDN.out h4 h0), HK⟩
       case measure => simp [intOf]; omega
      ·have e3 : (nth cd oj == 0) = false := by simpa using h0
       have e4 : decide (nth cd oj = 0) = false := by simpa using h0
       go_wp2_with fail
       go_meet
       exact ⟨m, by omega, by omega, rfl, Lib.hid (by rw [HMG.out]; exact HSP.out (.inr h0)), HK⟩
     ·have e1 : decide (4 < m) = false := by simpa using h4
      have e2 : decide ((4 : Int) < (m : Int)) = false := by simp; omega
      go_wp2_with fail
      go_meet
      exact ⟨m, by omega, by omega, rfl, Lib.hid (by rw [HMG.out]; exact HSP.out (.inl (by omega))), HK⟩
   case rest =>
    obtain ⟨m, hm4, hm19, rfl, HMG, hkw⟩ := hcut
    have HOSp := Lib.hid (own_keeps HOS'.out hkw.out (by simp))
    have HO6p := Lib.hid (own_keeps HO6'.out hkw.out (by simp))
    have HO7p := Lib.hid (own_keeps HO7.out hkw.out (by simp))
    have HTp := Lib.hid (HT7.out.keeps hkw.out (by simp))
    have HWp := Lib.hid (HW7.out.keeps hkw.out (by simp))
    have KP := Lib.hid (K7.out.trans hkw.out)
    have HBL := Lib.hid hb
    clear HOS' HO6' HO7 HT7 HW7 K7 hkw HRL' KC KD e0 hb
    obtain ⟨x1, hx1⟩ : ∃ x : Int, x = (n1 : Int) - 257 := ⟨_, rfl⟩
    obtain ⟨x2, hx2⟩ : ∃ x : Int, x = (n2 : Int) - 1 := ⟨_, rfl⟩
    obtain ⟨x3, hx3⟩ : ∃ x : Int, x = (m : Int) - 4 := ⟨_, rfl⟩
    have hx10 : 0 ≤ x1 := by omega
    have hx11 : x1 < 32 := by omega
    have hx20 : 0 ≤ x2 := by omega
    have hx21 : x2 < 32 := by omega
    have hx30 : 0 ≤ x3 := by omega
    have hx31 : x3 < 16 := by omega
    have HHC : Hid (headB lit dist = vbits x1 5 ++ (vbits x2 5 ++ (vbits x3 4 ++ (codeBits cd m ++ stepsB cd st)))) := Lib.hid (by rw [HHB.out, HMG.out, ← hx1, ← hx2, ← hx3])
    have f1 : (n1 : Int) - 257 = x1 := hx1.symm
    have f2 : (n2 : Int) - 1 = x2 := hx2.symm
    have f3 : (m : Int) - 4 = x3 := hx3.symm
    have g1 : IntKind.i64.wrap x1 = x1 := IntWalk.i64_in _ (by omega)
    have g2 : IntKind.i64.wrap x2 = x2 := IntWalk.i64_in _ (by omega)
    have g3 : IntKind.i64.wrap x3 = x3 := IntWalk.i64_in _ (by omega)
    have k1 : IntKind.u32.wrap x1 = x1 := IntWalk.u32_in _ (by omega)
    have k2 : IntKind.u32.wrap x2 = x2 := IntWalk.u32_in _ (by omega)
    have k3 : IntKind.u32.wrap x3 = x3 := IntWalk.u32_in _ (by omega)
    clear hx1 hx2 hx3 HHB HMG
    go_wp2_with fail
    refine (put_calls _ g bl x1 5 HWp.out hx10 (by omega) (by omega) (Int.ediv_eq_zero_of_lt hx10 hx11) (by have := HBL.out; omega)).mono ?_
    rintro _ w8 ⟨rfl, hw8, hb8, hp8⟩
    have HW8 := Lib.hid hw8
    have HB8 := Lib.hid hb8
    have HP8 := Lib.hid hp8
    clear hw8 hb8 hp8 HWp
    go_wp2_with fail
    refine (put_calls _ g _ x2 5 HW8.out hx20 (by omega) (by omega) (Int.ediv_eq_zero_of_lt hx20 hx21) (by have := HBL.out; simp only [List.length_append, vbits_len]; omega)).mono ?_
    rintro _ w9 ⟨rfl, hw9, hb9, hp9⟩
    have HW9 := Lib.hid hw9
    have HB9 := Lib.hid (HB8.out.trans hb9)
    have HP9 := Lib.hid (HP8.out.trans hp9)
    clear hw9 hb9 hp9 HW8 HB8 HP8
    go_wp2_with fail
    refine (put_calls _ g _ x3 4 HW9.out hx30 (by omega) (by omega) (Int.ediv_eq_zero_of_lt hx30 hx31) (by have := HBL.out; simp only [List.length_append, vbits_len]; omega)).mono ?_
    rintro _ w10 ⟨rfl, hw10, hb10, hp10⟩
    have HW10 := Lib.hid hw10
    have HB10 := Lib.hid (HB9.out.trans hb10)
    have HP10 := Lib.hid (HP9.out.trans hp10)
    obtain ⟨bl3, hbl3⟩ : ∃ x, x = bl ++ vbits x1 5 ++ vbits x2 5 ++ vbits x3 4 := ⟨_, rfl⟩
    rw [← hbl3] at HW10
    have HHD : Hid (bl ++ headB lit dist = bl3 ++ codeBits cd m ++ stepsB cd st) := Lib.hid (by rw [HHC.out, hbl3]; simp only [List.append_assoc])
    have HBL3 : Hid (bl3.length ≤ 50000014) := Lib.hid (by have := HBL.out; rw [hbl3]; simp only [List.length_append, vbits_len]; omega)
    have hsl := fun w => slice_arr w 1 m hm19
    clear hw10 hb10 hp10 HW9 HB9 HP9 hbl3 f1 f2 f3 g1 g2 g3 k1 k2 k3 hx10 hx11 hx20 hx21 hx30 hx31 HHC
    go_wp2_with fail
    go_loopw [120] (fun iv wr => ∃ (q : Nat), q ≤ m ∧ iv = .int .i64 q ∧ Hid (Wtr wr g (bl3 ++ codeBits cd q)) ∧ Hid (Below g wc wr) ∧ Hid (PT g wc wr)) (fun iv _ => m - (intOf iv).toNat)
    case atStart => exact ⟨0, by omega, rfl, Lib.hid (by rw [show codeBits cd 0 = [] from rfl, List.append_nil]; exact HW10.out), HB10, HP10⟩
    case round =>
     clear HW10 HB10 HP10 hsl
     obtain ⟨q, hq, rfl, HWq, HBq, HPq⟩ := hrel
     by_cases hlt : q < m
     ·have e0 : decide (q < m) = true := by simpa using hlt
      obtain ⟨ol0, ol1⟩ := order_lt q (by omega)
      have ho := (HTp.out.below HBq.out hg).ord.cell _ _ rfl q (by omega)
      rw [Nat.zero_add] at ho
      have HCN : Hid (codeBits cd (q + 1) = codeBits cd q ++ vbits (nth cd (nth orderL q).toNat) 3) := Lib.hid (codeBits_succ cd q)
      obtain ⟨oj, hoo⟩ : ∃ o : Nat, nth orderL q = o := ⟨(nth orderL q).toNat, by omega⟩
      rw [hoo] at ho ol1 HCN
      rw [Int.toNat_natCast] at HCN
      have ho19 : oj < 19 := by omega
      obtain ⟨lb, lo, hAL, hlc⟩ := (ri_pt (by decide) (Nat.lt_succ_self g) HO6p.out HPq.out).at ho19
      subst hAL
      obtain ⟨c0, c1⟩ := HCB.out oj ho19
      have HLQ : Hid ((codeBits cd q).length = 3 * q) := Lib.hid (codeBits_len cd q)
      clear hoo ol0 ol1
      generalize nth cd oj = y at *
      have k1 : IntKind.u32.wrap y = y := IntWalk.u32_in _ (by omega)
      go_wp2_with fail
      refine (put_calls _ g _ y 3 HWq.out c0 (by omega) (by omega) (Int.ediv_eq_zero_of_lt c0 (Int.lt_of_le_of_lt c1 (by decide))) (by have := HBL3.out; have := HLQ.out; simp only [List.length_append]; omega)).mono ?_
      rintro _ w11 ⟨rfl, hw11, hb11, hp11⟩
      have HW11 : Hid (Wtr w11 g (bl3 ++ codeBits cd (q + 1))) := Lib.hid (by rw [HCN.out, ← List.append_assoc]; exact hw11)
      have HB11 := Lib.hid (HBq.out.trans hb11)
      have HP11 := Lib.hid (HPq.out.trans hp11)
      clear hw11 hb11 hp11 HWq HBq HPq
      go_wp2_with fail
      go_roundw
      case rel => exact ⟨q + 1, by omega, by go_num, HW11, HB11, HP11⟩
      case measure => simp [intOf]; omega
     ·obtain rfl : q = m := by omega
      have e0 : decide (q < q) = false := by simp
      obtain ⟨bl4, hbl4⟩ : ∃ x, x = bl3 ++ codeBits cd q := ⟨_, rfl⟩
      have HHE : Hid (bl ++ headB lit dist = bl4 ++ stepsB cd st) := Lib.hid (by rw [HHD.out, hbl4])
      have HBL4 : Hid (bl4.length ≤ 50000100) := Lib.hid (by have := HBL3.out; rw [hbl4, List.length_append, codeBits_len]; omega)
      rw [← hbl4] at HWq
      clear hbl4 HHD HBL3
      go_wp2_with fail
      go_loopw [134] (fun iv wr => ∃ (p : Nat), p ≤ i ∧ iv = .int .i64 p ∧ Hid (Wtr wr g (bl4 ++ stepsB cd (st.take p))) ∧ Hid (Below g wc wr) ∧ Hid (PT g wc wr)) (fun iv _ => i - (intOf iv).toNat)
      case atStart => exact ⟨0, by omega, rfl, Lib.hid (by rw [List.take_zero, show stepsB cd [] = [] from rfl, List.append_nil]; exact HWq.out), HBq, HPq⟩
      case round =>
       clear HWq HBq HPq
       obtain ⟨p, hp, rfl, HWl, HBl, HPl⟩ := hrel
       by_cases hlt2 : p < i
       ·have e5 : decide (p < i) = true := by simpa using hlt2
        have HRPl := rp_pt (by decide) (Nat.lt_succ_self g) HOSp.out HPl.out
        obtain ⟨sb, so, rfl⟩ := HRPl.hd (by omega)
        obtain ⟨p1, p2⟩ := HRPl.cell sb so rfl p hlt2
        have hps : p < st.length := by have := HKK.out; omega
        obtain ⟨s0, s1, s2, s3⟩ := HSY.out _ (pth_mem hps)
        have hcs := HCS.out _ (pth_mem hps)
        obtain ⟨j, hj⟩ : ∃ j : Nat, (pth st p).1 = j := ⟨(pth st p).1.toNat, by omega⟩
        obtain ⟨x, hx⟩ : ∃ x : Int, x = (pth st p).2 := ⟨_, rfl⟩
        have HST2 : Hid (stepsB cd (st.take (p + 1)) = stepsB cd (st.take p) ++ (msbF (codeI cd j) (nth cd j).toNat ++ vbits x (wN (j : Int)))) := Lib.hid (by
         rw [take_pth hps]
         unfold stepsB
         rw [List.flatMap_append, List.flatMap_singleton, stepB, hj, ← hx, Int.toNat_natCast])
        have HSL2 : Hid ((stepsB cd (st.take p)).length ≤ 14 * 316) := Lib.hid (by
         have h1 := stepsB_len (codes := cd) (st.take p) (fun s hs => by
          have := HSY.out s (List.mem_of_mem_take hs)
          exact (HCB.out _ (by omega)).2)
         have h2 : (st.take p).length ≤ 316 := by rw [List.length_take]; omega
         omega)
        rw [hj] at p1 s0 s1 s3 hcs
        rw [← hx] at p2 s2 s3
        rw [Int.toNat_natCast] at hcs
        have hj19 : j < 19 := by omega
        obtain ⟨cb1, co1, hAL, hlc⟩ := (ri_pt (by decide) (Nat.lt_succ_self g) HO6p.out HPl.out).at hj19
        subst hAL
        obtain ⟨c0, c1⟩ := HCB.out j hj19
        obtain ⟨rb1, ro1, hAR, hrc⟩ := (ri_pt (by decide) (Nat.lt_succ_self g) HO7p.out HPl.out).at hj19
        subst hAR
        obtain ⟨M, hM⟩ : ∃ M : Nat, nth cd j = M := ⟨(nth cd j).toNat, by omega⟩
        rw [HCA.out j M (by have := HCL.out; omega) hM (by omega)] at hrc
        rw [hM] at hlc hcs c0 c1 HST2
        rw [Int.toNat_natCast] at HST2
        have hrb := revF_bd (codeI cd j) M
        have hp16 := pow16 M (by omega)
        have HVB : Hid (vbits (revF (codeI cd j) M) M = msbF (codeI cd j) M) := Lib.hid (vbits_revW _ _)
        have HX0 : Hid (revF (codeI cd j) M / 2 ^ M = 0) := Lib.hid (Int.ediv_eq_zero_of_lt hrb.1 hrb.2)
        have hy0 := hrb.1
        have hy1 : revF (codeI cd j) M < 4294967296 := by omega
        have hwn := wN_le (j : Int)
        have hw8 := pow_le8 (wN (j : Int)) (by omega)
        have HX1 : Hid (x / 2 ^ wN (j : Int) = 0) := Lib.hid (Int.ediv_eq_zero_of_lt s2 s3)
        have hwt := (HTp.out.below HBl.out hg).wid.cell _ _ rfl j (by omega)
        rw [Nat.zero_add, wN_tab j hj19] at hwt
        have hM7 : M ≤ 7 := by omega
        clear hrb hp16 hcs c0 c1 HRPl hj hx hps
        generalize revF (codeI cd j) M = y at *
        have hx256 : x < 256 := by omega
        generalize hwN : wN (j : Int) = W at *
        have HWN := Lib.hid hwN
        clear hwN s3 hw8
        have t1 : IntKind.i64.wrap (j : Int) = (j : Int) := IntWalk.i64_in _ (by omega)
        have t2 : (0 : Int) ≤ (j : Int) := by omega
        have t3 : (j : Int) < 19 := by omega
        have t4 : IntKind.u32.wrap x = x := IntWalk.u32_in _ (by omega)
        obtain ⟨gs, hgs⟩ : ∃ z, z = wr.heap.size := ⟨_, rfl⟩
        obtain ⟨w20, hw20⟩ : ∃ z, z = wr.alloc (.cells #[.int .i64 (j : Int), .int .i64 x] 163) := ⟨_, rfl⟩
        have HB20 : Hid (Blk w20 gs 163 [.int .i64 (j : Int), .int .i64 x]) := by rw [hw20, hgs]; exact Lib.hid (blk_new wr _ [.int .i64 (j : Int), .int .i64 x])
        have ka : Keeps [] wr w20 := by rw [hw20]; exact (Keeps.refl [] wr).alloc _
        have hgl := HWl.out.lt
        have HW20 := Lib.hid (HWl.out.keeps ka (by simp))
        have HBl20 : Hid (Below g wc w20) := by rw [hw20]; exact Lib.hid (HBl.out.alloc (Nat.le_of_lt (Nat.lt_of_lt_of_le (by rw [hgs] at *; exact hgl) (Nat.le_refl _))) _)
        have HPl20 : Hid (PT g wc w20) := by rw [hw20]; exact Lib.hid (HPl.out.alloc _)
        have hggs : gs ≠ g := by omega
        go_upto_region 28 with (fail)
        change Code.wp _ _ _ _ (wr.alloc (.cells #[.int .i64 (j : Int), .int .i64 x] 163))
        rw [← hw20, ← hgs]
        have hlc' := ka.cell (by simp) hlc
        have hrc' := ka.cell (by simp) hrc
        have hwt' := ka.cell (by simp) hwt
        have b1 := HB20.out.cell 0
        have b2 := HB20.out.cell 1
        simp only [List.getElem?_cons_zero, List.getElem?_cons_succ] at b1 b2
        clear hlc hrc hwt ka hgl HWl HBl HPl p1 p2 hw20 hgs e5
        go_wp2_with fail
        go_still_tail 11, (by kernel_rfl)
        change wpList _ _ _ _ _ w20.drew
        have hdr := (Keeps.refl [] w20).drew
        have HWd := Lib.hid (HW20.out.keeps hdr (by simp))
        have HBd := Lib.hid (HBl20.out.trans (below_lower hdr.below (Nat.le_of_lt HW20.out.lt)))
        have HPd := Lib.hid HPl20.out.drew
        have HB2 := Lib.hid (HB20.out.keeps hdr (by simp))
        clear hdr HW20 HBl20 HPl20 HB20 b1 b2 hlc' hrc' hwt'
        go_wp2_with fail
        refine (put_calls _ g _ y M HWd.out hy0 hy1 (by omega) HX0.out (by have := HBL4.out; have := HSL2.out; simp only [List.length_append]; omega)).mono ?_
        rintro _ w21 ⟨rfl, hw21, hb21, hp21⟩
        rw [HVB.out] at hw21
        have HW21 := Lib.hid hw21
        have HB21 := Lib.hid (HBd.out.trans hb21)
        have HP21 := Lib.hid (HPd.out.trans hp21)
        have HB22 : Hid (Blk w21 gs 163 [.int .i64 (j : Int), .int .i64 x]) := Lib.hid (by
         have h := HB2.out
         refine (hp21.same gs h.lt hggs (fun ⟨c, f, hc⟩ => ?_)).trans h
         have h2 : w20.drew.heap[gs]? = _ := h
         rw [h2] at hc
         injection hc with hc
         injection hc with _ h2 _
         exact absurd h2 (by decide))
        have hwt2 := (HTp.out.below HB21.out hg).wid.cell _ _ rfl j (by omega)
        rw [Nat.zero_add, wN_tab j hj19, HWN.out] at hwt2
        have b1 := HB22.out.cell 0
        have b2 := HB22.out.cell 1
        simp only [List.getElem?_cons_zero, List.getElem?_cons_succ] at b1 b2
        clear hw21 hb21 hp21 HWd HBd HPd HB2 HB22
        go_wp2_with fail
        go_still_tail 8, (by kernel_rfl)
        change wpList _ _ _ _ _ w21.drew
        have hdr := (Keeps.refl [] w21).drew
        have HWd := Lib.hid (HW21.out.keeps hdr (by simp))
        have HBd := Lib.hid (HB21.out.trans (below_lower hdr.below (Nat.le_of_lt HW21.out.lt)))
        have HPd := Lib.hid HP21.out.drew
        clear hdr HW21 HB21 HP21 b1 b2 hwt2
        go_wp2_with fail
        refine (put_calls _ g _ x W HWd.out s2 (by omega) (by omega) HX1.out (by have := HBL4.out; have := HSL2.out; simp only [List.length_append, msbF_len]; omega)).mono ?_
        rintro _ w22 ⟨rfl, hw22, hb22, hp22⟩
        have HW22 : Hid (Wtr w22 g (bl4 ++ stepsB cd (st.take (p + 1)))) := Lib.hid (by rw [HST2.out]; simpa only [List.append_assoc] using hw22)
        have HB22 := Lib.hid (HBd.out.trans hb22)
        have HP22 := Lib.hid (HPd.out.trans hp22)
        clear hw22 hb22 hp22 HWd HBd HPd
        go_wp2_with fail
        go_roundw
        case rel => exact ⟨p + 1, by omega, by go_num, HW22, HB22, HP22⟩
        case measure => simp [intOf]; omega
       ·obtain rfl : p = i := by omega
        have e5 : decide (p < p) = false := by simp
        go_wp2_with fail
        go_ret
        have h := HWl.out
        rw [← HKK.out, List.take_length, ← HHE.out] at h
        exact .inl ⟨HM.out, rfl, h, (below_lower KP.out.below (Nat.le_of_lt hgt)).trans HBl.out, (PT.of_keeps KP.out).trans HPl.out⟩
theorem any_range {xs : List Int} (h : anyBad xs = false) : ∀ x ∈ xs, 0 ≤ x ∧ x ≤ 15 := by
 intro x hx
 have := List.any_eq_false.1 h x hx
 simp [badLen] at this
 omega
theorem write_bad (w : World) (g : Nat) (bl : List Int) (A1 A2 : Option Addr) (n1 n2 c1 c2 : Nat) (lit dist : List Int)
  (hx : RI .i64 w A1 n1 lit) (hy : RI .i64 w A2 n2 dist) (hm : ¬ MayW lit dist) :
  Calls Tryz.prog 69 #[.pointer (some ⟨g, 0, none⟩), .slice A1 n1 c1, .slice A2 n2 c2] w (Wrote w g bl lit dist) := by
 have HM := Lib.hid hm
 have HX := Lib.hid hx
 have HY := Lib.hid hy
 have HL1 : Hid (lit.length = n1) := Lib.hid hx.len
 have HL2 : Hid (dist.length = n2) := Lib.hid hy.len
 clear hx hy hm
 go_enter Tryz.func69, Tryz.ntmps69
 by_cases h1 : n1 < 257
 ·have e1 : decide (n1 < 257) = true := by simpa using h1
  have e1' : decide ((n1 : Int) < 257) = true := by simp; omega
  go_wp2_with fail
  go_ret
  exact .inr ⟨HM.out, rfl, Below.refl _ _⟩
 have e1 : decide (n1 < 257) = false := by simpa using h1
 have e1' : decide ((n1 : Int) < 257) = false := by simp; omega
 by_cases h2 : 286 < n1
 ·have e2 : decide (286 < n1) = true := by simpa using h2
  have e2' : decide ((286 : Int) < (n1 : Int)) = true := by simp; omega
  go_wp2_with fail
  go_ret
  exact .inr ⟨HM.out, rfl, Below.refl _ _⟩
 have e2 : decide (286 < n1) = false := by simpa using h2
 have e2' : decide ((286 : Int) < (n1 : Int)) = false := by simp; omega
 by_cases h3 : n2 < 1
 ·have e3 : decide (n2 < 1) = true := by simpa using h3
  have e3' : decide ((n2 : Int) < 1) = true := by simp; omega
  have e3'' : n2 = 0 := by omega
  go_wp2_with fail
  go_ret
  exact .inr ⟨HM.out, rfl, Below.refl _ _⟩
 have e3 : decide (n2 < 1) = false := by simpa using h3
 have e3' : decide ((n2 : Int) < 1) = false := by simp; omega
 by_cases h4 : 30 < n2
 ·have e4 : decide (30 < n2) = true := by simpa using h4
  have e4' : decide ((30 : Int) < (n2 : Int)) = true := by simp; omega
  go_wp2_with fail
  go_ret
  exact .inr ⟨HM.out, rfl, Below.refl _ _⟩
 have e4 : decide (30 < n2) = false := by simpa using h4
 have e4' : decide ((30 : Int) < (n2 : Int)) = false := by simp; omega
 go_wp2_with fail
 refine (lengths_calls _ _ _ _ lit HX.out (by omega)).mono ?_
 rintro _ wa ⟨rfl, hd1⟩
 have K1 := Lib.hid (hd1.keeps (S := []))
 clear hd1
 cases hb1 : anyBad lit with
 | true =>
  have HB1 := Lib.hid hb1
  clear hb1
  go_wp2_with fail
  go_ret
  exact .inr ⟨HM.out, rfl, K1.out.below⟩
 | false =>
  have HB1 := Lib.hid hb1
  clear hb1
  go_wp2_with fail
  refine (lengths_calls _ _ _ _ dist (HY.out.keeps K1.out (off_nil _)) (by omega)).mono ?_
  rintro _ wb ⟨rfl, hd1⟩
  have K2 := Lib.hid (K1.out.trans (hd1.keeps (S := [])))
  clear hd1 K1
  cases hb2 : anyBad dist with
  | true =>
   have HB2 := Lib.hid hb2
   clear hb2
   go_wp2_with fail
   go_ret
   exact .inr ⟨HM.out, rfl, K2.out.below⟩
  | false =>
   exfalso
   have := HL1.out
   have := HL2.out
   exact HM.out ⟨by omega, by omega, by omega, by omega, any_range HB1.out, any_range hb2⟩
theorem write_calls (w : World) (g : Nat) (bl : List Int) (A1 A2 : Option Addr) (n1 n2 c1 c2 : Nat) (lit dist : List Int) (hT : Tabs w) (hg : gtop ≤ g) (hw : Wtr w g bl) (hb : bl.length ≤ 50000000)
  (hx : RI .i64 w A1 n1 lit) (hy : RI .i64 w A2 n2 dist) :
  Calls Tryz.prog 69 #[.pointer (some ⟨g, 0, none⟩), .slice A1 n1 c1, .slice A2 n2 c2] w (Wrote w g bl lit dist) := by
 by_cases hm : MayW lit dist
 ·exact write_good w g bl A1 A2 n1 n2 c1 c2 lit dist hT hg hw hb hx hy hm
 ·exact write_bad w g bl A1 A2 n1 n2 c1 c2 lit dist hx hy hm
end Go.Proofs.YtghjlpechjggjaaGreatDoor
namespace Go.Proofs.YtghjlpechjggjaaGreatDoor
open Go.RowKit
theorem may_no {a b c : Int} {said : Nat} (h0 : ¬ b = 0) (h : ¬ (a = 0 ∧ 3 ≤ b ∧ b ≤ 258 ∧ 1 ≤ c ∧ c ≤ 32768 ∧ c ≤ said)) : mayT (a, b, c) said = false := by
 unfold mayT
 rw [if_neg h0]
 exact decide_eq_false h
theorem right_calls (w : World) (t : Tok) (said : Nat) (hs : said ≤ 1000000) :
  Calls Tryz.prog 92 #[tokV t, .int .i64 said] w fun e w' => e = .returned (.bool (mayT t said)) ∧ Keeps [] w w' := by
 obtain ⟨a, b, c⟩ := t
 have ha : Keeps [] w (w.alloc (.cells #[.int .u8 a, .int .i64 b, .int .i64 c] 98)) := (Keeps.refl [] w).alloc _
 unfold tokV
 by_cases h0 : b = 0
 ·have HR : Hid (mayT (a, b, c) said = (c == 0)) := by
   show _ = _
   unfold mayT; rw [if_pos h0]
   by_cases h : c = 0 <;> simp [h]
  have x0 : decide (b = 0) = true := by simpa using h0
  have x0' : (b == 0) = true := by simpa using h0
  clear h0
  go_enter Tryz.func92, Tryz.ntmps92
  go_wp2_with fail
  go_ret
  exact ⟨by rw [HR.out]; rfl, ha⟩
 ·have x0 : decide (b = 0) = false := by simpa using h0
  have x0' : (b == 0) = false := by simpa using h0
  have NO : Hid (¬ (a = 0 ∧ 3 ≤ b ∧ b ≤ 258 ∧ 1 ≤ c ∧ c ≤ 32768 ∧ c ≤ said) → mayT (a, b, c) said = false) := Lib.hid (may_no h0)
  have H0 := Lib.hid h0
  clear h0
  by_cases h1 : a = 0
  ·have x1 : decide (a = 0) = true := by simpa using h1
   have x1' : (a == 0) = true := by simpa using h1
   have H1 := Lib.hid h1
   clear h1
   by_cases h2 : 3 ≤ b
   ·have x2 : decide (3 ≤ b) = true := by simpa using h2
    have H2 := Lib.hid h2
    clear h2
    by_cases h3 : b ≤ 258
    ·have x3 : decide (b ≤ 258) = true := by simpa using h3
     have H3 := Lib.hid h3
     clear h3
     by_cases h4 : 1 ≤ c
     ·have x4 : decide (1 ≤ c) = true := by simpa using h4
      have H4 := Lib.hid h4
      clear h4
      obtain ⟨K, hK⟩ : ∃ K : Nat, (if (said : Int) < 32768 then (said : Int) else 32768) = (K : Int) := ⟨min said 32768, by split <;> omega⟩
      have HK : Hid (K = min said 32768) := Lib.hid (by split at hK <;> omega)
      go_enter Tryz.func92, Tryz.ntmps92
      go_wp2_with fail
      go_ret
      refine ⟨?_, ha⟩
      have e : mayT (a, b, c) said = decide (c ≤ (K : Int)) := by
       have := H0.out; have := H1.out; have := H2.out; have := H3.out; have := H4.out; have hKK := HK.out
       unfold mayT
       rw [if_neg H0.out]
       exact decide_eq_decide.2 (by dsimp only; omega)
      rw [e]; rfl
     ·have x4 : decide (1 ≤ c) = false := by simpa using h4
      have HR := Lib.hid (NO.out (by omega))
      clear h4
      go_enter Tryz.func92, Tryz.ntmps92
      go_wp2_with fail
      go_ret
      exact ⟨by rw [HR.out]; rfl, ha⟩
    ·have x3 : decide (b ≤ 258) = false := by simpa using h3
     have HR := Lib.hid (NO.out (by omega))
     clear h3
     go_enter Tryz.func92, Tryz.ntmps92
     go_wp2_with fail
     go_ret
     exact ⟨by rw [HR.out]; rfl, ha⟩
   ·have x2 : decide (3 ≤ b) = false := by simpa using h2
    have HR := Lib.hid (NO.out (by omega))
    clear h2
    go_enter Tryz.func92, Tryz.ntmps92
    go_wp2_with fail
    go_ret
    exact ⟨by rw [HR.out]; rfl, ha⟩
  ·have x1 : decide (a = 0) = false := by simpa using h1
   have x1' : (a == 0) = false := by simpa using h1
   have HR := Lib.hid (NO.out (by omega))
   clear h1
   go_enter Tryz.func92, Tryz.ntmps92
   go_wp2_with fail
   go_ret
   exact ⟨by rw [HR.out]; rfl, ha⟩
theorem tcheck_calls (w : World) (A : Option Addr) (n c : Nat) (ts : List Tok) (h : RT w A n ts) (hn : n ≤ 140737488355328) :
  Calls Tryz.prog 59 #[.slice A n c] w fun e w' => e = .returned (.int .i64 (checkT ts 0)) ∧ Keeps [] w w' := by
 have H := Lib.hid h
 have HL := Lib.hid h.len
 clear h
 go_enter Tryz.func59, Tryz.ntmps59
 go_wp2_with fail
 go_loopw [3, 8] (fun sv iv wr => ∃ (p s : Nat), p ≤ n ∧ s ≤ 16384 ∧ sv = .int .i64 s ∧ iv = .int .i64 p ∧ Hid (checkT ts 0 = checkT (ts.drop p) s) ∧ Hid (Keeps [] w wr)) (fun _ iv _ => n - (intOf iv).toNat)
 case atStart => exact ⟨0, 0, by omega, by omega, rfl, rfl, Lib.hid (by simp), Lib.hid (Keeps.refl _ _)⟩
 case round =>
  obtain ⟨p, s, hp, hs, rfl, rfl, HC, HK⟩ := hrel
  by_cases hlt : p < n
  ·have e5 : decide (p < n) = true := by simpa using hlt
   obtain ⟨tb, to', rfl⟩ := H.out.hd (by omega)
   obtain ⟨p0, p1, p2⟩ := (H.out.keeps HK.out (off_nil _)).cell tb to' rfl p hlt
   have HD : Hid (ts.drop p = tth ts p :: ts.drop (p + 1)) := Lib.hid (drop_tth (by have := HL.out; omega))
   generalize tth ts p = t at *
   have HRT := fun w => right_calls w t s (by omega)
   have HX := Lib.hid HRT
   clear HRT
   obtain ⟨a, b, d⟩ := t
   dsimp only at p0 p1 p2
   go_wp2_with fail
   refine (HX.out _).mono ?_
   rintro _ w1 ⟨rfl, hk1⟩
   have hbx := (blk_new wr 98 [.int .u8 a, .int .i64 b, .int .i64 d]).keeps hk1 (by simp)
   have b1 := hbx.cell 1
   simp only [List.getElem?_cons_zero, List.getElem?_cons_succ] at b1
   have HK1 := Lib.hid ((HK.out.alloc (.cells #[.int .u8 a, .int .i64 b, .int .i64 d] 98)).trans hk1)
   clear hbx hk1 HX p0 p1 p2 HK
   have HE := HC.out
   rw [HD.out, checkT] at HE
   clear HC
   by_cases hm : mayT (a, b, d) s = false
   ·rw [if_pos hm] at HE
    have HE2 := Lib.hid HE
    clear HE
    rw [hm]
    go_wp2_with fail
    go_ret
    exact ⟨by rw [HE2.out]; rfl, HK1.out⟩
   ·rw [if_neg hm] at HE
    have hm' : mayT (a, b, d) s = true := by simpa using hm
    rw [hm']
    have hb0 := may_nn hm'
    obtain ⟨m, hm2⟩ := Int.eq_ofNat_of_zero_le hb0
    dsimp only at hm2
    subst hm2
    have hmx : (m : Int) ≤ 258 := by
     unfold mayT at hm'
     split at hm'
     ·next h => dsimp only at h; omega
     ·have := of_decide_eq_true hm'; dsimp only at this; omega
    dsimp only at HE
    rw [Int.toNat_natCast] at HE
    obtain ⟨K, hK⟩ : ∃ K : Nat, (if 1 < (m : Int) then (m : Int) else 1) = (K : Int) := ⟨max 1 m, by split <;> omega⟩
    have hK2 : max 1 m = K := by split at hK <;> omega
    rw [hK2] at HE
    have HE2 := Lib.hid HE
    have s1 : IntKind.i64.wrap ((s : Int) + (K : Int)) = (s : Int) + (K : Int) := IntWalk.i64_in _ (by omega)
    clear HE hm hm' hb0 hK2
    by_cases hbig : 16384 < s + K
    ·have x2 : decide ((16384 : Int) < (s : Int) + (K : Int)) = true := by simp; omega
     have HE3 := Lib.hid (HE2.out.trans (if_pos hbig))
     clear HE2 hbig
     go_wp2_with fail
     go_ret
     exact ⟨by rw [HE3.out]; rfl, HK1.out⟩
    ·have x2 : decide ((16384 : Int) < (s : Int) + (K : Int)) = false := by simp; omega
     have HE3 := Lib.hid (HE2.out.trans (if_neg hbig))
     clear HE2
     go_wp2_with fail
     go_roundw
     case rel => exact ⟨p + 1, s + K, by omega, by omega, by go_num, by go_num, HE3, HK1⟩
     case measure => simp [intOf]; omega
  ·obtain rfl : p = n := by omega
   have e5 : decide (p < p) = false := by simp
   have HE : Hid (checkT ts 0 = 0) := Lib.hid (by rw [HC.out, List.drop_eq_nil_of_le (by have := HL.out; omega)]; rfl)
   go_wp2_with fail
   go_ret
   exact ⟨by rw [HE.out]; rfl, HK.out⟩
end Go.Proofs.YtghjlpechjggjaaGreatDoor
namespace Go.Proofs.YtghjlpechjggjaaGreatDoor
open Go.RowKit
theorem concat4_calls (w : World) (gb g1 g2 g3 g4 n1 n2 n3 n4 c1 c2 c3 c4 : Nat) (x1 x2 x3 x4 : List Int) (h0 : w.cell? ⟨gb, 0, none⟩ = some (.slice (some ⟨g1, 0, none⟩) n1 c1)) (h1 : w.cell? ⟨gb, 1, none⟩ = some (.slice (some ⟨g2, 0, none⟩) n2 c2)) (h2 : w.cell? ⟨gb, 2, none⟩ = some (.slice (some ⟨g3, 0, none⟩) n3 c3)) (h3 : w.cell? ⟨gb, 3, none⟩ = some (.slice (some ⟨g4, 0, none⟩) n4 c4))
  (hx1 : RI .i64 w (some ⟨g1, 0, none⟩) n1 x1) (hx2 : RI .i64 w (some ⟨g2, 0, none⟩) n2 x2) (hx3 : RI .i64 w (some ⟨g3, 0, none⟩) n3 x3) (hx4 : RI .i64 w (some ⟨g4, 0, none⟩) n4 x4)
  (hn1 : n1 ≤ 1000000) (hn2 : n2 ≤ 1000000) (hn3 : n3 ≤ 1000000) (hn4 : n4 ≤ 1000000) :
  Calls Tryz.prog 60 #[.slice (some ⟨gb, 0, none⟩) 4 4] w fun e w' => ∃ v, e = .returned v ∧ w'.ownsRow w.heap.size 3 1 v (n1 + n2 + n3 + n4) (ints .i64 (x1 ++ (x2 ++ (x3 ++ x4)))) ∧ Below w.heap.size w w' := by
 have HX1 := Lib.hid hx1
 have HX2 := Lib.hid hx2
 have HX3 := Lib.hid hx3
 have HX4 := Lib.hid hx4
 have H0 := Lib.hid h0
 have H1 := Lib.hid h1
 have H2 := Lib.hid h2
 have H3 := Lib.hid h3
 have e1 : decide ((n1 : Int) < 0) = false := by simp
 have e2 : decide ((n1 : Int) + n2 < 0) = false := by simp; omega
 have e3 : decide ((n1 : Int) + n2 + n3 < 0) = false := by simp; omega
 have e4 : decide ((n1 : Int) + n2 + n3 + n4 < 0) = false := by simp; omega
 clear hx1 hx2 hx3 hx4
 go_enter Tryz.func60, Tryz.ntmps60
 go_wp2_with fail
 refine wp_loop_rounds 5 ?_
 rw [rounds_succ]
 go_wp2_with fail
 rw [rounds_succ]
 go_wp2_with fail
 rw [rounds_succ]
 go_wp2_with fail
 rw [rounds_succ]
 go_wp2_with fail
 rw [rounds_succ]
 go_wp2_with fail
 rw [show ((n1 : Int) + n2 + n3 + n4) = ((n1 + n2 + n3 + n4 : Nat) : Int) by omega]
 refine (grow_calls _ (n1 + n2 + n3 + n4) (by omega)).mono ?_
 rintro _ w1 ⟨v, rfl, ho, hb⟩
 have HO := Lib.hid (ho w.heap.size (Nat.le_refl _))
 have HB := Lib.hid hb
 have hz := hb.size
 have h0 := (Keeps.of_below (S := []) hb).cell (by simp) H0.out
 clear h1 h2 h3
 clear ho hb e1 e2 e3 e4
 go_wp2_with fail
 refine wp_loop_rounds 5 ?_
 rw [rounds_succ]
 go_wp2_with (at_builtin; refine app_intsG rfl (.tmp 31) (.tmp 32) rfl w.heap.size _ _ [] rfl HO.out (some ⟨g1, 0, none⟩) n1 c1 x1 rfl (HX1.out.keeps (Keeps.of_below (S := []) HB.out) (off_nil _)) nofun (fun ad h => ⟨_, _, (Option.some.inj h).symm⟩) (by omega) hz ?_)
 intro v2 w2 ho hg
 have HO2 := Lib.hid ho
 have hb2 := HB.out.grown hg hz (fun k hk => own_lo HO.out k hk)
 have HB2 := Lib.hid hb2
 replace hz := hb2.size
 clear h0
 have h1 := (Keeps.of_below (S := []) hb2).cell (by simp) H1.out
 clear ho hg hb2
 go_wp2_with fail
 rw [rounds_succ]
 go_wp2_with (at_builtin; refine app_intsG rfl (.tmp 31) (.tmp 32) rfl w.heap.size _ _ _ rfl HO2.out (some ⟨g2, 0, none⟩) n2 c2 x2 rfl (HX2.out.keeps (Keeps.of_below (S := []) HB2.out) (off_nil _)) nofun (fun ad h => ⟨_, _, (Option.some.inj h).symm⟩) (by omega) hz ?_)
 intro v3 w3 ho hg
 have HO3 := Lib.hid ho
 have hb2 := HB2.out.grown hg hz (fun k hk => own_lo HO2.out k hk)
 have HB3 := Lib.hid hb2
 replace hz := hb2.size
 clear h1
 have h2 := (Keeps.of_below (S := []) hb2).cell (by simp) H2.out
 clear ho hg hb2
 go_wp2_with fail
 rw [rounds_succ]
 go_wp2_with (at_builtin; refine app_intsG rfl (.tmp 31) (.tmp 32) rfl w.heap.size _ _ _ rfl HO3.out (some ⟨g3, 0, none⟩) n3 c3 x3 rfl (HX3.out.keeps (Keeps.of_below (S := []) HB3.out) (off_nil _)) nofun (fun ad h => ⟨_, _, (Option.some.inj h).symm⟩) (by omega) hz ?_)
 intro v4 w4 ho hg
 have HO4 := Lib.hid ho
 have hb2 := HB3.out.grown hg hz (fun k hk => own_lo HO3.out k hk)
 have HB4 := Lib.hid hb2
 replace hz := hb2.size
 clear h2
 have h3 := (Keeps.of_below (S := []) hb2).cell (by simp) H3.out
 clear ho hg hb2
 go_wp2_with fail
 rw [rounds_succ]
 go_wp2_with (at_builtin; refine app_intsG rfl (.tmp 31) (.tmp 32) rfl w.heap.size _ _ _ rfl HO4.out (some ⟨g4, 0, none⟩) n4 c4 x4 rfl (HX4.out.keeps (Keeps.of_below (S := []) HB4.out) (off_nil _)) nofun (fun ad h => ⟨_, _, (Option.some.inj h).symm⟩) (by omega) hz ?_)
 intro v5 w5 ho hg
 have HO5 := Lib.hid ho
 have hb2 := HB4.out.grown hg hz (fun k hk => own_lo HO4.out k hk)
 have HB5 := Lib.hid hb2
 replace hz := hb2.size
 clear h3
 clear ho hg hb2
 go_wp2_with fail
 rw [rounds_succ]
 go_wp2_with fail
 go_ret
 exact ⟨_, rfl, HO5.out, HB5.out⟩
end Go.Proofs.YtghjlpechjggjaaGreatDoor
namespace Go.Proofs.YtghjlpechjggjaaGreatDoor
open Go.RowKit
theorem mul64_calls (w : World) (m : Nat) (hm : m ≤ 1000000) :
  Calls Tryz.prog 116 #[.int .u64 1, .int .u64 m] w fun e w' => e = .returned (.tuple #[.int .u64 0, .int .u64 m]) ∧ w = w' := by
 have e1 : Go.bits .and .u64 1 4294967295 = 1 := by rw [u64_mask32 _ (by omega) (by omega)]; rfl
 have e2 : Go.bits .and .u64 0 4294967295 = 0 := by rw [u64_mask32 _ (by omega) (by omega)]; rfl
 have e3 : Go.bits .and .u64 (m : Int) 4294967295 = m := by rw [u64_mask32 _ (by omega) (by omega)]; omega
 have e4 : IntKind.u64.wrap (m : Int) = m := wraps_u64 _ (by omega) (by omega)
 have e5 : (m : Int) / 4294967296 = 0 := by omega
 have e6 : IntKind.u64.wrap 0 = 0 := rfl
 go_enter Tryz.func116, Tryz.ntmps116
 go_wp2
 go_ret2
 exact ⟨rfl, rfl⟩
theorem mul_calls (w : World) (m : Nat) (hm : m ≤ 1000000) :
  Calls Tryz.prog 94 #[.int .u64 1, .int .u64 m] w fun e w' => e = .returned (.tuple #[.int .u64 0, .int .u64 m]) ∧ w = w' := by
 go_enter Tryz.func94, Tryz.ntmps94
 go_wp2_with fail
 refine (mul64_calls _ _ hm).mono ?_
 rintro e w' ⟨rfl, rfl⟩
 go_wp2_with fail
 go_ret2
 exact ⟨rfl, rfl⟩
end Go.Proofs.YtghjlpechjggjaaGreatDoor
namespace Go.Proofs.YtghjlpechjggjaaGreatDoor
open Go.RowKit
theorem ints_one (k : IntKind) (xs : List Int) : ∀ v ∈ ints k xs, v.oneCell' = true := by
 intro u hu; simp only [ints, List.mem_map] at hu; obtain ⟨x, _, rfl⟩ := hu; rfl
theorem rep_src {w : World} {g t k m : Nat} {v : Int} (h : Blk w g t (ints .i64 (List.replicate k v ++ List.replicate m 0))) (j : Nat) (hj : j ≤ k) :
  ∀ i u, (ints .i64 (List.replicate j v))[i]? = some u → w.cell? ((⟨g, 0, none⟩ : Addr).add i) = some u := by
 intro i u hu
 have hi : i < j := by have := (List.getElem?_eq_some_iff.1 hu).1; simpa [ints] using this
 rw [add_plain, h.cell]
 rw [ints_getElem?] at hu ⊢
 rw [List.getElem?_append_left (by simp; omega)]
 simpa [hi, show i < k by omega] using hu
theorem rep_fit {k m q : Nat} {v : Int} (h2 : q ≤ m - k) (h : k < m) : k + (ints .i64 (List.replicate q v)).length ≤ (ints .i64 (List.replicate k v ++ List.replicate (m - k) 0)).length := by
 simp [ints]; omega
theorem rep_splice {k m q : Nat} {v : Int} (h2 : q ≤ m - k) (h : k < m) : splice (ints .i64 (List.replicate k v ++ List.replicate (m - k) 0)) k (ints .i64 (List.replicate q v)) = ints .i64 (List.replicate (k + q) v ++ List.replicate (m - (k + q)) 0) := by
 have e1 : List.replicate (k + q) v = List.replicate k v ++ List.replicate q v := by simp
 rw [e1]
 simp only [splice, ints, List.map_append, List.map_replicate, List.length_replicate, List.append_assoc]
 rw [List.take_append_of_le_length (by simp), List.drop_append]
 simp
 omega
theorem repeat_calls (w : World) (b c m : Nat) (v : Int) (hc : w.cell? ⟨b, 0, none⟩ = some (.int .i64 v)) (hm1 : 1 ≤ m) (hm : m ≤ 1000000) :
  Calls Tryz.prog 61 #[.slice (some ⟨b, 0, none⟩) 1 c, .int .i64 m] w fun e w' => ∃ g, e = .returned (.slice (some ⟨g, 0, none⟩) m m) ∧ Blk w' g 3 (ints .i64 (List.replicate m v)) ∧ w.heap.size ≤ g ∧ Below w.heap.size w w' := by
 have hbl : b < w.heap.size := World.block_lt_of_cell? _ _ hc
 have e0 : IntKind.u64.wrap (m : Int) = m := wraps_u64 _ (by omega) (by omega)
 have e1 : IntKind.u64.wrap 1 = 1 := rfl
 have e2 : decide ((0 : Int) < 0) = false := rfl
 have e4 : decide ((m : Int) < 0) = false := by simp
 have hmk := fun w => make_ints (P := Tryz.prog) w 90 3 .i64 8 Tryz.underlying90 info_int (m : Int) m rfl (by omega) (by omega)
 go_enter Tryz.func61, Tryz.ntmps61
 go_wp2_with fail
 refine (mul_calls _ _ hm).mono ?_
 rintro e w' ⟨rfl, rfl⟩
 have e3 : decide ((9223372036854775807 : Int) < (m : Int)) = false := by simp; omega
 go_wp2_with (with_reducible refine wpList_copy_splice rfl (.tmp 31) (.tmp 32) _ _ rfl 3 Tryz.underlying90 size_int _ _ _ _ _ _ rfl rfl w.heap.size 0 (ints .i64 (List.replicate m 0)) 3 ?h1 (ints .i64 [v]) ?h2 ?h3 ?h4 ?h5 w.heap.size w ?h6 (Nat.le_refl _) ?_)
 case h1 => exact blk_new w _ _
 case h2 => exact (Nat.min_eq_left hm1).symm
 case h3 =>
  intro _ j u hu
  match j, hu with
  | 0, hu =>
   simp [ints] at hu
   subst hu
   exact hc
  | j + 1, hu => simp [ints] at hu
 case h4 => simp [ints]; omega
 case h5 => intro u hu; simp only [ints, List.mem_map] at hu; obtain ⟨x, _, rfl⟩ := hu; rfl
 case h6 => exact (Below.refl _ _).alloc (Nat.le_refl _) _
 intro w1 hg1 hb1
 have hB : Blk w1 w.heap.size 3 (splice (ints .i64 (List.replicate m 0)) 0 (ints .i64 [v])) := hg1.out
 have hsp : splice (ints .i64 (List.replicate m 0)) 0 (ints .i64 [v]) = ints .i64 (List.replicate 1 v ++ List.replicate (m - 1) 0) := by
  simp [splice, ints]
 rw [hsp] at hB
 clear hg1 hsp hmk hc
 have HB := Lib.hid hB
 have HW := Lib.hid hb1
 clear hB hb1 e0 e1 e2 e3 e4
 go_wp2_with fail
 go_loopw [8] (fun v8 wr => ∃ k : Nat, 1 ≤ k ∧ k ≤ m ∧ v8 = .int .i64 k ∧ Hid (Blk wr w.heap.size 3 (ints .i64 (List.replicate k v ++ List.replicate (m - k) 0))) ∧ Hid (Below w.heap.size w wr)) (fun v8 _ => m - (intOf v8).toNat)
 case atStart => exact ⟨1, by omega, by omega, by go_num, HB, HW⟩
 case round =>
  clear HB HW
  obtain ⟨k, hk1, hk, rfl, HB, HW⟩ := hrel
  by_cases hlt : k < m
  ·go_wp2_with fail
   have HLT := Lib.hid hlt
   obtain ⟨q, hq⟩ : ∃ q, q = Nat.min k (m - k) := ⟨_, rfl⟩
   have hq1 : 1 ≤ q := by rw [hq]; exact Nat.le_min.2 ⟨hk1, by omega⟩
   have hq2 : q ≤ m - k := by rw [hq]; exact Nat.min_le_right _ _
   have hq3 : q ≤ k := by rw [hq]; exact Nat.min_le_left _ _
   have HQ := Lib.hid hq
   clear hq
   have hlen : (ints .i64 (List.replicate q v)).length = q := by simp [ints]
   have HLEN := Lib.hid hlen
   have e2 : IntKind.i64.wrap ((k : Int) + (q : Int)) = (k : Int) + (q : Int) := IntWalk.i64_in _ (by omega)
   have e9 : ¬ m = k := by omega
   have HN := Lib.hid e9
   go_region_law (refine step_copy_splice rfl (.tmp 41) (.tmp 44) _ _ rfl 3 Tryz.underlying90 size_int (some ⟨w.heap.size, k, none⟩) (some ⟨w.heap.size, 0, none⟩) (m - k) (m - k) k m (by simp [Act.eval, Act.put, HN.out]) (by simp [Act.eval, Act.put]) w.heap.size k (ints .i64 (List.replicate k v ++ List.replicate (m - k) 0)) 3 (by exact HB.out) (ints .i64 (List.replicate q v)) (by exact HLEN.out.trans HQ.out) (fun _ => ⟨rfl, _, rfl, by exact rep_src HB.out _ hq3⟩) (by exact rep_fit hq2 HLT.out) (by exact ints_one _ _) w.heap.size w (by exact HW.out.drew) (Nat.le_refl _) ?_; intro w4 hg4 hb4)
   all_goals
    have hB4 : Blk w4 w.heap.size 3 (splice (ints .i64 (List.replicate k v ++ List.replicate (m - k) 0)) k (ints .i64 (List.replicate q v))) := hg4.out
    rw [rep_splice hq2 HLT.out] at hB4
    have HB4 := Lib.hid hB4
    have HW4 := Lib.hid hb4
    clear hB4 hb4 hg4 HB HW e9 hlen e2
    go_wp2_with fail
    go_roundw
    case rel => exact ⟨.int .i64 ((k : Int) + q), _, _, _, _, _, _, _, _, _, _, _, _, _, ⟨k + q, by omega, by omega, by go_num, HB4, HW4⟩, rfl⟩
    case measure =>
     show m - (intOf (.int .i64 ((k : Int) + q))).toNat < m - (intOf (.int .i64 (k : Int))).toNat
     simp [intOf]; omega
  ·go_wp2_with fail
   obtain rfl : k = m := by omega
   go_ret
   exact ⟨_, rfl, by simpa using HB.out, Nat.le_refl _, HW.out⟩
theorem repeat_calls' (w : World) (b c m : Nat) (mi v : Int) (hmi : mi = m) (hc : w.cell? ⟨b, 0, none⟩ = some (.int .i64 v)) (hm1 : 1 ≤ m) (hm : m ≤ 1000000) :
  Calls Tryz.prog 61 #[.slice (some ⟨b, 0, none⟩) 1 c, .int .i64 mi] w fun e w' => ∃ g, e = .returned (.slice (some ⟨g, 0, none⟩) m m) ∧ Blk w' g 3 (ints .i64 (List.replicate m v)) ∧ w.heap.size ≤ g ∧ Below w.heap.size w w' := by
 subst hmi
 exact repeat_calls w b c m v hc hm1 hm
end Go.Proofs.YtghjlpechjggjaaGreatDoor
namespace Go.Proofs.YtghjlpechjggjaaGreatDoor
open Go.RowKit Go.Maps Go.WideMaps
structure RW {α : Type} (k : Nat) (enc : α → List Value) (w : World) (A : Option Addr) (n : Nat) (ts : List α) : Prop where
 len : ts.length = n
 hd : 0 < n → ∃ b o, A = some ⟨b, o, none⟩
 cell : ∀ b o, A = some ⟨b, o, none⟩ → ∀ (j : Nat) (hj : j < ts.length) (i : Nat), i < k → w.cell? ⟨b, o + j * k + i, none⟩ = (enc ts[j])[i]?
theorem RW.keeps {α : Type} {k : Nat} {enc : α → List Value} {S : List Nat} {w w' : World} {A : Option Addr} {n : Nat} {ts : List α} (he : ∀ t, (enc t).length = k) (h : RW k enc w A n ts) (hk : Keeps S w w') (ho : Off S A) : RW k enc w' A n ts :=
 ⟨h.len, h.hd, fun b o ha j hj i hi => by
  have hc := h.cell b o ha j hj i hi
  have hl : i < (enc ts[j]).length := by rw [he]; exact hi
  rw [List.getElem?_eq_getElem hl] at hc ⊢
  exact hk.cell (p := ⟨b, o + j * k + i, none⟩) (ho ⟨b, o, none⟩ ha) hc⟩
theorem rw_len {α : Type} {k : Nat} {enc : α → List Value} (he : ∀ t, (enc t).length = k) (ts : List α) : (ts.flatMap enc).length = ts.length * k := by
 induction ts with
 | nil => simp
 | cons t ts ih => rw [List.flatMap_cons, List.length_append, ih, he, List.length_cons, Nat.add_mul]; omega
theorem rw_get {α : Type} {k : Nat} {enc : α → List Value} (he : ∀ t, (enc t).length = k) : ∀ (ts : List α) (j : Nat) (hj : j < ts.length) (i : Nat), i < k → (ts.flatMap enc)[j * k + i]? = (enc ts[j])[i]?
 | [], j, hj, _, _ => by simp at hj
 | t :: ts, 0, hj, i, hi => by
  rw [List.flatMap_cons, Nat.zero_mul, Nat.zero_add, List.getElem?_append_left (by rw [he]; exact hi)]
  rfl
 | t :: ts, j + 1, hj, i, hi => by
  have ih := rw_get he ts j (by simpa using hj) i hi
  rw [List.flatMap_cons, List.getElem?_append_right (by rw [he, Nat.add_mul]; omega), he, show (j + 1) * k + i - k = j * k + i by rw [Nat.add_mul]; omega, ih]
  rfl
theorem own_rw {α : Type} {k : Nat} {enc : α → List Value} (hk0 : 0 < k) (he : ∀ t, (enc t).length = k) {w : World} {base : Nat} {e : TypeId} {v : Value} {n : Nat} {ts : List α} (h : w.ownsRow base e k v n (ts.flatMap enc)) :
  ∃ A c, v = .slice A n c ∧ RW k enc w A n ts ∧ n ≤ c ∧ (∀ a, A = some a → base ≤ a.block ∧ a.block < w.heap.size) := by
 obtain ⟨h1, h2⟩ := h
 have hl : ts.length = n := by rw [rw_len he] at h1; exact Nat.eq_of_mul_eq_mul_right hk0 h1
 rcases h2 with ⟨rfl, rfl⟩ | ⟨g, cap, cur, rfl, hb, hh, hc, hm, hs, ht⟩
 ·exact ⟨none, 0, rfl, ⟨hl, by omega, by simp⟩, by omega, by simp⟩
 ·refine ⟨_, _, rfl, ⟨hl, fun _ => ⟨_, _, rfl⟩, fun b o ha j hj i hi => ?_⟩, hc, fun a ha => ?_⟩
  ·injection ha with ha; injection ha with h1 h2 h3; subst h1; subst h2
   have hp := rw_get he ts j hj i hi
   have hlt : j * k + i < n * k := by
    have : (j + 1) * k ≤ n * k := Nat.mul_le_mul_right k (by omega)
    rw [Nat.add_mul] at this; omega
   have e1 : cur.toList[j * k + i]? = (ts.flatMap enc)[j * k + i]? := by rw [← ht, List.getElem?_take, if_pos hlt]
   rw [Nat.zero_add]
   unfold World.cell?
   simp only [hh]
   rw [← Array.getElem?_toList, e1]
   exact hp
  ·obtain rfl := Option.some.inj ha
   exact ⟨hb, (Array.getElem?_eq_some_iff.1 hh).1⟩
abbrev EN := ByteArray × ByteArray
def ecells (e : EN) : List Value := [.string e.1, .string e.2]
theorem ecells_len (e : EN) : (ecells e).length = 2 := rfl
def keyL (s : ByteArray) : Lit := .string s.data.toList
theorem keyL_same (s t : ByteArray) : (keyL s).sameKey (keyL t) = decide (s = t) := by
 show (s.data.toList == t.data.toList) = _
 by_cases h : s = t
 ·subst h; simp
 ·rw [decide_eq_false h, beq_eq_false_iff_ne]
  intro e
  apply h
  cases s; cases t
  simpa using e
theorem keyL_is (s : ByteArray) : WideAt.IsKeyLit (keyL s) := by simp [keyL, WideAt.IsKeyLit]
theorem nameLaw : Keyed Tryz.prog 9 := string_keyed Tryz.underlying9
theorem zeroUnit (w : World) : (zeroValue 62).run Tryz.prog w = .ok (.agg #[]) w := by kernel_rfl
def SetM (w : World) (B : Nat) (l : List ByteArray) : Prop := w.ownsMap (H := Unit) Tryz.prog 9 unitElem B l.length (setOf (.agg []) (l.map keyL))
def inL (l : List ByteArray) (s : ByteArray) : Bool := l.any fun k => decide (k = s)
theorem inL_iff {l : List ByteArray} {s : ByteArray} : inL l s = true ↔ s ∈ l := by
 unfold inL
 rw [List.any_eq_true]
 constructor
 ·rintro ⟨x, hx, he⟩; exact of_decide_eq_true he ▸ hx
 ·intro h; exact ⟨s, h, decide_eq_true rfl⟩
theorem set_has (l : List ByteArray) (s : ByteArray) : Maps.has (H := Unit) (setOf (.agg []) (l.map keyL)) (keyL s) = inL l s := by
 rw [has_setOf _ _ _ (fun x hx => by obtain ⟨t, -, rfl⟩ := List.mem_map.1 hx; exact keyL_is t), List.any_map]
 unfold inL
 congr 1
 funext t
 exact keyL_same t s
theorem SetM.lt {w : World} {B : Nat} {l : List ByteArray} (h : SetM w B l) : B < w.heap.size := World.ownsMap.lt h
theorem SetM.keeps {S : List Nat} {w w' : World} {B : Nat} {l : List ByteArray} (h : SetM w B l) (hk : Keeps S w w') (hB : B ∉ S) : SetM w' B l := by
 obtain ⟨es, clock, h1, h2, h3, h4⟩ := h
 exact ⟨es, clock, hk.heap h1 hB, h2, h3, h4⟩
theorem set_made (w : World) : SetM (w.alloc (.map #[] 0)) w.heap.size [] := World.ownsMap_made _ _ _ _
theorem SetM.snoc {w : World} {B : Nat} {l : List ByteArray} {s : ByteArray} (h : w.ownsMap (H := Unit) Tryz.prog 9 unitElem B (l.length + 1) ((setOf (.agg []) (l.map keyL)).put (keyL s) (.agg []))) : SetM w B (l ++ [s]) := by
 unfold SetM
 rw [List.map_append, List.length_append, List.map_singleton, setOf_snoc]
 exact h
theorem key_of {s : ByteArray} (hs : s.size ≤ 1000000000) : keyOf Tryz.prog 9 (.string s) = some (keyL s) := keyOf_string_mk Tryz.underlying9 (by unfold maxLen; omega)
end Go.Proofs.YtghjlpechjggjaaGreatDoor
namespace Go.Proofs.YtghjlpechjggjaaGreatDoor
open Go.RowKit
def zchk : List EN → List ByteArray → Int
 | [], _ => 0
 | e :: l, known => if inL known e.1 = true ∨ nameB e.1 = false then 80 else if 8192 < e.2.size then 87 else zchk l (known ++ [e.1])
def zcheck (l : List EN) : Int := if 64 < l.length then 86 else zchk l []
theorem zchk_ok : ∀ {l : List EN} {known : List ByteArray}, zchk l known = 0 → (∀ e ∈ l, nameB e.1 = true ∧ e.2.size ≤ 8192 ∧ e.1 ∉ known) ∧ (l.map fun e => e.1).Nodup
 | [], _, _ => ⟨by simp, by simp⟩
 | e :: l, known, h => by
  rw [zchk] at h
  split at h
  ·cases h
  rename_i h1
  split at h
  ·cases h
  rename_i h2
  obtain ⟨i1, i2⟩ := zchk_ok h
  have hn : e.1 ∉ known := fun hm => h1 (.inl (inL_iff.2 hm))
  have hb : nameB e.1 = true := by
   cases hq : nameB e.1 with
   | true => rfl
   | false => exact absurd (.inr hq) h1
  refine ⟨fun x hx => ?_, ?_⟩
  ·rcases List.mem_cons.1 hx with rfl | hx
   ·exact ⟨hb, by omega, hn⟩
   ·obtain ⟨a, b, c⟩ := i1 x hx
    exact ⟨a, b, fun hm => c (List.mem_append_left _ hm)⟩
  ·rw [List.map_cons, List.nodup_cons]
   refine ⟨fun hm => ?_, i2⟩
   obtain ⟨x, hx, he⟩ := List.mem_map.1 hm
   exact (i1 x hx).2.2 (List.mem_append_right _ (by rw [List.mem_singleton]; exact he))
theorem zcheck_ok {l : List EN} (h : zcheck l = 0) : l.length ≤ 64 ∧ (∀ e ∈ l, nameB e.1 = true ∧ e.2.size ≤ 8192) ∧ (l.map fun e => e.1).Nodup := by
 unfold zcheck at h
 split at h
 ·cases h
 obtain ⟨a, b⟩ := zchk_ok h
 exact ⟨by omega, fun e he => ⟨(a e he).1, (a e he).2.1⟩, b⟩
structure FileOf (l : List EN) (xs : List Int) : Prop where
 out : ∃ es : List ZE, es.map ZE.out = l ∧ (∀ e ∈ es, Defl (sb e.dat) e.ys) ∧ xs = zfileB (es.map ZE.g)
theorem ze_uniq : ∀ {es fs : List ZE}, es.map ZE.out = fs.map ZE.out → (∀ e ∈ es, Defl (sb e.dat) e.ys) → (∀ e ∈ fs, Defl (sb e.dat) e.ys) → es = fs
 | [], [], _, _, _ => rfl
 | [], f :: fs, h, _, _ => by simp at h
 | e :: es, [], h, _, _ => by simp at h
 | e :: es, f :: fs, h, h1, h2 => by
  rw [List.map_cons, List.map_cons] at h
  injection h with ha hb
  have hd : e = f := by
   cases e; cases f
   injection ha with q1 q2
   dsimp only at q1 q2
   subst q1; subst q2
   have d1 := h1 _ List.mem_cons_self
   have d2 := h2 _ List.mem_cons_self
   have := d1.uniq d2
   dsimp only at this
   subst this; rfl
  rw [hd, ze_uniq hb (fun x hx => h1 x (List.mem_cons_of_mem _ hx)) (fun x hx => h2 x (List.mem_cons_of_mem _ hx))]
theorem FileOf.uniq {l : List EN} {xs ys : List Int} (h : FileOf l xs) (k : FileOf l ys) : xs = ys := by
 obtain ⟨es, a1, a2, rfl⟩ := h.out
 obtain ⟨fs, b1, b2, rfl⟩ := k.out
 rw [ze_uniq (a1.trans b1.symm) a2 b2]
theorem zes_ok {l : List EN} {es : List ZE} (hc : zcheck l = 0) (h : es.map ZE.out = l) (hd : ∀ e ∈ es, Defl (sb e.dat) e.ys) : (∀ e ∈ es, e.Ok) ∧ (es.map ZE.name).Nodup ∧ es.length ≤ 64 := by
 obtain ⟨a, b, c⟩ := zcheck_ok hc
 subst h
 refine ⟨fun e he => ?_, ?_, by rw [List.length_map] at a; exact a⟩
 ·obtain ⟨x, y⟩ := b e.out (List.mem_map.2 ⟨e, he, rfl⟩)
  exact ⟨x, y, hd e he⟩
 ·rw [List.map_map] at c; exact c
end Go.Proofs.YtghjlpechjggjaaGreatDoor
namespace Go.Proofs.YtghjlpechjggjaaGreatDoor
open Go.RowKit
theorem results_c3 {P : Program} {fn : Func} {p u v : Tmp} {ty : TypeId} (h : fn.results = #[.cell p ty, .tmp u, .tmp v]) (tmps : Array Value) (w : World) (g : Nat) (t : TypeId) (cs : Array Value) (fr : Nat × Nat) (d : TypeDesc)
  (hp : tmps.getD p undef = .pointer (some ⟨g, 0, none⟩)) (hg : w.heap[g]? = some (.cells cs t fr))
  (hu : P.underlying ty = some d) (hd : (match d with | .struct _ | .array _ _ => true | _ => false) = true) (hi : (P.info? ty).map (·.size) = some cs.size) :
  (results fn tmps).run P w = .ok (.tuple #[.agg cs, tmps.getD u undef, tmps.getD v undef]) w := by
 have hp' : tmps[p]?.getD undef = .pointer (some ⟨g, 0, none⟩) := by simpa using hp
 simp [results, h, hp', asAddr, run_loadVar_row w g t ty cs fr d hg hu hd hi]
theorem size_info : (Tryz.prog.info? 51).map (·.size) = some 5 := by kernel_rfl
theorem fshared_calls (w : World) (F o : Nat) (A : Option Addr) (n c : Nat) (xs : List Int) (p : Nat) (hf : FD w F o A n c p) (h : ZB w A n c xs) (hp : p + 26 ≤ n) :
  Calls Tryz.prog 104 #[.pointer (some ⟨F, o, none⟩)] w fun e w' => ∃ (b : Bool) (q : Nat), e = .returned (.tuple #[.agg #[.string ⟨#[]⟩, .int .i64 (zget xs (p + 18) 4), .int .i64 (zget xs (p + 14) 4), .int .u32 (zget xs (p + 10) 4), .int .i64 (zget xs (p + 4) 2)], .int .i64 (zget xs (p + 22) 2), .bool b]) ∧
   (b = true ↔ zget xs (p + 2) 2 = 0 ∧ zget xs (p + 24) 2 = 0) ∧ (b = true → q = p + 26) ∧ q ≤ p + 26 ∧ FD w' F o A n c q ∧ OnlyC F (o + 1) w w' := by
 have HF := Lib.hid hf
 have HZ := Lib.hid h
 have hFw := hf.lt
 obtain ⟨c0, c1, f1, -⟩ := hf
 have s1 : ∀ q : Nat, q ≤ n → IntKind.i64.wrap ((q : Int) + 2) = (q : Int) + 2 := fun q hq => IntWalk.i64_in _ (by have := h.len; omega)
 have s2 : ∀ q : Nat, q ≤ n → IntKind.i64.wrap ((q : Int) + 4) = (q : Int) + 4 := fun q hq => IntWalk.i64_in _ (by have := h.len; omega)
 have S1 := Lib.hid s1
 have S2 := Lib.hid s2
 have t1 := s1 p (by omega)
 clear h s1 s2
 go_enter Tryz.func104, Tryz.ntmps104
 go_upto_region 2 with (fail)
 obtain ⟨X, hX⟩ : ∃ X, X = w.heap.size := ⟨_, rfl⟩
 obtain ⟨w2, hw2⟩ : ∃ z, z = (w.setCell ⟨F, o + 1, none⟩ (.int .i64 ((p : Int) + 2))).alloc (.cells #[.string ⟨#[]⟩, .int .i64 0, .int .i64 0, .int .u32 0, .int .i64 0] 51) := ⟨_, rfl⟩
 rw [← hw2, ← hX]
 have hwX : w.heap.size ≤ X := by omega
 have hXF : F ≠ X := by omega
 have hss : (w.setCell ⟨F, o + 1, none⟩ (.int .i64 ((p : Int) + 2))).heap.size = w.heap.size := by simp [World.setCell]
 have ka : Keeps [] (w.setCell ⟨F, o + 1, none⟩ (.int .i64 ((p : Int) + 2))) w2 := by rw [hw2]; exact (Keeps.refl [] _).alloc _
 have F2 : Hid (FD w2 F o A n c (p + 2)) := Lib.hid ((HF.out.moved (Keeps.refl [] w) _ (by omega)).keeps ka (by simp))
 have O2 : Hid (OnlyC F (o + 1) w w2) := Lib.hid (((OnlyC.refl w).set _).past ka hFw (by simp))
 have X2 : Hid (Blk w2 X 51 [.string ⟨#[]⟩, .int .i64 0, .int .i64 0, .int .u32 0, .int .i64 0]) := Lib.hid (by
  rw [hw2, hX, ← hss]
  exact blk_new _ 51 [.string ⟨#[]⟩, .int .i64 0, .int .i64 0, .int .u32 0, .int .i64 0])
 have hXw : X < w2.heap.size := X2.out.lt
 have HFO := Lib.hid HF.out.off
 have g2 := fun q (h : q + 2 ≤ xs.length) => zget2_bd HZ.out.byte (p := q) h
 have g4 := fun q (h : q + 4 ≤ xs.length) => zget4_bd HZ.out.byte (p := q) h
 have G2 := Lib.hid g2
 have G4 := Lib.hid g4
 have HLX := Lib.hid HZ.out.ri.len
 clear c0 c1 f1 t1 ka hw2 hX HF g2 g4 hss
 go_wp2_with fail
 refine (ftwo_calls w2 F o A n c xs (p + 2) F2.out (HZ.out.keeps O2.out.keeps HFO.out) (by omega)).mono ?_
 rintro _ w3 ⟨rfl, hf3, ho3⟩
 have F3 := Lib.hid hf3
 have O3 := Lib.hid (O2.out.trans ho3)
 have X3 := Lib.hid (X2.out.keeps ho3.keeps (by simp; omega))
 clear hf3 ho3 F2 O2 X2
 obtain ⟨v3, hv3⟩ : ∃ v, v = zget xs (p + 2) 2 := ⟨_, rfl⟩
 rw [← hv3]
 have V3 := Lib.hid hv3
 clear hv3
 go_wp2_with fail
 refine (ftwo_calls w3 F o A n c xs (p + 4) F3.out (HZ.out.keeps O3.out.keeps HFO.out) (by omega)).mono ?_
 rintro _ w4 ⟨rfl, hf4, ho4⟩
 have F4 := Lib.hid hf4
 have O4 := Lib.hid (O3.out.trans ho4)
 have X4 := Lib.hid (X3.out.keeps ho4.keeps (by simp; omega))
 clear hf4 ho4 F3 O3 X3
 obtain ⟨v4, hv4⟩ : ∃ v, v = zget xs (p + 4) 2 := ⟨_, rfl⟩
 rw [← hv4]
 have V4 := Lib.hid hv4
 clear hv4
 have cx5 := X4.out.cell 4
 simp only [List.getElem?_cons_zero, List.getElem?_cons_succ] at cx5
 have fx5 := X4.out.frozen 4
 go_upto_region 4 with (fail)
 obtain ⟨w5, hw5⟩ : ∃ z, z = w4.setCell ⟨X, 4, none⟩ (.int .i64 v4) := ⟨_, rfl⟩
 rw [← hw5]
 have kx5 : Keeps [X] w4 w5 := by rw [hw5]; exact (Keeps.refl [X] w4).setCell (p := ⟨X, 4, none⟩) (.inl (by simp)) _
 have F5 := Lib.hid (F4.out.keeps kx5 (by simp; omega))
 have O5 := Lib.hid (O4.out.past kx5 hFw (by simp; omega))
 have X5 : Hid (Blk w5 X 51 [.string ⟨#[]⟩, .int .i64 0, .int .i64 0, .int .u32 0, .int .i64 v4]) := Lib.hid (by rw [hw5]; exact X4.out.set 4 _)
 clear cx5 fx5 hw5 kx5 F4 O4 X4
 obtain ⟨P6, hP6⟩ : ∃ P, P = p + 6 := ⟨_, rfl⟩
 obtain ⟨d0, d1, d2, -⟩ := (show FD w5 F o A n c P6 by rw [hP6]; exact F5.out)
 have HP6 := Lib.hid hP6
 clear hP6
 have t6 := S2.out P6 (by have := HP6.out; omega)
 go_upto_region 5 with (fail)
 obtain ⟨w6, hw6⟩ : ∃ z, z = w5.setCell ⟨F, o + 1, none⟩ (.int .i64 ((P6 : Int) + 4)) := ⟨_, rfl⟩
 rw [← hw6]
 have F6 : Hid (FD w6 F o A n c (p + 10)) := Lib.hid (by rw [hw6]; exact F5.out.moved (Keeps.refl [] _) _ (by have := HP6.out; omega))
 have O6 : Hid (OnlyC F (o + 1) w w6) := Lib.hid (by rw [hw6]; exact O5.out.set _)
 have X6 : Hid (Blk w6 X 51 [.string ⟨#[]⟩, .int .i64 0, .int .i64 0, .int .u32 0, .int .i64 v4]) := Lib.hid (X5.out.keeps (show Keeps [F] w5 w6 by rw [hw6]; exact (Keeps.refl [F] _).setCell (p := ⟨F, o + 1, none⟩) (.inl (by simp)) _) (by simp; omega))
 clear d0 d1 d2 t6 hw6 F5 O5 X5
 go_wp2_with fail
 refine (ffour_calls w6 F o A n c xs (p + 10) F6.out (HZ.out.keeps O6.out.keeps HFO.out) (by omega)).mono ?_
 rintro _ w7 ⟨rfl, hf7, ho7⟩
 have F7 := Lib.hid hf7
 have O7 := Lib.hid (O6.out.trans ho7)
 have X7 := Lib.hid (X6.out.keeps ho7.keeps (by simp; omega))
 clear hf7 ho7 F6 O6 X6
 obtain ⟨v7, hv7⟩ : ∃ v, v = zget xs (p + 10) 4 := ⟨_, rfl⟩
 rw [← hv7]
 have V7 := Lib.hid hv7
 clear hv7
 have q7 : IntKind.u32.wrap v7 = v7 := IntWalk.u32_in _ (by have := G4.out (p + 10) (by rw [HLX.out]; omega); have := V7.out; omega)
 have cx8 := X7.out.cell 3
 simp only [List.getElem?_cons_zero, List.getElem?_cons_succ] at cx8
 have fx8 := X7.out.frozen 3
 go_upto_region 6 with (fail)
 obtain ⟨w8, hw8⟩ : ∃ z, z = w7.setCell ⟨X, 3, none⟩ (.int .u32 v7) := ⟨_, rfl⟩
 rw [← hw8]
 have kx8 : Keeps [X] w7 w8 := by rw [hw8]; exact (Keeps.refl [X] w7).setCell (p := ⟨X, 3, none⟩) (.inl (by simp)) _
 have F8 := Lib.hid (F7.out.keeps kx8 (by simp; omega))
 have O8 := Lib.hid (O7.out.past kx8 hFw (by simp; omega))
 have X8 : Hid (Blk w8 X 51 [.string ⟨#[]⟩, .int .i64 0, .int .i64 0, .int .u32 v7, .int .i64 v4]) := Lib.hid (by rw [hw8]; exact X7.out.set 3 _)
 clear cx8 fx8 hw8 kx8 F7 O7 X7
 go_wp2_with fail
 refine (ffour_calls w8 F o A n c xs (p + 14) F8.out (HZ.out.keeps O8.out.keeps HFO.out) (by omega)).mono ?_
 rintro _ w9 ⟨rfl, hf9, ho9⟩
 have F9 := Lib.hid hf9
 have O9 := Lib.hid (O8.out.trans ho9)
 have X9 := Lib.hid (X8.out.keeps ho9.keeps (by simp; omega))
 clear hf9 ho9 F8 O8 X8
 obtain ⟨v9, hv9⟩ : ∃ v, v = zget xs (p + 14) 4 := ⟨_, rfl⟩
 rw [← hv9]
 have V9 := Lib.hid hv9
 clear hv9
 have cx10 := X9.out.cell 2
 simp only [List.getElem?_cons_zero, List.getElem?_cons_succ] at cx10
 have fx10 := X9.out.frozen 2
 go_upto_region 7 with (fail)
 obtain ⟨w10, hw10⟩ : ∃ z, z = w9.setCell ⟨X, 2, none⟩ (.int .i64 v9) := ⟨_, rfl⟩
 rw [← hw10]
 have kx10 : Keeps [X] w9 w10 := by rw [hw10]; exact (Keeps.refl [X] w9).setCell (p := ⟨X, 2, none⟩) (.inl (by simp)) _
 have F10 := Lib.hid (F9.out.keeps kx10 (by simp; omega))
 have O10 := Lib.hid (O9.out.past kx10 hFw (by simp; omega))
 have X10 : Hid (Blk w10 X 51 [.string ⟨#[]⟩, .int .i64 0, .int .i64 v9, .int .u32 v7, .int .i64 v4]) := Lib.hid (by rw [hw10]; exact X9.out.set 2 _)
 clear cx10 fx10 hw10 kx10 F9 O9 X9
 go_wp2_with fail
 refine (ffour_calls w10 F o A n c xs (p + 18) F10.out (HZ.out.keeps O10.out.keeps HFO.out) (by omega)).mono ?_
 rintro _ w11 ⟨rfl, hf11, ho11⟩
 have F11 := Lib.hid hf11
 have O11 := Lib.hid (O10.out.trans ho11)
 have X11 := Lib.hid (X10.out.keeps ho11.keeps (by simp; omega))
 clear hf11 ho11 F10 O10 X10
 obtain ⟨v11, hv11⟩ : ∃ v, v = zget xs (p + 18) 4 := ⟨_, rfl⟩
 rw [← hv11]
 have V11 := Lib.hid hv11
 clear hv11
 have cx12 := X11.out.cell 1
 simp only [List.getElem?_cons_zero, List.getElem?_cons_succ] at cx12
 have fx12 := X11.out.frozen 1
 go_upto_region 8 with (fail)
 obtain ⟨w12, hw12⟩ : ∃ z, z = w11.setCell ⟨X, 1, none⟩ (.int .i64 v11) := ⟨_, rfl⟩
 rw [← hw12]
 have kx12 : Keeps [X] w11 w12 := by rw [hw12]; exact (Keeps.refl [X] w11).setCell (p := ⟨X, 1, none⟩) (.inl (by simp)) _
 have F12 := Lib.hid (F11.out.keeps kx12 (by simp; omega))
 have O12 := Lib.hid (O11.out.past kx12 hFw (by simp; omega))
 have X12 : Hid (Blk w12 X 51 [.string ⟨#[]⟩, .int .i64 v11, .int .i64 v9, .int .u32 v7, .int .i64 v4]) := Lib.hid (by rw [hw12]; exact X11.out.set 1 _)
 clear cx12 fx12 hw12 kx12 F11 O11 X11
 go_wp2_with fail
 refine (ftwo_calls w12 F o A n c xs (p + 22) F12.out (HZ.out.keeps O12.out.keeps HFO.out) (by omega)).mono ?_
 rintro _ w13 ⟨rfl, hf13, ho13⟩
 have F13 := Lib.hid hf13
 have O13 := Lib.hid (O12.out.trans ho13)
 have X13 := Lib.hid (X12.out.keeps ho13.keeps (by simp; omega))
 clear hf13 ho13 F12 O12 X12
 obtain ⟨v13, hv13⟩ : ∃ v, v = zget xs (p + 22) 2 := ⟨_, rfl⟩
 rw [← hv13]
 have V13 := Lib.hid hv13
 clear hv13
 go_upto_region 9 with (fail)
 have x0 := X13.out.cell 0
 have x1 := X13.out.cell 1
 have x2 := X13.out.cell 2
 have x3 := X13.out.cell 3
 have x4 := X13.out.cell 4
 simp only [List.getElem?_cons_zero, List.getElem?_cons_succ] at x0 x1 x2 x3 x4
 have xf := X13.out.frozen
 by_cases hv : v3 = 0
 ·have y0 : (v3 == 0) = true := by simpa using hv
  have HV := Lib.hid hv
  clear hv
  have HC : Hid (∀ w', Below w13.heap.size w13 w' → Calls Tryz.prog 75 #[.pointer (some ⟨F, o, none⟩)] w' fun e w2 => e = .returned (.int .i64 (zget xs (p + 24) 2)) ∧ FD w2 F o A n c (p + 24 + 2) ∧ OnlyC F (o + 1) w13 w2) :=
   Lib.hid (fun w' hb => by
    have hk := Keeps.of_below hb (S := [])
    exact (ftwo_calls w' F o A n c xs (p + 24) (F13.out.keeps hk (by simp)) ((HZ.out.keeps O13.out.keeps HFO.out).keeps hk (off_nil _)) (by omega)).mono fun _ _ ⟨e, h1, h2⟩ => ⟨e, h1, (OnlyC.of_keeps hk F13.out.lt).trans h2⟩)
  obtain ⟨v14, hv14⟩ : ∃ v, v = zget xs (p + 24) 2 := ⟨_, rfl⟩
  rw [← hv14] at HC
  have V14 := Lib.hid hv14
  clear hv14
  go_cut [3, 4] (fun u3 u4 wc => u3 = .int .i64 v13 ∧ u4 = .bool (v14 == 0) ∧ Hid (FD wc F o A n c (p + 24 + 2)) ∧ Hid (OnlyC F (o + 1) w wc) ∧ Hid (Blk wc X 51 [.string ⟨#[]⟩, .int .i64 v11, .int .i64 v9, .int .u32 v7, .int .i64 v4]))
  case first =>
   go_region_with (first | (go_at_call 75; refine (HC.out _ (by repeat (first | exact Below.refl _ _ | refine Below.drew ?_))).mono ?_; rintro _ w14 ⟨rfl, hf14, ho14⟩; have F14 := Lib.hid hf14; have O14 := Lib.hid ho14; have bX := X13.out.keeps ho14.keeps (by simp; omega); have X14 := Lib.hid bX; have x0' := bX.cell 0; have x1' := bX.cell 1; have x2' := bX.cell 2; have x3' := bX.cell 3; have x4' := bX.cell 4; simp only [List.getElem?_cons_zero, List.getElem?_cons_succ] at x0' x1' x2' x3' x4'; have xf' := bX.frozen; clear hf14 ho14 bX))
   all_goals (
    clear HC
    go_wp2_with fail
    go_meet
    have kx : Keeps [X] w14 (((((w14.setCell ⟨X, 0, none⟩ (.string ⟨#[]⟩)).setCell ⟨X, 1, none⟩ (.int .i64 v11)).setCell ⟨X, 2, none⟩ (.int .i64 v9)).setCell ⟨X, 3, none⟩ (.int .u32 v7)).setCell ⟨X, 4, none⟩ (.int .i64 v4)) := ((((((Keeps.refl [X] w14).setCell (p := ⟨X, 0, none⟩) (.inl (by simp)) _).setCell (p := ⟨X, 1, none⟩) (.inl (by simp)) _).setCell (p := ⟨X, 2, none⟩) (.inl (by simp)) _).setCell (p := ⟨X, 3, none⟩) (.inl (by simp)) _).setCell (p := ⟨X, 4, none⟩) (.inl (by simp)) _)
    exact ⟨rfl, rfl, Lib.hid (F14.out.keeps kx (by simp; omega)), Lib.hid ((O13.out.trans O14.out).past kx hFw (by simp; omega)), Lib.hid (((((X14.out.set 0 (.string ⟨#[]⟩)).set 1 (.int .i64 v11)).set 2 (.int .i64 v9)).set 3 (.int .u32 v7)).set 4 (.int .i64 v4))⟩)
  case rest =>
   obtain ⟨rfl, rfl, FC, OC, XC⟩ := hcut
   clear HC x0 x1 x2 x3 x4 xf
   go_wp2_with fail
   refine bodyPost_ret (results_c3 rfl _ _ X 51 _ (0, 0) _ rfl XC.out Tryz.underlying51 rfl size_info) rfl ?_
   refine ⟨v14 == 0, p + 26, by rw [← V4.out, ← V7.out, ← V9.out, ← V11.out, ← V13.out]; rfl, ?_, fun _ => rfl, by omega, FC.out, OC.out⟩
   rw [← V3.out, ← V14.out]
   have := HV.out
   simp [this]
 ·have y0 : (v3 == 0) = false := by simpa using hv
  go_region
  clear hv
  go_wp2_with fail
  obtain ⟨w14, hw14⟩ : ∃ z, z = (((((w13.setCell ⟨X, 0, none⟩ (.string ⟨#[]⟩)).setCell ⟨X, 1, none⟩ (.int .i64 v11)).setCell ⟨X, 2, none⟩ (.int .i64 v9)).setCell ⟨X, 3, none⟩ (.int .u32 v7)).setCell ⟨X, 4, none⟩ (.int .i64 v4)).drew := ⟨_, rfl⟩
  rw [← hw14]
  have kx : Keeps [X] w13 w14 := by rw [hw14]; exact ((((((Keeps.refl [X] w13).setCell (p := ⟨X, 0, none⟩) (.inl (by simp)) _).setCell (p := ⟨X, 1, none⟩) (.inl (by simp)) _).setCell (p := ⟨X, 2, none⟩) (.inl (by simp)) _).setCell (p := ⟨X, 3, none⟩) (.inl (by simp)) _).setCell (p := ⟨X, 4, none⟩) (.inl (by simp)) _).drew
  have bx : Blk w14 X 51 [.string ⟨#[]⟩, .int .i64 v11, .int .i64 v9, .int .u32 v7, .int .i64 v4] := by
   rw [hw14]
   exact (((((X13.out.set 0 (.string ⟨#[]⟩)).set 1 (.int .i64 v11)).set 2 (.int .i64 v9)).set 3 (.int .u32 v7)).set 4 (.int .i64 v4)).keeps (Keeps.refl [] _).drew (by simp)
  refine bodyPost_ret (results_c3 rfl _ _ X 51 _ (0, 0) _ rfl bx Tryz.underlying51 rfl size_info) rfl ?_
  refine ⟨false, p + 24, by rw [← V4.out, ← V7.out, ← V9.out, ← V11.out, ← V13.out]; rfl, ?_, by simp, by omega, F13.out.keeps kx (by simp; omega), O13.out.past kx hFw (by simp; omega)⟩
  constructor
  ·intro h; cases h
  ·rintro ⟨h, -⟩; rw [← V3.out] at h; simp [h] at y0
end Go.Proofs.YtghjlpechjggjaaGreatDoor
namespace Go.Proofs.YtghjlpechjggjaaGreatDoor
open Go.RowKit
def chainE (e : Int) : List PanicEntry := [{ v := .iface 27 (.int .i64 e), recovered := false }]
theorem must_ok (w : World) (e : Int) : Calls Tryz.prog 73 #[.bool true, .int .i64 e] w fun r w' => r = .returned (.tuple #[]) ∧ w' = w := by
 go_enter Tryz.func73, Tryz.ntmps73
 go_wp2_with fail
 go_end0
 exact ⟨rfl, rfl⟩
theorem must_no (w : World) (e : Int) : Calls Tryz.prog 73 #[.bool false, .int .i64 e] w fun r w' => r = .panicked (chainE e) ∧ w' = w := by
 go_enter Tryz.func73, Tryz.ntmps73
 go_wp2_with fail
 exact ⟨rfl, rfl, rfl⟩
end Go.Proofs.YtghjlpechjggjaaGreatDoor
namespace Go.Proofs.YtghjlpechjggjaaGreatDoor
open Go.RowKit
theorem still_of_quiet {P : Program} {ops : Array Oper} {w : World} {Q : Act → Prop} : ∀ (l : List Oper) (a : Act), wpQuiet P ops (fun w' => w' = w) Q l a → wpStill P ops w Q l a
 | [], _, h => h
 | o :: rest, a, h => by
  unfold wpQuiet at h
  unfold wpStill
  split
  ·rename_i hw
   rw [if_pos hw] at h
   obtain ⟨v, h1, h2⟩ := h
   have h3 := h1 w rfl
   have h4 := still_of_quiet rest _ h2
   unfold Oper.quietAt at h3
   unfold Oper.still
   revert h3
   generalize (execOp a.eval o).run P w = r
   intro h3
   unfold Oper.quietUpon at h3
   split at h3
   ·obtain ⟨rfl, rfl⟩ := h3
    exact ⟨rfl, h4⟩
   ·obtain ⟨rfl, rfl⟩ := h3
    exact ⟨rfl, h4⟩
   ·obtain ⟨rfl, h5⟩ := h3
    exact ⟨rfl, v, h5, h4⟩
   ·exact h3.elim
  ·rename_i hw
   rw [if_neg hw] at h
   exact still_of_quiet rest _ h
theorem quiet_tail {P : Program} {id : Nat} {Q : Exit → Act → World → Prop} {a : Act} {w : World} {l : List Oper} (n : Nat) (hm : P.follows .mixedOrders = true) (hB : Region.lexTailB .any l.toArray n = true)
  (h : wpQuiet P l.toArray (fun w' => w' = w.drew) (fun a' => wpList P l.toArray Q (l.drop n) a' w.drew) (l.take n) a) : (Code.region id l.toArray true).wp P Q a w :=
 wp_region_still_tail n hm hB (still_of_quiet _ _ h)
end Go.Proofs.YtghjlpechjggjaaGreatDoor
namespace Go.Proofs.YtghjlpechjggjaaGreatDoor
open Go.RowKit
theorem info_eql (w : World) (a1 a2 : ByteArray) (b1 b2 c1 c2 d1 d2 e1 e2 : Int) : (binOp .eql 51 (.agg #[.string a1, .int .i64 b1, .int .i64 c1, .int .u32 d1, .int .i64 e1]) (.agg #[.string a2, .int .i64 b2, .int .i64 c2, .int .u32 d2, .int .i64 e2])).run Tryz.prog w = .ok (.bool (decide ((⟨a1, b1, c1, d1, e1⟩ : ZI) = ⟨a2, b2, c2, d2, e2⟩))) w := by
 have u3 := Tryz.underlying3
 have u9 := Tryz.underlying9
 have u32 := Tryz.underlying49
 have hS : Tryz.prog.underlying 51 = some (.struct (Tryz.prog.fieldsOf 51)) := by kernel_rfl
 have hp : Tryz.prog.stoodInHeld 51 = false := by kernel_rfl
 rw [run_eql_struct, show (10000 : Nat) = 9999 + 1 from rfl, run_equalIn_agg w 9999 51 _ _ hS hp]
 simp only [Program.fieldsOf, Tryz.underlying51]
 go_simp
 have ha : a1.toList = a2.toList ↔ a1 = a2 := by
  constructor
  ·intro e
   rw [ByteArray.toList_eq, ByteArray.toList_eq] at e
   cases a1; cases a2
   simpa using e
  ·rintro rfl; rfl
 by_cases h1 : a1 = a2 <;> by_cases h2 : b1 = b2 <;> by_cases h3 : c1 = c2 <;> by_cases h4 : d1 = d2 <;> by_cases h5 : e1 = e2 <;> simp [h1, h2, h3, h4, h5, ha]
theorem info_guard (x y : Operand) (w : World) (a1 a2 : ByteArray) (b1 b2 c1 c2 d1 d2 e1 e2 : Int) : (eqGuard .eql 51 x y (.agg #[.string a1, .int .i64 b1, .int .i64 c1, .int .u32 d1, .int .i64 e1]) (.agg #[.string a2, .int .i64 b2, .int .i64 c2, .int .u32 d2, .int .i64 e2])).run Tryz.prog w = .ok () w :=
 run_eqGuard_agg _ _ _ _ _ _ _ (by kernel_rfl)
theorem results_cA {P : Program} {fn : Func} {p : Tmp} {ty : TypeId} (h : fn.results = #[.cell p ty]) (tmps : Array Value) (w : World) (g : Nat) (t : TypeId) (cs : Array Value) (fr : Nat × Nat) (d : TypeDesc)
  (hp : tmps.getD p undef = .pointer (some ⟨g, 0, none⟩)) (hg : w.heap[g]? = some (.cells cs t fr))
  (hu : P.underlying ty = some d) (hd : (match d with | .struct _ | .array _ _ => true | _ => false) = true) (hi : (P.info? ty).map (·.size) = some cs.size) :
  (results fn tmps).run P w = .ok (.agg cs) w := by
 have hp' : tmps[p]?.getD undef = .pointer (some ⟨g, 0, none⟩) := by simpa using hp
 simp [results, h, hp', asAddr, run_loadVar_row w g t ty cs fr d hg hu hd hi]
theorem size_piece : (Tryz.prog.info? 77).map (·.size) = some 6 := by kernel_rfl
theorem any_out {P : Program} {X : Prop} {w : World} (h : wpAny P .any #[] (fun _ _ _ => X) 0 #[] { tmps := #[], defers := [] } w) : X := h.2
end Go.Proofs.YtghjlpechjggjaaGreatDoor
namespace Go.Proofs.YtghjlpechjggjaaGreatDoor
open Go.RowKit Go.Maps
structure RDR (w : World) (G : Nat) (A : Option Addr) (n c first en at_ B : Nat) : Prop where
 c0 : w.cell? ⟨G, 0, none⟩ = some (.slice A n c)
 c1 : w.cell? ⟨G, 1, none⟩ = some (.int .i64 first)
 c2 : w.cell? ⟨G, 2, none⟩ = some (.int .i64 en)
 c5 : w.cell? ⟨G, 5, none⟩ = some (.int .i64 at_)
 c6 : w.cell? ⟨G, 6, none⟩ = some (.map (some B))
 f5 : w.frozen? ⟨G, 5, none⟩ = false
theorem RDR.only {w w' : World} {G : Nat} {A : Option Addr} {n c first en at_ B : Nat} (h : RDR w G A n c first en at_ B) (k : OnlyC G 4 w w') : RDR w' G A n c first en at_ B :=
 ⟨(k.cell 0 (by omega)).trans h.c0, (k.cell 1 (by omega)).trans h.c1, (k.cell 2 (by omega)).trans h.c2, (k.cell 5 (by omega)).trans h.c5, (k.cell 6 (by omega)).trans h.c6, (k.frozen 5).trans h.f5⟩
theorem RDR.lt {w : World} {G : Nat} {A : Option Addr} {n c first en at_ B : Nat} (h : RDR w G A n c first en at_ B) : G < w.heap.size := World.block_lt_of_cell? _ _ h.c0
theorem RDR.keeps {S : List Nat} {w w' : World} {G : Nat} {A : Option Addr} {n c first en at_ B : Nat} (h : RDR w G A n c first en at_ B) (k : Keeps S w w') (hG : G ∉ S) : RDR w' G A n c first en at_ B := by
 have hb := k.block G h.lt hG
 exact ⟨(World.cell?_of_block (a := ⟨G, 0, none⟩) hb).trans h.c0, (World.cell?_of_block (a := ⟨G, 1, none⟩) hb).trans h.c1, (World.cell?_of_block (a := ⟨G, 2, none⟩) hb).trans h.c2, (World.cell?_of_block (a := ⟨G, 5, none⟩) hb).trans h.c5, (World.cell?_of_block (a := ⟨G, 6, none⟩) hb).trans h.c6, (World.frozen?_of_block (a := ⟨G, 5, none⟩) hb).trans h.f5⟩
theorem RDR.moved {w : World} {G : Nat} {A : Option Addr} {n c first en at_ B at' : Nat} (h : RDR w G A n c first en at_ B) (v : Int) (hv : v = at') : RDR (w.setCell ⟨G, 5, none⟩ (.int .i64 v)) G A n c first en at' B :=
 ⟨(World.cell?_setCell_other _ _ _ _ (by simp)).trans h.c0, (World.cell?_setCell_other _ _ _ _ (by simp)).trans h.c1, (World.cell?_setCell_other _ _ _ _ (by simp)).trans h.c2, by rw [World.cell?_setCell_same _ _ _ h.c5, hv], (World.cell?_setCell_other _ _ _ _ (by simp)).trans h.c6, (World.frozen?_setCell _ _ _ _).trans h.f5⟩
theorem FD.past5 {w : World} {G : Nat} {A : Option Addr} {n c q : Nat} (h : FD w G 3 A n c q) (v : Value) : FD (w.setCell ⟨G, 5, none⟩ v) G 3 A n c q :=
 ⟨(World.cell?_setCell_other _ _ _ _ (by simp)).trans h.c0, (World.cell?_setCell_other _ _ _ _ (by simp)).trans h.c1, (World.frozen?_setCell _ _ _ _).trans h.f1, h.ne⟩
def zeroPiece : List Value := [.string ⟨#[]⟩, .int .i64 0, .int .i64 0, .int .u32 0, .int .i64 0, .slice none 0 0]
structure NX (w wi : World) (G : Nat) (A : Option Addr) (n c first en at_ B : Nat) (known : List ByteArray) (T q : Nat) : Prop where
 rd : RDR wi G A n c first en at_ B
 fd : FD wi G 3 A n c q
 st : SetM wi B known
 tb : Blk wi T 77 zeroPiece
 k : Keeps [G, B] w wi
theorem NX.next {w wi w' : World} {G : Nat} {A : Option Addr} {n c first en at_ B : Nat} {known : List ByteArray} {T q q' : Nat} (h : NX w wi G A n c first en at_ B known T q) (f : FD w' G 3 A n c q') (o : OnlyC G 4 wi w') (hB : G ≠ B) (hT : G < T) : NX w w' G A n c first en at_ B known T q' :=
 ⟨h.rd.only o, f, h.st.keeps o.keeps (by simpa using hB.symm), h.tb.keeps o.keeps (by simp; omega), h.k.trans (o.keeps.mono (by simp))⟩
theorem NX.keeps {w wi w' : World} {G : Nat} {A : Option Addr} {n c first en at_ B : Nat} {known : List ByteArray} {T q : Nat} (h : NX w wi G A n c first en at_ B known T q) (hk : Keeps [] wi w') : NX w w' G A n c first en at_ B known T q :=
 ⟨h.rd.keeps hk (by simp), h.fd.keeps hk (by simp), h.st.keeps hk (by simp), h.tb.keeps hk (by simp), h.k.trans (hk.mono (by simp))⟩
theorem NX.keepsO {w wi w' : World} {G : Nat} {A : Option Addr} {n c first en at_ B : Nat} {known : List ByteArray} {T q : Nat} {S : List Nat} (h : NX w wi G A n c first en at_ B known T q) (hk : Keeps S wi w') (hS : ∀ x ∈ S, T < x) (hG : G < T) (hB : B < T) (hw : w.heap.size ≤ T) : NX w w' G A n c first en at_ B known T q :=
 ⟨h.rd.keeps hk (fun hm => by have := hS _ hm; omega), h.fd.keeps hk (fun hm => by have := hS _ hm; omega), h.st.keeps hk (fun hm => by have := hS _ hm; omega), h.tb.keeps hk (fun hm => by have := hS _ hm; omega), h.k.then hk (fun x hx => .inr (by have := hS x hx; omega))⟩
theorem NX.zb {w wi : World} {G : Nat} {A : Option Addr} {n c first en at_ B : Nat} {known : List ByteArray} {T q : Nat} {xs : List Int} (h : NX w wi G A n c first en at_ B known T q) (hz : ZB w A n c xs) (ho : Off [G, B] A) : ZB wi A n c xs := hz.keeps h.k ho
def NextP (w : World) (G : Nat) (A : Option Addr) (n c : Nat) (xs : List Int) (first en rp at_ B : Nat) (known : List ByteArray) (r : Ending) (w' : World) : Prop :=
 Keeps [G, B] w w' ∧ ((zwrong xs first en rp at_ known ≠ 0 ∧ r = .panicked (chainE (zwrong xs first en rp at_ known))) ∨
  (zwrong xs first en rp at_ known = 0 ∧ r = .returned (.agg #[.string (zname xs rp), .int .i64 (zrecI xs rp).size, .int .i64 (zrecI xs rp).packed, .int .u32 (zrecI xs rp).sum, .int .i64 (zrecI xs rp).way, .slice (cutA A (at_ + 30 + zlong xs rp) c) (zrecI xs rp).packed.toNat (c - (at_ + 30 + zlong xs rp))]) ∧
   RDR w' G A n c first en (at_ + 30 + zlong xs rp + (zrecI xs rp).packed.toNat) B ∧ FD w' G 3 A n c (rp + 46 + zlong xs rp) ∧ SetM w' B (known ++ [zname xs rp])))
theorem znext_calls (w : World) (G : Nat) (A : Option Addr) (n c : Nat) (xs : List Int) (first en rp at_ B : Nat) (known : List ByteArray) (hr : RDR w G A n c first en at_ B) (hf : FD w G 3 A n c rp) (hz : ZB w A n c xs) (hm : SetM w B known) (hGB : G ≠ B) (hAB : ∀ a, A = some a → a.block ≠ B)
  (h1 : first ≤ en) (h2 : en ≤ n) (h3 : rp ≤ en) (h4 : at_ ≤ first) (hkn : known.length ≤ 100000) :
  Calls Tryz.prog 76 #[.pointer (some ⟨G, 0, none⟩)] w (NextP w G A n c xs first en rp at_ B known) := by
 have HR := Lib.hid hr
 have HF := Lib.hid hf
 have HZ := Lib.hid hz
 have HM := Lib.hid hm
 have HAB := Lib.hid hAB
 have hn9 := hz.len
 have HX := Lib.hid hz.ri.len
 have HGw := Lib.hid hr.lt
 have HBw := Lib.hid hm.lt
 have HOF := Lib.hid hf.off
 have r2 := hr.c2
 have r4 := hf.c1
 clear hr hf hz hm hAB
 have s1 : IntKind.i64.wrap ((en : Int) - (rp : Int)) = (en : Int) - (rp : Int) := IntWalk.i64_in _ (by omega)
 obtain ⟨E, hE⟩ : ∃ z, z = zwrong xs first en rp at_ known := ⟨_, rfl⟩
 have HE := Lib.hid hE
 have BAD : Hid (∀ (e : Int), E = e → e ≠ 0 → ∀ (w' : World), Keeps [G, B] w w' → NextP w G A n c xs first en rp at_ B known (.panicked (chainE e)) w') := Lib.hid (fun e he h0 w' hk => by
  rw [HE.out] at he
  subst he
  exact ⟨hk, .inl ⟨h0, rfl⟩⟩)
 clear hE
 go_enter Tryz.func76, Tryz.ntmps76
 go_upto_region 2 with (fail)
 obtain ⟨T, hT⟩ : ∃ z, z = w.heap.size := ⟨_, rfl⟩
 obtain ⟨w0, hw0⟩ : ∃ z, z = w.alloc (.cells #[.string ⟨#[]⟩, .int .i64 0, .int .i64 0, .int .u32 0, .int .i64 0, .slice none 0 0] 77) := ⟨_, rfl⟩
 rw [← hw0, ← hT]
 have ka : Keeps [] w w0 := by rw [hw0]; exact (Keeps.refl _ w).alloc _
 have T0 : Hid (Blk w0 T 77 [.string ⟨#[]⟩, .int .i64 0, .int .i64 0, .int .u32 0, .int .i64 0, .slice none 0 0]) := Lib.hid (by rw [hw0, hT]; exact blk_new w _ _)
 have hGT : G < T := by have := HGw.out; omega
 have hBT : B < T := by have := HBw.out; omega
 have hTw : T < w0.heap.size := T0.out.lt
 have N0 : Hid (NX w w0 G A n c first en at_ B known T rp) := Lib.hid ⟨HR.out.keeps ka (by simp), HF.out.keeps ka (by simp), HM.out.keeps ka (by simp), T0.out, ka.mono (by simp)⟩
 have HO : Hid (Off [G, B] A) := Lib.hid (fun a ha hm => by
  rcases List.mem_cons.1 hm with h | h
  ·exact HOF.out a ha (by rw [h]; exact List.mem_cons_self)
  ·rw [List.mem_singleton] at h; exact HAB.out a ha h)
 have HTT := Lib.hid hT
 have r2 := N0.out.rd.c2
 have r4 := N0.out.fd.c1
 have K0 := Lib.hid N0.out.k
 clear ka hw0 hT T0 HOF HAB
 by_cases q1 : rp + 46 ≤ en
 case neg =>
  have HE1 : Hid (E = 81) := Lib.hid (by rw [HE.out]; unfold zwrong; rw [if_pos (fun h => q1 h.1)])
  have t1 : decide ((46 : Int) ≤ (en : Int) - (rp : Int)) = false := by simp; omega
  clear q1
  go_region_with (first | (go_at_call 73; refine (must_no _ 81).mono ?_; rintro _ w1 ⟨rfl, rfl⟩; refine any_out (P := Tryz.prog) (w := w) ?_))
  all_goals exact ⟨rfl, BAD.out 81 HE1.out (by decide) _ (K0.out.trans (by repeat (first | exact Keeps.refl _ _ | apply Keeps.drew | apply Keeps.drewN)))⟩
 have t1 : decide ((46 : Int) ≤ (en : Int) - (rp : Int)) = true := by simp; omega
 have hTw' : w.heap.size ≤ T := by have := HTT.out; omega
 go_quiet (first | (go_at_call 73; exact Calls.quiet_of_same (must_ok _ _)))
 obtain ⟨w1, hw1⟩ : ∃ z, z = w0.drewN nq := ⟨_, rfl⟩
 have N1 : Hid (NX w w1 G A n c first en at_ B known T rp) := Lib.hid (by rw [hw1]; exact N0.out.keeps ((Keeps.refl [] _).drewN _))
 rw [← hw1]
 clear hw1 r2 r4 t1 K0 N0
 have r4 := N1.out.fd.c1
 go_wp2_with fail
 refine (ffour_calls w1 G 3 A n c xs rp N1.out.fd (N1.out.zb HZ.out HO.out) (by omega)).mono ?_
 rintro _ w2 ⟨rfl, hf2, ho2⟩
 obtain ⟨mk, hmk⟩ : ∃ z, z = zget xs rp 4 := ⟨_, rfl⟩
 rw [← hmk]
 have HMK := Lib.hid hmk
 obtain ⟨P, hP⟩ : ∃ z, z = rp + 4 := ⟨_, rfl⟩
 rw [← hP] at hf2
 have N2 := Lib.hid (N1.out.next hf2 ho2 hGB hGT)
 have r4 := hf2.c1
 have f4 := hf2.f1
 have sP : IntKind.i64.wrap ((P : Int) + 2) = (P : Int) + 2 := IntWalk.i64_in _ (by omega)
 have HP := Lib.hid hP
 clear hmk hf2 ho2 N1 hP
 go_upto_region 6 with (fail)
 obtain ⟨w3, hw3⟩ : ∃ z, z = w2.setCell ⟨G, 3 + 1, none⟩ (.int .i64 ((P : Int) + 2)) := ⟨_, rfl⟩
 have ho3 : OnlyC G 4 w2 w3 := by rw [hw3]; exact (OnlyC.refl w2).set _
 have hf3 : FD w3 G 3 A n c (rp + 6) := by rw [hw3]; exact N2.out.fd.moved (Keeps.refl [] w2) _ (by have := HP.out; omega)
 have N3 := Lib.hid (N2.out.next hf3 ho3 hGB hGT)
 rw [← hw3]
 clear hw3 ho3 hf3 r4 f4 sP N2 HP
 go_wp2_with fail
 refine (fshared_calls w3 G 3 A n c xs (rp + 6) N3.out.fd (N3.out.zb HZ.out HO.out) (by omega)).mono ?_
 rintro _ w4 ⟨pb, q, rfl, hpb, hq, hqp, hf4, ho4⟩
 have N4 := Lib.hid (N3.out.next hf4 ho4 hGB hGT)
 have hq' : Hid (pb = true → q = rp + 6 + 26) := Lib.hid hq
 have HPB := Lib.hid hpb
 have hw4 : w3.heap.size ≤ w4.heap.size := ho4.keeps.size
 have hT3 : T < w3.heap.size := N3.out.tb.lt
 obtain ⟨vs, hvs⟩ : ∃ z, z = zget xs (rp + 6 + 18) 4 := ⟨_, rfl⟩
 obtain ⟨vp, hvp⟩ : ∃ z : Nat, (z : Int) = zget xs (rp + 6 + 14) 4 := ⟨(zget xs (rp + 6 + 14) 4).toNat, Int.toNat_of_nonneg (zget4_bd HZ.out.byte (p := rp + 6 + 14) (by rw [HX.out]; omega)).1⟩
 obtain ⟨vc, hvc⟩ : ∃ z, z = zget xs (rp + 6 + 10) 4 := ⟨_, rfl⟩
 obtain ⟨vw, hvw⟩ : ∃ z, z = zget xs (rp + 6 + 4) 2 := ⟨_, rfl⟩
 obtain ⟨nl, hnl⟩ : ∃ z : Nat, z = zlong xs rp := ⟨_, rfl⟩
 have hnlI : zget xs (rp + 6 + 22) 2 = (nl : Int) := by
  have := (zget2_bd HZ.out.byte (p := rp + 28) (by rw [HX.out]; omega)).1
  rw [hnl]; unfold zlong
  show zget xs (rp + 28) 2 = _
  omega
 rw [← hvs, ← hvp, ← hvc, ← hvw, hnlI]
 have HVS := Lib.hid hvs
 have HVP := Lib.hid hvp
 have HVC := Lib.hid hvc
 have HVW := Lib.hid hvw
 have HNL := Lib.hid hnl
 clear hf4 ho4 N3 hpb hq hvs hvp hvc hvw hnl hnlI
 go_upto_region 7 with (fail)
 obtain ⟨X, hX⟩ : ∃ z, z = w4.heap.size := ⟨_, rfl⟩
 obtain ⟨w5, hw5⟩ : ∃ z, z = w4.alloc (.cells #[.string ⟨#[]⟩, .int .i64 vs, .int .i64 (vp : Int), .int .u32 vc, .int .i64 vw] 51) := ⟨_, rfl⟩
 have k5 : Keeps [] w4 w5 := by rw [hw5]; exact (Keeps.refl [] _).alloc _
 have X5 : Hid (Blk w5 X 51 [.string ⟨#[]⟩, .int .i64 vs, .int .i64 (vp : Int), .int .u32 vc, .int .i64 vw]) := Lib.hid (by rw [hw5, hX]; exact blk_new _ _ _)
 have N5 := Lib.hid (N4.out.keeps k5)
 rw [← hw5, ← hX]
 have hTX : T < X := by omega
 have hXG : X ≠ G := by omega
 clear hw5 k5 N4 hX
 go_wp2_with fail
 refine (ftwo_calls w5 G 3 A n c xs q N5.out.fd (N5.out.zb HZ.out HO.out) (by omega)).mono ?_
 rintro _ w6 ⟨rfl, hf6, ho6⟩
 have N6 := Lib.hid (N5.out.next hf6 ho6 hGB hGT)
 have X6 := Lib.hid (X5.out.keeps ho6.keeps (by simp; omega))
 obtain ⟨v9, hv9⟩ : ∃ z, z = zget xs q 2 := ⟨_, rfl⟩
 rw [← hv9]
 have HV9 := Lib.hid hv9
 clear hf6 ho6 hv9 N5 X5
 go_wp2_with fail
 refine (ftwo_calls w6 G 3 A n c xs (q + 2) N6.out.fd (N6.out.zb HZ.out HO.out) (by omega)).mono ?_
 rintro _ w7 ⟨rfl, hf7, ho7⟩
 obtain ⟨v10, hv10⟩ : ∃ z, z = zget xs (q + 2) 2 := ⟨_, rfl⟩
 rw [← hv10]
 have HV10 := Lib.hid hv10
 obtain ⟨P2, hP2⟩ : ∃ z, z = q + 2 + 2 := ⟨_, rfl⟩
 rw [← hP2] at hf7
 have N7 := Lib.hid (N6.out.next hf7 ho7 hGB hGT)
 have X7 := Lib.hid (X6.out.keeps ho7.keeps (by simp; omega))
 have r4 := hf7.c1
 have f4 := hf7.f1
 have sP : IntKind.i64.wrap ((P2 : Int) + 6) = (P2 : Int) + 6 := IntWalk.i64_in _ (by omega)
 have HP2 := Lib.hid hP2
 clear hf7 ho7 hv10 N6 X6 hP2
 go_upto_region 9 with (fail)
 obtain ⟨w8, hw8⟩ : ∃ z, z = w7.setCell ⟨G, 3 + 1, none⟩ (.int .i64 ((P2 : Int) + 6)) := ⟨_, rfl⟩
 have ho8 : OnlyC G 4 w7 w8 := by rw [hw8]; exact (OnlyC.refl w7).set _
 have hf8 : FD w8 G 3 A n c (q + 10) := by rw [hw8]; exact N7.out.fd.moved (Keeps.refl [] w7) _ (by have := HP2.out; omega)
 have N8 := Lib.hid (N7.out.next hf8 ho8 hGB hGT)
 have X8 := Lib.hid (X7.out.keeps ho8.keeps (by simp; omega))
 rw [← hw8]
 clear hw8 ho8 hf8 r4 f4 sP N7 X7 HP2
 go_wp2_with fail
 refine (ffour_calls w8 G 3 A n c xs (q + 10) N8.out.fd (N8.out.zb HZ.out HO.out) (by omega)).mono ?_
 rintro _ w9 ⟨rfl, hf9, ho9⟩
 have N9 := Lib.hid (N8.out.next hf9 ho9 hGB hGT)
 have X9 := Lib.hid (X8.out.keeps ho9.keeps (by simp; omega))
 obtain ⟨v11, hv11⟩ : ∃ z, z = zget xs (q + 10) 4 := ⟨_, rfl⟩
 rw [← hv11]
 have HV11 := Lib.hid hv11
 clear hf9 ho9 hv11 N8 X8
 have r2 := N9.out.rd.c2
 have HCJ : Hid (ZRecF xs en rp ↔ mk = 33639248 ∧ pb = true ∧ v9 = 0 ∧ v10 = 0 ∧ 46 + (nl : Int) ≤ (en : Int) - (rp : Int)) := Lib.hid (by
  have h1 := HMK.out; have h2 := HPB.out; have h3 := hq'.out; have h4 := HV9.out; have h5 := HV10.out; have h6 := HNL.out
  unfold ZRecF
  rw [← h6, h1, h4, h5]
  constructor
  ·rintro ⟨_, a, b, c, d, e, f⟩
   have hp : pb = true := h2.2 ⟨b, c⟩
   have hqe := h3 hp
   subst hqe
   exact ⟨a, hp, d, e, by omega⟩
  ·rintro ⟨a, b, c, d, e⟩
   have hqe := h3 b
   subst hqe
   obtain ⟨f, g⟩ := h2.1 b
   exact ⟨q1, a, f, g, c, d, by omega⟩)
 have HBD : Hid (¬ ZRecF xs en rp → E = 81) := Lib.hid (fun h => by rw [HE.out]; unfold zwrong; rw [if_pos h])
 have hwr : IntKind.i64.wrap (46 + (nl : Int)) = 46 + (nl : Int) := IntWalk.i64_in _ (by
  have := (zget2_bd HZ.out.byte (p := rp + 28) (by rw [HX.out]; omega)).2
  have h6 := HNL.out
  unfold zlong at h6
  omega)
 by_cases c1 : mk = 33639248
 case neg =>
  have b1 : (mk == 33639248) = false := by simpa using c1
  have HC := Lib.hid c1
  clear c1
  go_wp2_with fail
  refine (must_no _ 81).mono ?_
  rintro _ _ ⟨rfl, rfl⟩
  exact ⟨rfl, BAD.out 81 (HBD.out (fun h => HC.out (HCJ.out.1 h).1)) (by decide) _ N9.out.k⟩
 have b1 : (mk == 33639248) = true := by simpa using c1
 by_cases c2 : pb = true
 case neg =>
  have b2 : pb = false := by simpa using c2
  have HC := Lib.hid c2
  subst b2
  clear c1 c2
  go_wp2_with fail
  refine (must_no _ 81).mono ?_
  rintro _ _ ⟨rfl, rfl⟩
  exact ⟨rfl, BAD.out 81 (HBD.out (fun h => HC.out (HCJ.out.1 h).2.1)) (by decide) _ N9.out.k⟩
 subst c2
 by_cases c3 : v9 = 0
 case neg =>
  have b3 : (v9 == 0) = false := by simpa using c3
  have HC := Lib.hid c3
  clear c1 c3
  go_wp2_with fail
  refine (must_no _ 81).mono ?_
  rintro _ _ ⟨rfl, rfl⟩
  exact ⟨rfl, BAD.out 81 (HBD.out (fun h => HC.out (HCJ.out.1 h).2.2.1)) (by decide) _ N9.out.k⟩
 have b3 : (v9 == 0) = true := by simpa using c3
 by_cases c4 : v10 = 0
 case neg =>
  have b4 : (v10 == 0) = false := by simpa using c4
  have HC := Lib.hid c4
  clear c1 c3 c4
  go_wp2_with fail
  refine (must_no _ 81).mono ?_
  rintro _ _ ⟨rfl, rfl⟩
  exact ⟨rfl, BAD.out 81 (HBD.out (fun h => HC.out (HCJ.out.1 h).2.2.2.1)) (by decide) _ N9.out.k⟩
 have b4 : (v10 == 0) = true := by simpa using c4
 by_cases c5 : 46 + (nl : Int) ≤ (en : Int) - (rp : Int)
 case neg =>
  have b5 : decide (46 + (nl : Int) ≤ (en : Int) - (rp : Int)) = false := by simpa using c5
  have HC := Lib.hid c5
  clear c1 c3 c4 c5
  go_wp2_with fail
  refine (must_no _ 81).mono ?_
  rintro _ _ ⟨rfl, rfl⟩
  exact ⟨rfl, BAD.out 81 (HBD.out (fun h => absurd (HCJ.out.1 h).2.2.2.2 (by have := HC.out; omega))) (by decide) _ N9.out.k⟩
 have b5 : decide (46 + (nl : Int) ≤ (en : Int) - (rp : Int)) = true := by simpa using c5
 have HRF : Hid (ZRecF xs en rp) := Lib.hid (HCJ.out.2 ⟨c1, rfl, c3, c4, c5⟩)
 have hqe : q = rp + 32 := hq'.out rfl
 subst hqe
 clear c1 c3 c4 HBD HCJ HPB hq'
 go_wp2_with fail
 refine (must_ok _ 81).mono ?_
 rintro _ wz ⟨rfl, hwz⟩
 obtain rfl : w9 = wz := hwz.symm
 clear b1 b3 b4 b5 hwr r2
 go_wp2_with fail
 have hnl5 : rp + 46 + nl ≤ en := by omega
 refine (ftext_calls w9 G 3 A n c xs (rp + 32 + 10 + 4) nl N9.out.fd (N9.out.zb HZ.out HO.out) (by omega)).mono ?_
 rintro _ w10 ⟨rfl, hf10, ho10⟩
 have N10 := Lib.hid (N9.out.next hf10 ho10 hGB hGT)
 have X10 := Lib.hid (X9.out.keeps ho10.keeps (by simp; omega))
 obtain ⟨name, hname⟩ : ∃ z, z = zname xs rp := ⟨_, rfl⟩
 have e1 : strOfNums (seg xs (rp + 32 + 10 + 4) nl) = name := by rw [hname, HNL.out]; rfl
 rw [e1]
 have HNM := Lib.hid hname
 have hnsz : name.size = nl := by rw [← e1, strOf_size, seg_len (by rw [HX.out]; omega)]
 have x0 := X10.out.cell 0
 have xf := X10.out.frozen 0
 simp only [List.getElem?_cons_zero] at x0
 clear hf10 ho10 hname e1 N9 X9 c5
 go_upto_region 12 with (fail)
 obtain ⟨w11, hw11⟩ : ∃ z, z = w10.setCell ⟨X, 0, none⟩ (.string name) := ⟨_, rfl⟩
 have k11 : Keeps [X] w10 w11 := by rw [hw11]; exact (Keeps.refl [X] _).setCell (p := ⟨X, 0, none⟩) (.inl (by simp)) _
 have X11 : Hid (Blk w11 X 51 [.string name, .int .i64 vs, .int .i64 (vp : Int), .int .u32 vc, .int .i64 vw]) := Lib.hid (by rw [hw11]; exact X10.out.set 0 _)
 have N11 := Lib.hid (N10.out.keepsO k11 (fun x hx => by simp at hx; omega) hGT hBT hTw')
 rw [← hw11]
 have x0 := X11.out.cell 0
 simp only [List.getElem?_cons_zero] at x0
 have r6 := N11.out.rd.c6
 have HSZ := Lib.hid hnsz
 have hn16 : nl ≤ 65535 := by
  have := (zget2_bd HZ.out.byte (p := rp + 28) (by rw [HX.out]; omega)).2
  have h6 := HNL.out
  unfold zlong at h6
  omega
 have hs1 : name.size ≤ 1000000000 := by omega
 have hkey := key_of hs1
 have HLK : ∀ w', Keeps [] w11 w' → (Instr.lookup 61 (.map (some B)) (.string name) true).run Tryz.prog w' = .ok (.tuple #[.agg #[], .bool (inL known name)]) w' := fun w' hk => by
  have hm := N11.out.st.keeps hk (by simp)
  obtain ⟨v, ps, hrun, hv⟩ := World.ownsMap.look_ok hm nameLaw Tryz.underlying61 (zeroUnit w') unitElem_mk hkey
  obtain ⟨rfl, -⟩ := unitElem_inv hv
  rw [set_has] at hrun
  exact hrun
 clear hw11 k11 xf N10 X10 hnsz
 go_cut [12, 13] (fun v12 v13 wc => v13 = .bool (inL known name) ∧ Hid (Keeps [] w11 wc))
 case first =>
  have l1 := HLK w11 (Keeps.refl _ _)
  have l2 := HLK w11.drew (Keeps.refl _ _).drew
  have l3 : ∀ o, _ := fun o => HLK (w11.drew.alloc o) ((Keeps.refl _ _).drew.alloc o)
  have l4 : ∀ o a v, _ := fun o (a : Addr) v => HLK ((w11.drew.alloc o).setCell ⟨w11.heap.size, 0, none⟩ v) (((Keeps.refl _ _).drew.alloc o).setCell (.inr (by simp)) v)
  have l5 : ∀ o, _ := fun o => HLK ((w11.alloc o).drew) (((Keeps.refl _ _).alloc o).drew)
  have a1 : ∀ o, (w11.alloc o).cell? ⟨X, 0, none⟩ = some (.string name) := fun o => ((Keeps.refl [] w11).alloc o).cell (p := ⟨X, 0, none⟩) (by simp) x0
  have a2 : ∀ o, (w11.alloc o).cell? ⟨G, 6, none⟩ = some (.map (some B)) := fun o => ((Keeps.refl [] w11).alloc o).cell (p := ⟨G, 6, none⟩) (by simp) r6
  clear HLK
  go_region
  go_wp2_with fail
  go_meet
  exact ⟨rfl, Lib.hid (by repeat (first | exact Keeps.refl _ _ | apply Keeps.drew | apply Keeps.drewN | apply Keeps.alloc | (refine Keeps.setCell ?_ (.inr (by simp)) _)))⟩
 case rest =>
  obtain ⟨rfl, HK12⟩ := hcut
  obtain ⟨w12, hw12⟩ : ∃ z : World, z = wc := ⟨_, rfl⟩
  rw [← hw12] at HK12 ⊢
  have N12 := Lib.hid (N11.out.keeps HK12.out)
  have X12 := Lib.hid (X11.out.keeps HK12.out (by simp))
  have HE2 : Hid (E = if inL known name = true ∨ nameB name = false then 80 else if ¬ (vw = 0 ∨ vw = 8) then 82 else if 8192 < vs ∨ 16384 < (vp : Int) then 87 else if ¬ ((vw = 8 ∨ vs = (vp : Int)) ∧ v11 = at_ ∧ ((at_ + 30 + nl : Nat) : Int) + (vp : Int) ≤ first) then 81 else if ¬ ZHeadF xs at_ (zrecI xs rp) then 81 else 0) := Lib.hid (by
   rw [HE.out, HNM.out, HVS.out, HVP.out, HVW.out, HV11.out, HNL.out]
   unfold zwrong
   rw [if_neg (fun h => h HRF.out)]
   simp only [← inL_iff]
   rfl)
  clear hw12 N11 X11 HLK x0 r6 HK12 HRF HV11
  have r5 := N12.out.rd.c5
  have sA : IntKind.i64.wrap ((at_ : Int) + 30) = (at_ : Int) + 30 := IntWalk.i64_in _ (by omega)
  have sB : IntKind.i64.wrap ((at_ : Int) + 30 + (nl : Int)) = (at_ : Int) + 30 + (nl : Int) := IntWalk.i64_in _ (by omega)
  have x0 := X12.out.cell 0
  simp only [List.getElem?_cons_zero] at x0
  by_cases d1 : inL known name = true
  case pos =>
   have HE3 : Hid (E = 80) := Lib.hid (by rw [HE2.out, if_pos (.inl d1)])
   rw [d1]
   clear d1
   go_wp2_with fail
   refine (must_no _ 80).mono ?_
   rintro _ _ ⟨rfl, rfl⟩
   exact ⟨rfl, BAD.out 80 HE3.out (by decide) _ N12.out.k⟩
  have d1' : inL known name = false := by simpa using d1
  rw [d1']
  clear d1
  go_wp2_with fail
  refine (name_calls w12 name hs1).mono ?_
  rintro _ w13 ⟨rfl, hb13⟩
  have hk13 := Keeps.of_below hb13 (S := [])
  have N13 := Lib.hid (N12.out.keeps hk13)
  have X13 := Lib.hid (X12.out.keeps hk13 (by simp))
  clear hb13 hk13 N12 X12 r5 sA sB x0
  cases hnb : nameB name with
  | false =>
   have HE3 : Hid (E = 80) := Lib.hid (by rw [HE2.out, if_pos (.inr hnb)])
   clear hnb
   go_wp2_with fail
   refine (must_no _ 80).mono ?_
   rintro _ _ ⟨rfl, rfl⟩
   exact ⟨rfl, BAD.out 80 HE3.out (by decide) _ N13.out.k⟩
  | true =>
  have HE4 : Hid (E = if ¬ (vw = 0 ∨ vw = 8) then 82 else if 8192 < vs ∨ 16384 < (vp : Int) then 87 else if ¬ ((vw = 8 ∨ vs = (vp : Int)) ∧ v11 = at_ ∧ ((at_ + 30 + nl : Nat) : Int) + (vp : Int) ≤ first) then 81 else if ¬ ZHeadF xs at_ (zrecI xs rp) then 81 else 0) := Lib.hid (by rw [HE2.out, if_neg (by rw [d1', hnb]; simp)])
  have HNB := Lib.hid hnb
  have HNK := Lib.hid d1'
  clear hnb HE2 d1'
  go_wp2_with fail
  refine (must_ok _ 80).mono ?_
  rintro _ wz ⟨rfl, hwz⟩
  obtain rfl : w13 = wz := hwz.symm
  clear hwz
  have x1 := X13.out.cell 1
  have x2 := X13.out.cell 2
  have x4 := X13.out.cell 4
  simp only [List.getElem?_cons_zero, List.getElem?_cons_succ] at x1 x2 x4
  go_upto_region 15 with (fail)
  go_cut [125] (fun u wc => (vw = 0 ∨ vw = 8) ∧ wc = w13)
  case first =>
   by_cases c0 : vw = 0
   ·have b1 : (vw == 0) = true := by simpa using c0
    have HC := Lib.hid c0
    clear c0
    go_wp2_with fail
    refine (must_ok _ 82).mono ?_
    rintro _ wz ⟨rfl, hwz⟩
    obtain rfl : w13 = wz := hwz.symm
    clear hwz
    go_wp2_with fail
    go_meet
    exact ⟨.inl HC.out, rfl⟩
   ·have b1 : (vw == 0) = false := by simpa using c0
    by_cases c8 : vw = 8
    ·have b2 : (vw == 8) = true := by simpa using c8
     have HC := Lib.hid c8
     clear c0 c8
     go_wp2_with fail
     refine (must_ok _ 82).mono ?_
     rintro _ wz ⟨rfl, hwz⟩
     obtain rfl : w13 = wz := hwz.symm
     clear hwz
     go_wp2_with fail
     go_meet
     exact ⟨.inr HC.out, rfl⟩
    ·have b2 : (vw == 8) = false := by simpa using c8
     have HE3 : Hid (E = 82) := Lib.hid (by rw [HE4.out, if_pos (fun h => by rcases h with h | h; exact c0 h; exact c8 h)])
     clear c0 c8
     go_wp2_with fail
     refine (must_no _ 82).mono ?_
     rintro _ _ ⟨rfl, rfl⟩
     exact ⟨rfl, BAD.out 82 HE3.out (by decide) _ N13.out.k⟩
  case rest =>
   obtain ⟨hway, hwc⟩ := hcut
   obtain rfl : w13 = wc := hwc.symm
   have HWAY := Lib.hid hway
   have HE5 : Hid (E = if 8192 < vs ∨ 16384 < (vp : Int) then 87 else if ¬ ((vw = 8 ∨ vs = (vp : Int)) ∧ v11 = at_ ∧ ((at_ + 30 + nl : Nat) : Int) + (vp : Int) ≤ first) then 81 else if ¬ ZHeadF xs at_ (zrecI xs rp) then 81 else 0) := Lib.hid (by rw [HE4.out, if_neg (fun h => h hway)])
   clear hway HE4 hwc
   all_goals
    by_cases y1 : vs ≤ 8192
    case neg =>
     have b1 : decide (vs ≤ 8192) = false := by simpa using y1
     have HE7 : Hid (E = 87) := Lib.hid (by rw [HE5.out, if_pos (.inl (by omega))])
     clear y1
     go_wp2_with fail
     refine (must_no _ 87).mono ?_
     rintro _ _ ⟨rfl, rfl⟩
     exact ⟨rfl, BAD.out 87 HE7.out (by decide) _ N13.out.k⟩
    have b1 : decide (vs ≤ 8192) = true := by simpa using y1
    by_cases y2 : (vp : Int) ≤ 16384
    case neg =>
     have b2 : decide ((vp : Int) ≤ 16384) = false := by simp; omega
     have HE7 : Hid (E = 87) := Lib.hid (by rw [HE5.out, if_pos (.inr (by omega))])
     clear y1 y2
     go_wp2_with fail
     refine (must_no _ 87).mono ?_
     rintro _ _ ⟨rfl, rfl⟩
     exact ⟨rfl, BAD.out 87 HE7.out (by decide) _ N13.out.k⟩
    have b2 : decide ((vp : Int) ≤ 16384) = true := by simp; omega
    have HE6 : Hid (E = if ¬ ((vw = 8 ∨ vs = (vp : Int)) ∧ v11 = at_ ∧ (at_ : Int) + 30 + (nl : Int) + (vp : Int) ≤ (first : Int)) then 81 else if ¬ ZHeadF xs at_ (zrecI xs rp) then 81 else 0) := Lib.hid (by
     rw [HE5.out, if_neg (by omega)]
     have : ((at_ + 30 + nl : Nat) : Int) = (at_ : Int) + 30 + (nl : Int) := by omega
     rw [this])
    have HB81 : Hid (¬ ((vw = 8 ∨ vs = (vp : Int)) ∧ v11 = at_ ∧ (at_ : Int) + 30 + (nl : Int) + (vp : Int) ≤ (first : Int)) → E = 81) := Lib.hid (fun h => by rw [HE6.out, if_pos h])
    have hvpl : vp ≤ 16384 := by omega
    have HVS8 := Lib.hid y1
    clear y1 y2 HE5
    go_wp2_with fail
    refine (must_ok _ 87).mono ?_
    rintro _ wz ⟨rfl, hwz⟩
    obtain rfl : w13 = wz := hwz.symm
    clear hwz b1 b2
    have r5 := N13.out.rd.c5
    have r1 := N13.out.rd.c1
    have sC : IntKind.i64.wrap ((at_ : Int) + 30 + (nl : Int) + (vp : Int)) = (at_ : Int) + 30 + (nl : Int) + (vp : Int) := IntWalk.i64_in _ (by omega)
    go_upto_region 17 with (fail)
    go_cut [164] (fun u wc => ((vw = 8 ∨ vs = (vp : Int)) ∧ v11 = at_ ∧ (at_ : Int) + 30 + (nl : Int) + (vp : Int) ≤ (first : Int)) ∧ Hid (Keeps [] w13 wc))
    case first =>
     as_aux_lemma =>
      by_cases y8 : vw = 8
      ·have b8 : (vw == 8) = true := by simpa using y8
       have HV8 : Hid (vw = 8 ∨ vs = (vp : Int)) := Lib.hid (.inl y8)
       clear y8
       by_cases f1 : v11 = (at_ : Int)
       ·have g1 : (v11 == (at_ : Int)) = true := by simpa using f1
        by_cases f2 : (at_ : Int) + 30 + (nl : Int) + (vp : Int) ≤ (first : Int)
        ·have g2 : decide ((at_ : Int) + 30 + (nl : Int) + (vp : Int) ≤ (first : Int)) = true := by simpa using f2
         have HOK : Hid ((vw = 8 ∨ vs = (vp : Int)) ∧ v11 = at_ ∧ (at_ : Int) + 30 + (nl : Int) + (vp : Int) ≤ (first : Int)) := Lib.hid ⟨HV8.out, f1, f2⟩
         clear f1 f2
         go_quiet (first | (go_at_call 73; exact Calls.quiet_of_same (must_ok _ _)))
         go_wp2_with fail
         go_meet
         exact ⟨HOK.out, Lib.hid (by repeat (first | exact Keeps.refl _ _ | apply Keeps.drew | apply Keeps.drewN))⟩
        ·have g2 : decide ((at_ : Int) + 30 + (nl : Int) + (vp : Int) ≤ (first : Int)) = false := by simpa using f2
         have HE7 := Lib.hid (HB81.out (fun h => f2 h.2.2))
         clear f1 f2
         refine quiet_tail 29 (by kernel_rfl) (by kernel_rfl) ?_
         simp only [List.take_succ_cons, List.take_zero, List.drop_succ_cons, List.drop_zero]
         repeat (go_big_quiet_step (fail))
         refine wpQuiet_nil ?_
         go_wp2_with fail
         refine (must_no _ 81).mono ?_
         rintro _ _ ⟨rfl, rfl⟩
         exact ⟨rfl, BAD.out 81 HE7.out (by decide) _ N13.out.k.drew⟩
       ·have g1 : (v11 == (at_ : Int)) = false := by simpa using f1
        have HE7 := Lib.hid (HB81.out (fun h => f1 h.2.1))
        clear f1
        refine quiet_tail 29 (by kernel_rfl) (by kernel_rfl) ?_
        simp only [List.take_succ_cons, List.take_zero, List.drop_succ_cons, List.drop_zero]
        repeat (go_big_quiet_step (fail))
        refine wpQuiet_nil ?_
        go_wp2_with fail
        refine (must_no _ 81).mono ?_
        rintro _ _ ⟨rfl, rfl⟩
        exact ⟨rfl, BAD.out 81 HE7.out (by decide) _ N13.out.k.drew⟩
      ·have b8 : (vw == 8) = false := by simpa using y8
       by_cases y0 : vs = (vp : Int)
       ·have b0 : (vs == (vp : Int)) = true := by simpa using y0
        have HV8 : Hid (vw = 8 ∨ vs = (vp : Int)) := Lib.hid (.inr y0)
        clear y8 y0
        by_cases f1 : v11 = (at_ : Int)
        ·have g1 : (v11 == (at_ : Int)) = true := by simpa using f1
         by_cases f2 : (at_ : Int) + 30 + (nl : Int) + (vp : Int) ≤ (first : Int)
         ·have g2 : decide ((at_ : Int) + 30 + (nl : Int) + (vp : Int) ≤ (first : Int)) = true := by simpa using f2
          have HOK : Hid ((vw = 8 ∨ vs = (vp : Int)) ∧ v11 = at_ ∧ (at_ : Int) + 30 + (nl : Int) + (vp : Int) ≤ (first : Int)) := Lib.hid ⟨HV8.out, f1, f2⟩
          clear f1 f2
          go_quiet (first | (go_at_call 73; exact Calls.quiet_of_same (must_ok _ _)))
          go_wp2_with fail
          go_meet
          exact ⟨HOK.out, Lib.hid (by repeat (first | exact Keeps.refl _ _ | apply Keeps.drew | apply Keeps.drewN))⟩
         ·have g2 : decide ((at_ : Int) + 30 + (nl : Int) + (vp : Int) ≤ (first : Int)) = false := by simpa using f2
          have HE7 := Lib.hid (HB81.out (fun h => f2 h.2.2))
          clear f1 f2
          refine quiet_tail 29 (by kernel_rfl) (by kernel_rfl) ?_
          simp only [List.take_succ_cons, List.take_zero, List.drop_succ_cons, List.drop_zero]
          repeat (go_big_quiet_step (fail))
          refine wpQuiet_nil ?_
          go_wp2_with fail
          refine (must_no _ 81).mono ?_
          rintro _ _ ⟨rfl, rfl⟩
          exact ⟨rfl, BAD.out 81 HE7.out (by decide) _ N13.out.k.drew⟩
        ·have g1 : (v11 == (at_ : Int)) = false := by simpa using f1
         have HE7 := Lib.hid (HB81.out (fun h => f1 h.2.1))
         clear f1
         refine quiet_tail 29 (by kernel_rfl) (by kernel_rfl) ?_
         simp only [List.take_succ_cons, List.take_zero, List.drop_succ_cons, List.drop_zero]
         repeat (go_big_quiet_step (fail))
         refine wpQuiet_nil ?_
         go_wp2_with fail
         refine (must_no _ 81).mono ?_
         rintro _ _ ⟨rfl, rfl⟩
         exact ⟨rfl, BAD.out 81 HE7.out (by decide) _ N13.out.k.drew⟩
       ·have b0 : (vs == (vp : Int)) = false := by simpa using y0
        have HE7 := Lib.hid (HB81.out (fun h => by rcases h.1 with h | h; exact y8 h; exact y0 h))
        clear y8 y0
        refine quiet_tail 29 (by kernel_rfl) (by kernel_rfl) ?_
        simp only [List.take_succ_cons, List.take_zero, List.drop_succ_cons, List.drop_zero]
        repeat (go_big_quiet_step (fail))
        refine wpQuiet_nil ?_
        go_wp2_with fail
        refine (must_no _ 81).mono ?_
        rintro _ _ ⟨rfl, rfl⟩
        exact ⟨rfl, BAD.out 81 HE7.out (by decide) _ N13.out.k.drew⟩
    case rest =>
     obtain ⟨hok, HK14⟩ := hcut
     obtain ⟨w14, hw14⟩ : ∃ z : World, z = wc := ⟨_, rfl⟩
     rw [← hw14] at HK14 ⊢
     have N14 := Lib.hid (N13.out.keeps HK14.out)
     have X14 := Lib.hid (X13.out.keeps HK14.out (by simp))
     have HOK := Lib.hid hok
     have hfst : at_ + 30 + nl + vp ≤ first := by omega
     have HB82 : Hid (¬ ZHeadF xs at_ (zrecI xs rp) → E = 81) := Lib.hid (fun h => by rw [HE6.out, if_neg (fun hh => hh HOK.out), if_pos h])
     have HE8 : Hid (ZHeadF xs at_ (zrecI xs rp) → E = 0) := Lib.hid (fun h => by rw [HE6.out, if_neg (fun hh => hh HOK.out), if_neg (fun hh => hh h)])
     clear hok hw14 HK14 N13 X13 HE6 HB81 r5 r1 sC x1 x2 x4
     have r0 := N14.out.rd.c0
     have r5 := N14.out.rd.c5
     have hT14 : T < w14.heap.size := N14.out.tb.lt
     have hX14 : X < w14.heap.size := X14.out.lt
     go_upto_region 18 with (fail)
     go_cut [15] (fun u wc => ∃ F2 : Nat, u = .pointer (some ⟨F2, 0, none⟩) ∧ w14.heap.size ≤ F2 ∧ Hid (Blk wc F2 118 [.slice A n c, .int .i64 at_]) ∧ Hid (Keeps [] w14 wc))
     case first =>
      have a1 : ∀ o, (w14.alloc o).cell? ⟨G, 0, none⟩ = some (.slice A n c) := fun o => ((Keeps.refl [] w14).alloc o).cell (p := ⟨G, 0, none⟩) (by simp) r0
      have a2 : ∀ o, (w14.alloc o).cell? ⟨G, 5, none⟩ = some (.int .i64 at_) := fun o => ((Keeps.refl [] w14).alloc o).cell (p := ⟨G, 5, none⟩) (by simp) r5
      go_region
      all_goals (
       go_wp2_with fail
       go_meet
       exact ⟨w14.heap.size, rfl, Nat.le_refl _, Lib.hid ((blk_new w14 118 [.slice A n c, .int .i64 at_]).keeps (S := []) ((Keeps.refl [] _).drew) (by simp)), Lib.hid ((Keeps.refl [] w14).alloc _).drew⟩)
     case rest =>
      obtain ⟨F2, rfl, hF2, HF2, HK15⟩ := hcut
      obtain ⟨w15, hw15⟩ : ∃ z : World, z = wc := ⟨_, rfl⟩
      rw [← hw15] at HF2 HK15 ⊢
      have N15 := Lib.hid (N14.out.keeps HK15.out)
      have X15 := Lib.hid (X14.out.keeps HK15.out (by simp))
      have hFD : FD w15 F2 0 A n c at_ := ⟨by have := HF2.out.cell 0; simpa using this, by have := HF2.out.cell 1; simpa using this, HF2.out.frozen 1, fun a ha he => by have := HZ.out.old a ha; omega⟩
      have FD15 := Lib.hid hFD
      clear hw15 HK15 HF2 N14 X14 r0 r5 hFD
      have hTF : T < F2 := by omega
      have hXF : X ≠ F2 := by omega
      all_goals
       go_wp2_with fail
       refine (ffour_calls w15 F2 0 A n c xs at_ FD15.out (N15.out.zb HZ.out HO.out) (by omega)).mono ?_
       rintro _ w16 ⟨rfl, hf16, ho16⟩
       have F16 := Lib.hid hf16
       have N16 := Lib.hid (N15.out.keepsO ho16.keeps (fun x hx => by simp at hx; omega) hGT hBT hTw')
       have X16 := Lib.hid (X15.out.keeps ho16.keeps (by simp; omega))
       obtain ⟨mk2, hmk2⟩ : ∃ z, z = zget xs at_ 4 := ⟨_, rfl⟩
       rw [← hmk2]
       have HMK2 := Lib.hid hmk2
       clear hf16 ho16 hmk2 N15 X15 FD15
       go_wp2_with fail
       refine (fshared_calls w16 F2 0 A n c xs (at_ + 4) F16.out (N16.out.zb HZ.out HO.out) (by omega)).mono ?_
       rintro _ w17 ⟨pb2, q2, rfl, hpb2, hq2, hqp2, hf17, ho17⟩
       have F17 := Lib.hid hf17
       have N17 := Lib.hid (N16.out.keepsO ho17.keeps (fun x hx => by simp at hx; omega) hGT hBT hTw')
       have X17 := Lib.hid (X16.out.keeps ho17.keeps (by simp; omega))
       have HQ2 : Hid (pb2 = true → q2 = at_ + 4 + 26) := Lib.hid hq2
       have HPB2 := Lib.hid hpb2
       have hF17 : F2 < w17.heap.size := F17.out.lt
       have hX17 : X < w17.heap.size := X17.out.lt
       have hT17 : T < w17.heap.size := N17.out.tb.lt
       obtain ⟨yz, hyz⟩ : ∃ z, z = zget xs (at_ + 4 + 18) 4 := ⟨_, rfl⟩
       obtain ⟨yp, hyp⟩ : ∃ z, z = zget xs (at_ + 4 + 14) 4 := ⟨_, rfl⟩
       obtain ⟨yc, hyc⟩ : ∃ z, z = zget xs (at_ + 4 + 10) 4 := ⟨_, rfl⟩
       obtain ⟨yw, hyw⟩ : ∃ z, z = zget xs (at_ + 4 + 4) 2 := ⟨_, rfl⟩
       obtain ⟨ln2, hln2⟩ : ∃ z, z = zget xs (at_ + 4 + 22) 2 := ⟨_, rfl⟩
       rw [← hyz, ← hyp, ← hyc, ← hyw, ← hln2]
       have HYZ := Lib.hid hyz
       have HYP := Lib.hid hyp
       have HYC := Lib.hid hyc
       have HYW := Lib.hid hyw
       have HLN2 := Lib.hid hln2
       clear hf17 ho17 hpb2 hq2 hyz hyp hyc hyw hln2 F16 N16 X16
       go_upto_region 21 with (fail)
       obtain ⟨Y, hY⟩ : ∃ z, z = w17.heap.size := ⟨_, rfl⟩
       obtain ⟨w18, hw18⟩ : ∃ z, z = w17.alloc (.cells #[.string ⟨#[]⟩, .int .i64 yz, .int .i64 yp, .int .u32 yc, .int .i64 yw] 51) := ⟨_, rfl⟩
       have k18 : Keeps [] w17 w18 := by rw [hw18]; exact (Keeps.refl [] _).alloc _
       have Y18 : Hid (Blk w18 Y 51 [.string ⟨#[]⟩, .int .i64 yz, .int .i64 yp, .int .u32 yc, .int .i64 yw]) := Lib.hid (by rw [hw18, hY]; exact blk_new _ _ _)
       have N18 := Lib.hid (N17.out.keeps k18)
       have X18 := Lib.hid (X17.out.keeps k18 (by simp))
       have F18 := Lib.hid (F17.out.keeps k18 (by simp))
       rw [← hw18, ← hY]
       have hYX : X ≠ Y := by omega
       have hYF : F2 ≠ Y := by omega
       have hTY : T < Y := by omega
       obtain ⟨nm2, hnm2⟩ : ∃ z, z = strOfNums (seg xs (at_ + 4 + 26) nl) := ⟨_, rfl⟩
       have HNM2 := Lib.hid hnm2
       clear hw18 k18 N17 X17 F17 hY hnm2
       have HZH : Hid (ZHeadF xs at_ (zrecI xs rp) ↔ mk2 = 67324752 ∧ pb2 = true ∧ ln2 = (nl : Int) ∧ (⟨nm2, yz, yp, yc, yw⟩ : ZI) = ⟨name, vs, (vp : Int), vc, vw⟩) := Lib.hid (by
        have h1 : (zrecI xs rp).name.size = nl := by rw [← HSZ.out, HNM.out]; rfl
        have h2 : zrecI xs rp = ⟨name, vs, (vp : Int), vc, vw⟩ := by rw [HNM.out, HVS.out, HVP.out, HVC.out, HVW.out]; rfl
        unfold ZHeadF
        rw [h1, h2, HMK2.out, HPB2.out, HLN2.out, HNM2.out, HYZ.out, HYP.out, HYC.out, HYW.out]
        constructor
        ·rintro ⟨a, b, c, d, e⟩
         exact ⟨a, ⟨b, c⟩, d, e⟩
        ·rintro ⟨a, ⟨b, c⟩, d, e⟩
         exact ⟨a, b, c, d, e⟩)
       have HLB : Hid (¬ (mk2 = 67324752 ∧ pb2 = true ∧ ln2 = (nl : Int) ∧ (⟨nm2, yz, yp, yc, yw⟩ : ZI) = ⟨name, vs, (vp : Int), vc, vw⟩) → E = 81) := Lib.hid (fun h => HB82.out (fun hh => h (HZH.out.1 hh)))
       have HLE : Hid (mk2 = 67324752 ∧ pb2 = true ∧ ln2 = (nl : Int) ∧ (⟨nm2, yz, yp, yc, yw⟩ : ZI) = ⟨name, vs, (vp : Int), vc, vw⟩ → E = 0) := Lib.hid (fun h => HE8.out (HZH.out.2 h))
       clear HZH HB82 HE8
       by_cases m1 : mk2 = 67324752
       case neg =>
        have b1 : (mk2 == 67324752) = false := by simpa using m1
        have HE7 := Lib.hid (HLB.out (fun h => m1 h.1))
        clear m1
        go_wp2_with fail
        refine (must_no _ 81).mono ?_
        rintro _ _ ⟨rfl, rfl⟩
        exact ⟨rfl, BAD.out 81 HE7.out (by decide) _ N18.out.k⟩
       have b1 : (mk2 == 67324752) = true := by simpa using m1
       by_cases m2 : pb2 = true
       case neg =>
        have b2 : pb2 = false := by simpa using m2
        have HE7 := Lib.hid (HLB.out (fun h => m2 h.2.1))
        subst b2
        clear m1 m2
        go_wp2_with fail
        refine (must_no _ 81).mono ?_
        rintro _ _ ⟨rfl, rfl⟩
        exact ⟨rfl, BAD.out 81 HE7.out (by decide) _ N18.out.k⟩
       subst m2
       by_cases m3 : ln2 = (nl : Int)
       case neg =>
        have b3 : (ln2 == (nl : Int)) = false := by simpa using m3
        have HE7 := Lib.hid (HLB.out (fun h => m3 h.2.2.1))
        clear m1 m3
        go_wp2_with fail
        refine (must_no _ 81).mono ?_
        rintro _ _ ⟨rfl, rfl⟩
        exact ⟨rfl, BAD.out 81 HE7.out (by decide) _ N18.out.k⟩
       have b3 : (ln2 == (nl : Int)) = true := by simpa using m3
       have hq2 : q2 = at_ + 4 + 26 := HQ2.out rfl
       subst hq2
       have HM13 := Lib.hid (And.intro m1 m3)
       clear m1 m3
       go_wp2_with fail
       refine (must_ok _ 81).mono ?_
       rintro _ wz ⟨rfl, hwz⟩
       obtain rfl : w18 = wz := hwz.symm
       clear hwz b1 b3
       go_wp2_with fail
       refine (ftext_calls w18 F2 0 A n c xs (at_ + 4 + 26) nl F18.out (N18.out.zb HZ.out HO.out) (by omega)).mono ?_
       rintro _ w19 ⟨rfl, hf19, ho19⟩
       have N19 := Lib.hid (N18.out.keepsO ho19.keeps (fun x hx => by simp at hx; omega) hGT hBT hTw')
       have X19 := Lib.hid (X18.out.keeps ho19.keeps (by simp; omega))
       have Y19 := Lib.hid (Y18.out.keeps ho19.keeps (by simp; omega))
       rw [← HNM2.out]
       have y0 := Y19.out.cell 0
       have yf := Y19.out.frozen 0
       simp only [List.getElem?_cons_zero] at y0
       clear hf19 ho19 N18 X18 Y18 F18
       go_upto_region 23 with (fail)
       obtain ⟨w20, hw20⟩ : ∃ z, z = w19.setCell ⟨Y, 0, none⟩ (.string nm2) := ⟨_, rfl⟩
       have k20 : Keeps [Y] w19 w20 := by rw [hw20]; exact (Keeps.refl [Y] _).setCell (p := ⟨Y, 0, none⟩) (.inl (by simp)) _
       have Y20 : Hid (Blk w20 Y 51 [.string nm2, .int .i64 yz, .int .i64 yp, .int .u32 yc, .int .i64 yw]) := Lib.hid (by rw [hw20]; exact Y19.out.set 0 _)
       have N20 := Lib.hid (N19.out.keepsO k20 (fun x hx => by simp at hx; omega) hGT hBT hTw')
       have X20 := Lib.hid (X19.out.keeps k20 (by simp; omega))
       rw [← hw20]
       have x0 := X20.out.cell 0
       have x1 := X20.out.cell 1
       have x2 := X20.out.cell 2
       have x3 := X20.out.cell 3
       have x4 := X20.out.cell 4
       have y0 := Y20.out.cell 0
       have y1 := Y20.out.cell 1
       have y2 := Y20.out.cell 2
       have y3 := Y20.out.cell 3
       have y4 := Y20.out.cell 4
       simp only [List.getElem?_cons_zero, List.getElem?_cons_succ] at x0 x1 x2 x3 x4 y0 y1 y2 y3 y4
       have heq := fun w => info_eql w nm2 name yz vs yp (vp : Int) yc vc yw vw
       have hgd := fun x y w => info_guard x y w nm2 name yz vs yp (vp : Int) yc vc yw vw
       clear hw20 k20 N19 X19 Y19 yf
       by_cases m4 : (⟨nm2, yz, yp, yc, yw⟩ : ZI) = ⟨name, vs, (vp : Int), vc, vw⟩
       case neg =>
        rw [decide_eq_false m4] at heq
        have HE7 := Lib.hid (HLB.out (fun h => m4 h.2.2.2))
        clear m4
        go_wp2_with fail
        refine (must_no _ 81).mono ?_
        rintro _ _ ⟨rfl, rfl⟩
        exact ⟨rfl, BAD.out 81 HE7.out (by decide) _ N20.out.k⟩
       rw [decide_eq_true m4] at heq
       have HE0 : Hid (E = 0) := Lib.hid (HLE.out ⟨HM13.out.1, by simp, HM13.out.2, m4⟩)
       clear m4 HLB HLE HM13
       go_wp2_with fail
       refine (must_ok _ 81).mono ?_
       rintro _ wz ⟨rfl, hwz⟩
       obtain rfl : w20 = wz := hwz.symm
       clear hwz heq hgd y0 y1 y2 y3 y4
       go_upto_region 24 with (fail)
       have r6 := N20.out.rd.c6
       refine quiet_tail 7 (by kernel_rfl) (by kernel_rfl) ?_
       simp only [List.take_succ_cons, List.take_zero, List.drop_succ_cons, List.drop_zero]
       repeat (go_big_quiet_step (fail))
       refine wpQuiet_nil ?_
       go_wp2_with (first
        | (at_mapUpdate; refine wpList_mapUpdate_own _ rfl _ _ _ 61 rfl 9 62 nameLaw Tryz.underlying61 (unitElem (H := Unit)) B known.length _ rfl (N20.out.st.keeps (Keeps.refl [] w20).drew (by simp)) (by unfold maxLen; omega) _ _ _ rfl rfl hkey _ [] unitElem_mk ?_; intro w21 hown21 hgr21; have k21 : Keeps [B] w20 w21 := ((Keeps.refl [B] w20).drew).grown hgr21 (fun k hk => .inl (by injection hk with hk; subst hk; simp)); have X21 := X20.out.keeps k21 (by simp; omega); have R21 := N20.out.rd.keeps k21 (by simpa using hGB); have x2 := X21.cell 2; have r5 := R21.c5; have f5 := R21.f5; simp only [List.getElem?_cons_zero, List.getElem?_cons_succ] at x2))
       have M21 := Lib.hid (SetM.snoc hown21)
       have HX21 := Lib.hid X21
       have HR21 := Lib.hid R21
       have FD21 := Lib.hid (N20.out.fd.keeps k21 (by simpa using hGB))
       have T21 := Lib.hid (N20.out.tb.keeps k21 (by simp; omega))
       have K21 := Lib.hid (N20.out.k.trans (k21.mono (S' := [G, B]) (by simp)))
       clear hown21 hgr21 X21 R21 k21 x2 r5 f5 r6 x0 x1 x3 x4 N20 X20 Y20
       have sC : IntKind.i64.wrap ((at_ : Int) + 30 + (nl : Int) + (vp : Int)) = (at_ : Int) + 30 + (nl : Int) + (vp : Int) := IntWalk.i64_in _ (by omega)
       obtain ⟨w22, hw22⟩ : ∃ z, z = w21.setCell ⟨G, 5, none⟩ (.int .i64 ((at_ : Int) + 30 + (nl : Int) + (vp : Int))) := ⟨_, rfl⟩
       have k22 : Keeps [G] w21 w22 := by rw [hw22]; exact (Keeps.refl [G] _).setCell (p := ⟨G, 5, none⟩) (.inl (by simp)) _
       have R22 : Hid (RDR w22 G A n c first en (at_ + 30 + nl + vp) B) := Lib.hid (by rw [hw22]; exact HR21.out.moved _ (by omega))
       have FD22 : Hid (FD w22 G 3 A n c (rp + 32 + 10 + 4 + nl)) := Lib.hid (by rw [hw22]; exact FD21.out.past5 _)
       have M22 := Lib.hid (M21.out.keeps k22 (by simpa using hGB.symm))
       have T22 := Lib.hid (T21.out.keeps k22 (by simp; omega))
       have X22 := Lib.hid (HX21.out.keeps k22 (by simp; omega))
       have K22 := Lib.hid (K21.out.trans (k22.mono (S' := [G, B]) (by simp)))
       rw [← hw22]
       clear hw22 k22 M21 HX21 HR21 FD21 T21 K21
       have x0 := X22.out.cell 0
       have x1 := X22.out.cell 1
       have x2 := X22.out.cell 2
       have x3 := X22.out.cell 3
       have x4 := X22.out.cell 4
       simp only [List.getElem?_cons_zero, List.getElem?_cons_succ] at x0 x1 x2 x3 x4
       have r0 := R22.out.c0
       have r5 : w22.cell? ⟨G, 5, none⟩ = some (.int .i64 ((at_ : Int) + 30 + (nl : Int) + (vp : Int))) := by
        have h := R22.out.c5
        rw [show ((at_ + 30 + nl + vp : Nat) : Int) = (at_ : Int) + 30 + (nl : Int) + (vp : Int) by omega] at h
        exact h
       have t0 := T22.out.cell 0
       have t1 := T22.out.cell 1
       have t2 := T22.out.cell 2
       have t3 := T22.out.cell 3
       have t4 := T22.out.cell 4
       have t5 := T22.out.cell 5
       simp only [zeroPiece, List.getElem?_cons_zero, List.getElem?_cons_succ] at t0 t1 t2 t3 t4 t5
       have tf := T22.out.frozen
       have hsl := fun w => slice_mid8 w A n c (at_ + 30 + nl) (at_ + 30 + nl + vp) ((at_ : Int) + 30 + (nl : Int)) ((at_ : Int) + 30 + (nl : Int) + (vp : Int)) (by omega) (by omega) (by omega) (by omega) HZ.out.cap
       rw [show at_ + 30 + nl + vp - (at_ + 30 + nl) = vp by omega] at hsl
       obtain ⟨CA, hCA⟩ : ∃ z, z = cutA A (at_ + 30 + nl) c := ⟨_, rfl⟩
       obtain ⟨cn, hcn⟩ : ∃ z, z = c - (at_ + 30 + nl) := ⟨_, rfl⟩
       rw [← hCA, ← hcn] at hsl
       have HCA := Lib.hid hCA
       have HCN := Lib.hid hcn
       clear hCA hcn sC
       refine quiet_tail 12 (by kernel_rfl) (by kernel_rfl) ?_
       simp only [List.take_succ_cons, List.take_zero, List.drop_succ_cons, List.drop_zero]
       repeat (go_big_quiet_step (fail))
       refine wpQuiet_nil ?_
       go_wp2_with fail
       obtain ⟨w23, hw23⟩ : ∃ z, z = ((((((w22.setCell ⟨T, 0, none⟩ (.string name)).setCell ⟨T, 1, none⟩ (.int .i64 vs)).setCell ⟨T, 2, none⟩ (.int .i64 (vp : Int))).setCell ⟨T, 3, none⟩ (.int .u32 vc)).setCell ⟨T, 4, none⟩ (.int .i64 vw)).setCell ⟨T, 5, none⟩ (.slice CA vp cn)).drew := ⟨_, rfl⟩
       rw [← hw23]
       have k23 : Keeps [T] w22 w23 := by rw [hw23]; exact (((((((Keeps.refl [T] w22).setCell (p := ⟨T, 0, none⟩) (.inl (by simp)) _).setCell (p := ⟨T, 1, none⟩) (.inl (by simp)) _).setCell (p := ⟨T, 2, none⟩) (.inl (by simp)) _).setCell (p := ⟨T, 3, none⟩) (.inl (by simp)) _).setCell (p := ⟨T, 4, none⟩) (.inl (by simp)) _).setCell (p := ⟨T, 5, none⟩) (.inl (by simp)) _).drew
       have b23 : Blk w23 T 77 [.string name, .int .i64 vs, .int .i64 (vp : Int), .int .u32 vc, .int .i64 vw, .slice CA vp cn] := by
        rw [hw23]
        exact ((((((T22.out.set 0 (.string name)).set 1 (.int .i64 vs)).set 2 (.int .i64 (vp : Int))).set 3 (.int .u32 vc)).set 4 (.int .i64 vw)).set 5 (.slice CA vp cn)).keeps (Keeps.refl [] _).drew (by simp)
       refine bodyPost_ret (results_cA rfl _ _ T 77 _ (0, 0) _ rfl b23 Tryz.underlying77 rfl size_piece) rfl ?_
       have p1 : (zrecI xs rp).size = vs := HVS.out.symm
       have p2 : (zrecI xs rp).packed = (vp : Int) := HVP.out.symm
       have p3 : (zrecI xs rp).sum = vc := HVC.out.symm
       have p4 : (zrecI xs rp).way = vw := HVW.out.symm
       have p5 : zlong xs rp = nl := HNL.out.symm
       refine ⟨K22.out.then k23 (fun x hx => .inr (by simp at hx; omega)), .inr ⟨HE.out.symm.trans HE0.out, ?_, ?_, ?_, ?_⟩⟩
       ·rw [← HNM.out, p1, p2, p3, p4, p5, Int.toNat_natCast, ← HCA.out, ← HCN.out]
       ·rw [p5, p2, Int.toNat_natCast]; exact R22.out.keeps k23 (by simp; omega)
       ·rw [p5, show rp + 46 + nl = rp + 32 + 10 + 4 + nl by omega]; exact FD22.out.keeps k23 (by simp; omega)
       ·rw [← HNM.out]; exact M22.out.keeps k23 (by simp; omega)
end Go.Proofs.YtghjlpechjggjaaGreatDoor
