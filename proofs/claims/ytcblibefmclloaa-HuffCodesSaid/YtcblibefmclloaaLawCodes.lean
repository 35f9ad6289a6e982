import Derived.Test.YtcblibefmclloaaAwake3
import Derived.Test.YtcblibefmclloaaRefCodes
import Derived.Test.YtcblibefmclloaaBack3
import Derived.RegionTactic
import Derived.BigQuiet
import Derived.BigRegion
set_option linter.unusedVariables false
set_option linter.unusedSimpArgs false
namespace Go.Proofs.Ytcblibefmclloaa
open Go.RowKit
theorem codesF_err (l : List Int) : (codesF l).2 = checkF l := by
  unfold codesF
  by_cases h : checkF l = 0
  · rw [if_pos h, h]
  · rw [if_neg h]
/-- Cells of a block, from a place on. -/
def From (k : IntKind) (xs : List Int) (i n : Nat) (cs : List Value) : Prop := ∀ j, i ≤ j → j < n → cs[j]? = some (.int k (nth xs j))
theorem own_blk {w : World} {base n : Nat} {e : TypeId} {k : IntKind} {v : Value} {xs : List Int} (h : w.ownsRow base e 1 v n (ints k xs)) :
    ∃ (g c : Nat) (A : Option Addr), v = .slice A n c ∧ (0 < n → A = some ⟨g, 0, none⟩ ∧ base ≤ g ∧ ∃ cs, Blk w g e cs ∧ From k xs 0 n cs) := by
  obtain ⟨h1, h2⟩ := h
  rcases h2 with ⟨rfl, rfl⟩ | ⟨g, cap, cur, rfl, hb, hh, hc, hm, hs, ht⟩
  · exact ⟨0, 0, none, rfl, fun h => by omega⟩
  · refine ⟨g, cap, _, rfl, fun _ => ⟨rfl, hb, cur.toList, hh, fun j _ hj => ?_⟩⟩
    have e1 : cur.toList[j]? = (ints k xs)[j]? := by rw [← ht, List.getElem?_take, if_pos (by omega)]
    have hl : xs.length = n := by simpa [ints] using h1
    rw [e1, ints_getElem?]
    simp [nth, List.getD, show j < xs.length by omega]
set_option maxRecDepth 100000 in
set_option maxHeartbeats 1000000 in
theorem huffCodes_walk (w : World) (A : Option Addr) (n c : Nat) (l : List Int) (hl : RI .i64 w A n l) (hm : n ≤ maxLen) (hnil : A = none → n = 0 ∧ c = 0) (hwf : ∀ x ∈ l, (Lit.int .i64 x).wf = true) :
    Calls Try.prog 3 #[.slice A n c] w fun e w' => e = .returned (.bool true) ∧ Keeps [] w w' := by
  have HL := Lib.hid hl
  have HLL := Lib.hid hl.len
  clear hl hnil hwf
  go_enter Try.func3, Try.ntmps3
  by_cases hbig : 5000 < n
  · have e1 : decide (5000 < n) = true := by simpa using hbig
    have e2 : decide ((5000 : Int) < (n : Int)) = true := by simp; omega
    go_wp2_with fail
    go_ret
    exact ⟨rfl, Keeps.refl _ _⟩
  · have e1 : decide (5000 < n) = false := by simpa using hbig
    have e2 : decide ((5000 : Int) < (n : Int)) = false := by simp; omega
    have hn2 : n ≤ 1048576 := by omega
    have hn3 : n ≤ 140737488355328 := by omega
    go_wp2_with fail
    refine (lent3_calls _ _ _ _ l HL.out hn2).mono ?_
    rintro _ w1 ⟨g, rfl, hB1, hg1, hk1⟩
    have HL1 := Lib.hid (HL.out.keeps hk1 (off_nil _))
    have HB1 := Lib.hid hB1
    have K1 := Lib.hid hk1
    clear hB1 hk1 HL
    go_wp2_with fail
    refine (check_calls _ _ _ _ l (by have := HB1.out.ri; rwa [HLL.out] at this) hn3).mono ?_
    rintro _ w2 ⟨rfl, hd2⟩
    have HL2 := Lib.hid (HL1.out.keeps (hd2.keeps (S := [])) (off_nil _))
    have HB2 := Lib.hid (HB1.out.keeps (hd2.keeps (S := [])) (by simp))
    have K2 := Lib.hid (K1.out.trans (hd2.keeps (S := [])))
    clear hd2 HL1 HB1 K1
    go_wp2_with fail
    refine (codes_calls _ _ _ _ l (by have := HB2.out.ri; rwa [HLL.out] at this) hn3).mono ?_
    rintro _ w3 ⟨v3, rfl, ho3, hb3⟩
    have hk3 := Keeps.of_below hb3 (S := [])
    have HL3 := Lib.hid (HL2.out.keeps hk3 (off_nil _))
    have HB3 := Lib.hid (HB2.out.keeps hk3 (by simp))
    have K3 := Lib.hid (K2.out.trans hk3)
    have S2 : Hid (w.heap.size ≤ w2.heap.size) := Lib.hid K2.out.size
    have HO3 := Lib.hid ho3
    clear hb3 hk3 ho3 HL2 HB2 K2
    rw [codesF_err]
    go_wp2_with fail
    refine (refCodes_calls _ _ _ _ l HL3.out hn3).mono ?_
    rintro _ w4 ⟨v4, rfl, ho4, hb4⟩
    have hk4 := Keeps.of_below hb4 (S := [])
    have HL4 := Lib.hid (HL3.out.keeps hk4 (off_nil _))
    have HB4 := Lib.hid (HB3.out.keeps hk4 (by simp))
    have K4 := Lib.hid (K3.out.trans hk4)
    have S3 : Hid (∀ k, v3.ownBlock = some k → k < w3.heap.size) := Lib.hid (fun k hk => (HO3.out.lt k hk).2)
    have HO3' := Lib.hid (own_keeps HO3.out hk4 (by simp))
    have HO4 := Lib.hid ho4
    clear hb4 hk4 ho4 HL3 HB3 K3 HO3
    rw [codesF_err]
    obtain ⟨gc, cc, AC, rfl, hcb⟩ := own_blk HO3'.out
    obtain ⟨AW, cw, rfl, hrw, _, hwb⟩ := own_ri HO4.out
    have HCB := Lib.hid hcb
    have HRW := Lib.hid hrw
    have HWB := Lib.hid hwb
    clear HO3' HO4 hcb hrw hwb
    have hcl : (codesF l).1.length ≤ n := by
      rw [← HLL.out]
      unfold codesF
      split
      · simp [outL_len]
      · simp
    generalize (codesF l).1 = cd at *
    generalize checkF l = er at *
    obtain ⟨K, hK⟩ : ∃ K, K = cd.length := ⟨_, rfl⟩
    rw [← hK] at HCB HRW hcl ⊢
    go_wp2_with fail
    refine (back3_calls _ _ _ _ _ l HL4.out HB4.out hn2).mono ?_
    rintro _ w5 ⟨rfl, hd5⟩
    have K5 := Lib.hid (K4.out.trans (hd5.keeps (S := [])))
    have HRW5 := Lib.hid (HRW.out.keeps (hd5.keeps (S := [])) (off_nil _))
    have HC5 : Hid (0 < K → AC = some ⟨gc, 0, none⟩ ∧ w2.heap.size ≤ gc ∧ gc < w3.heap.size ∧ ∃ cs, Blk w5 gc 30 cs ∧ From .u32 cd 0 K cs) := Lib.hid (fun h => by
      obtain ⟨a, b, cs, d, e⟩ := HCB.out h
      exact ⟨a, b, S3.out gc (by rw [a]; rfl), cs, d.keeps (hd5.keeps (S := [])) (by simp), e⟩)
    clear hd5 K4 HRW HCB HL4 HB4 S3
    go_wp2_with fail
    by_cases hz : K = 0
    · obtain rfl := hz
      go_loopw [9] (fun iv wr => iv = .int .i64 0 ∧ Hid (Keeps [] w wr)) (fun iv _ => 0)
      case atStart => exact ⟨rfl, K5⟩
      case round =>
        clear K5
        obtain ⟨rfl, K5⟩ := hrel
        go_wp2_with fail
        refine (awake3_calls _).mono ?_
        rintro e w6 ⟨rfl, hk6⟩
        have K6 := Lib.hid (K5.out.trans hk6)
        clear hk6 K5
        go_wp2_with fail
        go_ret
        exact ⟨rfl, K6.out⟩
    · obtain ⟨ha, hge, hlt3, hcs⟩ := HC5.out (by omega)
      obtain rfl := ha
      have HCS := Lib.hid hcs
      have HG : Hid (w.heap.size ≤ gc) := Lib.hid (by have := S2.out; omega)
      have HLT := Lib.hid hlt3
      clear HC5 hcs hge hlt3
      go_loopw [9] (fun iv wr => ∃ i : Nat, i ≤ K ∧ iv = .int .i64 i ∧ Hid (∃ cs, Blk wr gc 30 cs ∧ From .u32 cd i K cs) ∧ Hid (Keeps [] w wr) ∧ Hid (RI .u32 wr AW K cd)) (fun iv _ => K - (intOf iv).toNat)
      case atStart => exact ⟨0, by omega, rfl, HCS, K5, HRW5⟩
      case round =>
        clear HCS K5 HRW5
        obtain ⟨i, hi, rfl, HCS, K5, HRW5⟩ := hrel
        by_cases hlt : i < K
        · have e0 : decide (i < K) = true := by simpa using hlt
          obtain ⟨cs, hb, hfrom⟩ := HCS.out
          have h1 := hb.cell i
          rw [hfrom i (Nat.le_refl _) hlt] at h1
          have h2 := hb.frozen i
          obtain ⟨wb, wo, rfl, h3⟩ := HRW5.out.at hlt
          have hne : wb ≠ gc := by have := (HWB.out _ rfl).1; have := HLT.out; simp at *; omega
          have HS : Hid (∀ q, ∃ cs', Blk ((wr.drewN q).setCell ⟨gc, i, none⟩ (.int .u32 99)) gc 30 cs' ∧ From .u32 cd (i + 1) K cs') := Lib.hid fun q => ⟨_, (hb.keeps ((Keeps.refl [] wr).drewN q) (by simp)).set i _, fun j h1 h2 => by rw [List.getElem?_set_ne (by omega)]; exact hfrom j (by omega) h2⟩
          have K6 : Hid (∀ q, Keeps [] w ((wr.drewN q).setCell ⟨gc, i, none⟩ (.int .u32 99))) := Lib.hid fun q => (K5.out.drewN q).setCell (p := ⟨gc, i, none⟩) (Or.inr HG.out) (.int .u32 99)
          have HR6 : Hid (∀ q, RI .u32 ((wr.drewN q).setCell ⟨gc, i, none⟩ (.int .u32 99)) (some ⟨wb, wo, none⟩) K cd) := Lib.hid fun q => HRW5.out.keeps (((Keeps.refl [gc] wr).drewN q).setCell (p := ⟨gc, i, none⟩) (Or.inl (by simp)) (.int .u32 99)) (fun a ha => by obtain rfl := Option.some.inj ha; simpa using hne)
          clear hb hfrom HCS K5 HRW5
          generalize nth cd i = y at *
          go_wp2_with fail
          go_quiet (fail)
          go_wp2_with fail
          go_roundw
          case rel => exact ⟨i + 1, by omega, by go_num, Lib.hid (HS.out _), Lib.hid (K6.out _), Lib.hid (HR6.out _)⟩
          case measure => simp [intOf]; omega
        · obtain rfl : i = K := by omega
          go_wp2_with fail
          refine (awake3_calls _).mono ?_
          rintro e w6 ⟨rfl, hk6⟩
          have K6 := Lib.hid (K5.out.trans hk6)
          clear hk6 K5
          go_wp2_with fail
          go_ret
          exact ⟨rfl, K6.out⟩
end Go.Proofs.Ytcblibefmclloaa
