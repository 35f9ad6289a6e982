import Derived.Test.YtcblibefmclloaaMNext2
import Derived.Test.YtcblibefmclloaaWriter
import Derived.Test.YtcblibefmclloaaTurned
import Derived.Test.YtcblibefmclloaaAwake3
import Derived.Test.YtcblibefmclloaaRefWith
import Derived.StillTailTactics
import Derived.RegionTactic
import Derived.BigQuiet
import Derived.BigRegion
set_option linter.unusedVariables false
set_option linter.unusedSimpArgs false
namespace Go.Proofs.Ytcblibefmclloaa
open Go.RowKit
theorem revF_bit (c : Int) : ∀ n t, t < n → revF c n / 2 ^ t % 2 = c / 2 ^ (n - 1 - t) % 2
  | 0, t, h => by omega
  | n + 1, t, h => by
    rw [revF]
    match t with
    | 0 => rw [Int.pow_zero, Int.ediv_one, show n + 1 - 1 - 0 = n by omega]; omega
    | t + 1 =>
      have ih := revF_bit c n t (by omega)
      rw [Int.pow_succ, Int.mul_comm (2 ^ t) 2, ← div_div _ _ _ (by omega), show (2 * revF c n + c / 2 ^ n % 2) / 2 = revF c n by omega, ih, show n + 1 - 1 - (t + 1) = n - 1 - t by omega]
theorem vbits_rev (c : Int) (n : Nat) : vbits (revF c n) n = msbF c n := by
  unfold vbits msbF
  refine List.map_congr_left fun t ht => ?_
  exact revF_bit c n t (List.mem_range.1 ht)
/-- A code that stands there is read. -/
theorem dec_hit {l : List Int} (hc : checkF l = 0) (bs : List Int) (p s m : Nat) (hs : s < l.length) (h1 : 1 ≤ m) (h15 : m ≤ 15) (hm : nth l s = m) (hT : p + m ≤ 8 * bs.length) (hx : xv bs p m = codeI l s) : decF l bs p = ((s : Int), 0, m) := by
  have hb := codeI_bd l m s (by omega) h1 hs hm
  have hsp := dec_spec l bs p (longN l 16) 0 (by omega) (by omega) (fun k hk => by
    obtain rfl : k = 0 := by omega
    simp [xv, lowF, lenCnt_zero])
  rw [show decGo l bs p (longN l 16) 0 (xv bs p 0) = decF l bs p from rfl] at hsp
  rcases hsp with ⟨j, mt, hj, a1, a15, hjm, hcode, hend, hpre, hr⟩ | ⟨k, hk, hend, hpre, hr⟩ | ⟨hend, hpre, hr⟩
  · rw [hr]
    have hbj := codeI_bd l mt j (by omega) a1 hj hjm
    rcases Nat.lt_trichotomy mt m with h | h | h
    · have := above l bs p mt (by omega) (m - mt - 1)
      rw [show mt + (m - mt - 1 + 1) = m by omega] at this
      omega
    · subst h
      rcases Nat.lt_trichotomy j s with h2 | h2 | h2
      · have := codeI_ne l mt j s (by omega) a1 h2 hs hjm hm; omega
      · subst h2; rfl
      · have := codeI_ne l mt s j (by omega) a1 h2 hj hm hjm; omega
    · have := hpre m h; omega
  · exfalso
    have := hpre m (by omega); omega
  · exfalso
    have hmL : m ≤ longN l 16 := by
      rcases Nat.lt_or_ge (longN l 16) m with h | h
      · have := longN_top l 16 m h (by omega); omega
      · exact h
    have := hpre m hmL; omega
/-- A symbol's bits. -/
def laidB (l : List Int) (s : Int) : List Int := msbF (codeI l s.toNat) (nth l s.toNat).toNat
def laidBits (l La : List Int) : List Int := La.flatMap (laidB l)
/-- Which symbols are laid. -/
def okSym (l : List Int) (s : Int) : Bool := decide (0 ≤ s) && decide (s < l.length) && decide (0 < nth l s.toNat)
def laidF (l syms : List Int) : List Int := syms.filter (okSym l)
theorem laidF_snoc (l syms : List Int) (i : Nat) (h : i < syms.length) : laidF l (syms.take (i + 1)) = laidF l (syms.take i) ++ if okSym l (nth syms i) = true then [nth syms i] else [] := by
  rw [take_snoc' syms i h]
  unfold laidF
  rw [List.filter_append]
  by_cases hk : okSym l (nth syms i) = true
  · rw [if_pos hk, List.filter_cons_of_pos hk]; rfl
  · rw [if_neg hk, List.filter_cons_of_neg hk]; rfl
theorem laidF_ok (l syms : List Int) : ∀ s ∈ laidF l syms, okSym l s = true := fun s hs => (List.mem_filter.1 hs).2
theorem laidF_len (l syms : List Int) : (laidF l syms).length ≤ syms.length := List.length_filter_le _ _
theorem okSym_of {l : List Int} {s : Int} (hok : l.all okLen = true) (h : okSym l s = true) : ∃ k m : Nat, s = k ∧ k < l.length ∧ nth l k = m ∧ 1 ≤ m ∧ m ≤ 15 ∧ laidB l s = msbF (codeI l k) m := by
  unfold okSym at h
  simp only [Bool.and_eq_true, decide_eq_true_eq] at h
  obtain ⟨k, rfl⟩ := Int.eq_ofNat_of_zero_le h.1.1
  rw [Int.toNat_natCast] at h
  have hx := List.all_eq_true.1 hok (nth l k) (by rw [nth_lt (show k < l.length by omega)]; exact List.getElem_mem _)
  unfold okLen at hx
  simp only [Bool.and_eq_true, decide_eq_true_eq] at hx
  obtain ⟨m, hm⟩ := Int.eq_ofNat_of_zero_le hx.1
  refine ⟨k, m, rfl, by omega, hm, by omega, by omega, ?_⟩
  unfold laidB
  rw [Int.toNat_natCast, hm]; rfl
theorem laid_len {l : List Int} (hok : l.all okLen = true) (La : List Int) (h : ∀ s ∈ La, okSym l s = true) : (laidBits l La).length ≤ 15 * La.length := by
  induction La with
  | nil => simp [laidBits]
  | cons s r ih =>
    obtain ⟨k, m, _, _, _, _, h15, e⟩ := okSym_of hok (h s (by simp))
    have := ih (fun x hx => h x (by simp [hx]))
    unfold laidBits at *
    rw [List.flatMap_cons, List.length_append, e, msbF_len, List.length_cons]; omega
/-- The symbols come again, one by one. -/
theorem laid_read {l : List Int} (hc : checkF l = 0) (xs La : List Int) (hLa : ∀ s ∈ La, okSym l s = true) (hwb : WB xs (laidBits l La)) (i : Nat) (hi : i < La.length) :
    ∃ m : Nat, decF l xs (laidBits l (La.take i)).length = (nth La i, 0, m) ∧ (laidBits l (La.take i)).length + m = (laidBits l (La.take (i + 1))).length := by
  have hok := (check_ok hc).2
  obtain ⟨k, m, hk, hkl, hkm, h1, h15, hb⟩ := okSym_of hok (hLa (nth La i) (by rw [nth_lt hi]; exact List.getElem_mem _))
  have e1 : laidBits l (La.take (i + 1)) = laidBits l (La.take i) ++ msbF (codeI l k) m := by
    unfold laidBits
    rw [take_snoc' La i hi, List.flatMap_append, ← hb]; simp
  have e2 : laidBits l La = laidBits l (La.take (i + 1)) ++ laidBits l (La.drop (i + 1)) := by
    unfold laidBits
    rw [← List.flatMap_append, List.take_append_drop]
  obtain ⟨p, hp⟩ : ∃ p, p = (laidBits l (La.take i)).length := ⟨_, rfl⟩
  have hlen : p + m ≤ (laidBits l La).length := by
    rw [e2, e1, List.length_append, List.length_append, msbF_len, hp]; omega
  have hT : p + m ≤ 8 * xs.length := by have := hwb.len; omega
  have hbd := codeI_bd l m k (by omega) h1 hkl hkm
  have hkr := kraft_le hc m h15
  have hl0 := (lowF_small l (check_ok hc).1 m (by omega)).1
  have hx : xv xs p m = codeI l k := by
    have h := (pre_iff (codeI l k) m (by omega) (by omega) xs p m (Nat.le_refl _)).1 (fun t ht => by
      rw [hwb.bit (p + t) (by omega), e2, e1]
      have h2 : p + t < (laidBits l (La.take i) ++ msbF (codeI l k) m).length := by rw [List.length_append, msbF_len]; omega
      rw [nth_append_left _ _ _ h2, hp]
      exact (nth_append_right _ _ _).symm)
    rw [Nat.sub_self, Int.pow_zero, Int.ediv_one] at h
    exact h.symm
  refine ⟨m, ?_, ?_⟩
  · rw [← hp, dec_hit hc xs p k m hkl h1 h15 hkm hT hx, hk]
  · rw [e1, List.length_append, msbF_len]

theorem codesF_err2 (l : List Int) : (codesF l).2 = checkF l := by
  unfold codesF
  by_cases h : checkF l = 0
  · rw [if_pos h, h]
  · rw [if_neg h]
theorem own_i64 {w : World} {base size n : Nat} {v : Value} {xs : List Value} (h : w.ownsRow base 3 size v n xs) : ∀ k, v.ownBlock = some k → ¬ U8 w k := by
  intro k hk ⟨cur, fr, hc⟩
  rcases h.2 with ⟨rfl, _⟩ | ⟨g, cap, cur2, rfl, _, hh, _⟩
  · cases hk
  · obtain rfl := Option.some.inj hk
    rw [hh] at hc
    injection hc with hc
    injection hc with _ h2 _
    exact absurd h2 (by decide)
theorem own_pt {w w' : World} {g n : Nat} {v : Value} {xs : List Value} (h : w.ownsRow (g + 1) 3 1 v n xs) (hp : PT g w w') : w'.ownsRow (g + 1) 3 1 v n xs := by
  have hu := own_i64 h
  obtain ⟨h1, h2⟩ := h
  refine ⟨h1, ?_⟩
  rcases h2 with h2 | ⟨b, cap, cur, hv, hb, hh, r⟩
  · exact Or.inl h2
  · refine Or.inr ⟨b, cap, cur, hv, hb, ?_, r⟩
    rw [hp.same b (Array.getElem?_eq_some_iff.1 hh).1 (by omega) (hu b (by rw [hv]; rfl)), hh]
theorem Wtr.grown {w w' : World} {g : Nat} {bl : List Int} {row : Option Nat} (h : Wtr w g bl) (hg : w.grownBy w' row) (hr : ∀ k, row = some k → g + 1 ≤ k ∧ ¬ U8 w k) : Wtr w' g bl := by
  obtain ⟨xs, v, n, h0, h1, h2, h3⟩ := h
  refine ⟨xs, v, n, h0, (hg.block g h1.lt (fun e => by have := (hr g e.symm).1; omega)).trans h1, h2.kept hg ?_, h3⟩
  by_cases hv : v.ownBlock = none
  · exact Or.inl hv
  · refine Or.inr fun e => ?_
    obtain ⟨k, hk⟩ := Option.ne_none_iff_exists'.1 hv
    exact (hr k (by rw [← e, hk])).2 (own_u8 h2 k hk)
theorem codes_at {l : List Int} (hc : checkF l = 0) : (codesF l).1.length = l.length ∧ ∀ k m : Nat, k < l.length → nth l k = m → 1 ≤ m → nth (codesF l).1 k = revF (codeI l k) m := by
  have e : (codesF l).1 = outL l l.length := by unfold codesF; rw [if_pos hc]
  rw [e]
  refine ⟨outL_len l _, fun k m hk hm h1 => ?_⟩
  unfold outL
  rw [nth_map_range _ _ _ hk, if_pos ⟨hk, by omega⟩, hm]; rfl
set_option maxRecDepth 100000 in
set_option maxHeartbeats 4000000 in
theorem huffRound_walk (w : World) (A : Option Addr) (n c : Nat) (l : List Int) (A2 : Option Addr) (m c2 : Nat) (sy : List Int) (hl : RI .i64 w A n l) (hm : n ≤ maxLen) (hnil : A = none → n = 0 ∧ c = 0) (hwf : ∀ x ∈ l, (Lit.int .i64 x).wf = true)
    (hs : RI .i64 w A2 m sy) (hm2 : m ≤ maxLen) (hnil2 : A2 = none → m = 0 ∧ c2 = 0) (hwf2 : ∀ x ∈ sy, (Lit.int .i64 x).wf = true) :
    Calls Try.prog 8 #[.slice A n c, .slice A2 m c2] w fun e w' => e = .returned (.bool true) ∧ Keeps [] w w' := by
  have HL := Lib.hid hl
  have HLL := Lib.hid hl.len
  have HS := Lib.hid hs
  have HSL := Lib.hid hs.len
  clear hl hnil hwf hs hnil2 hwf2
  go_enter Try.func8, Try.ntmps8
  by_cases hbig : 5000 < n
  · have e1 : decide (5000 < n) = true := by simpa using hbig
    have e2 : decide ((5000 : Int) < (n : Int)) = true := by simp; omega
    go_wp2_with fail
    go_ret
    exact ⟨rfl, Keeps.refl _ _⟩
  have e1 : decide (5000 < n) = false := by simpa using hbig
  have e2 : decide ((5000 : Int) < (n : Int)) = false := by simp; omega
  by_cases hbig2 : 5000 < m
  · have e3 : decide (5000 < m) = true := by simpa using hbig2
    have e4 : decide ((5000 : Int) < (m : Int)) = true := by simp; omega
    go_wp2_with fail
    go_ret
    exact ⟨rfl, Keeps.refl _ _⟩
  have e3 : decide (5000 < m) = false := by simpa using hbig2
  have e4 : decide ((5000 : Int) < (m : Int)) = false := by simp; omega
  have hn3 : n ≤ 140737488355328 := by omega
  go_wp2_with fail
  refine (codes_calls _ _ _ _ l HL.out hn3).mono ?_
  rintro _ w1 ⟨v1, rfl, ho1, hb1⟩
  have hk1 := Keeps.of_below hb1 (S := [])
  have HL1 := Lib.hid (HL.out.keeps hk1 (off_nil _))
  have K1 := Lib.hid hk1
  have HO1 := Lib.hid ho1
  clear hb1 hk1 ho1
  rw [codesF_err2]
  go_wp2_with fail
  refine (new_calls _ _ _ _ l HL1.out hn3).mono ?_
  rintro e w2 ⟨hb2, hmade⟩
  have hk2 := Keeps.of_below hb2 (S := [])
  have K2 := Lib.hid (K1.out.trans hk2)
  have HO2 := Lib.hid (own_keeps HO1.out hk2 (by simp))
  clear hb2 hk2 HL1 HO1 K1
  by_cases hc : checkF l = 0
  · rw [if_pos hc] at hmade
    obtain ⟨g, rfl, hd, hg⟩ := hmade
    have HC := Lib.hid hc
    have HD := Lib.hid hd.top
    have hok := check_ok hc
    have hn288 : n ≤ 288 := by rw [← HLL.out]; exact hok.1
    have HOK := Lib.hid hok.2
    obtain ⟨hcl, hcat⟩ := codes_at hc
    have HCA := Lib.hid hcat
    obtain ⟨AC, cc, rfl, hcr, _, _⟩ := own_ri HO2.out
    rw [hcl, HLL.out] at hcr ⊢
    have HCR := Lib.hid hcr
    rw [hc]
    generalize (codesF l).1 = cd at *
    clear hd hg hok hc hcl hcat hcr HO2
    obtain ⟨gw, hgw⟩ : ∃ x, x = w2.heap.size := ⟨_, rfl⟩
    go_wp2_with fail
    refine (newWriter_calls _).mono ?_
    rintro _ w3 ⟨rfl, hw3, hb3⟩
    rw [← hgw] at hw3 HD ⊢
    have HW3 := Lib.hid hw3
    have K3 := Lib.hid (Keeps.of_below hb3 (S := []))
    have HGW := Lib.hid hgw
    clear hw3 hb3 hgw
    go_wp2_with fail
    go_loopw [10, 11] (fun lv iv wr => ∃ (i k : Nat) (AL : Option Addr) (cL : Nat), i ≤ m ∧ k ≤ i ∧ iv = .int .i64 i ∧ lv = .slice AL k cL ∧ Hid (wr.ownsRow (gw + 1) 3 1 (.slice AL k cL) k (ints .i64 (laidF l (sy.take i)))) ∧ Hid (Wtr wr gw (laidBits l (laidF l (sy.take i)))) ∧ Hid (Keeps [] w2 wr)) (fun _ iv _ => m - (intOf iv).toNat)
    case atStart => exact ⟨0, 0, none, 0, by omega, by omega, rfl, rfl, Lib.hid (World.ownsRow_nil _ _ _ _), HW3, K3⟩
    case round =>
      clear HW3 K3
      obtain ⟨i, k, AL, cL, hi, hki, rfl, rfl, HLA, HW, HK⟩ := hrel
      by_cases hlt : i < m
      · have e5 : decide (i < m) = true := by simpa using hlt
        obtain ⟨sb, so, hsa, hsc⟩ := (HS.out.keeps (K2.out.trans HK.out) (off_nil _)).at hlt
        subst hsa
        have HSN := Lib.hid (laidF_snoc l sy i (by rw [HSL.out]; exact hlt))
        obtain ⟨s, hs⟩ : ∃ s, s = nth sy i := ⟨_, rfl⟩
        rw [← hs] at HSN hsc
        clear hs
        by_cases hs0 : 0 ≤ s
        · obtain ⟨q, rfl⟩ := Int.eq_ofNat_of_zero_le hs0
          have e6 : decide (0 ≤ (q : Int)) = true := by simp
          by_cases hqn : q < n
          · have e7 : decide ((q : Int) < (n : Int)) = true := by simp; omega
            obtain ⟨lb, lo, hla, hlc⟩ := (HL.out.keeps (K2.out.trans HK.out) (off_nil _)).at hqn
            subst hla
            by_cases hlq : 0 < nth l q
            · have e8 : decide (0 < nth l q) = true := by simpa using hlq
              have hoks : okSym l (q : Int) = true := by unfold okSym; simp; exact ⟨by rw [HLL.out]; exact hqn, hlq⟩
              obtain ⟨q', M, hq', hq1, hq2, hM1, hM15, hlb⟩ := okSym_of HOK.out hoks
              obtain rfl : q = q' := by omega
              have hcdq := HCA.out q M hq1 hq2 hM1
              obtain ⟨xb, xo, hxa, hxc⟩ := (HCR.out.keeps HK.out (off_nil _)).at hqn
              subst hxa
              rw [hcdq] at hxc
              rw [if_pos hoks] at HSN
              have hrb := revF_bd (codeI l q) M
              have hp16 := pow16 M (by omega)
              have HVB : Hid (vbits (revF (codeI l q) M) M = laidB l (q : Int)) := Lib.hid (by rw [vbits_rev, hlb])
              have HX0 : Hid (revF (codeI l q) M / 2 ^ M = 0) := Lib.hid (Int.ediv_eq_zero_of_lt hrb.1 hrb.2)
              rw [hq2] at hlc e8
              have hx0 := hrb.1
              have hx1 : revF (codeI l q) M < 4294967296 := by omega
              clear hrb hp16 hlb hcdq hq' hoks hlq
              generalize revF (codeI l q) M = x at *
              have HLK : Hid ((laidF l (sy.take i)).length = k) := Lib.hid (by have := HLA.out.1; simpa [ints] using this)
              have HBB : Hid ((laidBits l (laidF l (sy.take i))).length ≤ 100000000) := Lib.hid (by have := laid_len HOK.out (laidF l (sy.take i)) (laidF_ok l _); rw [HLK.out] at this; omega)
              have HLB : Hid (laidBits l (laidF l (sy.take (i + 1))) = laidBits l (laidF l (sy.take i)) ++ vbits x M) := Lib.hid (by rw [HSN.out, HVB.out]; unfold laidBits; rw [List.flatMap_append]; simp)
              have s1 : IntKind.i64.wrap (q : Int) = (q : Int) := IntWalk.i64_in _ (by omega)
              have s2 : (0 : Int) ≤ (q : Int) := by omega
              have s3 : (q : Int) < (n : Int) := by omega
              generalize laidF l (sy.take i) = La at *
              go_wp2_with fail
              go_still_tail 9, (by kernel_rfl)
              change wpList _ _ _ _ _ wr.drew
              have hdr := (Keeps.refl [] wr).drew
              have HWd := Lib.hid (HW.out.keeps hdr (by simp))
              have HLd := Lib.hid HLA.out.drew
              have HKd := Lib.hid (HK.out.trans hdr)
              clear hdr HW HLA HK hsc hlc hxc
              go_wp2_with fail
              refine (put_calls _ _ _ x M HWd.out hx0 hx1 (by omega) HX0.out HBB.out).mono ?_
              rintro _ w4 ⟨rfl, hw4, hb4, hp4⟩
              have HW4 := Lib.hid hw4
              have HL4 := Lib.hid (own_pt HLd.out hp4)
              have HK4 : Hid (Keeps [] w2 w4) := Lib.hid (Keeps.of_below (HKd.out.below.trans (by rw [← HGW.out]; exact hb4)))
              have hlt4 := hw4.lt
              clear hw4 hb4 hp4 HWd HLd HKd
              have HOA : Hid ((w4.alloc (.cells #[.int .i64 (q : Int)] 3)).ownsRow (gw + 1) 3 1 (.slice AL k cL) k (ints .i64 La)) := Lib.hid (own_keeps HL4.out ((Keeps.refl [] w4).alloc _) (by simp))
              have HRI : Hid (RI .i64 (w4.alloc (.cells #[.int .i64 (q : Int)] 3)) (some ⟨w4.heap.size, 0, none⟩) 1 [(q : Int)]) := Lib.hid (ri_one2 w4 .i64 3 q)
              have HWA := Lib.hid (HW4.out.keeps ((Keeps.refl [] w4).alloc (.cells #[.int .i64 (q : Int)] 3)) (by simp))
              have HKA := Lib.hid (HK4.out.alloc (.cells #[.int .i64 (q : Int)] 3))
              clear HW4 HL4 HK4
              go_wp2_with (at_builtin; refine app_ints rfl (.tmp 83) (.tmp 85) rfl (gw + 1) _ _ _ rfl (by exact HOA.out) _ 1 1 [(q : Int)] rfl (by exact HRI.out) (by simp) (by simp) (by omega) ?c4 ?_)
              case c4 => simp; omega
              intro v5 w5 ho5 hg5
              obtain ⟨A5, c5, rfl, -⟩ := own_arg ho5
              have HW5 := Lib.hid (HWA.out.grown hg5 (fun k hk => ⟨(HOA.out.lt k hk).1, own_i64 HOA.out k hk⟩))
              have HK5 := Lib.hid (HKA.out.grown hg5 (fun k hk => Or.inr (by have := (HOA.out.lt k hk).1; have := HGW.out; omega)))
              have HO5 := Lib.hid ho5
              clear ho5 hg5 HOA HRI HWA HKA
              go_wp2_with fail
              go_roundw
              case rel => exact ⟨i + 1, k + 1, A5, c5, by omega, by omega, by go_num, rfl, by rw [HSN.out]; exact HO5, by rw [HLB.out]; exact HW5, HK5⟩
              case measure => simp [intOf]; omega
            · have e8 : decide (0 < nth l q) = false := by simpa using hlq
              have hoks : ¬ okSym l (q : Int) = true := by unfold okSym; simp; intro _; omega
              rw [if_neg hoks, List.append_nil] at HSN
              clear hoks
              go_wp2_with fail
              go_roundw
              case rel => exact ⟨i + 1, k, AL, cL, by omega, by omega, by go_num, rfl, by rw [HSN.out]; exact HLA, by rw [HSN.out]; exact HW, HK⟩
              case measure => simp [intOf]; omega
          · have e7 : decide ((q : Int) < (n : Int)) = false := by simp; omega
            have hoks : ¬ okSym l (q : Int) = true := by unfold okSym; simp; intro h; have := HLL.out; omega
            rw [if_neg hoks, List.append_nil] at HSN
            clear hoks
            go_wp2_with fail
            go_roundw
            case rel => exact ⟨i + 1, k, AL, cL, by omega, by omega, by go_num, rfl, by rw [HSN.out]; exact HLA, by rw [HSN.out]; exact HW, HK⟩
            case measure => simp [intOf]; omega
        · have e6 : decide (0 ≤ s) = false := by simpa using hs0
          have hoks : ¬ okSym l s = true := by unfold okSym; simp; omega
          rw [if_neg hoks, List.append_nil] at HSN
          clear hoks
          go_wp2_with fail
          go_roundw
          case rel => exact ⟨i + 1, k, AL, cL, by omega, by omega, by go_num, rfl, by rw [HSN.out]; exact HLA, by rw [HSN.out]; exact HW, HK⟩
          case measure => simp [intOf]; omega
      · obtain rfl : i = m := by omega
        have e5 : decide (i < i) = false := by simp
        have htk : sy.take i = sy := List.take_of_length_le (by have := HSL.out; omega)
        rw [htk] at HLA HW
        clear htk
        have HLK : Hid ((laidF l sy).length = k) := Lib.hid (by have := HLA.out.1; simpa [ints] using this)
        have HLO : Hid (∀ s ∈ laidF l sy, okSym l s = true) := Lib.hid (laidF_ok l sy)
        generalize laidF l sy = La at *
        have HBB : Hid ((laidBits l La).length ≤ 75000) := Lib.hid (by have := laid_len HOK.out La HLO.out; rw [HLK.out] at this; omega)
        obtain ⟨AL', cL', hv', hlri, -, hlb⟩ := own_ri HLA.out
        injection hv' with hv1 hv2 hv3
        subst hv1
        subst hv3
        have HLR := Lib.hid hlri
        have HDr := Lib.hid (HD.out.keeps HK.out (by simp))
        have HSZ : Hid (gw < wr.heap.size) := Lib.hid HW.out.lt
        have HKW := Lib.hid (K2.out.trans HK.out)
        have HLX : Hid (∀ a, AL = some a → a.block < wr.heap.size) := Lib.hid (fun a ha => (hlb a ha).2.1)
        clear hlri hlb HLA HD HK HCR HCA HGW
        go_wp2_with fail
        refine (bytes_calls _ _ _ HW.out (by have := HBB.out; omega)).mono ?_
        rintro _ w4 ⟨n4, xs, rfl, hr4, hwb4, hb4⟩
        have hk4 := Keeps.of_below hb4 (S := [])
        have HX4 := Lib.hid hr4
        have HWB := Lib.hid hwb4
        have HL4 := Lib.hid (HLR.out.keeps hk4 (off_nil _))
        have HD4 := Lib.hid (HDr.out.keeps hk4 (by simp))
        have HK4 := Lib.hid (HKW.out.trans hk4)
        have HS4 : Hid (wr.heap.size ≤ w4.heap.size) := Lib.hid hk4.size
        have hn4 : n4 ≤ 10000 := by rw [← hr4.len, hwb4.len]; have := HBB.out; omega
        clear hr4 hwb4 hb4 hk4 HLR HDr HKW HW
        go_wp2_with fail
        refine (newReader_calls _ _ _ _ xs HX4.out (by simp) HWB.out.byte (by omega)).mono ?_
        rintro _ w5 ⟨gr, A5, c5, rfl, hr5, hg5, ha5, hb5⟩
        have hk5 := Keeps.of_below hb5 (S := [])
        have HR5 := Lib.hid hr5
        have HL5 := Lib.hid (HL4.out.keeps hk5 (off_nil _))
        have HD5 := Lib.hid (HD4.out.keeps hk5 (by simp))
        have HK5 := Lib.hid (HK4.out.trans hk5)
        have HGR : Hid (gw ≤ gr) := Lib.hid (by have := HS4.out; have := HSZ.out; omega)
        have HOF : Hid (Off [gr] AL) := Lib.hid (fun a ha hmm => by have := HLX.out a ha; rw [List.mem_singleton.1 hmm] at this; have := HS4.out; omega)
        have HWG : Hid (w.heap.size ≤ gr) := Lib.hid (by have := HK4.out.size; omega)
        have HXL : Hid (xs.length = ((laidBits l La).length + 7) / 8) := Lib.hid HWB.out.len
        have HRD : Hid (∀ j, j < k → ∃ M : Nat, decF l xs (laidBits l (La.take j)).length = (nth La j, 0, M) ∧ (laidBits l (La.take j)).length + M = (laidBits l (La.take (j + 1))).length) := Lib.hid (fun j hj => laid_read HC.out xs La HLO.out HWB.out j (by rw [HLK.out]; exact hj))
        clear hr5 hg5 ha5 hb5 hk5 HL4 HD4 HK4 HS4 HSZ HX4 HLX HWB
        have hl288 : Hid (l.length ≤ 288) := Lib.hid (by rw [HLL.out]; exact hn288)
        have HR0 : Hid (Rdr w5 gr A5 c5 xs (laidBits l (La.take 0)).length) := Lib.hid HR5.out
        clear HR5
        go_wp2_with fail
        go_loopw [14] (fun jv wx => ∃ j : Nat, j ≤ k ∧ jv = .int .i64 j ∧ Hid (Rdr wx gr A5 c5 xs (laidBits l (La.take j)).length) ∧ Hid (DecT wx g gw l) ∧ Hid (RI .i64 wx AL k La) ∧ Hid (Keeps [] w wx)) (fun jv _ => k - (intOf jv).toNat)
        case atStart => exact ⟨0, by omega, rfl, HR0, HD5, HL5, HK5⟩
        case round =>
          clear HR0 HD5 HL5 HK5
          obtain ⟨j, hj, rfl, HR5, HD5, HL5, HK5⟩ := hrel
          by_cases hjk : j < k
          · have e6 : decide (j < k) = true := by simpa using hjk
            obtain ⟨M, hM1, hM2⟩ := HRD.out j hjk
            have HM1 := Lib.hid hM1
            have HM2 := Lib.hid hM2
            clear hM1 hM2
            go_wp2_with fail
            refine (next_calls _ _ _ _ l _ _ xs _ HD5.out HR5.out HGR.out hl288.out).mono ?_
            rintro _ w8 ⟨rfl, hr8, hk8⟩
            rw [HM1.out] at hr8 ⊢
            have hin : ∀ x ∈ [gr], gw ≤ x := fun x hx => by rw [List.mem_singleton.1 hx]; exact HGR.out
            have HD8 := Lib.hid (HD5.out.keeps hk8 hin)
            have HL8 := Lib.hid (HL5.out.keeps hk8 HOF.out)
            have HK8 := Lib.hid (HK5.out.then hk8 (fun x hx => Or.inr (by rw [List.mem_singleton.1 hx]; exact HWG.out)))
            have HR8 : Hid (Rdr w8 gr A5 c5 xs (laidBits l (La.take (j + 1))).length) := Lib.hid (by rw [← HM2.out]; exact hr8)
            clear hr8 hk8 hin HD5 HL5 HK5 HR5 HM1 HM2
            obtain ⟨ab, ao, haa, hac⟩ := HL8.out.at hjk
            subst haa
            generalize nth La j = s at *
            go_wp2_with fail
            go_roundw
            case rel => exact ⟨j + 1, by omega, by go_num, HR8, HD8, HL8, HK8⟩
            case measure => simp [intOf]; omega
          · obtain rfl : j = k := by omega
            have e6 : decide (j < j) = false := by simp
            have htk : La.take j = La := List.take_of_length_le (by have := HLK.out; omega)
            rw [htk] at HR5
            clear htk HRD
            go_wp2_with fail
            refine (awake3_calls _).mono ?_
            rintro _ w8 ⟨rfl, hk8⟩
            have HR8 := Lib.hid (HR5.out.dr hk8)
            have HK8 := Lib.hid (HK5.out.trans hk8)
            clear hk8 HR5 HK5
            go_wp2_with fail
            refine (left_calls _ _ _ _ _ _ HR8.out).mono ?_
            rintro _ w9 ⟨rfl, hd9⟩
            have HK9 := Lib.hid (HK8.out.trans (hd9.keeps (S := [])))
            have hle : 8 * xs.length - (laidBits l La).length < 8 := by rw [HXL.out]; omega
            generalize 8 * xs.length - (laidBits l La).length = z at *
            have e7 : decide (z < 8) = true := by simpa using hle
            have e8 : decide ((z : Int) < 8) = true := by simp; omega
            clear hd9 HR8 HK8
            go_wp2_with fail
            go_ret
            exact ⟨rfl, HK9.out⟩
  · rw [if_neg hc] at hmade
    subst hmade
    have HC : Hid ((checkF l != 0) = true) := Lib.hid (by simpa using hc)
    have hcx : (checkF l != 0) = true := HC.out
    obtain ⟨A', c', rfl⟩ := own_form' HO2.out
    clear HO2 hc
    generalize checkF l = er at *
    generalize (codesF l).1.length = nn at *
    go_wp2_with fail
    refine (awake3_calls _).mono ?_
    rintro e w5 ⟨rfl, hk5⟩
    have K5 := Lib.hid (K2.out.trans hk5)
    clear hk5
    go_wp2_with fail
    go_ret
    exact ⟨rfl, K5.out⟩
end Go.Proofs.Ytcblibefmclloaa
