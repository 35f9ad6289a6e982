import Derived.Test.YtkpabdjniiepkaaDoorDNilF
import Derived.Test.YtkpabdjniiepkaaDoorChecked
import Derived.Lib.Strings
import Derived.Lib.Slices
import Derived.Lib.Small
import Derived.Lib.Walk
import Derived.Lib.BitFns
import Derived.Test.YtkpabdjniiepkaaDoorDNilA
import Derived.BigQuiet
import Derived.Test.YtkpabdjniiepkaaDoorDNilE
import Derived.Test.YtkpabdjniiepkaaDoorDNilB
import Derived.Deep.Onto
import Derived.Deep.RegionLaw
set_option linter.unusedVariables false
set_option linter.unusedSimpArgs false
/-! Plain: what a check of tokens says; the counts of tokens, and codes of their own. -/
namespace Go.Proofs.YtkpabdjniiepkaaDoor
def checkT : List Tok → Nat → Int
  | [], _ => 0
  | t :: ts, s => if mayT t s = false then 60 else if 16384 < s + max 1 t.2.1.toNat then 2 else checkT ts (s + max 1 t.2.1.toNat)
theorem checkT_expand : ∀ (ts : List Tok) (out : List Int), (expandF 16384 ts out).2 = checkT ts out.length
  | [], out => rfl
  | t :: ts, out => by
    rw [expandF, checkT]
    by_cases hm : mayT t out.length = false
    · rw [if_pos hm, if_pos hm]
    · rw [if_neg hm, if_neg hm]
      by_cases hb : 16384 < out.length + max 1 t.2.1.toNat
      · rw [if_pos hb, if_pos hb]
      · rw [if_neg hb, if_neg hb, checkT_expand ts, tokT_len t out (may_nn (by simpa using hm))]
theorem expand_le {most : Nat} : ∀ (ts : List Tok) (out : List Int), out.length ≤ most → (expandF most ts out).1.length ≤ most
  | [], out, h => h
  | t :: ts, out, h => by
    rw [expandF]
    split
    · simp
    · next hm =>
      split
      · simp
      · next hb => exact expand_le ts _ (by rw [tokT_len t out (may_nn (by simpa using hm))]; omega)
theorem check_many {ts : List Tok} (h : checkT ts 0 = 0) : ts.length ≤ 16384 := by
  have e := checkT_expand ts []
  rw [show ([] : List Int).length = 0 from rfl, h] at e
  have := expand_grow ts [] e
  have := expand_le (most := 16384) ts [] (by simp)
  simp at *; omega
/-! Counts, and codes of their own. -/
def litS (t : Tok) : Int := if t.2.1 = 0 then (t.1.toNat : Int) else (lsym t.2.1.toNat : Int)
def distS (t : Tok) : List Int := if t.2.1 = 0 then [] else [(dsym t.2.2.toNat : Int)]
def litC (ts : List Tok) : List Int := cntF 286 ([256] ++ ts.map litS)
def distC (ts : List Tok) : List Int := cntF 30 (ts.flatMap distS)
theorem distS_len : ∀ ts : List Tok, (ts.flatMap distS).length ≤ ts.length
  | [] => by simp
  | t :: ts => by
    have := distS_len ts
    rw [List.flatMap_cons, List.length_append, List.length_cons]
    have : (distS t).length ≤ 1 := by unfold distS; split <;> simp
    omega
theorem cnt_ok (N : Nat) (S : List Int) (h1 : 1 ≤ N) (hN : N ≤ 288) (hS : S.length ≤ 1000000) :
    limF (cntF N S) 15 = (limLens (cntF N S) 15, 0) ∧ (limLens (cntF N S) 15).length = N ∧ (∀ i, i < N → (0 < nth (limLens (cntF N S) 15) i ↔ (i : Int) ∈ S) ∧ 0 ≤ nth (limLens (cntF N S) 15) i ∧ nth (limLens (cntF N S) 15) i ≤ 15) ∧ ((∃ i : Nat, i < N ∧ (i : Int) ∈ S) → checkF (limLens (cntF N S) 15) = 0) := by
  have hl : (cntF N S).length = N := cntF_len N S
  have hb : (cntF N S).any badCount = false := by
    rw [List.any_eq_false]
    intro x hx
    obtain ⟨i, hi, rfl⟩ := List.mem_iff_getElem.1 hx
    have := cnt_bd N S i (by rw [hl] at hi; exact hi)
    rw [nth_lt hi] at this
    unfold badCount
    simp only [Bool.or_eq_true, decide_eq_true_eq]; omega
  have ht : (leavesF (cntF N S) 0).length ≤ 2 ^ 15 := by
    have := (leaves_bd (cntF N S) hb 0).2.2.2.1
    rw [hl] at this
    have : (2 : Nat) ^ 15 = 32768 := rfl
    omega
  have hc : ∀ i, i < N → (0 < nth (cntF N S) i ↔ (i : Int) ∈ S) := fun i hi => by
    rw [cntF_nth N S i hi, ← List.count_pos_iff]; omega
  refine ⟨?_, by rw [limLens, cntF_len, hl], fun i hi => ?_, ?_⟩
  · unfold limF
    rw [if_neg (by rw [hl]; omega), if_neg (by simp [hb]), if_neg (by show ¬ 2 ^ 15 < _; omega)]; rfl
  · have h := lim_each (cntF N S) 15 (by omega) (by omega) hb ht i (by rw [hl]; exact hi)
    exact ⟨h.1.trans (hc i hi), h.2⟩
  · rintro ⟨i, hi, hm⟩
    refine check_all (cntF N S) 15 (by omega) (by rw [hl]; omega) (by rw [hl]; omega) hb ht ?_
    have hm2 : nth (cntF N S) i ∈ (cntF N S).filter (fun x => decide (0 < x)) := by
      refine List.mem_filter.2 ⟨?_, by simpa using (hc i hi).2 hm⟩
      rw [nth_lt (by rw [hl]; exact hi)]
      exact List.getElem_mem _
    have : 0 < usedF (cntF N S) := by unfold usedF; exact List.length_pos_of_mem hm2
    omega
def dynLit (ts : List Tok) : List Int := limLens (litC ts) 15
def dynDist (ts : List Tok) : List Int := limLens (distC ts) 15
theorem litS_range {t : Tok} (h1 : 0 ≤ t.1 ∧ t.1 ≤ 255) (h2 : t.2.1 ≠ 0 → 3 ≤ t.2.1 ∧ t.2.1 ≤ 258 ∧ 1 ≤ t.2.2 ∧ t.2.2 ≤ 32768) : ∃ s : Nat, litS t = s ∧ s < 286 := by
  unfold litS
  split
  · exact ⟨_, rfl, by omega⟩
  · next h0 =>
    obtain ⟨a, b, -⟩ := h2 h0
    obtain ⟨-, c, -⟩ := len_tab t.2.1.toNat (by omega) (by omega)
    exact ⟨_, rfl, by omega⟩
theorem dyn_codable {M : Nat} {ts : List Tok} (hl : LitOk ts) (hex : (expandF M ts []).2 = 0) (hn : ts.length ≤ 16384) :
    Codable (dynLit ts) (dynDist ts) ∧ (∀ t ∈ ts, TokOk (dynLit ts) (dynDist ts) t) ∧ limF (litC ts) 15 = (dynLit ts, 0) ∧ limF (distC ts) 15 = (dynDist ts, 0) ∧ (dynLit ts).length = 286 ∧ (dynDist ts).length = 30 := by
  have hd := distS_len ts
  obtain ⟨l1, l2, l3, l4⟩ := cnt_ok 286 ([256] ++ ts.map litS) (by omega) (by omega) (by simp; omega)
  obtain ⟨d1, d2, d3, d4⟩ := cnt_ok 30 (ts.flatMap distS) (by omega) (by omega) (by omega)
  have hlc : checkF (dynLit ts) = 0 := l4 ⟨256, by omega, by simp⟩
  have tl : ∀ s : Nat, s < 286 → (s : Int) ∈ [256] ++ ts.map litS → Tells (dynLit ts) s := fun s hs hm => by
    obtain ⟨a, b, c⟩ := l3 s hs
    have := a.2 hm
    exact ⟨by show s < (limLens _ 15).length; unfold litC; rw [l2]; exact hs, this, c⟩
  have td : ∀ s : Nat, s < 30 → (s : Int) ∈ ts.flatMap distS → Tells (dynDist ts) s := fun s hs hm => by
    obtain ⟨a, b, c⟩ := d3 s hs
    have := a.2 hm
    exact ⟨by show s < (limLens _ 15).length; unfold distC; rw [d2]; exact hs, this, c⟩
  have mem_b : ∀ (l : List Int) (N : Nat), l.length = N → (∀ i, i < N → 0 ≤ nth l i ∧ nth l i ≤ 15) → ∀ x ∈ l, 0 ≤ x ∧ x ≤ 15 := fun l N hN hi x hx => by
    obtain ⟨i, hi2, rfl⟩ := List.mem_iff_getElem.1 hx
    have := hi i (by omega)
    rwa [nth_lt hi2] at this
  refine ⟨⟨⟨by show 257 ≤ (limLens _ 15).length; unfold litC; omega, by show (limLens _ 15).length ≤ 286; unfold litC; omega, by show 1 ≤ (limLens _ 15).length; unfold distC; omega, by show (limLens _ 15).length ≤ 30; unfold distC; omega, mem_b _ 286 l2 (fun i hi => (l3 i hi).2), mem_b _ 30 d2 (fun i hi => (d3 i hi).2)⟩, hlc, ?_, tl 256 (by omega) (by simp)⟩, ?_, l1, d1, l2, d2⟩
  · intro hu
    unfold anyUsed at hu
    rw [List.any_eq_true] at hu
    obtain ⟨x, hx, hx0⟩ := hu
    obtain ⟨i, hi, rfl⟩ := List.mem_iff_getElem.1 hx
    have hi2 : i < 30 := by have : (dynDist ts).length = 30 := d2; omega
    have h0 : 0 < nth (dynDist ts) i := by rw [nth_lt hi]; simpa using hx0
    exact d4 ⟨i, hi2, (d3 i hi2).1.1 h0⟩
  · intro t ht
    obtain ⟨a, b⟩ := hl t ht
    have hr := expand_toks ts [] hex t ht
    obtain ⟨s, hs, hs2⟩ := litS_range ⟨a, b⟩ hr
    have hm : litS t ∈ [256] ++ ts.map litS := List.mem_append.2 (.inr (List.mem_map.2 ⟨t, ht, rfl⟩))
    refine ⟨fun h0 => ⟨a, b, ?_⟩, fun h0 => ?_⟩
    · have e : litS t = (t.1.toNat : Int) := if_pos h0
      rw [e] at hm
      exact tl _ (by omega) hm
    · have e : litS t = (lsym t.2.1.toNat : Int) := if_neg h0
      have e2 : distS t = [(dsym t.2.2.toNat : Int)] := if_neg h0
      obtain ⟨c1, c2, c3, c4⟩ := hr h0
      obtain ⟨f1, f2, -⟩ := len_tab t.2.1.toNat (by omega) (by omega)
      obtain ⟨g1, -⟩ := dist_tab t.2.2.toNat (by omega) (by omega)
      rw [e] at hm
      have hmd : (dsym t.2.2.toNat : Int) ∈ ts.flatMap distS := List.mem_flatMap.2 ⟨t, ht, by rw [e2]; simp⟩
      exact ⟨tl _ (by omega) hm, td _ (by omega) hmd, d4 ⟨_, by omega, hmd⟩⟩
theorem dsym_range {d : Int} (h1 : 1 ≤ d) (h2 : d ≤ 32768) : dsym d.toNat < 30 := by
  obtain ⟨g1, -⟩ := dist_tab d.toNat (by omega) (by omega)
  omega
/-- Bits of tokens. -/
theorem tokB_len {lit dist : List Int} {t : Tok} (h : TokOk lit dist t) (hr : t.2.1 ≠ 0 → 3 ≤ t.2.1 ∧ t.2.1 ≤ 258 ∧ 1 ≤ t.2.2 ∧ t.2.2 ≤ 32768) : (tokB lit dist t).length ≤ 48 := by
  obtain ⟨a, b⟩ := h
  unfold tokB
  split
  · next h0 => have := (tells_bits (a h0).2.2).2; omega
  · next h0 =>
    obtain ⟨c1, c2, c3, c4⟩ := hr h0
    obtain ⟨b1, b2, b3⟩ := b h0
    have := (tells_bits b1).2
    have := (tells_bits b2).2
    obtain ⟨-, -, -, -, -, f1⟩ := len_tab t.2.1.toNat (by omega) (by omega)
    obtain ⟨-, -, -, -, g1⟩ := dist_tab t.2.2.toNat (by omega) (by omega)
    unfold behB
    simp only [List.length_append, vbits_len]; omega
theorem toksB_len {lit dist : List Int} : ∀ (ts : List Tok), (∀ t ∈ ts, TokOk lit dist t) → (∀ t ∈ ts, t.2.1 ≠ 0 → 3 ≤ t.2.1 ∧ t.2.1 ≤ 258 ∧ 1 ≤ t.2.2 ∧ t.2.2 ≤ 32768) → (toksB lit dist ts).length ≤ 48 * ts.length
  | [], _, _ => by simp [toksB]
  | t :: ts, h, hr => by
    have ih := toksB_len ts (fun u hu => h u (List.mem_cons_of_mem _ hu)) (fun u hu => hr u (List.mem_cons_of_mem _ hu))
    have e : toksB lit dist (t :: ts) = tokB lit dist t ++ toksB lit dist ts := by simp [toksB]
    have := tokB_len (h t List.mem_cons_self) (hr t List.mem_cons_self)
    rw [e, List.length_append, List.length_cons]; omega
theorem toksB_snoc (lit dist : List Int) (ts : List Tok) (t : Tok) : toksB lit dist (ts ++ [t]) = toksB lit dist ts ++ tokB lit dist t := by simp [toksB]
/-! Bits say their bytes. -/
theorem WB.out_bit {xs bl : List Int} (h : WB xs bl) (i : Nat) (hi : bl.length ≤ i) : bitAt xs i = 0 := by
  unfold bitAt
  have hl := h.len
  have hb := h.byte (i / 8)
  have hz : nth xs (i / 8) < 2 ^ (i % 8) := by
    by_cases h8 : i / 8 < xs.length
    · have h1 : i / 8 = bl.length / 8 := by omega
      have h2 : bl.length % 8 ≠ 0 := by omega
      have h3 := h.top h2
      rw [h1]
      refine Int.lt_of_lt_of_le h3 ?_
      have : (2 : Nat) ^ (bl.length % 8) ≤ 2 ^ (i % 8) := Nat.pow_le_pow_right (by omega) (by omega)
      exact_mod_cast this
    · have : nth xs (i / 8) = 0 := by simp [nth, List.getD, List.getElem?_eq_none (show xs.length ≤ i / 8 by omega)]
      rw [this]; exact pow_cast _
  rw [Int.ediv_eq_zero_of_lt hb.1 hz]; rfl
theorem byte_ext {x y : Int} (hx : 0 ≤ x ∧ x ≤ 255) (hy : 0 ≤ y ∧ y ≤ 255) (h : ∀ i : Nat, i < 8 → x / 2 ^ i % 2 = y / 2 ^ i % 2) : x = y := by
  have b0 : x % 2 = y % 2 := by simpa using h 0 (by omega)
  have b1 : x / 2 % 2 = y / 2 % 2 := by simpa using h 1 (by omega)
  have b2 : x / 4 % 2 = y / 4 % 2 := by simpa using h 2 (by omega)
  have b3 : x / 8 % 2 = y / 8 % 2 := by simpa using h 3 (by omega)
  have b4 : x / 16 % 2 = y / 16 % 2 := by simpa using h 4 (by omega)
  have b5 : x / 32 % 2 = y / 32 % 2 := by simpa using h 5 (by omega)
  have b6 : x / 64 % 2 = y / 64 % 2 := by simpa using h 6 (by omega)
  have b7 : x / 128 % 2 = y / 128 % 2 := by simpa using h 7 (by omega)
  omega
theorem WB.uniq {xs ys bl : List Int} (h : WB xs bl) (k : WB ys bl) : xs = ys := by
  refine list_nth_ext (by rw [h.len, k.len]) fun j _ => ?_
  refine byte_ext (h.byte j) (k.byte j) fun i hi => ?_
  have hb : bitAt xs (8 * j + i) = bitAt ys (8 * j + i) := by
    by_cases h1 : 8 * j + i < bl.length
    · rw [h.bit _ h1, k.bit _ h1]
    · rw [h.out_bit _ (by omega), k.out_bit _ (by omega)]
  unfold bitAt at hb
  rwa [show (8 * j + i) / 8 = j by omega, show (8 * j + i) % 8 = i by omega] at hb
theorem WB.all_u8 {xs bl : List Int} (h : WB xs bl) : ∀ x ∈ xs, 0 ≤ x ∧ x ≤ 255 := fun x hx => by
  obtain ⟨i, hi, rfl⟩ := List.mem_iff_getElem.1 hx
  have := h.byte i
  rwa [nth_lt hi] at this
theorem nth_u8 {data : List Int} (hd : ∀ x ∈ data, 0 ≤ x ∧ x ≤ 255) (j : Nat) : 0 ≤ nth data j ∧ nth data j ≤ 255 := by
  by_cases h : j < data.length
  · rw [nth_lt h]; exact hd _ (List.getElem_mem _)
  · simp [nth, List.getD, List.getElem?_eq_none (show data.length ≤ j by omega)]
theorem tokens_final (data : List Int) (hd : ∀ x ∈ data, 0 ≤ x ∧ x ≤ 255) (hn : data.length ≤ 16384) : expandF 16384 (tokensF data) [] = (data, 0) ∧ LitOk (tokensF data) :=
  ⟨tokens_expand hn hn, find_lits (nth_u8 hd) _ _⟩
/-- What bytes are deflated to. -/
def lessL (a b : List Int) : List Int := if b.length < a.length then b else a
structure Defl (data xs : List Int) : Prop where
  out : ∃ f d, WB f (fixB (tokensF data)) ∧ WB d (dynB (dynLit (tokensF data)) (dynDist (tokensF data)) (tokensF data)) ∧ xs = lessL (lessL (storB 1 data) f) d
theorem Defl.uniq {data xs ys : List Int} (h : Defl data xs) (k : Defl data ys) : xs = ys := by
  obtain ⟨f, d, hf, hd, rfl⟩ := h.out
  obtain ⟨f', d', hf', hd', rfl⟩ := k.out
  rw [hf.uniq hf', hd.uniq hd']
theorem less_len (a b : List Int) : (lessL a b).length ≤ a.length ∧ (lessL a b).length ≤ b.length := by
  unfold lessL; split <;> omega
theorem Defl.len {data xs : List Int} (h : Defl data xs) : xs.length ≤ data.length + 5 ∧ ∀ f, WB f (fixB (tokensF data)) → xs.length ≤ f.length := by
  obtain ⟨f, d, hf, hd, rfl⟩ := h.out
  have h1 := less_len (lessL (storB 1 data) f) d
  have h2 := less_len (storB 1 data) f
  rw [storB_len] at h2
  exact ⟨by omega, fun f' hf' => by rw [hf'.uniq hf]; omega⟩
theorem Defl.final {data xs : List Int} (h : Defl data xs) (hd : ∀ x ∈ data, 0 ≤ x ∧ x ≤ 255) (hn : data.length ≤ 16384) : FinalOf xs data := by
  obtain ⟨f, d, hf, hdy, rfl⟩ := h.out
  obtain ⟨hx, hl⟩ := tokens_final data hd hn
  obtain ⟨c1, c2, -⟩ := dyn_codable hl (by rw [hx]) (check_many (by rw [← show (expandF 16384 (tokensF data) []).2 = checkT (tokensF data) 0 from checkT_expand _ _, hx]))
  have a1 : FinalOf (storB 1 data) data := final_stored hd (by omega)
  have a2 : FinalOf f data := final_fixed hf hl hx
  have a3 : FinalOf d data := final_dyn hdy c1 c2 hx
  have a4 : FinalOf (lessL (storB 1 data) f) data := by
    unfold lessL
    by_cases h : f.length < (storB 1 data).length
    · rw [if_pos h]; exact a2
    · rw [if_neg h]; exact a1
  obtain ⟨b, hb⟩ : ∃ b, b = lessL (storB 1 data) f := ⟨_, rfl⟩
  rw [← hb] at a4 ⊢
  unfold lessL
  by_cases h : d.length < b.length
  · rw [if_pos h]; exact a3
  · rw [if_neg h]; exact a4
end Go.Proofs.YtkpabdjniiepkaaDoor

namespace Go.Proofs.YtkpabdjniiepkaaDoor


set_option maxHeartbeats 4000000 in
set_option maxRecDepth 100000 in
/-- How many bits a number takes: off the shelf. -/
theorem bits_Len64 (x : Int) (w : World) (h0 : 0 ≤ x) (h1 : x ≤ 18446744073709551615) :
    Calls Tryd.prog 79 #[.int .u64 x] w fun e w' => e = .returned (.int .i64 (Lib.bitLen x.toNat)) ∧ w' = w := by
  go_enter Tryd.func79, Tryd.ntmps79
  go_wp2
  all_goals (go_ret; refine ⟨congrArg Ending.returned (congrArg (Value.int IntKind.i64) ?_), rfl⟩)
  all_goals first
    | (rw [Lib.len8_of (x / 4294967296 / 65536 / 256 % 256) (by omega) (by omega)]
       have e : (x / 4294967296 / 65536 / 256 % 256).toNat = x.toNat / 72057594037927936 := by omega
       have l := Lib.bitLen_le8' (x / 4294967296 / 65536 / 256 % 256) (by omega) (by omega)
       have s := Lib.bitLen_shift56 x.toNat (by omega) (by omega)
       rw [e] at l ⊢
       omega)
    | (rw [Lib.len8_of (x / 4294967296 / 65536 % 256) (by omega) (by omega)]
       have e : (x / 4294967296 / 65536 % 256).toNat = x.toNat / 281474976710656 := by omega
       have l := Lib.bitLen_le8' (x / 4294967296 / 65536 % 256) (by omega) (by omega)
       have s := Lib.bitLen_shift48 x.toNat (by omega) (by omega)
       rw [e] at l ⊢
       omega)
    | (rw [Lib.len8_of (x / 4294967296 / 256 % 256) (by omega) (by omega)]
       have e : (x / 4294967296 / 256 % 256).toNat = x.toNat / 1099511627776 := by omega
       have l := Lib.bitLen_le8' (x / 4294967296 / 256 % 256) (by omega) (by omega)
       have s := Lib.bitLen_shift40 x.toNat (by omega) (by omega)
       rw [e] at l ⊢
       omega)
    | (rw [Lib.len8_of (x / 4294967296 % 256) (by omega) (by omega)]
       have e : (x / 4294967296 % 256).toNat = x.toNat / 4294967296 := by omega
       have l := Lib.bitLen_le8' (x / 4294967296 % 256) (by omega) (by omega)
       have s := Lib.bitLen_shift32 x.toNat (by omega) (by omega)
       rw [e] at l ⊢
       omega)
    | (rw [Lib.len8_of (x / 65536 / 256 % 256) (by omega) (by omega)]
       have e : (x / 65536 / 256 % 256).toNat = x.toNat / 16777216 := by omega
       have l := Lib.bitLen_le8' (x / 65536 / 256 % 256) (by omega) (by omega)
       have s := Lib.bitLen_shift24 x.toNat (by omega) (by omega)
       rw [e] at l ⊢
       omega)
    | (rw [Lib.len8_of (x / 65536 % 256) (by omega) (by omega)]
       have e : (x / 65536 % 256).toNat = x.toNat / 65536 := by omega
       have l := Lib.bitLen_le8' (x / 65536 % 256) (by omega) (by omega)
       have s := Lib.bitLen_shift16 x.toNat (by omega) (by omega)
       rw [e] at l ⊢
       omega)
    | (rw [Lib.len8_of (x / 256 % 256) (by omega) (by omega)]
       have e : (x / 256 % 256).toNat = x.toNat / 256 := by omega
       have l := Lib.bitLen_le8' (x / 256 % 256) (by omega) (by omega)
       have s := Lib.bitLen_shift8 x.toNat (by omega) (by omega)
       rw [e] at l ⊢
       omega)
    | (rw [Lib.len8_of (x % 256) (by omega) (by omega)]
       have e : (x % 256).toNat = x.toNat := by omega
       have l := Lib.bitLen_le8' (x % 256) (by omega) (by omega)
       rw [e] at l ⊢
       omega)

end Go.Proofs.YtkpabdjniiepkaaDoor

namespace Go.Proofs.YtkpabdjniiepkaaDoor
open Go.RowKit

/-- How many bits a number takes: off the shelf. -/
theorem bits_Len (x : Int) (w : World) (h0 : 0 ≤ x) (h1 : x ≤ 18446744073709551615) :
    Calls Tryd.prog 57 #[.int .u64 x] w fun e w' => e = .returned (.int .i64 (Lib.bitLen x.toNat)) ∧ w' = w := by
  go_enter Tryd.func57, Tryd.ntmps57
  go_wp2_with (go_at_call 79; refine (bits_Len64 x _ h0 h1).mono ?_; rintro e w' ⟨rfl, rfl⟩)
  go_ret
  exact ⟨rfl, rfl⟩

end Go.Proofs.YtkpabdjniiepkaaDoor

set_option linter.unusedVariables false
set_option linter.unusedSimpArgs false
/-! The symbols of a length, of a distance. -/
namespace Go.Proofs.YtkpabdjniiepkaaDoor
open Go.RowKit
theorem bitLen_log (m : Nat) : m ≠ 0 → m < 2 ^ 64 → Lib.bitLen m = Nat.log2 m + 1 := by
  induction m using Nat.strongRecOn with
  | ind m ih =>
    intro h0 h
    rw [Lib.bitLen_half m h0 h]
    by_cases h1 : m / 2 = 0
    · obtain rfl : m = 1 := by omega
      decide
    · rw [ih (m / 2) (by omega) h1 (by omega), Nat.log2_def m, if_pos (by omega)]; omega
theorem and_pow (a k : Nat) (ha : a < 2 ^ 62) (hk : k ≤ 20) : Go.bits .and .i64 (a : Int) (((2 ^ k - 1 : Nat)) : Int) = ((a % 2 ^ k : Nat) : Int) := by
  have hp : 2 ^ k ≤ 2 ^ 20 := Nat.pow_le_pow_right (by omega) hk
  have e : Go.bits .and .i64 (a : Int) (((2 ^ k - 1 : Nat)) : Int) = ((a &&& (2 ^ k - 1) : Nat) : Int) := by
    have h : a &&& (2 ^ k - 1) ≤ a := Nat.and_le_left
    simp only [Go.bits, BitVec.ofInt_natCast, BitVec.toNat_and, BitVec.toNat_ofNat, show a % 2 ^ IntKind.i64.bits = a from Nat.mod_eq_of_lt (Nat.lt_of_lt_of_le ha (by decide)), show (2 ^ k - 1) % 2 ^ IntKind.i64.bits = 2 ^ k - 1 from Nat.mod_eq_of_lt (by have : 2 ^ IntKind.i64.bits = 2 ^ 64 := rfl; omega)]
    exact IntWalk.i64_in _ (by omega)
  rw [e, Nat.and_two_pow_sub_one_eq_mod]
theorem w64_in (x : Int) (h : -9223372036854775808 ≤ x ∧ x ≤ 9223372036854775807) : wrap64 x = x := by unfold wrap64; omega
theorem mask_val (a k : Nat) (ha : a < 2 ^ 31) (hk : k ≤ 20) : Go.bits .and .i64 (a : Int) (wrap64 (wrap64 (2 ^ k) - 1)) % 4294967296 = ((a % 2 ^ k : Nat) : Int) := by
  have hp : 2 ^ k ≤ 2 ^ 20 := Nat.pow_le_pow_right (by omega) hk
  have hp0 := Nat.two_pow_pos k
  have e0 : ((2 ^ k : Nat) : Int) = (2 : Int) ^ k := by simp
  have e1 : wrap64 (2 ^ k) = ((2 ^ k : Nat) : Int) := by rw [← e0]; exact w64_in _ (by omega)
  have e2 : wrap64 (((2 ^ k : Nat) : Int) - 1) = ((2 ^ k - 1 : Nat) : Int) := by rw [w64_in _ (by omega)]; omega
  rw [e1, e2, and_pow a k (by omega) hk]
  have := Nat.mod_le a (2 ^ k)
  omega
theorem log2_of {m k : Nat} (h1 : 2 ^ k ≤ m) (h2 : m < 2 ^ (k + 1)) : Nat.log2 m = k := (Nat.log2_eq_iff (by have := Nat.two_pow_pos k; omega)).2 ⟨h1, h2⟩
set_option maxRecDepth 100000 in
set_option maxHeartbeats 1000000 in
theorem length_calls (w : World) (n : Nat) (h3 : 3 ≤ n) (h258 : n ≤ 258) :
    Calls Tryd.prog 39 #[.int .i64 n] w fun e w' => e = .returned (.tuple #[.int .i64 (lsym n : Nat), .int .u32 (lmore n : Nat), .int .i64 (lk n : Nat)]) ∧ Dr w w' := by
  by_cases h0 : n = 258
  · subst h0
    go_enter Tryd.func39, Tryd.ntmps39
    go_wp2_with fail
    go_ret3
    exact ⟨rfl, ⟨0, rfl⟩⟩
  · have x0 : decide ((n : Int) = 258) = false := by simp; omega
    have x0' : ((n : Int) == 258) = false := by simp; omega
    by_cases h1 : n < 11
    · have x1 : decide ((n : Int) < 11) = true := by simp; omega
      have s1 : IntKind.i64.wrap ((n : Int) + 254) = (n : Int) + 254 := IntWalk.i64_in _ (by omega)
      go_enter Tryd.func39, Tryd.ntmps39
      go_wp2_with fail
      go_ret3
      have e1 : lsym n = n + 254 := by unfold lsym; rw [if_neg h0, if_pos h1]
      have e2 : lmore n = 0 := if_pos (.inr h1)
      have e3 : lk n = 0 := if_pos (.inr h1)
      rw [e1, e2, e3]
      exact ⟨rfl, ⟨0, rfl⟩⟩
    · have x1 : decide ((n : Int) < 11) = false := by simp; omega
      obtain ⟨m, hm⟩ : ∃ m : Nat, n = m + 3 := ⟨n - 3, by omega⟩
      have hmb := log2_bd (n := m) (by omega)
      obtain ⟨K, hK⟩ : ∃ K, Nat.log2 m = K + 2 := by
        refine ⟨Nat.log2 m - 2, ?_⟩
        have : 3 ≤ Nat.log2 m := by
          rcases Nat.lt_or_ge (Nat.log2 m) 3 with hh | hh
          · have : 2 ^ (Nat.log2 m + 1) ≤ 2 ^ 3 := Nat.pow_le_pow_right (by omega) (by omega)
            omega
          · exact hh
        omega
      have hK5 : K ≤ 5 := by
        rcases Nat.lt_or_ge 5 K with hh | hh
        · have : 2 ^ 8 ≤ 2 ^ Nat.log2 m := Nat.pow_le_pow_right (by omega) (by omega)
          omega
        · exact hh
      have hbl : Lib.bitLen (m : Int).toNat = K + 3 := by rw [Int.toNat_natCast, bitLen_log m (by omega) (by omega), hK]
      have HE : Hid (lsym n = 261 + 4 * K + m / 2 ^ K - 4 ∧ lmore n = m % 2 ^ K ∧ lk n = K) := Lib.hid (by
        have hnm : n - 3 = m := by omega
        have e3 : lk n = K := by unfold lk; rw [if_neg (by omega), hnm, hK]; rfl
        refine ⟨?_, ?_, e3⟩
        · unfold lsym; rw [if_neg h0, if_neg h1, e3, hnm]
        · unfold lmore; rw [if_neg (by omega), e3, hnm])
      have hm2 : (n : Int) - 3 = (m : Int) := by omega
      have s1 : IntKind.i64.wrap ((n : Int) - 3) = (m : Int) := by rw [IntWalk.i64_in _ (by omega)]; omega
      have s2 : IntKind.u64.wrap (m : Int) = (m : Int) := IntWalk.u64_in _ (by omega)
      have hm0 : (m : Int) ≤ 255 := by omega
      have hm8 : 8 ≤ m := by omega
      clear hmb hK h0 h1 hm
      go_enter Tryd.func39, Tryd.ntmps39
      go_wp2_with fail
      refine (bits_Len (m : Int) _ (by omega) (by omega)).mono ?_
      rintro _ _ ⟨rfl, rfl⟩
      rw [hbl]
      have s3 : IntKind.i64.wrap (((K + 3 : Nat) : Int) - 3) = (K : Int) := by rw [IntWalk.i64_in _ (by omega)]; omega
      go_upto_region 7 with (fail)
      go_quiet (fail)
      go_wp2_with fail
      go_ret3
      obtain ⟨e1, e2, e3⟩ := HE.out
      rw [e1, e2, e3]
      have ed : ((m / 2 ^ K : Nat) : Int) = (m : Int) / 2 ^ K := by rw [Int.natCast_ediv]; simp
      have hdl := Nat.div_le_self m (2 ^ K)
      have v1 : wrap64 (wrap64 (261 + 4 * (K : Int) + (m : Int) / 2 ^ K) - 4) = ((261 + 4 * K + m / 2 ^ K - 4 : Nat) : Int) := by
        rw [← ed]
        rw [w64_in (261 + 4 * (K : Int) + ((m / 2 ^ K : Nat) : Int)) (by generalize m / 2 ^ K = q at *; omega)]
        generalize m / 2 ^ K = q at *
        rw [w64_in _ (by omega)]; omega
      have v2 : bits BinOp.and IntKind.i64 (m : Int) (wrap64 (wrap64 (2 ^ K) - 1)) % 4294967296 = ((m % 2 ^ K : Nat) : Int) := mask_val m K (by omega) (by omega)
      refine ⟨?_, ⟨_, rfl⟩⟩
      show Ending.returned (Value.tuple #[Value.int IntKind.i64 (wrap64 (wrap64 (261 + 4 * (K : Int) + (m : Int) / 2 ^ K) - 4)), Value.int IntKind.u32 (bits BinOp.and IntKind.i64 (m : Int) (wrap64 (wrap64 (2 ^ K) - 1)) % 4294967296), Value.int IntKind.i64 (K : Int)]) = _
      rw [v1, v2]
set_option maxRecDepth 100000 in
set_option maxHeartbeats 1000000 in
theorem distance_calls (w : World) (d : Nat) (h1 : 1 ≤ d) (h2 : d ≤ 32768) :
    Calls Tryd.prog 40 #[.int .i64 d] w fun e w' => e = .returned (.tuple #[.int .i64 (dsym d : Nat), .int .u32 (dmore d : Nat), .int .i64 (dk d : Nat)]) ∧ Dr w w' := by
  obtain ⟨m, hm⟩ : ∃ m : Nat, d = m + 1 := ⟨d - 1, by omega⟩
  have hm2 : (d : Int) - 1 = (m : Int) := by omega
  have s1 : IntKind.i64.wrap ((d : Int) - 1) = (m : Int) := by rw [IntWalk.i64_in _ (by omega)]; omega
  by_cases h4 : m < 4
  · have x1 : decide ((m : Int) < 4) = true := by simp; omega
    have e1 : dsym d = m := by unfold dsym; rw [if_pos (by omega)]; omega
    have e2 : dmore d = 0 := if_pos (by omega)
    have e3 : dk d = 0 := if_pos (by omega)
    rw [e1, e2, e3]
    clear hm h1 h2
    go_enter Tryd.func40, Tryd.ntmps40
    go_wp2_with fail
    go_ret3
    exact ⟨rfl, ⟨0, rfl⟩⟩
  · have x1 : decide ((m : Int) < 4) = false := by simp; omega
    have hmb := log2_bd (n := m) (by omega)
    obtain ⟨K, hK⟩ : ∃ K, Nat.log2 m = K + 1 := by
      refine ⟨Nat.log2 m - 1, ?_⟩
      have : 2 ≤ Nat.log2 m := by
        rcases Nat.lt_or_ge (Nat.log2 m) 2 with hh | hh
        · have : 2 ^ (Nat.log2 m + 1) ≤ 2 ^ 2 := Nat.pow_le_pow_right (by omega) (by omega)
          omega
        · exact hh
      omega
    have hK13 : K ≤ 13 := by
      rcases Nat.lt_or_ge 13 K with hh | hh
      · have : 2 ^ 15 ≤ 2 ^ Nat.log2 m := Nat.pow_le_pow_right (by omega) (by omega)
        omega
      · exact hh
    have hbl : Lib.bitLen (m : Int).toNat = K + 2 := by rw [Int.toNat_natCast, bitLen_log m (by omega) (by omega), hK]
    have HE : Hid (dsym d = 2 + 2 * K + m / 2 ^ K - 2 ∧ dmore d = m % 2 ^ K ∧ dk d = K) := Lib.hid (by
      have hnm : d - 1 = m := by omega
      have e3 : dk d = K := by unfold dk; rw [if_neg (by omega), hnm, hK]; rfl
      refine ⟨?_, ?_, e3⟩
      · unfold dsym; rw [if_neg (by omega), e3, hnm]
      · unfold dmore; rw [if_neg (by omega), e3, hnm])
    have s2 : IntKind.u64.wrap (m : Int) = (m : Int) := IntWalk.u64_in _ (by omega)
    have hm0 : (m : Int) ≤ 32767 := by omega
    have hm8 : 4 ≤ m := by omega
    clear hmb hK h1 h2 hm
    go_enter Tryd.func40, Tryd.ntmps40
    go_wp2_with fail
    refine (bits_Len (m : Int) _ (by omega) (by omega)).mono ?_
    rintro _ _ ⟨rfl, rfl⟩
    rw [hbl]
    have s3 : IntKind.i64.wrap (((K + 2 : Nat) : Int) - 2) = (K : Int) := by rw [IntWalk.i64_in _ (by omega)]; omega
    go_upto_region 5 with (fail)
    go_quiet (fail)
    go_wp2_with fail
    go_ret3
    obtain ⟨e1, e2, e3⟩ := HE.out
    rw [e1, e2, e3]
    have ed : ((m / 2 ^ K : Nat) : Int) = (m : Int) / 2 ^ K := by rw [Int.natCast_ediv]; simp
    have hdl := Nat.div_le_self m (2 ^ K)
    have v1 : wrap64 (wrap64 (2 + 2 * (K : Int) + (m : Int) / 2 ^ K) - 2) = ((2 + 2 * K + m / 2 ^ K - 2 : Nat) : Int) := by
      rw [← ed]
      rw [w64_in (2 + 2 * (K : Int) + ((m / 2 ^ K : Nat) : Int)) (by generalize m / 2 ^ K = q at *; omega)]
      generalize m / 2 ^ K = q at *
      rw [w64_in _ (by omega)]; omega
    have v2 : bits BinOp.and IntKind.i64 (m : Int) (wrap64 (wrap64 (2 ^ K) - 1)) % 4294967296 = ((m % 2 ^ K : Nat) : Int) := mask_val m K (by omega) (by omega)
    refine ⟨?_, ⟨_, rfl⟩⟩
    show Ending.returned (Value.tuple #[Value.int IntKind.i64 (wrap64 (wrap64 (2 + 2 * (K : Int) + (m : Int) / 2 ^ K) - 2)), Value.int IntKind.u32 (bits BinOp.and IntKind.i64 (m : Int) (wrap64 (wrap64 (2 ^ K) - 1)) % 4294967296), Value.int IntKind.i64 (K : Int)]) = _
    rw [v1, v2]
end Go.Proofs.YtkpabdjniiepkaaDoor

set_option linter.unusedVariables false
set_option linter.unusedSimpArgs false
/-! deflate.lay. -/
namespace Go.Proofs.YtkpabdjniiepkaaDoor
open Go.RowKit
/-- A symbol, its code the other way round, its length. -/
structure CodeS (l cs : List Int) (s : Nat) (y : Int) (M : Nat) : Prop where
  len : nth l s = M
  code : nth cs s = y
  lo : 0 ≤ y
  hi : y < 4294967296
  m15 : M ≤ 15
  top : y / 2 ^ M = 0
  bits : vbits y M = cbit l s
theorem pow_lt32 (M : Nat) (h : M ≤ 15) : (2 : Int) ^ M < 4294967296 := by
  have : (2 : Nat) ^ M ≤ 2 ^ 15 := Nat.pow_le_pow_right (by omega) h
  have e : ((2 ^ M : Nat) : Int) = (2 : Int) ^ M := by simp
  rw [← e]
  have : (2 : Nat) ^ 15 = 32768 := rfl
  omega
theorem codeS_of {l : List Int} {s : Nat} (hc : checkF l = 0) (h : Tells l s) : ∃ y M, CodeS l (codesF l).1 s y M := by
  obtain ⟨h1, h2, h3⟩ := h
  obtain ⟨M, hM⟩ : ∃ M : Nat, nth l s = M := ⟨(nth l s).toNat, by omega⟩
  obtain ⟨-, hca⟩ := codes_atW hc
  have hrb := revF_bd (codeI l s) M
  have hp := pow_lt32 M (by omega)
  refine ⟨revF (codeI l s) M, M, hM, hca s M h1 hM (by omega), hrb.1, by omega, by omega, Int.ediv_eq_zero_of_lt hrb.1 hrb.2, ?_⟩
  unfold cbit
  rw [hM, Int.toNat_natCast]
  exact vbits_revW _ _
/-- A writer on its way, a token in its box. -/
structure LS (wb w' : World) (g gs : Nat) (bits : List Int) (t : Tok) : Prop where
  wt : Wtr w' g bits
  be : Below g wb w'
  pt : PT g wb w'
  tk : Blk w' gs 33 (tcells t)
  ne : gs ≠ g
theorem LS.keeps {wb w' w'' : World} {g gs : Nat} {bits : List Int} {t : Tok} (h : LS wb w' g gs bits t) (k : Keeps [] w' w'') : LS wb w'' g gs bits t :=
  ⟨h.wt.keeps k (by simp), h.be.trans (below_lower k.below (Nat.le_of_lt h.wt.lt)), h.pt.trans (PT.of_keeps k), h.tk.keeps k (by simp), h.ne⟩
theorem LS.put {wb w' w'' : World} {g gs : Nat} {bits bits' : List Int} {t : Tok} (h : LS wb w' g gs bits t) (h1 : Wtr w'' g bits') (h2 : Below g w' w'') (h3 : PT g w' w'') : LS wb w'' g gs bits' t :=
  ⟨h1, h.be.trans h2, h.pt.trans h3, (h3.same gs h.tk.lt h.ne (fun ⟨c, f, hc⟩ => by
    have h2 : w'.heap[gs]? = _ := h.tk
    rw [h2] at hc
    injection hc with hc
    injection hc with _ h2 _
    exact absurd h2 (by decide))).trans h.tk, h.ne⟩
theorem vlit_top {v : Nat} {k : Nat} (h : v < 2 ^ k) : ((v : Nat) : Int) / 2 ^ k = 0 := Int.ediv_eq_zero_of_lt (by omega) (by exact_mod_cast h)
theorem pow_le32 (k : Nat) (h : k ≤ 13) : 2 ^ k ≤ 8192 := Nat.pow_le_pow_right (by omega) h
set_option maxRecDepth 100000 in
set_option maxHeartbeats 4000000 in
theorem dlay_calls (w : World) (g : Nat) (bl : List Int) (At A1 A2 : Option Addr) (nt n1 n2 ct c1 c2 : Nat) (ts : List Tok) (lit dist : List Int) (hw : Wtr w g bl) (hb : bl.length ≤ 1000000)
    (ht : ∀ w', Below g w w' → PT g w w' → RT w' At nt ts) (hx : ∀ w', Below g w w' → PT g w w' → RI .i64 w' A1 n1 lit) (hy : ∀ w', Below g w w' → PT g w w' → RI .i64 w' A2 n2 dist)
    (hn : nt ≤ 16384) (hn1 : n1 ≤ 288) (hn2 : n2 ≤ 288) (hc : checkF lit = 0) (h256 : Tells lit 256) (htk : ∀ t ∈ ts, TokOk lit dist t) (hr : ∀ t ∈ ts, t.2.1 ≠ 0 → 3 ≤ t.2.1 ∧ t.2.1 ≤ 258 ∧ 1 ≤ t.2.2 ∧ t.2.2 ≤ 32768) :
    Calls Tryd.prog 37 #[.pointer (some ⟨g, 0, none⟩), .slice At nt ct, .slice A1 n1 c1, .slice A2 n2 c2] w fun e w' => (∃ v, e = .returned v) ∧ Wtr w' g (bl ++ (toksB lit dist ts ++ cbit lit 256)) ∧ Below g w w' ∧ PT g w w' := by
  have hgl := hw.lt
  have HW := Lib.hid hw
  have HB := Lib.hid hb
  have HT := Lib.hid ht
  have HX := Lib.hid hx
  have HY := Lib.hid hy
  have HC := Lib.hid hc
  have H256 := Lib.hid h256
  have HTK := Lib.hid htk
  have HR := Lib.hid hr
  have HLT : Hid (ts.length = nt) := Lib.hid (ht w (Below.refl _ _) (PT.refl _ _)).len
  have HL1 : Hid (lit.length = n1) := Lib.hid (hx w (Below.refl _ _) (PT.refl _ _)).len
  have HL2 : Hid (dist.length = n2) := Lib.hid (hy w (Below.refl _ _) (PT.refl _ _)).len
  clear hw hb ht hx hy hc htk hr
  go_enter Tryd.func37, Tryd.ntmps37
  go_wp2_with fail
  refine (codes_calls w _ _ _ lit (HX.out w (Below.refl _ _) (PT.refl _ _)) (by omega)).mono ?_
  rintro e wa ⟨va, rfl, hoa, hba⟩
  rw [(codes_atW HC.out).1, HL1.out] at hoa
  obtain ⟨AR, cr, rfl⟩ := own_formW hoa
  have HOA := Lib.hid hoa
  have HKA := Lib.hid (Keeps.of_below hba (S := []))
  clear hoa hba
  go_wp2_with fail
  refine (codes_calls wa _ _ _ dist (HY.out wa (below_lower HKA.out.below (Nat.le_of_lt hgl)) (PT.of_keeps HKA.out)) (by omega)).mono ?_
  rintro e wb ⟨vd, rfl, hod, hbd⟩
  obtain ⟨AD, cd, rfl⟩ := own_formW hod
  have hkb := Keeps.of_below hbd (S := [])
  have hkk := HKA.out.trans hkb
  have hgb : g < wb.heap.size := Nat.lt_of_lt_of_le hgl hkk.size
  have HBW : Hid (Below g w wb) := Lib.hid (below_lower hkk.below (Nat.le_of_lt hgl))
  have HPW : Hid (PT g w wb) := Lib.hid (PT.of_keeps hkk)
  have HWB : Hid (Wtr wb g bl) := Lib.hid (HW.out.keeps hkk (by simp))
  have HTB : Hid (∀ w', Below g wb w' → PT g wb w' → RT w' At nt ts) := Lib.hid (fun w' h1 h2 => HT.out w' (HBW.out.trans h1) (HPW.out.trans h2))
  have HXB : Hid (∀ w', Below g wb w' → PT g wb w' → RI .i64 w' A1 n1 lit) := Lib.hid (fun w' h1 h2 => HX.out w' (HBW.out.trans h1) (HPW.out.trans h2))
  have HYB : Hid (∀ w', Below g wb w' → PT g wb w' → RI .i64 w' A2 n2 dist) := Lib.hid (fun w' h1 h2 => HY.out w' (HBW.out.trans h1) (HPW.out.trans h2))
  have HCL : Hid (∀ w', PT g wb w' → RI .u32 w' AR n1 (codesF lit).1) := Lib.hid (fun w' h2 => ri_pt (by decide) (Nat.lt_succ_self g) ((own_keeps HOA.out hkb (by simp)).mono (Nat.succ_le_of_lt hgl)) h2)
  have HCD : Hid (∀ w', PT g wb w' → RI .u32 w' AD (codesF dist).1.length (codesF dist).1) := Lib.hid (fun w' h2 => ri_pt (by decide) (Nat.lt_succ_self g) (hod.mono (Nat.succ_le_of_lt (Nat.lt_of_lt_of_le hgl HKA.out.size))) h2)
  have HDL : Hid (checkF dist = 0 → (codesF dist).1.length = n2) := Lib.hid (fun h => by rw [(codes_atW h).1, HL2.out])
  have HSL : Hid (∀ s, Tells lit s → ∃ y M, CodeS lit (codesF lit).1 s y M) := Lib.hid (fun s h => codeS_of HC.out h)
  have HSD : Hid (checkF dist = 0 → ∀ s, Tells dist s → ∃ y M, CodeS dist (codesF dist).1 s y M) := Lib.hid (fun hc s h => codeS_of hc h)
  clear hod hbd hkb hkk HOA HKA HT HX HY HW HC
  generalize (codesF lit).1 = cl at *
  generalize (codesF lit).2 = el at *
  generalize (codesF dist).1 = dl at *
  generalize (codesF dist).2 = ed at *
  generalize hnd : dl.length = nd at *
  clear hnd
  have h256' : 256 < n1 := by rw [← HL1.out]; exact h256.1
  clear h256
  go_wp2_with fail
  go_loopw [30] (fun iv wr => ∃ (p : Nat), p ≤ nt ∧ iv = .int .i64 p ∧ Hid (Wtr wr g (bl ++ toksB lit dist (ts.take p))) ∧ Hid (Below g wb wr) ∧ Hid (PT g wb wr)) (fun iv _ => nt - (intOf iv).toNat)
  case atStart => exact ⟨0, by omega, rfl, Lib.hid (by rw [List.take_zero, show toksB lit dist [] = [] from rfl, List.append_nil]; exact HWB.out), Lib.hid (Below.refl _ _), Lib.hid (PT.refl _ _)⟩
  case round =>
    clear HWB
    obtain ⟨p, hp, rfl, HWl, HBl, HPl⟩ := hrel
    have HLB : Hid ((toksB lit dist (ts.take p)).length ≤ 48 * 16384) := Lib.hid (by
      have h1 := toksB_len (lit := lit) (dist := dist) (ts.take p) (fun t h => HTK.out t (List.mem_of_mem_take h)) (fun t h => HR.out t (List.mem_of_mem_take h))
      have h2 : (ts.take p).length ≤ 16384 := by rw [List.length_take]; have := HLT.out; omega
      omega)
    by_cases hlt : p < nt
    · have e5 : decide (p < nt) = true := by simpa using hlt
      have hps : p < ts.length := by rw [HLT.out]; exact hlt
      have hrt := HTB.out wr HBl.out HPl.out
      obtain ⟨tb, to', hAt⟩ := hrt.hd (by omega)
      obtain ⟨p0, p1, p2⟩ := hrt.cell tb to' hAt p hlt
      subst hAt
      have HTO := Lib.hid (HTK.out _ (tth_mem hps))
      have HRO := Lib.hid (HR.out _ (tth_mem hps))
      have HSN : Hid (toksB lit dist (ts.take (p + 1)) = toksB lit dist (ts.take p) ++ tokB lit dist (tth ts p)) := Lib.hid (by rw [take_tth hps, toksB_snoc])
      clear hrt hps
      generalize tth ts p = t at *
      obtain ⟨a, b, c⟩ := t
      dsimp only at p0 p1 p2
      obtain ⟨gs, hgs⟩ : ∃ z, z = wr.heap.size := ⟨_, rfl⟩
      obtain ⟨w20, hw20⟩ : ∃ z, z = wr.alloc (.cells #[.int .u8 a, .int .i64 b, .int .i64 c] 33) := ⟨_, rfl⟩
      have ka : Keeps [] wr w20 := by rw [hw20]; exact (Keeps.refl [] wr).alloc _
      have HLS : Hid (LS wb w20 g gs (bl ++ toksB lit dist (ts.take p)) (a, b, c)) := Lib.hid (by
        refine ⟨HWl.out.keeps ka (by simp), HBl.out.trans (below_lower ka.below (Nat.le_of_lt HWl.out.lt)), HPl.out.trans (PT.of_keeps ka), ?_, ?_⟩
        · rw [hw20, hgs]; exact blk_new wr _ [.int .u8 a, .int .i64 b, .int .i64 c]
        · have := HWl.out.lt; omega)
      go_upto_region 5 with (fail)
      change Code.wp _ _ _ _ (wr.alloc (.cells #[.int .u8 a, .int .i64 b, .int .i64 c] 33))
      rw [← hw20, ← hgs]
      clear ka HWl HBl HPl p0 p1 p2 hw20 hgs e5
      generalize hbl2 : bl ++ toksB lit dist (ts.take p) = bl2 at *
      have HBL2 : Hid (bl2.length ≤ 2000000) := Lib.hid (by have := HB.out; have := HLB.out; rw [← hbl2, List.length_append]; omega)
      have HEN : Hid (bl ++ toksB lit dist (ts.take (p + 1)) = bl2 ++ tokB lit dist (a, b, c)) := Lib.hid (by rw [HSN.out, ← List.append_assoc, hbl2])
      clear hbl2 HSN HLB
      have b0 := HLS.out.tk.cell 0
      have b1 := HLS.out.tk.cell 1
      simp only [tcells, List.getElem?_cons_zero, List.getElem?_cons_succ] at b0 b1
      by_cases h0 : b = 0
      · obtain ⟨l0, l1, l2⟩ := HTO.out.1 h0
        dsimp only at l0 l1 l2
        obtain ⟨j, rfl⟩ := Int.eq_ofNat_of_zero_le l0
        rw [Int.toNat_natCast] at l2
        subst h0
        obtain ⟨y, M, sy⟩ := HSL.out j l2
        have hjn : j < n1 := by rw [← HL1.out]; exact l2.1
        have SY := Lib.hid sy
        have hri := HXB.out w20 HLS.out.be HLS.out.pt
        have hrc := HCL.out w20 HLS.out.pt
        obtain ⟨lb, lo, hA1, hlc⟩ := hri.at hjn
        obtain ⟨rb, ro, hAR, hrcc⟩ := hrc.at hjn
        subst hA1
        subst hAR
        rw [sy.len] at hlc
        rw [sy.code] at hrcc
        have t0 : IntKind.i64.wrap (j : Int) = (j : Int) := IntWalk.i64_in _ (by omega)
        clear hri hrc sy l2
        go_wp2_with fail
        go_still_tail 11, (by kernel_rfl)
        change wpList _ _ _ _ _ w20.drew
        have HL2 := Lib.hid (HLS.out.keeps (Keeps.refl [] w20).drew)
        clear HLS hlc hrcc b0 b1
        go_wp2_with fail
        refine (put_calls _ g _ y M HL2.out.wt SY.out.lo SY.out.hi (by have := SY.out.m15; omega) SY.out.top (by have := HBL2.out; omega)).mono ?_
        rintro _ w21 ⟨rfl, hw21, hb21, hp21⟩
        rw [SY.out.bits] at hw21
        have HL3 := Lib.hid (HL2.out.put hw21 hb21 hp21)
        clear hw21 hb21 hp21 HL2
        go_wp2_with fail
        go_roundw
        case rel =>
          refine ⟨p + 1, by omega, by go_num, ?_, Lib.hid HL3.out.be, Lib.hid HL3.out.pt⟩
          rw [HEN.out]
          exact Lib.hid HL3.out.wt
        case measure => simp [intOf]; omega
      · have x0 : decide (b = 0) = false := by simpa using h0
        have x0' : (b == 0) = false := by simpa using h0
        obtain ⟨r1, r2, r3, r4⟩ := HRO.out h0
        obtain ⟨l1, l2, l3⟩ := HTO.out.2 h0
        dsimp only at r1 r2 r3 r4 l1 l2
        obtain ⟨m, rfl⟩ := Int.eq_ofNat_of_zero_le (show 0 ≤ b by omega)
        obtain ⟨d, rfl⟩ := Int.eq_ofNat_of_zero_le (show 0 ≤ c by omega)
        rw [Int.toNat_natCast] at l1 l2
        obtain ⟨-, f2, -, -, f5, f6⟩ := len_tab m (by omega) (by omega)
        obtain ⟨g1, -, -, g4, g5⟩ := dist_tab d (by omega) (by omega)
        have HEB : Hid (tokB lit dist (a, (m : Int), (d : Int)) = cbit lit (lsym m) ++ (vbits (lmore m) (lk m) ++ (cbit dist (dsym d) ++ vbits (dmore d) (dk d)))) := Lib.hid (by
          unfold tokB behB
          rw [if_neg h0]
          simp only [Int.toNat_natCast])
        have HLC := Lib.hid (fun w => length_calls w m (by omega) (by omega))
        have HDC := Lib.hid (fun w => distance_calls w d (by omega) (by omega))
        obtain ⟨y, M, sy⟩ := HSL.out (lsym m) l1
        obtain ⟨z, Q, sz⟩ := HSD.out l3 (dsym d) l2
        have hS : lsym m < n1 := by rw [← HL1.out]; exact l1.1
        have hT2 : dsym d < n2 := by rw [← HL2.out]; exact l2.1
        have hT : dsym d < nd := by rw [HDL.out l3]; exact hT2
        have SY := Lib.hid sy
        have SZ := Lib.hid sz
        have HV : Hid (((lmore m : Nat) : Int) / 2 ^ lk m = 0) := Lib.hid (vlit_top f5)
        have HU : Hid (((dmore d : Nat) : Int) / 2 ^ dk d = 0) := Lib.hid (vlit_top g4)
        have hV : lmore m < 8192 := Nat.lt_of_lt_of_le f5 (pow_le32 _ (by omega))
        have hU : dmore d < 8192 := Nat.lt_of_lt_of_le g4 (pow_le32 _ (by omega))
        clear l1 l2 l3 sy sz r1 r2 r3 r4 f2 f5 g1 g4 h0 HRO HTO
        generalize lsym m = S at *
        generalize lmore m = V at *
        generalize lk m = k at *
        generalize dsym d = T at *
        generalize dmore d = U at *
        generalize dk d = j at *
        go_wp2_with fail
        refine (HLC.out w20).mono ?_
        rintro _ w21 ⟨rfl, hd⟩
        have HL2 := Lib.hid (HLS.out.keeps (hd.keeps (S := [])))
        clear hd HLS b0 b1
        obtain ⟨lb, lo, hA1, hlc⟩ := (HXB.out w21 HL2.out.be HL2.out.pt).at hS
        obtain ⟨rb, ro, hAR, hrcc⟩ := (HCL.out w21 HL2.out.pt).at hS
        subst hA1
        subst hAR
        rw [SY.out.len] at hlc
        rw [SY.out.code] at hrcc
        go_wp2_with fail
        go_still_tail 9, (by kernel_rfl)
        change wpList _ _ _ _ _ w21.drew
        have HL3 := Lib.hid (HL2.out.keeps (Keeps.refl [] w21).drew)
        clear HL2 hlc hrcc
        go_wp2_with fail
        refine (put_calls _ g _ y M HL3.out.wt SY.out.lo SY.out.hi (by have := SY.out.m15; omega) SY.out.top (by have := HBL2.out; omega)).mono ?_
        rintro _ w22 ⟨rfl, hw22, hb22, hp22⟩
        rw [SY.out.bits] at hw22
        have HL4 := Lib.hid (HL3.out.put hw22 hb22 hp22)
        have HLA : Hid ((cbit lit S).length ≤ 15) := Lib.hid (by rw [← SY.out.bits, vbits_len]; exact SY.out.m15)
        have HLD : Hid ((cbit dist T).length ≤ 15) := Lib.hid (by rw [← SZ.out.bits, vbits_len]; exact SZ.out.m15)
        clear hw22 hb22 hp22 HL3
        go_wp2_with fail
        refine (put_calls _ g _ (V : Int) k HL4.out.wt (by omega) (by omega) (by omega) HV.out (by have := HBL2.out; have := HLA.out; rw [List.length_append]; omega)).mono ?_
        rintro _ w23 ⟨rfl, hw23, hb23, hp23⟩
        have HL5 := Lib.hid (HL4.out.put hw23 hb23 hp23)
        clear hw23 hb23 hp23 HL4
        have b2 := HL5.out.tk.cell 2
        simp only [tcells, List.getElem?_cons_zero, List.getElem?_cons_succ] at b2
        go_wp2_with fail
        refine (HDC.out w23).mono ?_
        rintro _ w24 ⟨rfl, hd⟩
        have HL6 := Lib.hid (HL5.out.keeps (hd.keeps (S := [])))
        clear hd HL5 b2
        obtain ⟨db, do', hA2, hdc⟩ := (HYB.out w24 HL6.out.be HL6.out.pt).at hT2
        obtain ⟨qb, qo, hAD, hqc⟩ := (HCD.out w24 HL6.out.pt).at hT
        subst hA2
        subst hAD
        rw [SZ.out.len] at hdc
        rw [SZ.out.code] at hqc
        go_wp2_with fail
        go_still_tail 9, (by kernel_rfl)
        change wpList _ _ _ _ _ w24.drew
        have HL7 := Lib.hid (HL6.out.keeps (Keeps.refl [] w24).drew)
        clear HL6 hdc hqc
        go_wp2_with fail
        refine (put_calls _ g _ z Q HL7.out.wt SZ.out.lo SZ.out.hi (by have := SZ.out.m15; omega) SZ.out.top (by have := HBL2.out; have := HLA.out; simp only [List.length_append, vbits_len]; omega)).mono ?_
        rintro _ w25 ⟨rfl, hw25, hb25, hp25⟩
        rw [SZ.out.bits] at hw25
        have HL8 := Lib.hid (HL7.out.put hw25 hb25 hp25)
        clear hw25 hb25 hp25 HL7
        go_wp2_with fail
        refine (put_calls _ g _ (U : Int) j HL8.out.wt (by omega) (by omega) (by omega) HU.out (by have := HBL2.out; have := HLA.out; have := HLD.out; simp only [List.length_append, vbits_len]; omega)).mono ?_
        rintro _ w26 ⟨rfl, hw26, hb26, hp26⟩
        have HL9 := Lib.hid (HL8.out.put hw26 hb26 hp26)
        clear hw26 hb26 hp26 HL8
        go_wp2_with fail
        go_roundw
        case rel =>
          refine ⟨p + 1, by omega, by go_num, ?_, Lib.hid HL9.out.be, Lib.hid HL9.out.pt⟩
          rw [HEN.out, HEB.out]
          have h := HL9.out.wt
          simp only [List.append_assoc] at h ⊢
          exact Lib.hid h
        case measure => simp [intOf]; omega
    · obtain rfl : p = nt := by omega
      have e5 : decide (p < p) = false := by simp
      obtain ⟨y, M, sy⟩ := HSL.out 256 H256.out
      have SY := Lib.hid sy
      obtain ⟨lb, lo, hA1, hlc⟩ := (HXB.out wr HBl.out HPl.out).at h256'
      obtain ⟨rb, ro, hAR, hrcc⟩ := (HCL.out wr HPl.out).at h256'
      subst hA1
      subst hAR
      rw [sy.len] at hlc
      rw [sy.code] at hrcc
      rw [List.take_of_length_le (by have := HLT.out; omega)] at HWl HLB
      clear sy
      have t3 : (256 : Int) < (n1 : Int) := by omega
      have t4 : decide ((256 : Int) < (n1 : Int)) = true := by simpa using t3
      go_wp2_with fail
      go_still_tail 7, (by kernel_rfl)
      change wpList _ _ _ _ _ wr.drew
      have hk := (Keeps.refl [] wr).drew
      have HW2 := Lib.hid (HWl.out.keeps hk (by simp))
      have HB2 := Lib.hid (HBl.out.trans (below_lower hk.below (Nat.le_of_lt HWl.out.lt)))
      have HP2 := Lib.hid (HPl.out.trans (PT.of_keeps hk))
      clear hk HWl HBl HPl hlc hrcc
      go_wp2_with fail
      refine (put_calls _ g _ y M HW2.out SY.out.lo SY.out.hi (by have := SY.out.m15; omega) SY.out.top (by have := HB.out; have := HLB.out; rw [List.length_append]; omega)).mono ?_
      rintro _ w21 ⟨rfl, hw21, hb21, hp21⟩
      rw [SY.out.bits, List.append_assoc] at hw21
      have HL3 := Lib.hid hw21
      have HB3 := Lib.hid (HBW.out.trans (HB2.out.trans hb21))
      have HP3 := Lib.hid (HPW.out.trans (HP2.out.trans hp21))
      clear hw21 hb21 hp21
      go_wp2_with fail
      go_end0
      exact ⟨⟨_, rfl⟩, HL3.out, HB3.out, HP3.out⟩
end Go.Proofs.YtkpabdjniiepkaaDoor

set_option linter.unusedVariables false
set_option linter.unusedSimpArgs false
/-! match.Check. -/
namespace Go.Proofs.YtkpabdjniiepkaaDoor
open Go.RowKit
theorem may_no {a b c : Int} {said : Nat} (h0 : ¬ b = 0) (h : ¬ (a = 0 ∧ 3 ≤ b ∧ b ≤ 258 ∧ 1 ≤ c ∧ c ≤ 32768 ∧ c ≤ said)) : mayT (a, b, c) said = false := by
  unfold mayT
  rw [if_neg h0]
  exact decide_eq_false h
set_option maxRecDepth 100000 in
set_option maxHeartbeats 1000000 in
theorem right_calls (w : World) (t : Tok) (said : Nat) (hs : said ≤ 1000000) :
    Calls Tryd.prog 53 #[tokV t, .int .i64 said] w fun e w' => e = .returned (.bool (mayT t said)) ∧ Keeps [] w w' := by
  obtain ⟨a, b, c⟩ := t
  have ha : Keeps [] w (w.alloc (.cells #[.int .u8 a, .int .i64 b, .int .i64 c] 33)) := (Keeps.refl [] w).alloc _
  unfold tokV
  by_cases h0 : b = 0
  · have HR : Hid (mayT (a, b, c) said = (c == 0)) := by
      show _ = _
      unfold mayT; rw [if_pos h0]
      by_cases h : c = 0 <;> simp [h]
    have x0 : decide (b = 0) = true := by simpa using h0
    have x0' : (b == 0) = true := by simpa using h0
    clear h0
    go_enter Tryd.func53, Tryd.ntmps53
    go_wp2_with fail
    go_ret
    exact ⟨by rw [HR.out]; rfl, ha⟩
  · have x0 : decide (b = 0) = false := by simpa using h0
    have x0' : (b == 0) = false := by simpa using h0
    have NO : Hid (¬ (a = 0 ∧ 3 ≤ b ∧ b ≤ 258 ∧ 1 ≤ c ∧ c ≤ 32768 ∧ c ≤ said) → mayT (a, b, c) said = false) := Lib.hid (may_no h0)
    have H0 := Lib.hid h0
    clear h0
    by_cases h1 : a = 0
    · have x1 : decide (a = 0) = true := by simpa using h1
      have x1' : (a == 0) = true := by simpa using h1
      have H1 := Lib.hid h1
      clear h1
      by_cases h2 : 3 ≤ b
      · have x2 : decide (3 ≤ b) = true := by simpa using h2
        have H2 := Lib.hid h2
        clear h2
        by_cases h3 : b ≤ 258
        · have x3 : decide (b ≤ 258) = true := by simpa using h3
          have H3 := Lib.hid h3
          clear h3
          by_cases h4 : 1 ≤ c
          · have x4 : decide (1 ≤ c) = true := by simpa using h4
            have H4 := Lib.hid h4
            clear h4
            obtain ⟨K, hK⟩ : ∃ K : Nat, (if (said : Int) < 32768 then (said : Int) else 32768) = (K : Int) := ⟨min said 32768, by split <;> omega⟩
            have HK : Hid (K = min said 32768) := Lib.hid (by split at hK <;> omega)
            go_enter Tryd.func53, Tryd.ntmps53
            go_wp2_with fail
            go_ret
            refine ⟨?_, ha⟩
            have e : mayT (a, b, c) said = decide (c ≤ (K : Int)) := by
              have := H0.out; have := H1.out; have := H2.out; have := H3.out; have := H4.out; have hKK := HK.out
              unfold mayT
              rw [if_neg H0.out]
              exact decide_eq_decide.2 (by dsimp only; omega)
            rw [e]; rfl
          · have x4 : decide (1 ≤ c) = false := by simpa using h4
            have HR := Lib.hid (NO.out (by omega))
            clear h4
            go_enter Tryd.func53, Tryd.ntmps53
            go_wp2_with fail
            go_ret
            exact ⟨by rw [HR.out]; rfl, ha⟩
        · have x3 : decide (b ≤ 258) = false := by simpa using h3
          have HR := Lib.hid (NO.out (by omega))
          clear h3
          go_enter Tryd.func53, Tryd.ntmps53
          go_wp2_with fail
          go_ret
          exact ⟨by rw [HR.out]; rfl, ha⟩
      · have x2 : decide (3 ≤ b) = false := by simpa using h2
        have HR := Lib.hid (NO.out (by omega))
        clear h2
        go_enter Tryd.func53, Tryd.ntmps53
        go_wp2_with fail
        go_ret
        exact ⟨by rw [HR.out]; rfl, ha⟩
    · have x1 : decide (a = 0) = false := by simpa using h1
      have x1' : (a == 0) = false := by simpa using h1
      have HR := Lib.hid (NO.out (by omega))
      clear h1
      go_enter Tryd.func53, Tryd.ntmps53
      go_wp2_with fail
      go_ret
      exact ⟨by rw [HR.out]; rfl, ha⟩
set_option maxRecDepth 100000 in
set_option maxHeartbeats 1000000 in
theorem tcheck_calls (w : World) (A : Option Addr) (n c : Nat) (ts : List Tok) (h : RT w A n ts) (hn : n ≤ 140737488355328) :
    Calls Tryd.prog 32 #[.slice A n c] w fun e w' => e = .returned (.int .i64 (checkT ts 0)) ∧ Keeps [] w w' := by
  have H := Lib.hid h
  have HL := Lib.hid h.len
  clear h
  go_enter Tryd.func32, Tryd.ntmps32
  go_wp2_with fail
  go_loopw [3, 8] (fun sv iv wr => ∃ (p s : Nat), p ≤ n ∧ s ≤ 16384 ∧ sv = .int .i64 s ∧ iv = .int .i64 p ∧ Hid (checkT ts 0 = checkT (ts.drop p) s) ∧ Hid (Keeps [] w wr)) (fun _ iv _ => n - (intOf iv).toNat)
  case atStart => exact ⟨0, 0, by omega, by omega, rfl, rfl, Lib.hid (by simp), Lib.hid (Keeps.refl _ _)⟩
  case round =>
    obtain ⟨p, s, hp, hs, rfl, rfl, HC, HK⟩ := hrel
    by_cases hlt : p < n
    · have e5 : decide (p < n) = true := by simpa using hlt
      obtain ⟨tb, to', rfl⟩ := H.out.hd (by omega)
      obtain ⟨p0, p1, p2⟩ := (H.out.keeps HK.out (off_nil _)).cell tb to' rfl p hlt
      have HD : Hid (ts.drop p = tth ts p :: ts.drop (p + 1)) := Lib.hid (drop_tth (by have := HL.out; omega))
      generalize tth ts p = t at *
      have HRT := fun w => right_calls w t s (by omega)
      have HX := Lib.hid HRT
      clear HRT
      obtain ⟨a, b, d⟩ := t
      dsimp only at p0 p1 p2
      go_wp2_with fail
      refine (HX.out _).mono ?_
      rintro _ w1 ⟨rfl, hk1⟩
      have hbx := (blk_new wr 33 [.int .u8 a, .int .i64 b, .int .i64 d]).keeps hk1 (by simp)
      have b1 := hbx.cell 1
      simp only [List.getElem?_cons_zero, List.getElem?_cons_succ] at b1
      have HK1 := Lib.hid ((HK.out.alloc (.cells #[.int .u8 a, .int .i64 b, .int .i64 d] 33)).trans hk1)
      clear hbx hk1 HX p0 p1 p2 HK
      have HE := HC.out
      rw [HD.out, checkT] at HE
      clear HC
      by_cases hm : mayT (a, b, d) s = false
      · rw [if_pos hm] at HE
        have HE2 := Lib.hid HE
        clear HE
        rw [hm]
        go_wp2_with fail
        go_ret
        exact ⟨by rw [HE2.out]; rfl, HK1.out⟩
      · rw [if_neg hm] at HE
        have hm' : mayT (a, b, d) s = true := by simpa using hm
        rw [hm']
        have hb0 := may_nn hm'
        obtain ⟨m, hm2⟩ := Int.eq_ofNat_of_zero_le hb0
        dsimp only at hm2
        subst hm2
        have hmx : (m : Int) ≤ 258 := by
          unfold mayT at hm'
          split at hm'
          · next h => dsimp only at h; omega
          · have := of_decide_eq_true hm'; dsimp only at this; omega
        dsimp only at HE
        rw [Int.toNat_natCast] at HE
        obtain ⟨K, hK⟩ : ∃ K : Nat, (if 1 < (m : Int) then (m : Int) else 1) = (K : Int) := ⟨max 1 m, by split <;> omega⟩
        have hK2 : max 1 m = K := by split at hK <;> omega
        rw [hK2] at HE
        have HE2 := Lib.hid HE
        have s1 : IntKind.i64.wrap ((s : Int) + (K : Int)) = (s : Int) + (K : Int) := IntWalk.i64_in _ (by omega)
        clear HE hm hm' hb0 hK2
        by_cases hbig : 16384 < s + K
        · have x2 : decide ((16384 : Int) < (s : Int) + (K : Int)) = true := by simp; omega
          have HE3 := Lib.hid (HE2.out.trans (if_pos hbig))
          clear HE2 hbig
          go_wp2_with fail
          go_ret
          exact ⟨by rw [HE3.out]; rfl, HK1.out⟩
        · have x2 : decide ((16384 : Int) < (s : Int) + (K : Int)) = false := by simp; omega
          have HE3 := Lib.hid (HE2.out.trans (if_neg hbig))
          clear HE2
          go_wp2_with fail
          go_roundw
          case rel => exact ⟨p + 1, s + K, by omega, by omega, by go_num, by go_num, HE3, HK1⟩
          case measure => simp [intOf]; omega
    · obtain rfl : p = n := by omega
      have e5 : decide (p < p) = false := by simp
      have HE : Hid (checkT ts 0 = 0) := Lib.hid (by rw [HC.out, List.drop_eq_nil_of_le (by have := HL.out; omega)]; rfl)
      go_wp2_with fail
      go_ret
      exact ⟨by rw [HE.out]; rfl, HK.out⟩
end Go.Proofs.YtkpabdjniiepkaaDoor

set_option linter.unusedVariables false
set_option linter.unusedSimpArgs false
namespace Go.Proofs.YtkpabdjniiepkaaDoor
open Go.RowKit
set_option maxRecDepth 100000 in
set_option maxHeartbeats 2000000 in
theorem concat4_calls (w : World) (gb g1 g2 g3 g4 n1 n2 n3 n4 c1 c2 c3 c4 : Nat) (x1 x2 x3 x4 : List Int) (h0 : w.cell? ⟨gb, 0, none⟩ = some (.slice (some ⟨g1, 0, none⟩) n1 c1)) (h1 : w.cell? ⟨gb, 1, none⟩ = some (.slice (some ⟨g2, 0, none⟩) n2 c2)) (h2 : w.cell? ⟨gb, 2, none⟩ = some (.slice (some ⟨g3, 0, none⟩) n3 c3)) (h3 : w.cell? ⟨gb, 3, none⟩ = some (.slice (some ⟨g4, 0, none⟩) n4 c4))
    (hx1 : RI .i64 w (some ⟨g1, 0, none⟩) n1 x1) (hx2 : RI .i64 w (some ⟨g2, 0, none⟩) n2 x2) (hx3 : RI .i64 w (some ⟨g3, 0, none⟩) n3 x3) (hx4 : RI .i64 w (some ⟨g4, 0, none⟩) n4 x4)
    (hn1 : n1 ≤ 1000000) (hn2 : n2 ≤ 1000000) (hn3 : n3 ≤ 1000000) (hn4 : n4 ≤ 1000000) :
    Calls Tryd.prog 33 #[.slice (some ⟨gb, 0, none⟩) 4 4] w fun e w' => ∃ v, e = .returned v ∧ w'.ownsRow w.heap.size 3 1 v (n1 + n2 + n3 + n4) (ints .i64 (x1 ++ (x2 ++ (x3 ++ x4)))) ∧ Below w.heap.size w w' := by
  have HX1 := Lib.hid hx1
  have HX2 := Lib.hid hx2
  have HX3 := Lib.hid hx3
  have HX4 := Lib.hid hx4
  have H0 := Lib.hid h0
  have H1 := Lib.hid h1
  have H2 := Lib.hid h2
  have H3 := Lib.hid h3
  have e1 : decide ((n1 : Int) < 0) = false := by simp
  have e2 : decide ((n1 : Int) + n2 < 0) = false := by simp; omega
  have e3 : decide ((n1 : Int) + n2 + n3 < 0) = false := by simp; omega
  have e4 : decide ((n1 : Int) + n2 + n3 + n4 < 0) = false := by simp; omega
  clear hx1 hx2 hx3 hx4
  go_enter Tryd.func33, Tryd.ntmps33
  go_wp2_with fail
  refine wp_loop_rounds 5 ?_
  rw [rounds_succ]
  go_wp2_with fail
  rw [rounds_succ]
  go_wp2_with fail
  rw [rounds_succ]
  go_wp2_with fail
  rw [rounds_succ]
  go_wp2_with fail
  rw [rounds_succ]
  go_wp2_with fail
  rw [show ((n1 : Int) + n2 + n3 + n4) = ((n1 + n2 + n3 + n4 : Nat) : Int) by omega]
  refine (grow_calls _ (n1 + n2 + n3 + n4) (by omega)).mono ?_
  rintro _ w1 ⟨v, rfl, ho, hb⟩
  have HO := Lib.hid (ho w.heap.size (Nat.le_refl _))
  have HB := Lib.hid hb
  have hz := hb.size
  have h0 := (Keeps.of_below (S := []) hb).cell (by simp) H0.out
  clear h1 h2 h3
  clear ho hb e1 e2 e3 e4
  go_wp2_with fail
  refine wp_loop_rounds 5 ?_
  rw [rounds_succ]
  go_wp2_with (at_builtin; refine app_intsG rfl (.tmp 31) (.tmp 32) rfl w.heap.size _ _ [] rfl HO.out (some ⟨g1, 0, none⟩) n1 c1 x1 rfl (HX1.out.keeps (Keeps.of_below (S := []) HB.out) (off_nil _)) nofun (fun ad h => ⟨_, _, (Option.some.inj h).symm⟩) (by omega) hz ?_)
  intro v2 w2 ho hg
  have HO2 := Lib.hid ho
  have hb2 := HB.out.grown hg hz (fun k hk => own_lo HO.out k hk)
  have HB2 := Lib.hid hb2
  replace hz := hb2.size
  clear h0
  have h1 := (Keeps.of_below (S := []) hb2).cell (by simp) H1.out
  clear ho hg hb2
  go_wp2_with fail
  rw [rounds_succ]
  go_wp2_with (at_builtin; refine app_intsG rfl (.tmp 31) (.tmp 32) rfl w.heap.size _ _ _ rfl HO2.out (some ⟨g2, 0, none⟩) n2 c2 x2 rfl (HX2.out.keeps (Keeps.of_below (S := []) HB2.out) (off_nil _)) nofun (fun ad h => ⟨_, _, (Option.some.inj h).symm⟩) (by omega) hz ?_)
  intro v3 w3 ho hg
  have HO3 := Lib.hid ho
  have hb2 := HB2.out.grown hg hz (fun k hk => own_lo HO2.out k hk)
  have HB3 := Lib.hid hb2
  replace hz := hb2.size
  clear h1
  have h2 := (Keeps.of_below (S := []) hb2).cell (by simp) H2.out
  clear ho hg hb2
  go_wp2_with fail
  rw [rounds_succ]
  go_wp2_with (at_builtin; refine app_intsG rfl (.tmp 31) (.tmp 32) rfl w.heap.size _ _ _ rfl HO3.out (some ⟨g3, 0, none⟩) n3 c3 x3 rfl (HX3.out.keeps (Keeps.of_below (S := []) HB3.out) (off_nil _)) nofun (fun ad h => ⟨_, _, (Option.some.inj h).symm⟩) (by omega) hz ?_)
  intro v4 w4 ho hg
  have HO4 := Lib.hid ho
  have hb2 := HB3.out.grown hg hz (fun k hk => own_lo HO3.out k hk)
  have HB4 := Lib.hid hb2
  replace hz := hb2.size
  clear h2
  have h3 := (Keeps.of_below (S := []) hb2).cell (by simp) H3.out
  clear ho hg hb2
  go_wp2_with fail
  rw [rounds_succ]
  go_wp2_with (at_builtin; refine app_intsG rfl (.tmp 31) (.tmp 32) rfl w.heap.size _ _ _ rfl HO4.out (some ⟨g4, 0, none⟩) n4 c4 x4 rfl (HX4.out.keeps (Keeps.of_below (S := []) HB4.out) (off_nil _)) nofun (fun ad h => ⟨_, _, (Option.some.inj h).symm⟩) (by omega) hz ?_)
  intro v5 w5 ho hg
  have HO5 := Lib.hid ho
  have hb2 := HB4.out.grown hg hz (fun k hk => own_lo HO4.out k hk)
  have HB5 := Lib.hid hb2
  replace hz := hb2.size
  clear h3
  clear ho hg hb2
  go_wp2_with fail
  rw [rounds_succ]
  go_wp2_with fail
  go_ret
  exact ⟨_, rfl, HO5.out, HB5.out⟩
end Go.Proofs.YtkpabdjniiepkaaDoor

set_option linter.unusedVariables false
set_option linter.unusedSimpArgs false
namespace Go.Proofs.YtkpabdjniiepkaaDoor
open Go.RowKit
set_option maxRecDepth 100000 in
set_option maxHeartbeats 1000000 in
theorem mul64_calls (w : World) (m : Nat) (hm : m ≤ 1000000) :
    Calls Tryd.prog 74 #[.int .u64 1, .int .u64 m] w fun e w' => e = .returned (.tuple #[.int .u64 0, .int .u64 m]) ∧ w = w' := by
  have e1 : Go.bits .and .u64 1 4294967295 = 1 := by rw [u64_mask32 _ (by omega) (by omega)]; rfl
  have e2 : Go.bits .and .u64 0 4294967295 = 0 := by rw [u64_mask32 _ (by omega) (by omega)]; rfl
  have e3 : Go.bits .and .u64 (m : Int) 4294967295 = m := by rw [u64_mask32 _ (by omega) (by omega)]; omega
  have e4 : IntKind.u64.wrap (m : Int) = m := wraps_u64 _ (by omega) (by omega)
  have e5 : (m : Int) / 4294967296 = 0 := by omega
  have e6 : IntKind.u64.wrap 0 = 0 := rfl
  go_enter Tryd.func74, Tryd.ntmps74
  go_wp2
  go_ret2
  exact ⟨rfl, rfl⟩
set_option maxRecDepth 100000 in
set_option maxHeartbeats 1000000 in
theorem mul_calls (w : World) (m : Nat) (hm : m ≤ 1000000) :
    Calls Tryd.prog 55 #[.int .u64 1, .int .u64 m] w fun e w' => e = .returned (.tuple #[.int .u64 0, .int .u64 m]) ∧ w = w' := by
  go_enter Tryd.func55, Tryd.ntmps55
  go_wp2_with fail
  refine (mul64_calls _ _ hm).mono ?_
  rintro e w' ⟨rfl, rfl⟩
  go_wp2_with fail
  go_ret2
  exact ⟨rfl, rfl⟩
end Go.Proofs.YtkpabdjniiepkaaDoor

set_option linter.unusedVariables false
set_option linter.unusedSimpArgs false
namespace Go.Proofs.YtkpabdjniiepkaaDoor
open Go.RowKit
theorem ints_one (k : IntKind) (xs : List Int) : ∀ v ∈ ints k xs, v.oneCell' = true := by
  intro u hu; simp only [ints, List.mem_map] at hu; obtain ⟨x, _, rfl⟩ := hu; rfl
theorem rep_src {w : World} {g t k m : Nat} {v : Int} (h : Blk w g t (ints .i64 (List.replicate k v ++ List.replicate m 0))) (j : Nat) (hj : j ≤ k) :
    ∀ i u, (ints .i64 (List.replicate j v))[i]? = some u → w.cell? ((⟨g, 0, none⟩ : Addr).add i) = some u := by
  intro i u hu
  have hi : i < j := by have := (List.getElem?_eq_some_iff.1 hu).1; simpa [ints] using this
  rw [add_plain, h.cell]
  rw [ints_getElem?] at hu ⊢
  rw [List.getElem?_append_left (by simp; omega)]
  simpa [hi, show i < k by omega] using hu
theorem rep_fit {k m q : Nat} {v : Int} (h2 : q ≤ m - k) (h : k < m) : k + (ints .i64 (List.replicate q v)).length ≤ (ints .i64 (List.replicate k v ++ List.replicate (m - k) 0)).length := by
  simp [ints]; omega
theorem rep_splice {k m q : Nat} {v : Int} (h2 : q ≤ m - k) (h : k < m) : splice (ints .i64 (List.replicate k v ++ List.replicate (m - k) 0)) k (ints .i64 (List.replicate q v)) = ints .i64 (List.replicate (k + q) v ++ List.replicate (m - (k + q)) 0) := by
  have e1 : List.replicate (k + q) v = List.replicate k v ++ List.replicate q v := by simp
  rw [e1]
  simp only [splice, ints, List.map_append, List.map_replicate, List.length_replicate, List.append_assoc]
  rw [List.take_append_of_le_length (by simp), List.drop_append]
  simp
  omega
set_option maxRecDepth 100000 in
set_option maxHeartbeats 1000000 in
theorem repeat_calls (w : World) (b c m : Nat) (v : Int) (hc : w.cell? ⟨b, 0, none⟩ = some (.int .i64 v)) (hm1 : 1 ≤ m) (hm : m ≤ 1000000) :
    Calls Tryd.prog 34 #[.slice (some ⟨b, 0, none⟩) 1 c, .int .i64 m] w fun e w' => ∃ g, e = .returned (.slice (some ⟨g, 0, none⟩) m m) ∧ Blk w' g 3 (ints .i64 (List.replicate m v)) ∧ w.heap.size ≤ g ∧ Below w.heap.size w w' := by
  have hbl : b < w.heap.size := World.block_lt_of_cell? _ _ hc
  have e0 : IntKind.u64.wrap (m : Int) = m := wraps_u64 _ (by omega) (by omega)
  have e1 : IntKind.u64.wrap 1 = 1 := rfl
  have e2 : decide ((0 : Int) < 0) = false := rfl
  have e4 : decide ((m : Int) < 0) = false := by simp
  have hmk := fun w => make_ints (P := Tryd.prog) w 51 3 .i64 8 Tryd.underlying51 info_int (m : Int) m rfl (by omega) (by omega)
  go_enter Tryd.func34, Tryd.ntmps34
  go_wp2_with fail
  refine (mul_calls _ _ hm).mono ?_
  rintro e w' ⟨rfl, rfl⟩
  have e3 : decide ((9223372036854775807 : Int) < (m : Int)) = false := by simp; omega
  go_wp2_with (with_reducible refine wpList_copy_splice rfl (.tmp 31) (.tmp 32) _ _ rfl 3 Tryd.underlying51 size_int _ _ _ _ _ _ rfl rfl w.heap.size 0 (ints .i64 (List.replicate m 0)) 3 ?h1 (ints .i64 [v]) ?h2 ?h3 ?h4 ?h5 w.heap.size w ?h6 (Nat.le_refl _) ?_)
  case h1 => exact blk_new w _ _
  case h2 => exact (Nat.min_eq_left hm1).symm
  case h3 =>
    intro _ j u hu
    match j, hu with
    | 0, hu =>
      simp [ints] at hu
      subst hu
      exact hc
    | j + 1, hu => simp [ints] at hu
  case h4 => simp [ints]; omega
  case h5 => intro u hu; simp only [ints, List.mem_map] at hu; obtain ⟨x, _, rfl⟩ := hu; rfl
  case h6 => exact (Below.refl _ _).alloc (Nat.le_refl _) _
  intro w1 hg1 hb1
  have hB : Blk w1 w.heap.size 3 (splice (ints .i64 (List.replicate m 0)) 0 (ints .i64 [v])) := hg1.out
  have hsp : splice (ints .i64 (List.replicate m 0)) 0 (ints .i64 [v]) = ints .i64 (List.replicate 1 v ++ List.replicate (m - 1) 0) := by
    simp [splice, ints]
  rw [hsp] at hB
  clear hg1 hsp hmk hc
  have HB := Lib.hid hB
  have HW := Lib.hid hb1
  clear hB hb1 e0 e1 e2 e3 e4
  go_wp2_with fail
  go_loopw [8] (fun v8 wr => ∃ k : Nat, 1 ≤ k ∧ k ≤ m ∧ v8 = .int .i64 k ∧ Hid (Blk wr w.heap.size 3 (ints .i64 (List.replicate k v ++ List.replicate (m - k) 0))) ∧ Hid (Below w.heap.size w wr)) (fun v8 _ => m - (intOf v8).toNat)
  case atStart => exact ⟨1, by omega, by omega, by go_num, HB, HW⟩
  case round =>
    clear HB HW
    obtain ⟨k, hk1, hk, rfl, HB, HW⟩ := hrel
    by_cases hlt : k < m
    · go_wp2_with fail
      have HLT := Lib.hid hlt
      obtain ⟨q, hq⟩ : ∃ q, q = Nat.min k (m - k) := ⟨_, rfl⟩
      have hq1 : 1 ≤ q := by rw [hq]; exact Nat.le_min.2 ⟨hk1, by omega⟩
      have hq2 : q ≤ m - k := by rw [hq]; exact Nat.min_le_right _ _
      have hq3 : q ≤ k := by rw [hq]; exact Nat.min_le_left _ _
      have HQ := Lib.hid hq
      clear hq
      have hlen : (ints .i64 (List.replicate q v)).length = q := by simp [ints]
      have HLEN := Lib.hid hlen
      have e2 : IntKind.i64.wrap ((k : Int) + (q : Int)) = (k : Int) + (q : Int) := IntWalk.i64_in _ (by omega)
      have e9 : ¬ m = k := by omega
      have HN := Lib.hid e9
      go_region_law (refine step_copy_splice rfl (.tmp 41) (.tmp 44) _ _ rfl 3 Tryd.underlying51 size_int (some ⟨w.heap.size, k, none⟩) (some ⟨w.heap.size, 0, none⟩) (m - k) (m - k) k m (by simp [Act.eval, Act.put, HN.out]) (by simp [Act.eval, Act.put]) w.heap.size k (ints .i64 (List.replicate k v ++ List.replicate (m - k) 0)) 3 (by exact HB.out) (ints .i64 (List.replicate q v)) (by exact HLEN.out.trans HQ.out) (fun _ => ⟨rfl, _, rfl, by exact rep_src HB.out _ hq3⟩) (by exact rep_fit hq2 HLT.out) (by exact ints_one _ _) w.heap.size w (by exact HW.out.drew) (Nat.le_refl _) ?_; intro w4 hg4 hb4)
      all_goals
        have hB4 : Blk w4 w.heap.size 3 (splice (ints .i64 (List.replicate k v ++ List.replicate (m - k) 0)) k (ints .i64 (List.replicate q v))) := hg4.out
        rw [rep_splice hq2 HLT.out] at hB4
        have HB4 := Lib.hid hB4
        have HW4 := Lib.hid hb4
        clear hB4 hb4 hg4 HB HW e9 hlen e2
        go_wp2_with fail
        go_roundw
        case rel => exact ⟨.int .i64 ((k : Int) + q), _, _, _, _, _, _, _, _, _, _, _, _, _, ⟨k + q, by omega, by omega, by go_num, HB4, HW4⟩, rfl⟩
        case measure =>
          show m - (intOf (.int .i64 ((k : Int) + q))).toNat < m - (intOf (.int .i64 (k : Int))).toNat
          simp [intOf]; omega
    · go_wp2_with fail
      obtain rfl : k = m := by omega
      go_ret
      exact ⟨_, rfl, by simpa using HB.out, Nat.le_refl _, HW.out⟩
theorem repeat_calls' (w : World) (b c m : Nat) (mi v : Int) (hmi : mi = m) (hc : w.cell? ⟨b, 0, none⟩ = some (.int .i64 v)) (hm1 : 1 ≤ m) (hm : m ≤ 1000000) :
    Calls Tryd.prog 34 #[.slice (some ⟨b, 0, none⟩) 1 c, .int .i64 mi] w fun e w' => ∃ g, e = .returned (.slice (some ⟨g, 0, none⟩) m m) ∧ Blk w' g 3 (ints .i64 (List.replicate m v)) ∧ w.heap.size ≤ g ∧ Below w.heap.size w w' := by
  subst hmi
  exact repeat_calls w b c m v hc hm1 hm
end Go.Proofs.YtkpabdjniiepkaaDoor


set_option linter.unusedVariables false
set_option linter.unusedSimpArgs false
namespace Go.Proofs.YtkpabdjniiepkaaDoor
open Go.RowKit
/-- 's[l:]': where it begins. -/
def cutA (A : Option Addr) (l c : Nat) : Option Addr := if c = l then A else A.map (·.add l)
theorem cutA_nil {A : Option Addr} {l c n : Nat} (h : A = none → n = 0 ∧ c = 0) : cutA A l c = none → n - l = 0 ∧ c - l = 0 := by
  unfold cutA
  intro e
  have : A = none := by
    split at e
    · exact e
    · simpa using e
  have := h this
  omega
theorem cutA_pl {A : Option Addr} {l c : Nat} (h : ∀ ad, A = some ad → ∃ b o, ad = ⟨b, o, none⟩) : ∀ ad, cutA A l c = some ad → ∃ b o, ad = ⟨b, o, none⟩ := by
  intro ad e
  unfold cutA at e
  split at e
  · exact h ad e
  · obtain ⟨a, ha, rfl⟩ := Option.map_eq_some_iff.1 e
    obtain ⟨b, o, rfl⟩ := h a ha
    exact ⟨b, o + l, add_plain2 b o l⟩
theorem cutA_blk {A : Option Addr} {l c : Nat} (h : ∀ ad, A = some ad → ∃ b o, ad = ⟨b, o, none⟩) : ∀ ad, cutA A l c = some ad → ∃ a, A = some a ∧ ad.block = a.block := by
  intro ad e
  unfold cutA at e
  split at e
  · exact ⟨ad, e, rfl⟩
  · obtain ⟨a, ha, rfl⟩ := Option.map_eq_some_iff.1 e
    obtain ⟨b, o, rfl⟩ := h a ha
    exact ⟨_, ha, by rw [add_plain2]⟩
theorem RI.cut {k : IntKind} {w : World} {A : Option Addr} {n c : Nat} {xs : List Int} (h : RI k w A n xs) (hpl : ∀ ad, A = some ad → ∃ b o, ad = ⟨b, o, none⟩) {l : Nat} (hl : l ≤ n) (hc : n ≤ c) : RI k w (cutA A l c) (n - l) (xs.drop l) := by
  have hlen := h.len
  refine ⟨by rw [List.length_drop, hlen], fun hp => ?_, fun b o ha j hj => ?_⟩
  · obtain ⟨b, o, rfl⟩ := h.hd (by omega)
    unfold cutA
    rw [if_neg (by omega)]
    exact ⟨b, o + l, by simp [add_plain2]⟩
  · unfold cutA at ha
    rw [if_neg (by omega)] at ha
    obtain ⟨b', o', rfl⟩ := h.hd (by omega)
    simp [add_plain2] at ha
    obtain ⟨rfl, rfl⟩ := ha
    rw [Nat.add_assoc, h.cell b' o' rfl (l + j) (by omega)]
    simp [nth, List.getD]
theorem slice_from8 (w : World) (A : Option Addr) (n c l : Nat) (li : Int) (hli : li = l) (hl : l ≤ n) :
    (Instr.slice 22 (.slice A n c) (some (.int .i64 li)) none none).run Tryd.prog w = .ok (.slice (cutA A l c) (n - l) (c - l)) w := by
  subst hli
  rw [run_slice_l w 22 A n c (by kernel_rfl) .i64 l (by omega) (by omega)]
  have hs : (sizeOf (Tryd.prog.elem 22)).run Tryd.prog w = .ok 1 w := by kernel_rfl
  rw [hs]
  simp [Result.andThen, sliced, cutA]
end Go.Proofs.YtkpabdjniiepkaaDoor

set_option linter.unusedVariables false
set_option linter.unusedSimpArgs false
namespace Go.Proofs.YtkpabdjniiepkaaDoor
open Go.RowKit
/-- A slice's room. -/
def CapOk (A : Option Addr) (n c : Nat) : Prop := n ≤ c ∧ c ≤ maxLen ∧ (0 < c → ∃ b o, A = some ⟨b, o, none⟩)
theorem slice_to8 (w : World) (A : Option Addr) (n c l : Nat) (li : Int) (hli : li = l) (hl : l ≤ n) (hc : CapOk A n c) :
    (Instr.slice 22 (.slice A n c) none (some (.int .i64 li)) none).run Tryd.prog w = .ok (.slice A l c) w := by
  obtain ⟨h1, -, h3⟩ := hc
  subst hli
  rw [run_slice_h w 22 A n c (by kernel_rfl) .i64 l (by omega) (by omega)]
  have hs : (sizeOf (Tryd.prog.elem 22)).run Tryd.prog w = .ok 1 w := by kernel_rfl
  rw [hs]
  by_cases h0 : c = 0
  · subst h0
    simp [Result.andThen, sliced]
  · obtain ⟨b, o, rfl⟩ := h3 (by omega)
    simp [Result.andThen, sliced, add_plain2]
/-- 's[l:h]'. -/
theorem slice_mid8 (w : World) (A : Option Addr) (n c l h : Nat) (li hi : Int) (hli : li = l) (hhi : hi = h) (hl : l ≤ h) (hh : h ≤ n) (hc : CapOk A n c) :
    (Instr.slice 22 (.slice A n c) (some (.int .i64 li)) (some (.int .i64 hi)) none).run Tryd.prog w = .ok (.slice (cutA A l c) (h - l) (c - l)) w := by
  obtain ⟨h1, -, h3⟩ := hc
  subst hli
  subst hhi
  rw [run_slice_lh w 22 A n c (by kernel_rfl) .i64 .i64 l h (by omega) (by omega) (by omega)]
  have hs : (sizeOf (Tryd.prog.elem 22)).run Tryd.prog w = .ok 1 w := by kernel_rfl
  rw [hs]
  simp [Result.andThen, sliced, cutA]
/-- What stands in 's[l:h]'. -/
theorem RI.mid {k : IntKind} {w : World} {A : Option Addr} {n c : Nat} {xs : List Int} (h : RI k w A n xs) (hc : CapOk A n c) {l m : Nat} (hl : l ≤ m) (hm : m ≤ n) : RI k w (cutA A l c) (m - l) ((xs.take m).drop l) := by
  obtain ⟨h1, -, h3⟩ := hc
  have hlen := h.len
  refine ⟨by rw [List.length_drop, List.length_take, hlen]; omega, fun hp => ?_, fun b o ha j hj => ?_⟩
  · obtain ⟨b, o, rfl⟩ := h3 (by omega)
    unfold cutA
    rw [if_neg (by omega)]
    exact ⟨b, o + l, by simp [add_plain2]⟩
  · unfold cutA at ha
    rw [if_neg (by omega)] at ha
    obtain ⟨b', o', rfl⟩ := h3 (by omega)
    simp [add_plain2] at ha
    obtain ⟨rfl, rfl⟩ := ha
    rw [Nat.add_assoc, h.cell b' o' rfl (l + j) (by omega)]
    have e : nth ((xs.take m).drop l) j = nth xs (l + j) := by
      rw [← nth_take xs m (l + j) (by omega)]
      simp [nth, List.getD]
    rw [e]
theorem cut_nil_mid {A : Option Addr} {n c l m : Nat} (hc : CapOk A n c) (hnil : A = none → n = 0 ∧ c = 0) (hl : l ≤ m) (hm : m ≤ n) : cutA A l c = none → m - l = 0 ∧ c - l = 0 := by
  intro e
  have := cutA_nil (l := l) hnil e
  omega
theorem CapOk.mid {A : Option Addr} {n c l m : Nat} (hc : CapOk A n c) (hl : l ≤ m) (hm : m ≤ n) : CapOk (cutA A l c) (m - l) (c - l) := by
  obtain ⟨h1, h2, h3⟩ := hc
  refine ⟨by omega, by omega, fun hp => ?_⟩
  obtain ⟨b, o, rfl⟩ := h3 (by omega)
  unfold cutA
  rw [if_neg (by omega)]
  exact ⟨b, o + l, by simp [add_plain2]⟩
theorem CapOk.to {A : Option Addr} {n c l : Nat} (hc : CapOk A n c) (hl : l ≤ n) : CapOk A l c := ⟨Nat.le_trans hl hc.1, hc.2⟩
theorem own_cap {w : World} {base : Nat} {e : TypeId} {A : Option Addr} {n c : Nat} {k : IntKind} {xs : List Int} (h : w.ownsRow base e 1 (.slice A n c) n (ints k xs)) : CapOk A n c := by
  rcases h.2 with ⟨hv, rfl⟩ | ⟨g, cap, cur, hv, hb, hh, hc, hm, _⟩
  · injection hv with h1 h2 h3; subst h1; subst h3
    exact ⟨Nat.le_refl _, Nat.zero_le _, fun h => by omega⟩
  · injection hv with h1 h2 h3; subst h1; subst h3
    exact ⟨hc, hm, fun _ => ⟨g, 0, rfl⟩⟩
end Go.Proofs.YtkpabdjniiepkaaDoor

set_option linter.unusedVariables false
set_option linter.unusedSimpArgs false
/-! deflate.Fixed. -/
namespace Go.Proofs.YtkpabdjniiepkaaDoor
open Go.RowKit
/-- A block of bytes is told, or an error. -/
def Outp (w : World) (E : Int) (P : List Int → Prop) (e : Ending) (w' : World) : Prop :=
  (E = 0 ∧ ∃ g n c xs, e = .returned (.tuple #[.slice (some ⟨g, 0, none⟩) n c, .int .i64 0]) ∧ RI .u8 w' (some ⟨g, 0, none⟩) n xs ∧ w.heap.size ≤ g ∧ P xs ∧ Below w.heap.size w w' ∧ CapOk (some ⟨g, 0, none⟩) n c) ∨
  (E ≠ 0 ∧ e = .returned (.tuple #[.slice none 0 0, .int .i64 E]) ∧ Below w.heap.size w w')
theorem blk_pt {w w' : World} {g k : Nat} {t : TypeId} {cs : List Value} (ht : t ≠ 5) (hk : k ≠ g) (h : Blk w k t cs) (hp : PT g w w') : Blk w' k t cs :=
  (hp.same k h.lt hk (fun ⟨c, f, hc⟩ => by
    have h2 : w.heap[k]? = _ := h
    rw [h2] at hc
    injection hc with hc
    injection hc with _ h2 _
    exact ht h2)).trans h
theorem ri_belowT {w w' : World} {B n : Nat} {k : IntKind} {A : Option Addr} {xs : List Int} (h : RI k w A n xs) (ha : ∀ a, A = some a → a.block < B) (hb : Below B w w') : RI k w' A n xs :=
  ⟨h.len, h.hd, fun b o e j hj => by
    have h1 := h.cell b o e j hj
    exact (World.cell?_of_block (a := ⟨b, o + j, none⟩) (hb.block b (ha _ e))).trans h1⟩
theorem rt_below {w w' : World} {B n : Nat} {A : Option Addr} {ts : List Tok} (h : RT w A n ts) (ha : ∀ a, A = some a → a.block < B) (hb : Below B w w') : RT w' A n ts :=
  ⟨h.len, h.hd, fun b o e j hj => by
    obtain ⟨h1, h2, h3⟩ := h.cell b o e j hj
    have hbb := hb.block b (ha _ e)
    exact ⟨(World.cell?_of_block (a := ⟨b, o + j * 3, none⟩) hbb).trans h1, (World.cell?_of_block (a := ⟨b, o + j * 3 + 1, none⟩) hbb).trans h2, (World.cell?_of_block (a := ⟨b, o + j * 3 + 2, none⟩) hbb).trans h3⟩⟩
theorem cap_nn {g n : Nat} (h : n ≤ 1000000) : CapOk (some ⟨g, 0, none⟩) n n := ⟨Nat.le_refl _, by unfold maxLen; omega, fun _ => ⟨_, _, rfl⟩⟩
theorem blk_rep {w : World} {g n : Nat} {v : Int} (h : Blk w g 3 (ints .i64 (List.replicate n v))) : RI .i64 w (some ⟨g, 0, none⟩) n (List.replicate n v) := by
  have := Blk.ri (xs := List.replicate n v) (ys := []) (by rw [List.append_nil]; exact h)
  rwa [List.length_replicate] at this
set_option maxRecDepth 100000 in
set_option maxHeartbeats 2000000 in
theorem dfixed_calls (w : World) (At : Option Addr) (nt ct : Nat) (ts : List Tok) (ht : RT w At nt ts) (ha : ∀ a, At = some a → a.block < w.heap.size) (hl : LitOk ts) (hn : nt ≤ 140737488355328) :
    Calls Tryd.prog 17 #[.slice At nt ct] w (Outp w (checkT ts 0) (fun xs => WB xs (fixB ts))) := by
  have HT := Lib.hid ht
  have HA := Lib.hid ha
  have HL := Lib.hid hl
  have HLT : Hid (ts.length = nt) := Lib.hid ht.len
  clear ht ha hl
  go_enter Tryd.func17, Tryd.ntmps17
  go_wp2_with fail
  refine (tcheck_calls w At nt ct ts HT.out hn).mono ?_
  rintro _ w1 ⟨rfl, hk1⟩
  have K1 := Lib.hid hk1
  clear hk1
  by_cases hE : checkT ts 0 = 0
  · have HC := Lib.hid hE
    have HX0 : Hid ((expandF 16384 ts []).2 = 0) := Lib.hid ((checkT_expand ts []).trans hE)
    have hmany := check_many hE
    rw [hE]
    clear hE
    have hnt : nt ≤ 16384 := by rw [← HLT.out]; exact hmany
    go_wp2_with fail
    refine (repeat_calls' _ w1.heap.size 1 144 144 8 rfl (by simp) (by omega) (by omega)).mono ?_
    rintro _ w2 ⟨g1, rfl, hb1, hg1, hB1⟩
    have KK : Keeps [] w1 w2 := ((Keeps.refl [] w1).alloc _).trans (Keeps.of_below hB1)
    have B1 := Lib.hid hb1
    have K2 := Lib.hid (K1.out.trans KK)
    clear hb1 hg1 hB1 KK
    go_wp2_with fail
    refine (repeat_calls' _ w2.heap.size 1 112 112 9 rfl (by simp) (by omega) (by omega)).mono ?_
    rintro _ w3 ⟨g2, rfl, hb1, hg1, hB1⟩
    have KK : Keeps [] w2 w3 := ((Keeps.refl [] w2).alloc _).trans (Keeps.of_below hB1)
    have B2 := Lib.hid hb1
    have B12 := Lib.hid (B1.out.keeps KK (by simp))
    have K3 := Lib.hid (K2.out.trans KK)
    clear hb1 hg1 hB1 KK
    go_wp2_with fail
    refine (repeat_calls' _ w3.heap.size 1 24 24 7 rfl (by simp) (by omega) (by omega)).mono ?_
    rintro _ w4 ⟨g3, rfl, hb1, hg1, hB1⟩
    have KK : Keeps [] w3 w4 := ((Keeps.refl [] w3).alloc _).trans (Keeps.of_below hB1)
    have B3 := Lib.hid hb1
    have B13 := Lib.hid (B12.out.keeps KK (by simp))
    have B23 := Lib.hid (B2.out.keeps KK (by simp))
    have K4 := Lib.hid (K3.out.trans KK)
    clear hb1 hg1 hB1 KK
    go_wp2_with fail
    refine (repeat_calls' _ w4.heap.size 1 8 8 8 rfl (by simp) (by omega) (by omega)).mono ?_
    rintro _ w5 ⟨g4, rfl, hb1, hg1, hB1⟩
    have KK : Keeps [] w4 w5 := ((Keeps.refl [] w4).alloc _).trans (Keeps.of_below hB1)
    have B4 := Lib.hid hb1
    have B14 := Lib.hid (B13.out.keeps KK (by simp))
    have B24 := Lib.hid (B23.out.keeps KK (by simp))
    have B34 := Lib.hid (B3.out.keeps KK (by simp))
    have K5 := Lib.hid (K4.out.trans KK)
    clear hb1 hg1 hB1 KK B1 B12 B13 B2 B23 B3 K1 K2 K3 K4
    obtain ⟨w6, hw6⟩ : ∃ x, x = w5.alloc (.cells #[.slice (some ⟨g1, 0, none⟩) 144 144, .slice (some ⟨g2, 0, none⟩) 112 112, .slice (some ⟨g3, 0, none⟩) 24 24, .slice (some ⟨g4, 0, none⟩) 8 8] 51) := ⟨_, rfl⟩
    have hbx : Blk w6 w5.heap.size 51 [.slice (some ⟨g1, 0, none⟩) 144 144, .slice (some ⟨g2, 0, none⟩) 112 112, .slice (some ⟨g3, 0, none⟩) 24 24, .slice (some ⟨g4, 0, none⟩) 8 8] := by rw [hw6]; exact blk_new w5 _ [.slice (some ⟨g1, 0, none⟩) 144 144, .slice (some ⟨g2, 0, none⟩) 112 112, .slice (some ⟨g3, 0, none⟩) 24 24, .slice (some ⟨g4, 0, none⟩) 8 8]
    have K6 := Lib.hid (show Keeps [] w5 w6 by rw [hw6]; exact (Keeps.refl [] w5).alloc _)
    have HCC := Lib.hid (concat4_calls w6 w5.heap.size g1 g2 g3 g4 144 112 24 8 144 112 24 8 _ _ _ _ (hbx.cell 0) (hbx.cell 1) (hbx.cell 2) (hbx.cell 3) (blk_rep (B14.out.keeps K6.out (by simp))) (blk_rep (B24.out.keeps K6.out (by simp))) (blk_rep (B34.out.keeps K6.out (by simp))) (blk_rep (B4.out.keeps K6.out (by simp))) (by omega) (by omega) (by omega) (by omega))
    clear hbx B14 B24 B34 B4
    go_wp2_with fail
    change Calls _ _ _ (w5.alloc (.cells #[.slice (some ⟨g1, 0, none⟩) 144 144, .slice (some ⟨g2, 0, none⟩) 112 112, .slice (some ⟨g3, 0, none⟩) 24 24, .slice (some ⟨g4, 0, none⟩) 8 8] 51)) _
    rw [← hw6]
    refine HCC.out.mono ?_
    rintro _ w7 ⟨vl, rfl, ho, hb⟩
    obtain ⟨AL, cl, rfl⟩ := own_formW ho
    have hol : w7.ownsRow w6.heap.size 3 1 (.slice AL 288 cl) 288 (ints .i64 fixLit) := ho
    have HOL := Lib.hid hol
    have K7 := Lib.hid (K5.out.trans (K6.out.trans (Keeps.of_below hb)))
    clear hol ho hb HCC hw6 K5 K6
    go_wp2_with fail
    refine (newWriter_calls w7).mono ?_
    rintro _ w8 ⟨rfl, hwr, hb8⟩
    have HW := Lib.hid hwr
    have hg8 := hwr.lt
    have K8 := Lib.hid (K7.out.trans (Keeps.of_below hb8))
    have HOL8 := Lib.hid (own_keeps HOL.out (Keeps.of_below hb8 (S := [])) (by simp))
    have HALo : Hid (∀ a, AL = some a → a.block < w7.heap.size) := Lib.hid (fun a h => (own_hi HOL.out a.block (by rw [h]; rfl)))
    have h7 := K7.out.size
    clear hwr hb8 HOL K7
    generalize w7.heap.size = g at *
    go_wp2_with fail
    refine (put_calls _ g [] 1 1 HW.out (by omega) (by omega) (by omega) (by decide) (by simp)).mono ?_
    rintro _ w9 ⟨rfl, hw9, hb9, hp9⟩
    have HW9 := Lib.hid hw9
    have HB9 := Lib.hid hb9
    have HP9 := Lib.hid hp9
    clear hw9 hb9 hp9 HW
    go_wp2_with fail
    refine (put_calls _ g _ 1 2 HW9.out (by omega) (by omega) (by omega) (by decide) (by simp [vbits_len])).mono ?_
    rintro _ w10 ⟨rfl, hw10, hb10, hp10⟩
    have HW10 : Hid (Wtr w10 g [1, 1, 0]) := Lib.hid hw10
    have HB10 := Lib.hid (HB9.out.trans hb10)
    have HP10 := Lib.hid (HP9.out.trans hp10)
    clear hw10 hb10 hp10 HW9 HB9 HP9
    go_wp2_with fail
    refine (repeat_calls' _ w10.heap.size 1 32 32 5 rfl (by simp) (by omega) (by omega)).mono ?_
    rintro _ w11 ⟨g5, rfl, hb5, hg5, hB5⟩
    have KK : Keeps [] w10 w11 := ((Keeps.refl [] w10).alloc _).trans (Keeps.of_below hB5)
    have HB5 := Lib.hid hb5
    have hgl := HW10.out.lt
    have hg5' : g5 ≠ g := by simp at hg5; omega
    have HW11 := Lib.hid (HW10.out.keeps KK (by simp))
    have HB11 := Lib.hid (HB10.out.trans (below_lower KK.below (Nat.le_of_lt hgl)))
    have HP11 := Lib.hid (HP10.out.trans (PT.of_keeps KK))
    clear hb5 hg5 hB5 KK HW10 HB10 HP10
    have hwg : w.heap.size ≤ g := h7
    have hAt : ∀ a, At = some a → a.block < g := fun a h => Nat.lt_of_lt_of_le (HA.out a h) hwg
    have HAL := Lib.hid hAt
    have HR8 := Lib.hid (HT.out.keeps K8.out (off_nil _))
    clear hAt
    go_wp2_with fail
    refine (dlay_calls w11 g [1, 1, 0] At AL (some ⟨g5, 0, none⟩) nt 288 32 ct cl 32 ts fixLit fixDist HW11.out (by simp) (fun w' h1 h2 => rt_below HR8.out HAL.out (HB11.out.trans h1))
      (fun w' h1 h2 => ?hx) (fun w' h1 h2 => blk_rep (blk_pt (by decide) hg5' HB5.out h2)) hnt (by omega) (by omega) fix_lit (fix_tells 256 (by decide)) (fix_toks HL.out HX0.out) (expand_toks ts [] HX0.out)).mono ?_
    case hx =>
      obtain ⟨A', c', hv, hr, -⟩ := own_ri HOL8.out
      injection hv with q1 q2 q3
      subst q1
      exact ri_belowT hr HALo.out (HB11.out.trans h1)
    rintro _ w12 ⟨⟨v0, rfl⟩, hw12, hb12, hp12⟩
    have HW12 := Lib.hid hw12
    have HB12 := Lib.hid (HB11.out.trans hb12)
    have HLEN : Hid (([1, 1, 0] ++ (toksB fixLit fixDist ts ++ cbit fixLit 256) : List Int).length ≤ 1000000) := Lib.hid (by
      have h1 := toksB_len (lit := fixLit) (dist := fixDist) ts (fix_toks HL.out HX0.out) (expand_toks ts [] HX0.out)
      have h2 := (tells_bits (fix_tells 256 (by decide))).2
      simp only [List.length_append, List.length_cons, List.length_nil]; omega)
    clear hw12 hb12 hp12 HW11 HB11 HP11
    go_wp2_with fail
    refine (bytes_calls w12 g _ HW12.out (by have := HLEN.out; omega)).mono ?_
    rintro _ w13 ⟨n, xs, rfl, hri, hwb, hb13⟩
    have HRI := Lib.hid hri
    have HWB := Lib.hid hwb
    have HB13 := Lib.hid (K8.out.below.trans (below_lower (HB12.out.trans (below_lower hb13 (Nat.le_trans (Nat.le_of_lt hg8) HB12.out.size))) hwg))
    have HSZ := Lib.hid (Nat.le_trans (Nat.le_trans hwg (Nat.le_of_lt hg8)) HB12.out.size)
    clear hri hwb hb13
    go_wp2_with fail
    go_ret2
    exact .inl ⟨HC.out, _, _, _, _, rfl, HRI.out, HSZ.out, HWB.out, HB13.out, cap_nn (by have := HRI.out.len; have := HWB.out.len; have := HLEN.out; omega)⟩
  · have e1 : (checkT ts 0 != 0) = true := by simpa using hE
    have e2 : decide (checkT ts 0 = 0) = false := by simpa using hE
    have HE := Lib.hid hE
    clear hE
    go_wp2_with fail
    go_ret2
    exact .inr ⟨HE.out, rfl, K1.out.below⟩
end Go.Proofs.YtkpabdjniiepkaaDoor

set_option linter.unusedVariables false
set_option linter.unusedSimpArgs false
/-! An append that also tells where the row lies behind it. -/
namespace Go.Proofs.YtkpabdjniiepkaaDoor
open Go.RowKit
/-- A row of bytes whose room holds bytes, too. -/
def AllU8 (w : World) (v : Value) : Prop := ∀ k, v.ownBlock = some k → ∃ cur : Array Value, w.heap[k]? = some (.cells cur 5 (0, 0)) ∧ ∀ u ∈ cur.toList, ∃ n, u = .int .u8 n
theorem AllU8.nil (w : World) : AllU8 w (.slice none 0 0) := fun k hk => by simp [Value.ownBlock] at hk
theorem AllU8.keeps {w w' : World} {v : Value} {S : List Nat} (h : AllU8 w v) (hk : Keeps S w w') (hS : ∀ k, v.ownBlock = some k → k ∉ S) : AllU8 w' v := fun k hv => by
  obtain ⟨cur, h1, h2⟩ := h k hv
  exact ⟨cur, hk.heap h1 (hS k hv), h2⟩
theorem zeroCells_u8 (n : Nat) : ∀ u ∈ (Builtin.zeroCells (Value.int .u8 0).cells n).toList, ∃ k, u = .int .u8 k := by
  intro u hu
  have hz : (Value.int .u8 0).cells = #[.int .u8 0] := rfl
  rw [hz] at hu
  simp only [Builtin.zeroCells, Array.toList_map, List.mem_map] at hu
  obtain ⟨i, _, rfl⟩ := hu
  exact ⟨0, by simp [Nat.mod_one]⟩
theorem ints_u8 {xs : List Int} : ∀ u ∈ ints .u8 xs, ∃ k, u = .int .u8 k := by
  intro u hu
  simp only [ints, List.mem_map] at hu
  obtain ⟨x, _, rfl⟩ := hu
  exact ⟨x, rfl⟩
theorem run_append_u8 {P : Program} (w : World) (base : Nat) (t ty : TypeId) (i : TypeInfo) (bytes : Nat) (ht : P.underlying t = some (.slice 5)) (hi : P.info? 5 = some i) (hz : i.zero = some (.int .u8 0))
    (hsize : i.size = 1) (hby : i.bytes = bytes)
    (v : Value) (n : Nat) (xs : List Value) (hown : w.ownsRow base 5 1 v n xs)
    (a : Addr) (m c : Nat) (ys : List Int) (hl : (ints .u8 ys).length = m * 1) (hnews : ∀ j u, (ints .u8 ys)[j]? = some u → w.cell? (a.add j) = some u) (h1 : ∀ u ∈ ints .u8 ys, u.oneCell' = true)
    (h63 : n + m ≤ maxLen) (hbytes : (n + m) * bytes ≤ 140737488355328) (hU : AllU8 w v) :
    ∃ v' w', (Builtin.append_ #[t, t] ty #[v, .slice (some a) m c]).run P w = .ok v' w' ∧ AllU8 w' v' := by
  rw [← hsize] at hown hl
  subst hby
  have hsmall : n + m ≤ 9223372036854775807 := by simp only [maxLen] at h63; omega
  have new : ∀ (cells : List Value) (k N cap : Nat), (∀ u ∈ cells, ∃ k, u = .int .u8 k) → AllU8 (w.drew.alloc (.cells (cells.toArray ++ Builtin.zeroCells (Value.int .u8 0).cells k) 5)) (.slice (some ⟨w.heap.size, 0, none⟩) N cap) := fun cells k N cap hc => by
    intro b hb
    have e : w.heap.size = b := by simpa [Value.ownBlock] using hb
    subst e
    refine ⟨_, heap_alloc_new w.drew _, fun u hu => ?_⟩
    rw [Array.toList_append] at hu
    rcases List.mem_append.1 hu with h | h
    · exact hc u h
    · exact zeroCells_u8 k u h
  rcases hown.2 with ⟨rfl, rfl⟩ | ⟨g, cap, cur, rfl, hbg, hg, hnc, hcm, hcs, htake⟩
  · by_cases hm : m = 0
    · subst hm
      have hn : ints .u8 ys = [] := List.eq_nil_of_length_eq_zero (by simpa using hl)
      refine ⟨.slice none 0 0, w, ?_, hU⟩
      simp [Builtin.append_, run_underlying ht, sizeOf, typeInfo, hi, Builtin.lenOf, Builtin.firstCells, loadCells, loadCellsFrom]
    · have hr := run_append_nil (P := P) w t ty 5 i (.int .u8 0) ht hi hz a m c (ints .u8 ys) hl hnews (by omega) (by omega) (by have hb := hbytes; simp only [Nat.zero_add] at hb; omega)
      exact ⟨_, _, hr, new _ _ _ _ ints_u8⟩
  · obtain ⟨cur', hg', hall⟩ := hU g rfl
    have hcc : cur' = cur := by
      rw [hg] at hg'
      injection hg' with hg'
      injection hg' with hg' _ _
      exact hg'.symm
    subst hcc
    by_cases hroom : n + m ≤ cap
    · have hfit : n * i.size + (ints .u8 ys).length ≤ cur'.size := by rw [hl, hcs, ← Nat.add_mul]; exact Nat.mul_le_mul_right _ hroom
      have hr := run_append_room (P := P) w t ty 5 i ht hi g n cap cur' hg a m c (ints .u8 ys) hl hnews h1 hroom hfit
      refine ⟨_, _, hr, fun b hb => ?_⟩
      have e : g = b := by simpa [Value.ownBlock] using hb
      subst e
      refine ⟨_, setRow_heap w g cur' _ 5 _ hg, fun u hu => ?_⟩
      simp only [List.mem_append] at hu
      rcases hu with (h | h) | h
      · exact hall u (List.mem_of_mem_take h)
      · exact ints_u8 u h
      · exact hall u (List.mem_of_mem_drop h)
    · have holds : ∀ j u, xs[j]? = some u → w.cell? ((⟨g, 0, none⟩ : Addr).add j) = some u := hown.cells (g := g) rfl
      have hr := run_append_grow (P := P) w t ty 5 i (.int .u8 0) ht hi hz ⟨g, 0, none⟩ n cap xs hown.1 holds a m c (ints .u8 ys) hl hnews (by omega) (by omega) (growslice_fits (by omega) hbytes)
      refine ⟨_, _, hr, ?_⟩
      have hc : ∀ u ∈ xs ++ ints .u8 ys, ∃ k, u = .int .u8 k := by
        intro u hu
        rcases List.mem_append.1 hu with h | h
        · rw [← htake] at h; exact hall u (List.mem_of_mem_take h)
        · exact ints_u8 u h
      have := new (xs ++ ints .u8 ys) (grownCap w (n + m) cap 5 - (n + m)) (n + m) (grownCap w (n + m) cap 5) hc
      rwa [show (xs ++ ints .u8 ys).toArray = xs.toArray ++ (ints .u8 ys).toArray by simp] at this
theorem run_append_where {P : Program} (w : World) (base : Nat) (t ty e : TypeId) (i : TypeInfo) (z : Value) (size bytes : Nat) (ht : P.underlying t = some (.slice e)) (hi : P.info? e = some i) (hz : i.zero = some z)
    (hsize : i.size = size) (hby : i.bytes = bytes) (hzs : z.cells.size = size) (hsz : 0 < size)
    (v : Value) (n : Nat) (xs : List Value) (hown : w.ownsRow base e size v n xs)
    (a : Addr) (m c : Nat) (news : List Value) (hl : news.length = m * size) (hnews : ∀ j u, news[j]? = some u → w.cell? (a.add j) = some u) (h1 : ∀ u ∈ news, u.oneCell' = true)
    (h63 : n + m ≤ maxLen) (hbytes : (n + m) * bytes ≤ 140737488355328) :
    ∃ v' w', (Builtin.append_ #[t, t] ty #[v, .slice (some a) m c]).run P w = .ok v' w' ∧ (v'.ownBlock = v.ownBlock ∨ v'.ownBlock = some w.heap.size) := by
  subst hsize
  subst hby
  have hsmall : n + m ≤ 9223372036854775807 := by simp only [maxLen] at h63; omega
  rcases hown.2 with ⟨rfl, rfl⟩ | ⟨g, cap, cur, rfl, hbg, hg, hnc, hcm, hcs, htake⟩
  · by_cases hm : m = 0
    · subst hm
      have hn : news = [] := List.eq_nil_of_length_eq_zero (by simpa using hl)
      subst hn
      refine ⟨.slice none 0 0, w, ?_, .inl rfl⟩
      simp [Builtin.append_, run_underlying ht, sizeOf, typeInfo, hi, Builtin.lenOf, Builtin.firstCells, loadCells, loadCellsFrom]
    · have hr := run_append_nil (P := P) w t ty e i z ht hi hz a m c news hl hnews (by omega) (by omega) (by have hb := hbytes; simp only [Nat.zero_add] at hb; omega)
      exact ⟨_, _, hr, .inr rfl⟩
  · by_cases hroom : n + m ≤ cap
    · have hfit : n * i.size + news.length ≤ cur.size := by rw [hl, hcs, ← Nat.add_mul]; exact Nat.mul_le_mul_right _ hroom
      have hr := run_append_room (P := P) w t ty e i ht hi g n cap cur hg a m c news hl hnews h1 hroom hfit
      exact ⟨_, _, hr, .inl rfl⟩
    · have holds : ∀ j u, xs[j]? = some u → w.cell? ((⟨g, 0, none⟩ : Addr).add j) = some u := hown.cells (g := g) rfl
      have hr := run_append_grow (P := P) w t ty e i z ht hi hz ⟨g, 0, none⟩ n cap xs hown.1 holds a m c news hl hnews (by omega) (by omega) (growslice_fits (by omega) hbytes)
      exact ⟨_, _, hr, .inr rfl⟩
theorem app_bytesU {ops : Array Oper} {rest : List Oper} {o : Oper} {a : Act} {Q : Exit → Act → World → Prop} {w : World} (hgd : o.guard = none) (s x : Operand)
    (ho : o.op = .call { callee := .builtin .append, args := #[s, x], argTypes := #[22, 22] })
    (base : Nat) (v : Value) (n : Nat) (xs : List Int) (hs : a.eval s = v) (hown : w.ownsRow base 5 1 v n (ints .u8 xs))
    (A : Option Addr) (m c : Nat) (ys : List Int) (hx : a.eval x = .slice A m c) (hy : RI .u8 w A m ys) (hnil : A = none → m = 0 ∧ c = 0)
    (hn : n + m ≤ 8000000000) (hbase : base ≤ w.heap.size)
    (h : ∀ v' w', w'.ownsRow base 5 1 v' (n + m) (ints .u8 (xs ++ ys)) → w.grownBy w' v.ownBlock → (v'.ownBlock = v.ownBlock ∨ v'.ownBlock = some w.heap.size) → (AllU8 w v → AllU8 w' v') → wpList Tryd.prog ops Q rest (a.put o.dst v') w') : wpList Tryd.prog ops Q (o :: rest) a w := by
  obtain ⟨i0, hi, hz0, hz1, hz2⟩ := info_parts info_u8
  cases A with
  | none =>
    obtain ⟨rfl, rfl⟩ := hnil rfl
    obtain rfl : ys = [] := List.eq_nil_of_length_eq_zero hy.len
    refine wpList_append_own_none hgd s x 22 ho base 5 i0 1 Tryd.underlying22 hi v n (ints .u8 xs) hs hown hx ?_
    exact h v w (by simpa using hown) ⟨rfl, rfl, rfl, Nat.le_refl _, fun _ _ _ => rfl⟩ (.inl rfl) id
  | some ad =>
    have hnews : ∀ j u, (ints .u8 ys)[j]? = some u → w.cell? (ad.add j) = some u := by
      intro j u hu
      have hj : j < m := by have := (List.getElem?_eq_some_iff.1 hu).1; have := hy.len; simp [ints] at *; omega
      obtain ⟨b, of, hab⟩ := hy.hd (by omega)
      obtain rfl := Option.some.inj hab
      rw [add_plain2]
      have hc := hy.cell b of rfl j hj
      rw [hc, ← hu, ints_getElem?]
      simp [nth, List.getD, show j < ys.length by have := hy.len; omega]
    obtain ⟨v', w', hr, h2, h3, -⟩ := run_append_own (P := Tryd.prog) w base 22 o.type 5 i0 (.int .u8 0) 1 1 Tryd.underlying22 hi hz0 hz1 hz2 rfl (by decide) v n (ints .u8 xs) hown ad m c (ints .u8 ys) (by simp [ints, hy.len]) hnews (ints_one' _ _) (by unfold maxLen; omega) (by omega) hbase
    obtain ⟨v2, w2, hr2, h4⟩ := run_append_where (P := Tryd.prog) w base 22 o.type 5 i0 (.int .u8 0) 1 1 Tryd.underlying22 hi hz0 hz1 hz2 rfl (by decide) v n (ints .u8 xs) hown ad m c (ints .u8 ys) (by simp [ints, hy.len]) hnews (ints_one' _ _) (by unfold maxLen; omega) (by omega)
    rw [hr] at hr2
    injection hr2 with e1 e2
    subst e1
    have hu8 : AllU8 w v → AllU8 w' v' := fun hU => by
      obtain ⟨v3, w3, hr3, h5⟩ := run_append_u8 (P := Tryd.prog) w base 22 o.type i0 1 Tryd.underlying22 hi hz0 hz1 hz2 v n (ints .u8 xs) hown ad m c ys (by simp [ints, hy.len]) hnews (ints_one' _ _) (by unfold maxLen; omega) (by omega) hU
      rw [hr] at hr3
      injection hr3 with e3 e4
      subst e3
      subst e4
      exact h5
    refine wpList_plain hgd fun K hK => ?_
    unfold Oper.wp execOp
    simp only [ho, resolve, invoke, builtin, Sem.run_bind, Sem.run_pure, Result.andThen_ok, List.map_toArray, List.map_cons, List.map_nil, hs, hx, hr]
    have e : ints .u8 (xs ++ ys) = ints .u8 xs ++ ints .u8 ys := by simp [ints]
    rw [e] at h
    exact hK _ _ (h v' w' h2 h3 h4 hu8)
theorem app_bytesB {ops : Array Oper} {rest : List Oper} {o : Oper} {a : Act} {Q : Exit → Act → World → Prop} {w : World} (hgd : o.guard = none) (s x : Operand)
    (ho : o.op = .call { callee := .builtin .append, args := #[s, x], argTypes := #[22, 22] })
    (base : Nat) (v : Value) (n : Nat) (xs : List Int) (hs : a.eval s = v) (hown : w.ownsRow base 5 1 v n (ints .u8 xs))
    (A : Option Addr) (m c : Nat) (ys : List Int) (hx : a.eval x = .slice A m c) (hy : RI .u8 w A m ys) (hnil : A = none → m = 0 ∧ c = 0)
    (hn : n + m ≤ 8000000000) (hbase : base ≤ w.heap.size)
    (h : ∀ v' w', w'.ownsRow base 5 1 v' (n + m) (ints .u8 (xs ++ ys)) → w.grownBy w' v.ownBlock → (v'.ownBlock = v.ownBlock ∨ v'.ownBlock = some w.heap.size) → wpList Tryd.prog ops Q rest (a.put o.dst v') w') : wpList Tryd.prog ops Q (o :: rest) a w := by
  obtain ⟨i0, hi, hz0, hz1, hz2⟩ := info_parts info_u8
  cases A with
  | none =>
    obtain ⟨rfl, rfl⟩ := hnil rfl
    obtain rfl : ys = [] := List.eq_nil_of_length_eq_zero hy.len
    refine wpList_append_own_none hgd s x 22 ho base 5 i0 1 Tryd.underlying22 hi v n (ints .u8 xs) hs hown hx ?_
    exact h v w (by simpa using hown) ⟨rfl, rfl, rfl, Nat.le_refl _, fun _ _ _ => rfl⟩ (.inl rfl)
  | some ad =>
    have hnews : ∀ j u, (ints .u8 ys)[j]? = some u → w.cell? (ad.add j) = some u := by
      intro j u hu
      have hj : j < m := by have := (List.getElem?_eq_some_iff.1 hu).1; have := hy.len; simp [ints] at *; omega
      obtain ⟨b, of, hab⟩ := hy.hd (by omega)
      obtain rfl := Option.some.inj hab
      rw [add_plain2]
      have hc := hy.cell b of rfl j hj
      rw [hc, ← hu, ints_getElem?]
      simp [nth, List.getD, show j < ys.length by have := hy.len; omega]
    obtain ⟨v', w', hr, h2, h3, -⟩ := run_append_own (P := Tryd.prog) w base 22 o.type 5 i0 (.int .u8 0) 1 1 Tryd.underlying22 hi hz0 hz1 hz2 rfl (by decide) v n (ints .u8 xs) hown ad m c (ints .u8 ys) (by simp [ints, hy.len]) hnews (ints_one' _ _) (by unfold maxLen; omega) (by omega) hbase
    obtain ⟨v2, w2, hr2, h4⟩ := run_append_where (P := Tryd.prog) w base 22 o.type 5 i0 (.int .u8 0) 1 1 Tryd.underlying22 hi hz0 hz1 hz2 rfl (by decide) v n (ints .u8 xs) hown ad m c (ints .u8 ys) (by simp [ints, hy.len]) hnews (ints_one' _ _) (by unfold maxLen; omega) (by omega)
    rw [hr] at hr2
    injection hr2 with e1 e2
    subst e1
    refine wpList_plain hgd fun K hK => ?_
    unfold Oper.wp execOp
    simp only [ho, resolve, invoke, builtin, Sem.run_bind, Sem.run_pure, Result.andThen_ok, List.map_toArray, List.map_cons, List.map_nil, hs, hx, hr]
    have e : ints .u8 (xs ++ ys) = ints .u8 xs ++ ints .u8 ys := by simp [ints]
    rw [e] at h
    exact hK _ _ (h v' w' h2 h3 h4)
end Go.Proofs.YtkpabdjniiepkaaDoor
