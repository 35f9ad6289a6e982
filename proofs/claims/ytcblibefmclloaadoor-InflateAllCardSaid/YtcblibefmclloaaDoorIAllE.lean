import Derived.Test.YtcblibefmclloaaDoorIAllC
import Derived.Test.YtcblibefmclloaaDoorIAllD
import Derived.Test.YtcblibefmclloaaDoorIAllA
import Derived.Deep.Onto
import Derived.Test.YtcblibefmclloaaDoorIAllB
import Derived.RegionTactic
import Derived.BigRegion
import Derived.ChangeAlike
import Derived.StillTailTactics
import Derived.Outline
import Derived.Lib.SliceRun
import Derived.Deep.AppendLies
import Derived.Deep.RegionHeld3
set_option linter.unusedVariables false
set_option linter.unusedSimpArgs false
/-! Plain mathematics: a head that is written is read as the same. -/
namespace Go.Proofs.YtcblibefmclloaaDoor
/-- These bits stand there. -/
def At (xs : List Int) (p : Nat) (bl : List Int) : Prop := ∀ t, t < bl.length → bitAt xs (p + t) = nth bl t
theorem at_app {xs : List Int} {p : Nat} {a b : List Int} : At xs p (a ++ b) ↔ At xs p a ∧ At xs (p + a.length) b := by
  constructor
  · intro h
    refine ⟨fun t ht => ?_, fun t ht => ?_⟩
    · rw [h t (by rw [List.length_append]; omega), nth_append_left _ _ _ ht]
    · have := h (a.length + t) (by rw [List.length_append]; omega)
      rw [← Nat.add_assoc] at this
      rw [this, nth_append_right]
  · intro ⟨h1, h2⟩ t ht
    rw [List.length_append] at ht
    by_cases hlt : t < a.length
    · rw [h1 t hlt, nth_append_left _ _ _ hlt]
    · obtain ⟨s, rfl⟩ : ∃ s, t = a.length + s := ⟨t - a.length, by omega⟩
      rw [nth_append_right, ← Nat.add_assoc]
      exact h2 s (by omega)
theorem at_wb {xs pre bl post : List Int} (h : WB xs (pre ++ (bl ++ post))) : At xs pre.length bl := fun t ht => by
  rw [h.bit _ (by simp only [List.length_append]; omega), nth_append_right, nth_append_left _ _ _ ht]
theorem numB_vbits (xs : List Int) (p : Nat) (v : Int) : ∀ n, At xs p (vbits v n) → numB xs p n = v % 2 ^ n
  | 0, _ => by simp [numB, Int.emod_one]
  | n + 1, h => by
    have e : vbits v (n + 1) = vbits v n ++ vbits (v / 2 ^ n) 1 := vbits_add v n 1
    rw [e] at h
    obtain ⟨h1, h2⟩ := at_app.1 h
    rw [vbits_len] at h2
    have h3 := h2 0 (by rw [vbits_len]; omega)
    rw [Nat.add_zero, vbits_nth _ _ _ (by omega), Int.pow_zero, Int.ediv_one] at h3
    rw [numB, numB_vbits xs p v n h1, h3, div_pow_succ]
theorem numB_of {xs : List Int} {p n : Nat} {v : Int} (h : At xs p (vbits v n)) (h0 : 0 ≤ v) (h1 : v < 2 ^ n) : numB xs p n = v := by
  rw [numB_vbits xs p v n h, Int.emod_eq_of_lt h0 h1]
/-- A code that stands there is read. -/
theorem dec_at {l : List Int} (hc : checkF l = 0) {xs : List Int} {p s m : Nat} (hs : s < l.length) (h1 : 1 ≤ m) (h15 : m ≤ 15) (hm : nth l s = m) (hT : p + m ≤ 8 * xs.length) (h : At xs p (msbF (codeI l s) m)) : decF l xs p = ((s : Int), 0, m) := by
  have hbd := codeI_bd l m s (by omega) h1 hs hm
  have hkr := kraft_le hc m h15
  have hl0 := (lowF_small l (check_ok hc).1 m (by omega)).1
  have hx : xv xs p m = codeI l s := by
    have h2 := (pre_iff (codeI l s) m (by omega) (by omega) xs p m (Nat.le_refl _)).1 (fun t ht => (h t (by rw [msbF_len]; exact ht)).symm)
    rw [Nat.sub_self, Int.pow_zero, Int.ediv_one] at h2
    exact h2.symm
  have hsp := dec_spec l xs p (longN l 16) 0 (by omega) (by omega) (fun k hk => by
    obtain rfl : k = 0 := by omega
    simp [xv, lowF, lenCnt_zero])
  rw [show decGo l xs p (longN l 16) 0 (xv xs p 0) = decF l xs p from rfl] at hsp
  rcases hsp with ⟨j, mt, hj, a1, a15, hjm, hcode, hend, hpre, hr⟩ | ⟨k, hk, hend, hpre, hr⟩ | ⟨hend, hpre, hr⟩
  · rw [hr]
    have hbj := codeI_bd l mt j (by omega) a1 hj hjm
    rcases Nat.lt_trichotomy mt m with h | h | h
    · have := above l xs p mt (by omega) (m - mt - 1)
      rw [show mt + (m - mt - 1 + 1) = m by omega] at this
      omega
    · subst h
      rcases Nat.lt_trichotomy j s with h2 | h2 | h2
      · have := codeI_ne l mt j s (by omega) a1 h2 hs hjm hm; omega
      · subst h2; rfl
      · have := codeI_ne l mt s j (by omega) a1 h2 hj hm hjm; omega
    · have := hpre m h; omega
  · exfalso
    have := hpre m (by omega); omega
  · exfalso
    have hmL : m ≤ longN l 16 := by
      rcases Nat.lt_or_ge (longN l 16) m with h | h
      · have := longN_top l 16 m h (by omega); omega
      · exact h
    have := hpre m hmL; omega
/-! The codes of the steps. -/
def placeL : List Nat := [3, 17, 15, 13, 11, 9, 7, 5, 4, 6, 8, 10, 12, 14, 16, 18, 0, 1, 2]
theorem place_order : ∀ i, i < 19 → placeL.getD (nth orderL i).toNat 0 = i := by decide
theorem order_place : ∀ j, j < 19 → (nth orderL (placeL.getD j 0)).toNat = j ∧ placeL.getD j 0 < 19 := by decide
def codeBits (codes : List Int) (many : Nat) : List Int := (List.range many).flatMap fun i => vbits (nth codes (nth orderL i).toNat) 3
theorem codeBits_succ (codes : List Int) (k : Nat) : codeBits codes (k + 1) = codeBits codes k ++ vbits (nth codes (nth orderL k).toNat) 3 := by
  unfold codeBits; rw [List.range_succ, List.flatMap_append]; simp
theorem codeBits_len (codes : List Int) : ∀ k, (codeBits codes k).length = 3 * k
  | 0 => rfl
  | k + 1 => by rw [codeBits_succ, List.length_append, codeBits_len codes k, vbits_len]; omega
theorem cL_read {xs codes : List Int} {p : Nat} (hb : ∀ j, j < 19 → 0 ≤ nth codes j ∧ nth codes j ≤ 7) : ∀ k, k ≤ 19 → At xs p (codeBits codes k) → ∀ j, j < 19 → nth (cL xs p k) j = if placeL.getD j 0 < k then nth codes j else 0
  | 0, _, _, j, hj => by
    rw [if_neg (by omega), cL]
    simp only [nth, List.getD, List.getElem?_replicate]
    split <;> rfl
  | k + 1, hk, h, j, hj => by
    rw [codeBits_succ] at h
    obtain ⟨h1, h2⟩ := at_app.1 h
    rw [codeBits_len] at h2
    have ih := cL_read hb k (by omega) h1 j hj
    obtain ⟨o0, o1⟩ := order_lt k (by omega)
    have hbo := hb (nth orderL k).toNat (by omega)
    have e8 : (2 : Int) ^ 3 = 8 := rfl
    have hnum := numB_of h2 hbo.1 (by rw [e8]; omega)
    have hpo := place_order k (by omega)
    have hop := order_place j hj
    rw [cL, hnum]
    by_cases hjo : j = (nth orderL k).toNat
    · subst hjo
      rw [nth_set_eq _ _ _ (by rw [cL_len]; exact hj), if_pos (by rw [hpo]; omega)]
    · rw [nth_set_ne _ _ _ _ hjo, ih]
      have hne : placeL.getD j 0 ≠ k := fun e => hjo (by rw [← e]; exact hop.1.symm)
      by_cases hlt : placeL.getD j 0 < k
      · rw [if_pos hlt, if_pos (by omega)]
      · rw [if_neg hlt, if_neg (by omega)]
/-- How many codes are told. -/
def manyGo (codes : List Int) : Nat → Nat
  | 0 => 0
  | n + 1 => if 4 ≤ n ∧ nth codes (nth orderL n).toNat = 0 then manyGo codes n else n + 1
theorem manyGo_le (codes : List Int) : ∀ n, manyGo codes n ≤ n
  | 0 => Nat.le_refl _
  | n + 1 => by
    unfold manyGo
    split
    · have := manyGo_le codes n; omega
    · exact Nat.le_refl _
theorem manyGo_ge (codes : List Int) : ∀ n, 4 ≤ n → 4 ≤ manyGo codes n
  | 0, h => by omega
  | n + 1, h => by
    unfold manyGo
    split
    · next hc => exact manyGo_ge codes n hc.1
    · exact h
theorem manyGo_zero (codes : List Int) : ∀ n i, manyGo codes n ≤ i → i < n → nth codes (nth orderL i).toNat = 0
  | 0, i, _, h => by omega
  | n + 1, i, h1, h2 => by
    unfold manyGo at h1
    split at h1
    · next hc =>
      by_cases hi : i = n
      · subst hi; exact hc.2
      · exact manyGo_zero codes n i h1 (by omega)
    · omega
theorem list_nth_ext {a b : List Int} (h1 : a.length = b.length) (h : ∀ j, j < a.length → nth a j = nth b j) : a = b := by
  refine List.ext_getElem h1 fun j h2 h3 => ?_
  have := h j h2
  rwa [nth_lt h2, nth_lt h3] at this
theorem cL_codes {xs codes : List Int} {p : Nat} (hl : codes.length = 19) (hb : ∀ j, j < 19 → 0 ≤ nth codes j ∧ nth codes j ≤ 7) (h : At xs p (codeBits codes (manyGo codes 19))) : cL xs p (manyGo codes 19) = codes := by
  refine list_nth_ext (by rw [cL_len, hl]) fun j hj => ?_
  rw [cL_len] at hj
  rw [cL_read hb _ (manyGo_le codes 19) h j hj]
  split
  · rfl
  · next hn =>
    obtain ⟨h1, h2⟩ := order_place j hj
    have := manyGo_zero codes 19 (placeL.getD j 0) (by omega) h2
    rw [h1] at this
    exact this.symm
/-! The steps. -/
theorem say_range {l : List Int} {s e v : Int} {k : Nat} (h : sayF l s e = some (v, k)) : 0 ≤ s ∧ s ≤ 18 ∧ 0 ≤ e ∧ e < 2 ^ wN s := by
  unfold sayF at h
  split at h
  · next hc =>
    refine ⟨by omega, by omega, by omega, ?_⟩
    rw [hc.2.2]; exact pow_cast _
  split at h
  · next hc =>
    obtain ⟨rfl, h0, h3, _⟩ := hc
    exact ⟨by omega, by omega, h0, by show e < 4; omega⟩
  split at h
  · next hc =>
    obtain ⟨rfl, h0, h3⟩ := hc
    exact ⟨by omega, by omega, h0, by show e < 8; omega⟩
  split at h
  · next hc =>
    obtain ⟨rfl, h0, h3⟩ := hc
    exact ⟨by omega, by omega, h0, by show e < 128; omega⟩
  · cases h
theorem add_range {l l' : List Int} {s e n : Int} (h : addF l s e n = some l') : 0 ≤ s ∧ s ≤ 18 ∧ 0 ≤ e ∧ e < 2 ^ wN s := by
  unfold addF at h
  cases hs : sayF l s e with
  | none => rw [hs] at h; cases h
  | some q => obtain ⟨v, k⟩ := q; exact say_range hs
def stepB (codes : List Int) (s : Int × Int) : List Int := msbF (codeI codes s.1.toNat) (nth codes s.1.toNat).toNat ++ vbits s.2 (wN s.1)
def stepsB (codes : List Int) (st : List (Int × Int)) : List Int := st.flatMap (stepB codes)
theorem stepsB_cons (codes : List Int) (s : Int × Int) (r : List (Int × Int)) : stepsB codes (s :: r) = stepB codes s ++ stepsB codes r := by simp [stepsB]
theorem stepB_len (codes : List Int) (s : Int × Int) : (stepB codes s).length = (nth codes s.1.toNat).toNat + wN s.1 := by
  rw [stepB, List.length_append, msbF_len, vbits_len]
theorem steps_at {codes xs : List Int} (hc : checkF codes = 0) (hcl : codes.length = 19) {N : Int} : ∀ (st : List (Int × Int)) (f : Nat) (l : List Int) (q : Nat) (L : List Int), (∀ s ∈ st, 1 ≤ nth codes s.1.toNat ∧ nth codes s.1.toNat ≤ 15) → unpackTo l st N = some L → (L.length : Int) = N → N ≤ ((l.length + f : Nat) : Int) → q + (stepsB codes st).length ≤ 8 * xs.length → At xs q (stepsB codes st) →
    stepsF codes xs N f l q = (L, q + (stepsB codes st).length, 0)
  | [], f, l, q, L, _, hu, hL, hf, hT, hat => by
    obtain rfl := Option.some.inj hu
    rw [stepsF_done _ _ _ _ _ _ (by omega)]; rfl
  | s :: r, f, l, q, L, hs, hu, hL, hf, hT, hat => by
    rw [stepsB_cons, List.length_append] at hT
    rw [stepsB_cons] at hat
    obtain ⟨ha, hr⟩ := at_app.1 hat
    rw [stepB] at ha
    obtain ⟨ha1, ha2⟩ := at_app.1 ha
    rw [msbF_len] at ha2
    cases hadd : addF l s.1 s.2 N with
    | none => rw [unpackTo_stop hadd] at hu; cases hu
    | some l' =>
      rw [unpackTo_cons hadd] at hu
      obtain ⟨r0, r1, r2, r3⟩ := add_range hadd
      obtain ⟨g1, g2⟩ := addF_len hadd
      obtain ⟨c1, c2⟩ := hs s (List.mem_cons_self ..)
      obtain ⟨f', rfl⟩ : ∃ f', f = f' + 1 := ⟨f - 1, by omega⟩
      have e1 : ((s.1.toNat : Nat) : Int) = s.1 := by omega
      have hlen := stepB_len codes s
      have hd : decF codes xs q = (s.1, 0, (nth codes s.1.toNat).toNat) := by
        have := dec_at hc (xs := xs) (p := q) (s := s.1.toNat) (m := (nth codes s.1.toNat).toNat) (by omega) (by omega) (by omega) (by omega) (by omega) ha1
        rw [this, e1]
      have hnum := numB_of ha2 r2 r3
      have ih := steps_at (xs := xs) hc hcl r f' l' (q + (nth codes s.1.toNat).toNat + wN s.1) L (fun x hx => hs x (List.mem_cons_of_mem _ hx)) hu hL (by omega) (by omega) (by rw [Nat.add_assoc, ← hlen]; exact hr)
      rw [stepsF, if_neg (by omega)]
      simp only [hd, hnum, hadd, ih]
      rw [if_neg (by simp), if_neg (by omega), stepsB_cons, List.length_append, hlen]
      simp only [Nat.add_assoc]
/-- The head that is written. -/
def symsF (lit dist : List Int) : List Int := (packF (lit ++ dist)).map Prod.fst
def countsW (lit dist : List Int) : List Int := cntF 19 (symsF lit dist)
def codesW (lit dist : List Int) : List Int := limLens (countsW lit dist) 7
def headB (lit dist : List Int) : List Int :=
  vbits ((lit.length : Int) - 257) 5 ++ (vbits ((dist.length : Int) - 1) 5 ++ (vbits ((manyGo (codesW lit dist) 19 : Int) - 4) 4 ++ (codeBits (codesW lit dist) (manyGo (codesW lit dist) 19) ++ stepsB (codesW lit dist) (packF (lit ++ dist)))))
/-- The lists that may be written. -/
structure MayW (lit dist : List Int) : Prop where
  lit0 : 257 ≤ lit.length
  lit1 : lit.length ≤ 286
  dist0 : 1 ≤ dist.length
  dist1 : dist.length ≤ 30
  litB : ∀ x ∈ lit, 0 ≤ x ∧ x ≤ 15
  distB : ∀ x ∈ dist, 0 ≤ x ∧ x ≤ 15
theorem MayW.all {lit dist : List Int} (h : MayW lit dist) : ∀ x ∈ lit ++ dist, 0 ≤ x ∧ x ≤ 15 := fun x hx => by
  rcases List.mem_append.1 hx with h1 | h1
  · exact h.litB x h1
  · exact h.distB x h1
theorem unpackTo_mem {m : Int} : ∀ (st : List (Int × Int)) (l L : List Int), unpackTo l st m = some L → ∀ s ∈ st, 0 ≤ s.1 ∧ s.1 ≤ 18 ∧ 0 ≤ s.2 ∧ s.2 < 2 ^ wN s.1
  | [], _, _, _, s, hs => by cases hs
  | a :: r, l, L, hu, s, hs => by
    cases hadd : addF l a.1 a.2 m with
    | none => rw [unpackTo_stop hadd] at hu; cases hu
    | some l' =>
      rw [unpackTo_cons hadd] at hu
      rcases List.mem_cons.1 hs with rfl | h
      · exact add_range hadd
      · exact unpackTo_mem r l' L hu s h
theorem MayW.unpack {lit dist : List Int} (h : MayW lit dist) : unpackTo [] (packF (lit ++ dist)) ((lit ++ dist).length : Nat) = some (lit ++ dist) := by
  have := unpack_pack (lit ++ dist) [] (((lit ++ dist).length : Nat) : Int) h.all (by show ((0 : Nat) : Int) ≤ _; omega)
  simpa using this
theorem MayW.sym {lit dist : List Int} (h : MayW lit dist) : ∀ s ∈ packF (lit ++ dist), 0 ≤ s.1 ∧ s.1 ≤ 18 ∧ 0 ≤ s.2 ∧ s.2 < 2 ^ wN s.1 := unpackTo_mem _ _ _ h.unpack
theorem countsW_len (lit dist : List Int) : (countsW lit dist).length = 19 := cntF_len _ _
theorem countsW_bd (lit dist : List Int) (i : Nat) (hi : i < 19) : 0 ≤ nth (countsW lit dist) i ∧ nth (countsW lit dist) i ≤ (lit ++ dist).length := by
  have := cnt_bd 19 (symsF lit dist) i hi
  have hl := packF_len (lit ++ dist)
  refine ⟨this.1, Int.le_trans this.2 ?_⟩
  rw [symsF, List.length_map]; omega
theorem MayW.counts {lit dist : List Int} (h : MayW lit dist) : (countsW lit dist).any badCount = false ∧ (leavesF (countsW lit dist) 0).length ≤ 2 ^ 7 ∧ usedF (countsW lit dist) ≠ 0 := by
  have hb : (countsW lit dist).any badCount = false := by
    rw [List.any_eq_false]
    intro x hx
    obtain ⟨i, hi, rfl⟩ := List.mem_iff_getElem.1 hx
    have := countsW_bd lit dist i (by rw [countsW_len] at hi; exact hi)
    rw [nth_lt hi] at this
    have h1 := h.lit1; have h2 := h.dist1
    rw [List.length_append] at this
    unfold badCount
    simp only [Bool.or_eq_true, decide_eq_true_eq]; omega
  refine ⟨hb, ?_, ?_⟩
  · have := (leaves_bd (countsW lit dist) hb 0).2.2.2.1
    rw [countsW_len] at this; omega
  · intro hu
    have hne : packF (lit ++ dist) ≠ [] := by
      intro e
      have := h.unpack
      rw [e] at this
      have := Option.some.inj this
      have h1 := h.lit0
      have h2 := congrArg List.length this
      rw [List.length_append] at h2
      simp at h2; omega
    obtain ⟨s, r, e⟩ : ∃ s r, packF (lit ++ dist) = s :: r := by
      cases he : packF (lit ++ dist) with
      | nil => exact absurd he hne
      | cons s r => exact ⟨s, r, rfl⟩
    have hs := h.sym s (by rw [e]; exact List.mem_cons_self ..)
    have hn : 0 < nth (countsW lit dist) s.1.toNat := by
      rw [countsW, cntF_nth 19 _ _ (by omega)]
      have : 0 < (symsF lit dist).count ((s.1.toNat : Nat) : Int) := by
        rw [List.count_pos_iff, symsF, e]
        refine List.mem_map.2 ⟨s, List.mem_cons_self .., by omega⟩
      omega
    have hm : nth (countsW lit dist) s.1.toNat ∈ (countsW lit dist).filter (fun x => decide (0 < x)) := by
      refine List.mem_filter.2 ⟨?_, by simpa using hn⟩
      rw [nth_lt (by rw [countsW_len]; omega)]
      exact List.getElem_mem _
    have : 0 < usedF (countsW lit dist) := by
      unfold usedF
      exact List.length_pos_of_mem hm
    omega
theorem MayW.lim {lit dist : List Int} (h : MayW lit dist) : limF (countsW lit dist) 7 = (codesW lit dist, 0) := by
  obtain ⟨hb, ht, _⟩ := h.counts
  unfold limF
  rw [if_neg (by rw [countsW_len]; omega), if_neg (by simp [hb]), if_neg (by show ¬ 2 ^ 7 < _; omega)]; rfl
theorem codesW_len (lit dist : List Int) : (codesW lit dist).length = 19 := by
  rw [codesW, limLens, cntF_len, countsW_len]
theorem MayW.codes {lit dist : List Int} (h : MayW lit dist) (i : Nat) (hi : i < 19) : (0 < nth (codesW lit dist) i ↔ 0 < nth (countsW lit dist) i) ∧ 0 ≤ nth (codesW lit dist) i ∧ nth (codesW lit dist) i ≤ 7 := by
  obtain ⟨hb, ht, _⟩ := h.counts
  exact lim_each _ 7 (by omega) (by omega) hb ht i (by rw [countsW_len]; exact hi)
theorem MayW.check {lit dist : List Int} (h : MayW lit dist) : checkF (codesW lit dist) = 0 := by
  obtain ⟨hb, ht, hu⟩ := h.counts
  exact check_all _ 7 (by omega) (by rw [countsW_len]; omega) (by rw [countsW_len]; omega) hb ht hu
theorem MayW.code {lit dist : List Int} (h : MayW lit dist) : ∀ s ∈ packF (lit ++ dist), 1 ≤ nth (codesW lit dist) s.1.toNat ∧ nth (codesW lit dist) s.1.toNat ≤ 7 := fun s hs => by
  obtain ⟨r0, r1, _⟩ := h.sym s hs
  have hc := h.codes s.1.toNat (by omega)
  have hn : 0 < nth (countsW lit dist) s.1.toNat := by
    rw [countsW, cntF_nth 19 _ _ (by omega)]
    have : 0 < (symsF lit dist).count ((s.1.toNat : Nat) : Int) := by
      rw [List.count_pos_iff, symsF]
      exact List.mem_map.2 ⟨s, hs, by omega⟩
    omega
  have := hc.1.2 hn
  omega
theorem stepsB_len {codes : List Int} : ∀ (st : List (Int × Int)), (∀ s ∈ st, nth codes s.1.toNat ≤ 7) → (stepsB codes st).length ≤ 14 * st.length
  | [], _ => by simp [stepsB]
  | s :: r, h => by
    have ih := stepsB_len r (fun x hx => h x (List.mem_cons_of_mem _ hx))
    have := h s (List.mem_cons_self ..)
    have hw := wN_le s.1
    rw [stepsB_cons, List.length_append, stepB_len, List.length_cons]; omega
theorem MayW.len {lit dist : List Int} (h : MayW lit dist) : (headB lit dist).length ≤ 71 + 14 * (lit.length + dist.length) := by
  have h1 := stepsB_len (codes := codesW lit dist) (packF (lit ++ dist)) (fun s hs => (h.code s hs).2)
  have h2 := packF_len (lit ++ dist)
  have h3 := manyGo_le (codesW lit dist) 19
  rw [List.length_append] at h2
  simp only [headB, List.length_append, vbits_len, codeBits_len]; omega
/-- What is written is read. -/
theorem MayW.read {lit dist xs : List Int} {p : Nat} (h : MayW lit dist) (hT : p + (headB lit dist).length ≤ 8 * xs.length) (hat : At xs p (headB lit dist)) : headF xs p = (lit, dist, (headB lit dist).length, 0) := by
  have hlen : (headB lit dist).length = 14 + 3 * manyGo (codesW lit dist) 19 + (stepsB (codesW lit dist) (packF (lit ++ dist))).length := by
    simp only [headB, List.length_append, vbits_len, codeBits_len]; omega
  rw [headB] at hat
  obtain ⟨a1, hat⟩ := at_app.1 hat
  obtain ⟨a2, hat⟩ := at_app.1 hat
  obtain ⟨a3, hat⟩ := at_app.1 hat
  obtain ⟨a4, a5⟩ := at_app.1 hat
  simp only [vbits_len, codeBits_len] at a2 a3 a4 a5
  have hm0 := manyGo_ge (codesW lit dist) 19 (by omega)
  have hm1 := manyGo_le (codesW lit dist) 19
  have l0 := h.lit0; have l1 := h.lit1; have d0 := h.dist0; have d1 := h.dist1
  have e32 : (2 : Int) ^ 5 = 32 := rfl
  have e16 : (2 : Int) ^ 4 = 16 := rfl
  have n1 := numB_of a1 (by omega) (by omega)
  have n2 := numB_of a2 (by omega) (by omega)
  have n3 := numB_of a3 (by omega) (by omega)
  have hlit : litF xs p = lit.length := by unfold litF; omega
  have hdist : distF xs p = dist.length := by unfold distF; omega
  have hmany : manyF xs p = manyGo (codesW lit dist) 19 := by
    unfold manyF
    rw [show p + 10 = p + 5 + 5 by omega, n3]; omega
  have hcodes : codesH xs p = codesW lit dist := by
    unfold codesH
    rw [hmany]
    refine cL_codes (codesW_len lit dist) (fun j hj => (h.codes j hj).2) ?_
    rw [show p + 14 = p + 5 + 5 + 4 by omega]; exact a4
  have hst := steps_at h.check (codesW_len lit dist) (xs := xs) (N := ((lit ++ dist).length : Nat)) (packF (lit ++ dist)) (lit.length + dist.length) [] (p + 14 + 3 * manyGo (codesW lit dist) 19) (lit ++ dist) (fun s hs => ⟨(h.code s hs).1, by have := (h.code s hs).2; omega⟩) h.unpack rfl (by simp) (by omega) (by
    rw [show p + 14 + 3 * manyGo (codesW lit dist) 19 = p + 5 + 5 + 4 + 3 * manyGo (codesW lit dist) 19 by omega]; exact a5)
  have hr : readR xs p = (lit ++ dist, p + (headB lit dist).length, 0) := by
    unfold readR
    rw [hcodes, hlit, hdist, hmany, ← List.length_append] 
    rw [List.length_append] at hst ⊢
    rw [hst, hlen]
    simp only [Nat.add_assoc]
  rw [head_ok (by omega) (by omega) (by rw [hmany]; omega) (by rw [hcodes]; exact h.check) hr, hlit, List.take_left, List.drop_left, show p + (headB lit dist).length - p = (headB lit dist).length by omega]
end Go.Proofs.YtcblibefmclloaaDoor

set_option linter.unusedVariables false
set_option linter.unusedSimpArgs false
namespace Go.Proofs.YtcblibefmclloaaDoor
open Go.RowKit
/-- A run begun at a place, so far. -/
structure RunTo (xs : List Int) (i m : Nat) : Prop where
  one : 1 ≤ m
  le : i + m ≤ xs.length
  eq : ∀ j, j < m → nth xs (i + j) = nth xs i
/-- A run at a place, whole. -/
structure RunOk (xs : List Int) (i m : Nat) : Prop extends RunTo xs i m where
  stop : i + m < xs.length → nth xs (i + m) ≠ nth xs i
theorem RunTo.step {xs : List Int} {i m : Nat} (h : RunTo xs i m) (hl : i + m < xs.length) (hv : nth xs (i + m) = nth xs i) : RunTo xs i (m + 1) :=
  ⟨by omega, by omega, fun j hj => by
    by_cases e : j = m
    · subst e; exact hv
    · exact h.eq j (by omega)⟩
theorem RunOk.pack {xs : List Int} {i m : Nat} (h : RunOk xs i m) : packF (xs.drop i) = rsteps (nth xs i) m ++ packF (xs.drop (i + m)) :=
  packF_at xs i m (by have := h.one; have := h.le; omega) h.le h.eq h.stop
theorem own_as {w : World} {base n : Nat} {e : TypeId} {v : Value} {xs ys : List (Int × Int)} (h : w.ownsRow base e 2 v n (pcells xs)) (he : xs = ys) : w.ownsRow base e 2 v ys.length (pcells ys) := by
  subst he
  have := h.1
  rw [pcells_length] at this
  obtain rfl : n = xs.length := by omega
  exact h
theorem RunOk.zstep {xs : List Int} {k m : Nat} {out es : List (Int × Int)} {r : Nat} (h : RunOk xs k m) (hz : nth xs k = 0) (hp : out ++ packF (xs.drop k) = packF xs) (ho : out.length ≤ k) (h1 : reps 11 18 138 m = es) (h2 : left 11 138 m = r) :
    (out ++ (es ++ (reps 3 17 10 r ++ List.replicate (left 3 10 r) (0, 0)))) ++ packF (xs.drop (k + m)) = packF xs ∧ (out ++ (es ++ (reps 3 17 10 r ++ List.replicate (left 3 10 r) (0, 0)))).length ≤ k + m := by
  have e : es ++ (reps 3 17 10 r ++ List.replicate (left 3 10 r) (0, 0)) = rsteps (nth xs k) m := by
    rw [rsteps, if_pos hz, zsteps, h1, h2]
  rw [e]
  have := rsteps_len (nth xs k) m h.one
  refine ⟨?_, by rw [List.length_append]; omega⟩
  rw [← hp, h.pack, List.append_assoc]
theorem RunOk.vstep {xs : List Int} {k m : Nat} {out es : List (Int × Int)} {r : Nat} (h : RunOk xs k m) (hz : ¬ nth xs k = 0) (hp : out ++ packF (xs.drop k) = packF xs) (ho : out.length ≤ k) (h1 : reps 3 16 6 (m - 1) = es) (h2 : left 3 6 (m - 1) = r) :
    (out ++ ((nth xs k, 0) :: (es ++ List.replicate r (nth xs k, 0)))) ++ packF (xs.drop (k + m)) = packF xs ∧ (out ++ ((nth xs k, 0) :: (es ++ List.replicate r (nth xs k, 0)))).length ≤ k + m := by
  have e : (nth xs k, 0) :: (es ++ List.replicate r (nth xs k, 0)) = rsteps (nth xs k) m := by
    rw [rsteps, if_neg hz, vsteps, h1, h2]
  rw [e]
  have := rsteps_len (nth xs k) m h.one
  refine ⟨?_, by rw [List.length_append]; omega⟩
  rw [← hp, h.pack, List.append_assoc]
/-- What packing answers. -/
def Packed (w : World) (xs : List Int) (e : Ending) (w' : World) : Prop :=
  (xs.length ≤ 316 ∧ anyBad xs = false ∧ ∃ v, e = .returned (.tuple #[v, .int .i64 0]) ∧ w'.ownsRow w.heap.size 31 2 v (packF xs).length (pcells (packF xs)) ∧ Below w.heap.size w w') ∨
  ((316 < xs.length ∨ anyBad xs = true) ∧ e = .returned (.tuple #[.slice none 0 0, .int .i64 1]) ∧ Below w.heap.size w w')
theorem Dr.below {w w' : World} (h : Dr w w') : Below w.heap.size w w' := (h.keeps (S := [])).below
set_option maxRecDepth 100000 in
set_option maxHeartbeats 1000000 in
theorem refPack_calls (w : World) (A : Option Addr) (n c : Nat) (xs : List Int) (hx : RI .i64 w A n xs) (hn : n ≤ 1048576) :
    Calls Tryd.prog 18 #[.slice A n c] w (Packed w xs) := by
  have HX := Lib.hid hx
  have HL := Lib.hid hx.len
  clear hx
  by_cases hbig : 316 < n
  · have e1 : decide (316 < n) = true := by simpa using hbig
    go_enter Tryd.func18, Tryd.ntmps18
    go_wp2_with fail
    go_ret2
    exact Or.inr ⟨Or.inl (by have := HL.out; omega), rfl, Below.refl _ _⟩
  · have e1 : decide (316 < n) = false := by simpa using hbig
    go_enter Tryd.func18, Tryd.ntmps18
    go_wp2_with fail
    refine (refLengths_calls w _ _ _ xs HX.out (by omega)).mono ?_
    rintro e w' ⟨rfl, q, rfl⟩
    cases hb : anyBad xs with
    | true =>
      have HB := Lib.hid hb
      clear hb
      go_wp2_with fail
      go_ret2
      exact Or.inr ⟨Or.inr HB.out, rfl, Dr.below ⟨q, rfl⟩⟩
    | false =>
      have HB := Lib.hid hb
      clear hb e1
      go_wp2_with fail
      go_loopw [4, 5] (fun v i wr => ∃ (k : Nat) (out : List (Int × Int)), k ≤ n ∧ i = .int .i64 k ∧ Hid (wr.ownsRow w.heap.size 31 2 v out.length (pcells out)) ∧ Hid (out ++ packF (xs.drop k) = packF xs) ∧ out.length ≤ k ∧ Hid (Below w.heap.size w wr)) (fun _ i _ => n - (intOf i).toNat)
      case atStart => exact ⟨0, [], by omega, rfl, Lib.hid (World.ownsRow_nil _ _ _ _), Lib.hid (by simp), by simp, Lib.hid (Dr.below ⟨q, rfl⟩)⟩
      case round =>
        obtain ⟨k, out, hk, rfl, HO, HP, hol, HW⟩ := hrel
        by_cases hlt : k < n
        · go_upto_block 2 with (fail)
          go_cut [6] (fun v6 wc => ∃ m : Nat, m + k ≤ n ∧ 1 ≤ m ∧ v6 = .int .i64 m ∧ Hid (RunOk xs k m) ∧ Hid (Dr wr wc))
          case first =>
            go_wp2_with fail
            go_loopw [6] (fun v6 wi => ∃ m : Nat, m + k ≤ n ∧ 1 ≤ m ∧ v6 = .int .i64 m ∧ Hid (RunTo xs k m) ∧ Hid (Dr wr wi)) (fun v6 _ => n - (intOf v6).toNat)
            case atStart => exact ⟨1, by omega, by omega, rfl, Lib.hid ⟨by omega, by have := HL.out; omega, fun j hj => by rw [show j = 0 by omega]; rfl⟩, ⟨0, rfl⟩⟩
            case round =>
              obtain ⟨m, hm, hm1, rfl, HR, HD⟩ := hrel
              obtain ⟨q1, rfl⟩ := HD.out
              clear HD
              obtain ⟨b, o, rfl, hc1⟩ := HX.out.at hlt
              have hc1' := (Keeps.of_below (S := []) HW.out).cell (by simp) hc1
              clear hc1
              by_cases h1 : k + m < n
              · obtain ⟨b', o', he, hc2⟩ := HX.out.at h1
                injection he with he; injection he with he1 he2 he3; subst he1; subst he2; clear he3
                have hc2' := (Keeps.of_below (S := []) HW.out).cell (by simp) hc2
                clear hc2
                have e1 : IntKind.i64.wrap ((k : Int) + (m : Int)) = (k : Int) + (m : Int) := IntWalk.i64_in _ (by omega)
                have e2 : (0 : Int) ≤ (k : Int) + (m : Int) := by omega
                have e3 : ((k : Int) + (m : Int)).toNat = k + m := by omega
                have e4 : decide ((k : Int) + (m : Int) < (n : Int)) = true := by simp; omega
                have E1 := Lib.hid e1
                by_cases hv : nth xs (k + m) = nth xs k
                · have e5 : (nth xs (k + m) == nth xs k) = true := by simpa using hv
                  have HV := Lib.hid hv
                  clear hv
                  go_wp2_with fail
                  go_quiet (fail)
                  clear e1 e2 e3 e4 e5
                  go_wp2_with fail
                  go_roundw
                  case rel => exact ⟨m + 1, by omega, by omega, by go_num, Lib.hid (HR.out.step (by have := HL.out; omega) HV.out), Lib.hid (by first | exact ⟨_, rfl⟩ | exact Dr.step ⟨_, rfl⟩ _)⟩
                  case measure => simp [intOf]; omega
                · have e5 : (nth xs (k + m) == nth xs k) = false := by simpa using hv
                  have HV := Lib.hid hv
                  clear hv
                  go_wp2_with fail
                  go_quiet (fail)
                  clear e1 e2 e3 e4 e5
                  go_wp2_with fail
                  go_meet
                  case rel => exact ⟨m, by omega, by omega, rfl, Lib.hid { toRunTo := HR.out, stop := fun _ => HV.out }, Lib.hid (by first | exact ⟨_, rfl⟩ | exact Dr.step ⟨_, rfl⟩ _)⟩
              · have e1 : IntKind.i64.wrap ((k : Int) + (m : Int)) = (k : Int) + (m : Int) := IntWalk.i64_in _ (by omega)
                have e4 : decide ((k : Int) + (m : Int) < (n : Int)) = false := by simp; omega
                go_wp2_with fail
                go_quiet (fail)
                clear e1 e4
                go_wp2_with fail
                go_meet
                case rel => exact ⟨m, by omega, by omega, rfl, Lib.hid { toRunTo := HR.out, stop := fun h => absurd h (by have := HL.out; omega) }, Lib.hid (by first | exact ⟨_, rfl⟩ | exact Dr.step ⟨_, rfl⟩ _)⟩
          case rest =>
            obtain ⟨m, hm, hm1, rfl, HR, HD⟩ := hcut
            have HO1 : Hid (wc.ownsRow w.heap.size 31 2 u4 out.length (pcells out)) := by obtain ⟨q1, rfl⟩ := HD.out; exact HO.out
            have HW1 : Hid (Below w.heap.size w wc) := by obtain ⟨q1, rfl⟩ := HD.out; exact (HW.out.trans ((Dr.below ⟨q1, rfl⟩).mono HW.out.size))
            clear HD HO HW
            obtain ⟨b, o, rfl, hc1⟩ := HX.out.at hlt
            have hc1' := (Keeps.of_below (S := []) HW1.out).cell (by simp) hc1
            clear hc1
            by_cases hz : nth xs k = 0
            · have e5 : (nth xs k == 0) = true := by simpa using hz
              have HZ := Lib.hid hz
              clear hz
              go_upto_block 4 with (fail)
              clear e5
              go_cut [4, 6] (fun v4 v6 wc => ∃ (r : Nat) (es : List (Int × Int)), r < 11 ∧ v6 = .int .i64 r ∧ Hid (reps 11 18 138 m = es) ∧ Hid (left 11 138 m = r) ∧ out.length + es.length + r ≤ k + m ∧ Hid (wc.ownsRow w.heap.size 31 2 v4 (out.length + es.length) (pcells (out ++ es))) ∧ Hid (Below w.heap.size w wc))
              case first =>
                clear hc1'
                go_wp2_with fail
                go_loopw [4, 6] (fun v4 v6 wi => ∃ (r : Nat) (es : List (Int × Int)), v6 = .int .i64 r ∧ Hid (reps 11 18 138 m = es ++ reps 11 18 138 r) ∧ Hid (left 11 138 m = left 11 138 r) ∧ out.length + es.length + r ≤ k + m ∧ Hid (wi.ownsRow w.heap.size 31 2 v4 (out.length + es.length) (pcells (out ++ es))) ∧ Hid (Below w.heap.size w wi)) (fun _ v6 _ => (intOf v6).toNat)
                case atStart => exact ⟨m, [], rfl, Lib.hid rfl, Lib.hid rfl, by simp; omega, Lib.hid (by simpa using HO1.out), HW1⟩
                case round =>
                  clear HO1 HW1
                  obtain ⟨r, es, rfl, HA, HL2, hlen, HO, HW⟩ := hrel
                  by_cases h11 : 11 ≤ r
                  · have hsz := HW.out.size
                    rcases (by omega : ¬ ((138 : Int) < (r : Int)) ∨ (138 : Int) < (r : Int)) with h138 | h138
                    · go_wp2_with (at_builtin; refine app_step rfl (.tmp 56) (.tmp 60) rfl w.heap.size _ _ _ rfl (HO.out.alloc _) wr.heap.size 18 ((r : Int) - 11) rfl (by simp) (by simp) (by omega) (by simp; omega) ?_)
                      intro v' w1 h1 hg g' c' hv
                      subst hv
                      have HO1 := Lib.hid h1
                      have HB1 := Lib.hid ((HW.out.alloc (by omega) _).grown hg (by simp; omega) (fun k hk => (HO.out.lt k hk).1))
                      clear HO HW h1 hg
                      go_wp2_with fail
                      go_roundw
                      case rel =>
                        have hs := reps_step (by omega) (by omega) h11 HA.out HL2.out (q := (r : Int) - 11) (r' := 0) (by omega) (by omega)
                        exact ⟨0, es ++ [(18, (r : Int) - 11)], rfl, Lib.hid hs.1, Lib.hid hs.2, by simp; omega, Lib.hid (by simpa [Nat.add_assoc] using HO1.out), HB1⟩
                      case measure => simp [intOf]; omega
                    · go_wp2_with (at_builtin; refine app_step rfl (.tmp 56) (.tmp 60) rfl w.heap.size _ _ _ rfl (HO.out.alloc _) wr.heap.size 18 127 rfl (by simp) (by simp) (by omega) (by simp; omega) ?_)
                      intro v' w1 h1 hg g' c' hv
                      subst hv
                      have HO1 := Lib.hid h1
                      have HB1 := Lib.hid ((HW.out.alloc (by omega) _).grown hg (by simp; omega) (fun k hk => (HO.out.lt k hk).1))
                      clear HO HW h1 hg
                      go_wp2_with fail
                      go_roundw
                      case rel =>
                        have hs := reps_step (by omega) (by omega) h11 HA.out HL2.out (q := 127) (r' := r - 138) (by omega) (by omega)
                        exact ⟨r - 138, es ++ [(18, 127)], by go_num, Lib.hid hs.1, Lib.hid hs.2, by simp; omega, Lib.hid (by simpa [Nat.add_assoc] using HO1.out), HB1⟩
                      case measure => simp [intOf]; omega
                  · go_wp2_with fail
                    go_meet
                    case rel =>
                      have hs := reps_stop (by omega) HA.out HL2.out
                      exact ⟨r, es, by omega, rfl, Lib.hid hs.1, Lib.hid hs.2, hlen, HO, HW⟩
              case rest =>
                clear HO1 HW1
                obtain ⟨r, es, hr11, rfl, HA, HL2, hlen, HO, HW⟩ := hcut
                have hsz := HW.out.size
                by_cases h3 : 3 ≤ r
                · go_wp2_with (at_builtin; refine app_step rfl (.tmp 67) (.tmp 71) rfl w.heap.size _ _ _ rfl (HO.out.alloc _) wc.heap.size 17 ((r : Int) - 3) rfl (by simp) (by simp) (by omega) (by simp; omega) ?_)
                  intro v' w1 h1 hg g' c' hv
                  subst hv
                  have HO1 := Lib.hid h1
                  have HB1 := Lib.hid ((HW.out.alloc (by omega) _).grown hg (by simp; omega) (fun k hk => (HO.out.lt k hk).1))
                  clear HO HW h1 hg
                  go_wp2_with fail
                  refine (times_calls _ _ _ _ _ _ _ HO1.out HB1.out.size (by omega) (by omega)).mono ?_
                  rintro e w' ⟨v2, rfl, ho2, hb2⟩
                  have HO2 := Lib.hid ho2
                  have HB2 := Lib.hid hb2
                  clear ho2 hb2
                  go_wp2_with fail
                  go_roundw
                  case rel =>
                    have hs := HR.out.zstep HZ.out HP.out hol HA.out HL2.out
                    refine ⟨k + m, _, by omega, by go_num, Lib.hid (own_as HO2.out ?_), Lib.hid hs.1, hs.2, Lib.hid (HB1.out.trans HB2.out)⟩
                    rw [(zlast_ge h3 hr11).1, (zlast_ge h3 hr11).2]
                    simp
                  case measure => simp [intOf]; omega
                · go_wp2_with fail
                  refine (times_calls _ _ _ _ _ _ _ HO.out HW.out.size (by omega) (by omega)).mono ?_
                  rintro e w' ⟨v2, rfl, ho2, hb2⟩
                  have HO2 := Lib.hid ho2
                  have HB2 := Lib.hid hb2
                  clear ho2 hb2
                  go_wp2_with fail
                  go_roundw
                  case rel =>
                    have hs := HR.out.zstep HZ.out HP.out hol HA.out HL2.out
                    refine ⟨k + m, _, by omega, by go_num, Lib.hid (own_as HO2.out ?_), Lib.hid hs.1, hs.2, Lib.hid (HW.out.trans HB2.out)⟩
                    rw [(zlast_lt (by omega)).1, (zlast_lt (by omega)).2]
                    simp
                  case measure => simp [intOf]; omega
            · have e5 : (nth xs k == 0) = false := by simpa using hz
              have HZ := Lib.hid hz
              clear hz
              have hsz := HW1.out.size
              go_wp2_with (at_builtin; refine app_step rfl (.tmp 76) (.tmp 79) rfl w.heap.size _ _ _ rfl (HO1.out.alloc _) wc.heap.size (nth xs k) 0 rfl (by simp) (by simp) (by omega) (by simp; omega) ?_)
              intro v' w1 h1 hg g' c' hv
              subst hv
              have HO2 := Lib.hid h1
              have HB2 := Lib.hid ((HW1.out.alloc (by omega) _).grown hg (by simp; omega) (fun k hk => (HO1.out.lt k hk).1))
              clear HO1 HW1 h1 hg
              go_upto_block 6 with (fail)
              clear e5 hc1'
              go_cut [4, 6] (fun v4 v6 wc => ∃ (r : Nat) (es : List (Int × Int)), v6 = .int .i64 r ∧ Hid (reps 3 16 6 (m - 1) = es) ∧ Hid (left 3 6 (m - 1) = r) ∧ out.length + es.length + r + 1 ≤ k + m ∧ Hid (wc.ownsRow w.heap.size 31 2 v4 (out.length + 1 + es.length) (pcells (out ++ ((nth xs k, 0) :: es)))) ∧ Hid (Below w.heap.size w wc))
              case first =>
                go_wp2_with fail
                go_loopw [4, 6] (fun v4 v6 wi => ∃ (r : Nat) (es : List (Int × Int)), v6 = .int .i64 r ∧ Hid (reps 3 16 6 (m - 1) = es ++ reps 3 16 6 r) ∧ Hid (left 3 6 (m - 1) = left 3 6 r) ∧ out.length + es.length + r + 1 ≤ k + m ∧ Hid (wi.ownsRow w.heap.size 31 2 v4 (out.length + 1 + es.length) (pcells (out ++ ((nth xs k, 0) :: es)))) ∧ Hid (Below w.heap.size w wi)) (fun _ v6 _ => (intOf v6).toNat)
                case atStart => exact ⟨m - 1, [], by go_num, Lib.hid rfl, Lib.hid rfl, by simp; omega, Lib.hid (by simpa using HO2.out), HB2⟩
                case round =>
                  clear HO2 HB2
                  obtain ⟨r, es, rfl, HA, HL2, hlen, HO, HW⟩ := hrel
                  by_cases h3 : 3 ≤ r
                  · have hsz := HW.out.size
                    rcases (by omega : ¬ ((6 : Int) < (r : Int)) ∨ (6 : Int) < (r : Int)) with h6 | h6
                    · go_wp2_with (at_builtin; refine app_step rfl (.tmp 87) (.tmp 91) rfl w.heap.size _ _ _ rfl (HO.out.alloc _) wr.heap.size 16 ((r : Int) - 3) rfl (by simp) (by simp) (by omega) (by simp; omega) ?_)
                      intro v' w1 h1 hg g' c' hv
                      subst hv
                      have HO1 := Lib.hid h1
                      have HB1 := Lib.hid ((HW.out.alloc (by omega) _).grown hg (by simp; omega) (fun k hk => (HO.out.lt k hk).1))
                      clear HO HW h1 hg
                      go_wp2_with fail
                      go_roundw
                      case rel =>
                        have hs := reps_step (by omega) (by omega) h3 HA.out HL2.out (q := (r : Int) - 3) (r' := 0) (by omega) (by omega)
                        exact ⟨0, es ++ [(16, (r : Int) - 3)], rfl, Lib.hid hs.1, Lib.hid hs.2, by simp; omega, Lib.hid (by simpa [Nat.add_assoc] using HO1.out), HB1⟩
                      case measure => simp [intOf]; omega
                    · go_wp2_with (at_builtin; refine app_step rfl (.tmp 87) (.tmp 91) rfl w.heap.size _ _ _ rfl (HO.out.alloc _) wr.heap.size 16 3 rfl (by simp) (by simp) (by omega) (by simp; omega) ?_)
                      intro v' w1 h1 hg g' c' hv
                      subst hv
                      have HO1 := Lib.hid h1
                      have HB1 := Lib.hid ((HW.out.alloc (by omega) _).grown hg (by simp; omega) (fun k hk => (HO.out.lt k hk).1))
                      clear HO HW h1 hg
                      go_wp2_with fail
                      go_roundw
                      case rel =>
                        have hs := reps_step (by omega) (by omega) h3 HA.out HL2.out (q := 3) (r' := r - 6) (by omega) (by omega)
                        exact ⟨r - 6, es ++ [(16, 3)], by go_num, Lib.hid hs.1, Lib.hid hs.2, by simp; omega, Lib.hid (by simpa [Nat.add_assoc] using HO1.out), HB1⟩
                      case measure => simp [intOf]; omega
                  · go_wp2_with fail
                    go_meet
                    case rel =>
                      have hs := reps_stop (by omega) HA.out HL2.out
                      exact ⟨r, es, rfl, Lib.hid hs.1, Lib.hid hs.2, hlen, HO, HW⟩
              case rest =>
                clear HO2 HB2
                obtain ⟨r, es, rfl, HA, HL2, hlen, HO, HW⟩ := hcut
                go_wp2_with fail
                refine (times_calls _ _ _ _ _ _ _ HO.out HW.out.size (by omega) (by omega)).mono ?_
                rintro e w' ⟨v2, rfl, ho2, hb2⟩
                have HO2 := Lib.hid ho2
                have HB2 := Lib.hid hb2
                clear ho2 hb2
                go_wp2_with fail
                go_roundw
                case rel =>
                  have hs := HR.out.vstep HZ.out HP.out hol HA.out HL2.out
                  refine ⟨k + m, _, by omega, by go_num, Lib.hid (own_as HO2.out ?_), Lib.hid hs.1, hs.2, Lib.hid (HW.out.trans HB2.out)⟩
                  simp
                case measure => simp [intOf]; omega
        · go_wp2_with fail
          obtain rfl : k = n := by omega
          go_ret2
          have e1 : xs.drop k = [] := List.drop_eq_nil_of_le (by have := HL.out; omega)
          have e2 := HP.out
          rw [e1, packF_nil, List.append_nil] at e2
          subst e2
          exact Or.inl ⟨by have := HL.out; omega, HB.out, _, rfl, HO.out, HW.out⟩
end Go.Proofs.YtcblibefmclloaaDoor

set_option linter.unusedVariables false
set_option linter.unusedSimpArgs false
namespace Go.Proofs.YtcblibefmclloaaDoor
open Go.RowKit
/-- A run begun at a place, so far, perhaps empty. -/
structure Run0 (xs : List Int) (i m : Nat) : Prop where
  le : i + m ≤ xs.length
  eq : ∀ j, j < m → nth xs (i + j) = nth xs i
theorem Run0.step {xs : List Int} {i m : Nat} (h : Run0 xs i m) (hl : i + m < xs.length) (hv : nth xs (i + m) = nth xs i) : Run0 xs i (m + 1) :=
  ⟨by omega, fun j hj => by
    by_cases e : j = m
    · subst e; exact hv
    · exact h.eq j (by omega)⟩
theorem Run0.one {xs : List Int} {i m : Nat} (h : Run0 xs i m) (hi : i < xs.length) (hs : i + m < xs.length → nth xs (i + m) ≠ nth xs i) : 1 ≤ m := by
  rcases Nat.eq_zero_or_pos m with rfl | h1
  · exact absurd rfl (hs (by omega))
  · exact h1
theorem box_cell {w w1 : World} {o : Obj} {u x : Value} {B : Nat} (hc : w.cell? ⟨B, 0, none⟩ = some x) (hne : ∀ k, u.ownBlock = some k → B + 1 ≤ k) (hg : (w.alloc o).grownBy w1 u.ownBlock) : w1.cell? ⟨B, 0, none⟩ = some x := by
  have hB : B < w.heap.size := World.block_lt_of_cell? _ _ hc
  exact (World.cell?_of_block (w := w.alloc o) (a := ⟨B, 0, none⟩) (hg.block B (by simp; omega) (fun e => by have := hne B e.symm; omega))).trans (((Keeps.refl [] w).alloc o).cell (by simp) hc)
theorem box_frozen {w w1 : World} {o : Obj} {u : Value} {B : Nat} (hB : B < w.heap.size) (hf : w.frozen? ⟨B, 0, none⟩ = false) (hne : ∀ k, u.ownBlock = some k → B + 1 ≤ k) (hg : (w.alloc o).grownBy w1 u.ownBlock) : w1.frozen? ⟨B, 0, none⟩ = false :=
  (World.frozen?_of_block (w := w.alloc o) (a := ⟨B, 0, none⟩) (hg.block B (by simp; omega) (fun e => by have := hne B e.symm; omega))).trans ((((Keeps.refl [] w).alloc o).frozen (p := ⟨B, 0, none⟩) hB (by simp)).trans hf)
/-- Behind 'box = append(box, ..)': the box, its row, what lies below. -/
theorem box_put {w0 w w1 : World} {o : Obj} {u x : Value} {B : Nat} {e : TypeId} {size n : Nat} {cs : List Value} (hW : Below B w0 w) (hc : w.cell? ⟨B, 0, none⟩ = some x) (hf : w.frozen? ⟨B, 0, none⟩ = false) (hne : ∀ k, u.ownBlock = some k → B + 1 ≤ k) (hg : (w.alloc o).grownBy w1 u.ownBlock)
    {v : Value} (h1 : w1.ownsRow (B + 1) e size v n cs) :
    (w1.setCell ⟨B, 0, none⟩ v).cell? ⟨B, 0, none⟩ = some v ∧ (w1.setCell ⟨B, 0, none⟩ v).frozen? ⟨B, 0, none⟩ = false ∧ (w1.setCell ⟨B, 0, none⟩ v).ownsRow (B + 1) e size v n cs ∧ Below B w0 (w1.setCell ⟨B, 0, none⟩ v) := by
  have hB : B < w.heap.size := World.block_lt_of_cell? _ _ hc
  refine ⟨World.cell?_setCell_same' _ _ _ (by rw [box_cell hc hne hg]; rfl), by simpa using box_frozen hB hf hne hg, ownsRow_setCell_below h1 (Nat.lt_succ_self B) v, ?_⟩
  exact (((hW.alloc (Nat.le_of_lt hB) _)).grown hg (by simp; omega) (fun k hk => Nat.le_of_succ_le (hne k hk))).setCell (p := ⟨B, 0, none⟩) (Nat.le_refl B) v
set_option maxRecDepth 100000 in
set_option maxHeartbeats 1000000 in
theorem lensPack_calls (w : World) (A : Option Addr) (n c : Nat) (xs : List Int) (ht : Tabs w) (hx : RI .i64 w A n xs) (hn : n ≤ 1048576) :
    Calls Tryd.prog 17 #[.slice A n c] w (Packed w xs) := by
  have HT := Lib.hid ht
  have HX := Lib.hid hx
  have HL := Lib.hid hx.len
  clear hx ht
  by_cases hbig : 316 < n
  · have e1 : decide (316 < n) = true := by simpa using hbig
    go_enter Tryd.func17, Tryd.ntmps17
    go_wp2_with fail
    go_ret2
    exact Or.inr ⟨Or.inl (by have := HL.out; omega), rfl, Below.refl _ _⟩
  · have e1 : decide (316 < n) = false := by simpa using hbig
    go_enter Tryd.func17, Tryd.ntmps17
    go_wp2_with fail
    refine (lengths_calls w _ _ _ xs HX.out (by omega)).mono ?_
    rintro e w' ⟨rfl, hdr⟩
    have HDR := Lib.hid hdr
    clear hdr
    cases hb : anyBad xs with
    | true =>
      have HB := Lib.hid hb
      clear hb
      go_wp2_with fail
      go_ret2
      exact Or.inr ⟨Or.inr HB.out, rfl, Dr.below HDR.out⟩
    | false =>
      have HB := Lib.hid hb
      clear hb e1
      have HSZ : Hid (w'.heap.size = w.heap.size) := by obtain ⟨q, rfl⟩ := HDR.out; rfl
      go_wp2_with fail
      have HW0 : Hid (Below w'.heap.size w' (w'.alloc (.cells #[.slice none 0 0] 25))) := (Below.refl _ _).alloc (Nat.le_refl _) _
      have HT0 : Hid (Tabs w') := HT.out.keeps (HDR.out.keeps (S := [])) (by simp)
      have HX0 : Hid (RI .i64 w' A n xs) := HX.out.keeps (HDR.out.keeps (S := [])) (off_nil _)
      have HG : Hid (gtop ≤ w'.heap.size) := HT0.out.size
      clear HX HT
      go_loopw [6] (fun i wr => ∃ (k : Nat) (out : List (Int × Int)) (u : Value), k ≤ n ∧ i = .int .i64 k ∧ wr.cell? ⟨w'.heap.size, 0, none⟩ = some u ∧ wr.frozen? ⟨w'.heap.size, 0, none⟩ = false ∧ Hid (wr.ownsRow (w'.heap.size + 1) 31 2 u out.length (pcells out)) ∧ Hid (out ++ packF (xs.drop k) = packF xs) ∧ out.length ≤ k ∧ Hid (Below w'.heap.size w' wr) ∧ w'.heap.size < wr.heap.size) (fun i _ => n - (intOf i).toNat)
      case atStart => exact ⟨0, [], .slice none 0 0, by omega, rfl, by simp, by simp, Lib.hid (World.ownsRow_nil _ _ _ _), Lib.hid (by simp), by simp, HW0, by simp⟩
      case round =>
        clear HW0
        obtain ⟨k, out, u, hk, rfl, hbc, hbf, HO, HP, hol, HW, hsz⟩ := hrel
        by_cases hlt : k < n
        · obtain ⟨b, o, rfl, hc1⟩ := HX0.out.at hlt
          have hc1' := (Keeps.of_below (S := []) HW.out).cell (by simp) hc1
          clear hc1
          go_upto_block 2 with (fail)
          go_cut [6, 8] (fun v6 v8 wc => ∃ m : Nat, m + k ≤ n ∧ 1 ≤ m ∧ v6 = .int .i64 ((k : Int) + m) ∧ v8 = .int .i64 m ∧ Hid (RunOk xs k m) ∧ Hid (Dr wr wc))
          case first =>
            go_wp2_with fail
            go_loopw [6, 8] (fun v6 v8 wi => ∃ m : Nat, m + k ≤ n ∧ v6 = .int .i64 ((k : Int) + m) ∧ v8 = .int .i64 m ∧ Hid (Run0 xs k m) ∧ Hid (Dr wr wi)) (fun _ v8 _ => n - (intOf v8).toNat)
            case atStart => exact ⟨0, by omega, by go_num, rfl, Lib.hid ⟨by have := HL.out; omega, fun j hj => by omega⟩, ⟨0, rfl⟩⟩
            case round =>
              obtain ⟨m, hm, rfl, rfl, HR, HD⟩ := hrel
              obtain ⟨q1, rfl⟩ := HD.out
              clear HD
              by_cases h1 : k + m < n
              · obtain ⟨b', o', he, hc2⟩ := HX0.out.at h1
                injection he with he; injection he with he1 he2 he3; subst he1; subst he2; clear he3
                have hc2' := (Keeps.of_below (S := []) HW.out).cell (by simp) hc2
                clear hc2
                have e2 : (0 : Int) ≤ (k : Int) + (m : Int) := by omega
                have e3 : ((k : Int) + (m : Int)).toNat = k + m := by omega
                have e4 : decide ((k : Int) + (m : Int) < (n : Int)) = true := by simp; omega
                by_cases hv : nth xs (k + m) = nth xs k
                · have e5 : (nth xs (k + m) == nth xs k) = true := by simpa using hv
                  have HV := Lib.hid hv
                  clear hv
                  go_wp2_with fail
                  clear e2 e3 e4 e5
                  go_wp2_with fail
                  go_roundw
                  case rel => exact ⟨m + 1, by omega, by go_num, by go_num, Lib.hid (HR.out.step (by have := HL.out; omega) HV.out), Lib.hid (by first | exact ⟨_, rfl⟩ | exact Dr.step ⟨_, rfl⟩ _)⟩
                  case measure => simp [intOf]; omega
                · have e5 : (nth xs (k + m) == nth xs k) = false := by simpa using hv
                  have HV := Lib.hid hv
                  clear hv
                  go_wp2_with fail
                  clear e2 e3 e4 e5
                  go_wp2_with fail
                  go_meet
                  case rel => exact ⟨m, by omega, HR.out.one (by have := HL.out; omega) (fun _ => HV.out), rfl, rfl, Lib.hid { one := HR.out.one (by have := HL.out; omega) (fun _ => HV.out), le := HR.out.le, eq := HR.out.eq, stop := fun _ => HV.out }, Lib.hid (by first | exact ⟨_, rfl⟩ | exact Dr.step ⟨_, rfl⟩ _)⟩
              · have e4 : decide ((k : Int) + (m : Int) < (n : Int)) = false := by simp; omega
                go_wp2_with fail
                clear e4
                go_wp2_with fail
                go_meet
                case rel => exact ⟨m, by omega, by omega, rfl, rfl, Lib.hid { one := by omega, le := HR.out.le, eq := HR.out.eq, stop := fun h => absurd h (by have := HL.out; omega) }, Lib.hid (by first | exact ⟨_, rfl⟩ | exact Dr.step ⟨_, rfl⟩ _)⟩
          case rest =>
            obtain ⟨m, hm, hm1, rfl, rfl, HR, HD⟩ := hcut
            have HO1 : Hid (wc.ownsRow (w'.heap.size + 1) 31 2 u out.length (pcells out)) := by obtain ⟨q1, rfl⟩ := HD.out; exact HO.out
            have HW1 : Hid (Below w'.heap.size w' wc) := by obtain ⟨q1, rfl⟩ := HD.out; exact (HW.out.trans ((Dr.below ⟨q1, rfl⟩).mono HW.out.size))
            have hbc1 : wc.cell? ⟨w'.heap.size, 0, none⟩ = some u := by obtain ⟨q1, rfl⟩ := HD.out; exact hbc
            have hbf1 : wc.frozen? ⟨w'.heap.size, 0, none⟩ = false := by obtain ⟨q1, rfl⟩ := HD.out; exact hbf
            clear HD HO HW hbc hbf hc1'
            have HT1 := Lib.hid (HT0.out.below HW1.out HG.out)
            have hsz1 : w'.heap.size < wc.heap.size := World.block_lt_of_cell? _ _ hbc1
            go_upto_if 43 with (fail)
            go_cut [8] (fun v8 wc => ∃ (r : Nat) (es : List (Int × Int)) (u : Value), r + es.length ≤ m ∧ v8 = .int .i64 r ∧ Hid (es ++ List.replicate r (nth xs k, 0) = rsteps (nth xs k) m) ∧ wc.cell? ⟨w'.heap.size, 0, none⟩ = some u ∧ wc.frozen? ⟨w'.heap.size, 0, none⟩ = false ∧ Hid (wc.ownsRow (w'.heap.size + 1) 31 2 u (out.length + es.length) (pcells (out ++ es))) ∧ Hid (Below w'.heap.size w' wc))
            case first =>
              by_cases hz : nth xs k = 0
              · have e5 : (nth xs k == 0) = true := by simpa using hz
                have HZ := Lib.hid hz
                clear hz
                go_wp2_with fail
                refine (pack1_calls _ _ m 11 18 138 u out.length out HT1.out HG.out hbc1 hbf1 HO1.out (by omega) rfl (by omega) (by omega) (by omega) (by omega) (by omega)).mono ?_
                rintro e w2 ⟨u2, rfl, hc2, hf2, ho2, hb2⟩
                have hl1 := reps_len 11 18 138 m (by omega) (by omega)
                have hl2 := reps_len 3 17 10 (left 11 138 m) (by omega) (by omega)
                have HO2 := Lib.hid ho2
                have HB2 := Lib.hid hb2
                clear ho2 hb2 HO1 hbc1 hbf1 e5
                have HT2 := Lib.hid (HT1.out.below HB2.out HG.out)
                go_wp2_with fail
                refine (pack1_calls _ _ (left 11 138 m) 3 17 10 u2 _ _ HT2.out HG.out hc2 hf2 HO2.out (by omega) rfl (by omega) (by omega) (by omega) (by omega) (by omega)).mono ?_
                rintro e w3 ⟨u3, rfl, hc3, hf3, ho3, hb3⟩
                have HO3 := Lib.hid ho3
                have HB3 := Lib.hid hb3
                clear ho3 hb3 HO2 hc2 hf2
                go_wp2_with fail
                go_meet
                case rel =>
                  refine ⟨_, reps 11 18 138 m ++ reps 3 17 10 (left 11 138 m), u3, ?_, rfl, ?_, hc3, hf3, ?_, Lib.hid ((HW1.out.trans HB2.out).trans HB3.out)⟩
                  · rw [List.length_append]; omega
                  · rw [HZ.out]; exact Lib.hid (by simp [rsteps, zsteps])
                  · exact Lib.hid (by have := HO3.out; rw [List.length_append, ← Nat.add_assoc, ← List.append_assoc]; exact this)
              · have e5 : (nth xs k == 0) = false := by simpa using hz
                have HZ := Lib.hid hz
                clear hz
                go_wp2_with (at_builtin; refine app_step rfl (.tmp 49) (.tmp 52) rfl (w'.heap.size + 1) _ _ _ rfl (HO1.out.alloc _) wc.heap.size (nth xs k) 0 rfl (by simp) (by simp) (by omega) (by simp; omega) ?_)
                intro v' w1 h1 hg g' c' hv
                subst hv
                have hcx := box_cell hbc1 (fun k hk => (HO1.out.lt k hk).1) hg
                have hfx := box_frozen hsz1 hbf1 (fun k hk => (HO1.out.lt k hk).1) hg
                obtain ⟨hc2, hf2, ho2, hb2⟩ := box_put HW1.out hbc1 hbf1 (fun k hk => (HO1.out.lt k hk).1) hg h1
                have HO2 := Lib.hid ho2
                have HB2 := Lib.hid hb2
                have HT2 := Lib.hid (HT0.out.below HB2.out HG.out)
                clear ho2 hb2 HO1 hbc1 hbf1 e5 h1 hg HW1
                have hl2 := reps_len 3 16 6 (m - 1) (by omega) (by omega)
                have em : (m : Int) - 1 = ((m - 1 : Nat) : Int) := by omega
                go_wp2_with fail
                clear hcx hfx
                refine (pack1_calls _ _ (m - 1) 3 16 6 _ _ _ HT2.out HG.out hc2 hf2 HO2.out (by omega) rfl (by omega) (by omega) (by omega) (by omega) (by omega)).mono ?_
                rintro e w3 ⟨u3, rfl, hc3, hf3, ho3, hb3⟩
                have HO3 := Lib.hid ho3
                have HB3 := Lib.hid hb3
                clear ho3 hb3 HO2 hc2 hf2 em
                go_wp2_with fail
                go_meet
                case rel =>
                  refine ⟨_, (nth xs k, 0) :: reps 3 16 6 (m - 1), u3, ?_, rfl, ?_, hc3, hf3, ?_, Lib.hid (HB2.out.trans HB3.out)⟩
                  · rw [List.length_cons]; omega
                  · exact Lib.hid (by simp [rsteps, vsteps, HZ.out])
                  · exact Lib.hid (by have := HO3.out; rw [List.length_cons, show out.length + ((reps 3 16 6 (m - 1)).length + 1) = out.length + 1 + (reps 3 16 6 (m - 1)).length by omega]; simpa using this)
            case rest =>
              clear HO1 hbc1 hbf1 HW1 HT1 hsz1
              obtain ⟨r, es, u1, hre, rfl, HE, hc1, hf1, HO1, HW1⟩ := hcut
              go_wp2_with fail
              go_loopw [59] (fun v59 wr => ∃ (j : Nat) (u : Value), j ≤ r ∧ v59 = .int .i64 j ∧ wr.cell? ⟨w'.heap.size, 0, none⟩ = some u ∧ wr.frozen? ⟨w'.heap.size, 0, none⟩ = false ∧ Hid (wr.ownsRow (w'.heap.size + 1) 31 2 u (out.length + es.length + j) (pcells (out ++ (es ++ List.replicate j (nth xs k, 0))))) ∧ Hid (Below w'.heap.size w' wr)) (fun v59 _ => r - (intOf v59).toNat)
              case atStart => exact ⟨0, u1, by omega, rfl, hc1, hf1, Lib.hid (by simpa using HO1.out), HW1⟩
              case round =>
                clear HO1 HW1 hc1 hf1
                obtain ⟨j, u2, hj, rfl, hc1, hf1, HO1, HW1⟩ := hrel
                have hsz1 : w'.heap.size < wr.heap.size := World.block_lt_of_cell? _ _ hc1
                by_cases hjr : j < r
                · go_wp2_with (at_builtin; refine app_step rfl (.tmp 61) (.tmp 64) rfl (w'.heap.size + 1) _ _ _ rfl (HO1.out.alloc _) wr.heap.size (nth xs k) 0 rfl (by simp) (by simp) (by omega) (by simp; omega) ?_)
                  intro v' w1 h1 hg g' c' hv
                  subst hv
                  have hcx := box_cell hc1 (fun k hk => (HO1.out.lt k hk).1) hg
                  have hfx := box_frozen hsz1 hf1 (fun k hk => (HO1.out.lt k hk).1) hg
                  obtain ⟨hc2, hf2, ho2, hb2⟩ := box_put HW1.out hc1 hf1 (fun k hk => (HO1.out.lt k hk).1) hg h1
                  have HO2 := Lib.hid ho2
                  have HB2 := Lib.hid hb2
                  clear ho2 hb2 HO1 hc1 hf1 h1 hg HW1
                  go_wp2_with fail
                  go_roundw
                  case rel => exact ⟨j + 1, _, by omega, by go_num, hc2, hf2, Lib.hid (by rw [List.replicate_succ']; simpa [Nat.add_assoc] using HO2.out), HB2⟩
                  case measure => simp [intOf]; omega
                · obtain rfl : j = r := by omega
                  go_wp2_with fail
                  go_roundw
                  case rel =>
                    have hpk := HR.out.pack
                    have hp := HP.out
                    have hrl := rsteps_len (nth xs k) m hm1
                    rw [hpk, ← List.append_assoc] at hp
                    have ho := HO1.out
                    rw [HE.out] at ho
                    exact ⟨k + m, out ++ rsteps (nth xs k) m, u2, by omega, by go_num, hc1, hf1, Lib.hid (own_as ho rfl), Lib.hid hp, by rw [List.length_append]; omega, HW1, hsz1⟩
                  case measure => simp [intOf]; omega
        · go_wp2_with fail
          obtain rfl : k = n := by omega
          go_ret2
          have e1 : xs.drop k = [] := List.drop_eq_nil_of_le (by have := HL.out; omega)
          have e2 := HP.out
          rw [e1, packF_nil, List.append_nil] at e2
          subst e2
          exact Or.inl ⟨by have := HL.out; omega, HB.out, _, rfl, (HO.out.mono (by have := HSZ.out; omega)), (Dr.below HDR.out).trans (HSZ.out ▸ HW.out)⟩
end Go.Proofs.YtcblibefmclloaaDoor

set_option linter.unusedVariables false
set_option linter.unusedSimpArgs false
namespace Go.Proofs.YtcblibefmclloaaDoor
open Go.RowKit
set_option maxRecDepth 100000 in
set_option maxHeartbeats 1000000 in
theorem concat_calls (w : World) (gb : Nat) (A1 A2 : Option Addr) (n1 n2 c1 c2 : Nat) (xs ys : List Int) (h0 : w.cell? ⟨gb, 0, none⟩ = some (.slice A1 n1 c1)) (h1 : w.cell? ⟨gb, 1, none⟩ = some (.slice A2 n2 c2))
    (hx : RI .i64 w A1 n1 xs) (hy : RI .i64 w A2 n2 ys) (hnx : A1 = none → n1 = 0 ∧ c1 = 0) (hny : A2 = none → n2 = 0 ∧ c2 = 0) (hpx : ∀ ad, A1 = some ad → ∃ b o, ad = ⟨b, o, none⟩) (hpy : ∀ ad, A2 = some ad → ∃ b o, ad = ⟨b, o, none⟩)
    (hn1 : n1 ≤ 1000000000) (hn2 : n2 ≤ 1000000000) :
    Calls Tryd.prog 71 #[.slice (some ⟨gb, 0, none⟩) 2 2] w fun e w' => ∃ v, e = .returned v ∧ w'.ownsRow w.heap.size 3 1 v (n1 + n2) (ints .i64 (xs ++ ys)) ∧ Below w.heap.size w w' := by
  have HX := Lib.hid hx
  have HY := Lib.hid hy
  have NX := Lib.hid hnx
  have NY := Lib.hid hny
  have PX := Lib.hid hpx
  have PY := Lib.hid hpy
  have H0 := Lib.hid h0
  have H1 := Lib.hid h1
  have e1 : decide ((n1 : Int) < 0) = false := by simp
  have e2 : decide ((n1 : Int) + n2 < 0) = false := by simp; omega
  clear hx hy hnx hny hpx hpy
  go_enter Tryd.func71, Tryd.ntmps71
  go_wp2_with fail
  refine wp_loop_rounds 3 ?_
  rw [rounds_succ]
  go_wp2_with fail
  rw [rounds_succ]
  go_wp2_with fail
  rw [rounds_succ]
  go_wp2_with fail
  rw [show ((n1 : Int) + n2) = ((n1 + n2 : Nat) : Int) by omega]
  refine (grow_calls _ (n1 + n2) (by omega)).mono ?_
  rintro _ w1 ⟨v, rfl, ho, hb⟩
  have HO := Lib.hid (ho w.heap.size (Nat.le_refl _))
  have HB := Lib.hid hb
  have hz := hb.size
  have h0 := (Keeps.of_below (S := []) hb).cell (by simp) H0.out
  have h1 := (Keeps.of_below (S := []) hb).cell (by simp) H1.out
  clear ho hb e1 e2
  go_wp2_with fail
  refine wp_loop_rounds 3 ?_
  rw [rounds_succ]
  go_wp2_with (at_builtin; refine app_intsG rfl (.tmp 31) (.tmp 32) rfl w.heap.size _ _ [] rfl HO.out A1 n1 c1 xs rfl (HX.out.keeps (Keeps.of_below (S := []) HB.out) (off_nil _)) NX.out PX.out (by omega) hz ?_)
  intro v2 w2 ho hg
  have HO2 := Lib.hid ho
  have hb2 := HB.out.grown hg (Nat.le_trans (Nat.le_refl _) hz) (fun k hk => own_lo HO.out k hk)
  have HB2 := Lib.hid hb2
  have hz2 := hb2.size
  have h0 := (Keeps.of_below (S := []) hb2).cell (by simp) H0.out
  have h1 := (Keeps.of_below (S := []) hb2).cell (by simp) H1.out
  clear ho hg hb2
  go_wp2_with fail
  rw [rounds_succ]
  go_wp2_with (at_builtin; refine app_intsG rfl (.tmp 31) (.tmp 32) rfl w.heap.size _ _ _ rfl HO2.out A2 n2 c2 ys rfl (HY.out.keeps (Keeps.of_below (S := []) HB2.out) (off_nil _)) NY.out PY.out (by omega) hz2 ?_)
  intro v3 w3 ho hg
  have HO3 := Lib.hid ho
  have hb3 := HB2.out.grown hg hz2 (fun k hk => own_lo HO2.out k hk)
  have HB3 := Lib.hid hb3
  clear ho hg hb3 h0 h1
  go_wp2_with fail
  rw [rounds_succ]
  go_wp2_with fail
  go_ret
  exact ⟨_, rfl, HO3.out, HB3.out⟩
/-- The same, told of a world before. -/
theorem concat_from (w0 w : World) (gb : Nat) (A1 A2 : Option Addr) (n1 n2 c1 c2 : Nat) (xs ys : List Int) (hk : Keeps [] w0 w) (h0 : w.cell? ⟨gb, 0, none⟩ = some (.slice A1 n1 c1)) (h1 : w.cell? ⟨gb, 1, none⟩ = some (.slice A2 n2 c2))
    (hx : RI .i64 w0 A1 n1 xs) (hy : RI .i64 w0 A2 n2 ys) (hnx : A1 = none → n1 = 0 ∧ c1 = 0) (hny : A2 = none → n2 = 0 ∧ c2 = 0) (hpx : ∀ ad, A1 = some ad → ∃ b o, ad = ⟨b, o, none⟩) (hpy : ∀ ad, A2 = some ad → ∃ b o, ad = ⟨b, o, none⟩)
    (hn1 : n1 ≤ 1000000000) (hn2 : n2 ≤ 1000000000) :
    Calls Tryd.prog 71 #[.slice (some ⟨gb, 0, none⟩) 2 2] w fun e w' => ∃ A c, e = .returned (.slice A (n1 + n2) c) ∧ w'.ownsRow w0.heap.size 3 1 (.slice A (n1 + n2) c) (n1 + n2) (ints .i64 (xs ++ ys)) ∧ Keeps [] w0 w' := by
  refine (concat_calls w gb A1 A2 n1 n2 c1 c2 xs ys h0 h1 (hx.keeps hk (off_nil _)) (hy.keeps hk (off_nil _)) hnx hny hpx hpy hn1 hn2).mono ?_
  rintro e w' ⟨v, rfl, ho, hb⟩
  have ho2 := ho.mono hk.size
  have hf : ∃ A c, v = .slice A (n1 + n2) c := by
    rcases ho.2 with ⟨rfl, h0⟩ | ⟨g, cap, cur, rfl, _⟩
    · exact ⟨none, 0, by rw [h0]⟩
    · exact ⟨_, _, rfl⟩
  obtain ⟨A, c, rfl⟩ := hf
  exact ⟨A, c, rfl, ho2, hk.trans (Keeps.of_below hb)⟩
end Go.Proofs.YtcblibefmclloaaDoor

/- Packs in memory: a block known whole; the order by weight. -/
set_option linter.unusedVariables false
set_option linter.unusedSimpArgs false
namespace Go.Proofs.YtcblibefmclloaaDoor
open Go.RowKit
/-- A pack as it stands in memory: its weight and the slice of its symbols. -/
structure Pk where
  w : Int
  a : Option Addr
  n : Nat
  c : Nat
instance : Inhabited Pk := ⟨⟨0, none, 0, 0⟩⟩
def kcells : List Pk → List Value
  | [] => []
  | p :: r => .int .i64 p.w :: .slice p.a p.n p.c :: kcells r
theorem kcells_append (xs ys : List Pk) : kcells (xs ++ ys) = kcells xs ++ kcells ys := by
  induction xs with
  | nil => rfl
  | cons p r ih => simp [kcells, ih]
theorem kcells_length (xs : List Pk) : (kcells xs).length = xs.length * 2 := by
  induction xs with
  | nil => rfl
  | cons p r ih => simp [kcells, ih]; omega
theorem kcells_one (xs : List Pk) : ∀ v ∈ kcells xs, v.oneCell' = true := by
  induction xs with
  | nil => simp [kcells]
  | cons p r ih =>
    intro v hv
    simp only [kcells, List.mem_cons] at hv
    rcases hv with rfl | rfl | h
    · rfl
    · rfl
    · exact ih v h
/-- The pack at a place. -/
def kth (xs : List Pk) (j : Nat) : Pk := xs.getD j default
theorem kth_lt {xs : List Pk} {j : Nat} (h : j < xs.length) : kth xs j = xs[j] := by simp [kth, List.getD, h]
theorem kcells_get (xs : List Pk) (R : List Value) : ∀ j, j < xs.length → (kcells xs ++ R)[j * 2]? = some (.int .i64 (kth xs j).w) ∧ (kcells xs ++ R)[j * 2 + 1]? = some (.slice (kth xs j).a (kth xs j).n (kth xs j).c) := by
  induction xs with
  | nil => intro j hj; simp at hj
  | cons p r ih =>
    intro j hj
    match j with
    | 0 => exact ⟨rfl, rfl⟩
    | j + 1 =>
      have := ih j (by simpa using hj)
      rw [show (j + 1) * 2 = j * 2 + 1 + 1 by omega]
      exact this
theorem kcells_set (xs : List Pk) (R : List Value) (p : Pk) : ∀ j, j < xs.length → ((kcells xs ++ R).set (j * 2) (.int .i64 p.w)).set (j * 2 + 1) (.slice p.a p.n p.c) = kcells (xs.set j p) ++ R := by
  induction xs with
  | nil => intro j hj; simp at hj
  | cons q r ih =>
    intro j hj
    match j with
    | 0 => rfl
    | j + 1 =>
      have := ih j (by simpa using hj)
      rw [show (j + 1) * 2 = j * 2 + 1 + 1 by omega]
      simp only [kcells, List.cons_append, List.set_cons_succ, this]
/-- A block holds packs, and behind them what is spare. -/
def PB (w : World) (g : Nat) (L : List Pk) (R : List Value) : Prop := Blk w g 136 (kcells L ++ R)
theorem PB.lt {w : World} {g : Nat} {L : List Pk} {R : List Value} (h : PB w g L R) : g < w.heap.size := Blk.lt h
theorem PB.keeps {S : List Nat} {w w' : World} {g : Nat} {L : List Pk} {R : List Value} (h : PB w g L R) (hk : Keeps S w w') (hn : g ∉ S) : PB w' g L R := Blk.keeps h hk hn
theorem PB.cell {w : World} {g : Nat} {L : List Pk} {R : List Value} (h : PB w g L R) {j : Nat} (hj : j < L.length) :
    w.cell? ⟨g, j * 2, none⟩ = some (.int .i64 (kth L j).w) ∧ w.cell? ⟨g, j * 2 + 1, none⟩ = some (.slice (kth L j).a (kth L j).n (kth L j).c) := by
  have := kcells_get L R j hj
  exact ⟨(Blk.cell h _).trans this.1, (Blk.cell h _).trans this.2⟩
theorem PB.free {w : World} {g : Nat} {L : List Pk} {R : List Value} (h : PB w g L R) (j : Nat) : w.frozen? ⟨g, j, none⟩ = false := Blk.frozen h j
theorem PB.set {w : World} {g : Nat} {L : List Pk} {R : List Value} (h : PB w g L R) {j : Nat} (hj : j < L.length) (p : Pk) :
    PB ((w.setCell ⟨g, j * 2, none⟩ (.int .i64 p.w)).setCell ⟨g, j * 2 + 1, none⟩ (.slice p.a p.n p.c)) g (L.set j p) R := by
  have h1 := Blk.set h (j * 2) (.int .i64 p.w)
  have h2 := Blk.set h1 (j * 2 + 1) (.slice p.a p.n p.c)
  rw [kcells_set L R p j hj] at h2
  exact h2
theorem PB.dr {w w' : World} {g : Nat} {L : List Pk} {R : List Value} (h : PB w g L R) (hd : Dr w w') : PB w' g L R := h.keeps (hd.keeps (S := [])) (by simp)
theorem Keeps.put {w w' : World} {g j : Nat} (h : Keeps [g] w w') (u : Value) : Keeps [g] w (w'.setCell ⟨g, j, none⟩ u) := h.setCell (Or.inl (by simp)) u
def pv (p : Pk) : Value := .agg #[.int .i64 p.w, .slice p.a p.n p.c]
set_option maxHeartbeats 400000 in
/-- The order: by weight. -/
theorem lighter_calls (w : World) (x y : Int) (xa ya : Option Addr) (xn xc yn yc : Nat) (hx0 : 0 ≤ x) (hx : x ≤ 100000000000000000) (hy0 : 0 ≤ y) (hy : y ≤ 100000000000000000) :
    Calls Tryd.prog 97 #[.agg #[.int .i64 x, .slice xa xn xc], .agg #[.int .i64 y, .slice ya yn yc]] w fun e w' => e = .returned (.int .i64 (x - y)) ∧ Keeps [] w w' := by
  go_enter Tryd.func97, Tryd.ntmps97
  go_wp2
  go_ret
  exact ⟨rfl, by repeat (first | exact Keeps.refl _ _ | apply Keeps.drewN | apply Keeps.drew | apply Keeps.alloc)⟩
end Go.Proofs.YtcblibefmclloaaDoor

set_option linter.unusedVariables false
set_option linter.unusedSimpArgs false
namespace Go.Proofs.YtcblibefmclloaaDoor
open Go.RowKit
/-- Two places exchanged. -/
def swp (L : List Pk) (i j : Nat) : List Pk := (L.set i (kth L j)).set j (kth L i)
theorem swp_length (L : List Pk) (i j : Nat) : (swp L i j).length = L.length := by simp [swp]
/-- So many exchanged. -/
def swpN (L : List Pk) (a b : Nat) : Nat → List Pk
  | 0 => L
  | n + 1 => swp (swpN L a b n) (a + n) (b + n)
theorem swpN_length (L : List Pk) (a b n : Nat) : (swpN L a b n).length = L.length := by
  induction n with
  | zero => rfl
  | succ n ih => rw [swpN, swp_length, ih]
theorem set_two (L : List Pk) (i j : Nat) (hi : i < L.length) (hj : j < L.length) (w : World) (g : Nat) (R : List Value) (h : PB w g L R) (hij : i ≠ j) :
    PB ((((w.setCell ⟨g, i * 2, none⟩ (.int .i64 (kth L j).w)).setCell ⟨g, i * 2 + 1, none⟩ (.slice (kth L j).a (kth L j).n (kth L j).c)).setCell ⟨g, j * 2, none⟩ (.int .i64 (kth L i).w)).setCell ⟨g, j * 2 + 1, none⟩ (.slice (kth L i).a (kth L i).n (kth L i).c)) g (swp L i j) R :=
  (h.set hi (kth L j)).set (by simpa using hj) (kth L i)
set_option maxRecDepth 100000 in
set_option maxHeartbeats 1000000 in
theorem swapRange_calls (w : World) (g : Nat) (L : List Pk) (R : List Value) (m c a b n : Nat) (fv : Value) (h : PB w g L R) (hm : m = L.length) (hab : a + n ≤ b) (hb : b + n ≤ m) (hsz : m ≤ 1000000) :
    Calls Tryd.prog 127 #[.slice (some ⟨g, 0, none⟩) m c, .int .i64 a, .int .i64 b, .int .i64 n, fv] w fun e w' => e = .returned (.tuple #[]) ∧ PB w' g (swpN L a b n) R ∧ Keeps [g] w w' := by
  have H := Lib.hid h
  have HM := Lib.hid hm
  clear h hm
  go_enter Tryd.func127, Tryd.ntmps127
  go_wp2_with fail
  go_loopw [10] (fun i wr => ∃ k : Nat, k ≤ n ∧ i = .int .i64 k ∧ Hid (PB wr g (swpN L a b k) R) ∧ Hid (Keeps [g] w wr)) (fun i _ => n - (intOf i).toNat)
  case atStart => exact ⟨0, by omega, rfl, H, Lib.hid (Keeps.refl _ _)⟩
  case round =>
    obtain ⟨k, hk, rfl, HB, HK⟩ := hrel
    by_cases hlt : k < n
    · have hl := swpN_length L a b k
      have HL := Lib.hid hl
      have HS : Hid (swpN L a b (k + 1) = swp (swpN L a b k) (a + k) (b + k)) := rfl
      clear hl
      generalize swpN L a b k = M at *
      obtain ⟨p1, p2⟩ := HB.out.cell (j := a + k) (by have := HL.out; have := HM.out; omega)
      obtain ⟨q1, q2⟩ := HB.out.cell (j := b + k) (by have := HL.out; have := HM.out; omega)
      have f1 := HB.out.free ((a + k) * 2)
      have f2 := HB.out.free ((a + k) * 2 + 1)
      have f3 := HB.out.free ((b + k) * 2)
      have f4 := HB.out.free ((b + k) * 2 + 1)
      have s1 : ((a : Int) + k).toNat = a + k := by omega
      have s2 : ((b : Int) + k).toNat = b + k := by omega
      have s3 : (0 : Int) ≤ (a : Int) + k := by omega
      have s4 : (0 : Int) ≤ (b : Int) + k := by omega
      have s5 : (a : Int) + k < (m : Int) := by omega
      have s6 : (b : Int) + k < (m : Int) := by omega
      go_wp2_with fail
      go_region
      go_wp2_with fail
      go_roundw
      case rel =>
        refine ⟨k + 1, by omega, by go_num, Lib.hid ?_, Lib.hid ?_⟩
        · rw [HS.out]
          exact (set_two M (a + k) (b + k) (by have := HL.out; have := HM.out; omega) (by have := HL.out; have := HM.out; omega) _ g R HB.out (by omega)).dr (Dr.refl _).drew
        · exact ((((HK.out.put _).put _).put _).put _).drew
      case measure => simp [intOf]; omega
    · obtain rfl : k = n := by omega
      go_wp2_with fail
      go_end0
      exact ⟨rfl, HB.out, HK.out⟩
end Go.Proofs.YtcblibefmclloaaDoor

/- Lists of packs: exchanging and rotating. -/
set_option linter.unusedVariables false
set_option linter.unusedSimpArgs false
namespace Go.Proofs.YtcblibefmclloaaDoor
theorem kext {xs ys : List Pk} (hl : xs.length = ys.length) (h : ∀ j, j < xs.length → kth xs j = kth ys j) : xs = ys := by
  refine List.ext_getElem hl fun j h1 h2 => ?_
  have := h j h1
  rwa [kth_lt h1, kth_lt h2] at this
theorem kth_app (xs ys : List Pk) (j : Nat) : kth (xs ++ ys) j = if j < xs.length then kth xs j else kth ys (j - xs.length) := by
  simp only [kth, List.getD_eq_getElem?_getD, List.getElem?_append]
  split <;> rfl
theorem kth_set (xs : List Pk) (i j : Nat) (p : Pk) (hi : i < xs.length) : kth (xs.set i p) j = if j = i then p else kth xs j := by
  simp only [kth, List.getD_eq_getElem?_getD, List.getElem?_set]
  by_cases h : i = j
  · subst h; simp [hi]
  · rw [if_neg h, if_neg (fun e => h e.symm)]
theorem kth_swp (L : List Pk) (i j k : Nat) (hi : i < L.length) (hj : j < L.length) : kth (swp L i j) k = if k = j then kth L i else if k = i then kth L j else kth L k := by
  rw [swp, kth_set _ _ _ _ (by simpa using hj), kth_set _ _ _ _ hi]
theorem kth_swpN (L : List Pk) (a b : Nat) (n : Nat) (hab : a + n ≤ b) (hb : b + n ≤ L.length) (k : Nat) :
    kth (swpN L a b n) k = if a ≤ k ∧ k < a + n then kth L (k - a + b) else if b ≤ k ∧ k < b + n then kth L (k - b + a) else kth L k := by
  induction n generalizing k with
  | zero => rw [if_neg (by omega), if_neg (by omega)]; rfl
  | succ n ih =>
    have h1 := ih (by omega) (by omega)
    have ha : kth (swpN L a b n) (a + n) = kth L (a + n) := by rw [h1, if_neg (by omega), if_neg (by omega)]
    have hb' : kth (swpN L a b n) (b + n) = kth L (b + n) := by rw [h1, if_neg (by omega), if_neg (by omega)]
    rw [swpN, kth_swp _ _ _ _ (by rw [swpN_length]; omega) (by rw [swpN_length]; omega), ha, hb', h1 k]
    repeat' split
    all_goals first | (exfalso; omega) | rfl | (congr 1; omega)
/-- Two parts of one length exchanged. -/
theorem swpN_parts (x u z v y : List Pk) (h : u.length = v.length) : swpN (x ++ (u ++ (z ++ (v ++ y)))) x.length (x.length + u.length + z.length) u.length = x ++ (v ++ (z ++ (u ++ y))) := by
  have hb : x.length + u.length + z.length + u.length ≤ (x ++ (u ++ (z ++ (v ++ y)))).length := by simp only [List.length_append]; omega
  refine kext (by rw [swpN_length]; simp only [List.length_append]; omega) fun j hj => ?_
  rw [kth_swpN _ _ _ _ (by omega) hb]
  simp only [kth_app]
  by_cases c1 : j < x.length
  · rw [if_neg (by omega), if_neg (by omega), if_pos c1, if_pos c1]
  · by_cases c2 : j < x.length + u.length
    · rw [if_pos (by omega), if_neg (by omega), if_neg (by omega), if_neg (by omega), if_pos (by omega), if_neg c1, if_pos (by omega)]
      congr 1; omega
    · by_cases c3 : j < x.length + u.length + z.length
      · rw [if_neg (by omega), if_neg (by omega), if_neg c1, if_neg (by omega), if_pos (by omega), if_neg c1, if_neg (by omega), if_pos (by omega)]
        congr 1; omega
      · by_cases c4 : j < x.length + u.length + z.length + u.length
        · rw [if_neg (by omega), if_pos (by omega), if_neg (by omega), if_pos (by omega), if_neg c1, if_neg (by omega), if_neg (by omega), if_pos (by omega)]
          congr 1; omega
        · rw [if_neg (by omega), if_neg (by omega), if_neg c1, if_neg (by omega), if_neg (by omega), if_neg (by omega), if_neg c1, if_neg (by omega), if_neg (by omega), if_neg (by omega)]
          congr 1; omega
end Go.Proofs.YtcblibefmclloaaDoor

/- Stable sorting of packs by weight: plain lists. -/
set_option linter.unusedVariables false
set_option linter.unusedSimpArgs false
namespace Go.Proofs.YtcblibefmclloaaDoor
def srt (l : List Pk) : Prop := l.Pairwise (fun p q => p.w ≤ q.w)
/-- The packs of one weight, in their order. -/
def ofW (v : Int) (l : List Pk) : List Pk := l.filter (fun p => decide (p.w = v))
/-- The same packs, those of one weight in the same order. -/
def same (r l : List Pk) : Prop := r.Perm l ∧ ∀ v, ofW v r = ofW v l
theorem same.refl (l : List Pk) : same l l := ⟨List.Perm.refl _, fun _ => rfl⟩
theorem same.trans {a b c : List Pk} (h : same a b) (k : same b c) : same a c := ⟨h.1.trans k.1, fun v => (h.2 v).trans (k.2 v)⟩
theorem same.symm {a b : List Pk} (h : same a b) : same b a := ⟨h.1.symm, fun v => (h.2 v).symm⟩
theorem ofW_app (v : Int) (a b : List Pk) : ofW v (a ++ b) = ofW v a ++ ofW v b := List.filter_append ..
theorem same.app {a b c d : List Pk} (h : same a b) (k : same c d) : same (a ++ c) (b ++ d) := ⟨h.1.append k.1, fun v => by rw [ofW_app, ofW_app, h.2, k.2]⟩
theorem same.len {a b : List Pk} (h : same a b) : a.length = b.length := h.1.length_eq
theorem ofW_nil_of {v : Int} {l : List Pk} (h : ∀ p ∈ l, p.w ≠ v) : ofW v l = [] := by
  unfold ofW
  rw [List.filter_eq_nil_iff]
  intro p hp
  simpa using h p hp
/-- Two parts of other weights may be exchanged. -/
theorem same_swap (u v : List Pk) (h : ∀ p ∈ u, ∀ q ∈ v, p.w ≠ q.w) : same (v ++ u) (u ++ v) := by
  refine ⟨List.perm_append_comm, fun x => ?_⟩
  rw [ofW_app, ofW_app]
  by_cases hx : ∃ p ∈ u, p.w = x
  · obtain ⟨p, hp, rfl⟩ := hx
    rw [ofW_nil_of (l := v) (fun q hq => fun e => h p hp q hq e.symm)]; simp
  · rw [ofW_nil_of (l := u) (fun p hp e => hx ⟨p, hp, e⟩)]; simp
/-- Sorted, those of one weight in their order. -/
def SS (r l : List Pk) : Prop := srt r ∧ same r l
theorem srt_app {a b : List Pk} (ha : srt a) (hb : srt b) (h : ∀ p ∈ a, ∀ q ∈ b, p.w ≤ q.w) : srt (a ++ b) := List.pairwise_append.2 ⟨ha, hb, fun p hp q hq => h p hp q hq⟩
theorem srt_left {a b : List Pk} (h : srt (a ++ b)) : srt a := (List.pairwise_append.1 h).1
theorem srt_right {a b : List Pk} (h : srt (a ++ b)) : srt b := (List.pairwise_append.1 h).2.1
theorem srt_le {a b : List Pk} (h : srt (a ++ b)) : ∀ p ∈ a, ∀ q ∈ b, p.w ≤ q.w := fun p hp q hq => (List.pairwise_append.1 h).2.2 p hp q hq
theorem srt_nil : srt [] := List.Pairwise.nil
theorem srt_one (p : Pk) : srt [p] := List.pairwise_singleton _ _
theorem SS.len {r l : List Pk} (h : SS r l) : r.length = l.length := h.2.len
theorem SS.mem {r l : List Pk} (h : SS r l) {p : Pk} : p ∈ r ↔ p ∈ l := h.2.1.mem_iff
theorem SS.of_same {r l l' : List Pk} (h : SS r l) (k : same l l') : SS r l' := ⟨h.1, h.2.trans k⟩
/-- One more, put at its place. -/
theorem ss_insert {t1 t2 l : List Pk} {e : Pk} (h : SS (t1 ++ t2) l) (h1 : ∀ p ∈ t1, p.w ≤ e.w) (h2 : ∀ p ∈ t2, e.w < p.w) : SS (t1 ++ e :: t2) (l ++ [e]) := by
  refine ⟨srt_app (srt_left h.1) ?_ ?_, ?_⟩
  · exact List.pairwise_cons.2 ⟨fun p hp => Int.le_of_lt (h2 p hp), srt_right h.1⟩
  · intro p hp q hq
    rcases List.mem_cons.1 hq with rfl | hq
    · exact h1 p hp
    · exact srt_le h.1 p hp q hq
  · refine same.trans ?_ (h.2.app (same.refl [e]))
    rw [List.append_assoc]
    refine (same.refl t1).app ?_
    exact same_swap t2 [e] (fun p hp q hq => by rw [List.mem_singleton.1 hq]; have := h2 p hp; omega)
/-- What is sorted is known by its packs. -/
theorem srt_eq {r : List Pk} : ∀ {l : List Pk}, srt r → srt l → same r l → r = l := by
  induction r with
  | nil => intro l _ _ h; exact (List.length_eq_zero_iff.1 h.len.symm).symm
  | cons p r ih =>
    intro l hr hl h
    match l, h, hl with
    | [], h, _ => have := h.len; simp at this
    | q :: l, h, hl =>
      have hw : p.w = q.w := by
        have h1 : p ∈ q :: l := h.1.mem_iff.1 (List.mem_cons_self ..)
        have h2 : q ∈ p :: r := h.1.mem_iff.2 (List.mem_cons_self ..)
        have a1 : q.w ≤ p.w := by
          rcases List.mem_cons.1 h1 with rfl | h1
          · exact Int.le_refl _
          · exact (List.pairwise_cons.1 hl).1 p h1
        have a2 : p.w ≤ q.w := by
          rcases List.mem_cons.1 h2 with rfl | h2
          · exact Int.le_refl _
          · exact (List.pairwise_cons.1 hr).1 q h2
        omega
      have hv := h.2 p.w
      unfold ofW at hv
      rw [List.filter_cons_of_pos (by simp), List.filter_cons_of_pos (by simp [hw])] at hv
      injection hv with e1 e2
      subst e1
      refine congrArg (p :: ·) (ih (List.pairwise_cons.1 hr).2 (List.pairwise_cons.1 hl).2 ⟨(List.perm_cons p).1 h.1, fun v => ?_⟩)
      have hv := h.2 v
      unfold ofW at hv ⊢
      by_cases e : p.w = v
      · rw [List.filter_cons_of_pos (by simpa using e), List.filter_cons_of_pos (by simpa using e)] at hv
        injection hv
      · rw [List.filter_cons_of_neg (by simpa using e), List.filter_cons_of_neg (by simpa using e)] at hv
        exact hv
theorem swp_adj (A B : List Pk) (p q : Pk) : swp (A ++ p :: q :: B) A.length (A.length + 1) = A ++ q :: p :: B := by
  have h1 : kth (A ++ p :: q :: B) A.length = p := by rw [kth_app, if_neg (by omega), Nat.sub_self]; rfl
  have h2 : kth (A ++ p :: q :: B) (A.length + 1) = q := by rw [kth_app, if_neg (by omega), show A.length + 1 - A.length = 1 by omega]; rfl
  rw [swp, h1, h2, List.set_append_right _ _ (by omega), Nat.sub_self, List.set_append_right _ _ (by omega), show A.length + 1 - A.length = 1 by omega]
  rfl
theorem swp_adj' (A B : List Pk) (p q : Pk) : swp (A ++ p :: q :: B) (A.length + 1) A.length = A ++ q :: p :: B := by
  have h1 : kth (A ++ p :: q :: B) A.length = p := by rw [kth_app, if_neg (by omega), Nat.sub_self]; rfl
  have h2 : kth (A ++ p :: q :: B) (A.length + 1) = q := by rw [kth_app, if_neg (by omega), show A.length + 1 - A.length = 1 by omega]; rfl
  rw [swp, h1, h2, List.set_append_right _ _ (by omega), show A.length + 1 - A.length = 1 by omega, List.set_append_right _ _ (by omega), Nat.sub_self]
  rfl
end Go.Proofs.YtcblibefmclloaaDoor

/- Rows of packs that grow. -/
set_option linter.unusedVariables false
set_option linter.unusedSimpArgs false
namespace Go.Proofs.YtcblibefmclloaaDoor
open Go.RowKit
theorem info_pack : (Tryd.prog.info? 136).map (fun i => (i.zero, i.size, i.bytes)) = some (some (.agg #[.int .i64 0, .slice none 0 0]), 2, 32) := by kernel_rfl
/-- 's = append(s, p)' of one pack, which lies in a block of its own. -/
theorem app_pack {ops : Array Oper} {rest : List Oper} {o : Oper} {a : Act} {Q : Exit → Act → World → Prop} {w : World} (hgd : o.guard = none) (s x : Operand)
    (ho : o.op = .call { callee := .builtin .append, args := #[s, x], argTypes := #[134, 134] })
    (base : Nat) (v : Value) (n : Nat) (L : List Pk) (hs : a.eval s = v) (hown : w.ownsRow base 136 2 v n (kcells L))
    (b : Nat) (p : Pk) (hx : a.eval x = .slice (some ⟨b, 0, none⟩) 1 1) (h0 : w.cell? ⟨b, 0, none⟩ = some (.int .i64 p.w)) (h1 : w.cell? ⟨b, 1, none⟩ = some (.slice p.a p.n p.c))
    (hn : n ≤ 1000000000) (hbase : base ≤ w.heap.size)
    (h : ∀ v' w', w'.ownsRow base 136 2 v' (n + 1) (kcells (L ++ [p])) → w.grownBy w' v.ownBlock → wpList Tryd.prog ops Q rest (a.put o.dst v') w') : wpList Tryd.prog ops Q (o :: rest) a w := by
  obtain ⟨i0, hi, hz0, hz1, hz2⟩ := info_parts info_pack
  refine wpList_append_own _ hgd s x 134 ho base 136 i0 (.agg #[.int .i64 0, .slice none 0 0]) 2 32 Tryd.underlying134 hi hz0 hz1 hz2 rfl (by decide) v n (kcells L) hs hown ⟨b, 0, none⟩ 1 1 (kcells [p]) hx rfl ?_ (kcells_one _) (by unfold maxLen; omega) (by omega) hbase ?_
  · intro j u hu
    match j, hu with
    | 0, hu => simp [kcells] at hu; subst hu; rw [add_plain]; exact h0
    | 1, hu => simp [kcells] at hu; subst hu; rw [add_plain]; exact h1
    | j + 2, hu => simp [kcells] at hu
  · intro v' w' h2 h3 _
    rw [kcells_append] at h
    exact h v' w' h2 h3
theorem step_pack {ops : Array Oper} {o : Oper} {a : Act} {K : Act → World → Prop} {Q : Exit → Act → World → Prop} {E : Prop} {w : World} (hgd : o.guard = none) (s x : Operand)
    (ho : o.op = .call { callee := .builtin .append, args := #[s, x], argTypes := #[134, 134] })
    (base : Nat) (v : Value) (n : Nat) (L : List Pk) (hs : a.eval s = v) (hown : w.ownsRow base 136 2 v n (kcells L))
    (b : Nat) (p : Pk) (hx : a.eval x = .slice (some ⟨b, 0, none⟩) 1 1) (h0 : w.cell? ⟨b, 0, none⟩ = some (.int .i64 p.w)) (h1 : w.cell? ⟨b, 1, none⟩ = some (.slice p.a p.n p.c))
    (hn : n ≤ 1000000000) (hbase : base ≤ w.heap.size)
    (h : ∀ g' c' w', w'.ownsRow base 136 2 (.slice (some ⟨g', 0, none⟩) (n + 1) c') (n + 1) (kcells (L ++ [p])) → w.grownBy w' v.ownBlock → K (a.put o.dst (.slice (some ⟨g', 0, none⟩) (n + 1) c')) w') :
    if Region.wanted o (yielded ops a.tmps) = true then Oper.wp Tryd.prog o a w K Q else E := by
  obtain ⟨i0, hi, hz0, hz1, hz2⟩ := info_parts info_pack
  refine step_append_lies _ hgd s x 134 ho base 136 i0 (.agg #[.int .i64 0, .slice none 0 0]) 2 32 Tryd.underlying134 hi hz0 hz1 hz2 rfl (by decide) v n (kcells L) hs hown ⟨b, 0, none⟩ 1 1 (kcells [p]) hx rfl ?_ (kcells_one _) (by omega) (by unfold maxLen; omega) (by omega) hbase _ rfl ?_
  · intro j u hu
    match j, hu with
    | 0, hu => simp [kcells] at hu; subst hu; rw [add_plain]; exact h0
    | 1, hu => simp [kcells] at hu; subst hu; rw [add_plain]; exact h1
    | j + 2, hu => simp [kcells] at hu
  · intro g' cap w' h2 h3 _ _
    rw [kcells_append] at h
    exact h g' cap w' h2 h3
theorem kcells_at (L : List Pk) (j : Nat) (u : Value) (h : (kcells L)[j]? = some u) : (j % 2 = 0 ∧ u = .int .i64 (kth L (j / 2)).w ∨ j % 2 = 1 ∧ u = .slice (kth L (j / 2)).a (kth L (j / 2)).n (kth L (j / 2)).c) ∧ j / 2 < L.length := by
  have hj := (List.getElem?_eq_some_iff.1 h).1
  rw [kcells_length] at hj
  have hp := kcells_get L [] (j / 2) (by omega)
  rw [List.append_nil] at hp
  refine ⟨?_, by omega⟩
  rcases (by omega : j % 2 = 0 ∨ j % 2 = 1) with e | e
  · left
    rw [show j = j / 2 * 2 by omega, hp.1] at h
    exact ⟨e, (Option.some.inj h).symm⟩
  · right
    rw [show j = j / 2 * 2 + 1 by omega, hp.2] at h
    exact ⟨e, (Option.some.inj h).symm⟩
/-- What a row holds can be read. -/
theorem own_cells {w : World} {base : Nat} {e : TypeId} {size n : Nat} {v : Value} {xs : List Value} (h : w.ownsRow base e size v n xs) (hp : 0 < n) (hsz : 0 < size) :
    ∃ g c, v = .slice (some ⟨g, 0, none⟩) n c ∧ g < w.heap.size ∧ base ≤ g ∧ ∀ j u, xs[j]? = some u → w.cell? ⟨g, j, none⟩ = some u := by
  rcases h.2 with ⟨rfl, h2⟩ | ⟨g, cap, cur, rfl, hb, hh, hc, hm, hs, ht⟩
  · omega
  · refine ⟨g, cap, rfl, (Array.getElem?_eq_some_iff.1 hh).1, hb, fun j u hu => ?_⟩
    have hj := (List.getElem?_eq_some_iff.1 hu).1
    have hl := h.1
    have e1 : cur.toList[j]? = xs[j]? := by rw [← ht, List.getElem?_take, if_pos (by omega)]
    unfold World.cell?
    simp only [hh]
    rw [← Array.getElem?_toList, e1, hu]; rfl
/-- A row of packs as a block, what is spare behind them. -/
theorem own_pb {w : World} {base n : Nat} {v : Value} {L : List Pk} (h : w.ownsRow base 136 2 v n (kcells L)) (hp : 0 < n) :
    ∃ g c R, v = .slice (some ⟨g, 0, none⟩) n c ∧ L.length = n ∧ base ≤ g ∧ PB w g L R ∧ ∀ w' L', PB w' g L' R → L'.length = L.length → w'.ownsRow base 136 2 v n (kcells L') := by
  have hl := h.1
  rw [kcells_length] at hl
  rcases h.2 with ⟨rfl, h2⟩ | ⟨g, cap, cur, rfl, hb, hh, hc, hm, hs, ht⟩
  · omega
  · refine ⟨g, cap, cur.toList.drop (n * 2), rfl, by omega, hb, ?_, fun w' L' h' hl' => ?_⟩
    · show w.heap[g]? = some (.cells (kcells L ++ cur.toList.drop (n * 2)).toArray _ (0, 0))
      rw [← ht, List.take_append_drop, Array.toArray_toList]; exact hh
    · refine ⟨by rw [kcells_length, hl']; omega, .inr ⟨g, cap, _, rfl, hb, h', hc, hm, ?_, ?_⟩⟩
      · have e1 : L'.length = n := by omega
        simp only [List.size_toArray, List.length_append, kcells_length, List.length_drop, Array.length_toList]; omega
      · rw [List.toList_toArray, List.take_left' (by rw [kcells_length]; omega)]
set_option maxRecDepth 100000 in
set_option maxHeartbeats 1000000 in
/-- slices.Clone of packs. -/
theorem clone_calls (w : World) (base : Nat) (v : Value) (n : Nat) (L : List Pk) (ho : w.ownsRow base 136 2 v n (kcells L)) (hp : 0 < n) (hn : n ≤ 1000000000) :
    Calls Tryd.prog 99 #[v] w fun e w' => ∃ v', e = .returned v' ∧ w'.ownsRow w.heap.size 136 2 v' n (kcells L) ∧ Below w.heap.size w w' := by
  obtain ⟨g, c, rfl, hg, hbg, hcells⟩ := own_cells ho hp (by decide)
  have hl : (kcells L).length = n * 2 := ho.1
  have HC := Lib.hid hcells
  have HL := Lib.hid hl
  clear ho hcells hl
  obtain ⟨i0, hi, hz0, hz1, hz2⟩ := info_parts info_pack
  have HI := Lib.hid hi
  have HZ0 := Lib.hid hz0
  have HZ1 := Lib.hid hz1
  have HZ2 := Lib.hid hz2
  clear hi hz0 hz1 hz2
  have o0 : Hid (∀ w' : World, w'.heap[w.heap.size]? = some (.cells #[] 136 (0, 0)) → w'.ownsRow w.heap.size 136 2 (.slice (some ⟨w.heap.size, 0, none⟩) 0 0) 0 []) := fun w' h => ⟨rfl, .inr ⟨_, 0, #[], rfl, Nat.le_refl _, h, Nat.le_refl _, by unfold maxLen; omega, rfl, rfl⟩⟩
  have hq := fun w => Lib.run_eql_slice_nil (P := Tryd.prog) w 134 136 (some ⟨g, 0, none⟩) n c 0 0 Tryd.underlying134
  go_enter Tryd.func99, Tryd.ntmps99
  go_wp2_with (at_builtin; refine wpList_append_own _ rfl (.tmp 5) (.tmp 6) 134 rfl w.heap.size 136 i0 (.agg #[.int .i64 0, .slice none 0 0]) 2 32 Tryd.underlying134 HI.out HZ0.out HZ1.out HZ2.out rfl (by decide) _ 0 [] rfl (o0.out _ ?c1) ⟨g, 0, none⟩ n c (kcells L) rfl HL.out ?c2 (kcells_one _) (by unfold maxLen; omega) (by omega) (by simp) ?_)
  case c1 => exact blk_new w _ []
  case c2 =>
    intro j u hu
    rw [add_plain]
    exact ((Keeps.refl [] w).alloc _).cell (by simp) (HC.out j u hu)
  intro v' w' h2 h3 _
  have H2 := Lib.hid h2
  have H3 := Lib.hid h3
  clear h2 h3
  go_wp2_with fail
  go_ret
  refine ⟨_, rfl, H2.out, ?_⟩
  exact ((Below.refl _ _).alloc (Nat.le_refl _) _).grown H3.out (by simp) (fun k hk => by simp [Value.ownBlock] at hk; omega)
end Go.Proofs.YtcblibefmclloaaDoor
