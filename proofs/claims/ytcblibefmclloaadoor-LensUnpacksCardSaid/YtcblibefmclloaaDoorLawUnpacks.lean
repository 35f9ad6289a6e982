import Derived.Test.YtcblibefmclloaaDoorCopyWide
import Derived.Test.YtcblibefmclloaaDoorLawPacks
import Derived.Test.YtcblibefmclloaaDoorUnpack
import Derived.Test.YtcblibefmclloaaDoorRefUnpack
import Derived.Outline
set_option linter.unusedVariables false
set_option linter.unusedSimpArgs false
namespace Go.Proofs.YtcblibefmclloaaDoor
open Go.RowKit
theorem Blk.rp_pre {w : World} {g m : Nat} {t : TypeId} {xs ys : List (Int × Int)} (h : Blk w g t (pcells (xs ++ ys))) (hl : xs.length = m) : RP w (some ⟨g, 0, none⟩) m xs :=
  ⟨hl, fun _ => ⟨_, _, rfl⟩, fun b o ha j hj => by
    injection ha with ha; injection ha with h1 h2 h3; subst h1; subst h2
    have hp := pcells_get xs j (by omega)
    have e : ∀ i, i < (pcells xs).length → (pcells (xs ++ ys))[i]? = (pcells xs)[i]? := fun i hi => by rw [pcells_append, List.getElem?_append_left hi]
    rw [Nat.zero_add, h.cell, h.cell, e _ (by rw [pcells_length]; omega), e _ (by rw [pcells_length]; omega)]
    exact hp⟩
theorem step_eql (w : World) (a b c d : Int) : (binOp .eql 31 (.agg #[.int .i64 a, .int .i64 b]) (.agg #[.int .i64 c, .int .i64 d])).run Tryd.prog w = .ok (.bool (a == c && b == d)) w := by
  have u3 := Tryd.underlying3
  have hS : Tryd.prog.underlying 31 = some (.struct (Tryd.prog.fieldsOf 31)) := by kernel_rfl
  have hp : Tryd.prog.stoodInHeld 31 = false := by kernel_rfl
  rw [run_eql_struct, show (10000 : Nat) = 9999 + 1 from rfl, run_equalIn_agg w 9999 31 _ _ hS hp]
  simp only [Program.fieldsOf, Tryd.underlying31]
  go_simp
  by_cases h1 : a = c <;> by_cases h2 : b = d <;> simp [h1, h2]
theorem step_guard' (x y : Operand) (w : World) (a b c d : Int) : (eqGuard .eql 31 x y (.agg #[.int .i64 a, .int .i64 b]) (.agg #[.int .i64 c, .int .i64 d])).run Tryd.prog w = .ok () w :=
  run_eqGuard_agg _ _ _ _ _ _ _ (by kernel_rfl)
theorem unpackTo_len (xs : List (Int × Int)) (n : Int) : ∀ l l', (l.length : Int) ≤ n → unpackTo l xs n = some l' → (l'.length : Int) ≤ n := by
  induction xs with
  | nil => intro l l' h e; rw [unpackTo] at e; injection e with e; subst e; exact h
  | cons s r ih =>
    intro l l' h e
    rw [unpackTo] at e
    split at e
    · rename_i l1 h1
      exact ih l1 l' (addF_len h1).2 e
    · cases e
theorem unpackF_len (xs : List (Int × Int)) (n : Int) : (unpackF xs n).1.length ≤ 1000 := by
  unfold unpackF
  split
  · simp
  · split
    · simp
    · rename_i h l h1
      have := unpackTo_len xs n [] l (by simp; omega) h1
      split
      · simp
      · show l.length ≤ 1000; omega
theorem rp_cell {w : World} {b o m : Nat} {xs : List (Int × Int)} (h : RP w (some ⟨b, o, none⟩) m xs) {j : Nat} {v : Value} (hv : (pcells xs)[j]? = some v) : w.cell? ⟨b, o + j, none⟩ = some v := by
  have hj := (List.getElem?_eq_some_iff.1 hv).1
  rw [pcells_length, h.len] at hj
  have hp := pcells_get xs (j / 2) (by rw [h.len]; omega)
  have hc := h.cell b o rfl (j / 2) (by omega)
  rcases (by omega : j % 2 = 0 ∨ j % 2 = 1) with e | e
  · rw [show j = j / 2 * 2 by omega, hp.1] at hv
    rw [show o + j = o + j / 2 * 2 by omega, ← hv]; exact hc.1
  · rw [show j = j / 2 * 2 + 1 by omega, hp.2] at hv
    rw [show o + j = o + j / 2 * 2 + 1 by omega, ← hv]; exact hc.2
set_option maxRecDepth 100000 in
set_option maxHeartbeats 1000000 in
theorem lawUnpacks_big (w : World) (A : Option Addr) (m c : Nat) (n : Int) (ht : Tabs w) (hb : 1048576 < m) :
    Calls Tryd.prog 4 #[.slice A m c, .int .i64 n] w fun e w' => e = .returned (.bool true) ∧ Keeps [] w w' := by
  have e1 : decide (1048576 < m) = true := by simpa using hb
  have HT := Lib.hid ht
  clear ht
  go_enter Tryd.func4, Tryd.ntmps4
  go_wp2_with fail
  refine (awake_calls _ HT.out).mono ?_
  rintro e w' ⟨rfl, hk⟩
  have HK := Lib.hid hk
  clear hk
  go_wp2_with fail
  go_ret
  exact ⟨rfl, HK.out⟩
set_option maxRecDepth 100000 in
set_option maxHeartbeats 1000000 in
theorem lawUnpacks_small (w : World) (A : Option Addr) (m c : Nat) (n : Int) (xs : List (Int × Int)) (ht : Tabs w) (hx : RP w A m xs) (hb : m ≤ 1048576) :
    Calls Tryd.prog 4 #[.slice A m c, .int .i64 n] w fun e w' => e = .returned (.bool true) ∧ Keeps [] w w' := by
  have e1 : decide (1048576 < m) = false := by simpa using hb
  have HT := Lib.hid ht
  have HX := Lib.hid hx
  have HL := Lib.hid hx.len
  clear ht hx
  have hmk := fun w => make_steps w ((m : Int) + 1) (m + 1) (by omega) (by omega)
  go_enter Tryd.func4, Tryd.ntmps4
  go_wp2_with (with_reducible refine wpList_copy_wide rfl (.tmp 19) (.tmp 20) _ _ rfl 31 2 (by decide) Tryd.underlying25 size_step _ _ _ _ _ _ rfl rfl w.heap.size 0 (pcells (List.replicate (m + 1) (0, 0))) 31 ?h1 m ?hm (pcells xs) ?h2 ?h3 ?h4 ?h5 [] w ?h6 (Or.inr (Nat.le_refl _)) ?_)
  case h1 => exact blk_new w _ _
  case hm => exact (Nat.min_eq_left (by omega)).symm
  case h2 => rw [pcells_length, HL.out]
  case h3 =>
    intro hp
    obtain ⟨a, o, rfl⟩ := HX.out.hd hp
    refine ⟨⟨a, o, none⟩, rfl, fun j v hv => ?_⟩
    rw [add_plain2]
    exact (Keeps.refl [] w).alloc _ |>.cell (by simp) (rp_cell HX.out hv)
  case h4 => rw [pcells_length, pcells_length, List.length_replicate, HL.out]; omega
  case h5 => exact pcells_one xs
  case h6 => exact (Keeps.refl _ _).alloc _
  intro w1 hg1 hk1 hb1
  have hB : Blk w1 w.heap.size 31 (splice (pcells (List.replicate (m + 1) (0, 0))) 0 (pcells xs)) := hg1.out
  have hsp : splice (pcells (List.replicate (m + 1) (0, 0))) 0 (pcells xs) = pcells (xs ++ [(0, 0)]) := by
    have := HL.out
    rw [pcells_append, pcells_zeros, splice, pcells_length, this]
    simp [pcells, Nat.succ_mul]
  rw [hsp] at hB
  clear hg1 hsp hk1 hmk e1
  have c0 : w1.cell? ⟨w.heap.size, m * 2, none⟩ = some (.int .i64 0) := by
    rw [hB.cell, pcells_append, List.getElem?_append_right (by rw [pcells_length, HL.out]; omega), pcells_length, HL.out, Nat.sub_self]; rfl
  have f0 := hB.frozen (m * 2)
  have HB := Lib.hid hB
  have K1 := Lib.hid hb1
  clear hB hb1
  have hB2 : Blk (w1.setCell ⟨w.heap.size, m * 2, none⟩ (.int .i64 (-77))) w.heap.size 31 (pcells (xs ++ [(-77, 0)])) := by
    have := HB.out.set (m * 2) (.int .i64 (-77))
    have hl := pcells_length xs
    rw [HL.out] at hl
    rw [pcells_append, List.set_append_right _ _ (by omega), hl, Nat.sub_self] at this
    rw [pcells_append]; exact this
  have hK2 := K1.out.setCell (p := ⟨w.heap.size, m * 2, none⟩) (Or.inr (Nat.le_refl _)) (.int .i64 (-77))
  have B2 := Lib.hid hB2
  have K2 := Lib.hid hK2
  clear hB2 hK2 K1 HB
  have R2 := Lib.hid (B2.out.rp_pre HL.out)
  go_wp2_with fail
  generalize w1.setCell ⟨w.heap.size, m * 2, none⟩ (.int .i64 (-77)) = w2 at *
  clear c0 f0
  refine (unpack_calls _ _ _ _ xs n (HT.out.keeps K2.out (by simp)) R2.out (by omega)).mono ?_
  rintro e w3 ⟨v3, rfl, ho3, hb3⟩
  generalize hU : unpackF xs n = U at *
  obtain ⟨l, er⟩ := U
  have HU := Lib.hid hU
  clear hU
  dsimp only at ho3 ⊢
  have K3 := Lib.hid (K2.out.trans (Keeps.of_below hb3 (S := [])))
  have R3 := Lib.hid (R2.out.keeps (Keeps.of_below hb3 (S := [])) (off_nil _))
  have B3 := Lib.hid (B2.out.keeps (Keeps.of_below hb3 (S := [])) (by simp))
  have O3 := Lib.hid ho3
  clear ho3 hb3 R2 K2 B2
  have c1 : w3.cell? ⟨w.heap.size, m * 2, none⟩ = some (.int .i64 (-77)) := by
    rw [B3.out.cell, pcells_append, List.getElem?_append_right (by rw [pcells_length, HL.out]; omega), pcells_length, HL.out, Nat.sub_self]; rfl
  have c2 : w3.cell? ⟨w.heap.size, m * 2 + 1, none⟩ = some (.int .i64 0) := by
    rw [B3.out.cell, pcells_append, List.getElem?_append_right (by rw [pcells_length, HL.out]; omega), pcells_length, HL.out, show m * 2 + 1 - m * 2 = 1 by omega]; rfl
  have s1 := step_eql
  have s2 := step_guard'
  go_wp2_with fail
  refine (same_calls _ _ _ _ _ _ _ xs xs R3.out (HX.out.keeps K3.out (off_nil _)) (by omega) (by omega)).mono ?_
  rintro e w4 ⟨rfl, hd⟩
  rw [beq_self_eq_true]
  have K4 := Lib.hid (K3.out.trans hd.keeps)
  have O4 := Lib.hid (own_keeps O3.out (hd.keeps (S := [])) (by simp))
  clear hd c1 c2 s1 s2 R3 B3 O3 K3
  go_wp2_with fail
  refine (refUnpack_calls _ _ _ _ xs n (HX.out.keeps K4.out (off_nil _)) (by omega)).mono ?_
  rintro e w5 ⟨v5, rfl, ho5, hb5⟩
  rw [HU.out] at ho5 ⊢
  dsimp only at ho5 ⊢
  have K5 := Lib.hid (K4.out.trans (Keeps.of_below hb5 (S := [])))
  have O5 := Lib.hid (own_keeps O4.out (Keeps.of_below hb5 (S := [])) (by simp))
  have Q5 := Lib.hid ho5
  clear ho5 hb5 O4 K4
  go_wp2_with fail
  refine (awake_calls _ (HT.out.keeps K5.out (by simp))).mono ?_
  rintro e w6 ⟨rfl, hk⟩
  have K6 := Lib.hid (K5.out.trans hk)
  obtain ⟨P1, k1, rfl, r1, l1, -⟩ := own_ri (own_keeps O5.out hk (by simp))
  obtain ⟨P2, k2, rfl, r2, l2, -⟩ := own_ri (own_keeps Q5.out hk (by simp))
  have R1 := Lib.hid r1
  have R2 := Lib.hid r2
  have hle : l.length ≤ 1000 := by
    have := unpackF_len xs n
    rw [HU.out] at this; exact this
  clear hk r1 r2 O5 Q5 K5
  go_wp2_with fail
  refine (ints_calls _ _ _ _ _ _ _ l l R1.out R2.out (by omega) (by omega)).mono ?_
  rintro e w7 ⟨rfl, hd⟩
  rw [beq_self_eq_true]
  have K7 := Lib.hid (K6.out.trans hd.keeps)
  clear hd
  go_wp2_with fail
  go_ret
  exact ⟨rfl, K7.out⟩
theorem lensUnpacks_walk (w : World) (A : Option Addr) (m c : Nat) (xs : List (Int × Int)) (n : Int) (ht : Tabs w) (hx : RP w A m xs) (_hn : m ≤ maxLen) (_h1 : A = none → m = 0 ∧ c = 0) (_h2 : (Lit.int .i64 n).wf = true) :
    Calls Tryd.prog 4 #[.slice A m c, .int .i64 n] w fun e w' => e = .returned (.bool true) ∧ Keeps [] w w' := by
  by_cases hb : 1048576 < m
  · exact lawUnpacks_big w A m c n ht hb
  · exact lawUnpacks_small w A m c n xs ht hx (by omega)
end Go.Proofs.YtcblibefmclloaaDoor
