import Derived.Test.YtcblibefmclloaaDoorAwake
import Derived.Test.YtcblibefmclloaaDoorKept
import Derived.Test.YtcblibefmclloaaDoorRefPack
set_option linter.unusedVariables false
set_option linter.unusedSimpArgs false
namespace Go.Proofs.YtcblibefmclloaaDoor
open Go.RowKit
/-- Packing: the steps, and what is wrong. -/
def packR (xs : List Int) : List (Int × Int) × Int := if xs.length ≤ 316 ∧ anyBad xs = false then (packF xs, 0) else ([], 1)
theorem packR_len (xs : List Int) : (packR xs).1.length ≤ 316 := by
  unfold packR; split
  · have := packF_len xs; show (packF xs).length ≤ 316; omega
  · simp
theorem Packed.u {w w' : World} {xs : List Int} {e : Ending} (h : Packed w xs e w') :
    ∃ v, e = .returned (.tuple #[v, .int .i64 (packR xs).2]) ∧ w'.ownsRow w.heap.size 31 2 v (packR xs).1.length (pcells (packR xs).1) ∧ Below w.heap.size w w' := by
  rcases h with ⟨h1, h2, v, he, ho, hb⟩ | ⟨h, he, hb⟩
  · have e1 : packR xs = (packF xs, 0) := if_pos ⟨h1, h2⟩
    rw [e1]
    exact ⟨v, he, ho, hb⟩
  · have e1 : packR xs = ([], 1) := if_neg (by rintro ⟨h1, h2⟩; rcases h with h | h; omega; rw [h2] at h; cases h)
    rw [e1]
    exact ⟨_, he, World.ownsRow_nil _ _ _ _, hb⟩
def blkOf : Option Addr → List Nat
  | some a => [a.block]
  | none => []
theorem mem_blkOf {P : Option Addr} {n c x : Nat} (h : x ∈ blkOf P) : (Value.slice P n c).ownBlock = some x := by
  cases P with
  | none => simp [blkOf] at h
  | some a => simp [blkOf] at h; subst h; rfl
set_option maxRecDepth 100000 in
set_option maxHeartbeats 1000000 in
theorem lawPacks_big (w : World) (A : Option Addr) (n c : Nat) (ht : Tabs w) (hb : 1048576 < n) :
    Calls Tryd.prog 3 #[.slice A n c] w fun e w' => e = .returned (.bool true) ∧ Keeps [] w w' := by
  have e1 : decide (1048576 < n) = true := by simpa using hb
  have HT := Lib.hid ht
  clear ht
  go_enter Tryd.func3, Tryd.ntmps3
  go_wp2_with fail
  refine (awake_calls _ HT.out).mono ?_
  rintro e w' ⟨rfl, hk⟩
  have HK := Lib.hid hk
  clear hk
  go_wp2_with fail
  go_ret
  exact ⟨rfl, HK.out⟩
set_option maxRecDepth 100000 in
set_option maxHeartbeats 1000000 in
theorem lawPacks_small (w : World) (A : Option Addr) (n c : Nat) (xs : List Int) (ht : Tabs w) (hx : RI .i64 w A n xs) (hb : n ≤ 1048576) :
    Calls Tryd.prog 3 #[.slice A n c] w fun e w' => e = .returned (.bool true) ∧ Keeps [] w w' := by
  have e1 : decide (1048576 < n) = false := by simpa using hb
  have HT := Lib.hid ht
  have HX := Lib.hid hx
  have HL := Lib.hid hx.len
  clear ht hx
  go_enter Tryd.func3, Tryd.ntmps3
  go_wp2_with fail
  refine (lent_calls _ _ _ _ xs HX.out hb).mono ?_
  rintro e w1 ⟨g, rfl, hB, hg, hk1⟩
  have K1 := Lib.hid hk1
  have B1 := Lib.hid hB
  have G1 := Lib.hid hg
  have GL := Lib.hid hB.lt
  have hR : RI .i64 w1 (some ⟨g, 0, none⟩) n xs := by have := hB.ri; rwa [HL.out] at this
  have R1 := Lib.hid hR
  clear hk1 hB hg hR e1
  go_wp2_with fail
  refine (lensPack_calls _ _ _ _ xs (HT.out.keeps K1.out (by simp)) R1.out hb).mono ?_
  intro e w2 hp
  obtain ⟨v1, rfl, ho1, hb2⟩ := hp.u
  have hl := packR_len xs
  generalize hpr : packR xs = pr at *
  obtain ⟨S, er⟩ := pr
  have HPR := Lib.hid hpr
  dsimp only at ho1 hl
  clear hpr
  have K2 := Lib.hid (K1.out.trans (Keeps.of_below hb2))
  have Z2 := Lib.hid hb2.size
  have O1 := Lib.hid ho1
  have BB := Lib.hid (B1.out.keeps (Keeps.of_below hb2 (S := [])) (by simp))
  clear hp ho1 hb2 B1 R1
  go_wp2_with fail
  refine (refPack_calls _ _ _ _ xs (HX.out.keeps K2.out (off_nil _)) hb).mono ?_
  intro e w3 hp
  obtain ⟨v2, rfl, ho2, hb3⟩ := hp.u
  rw [HPR.out] at ho2 ⊢
  dsimp only at ho2 ⊢
  have K3 := Lib.hid (K2.out.trans (Keeps.of_below hb3))
  have Z3 := Lib.hid hb3.size
  have O2 := Lib.hid ho2
  have O1' := Lib.hid (own_keeps O1.out (Keeps.of_below hb3 (S := [])) (by simp))
  have N1 := Lib.hid O1.out.lt
  have BB3 := Lib.hid (BB.out.keeps (Keeps.of_below hb3 (S := [])) (by simp))
  clear hp ho2 hb3 O1 BB K2
  obtain ⟨P1, c1, rfl, rp1, hc1, -⟩ := own_rp O1'.out
  obtain ⟨P2, c2, rfl, rp2, hc2, -⟩ := own_rp O2.out
  have RP1 := Lib.hid rp1
  have RP2 := Lib.hid rp2
  clear rp1 rp2
  go_wp2_with fail
  refine (same_calls _ _ _ _ _ _ _ S S RP1.out RP2.out (by omega) (by omega)).mono ?_
  rintro e w4 ⟨rfl, hd⟩
  rw [beq_self_eq_true]
  have K4 := Lib.hid (K3.out.trans hd.keeps)
  have Z4 := Lib.hid (hd.keeps (S := [])).size
  have O1 := Lib.hid (own_keeps O1'.out (hd.keeps (S := [])) (by simp))
  have O2' := Lib.hid (own_keeps O2.out (hd.keeps (S := [])) (by simp))
  have BB4 := Lib.hid (BB3.out.keeps (hd.keeps (S := [])) (by simp))
  clear hd O1' O2 BB3 K3 RP1 RP2
  go_wp2_with fail
  go_loopw [9] (fun v9 wr => ∃ (k : Nat) (ys : List Value), k ≤ S.length ∧ v9 = .int .i64 k ∧ Hid (wr.ownsRow w1.heap.size 31 2 (.slice P1 S.length c1) S.length ys) ∧ Hid (Keeps (blkOf P1) w4 wr)) (fun v9 _ => S.length - (intOf v9).toNat)
  case atStart => exact ⟨0, _, by omega, rfl, O1, Lib.hid (Keeps.refl _ _)⟩
  case round =>
    obtain ⟨k, ys, hk, rfl, HO, HK⟩ := hrel
    by_cases hlt : k < S.length
    · obtain ⟨g1, rfl⟩ : ∃ g1, P1 = some ⟨g1, 0, none⟩ := by
        rcases HO.out.2 with ⟨h, h2⟩ | ⟨g1, cap, cur, h, _⟩
        · omega
        · injection h with h; exact ⟨g1, h⟩
      have hy := HO.out.1
      have q0 := HO.out.cellAt (k * 2) (by omega)
      have q1 := HO.out.cellAt (k * 2 + 1) (by omega)
      rw [List.getElem?_eq_getElem (by omega)] at q0 q1
      have f0 := HO.out.frozenAt (k * 2)
      have f1 := HO.out.frozenAt (k * 2 + 1)
      generalize ys[k * 2]'(by omega) = y0 at q0
      generalize ys[k * 2 + 1]'(by omega) = y1 at q1
      clear hy
      go_wp2_with fail
      go_roundw
      case rel => exact ⟨k + 1, _, by omega, by go_num, Lib.hid ((HO.out.stored (k * 2) (.int .i64 77)).1.stored (k * 2 + 1) (.int .i64 0)).1, Lib.hid ((HK.out.setCell (Or.inl (by simp [blkOf])) _).setCell (Or.inl (by simp [blkOf])) _)⟩
      case measure => simp [intOf]; omega
    · clear O1
      have K5 := Lib.hid (K4.out.then HK.out (fun x hx => Or.inr (by have := (N1.out x (mem_blkOf hx)).1; have := K1.out.size; omega)))
      have B5 := Lib.hid (BB4.out.keeps HK.out (fun hx => by have := (N1.out g (mem_blkOf hx)).1; have := GL.out; omega))
      have O2 := Lib.hid (own_keeps O2'.out HK.out (fun x hx hm => by have := (N1.out x (mem_blkOf hm)).2; have := (O2'.out.lt x hx).1; omega))
      have R5 : Hid (RI .i64 wr (some ⟨g, 0, none⟩) n xs) := by have := B5.out.ri; rwa [HL.out] at this
      clear HK BB4 O2' HO K4
      go_wp2_with fail
      refine (lensPack_calls _ _ _ _ xs (HT.out.keeps K5.out (by simp)) R5.out hb).mono ?_
      intro e w6 hp
      obtain ⟨v3, rfl, ho3, hb6⟩ := hp.u
      rw [HPR.out] at ho3 ⊢
      dsimp only at ho3 ⊢
      have K6 := Lib.hid (K5.out.trans (Keeps.of_below hb6))
      have B6 := Lib.hid (B5.out.keeps (Keeps.of_below hb6 (S := [])) (by simp))
      have O2' := Lib.hid (own_keeps O2.out (Keeps.of_below hb6 (S := [])) (by simp))
      have O3 := Lib.hid ho3
      clear hp ho3 hb6 B5 O2 R5 K5
      go_wp2_with fail
      refine (awake_calls _ (HT.out.keeps K6.out (by simp))).mono ?_
      rintro e w7 ⟨rfl, hk⟩
      have K7 := Lib.hid (K6.out.trans hk)
      have B7 := Lib.hid (B6.out.keeps hk (by simp))
      obtain ⟨P2', c2', hv2, rp2, hc2', -⟩ := own_rp (own_keeps O2'.out hk (by simp))
      injection hv2 with h1 h2 h3
      subst h1; subst h3
      obtain ⟨P3, c3, rfl, rp3, hc3, -⟩ := own_rp (own_keeps O3.out hk (by simp))
      have RP2 := Lib.hid rp2
      have RP3 := Lib.hid rp3
      clear hk h2 rp2 rp3 O2' O3 B6 K6
      go_wp2_with fail
      refine (same_calls _ _ _ _ _ _ _ S S RP3.out RP2.out (by omega) (by omega)).mono ?_
      rintro e w8 ⟨rfl, hd⟩
      rw [beq_self_eq_true]
      have K8 := Lib.hid (K7.out.trans hd.keeps)
      have B8 := Lib.hid (B7.out.keeps (hd.keeps (S := [])) (by simp))
      clear hd RP2 RP3 B7 K7
      go_wp2_with fail
      refine (kept_calls _ _ _ _ _ xs (HX.out.keeps K8.out (off_nil _)) B8.out hb).mono ?_
      rintro e w9 ⟨rfl, hd⟩
      have K9 := Lib.hid (K8.out.trans hd.keeps)
      clear hd
      go_wp2_with fail
      go_ret
      exact ⟨rfl, K9.out⟩
theorem lensPacks_walk (w : World) (A : Option Addr) (n c : Nat) (xs : List Int) (ht : Tabs w) (hx : RI .i64 w A n xs) (_hn : n ≤ maxLen) (_h1 : A = none → n = 0 ∧ c = 0) (_h2 : ∀ x ∈ xs, (Lit.int .i64 x).wf = true) :
    Calls Tryd.prog 3 #[.slice A n c] w fun e w' => e = .returned (.bool true) ∧ Keeps [] w w' := by
  by_cases hb : 1048576 < n
  · exact lawPacks_big w A n c ht hb
  · exact lawPacks_small w A n c xs ht hx (by omega)
end Go.Proofs.YtcblibefmclloaaDoor
