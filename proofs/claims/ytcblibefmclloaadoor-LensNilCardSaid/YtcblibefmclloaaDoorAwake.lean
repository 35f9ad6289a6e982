import Derived.Test.YtcblibefmclloaaDoorReadBad2
import Derived.Test.YtcblibefmclloaaDoorLensPack
import Derived.Test.YtcblibefmclloaaDoorUnpack
set_option linter.unusedVariables false
set_option linter.unusedSimpArgs false
namespace Go.Proofs.YtcblibefmclloaaDoor
open Go.RowKit
theorem pack_ex : packF [0, 0, 0, 3, 3, 3, 3, 3, 0] = [(17, 0), (3, 0), (16, 1), (0, 0)] := by
  simp [packF, runN, rsteps, zsteps, vsteps, reps, left]
theorem unpack_ex : unpackF [(5, 0), (16, 3)] 7 = ([5, 5, 5, 5, 5, 5, 5], 0) := by decide
theorem unpack_ex2 : unpackF [(16, 0)] 3 = ([], 41) := by decide
theorem lit_ri {k : IntKind} (w : World) (t : TypeId) (xs : List Int) : RI k (w.alloc (.cells (ints k xs).toArray t)) (some ⟨w.heap.size, 0, none⟩) xs.length xs := by
  have h : Blk (w.alloc (.cells (ints k xs).toArray t)) w.heap.size t (ints k (xs ++ [])) := by rw [List.append_nil]; exact blk_new w t _
  exact h.ri
theorem blk_rp {w : World} {g : Nat} {t : TypeId} {xs : List (Int × Int)} (h : Blk w g t (pcells xs)) : RP w (some ⟨g, 0, none⟩) xs.length xs :=
  ⟨rfl, fun _ => ⟨_, _, rfl⟩, fun b o ha j hj => by
    injection ha with ha; injection ha with h1 h2 h3; subst h1; subst h2
    have := pcells_get xs j hj
    rw [Nat.zero_add, h.cell, h.cell]
    exact this⟩
theorem lit_rp (w : World) (t : TypeId) (xs : List (Int × Int)) : RP (w.alloc (.cells (pcells xs).toArray t)) (some ⟨w.heap.size, 0, none⟩) xs.length xs := blk_rp (blk_new w t _)
theorem RP.keeps {S : List Nat} {w w' : World} {A : Option Addr} {n : Nat} {xs : List (Int × Int)} (h : RP w A n xs) (hk : Keeps S w w') (ho : Off S A) : RP w' A n xs :=
  ⟨h.len, h.hd, fun b o ha j hj => ⟨hk.cell (p := ⟨b, o + j * 2, none⟩) (ho ⟨b, o, none⟩ ha) (h.cell b o ha j hj).1, hk.cell (p := ⟨b, o + j * 2 + 1, none⟩) (ho ⟨b, o, none⟩ ha) (h.cell b o ha j hj).2⟩⟩
theorem own_rp {w : World} {base : Nat} {e : TypeId} {v : Value} {n : Nat} {xs : List (Int × Int)} (h : w.ownsRow base e 2 v n (pcells xs)) :
    ∃ A c, v = .slice A n c ∧ RP w A n xs ∧ n ≤ c ∧ (∀ a, A = some a → base ≤ a.block ∧ a.block < w.heap.size) := by
  obtain ⟨h1, h2⟩ := h
  have hl : xs.length = n := by rw [pcells_length] at h1; omega
  rcases h2 with ⟨rfl, rfl⟩ | ⟨g, cap, cur, rfl, hb, hh, hc, hm, hs, ht⟩
  · exact ⟨none, 0, rfl, ⟨hl, by omega, by simp⟩, by omega, by simp⟩
  · refine ⟨_, _, rfl, ⟨hl, fun _ => ⟨_, _, rfl⟩, fun b o ha j hj => ?_⟩, hc, fun a ha => ?_⟩
    · injection ha with ha; injection ha with h1 h2 h3; subst h1; subst h2
      have hp := pcells_get xs j (by omega)
      have e1 : ∀ i, i < n * 2 → cur.toList[i]? = (pcells xs)[i]? := fun i hi => by rw [← ht, List.getElem?_take, if_pos hi]
      rw [Nat.zero_add]
      unfold World.cell?
      simp only [hh]
      rw [← Array.getElem?_toList, ← Array.getElem?_toList, e1 _ (by omega), e1 _ (by omega)]
      exact hp
    · obtain rfl := Option.some.inj ha
      exact ⟨hb, (Array.getElem?_eq_some_iff.1 hh).1⟩
theorem bytes_ex : ∀ j, 0 ≤ nth [255, 255] j ∧ nth [255, 255] j ≤ 255
  | 0 => by decide
  | 1 => by decide
  | j + 2 => by simp [nth]
set_option maxRecDepth 100000 in
set_option maxHeartbeats 1000000 in
theorem awake_calls (w : World) (ht : Tabs w) : Calls Tryd.prog 15 #[] w fun e w' => e = .returned (.bool true) ∧ Keeps [] w w' := by
  have HT := Lib.hid ht
  clear ht
  go_enter Tryd.func15, Tryd.ntmps15
  go_wp2_with fail
  refine (lensPack_calls _ _ _ _ [0, 0, 0, 3, 3, 3, 3, 3, 0] (HT.out.keeps ((Keeps.refl [] w).alloc _) (by simp)) (lit_ri w 3 [0, 0, 0, 3, 3, 3, 3, 3, 0]) (by decide)).mono ?_
  intro e w1 hp
  rcases hp with ⟨_, _, v1, rfl, ho1, hb1⟩ | ⟨h, _⟩
  · rw [pack_ex] at ho1
    have K1 := Lib.hid (((Keeps.refl [] w).alloc (.cells (ints .i64 [0, 0, 0, 3, 3, 3, 3, 3, 0]).toArray 3)).trans (Keeps.of_below hb1))
    have O1 := Lib.hid ho1
    clear ho1 hb1
    have S1 := K1.out.size
    go_wp2_with fail
    refine (unpack_calls _ _ _ _ [(5, 0), (16, 3)] 7 (HT.out.keeps (K1.out.alloc _) (by simp)) (lit_rp w1 31 [(5, 0), (16, 3)]) (by decide)).mono ?_
    rintro e w2 ⟨v2, rfl, ho2, hb2⟩
    rw [unpack_ex] at ho2 ⊢
    have B2 : Keeps [] w1 w2 := (((Keeps.refl [] w1).alloc (.cells (pcells [(5, 0), (16, 3)]).toArray 31)).trans (Keeps.of_below hb2))
    have K2 := Lib.hid (K1.out.trans B2)
    have O2 := Lib.hid ho2
    have O1' := Lib.hid (own_keeps O1.out B2 (by simp))
    clear ho2 hb2 B2 O1
    go_wp2_with fail
    refine (unpack_calls _ _ _ _ [(16, 0)] 3 (HT.out.keeps (K2.out.alloc _) (by simp)) (lit_rp w2 31 [(16, 0)]) (by decide)).mono ?_
    rintro e w3 ⟨v3, rfl, ho3, hb3⟩
    rw [unpack_ex2] at ho3 ⊢
    have B3 : Keeps [] w2 w3 := (((Keeps.refl [] w2).alloc (.cells (pcells [(16, 0)]).toArray 31)).trans (Keeps.of_below hb3))
    have K3 := Lib.hid (K2.out.trans B3)
    have O2' := Lib.hid (own_keeps O2.out B3 (by simp))
    have O1 := Lib.hid (own_keeps O1'.out B3 (by simp))
    clear ho3 hb3 B3 O1' O2 K1 K2
    go_wp2_with fail
    refine (newReader_calls _ _ _ _ [255, 255] (lit_ri w3 5 [255, 255]) (by simp) bytes_ex (by decide)).mono ?_
    rintro e w4 ⟨g, A, c, rfl, hr4, hg4, ha4, hb4⟩
    have B4 : Keeps [] w3 w4 := (((Keeps.refl [] w3).alloc (.cells (ints .u8 [255, 255]).toArray 5)).trans (Keeps.of_below hb4))
    have K4 := Lib.hid (K3.out.trans B4)
    have O2 := Lib.hid (own_keeps O2'.out B4 (by simp))
    have O1' := Lib.hid (own_keeps O1.out B4 (by simp))
    have R4 := Lib.hid hr4
    have A4 := Lib.hid ha4
    have G4 := Lib.hid hg4
    have N1 : Hid (∀ k, v1.ownBlock = some k → k ∉ [g]) := fun k hk => by have := (O1.out.lt k hk).2; simp at hg4 ⊢; omega
    have N2 : Hid (∀ k, v2.ownBlock = some k → k ∉ [g]) := fun k hk => by have := (O2'.out.lt k hk).2; simp at hg4 ⊢; omega
    have NG : Hid (w.heap.size ≤ g) := by have := K3.out.size; simp at hg4; show _ ≤ _; omega
    clear hr4 ha4 hg4 hb4 B4 O1 O2' K3
    go_wp2_with fail
    refine (readHead_bad _ _ _ _ _ _ R4.out (fun a h => (A4.out a h).2) (by decide) (Or.inl (by decide))).mono ?_
    rintro e w5 ⟨rfl, hr5, hk5⟩
    have K5 := Lib.hid (K4.out.then hk5 (fun x hx => Or.inr (by have := NG.out; simp at hx; omega)))
    obtain ⟨P, cp, rfl, hrp, hcp, hbp⟩ := own_rp (own_keeps O1'.out hk5 N1.out)
    obtain ⟨I, ci, rfl, hri, hci, hbi⟩ := own_ri (own_keeps O2.out hk5 N2.out)
    have RP5 := Lib.hid hrp
    have RI5 := Lib.hid hri
    clear hk5 hrp hri hbp hbi N1 N2 NG O1' O2 K4 A4 R4 G4
    go_wp2_with fail
    refine (same_calls _ _ _ _ _ _ _ [(17, 0), (3, 0), (16, 1), (0, 0)] [(17, 0), (3, 0), (16, 1), (0, 0)] (RP5.out.keeps ((Keeps.refl _ _).alloc _) (off_nil _)) (lit_rp w5 31 [(17, 0), (3, 0), (16, 1), (0, 0)]) (by decide) (by decide)).mono ?_
    rintro e w6 ⟨rfl, hd6⟩
    rw [beq_self_eq_true]
    have K6 := Lib.hid ((K5.out.alloc (.cells (pcells [(17, 0), (3, 0), (16, 1), (0, 0)]).toArray 31)).trans hd6.keeps)
    have RI6 := Lib.hid (RI5.out.keeps (((Keeps.refl [] w5).alloc (.cells (pcells [(17, 0), (3, 0), (16, 1), (0, 0)]).toArray 31)).trans hd6.keeps) (off_nil _))
    clear hd6 RI5 RP5 K5
    go_wp2_with fail
    refine (ints_calls _ _ _ _ _ _ _ [5, 5, 5, 5, 5, 5, 5] [5, 5, 5, 5, 5, 5, 5] (RI6.out.keeps ((Keeps.refl _ _).alloc _) (off_nil _)) (lit_ri w6 3 [5, 5, 5, 5, 5, 5, 5]) (by decide) (by decide)).mono ?_
    rintro e w7 ⟨rfl, hd7⟩
    rw [beq_self_eq_true]
    have K7 := Lib.hid ((K6.out.alloc (.cells (ints .i64 [5, 5, 5, 5, 5, 5, 5]).toArray 3)).trans hd7.keeps)
    clear hd7 K6 RI6
    go_wp2_with fail
    go_ret
    exact ⟨rfl, K7.out⟩
  · exfalso; rcases h with h | h
    · simp at h
    · revert h; decide
end Go.Proofs.YtcblibefmclloaaDoor
