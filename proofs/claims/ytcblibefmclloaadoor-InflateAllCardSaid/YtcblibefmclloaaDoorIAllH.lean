import Derived.Test.YtcblibefmclloaaDoorIAllG
import Derived.Test.YtcblibefmclloaaDoorIAllE
import Derived.Test.YtcblibefmclloaaDoorIAllB
import Derived.StillTailTactics
import Derived.WalkMore
import Derived.Test.YtcblibefmclloaaDoorIAllA
import Derived.Test.YtcblibefmclloaaDoorIAllC
import Derived.Laws.AppendOwnNone
import Derived.Laws.OwnMore
import Derived.Lib.SliceRun
import Derived.Deep.RegionWith
set_option linter.unusedVariables false
set_option linter.unusedSimpArgs false
namespace Go.Proofs.YtcblibefmclloaaDoor
open Go.RowKit
theorem add_calls (w : World) (base len : Nat) (u : Value) (l : List Int) (sym extra n : Int) (hb : base ≤ w.heap.size) (ht : Tabs w) (hu : w.ownsRow base 3 1 u len (ints .i64 l)) (hlen : len ≤ 1000) :
    Calls Tryd.prog 56 #[u, .agg #[.int .i64 sym, .int .i64 extra], .int .i64 n] w (Added w base (addF l sym extra n)) := by
  cases hsay : sayF l sym extra with
  | some p =>
    obtain ⟨v, k⟩ := p
    have h0 : 0 ≤ sym := by
      rcases Int.lt_or_le sym 0 with h | h
      · rw [sayF_lit_none (by omega) (Or.inl h)] at hsay; cases hsay
      · exact h
    obtain ⟨s, rfl⟩ := Int.eq_ofNat_of_zero_le h0
    exact add_good w base len u l s extra n v k hb ht hu hlen hsay
  | none =>
    obtain ⟨A, c, rfl, hri, hcap, hblk⟩ := own_ri hu
    by_cases hs : sym < 0 ∨ 18 < sym
    · exact add_bad w base len c A l sym extra n hb hs
    · by_cases hx : extra < 0
      · exact add_neg w base len c A l sym extra n hb (by omega) (by omega) hx
      · obtain ⟨s, rfl⟩ := Int.eq_ofNat_of_zero_le (show 0 ≤ sym by omega)
        by_cases ho : s ≤ 15 ∧ 1 ≤ extra ∨ s = 16 ∧ 4 ≤ extra ∨ s = 17 ∧ 8 ≤ extra ∨ s = 18 ∧ 128 ≤ extra
        · exact add_over w base len c A l s extra n hb ht (by omega) ho
        · rcases (by omega : s ≤ 15 ∨ s = 16 ∨ s = 17 ∨ s = 18) with h | rfl | rfl | rfl
          · obtain rfl : extra = 0 := by omega
            rw [sayF_lit (by omega) (by omega)] at hsay; cases hsay
          · have hl : l = [] := by
              rcases Classical.em (l = []) with h | h
              · exact h
              · rw [show ((16 : Nat) : Int) = 16 from rfl, sayF_16 (by omega) (by omega) h] at hsay; cases hsay
            subst hl
            obtain rfl : len = 0 := by have := hri.len; simpa using this.symm
            exact add_first w base c A extra n hb ht (by omega) (by omega)
          · rw [show ((17 : Nat) : Int) = 17 from rfl, sayF_17 (by omega) (by omega)] at hsay; cases hsay
          · rw [show ((18 : Nat) : Int) = 18 from rfl, sayF_18 (by omega) (by omega)] at hsay; cases hsay
/-- What unpacking answers. -/
def Unpacked (w : World) (r : List Int × Int) (e : Ending) (w' : World) : Prop :=
  ∃ v, e = .returned (.tuple #[v, .int .i64 r.2]) ∧ w'.ownsRow w.heap.size 3 1 v r.1.length (ints .i64 r.1) ∧ Below w.heap.size w w'
theorem unpacked_nil (w w' : World) (r : List Int × Int) (e : Int) (hr : r = ([], e)) (h : Below w.heap.size w w') : Unpacked w r (.returned (.tuple #[.slice none 0 0, .int .i64 e])) w' := by
  subst hr
  exact ⟨_, rfl, World.ownsRow_nil _ _ _ _, h⟩
theorem pth_drop {xs : List (Int × Int)} {k : Nat} (h : k < xs.length) : xs.drop k = pth xs k :: xs.drop (k + 1) := by
  rw [List.drop_eq_getElem_cons h]; simp [pth, List.getD, h]
set_option maxRecDepth 100000 in
set_option maxHeartbeats 1000000 in
theorem unpack_calls (w : World) (A : Option Addr) (m c : Nat) (xs : List (Int × Int)) (n : Int) (ht : Tabs w) (hx : RP w A m xs) (hm : m ≤ 140737488355328) :
    Calls Tryd.prog 21 #[.slice A m c, .int .i64 n] w (Unpacked w (unpackF xs n)) := by
  have HX := Lib.hid hx
  have HT := Lib.hid ht
  clear hx ht
  by_cases h0 : n < 0
  · have e1 : decide (n < 0) = true := by simpa using h0
    go_enter Tryd.func21, Tryd.ntmps21
    go_wp2_with fail
    go_ret2
    exact unpacked_nil _ _ _ _ (unpackF_arg (Or.inl h0)) (Below.refl _ _)
  · have e1 : decide (n < 0) = false := by simpa using h0
    by_cases h1 : 316 < n
    · have e2 : decide (316 < n) = true := by simpa using h1
      go_enter Tryd.func21, Tryd.ntmps21
      go_wp2_with fail
      go_ret2
      exact unpacked_nil _ _ _ _ (unpackF_arg (Or.inr h1)) (Below.refl _ _)
    · have e2 : decide (316 < n) = false := by simpa using h1
      go_enter Tryd.func21, Tryd.ntmps21
      go_wp2_with fail
      clear e1 e2
      go_loopw [6, 18] (fun u i wr => ∃ (k : Nat) (l : List Int), k ≤ m ∧ i = .int .i64 k ∧ (l.length : Int) ≤ n ∧ Hid (wr.ownsRow w.heap.size 3 1 u l.length (ints .i64 l)) ∧ Hid (unpackTo [] xs n = unpackTo l (xs.drop k) n) ∧ Hid (Below w.heap.size w wr)) (fun _ i _ => m - (intOf i).toNat)
      case atStart => exact ⟨0, [], by omega, rfl, by simp; omega, Lib.hid (World.ownsRow_nil _ _ _ _), Lib.hid (by simp), Lib.hid (Below.refl _ _)⟩
      case round =>
        obtain ⟨k, l, hk, rfl, hl, HO, HP, HW⟩ := hrel
        by_cases hlt : k < m
        · obtain ⟨b, o, rfl⟩ := HX.out.hd (by omega)
          obtain ⟨c1, c2⟩ := HX.out.cell b o rfl k hlt
          have hd := pth_drop (show k < xs.length by have := HX.out.len; omega)
          have c1' := (Keeps.of_below (S := []) HW.out).cell (by simp) c1
          have c2' := (Keeps.of_below (S := []) HW.out).cell (by simp) c2
          have HD := Lib.hid hd
          clear c1 c2 hd
          have hsz := HW.out.size
          obtain ⟨A1, cc, rfl, hri, hcap, hblk⟩ := own_ri HO.out
          have HRI := Lib.hid hri
          clear hri hblk hcap
          go_wp2_with fail
          refine (add_calls _ w.heap.size l.length _ l _ _ n (by simp; omega) (HT.out.below (HW.out.alloc (by omega) _) HT.out.size) (HO.out.alloc _) (by omega)).mono ?_
          intro e w2 ha
          have hp := HP.out
          rw [HD.out] at hp
          cases hadd : addF l (pth xs k).1 (pth xs k).2 n with
          | none =>
            rw [hadd] at ha
            obtain ⟨rfl, hb⟩ := ha
            rw [unpackTo_stop hadd] at hp
            have HP2 := Lib.hid hp
            have HB := Lib.hid hb
            clear hp hb hadd
            go_wp2_with fail
            go_ret2
            exact unpacked_nil _ _ _ _ (unpackF_none (by omega) (by omega) HP2.out) ((HW.out.alloc (by omega) _).trans HB.out)
          | some l' =>
            rw [hadd] at ha
            obtain ⟨v', rfl, ho, hb⟩ := ha
            rw [unpackTo_cons hadd] at hp
            have hlen := addF_len hadd
            have HP2 := Lib.hid hp
            have HB := Lib.hid hb
            have HO2 := Lib.hid ho
            clear hp hb hadd ho
            go_wp2_with fail
            go_roundw
            case rel => exact ⟨k + 1, l', by omega, by go_num, hlen.2, HO2, HP2, Lib.hid ((HW.out.alloc (by omega) _).trans HB.out)⟩
            case measure => simp [intOf]; omega
        · obtain rfl : k = m := by omega
          have hp := HP.out
          rw [List.drop_eq_nil_of_le (by have := HX.out.len; omega), unpackTo] at hp
          have HP2 := Lib.hid hp
          clear hp
          obtain ⟨A1, cc, rfl, hri, hcap, hblk⟩ := own_ri HO.out
          clear hri hcap hblk
          by_cases hfew : (l.length : Int) < n
          · have e5 : decide ((l.length : Int) < n) = true := by simpa using hfew
            go_wp2_with fail
            go_ret2
            exact unpacked_nil _ _ _ _ (unpackF_few (by omega) (by omega) HP2.out hfew) HW.out
          · have e5 : decide ((l.length : Int) < n) = false := by simpa using hfew
            go_wp2_with fail
            go_ret2
            rw [unpackF_ok (by omega) (by omega) HP2.out (by omega)]
            exact ⟨_, rfl, HO.out, HW.out⟩
end Go.Proofs.YtcblibefmclloaaDoor

set_option linter.unusedVariables false
set_option linter.unusedSimpArgs false
namespace Go.Proofs.YtcblibefmclloaaDoor
open Go.RowKit
theorem pack_ex : packF [0, 0, 0, 3, 3, 3, 3, 3, 0] = [(17, 0), (3, 0), (16, 1), (0, 0)] := by
  simp [packF, runN, rsteps, zsteps, vsteps, reps, left]
theorem unpack_ex : unpackF [(5, 0), (16, 3)] 7 = ([5, 5, 5, 5, 5, 5, 5], 0) := by decide
theorem unpack_ex2 : unpackF [(16, 0)] 3 = ([], 41) := by decide
theorem lit_ri {k : IntKind} (w : World) (t : TypeId) (xs : List Int) : RI k (w.alloc (.cells (ints k xs).toArray t)) (some ⟨w.heap.size, 0, none⟩) xs.length xs := by
  have h : Blk (w.alloc (.cells (ints k xs).toArray t)) w.heap.size t (ints k (xs ++ [])) := by rw [List.append_nil]; exact blk_new w t _
  exact h.ri
theorem blk_rp {w : World} {g : Nat} {t : TypeId} {xs : List (Int × Int)} (h : Blk w g t (pcells xs)) : RP w (some ⟨g, 0, none⟩) xs.length xs :=
  ⟨rfl, fun _ => ⟨_, _, rfl⟩, fun b o ha j hj => by
    injection ha with ha; injection ha with h1 h2 h3; subst h1; subst h2
    have := pcells_get xs j hj
    rw [Nat.zero_add, h.cell, h.cell]
    exact this⟩
theorem lit_rp (w : World) (t : TypeId) (xs : List (Int × Int)) : RP (w.alloc (.cells (pcells xs).toArray t)) (some ⟨w.heap.size, 0, none⟩) xs.length xs := blk_rp (blk_new w t _)
theorem RP.keeps {S : List Nat} {w w' : World} {A : Option Addr} {n : Nat} {xs : List (Int × Int)} (h : RP w A n xs) (hk : Keeps S w w') (ho : Off S A) : RP w' A n xs :=
  ⟨h.len, h.hd, fun b o ha j hj => ⟨hk.cell (p := ⟨b, o + j * 2, none⟩) (ho ⟨b, o, none⟩ ha) (h.cell b o ha j hj).1, hk.cell (p := ⟨b, o + j * 2 + 1, none⟩) (ho ⟨b, o, none⟩ ha) (h.cell b o ha j hj).2⟩⟩
theorem own_rp {w : World} {base : Nat} {e : TypeId} {v : Value} {n : Nat} {xs : List (Int × Int)} (h : w.ownsRow base e 2 v n (pcells xs)) :
    ∃ A c, v = .slice A n c ∧ RP w A n xs ∧ n ≤ c ∧ (∀ a, A = some a → base ≤ a.block ∧ a.block < w.heap.size) := by
  obtain ⟨h1, h2⟩ := h
  have hl : xs.length = n := by rw [pcells_length] at h1; omega
  rcases h2 with ⟨rfl, rfl⟩ | ⟨g, cap, cur, rfl, hb, hh, hc, hm, hs, ht⟩
  · exact ⟨none, 0, rfl, ⟨hl, by omega, by simp⟩, by omega, by simp⟩
  · refine ⟨_, _, rfl, ⟨hl, fun _ => ⟨_, _, rfl⟩, fun b o ha j hj => ?_⟩, hc, fun a ha => ?_⟩
    · injection ha with ha; injection ha with h1 h2 h3; subst h1; subst h2
      have hp := pcells_get xs j (by omega)
      have e1 : ∀ i, i < n * 2 → cur.toList[i]? = (pcells xs)[i]? := fun i hi => by rw [← ht, List.getElem?_take, if_pos hi]
      rw [Nat.zero_add]
      unfold World.cell?
      simp only [hh]
      rw [← Array.getElem?_toList, ← Array.getElem?_toList, e1 _ (by omega), e1 _ (by omega)]
      exact hp
    · obtain rfl := Option.some.inj ha
      exact ⟨hb, (Array.getElem?_eq_some_iff.1 hh).1⟩
theorem bytes_ex : ∀ j, 0 ≤ nth [255, 255] j ∧ nth [255, 255] j ≤ 255
  | 0 => by decide
  | 1 => by decide
  | j + 2 => by simp [nth]
set_option maxRecDepth 100000 in
set_option maxHeartbeats 1000000 in
theorem awake_calls (w : World) (ht : Tabs w) : Calls Tryd.prog 15 #[] w fun e w' => e = .returned (.bool true) ∧ Keeps [] w w' := by
  have HT := Lib.hid ht
  clear ht
  go_enter Tryd.func15, Tryd.ntmps15
  go_wp2_with fail
  refine (lensPack_calls _ _ _ _ [0, 0, 0, 3, 3, 3, 3, 3, 0] (HT.out.keeps ((Keeps.refl [] w).alloc _) (by simp)) (lit_ri w 3 [0, 0, 0, 3, 3, 3, 3, 3, 0]) (by decide)).mono ?_
  intro e w1 hp
  rcases hp with ⟨_, _, v1, rfl, ho1, hb1⟩ | ⟨h, _⟩
  · rw [pack_ex] at ho1
    have K1 := Lib.hid (((Keeps.refl [] w).alloc (.cells (ints .i64 [0, 0, 0, 3, 3, 3, 3, 3, 0]).toArray 3)).trans (Keeps.of_below hb1))
    have O1 := Lib.hid ho1
    clear ho1 hb1
    have S1 := K1.out.size
    go_wp2_with fail
    refine (unpack_calls _ _ _ _ [(5, 0), (16, 3)] 7 (HT.out.keeps (K1.out.alloc _) (by simp)) (lit_rp w1 31 [(5, 0), (16, 3)]) (by decide)).mono ?_
    rintro e w2 ⟨v2, rfl, ho2, hb2⟩
    rw [unpack_ex] at ho2 ⊢
    have B2 : Keeps [] w1 w2 := (((Keeps.refl [] w1).alloc (.cells (pcells [(5, 0), (16, 3)]).toArray 31)).trans (Keeps.of_below hb2))
    have K2 := Lib.hid (K1.out.trans B2)
    have O2 := Lib.hid ho2
    have O1' := Lib.hid (own_keeps O1.out B2 (by simp))
    clear ho2 hb2 B2 O1
    go_wp2_with fail
    refine (unpack_calls _ _ _ _ [(16, 0)] 3 (HT.out.keeps (K2.out.alloc _) (by simp)) (lit_rp w2 31 [(16, 0)]) (by decide)).mono ?_
    rintro e w3 ⟨v3, rfl, ho3, hb3⟩
    rw [unpack_ex2] at ho3 ⊢
    have B3 : Keeps [] w2 w3 := (((Keeps.refl [] w2).alloc (.cells (pcells [(16, 0)]).toArray 31)).trans (Keeps.of_below hb3))
    have K3 := Lib.hid (K2.out.trans B3)
    have O2' := Lib.hid (own_keeps O2.out B3 (by simp))
    have O1 := Lib.hid (own_keeps O1'.out B3 (by simp))
    clear ho3 hb3 B3 O1' O2 K1 K2
    go_wp2_with fail
    refine (newReader_calls _ _ _ _ [255, 255] (lit_ri w3 5 [255, 255]) (by simp) bytes_ex (by decide)).mono ?_
    rintro e w4 ⟨g, A, c, rfl, hr4, hg4, ha4, hb4⟩
    have B4 : Keeps [] w3 w4 := (((Keeps.refl [] w3).alloc (.cells (ints .u8 [255, 255]).toArray 5)).trans (Keeps.of_below hb4))
    have K4 := Lib.hid (K3.out.trans B4)
    have O2 := Lib.hid (own_keeps O2'.out B4 (by simp))
    have O1' := Lib.hid (own_keeps O1.out B4 (by simp))
    have R4 := Lib.hid hr4
    have A4 := Lib.hid ha4
    have G4 := Lib.hid hg4
    have N1 : Hid (∀ k, v1.ownBlock = some k → k ∉ [g]) := fun k hk => by have := (O1.out.lt k hk).2; simp at hg4 ⊢; omega
    have N2 : Hid (∀ k, v2.ownBlock = some k → k ∉ [g]) := fun k hk => by have := (O2'.out.lt k hk).2; simp at hg4 ⊢; omega
    have NG : Hid (w.heap.size ≤ g) := by have := K3.out.size; simp at hg4; show _ ≤ _; omega
    clear hr4 ha4 hg4 hb4 B4 O1 O2' K3
    go_wp2_with fail
    refine (readHead_bad _ _ _ _ _ _ R4.out (fun a h => (A4.out a h).2) (by decide) (Or.inl (by decide))).mono ?_
    rintro e w5 ⟨rfl, hr5, hk5⟩
    have K5 := Lib.hid (K4.out.then hk5 (fun x hx => Or.inr (by have := NG.out; simp at hx; omega)))
    obtain ⟨P, cp, rfl, hrp, hcp, hbp⟩ := own_rp (own_keeps O1'.out hk5 N1.out)
    obtain ⟨I, ci, rfl, hri, hci, hbi⟩ := own_ri (own_keeps O2.out hk5 N2.out)
    have RP5 := Lib.hid hrp
    have RI5 := Lib.hid hri
    clear hk5 hrp hri hbp hbi N1 N2 NG O1' O2 K4 A4 R4 G4
    go_wp2_with fail
    refine (same_calls _ _ _ _ _ _ _ [(17, 0), (3, 0), (16, 1), (0, 0)] [(17, 0), (3, 0), (16, 1), (0, 0)] (RP5.out.keeps ((Keeps.refl _ _).alloc _) (off_nil _)) (lit_rp w5 31 [(17, 0), (3, 0), (16, 1), (0, 0)]) (by decide) (by decide)).mono ?_
    rintro e w6 ⟨rfl, hd6⟩
    rw [beq_self_eq_true]
    have K6 := Lib.hid ((K5.out.alloc (.cells (pcells [(17, 0), (3, 0), (16, 1), (0, 0)]).toArray 31)).trans hd6.keeps)
    have RI6 := Lib.hid (RI5.out.keeps (((Keeps.refl [] w5).alloc (.cells (pcells [(17, 0), (3, 0), (16, 1), (0, 0)]).toArray 31)).trans hd6.keeps) (off_nil _))
    clear hd6 RI5 RP5 K5
    go_wp2_with fail
    refine (ints_calls _ _ _ _ _ _ _ [5, 5, 5, 5, 5, 5, 5] [5, 5, 5, 5, 5, 5, 5] (RI6.out.keeps ((Keeps.refl _ _).alloc _) (off_nil _)) (lit_ri w6 3 [5, 5, 5, 5, 5, 5, 5]) (by decide) (by decide)).mono ?_
    rintro e w7 ⟨rfl, hd7⟩
    rw [beq_self_eq_true]
    have K7 := Lib.hid ((K6.out.alloc (.cells (ints .i64 [5, 5, 5, 5, 5, 5, 5]).toArray 3)).trans hd7.keeps)
    clear hd7 K6 RI6
    go_wp2_with fail
    go_ret
    exact ⟨rfl, K7.out⟩
  · exfalso; rcases h with h | h
    · simp at h
    · revert h; decide
end Go.Proofs.YtcblibefmclloaaDoor

set_option linter.unusedVariables false
set_option linter.unusedSimpArgs false
namespace Go.Proofs.YtcblibefmclloaaDoor
open Go.RowKit
/-- Blocks that are no bytes stay while a writer writes. -/
theorem own_ptT {w w' : World} {g base n size : Nat} {t : TypeId} {v : Value} {xs : List Value} (ht : t ≠ 5) (hb : g < base) (h : w.ownsRow base t size v n xs) (hp : PT g w w') : w'.ownsRow base t size v n xs := by
  obtain ⟨h1, h2⟩ := h
  refine ⟨h1, ?_⟩
  rcases h2 with h2 | ⟨b, cap, cur, hv, hb2, hh, r⟩
  · exact Or.inl h2
  · refine Or.inr ⟨b, cap, cur, hv, hb2, ?_, r⟩
    rw [hp.same b (Array.getElem?_eq_some_iff.1 hh).1 (by omega) (fun ⟨c, f, hc⟩ => ?_), hh]
    rw [hh] at hc
    injection hc with hc
    injection hc with _ h2 _
    exact ht h2
theorem ri_pt {w w' : World} {g base n c : Nat} {t : TypeId} {A : Option Addr} {k : IntKind} {xs : List Int} (ht : t ≠ 5) (hb : g < base) (h : w.ownsRow base t 1 (.slice A n c) n (ints k xs)) (hp : PT g w w') : RI k w' A n xs := by
  obtain ⟨A', c', hv, hr, _⟩ := own_ri (own_ptT ht hb h hp)
  injection hv with h1 h2 h3
  rw [h1]; exact hr
theorem rp_pt {w w' : World} {g base n c : Nat} {t : TypeId} {A : Option Addr} {xs : List (Int × Int)} (ht : t ≠ 5) (hb : g < base) (h : w.ownsRow base t 2 (.slice A n c) n (pcells xs)) (hp : PT g w w') : RP w' A n xs := by
  obtain ⟨A', c', hv, hr, _⟩ := own_rp (own_ptT ht hb h hp)
  injection hv with h1 h2 h3
  rw [h1]; exact hr
theorem any_false {xs : List Int} (h : ∀ x ∈ xs, 0 ≤ x ∧ x ≤ 15) : anyBad xs = false := by
  unfold anyBad
  rw [List.any_eq_false]
  intro x hx
  have := h x hx
  simp [badLen]; omega
theorem revF_bitW (c : Int) : ∀ n t, t < n → revF c n / 2 ^ t % 2 = c / 2 ^ (n - 1 - t) % 2
  | 0, t, h => by omega
  | n + 1, t, h => by
    rw [revF]
    match t with
    | 0 => rw [Int.pow_zero, Int.ediv_one, show n + 1 - 1 - 0 = n by omega]; omega
    | t + 1 =>
      have ih := revF_bitW c n t (by omega)
      rw [Int.pow_succ, Int.mul_comm (2 ^ t) 2, ← div_div _ _ _ (by omega), show (2 * revF c n + c / 2 ^ n % 2) / 2 = revF c n by omega, ih, show n + 1 - 1 - (t + 1) = n - 1 - t by omega]
theorem vbits_revW (c : Int) (n : Nat) : vbits (revF c n) n = msbF c n := by
  unfold vbits msbF
  refine List.map_congr_left fun t ht => ?_
  exact revF_bitW c n t (List.mem_range.1 ht)
theorem codes_atW {l : List Int} (hc : checkF l = 0) : (codesF l).1.length = l.length ∧ ∀ k m : Nat, k < l.length → nth l k = m → 1 ≤ m → nth (codesF l).1 k = revF (codeI l k) m := by
  have e : (codesF l).1 = outL l l.length := by unfold codesF; rw [if_pos hc]
  rw [e]
  refine ⟨outL_len l _, fun k m hk hm h1 => ?_⟩
  unfold outL
  rw [nth_map_range _ _ _ hk, if_pos ⟨hk, by omega⟩, hm]; rfl
theorem pth_mem {xs : List (Int × Int)} {i : Nat} (h : i < xs.length) : pth xs i ∈ xs := by
  have : pth xs i = xs[i] := by simp [pth, List.getD, h]
  rw [this]; exact List.getElem_mem _
theorem take_pth {xs : List (Int × Int)} {i : Nat} (h : i < xs.length) : xs.take (i + 1) = xs.take i ++ [pth xs i] := by
  rw [List.take_succ_eq_append_getElem h]; simp [pth, List.getD, h]
theorem PT.of_keeps {g : Nat} {w w' : World} (h : Keeps [] w w') : PT g w w' := ⟨h.size, fun k hk _ _ => h.block k hk (by simp)⟩
theorem below_lower {B C : Nat} {w w' : World} (h : Below B w w') (hle : C ≤ B) : Below C w w' := ⟨h.os, h.tape, h.output, h.size, fun k hk => h.block k (Nat.lt_of_lt_of_le hk hle)⟩
theorem manyGo_down (codes : List Int) (m : Nat) (h4 : 4 < m) (h0 : nth codes (nth orderL (m - 1)).toNat = 0) : manyGo codes m = manyGo codes (m - 1) := by
  obtain ⟨k, rfl⟩ : ∃ k, m = k + 1 := ⟨m - 1, by omega⟩
  rw [manyGo, if_pos ⟨by omega, h0⟩]; rfl
theorem manyGo_stop (codes : List Int) (m : Nat) (h4 : 4 ≤ m) (h0 : m = 4 ∨ nth codes (nth orderL (m - 1)).toNat ≠ 0) : manyGo codes m = m := by
  obtain ⟨k, rfl⟩ : ∃ k, m = k + 1 := ⟨m - 1, by omega⟩
  rw [manyGo, if_neg]
  rintro ⟨h1, h2⟩
  rcases h0 with h | h
  · omega
  · exact h h2
/-- What a writing answers. -/
def Wrote (w : World) (g : Nat) (bl lit dist : List Int) (e : Ending) (w' : World) : Prop :=
  (MayW lit dist ∧ e = .returned (.int .i64 0) ∧ Wtr w' g (bl ++ headB lit dist) ∧ Below g w w' ∧ PT g w w') ∨ (¬ MayW lit dist ∧ e = .returned (.int .i64 1) ∧ Below w.heap.size w w')
set_option maxRecDepth 100000 in
set_option maxHeartbeats 4000000 in
theorem write_good (w : World) (g : Nat) (bl : List Int) (A1 A2 : Option Addr) (n1 n2 c1 c2 : Nat) (lit dist : List Int) (hT : Tabs w) (hg : gtop ≤ g) (hw : Wtr w g bl) (hb : bl.length ≤ 50000000)
    (hx : RI .i64 w A1 n1 lit) (hy : RI .i64 w A2 n2 dist) (hm : MayW lit dist) :
    Calls Tryd.prog 44 #[.pointer (some ⟨g, 0, none⟩), .slice A1 n1 c1, .slice A2 n2 c2] w (Wrote w g bl lit dist) := by
  have hl0 := hx.len
  have hl1 := hy.len
  have b0 := hm.lit0
  have b1 := hm.lit1
  have b2 := hm.dist0
  have b3 := hm.dist1
  have e1 : decide (n1 < 257) = false := by simp; omega
  have e1' : decide ((n1 : Int) < 257) = false := by simp; omega
  have e2 : decide (286 < n1) = false := by simp; omega
  have e2' : decide ((286 : Int) < (n1 : Int)) = false := by simp; omega
  have e3 : decide (n2 < 1) = false := by simp; omega
  have e3' : decide ((n2 : Int) < 1) = false := by simp; omega
  have e4 : decide (30 < n2) = false := by simp; omega
  have e4' : decide ((30 : Int) < (n2 : Int)) = false := by simp; omega
  have hg0 : n1 ≤ 286 := by omega
  have hg1 : n2 ≤ 30 := by omega
  obtain ⟨ba, oa, rfl⟩ := hx.hd (by omega)
  obtain ⟨bb, ob, rfl⟩ := hy.hd (by omega)
  have HL1 : Hid (lit.length = n1) := Lib.hid hl0
  have HL2 : Hid (dist.length = n2) := Lib.hid hl1
  have HX := Lib.hid hx
  have HY := Lib.hid hy
  have HT := Lib.hid hT
  have HW := Lib.hid hw
  have HM := Lib.hid hm
  have hgt := hw.lt
  have HA1 : Hid (anyBad lit = false) := Lib.hid (any_false hm.litB)
  have HA2 : Hid (anyBad dist = false) := Lib.hid (any_false hm.distB)
  have HA3 : Hid (anyBad (lit ++ dist) = false) := Lib.hid (any_false hm.all)
  clear hx hy hT hw hm hl0 hl1 b0 b1 b2 b3
  go_enter Tryd.func44, Tryd.ntmps44
  go_wp2_with fail
  refine (lengths_calls _ _ _ _ lit HX.out (by omega)).mono ?_
  rintro _ wa ⟨rfl, hd1⟩
  rw [HA1.out]
  have K1 := Lib.hid (hd1.keeps (S := []))
  clear hd1
  go_wp2_with fail
  refine (lengths_calls _ _ _ _ dist (HY.out.keeps K1.out (off_nil _)) (by omega)).mono ?_
  rintro _ wb ⟨rfl, hd1⟩
  rw [HA2.out]
  have K2 := Lib.hid (K1.out.trans (hd1.keeps (S := [])))
  clear hd1 K1 e1 e2 e3 e4 e1' e2' e3' e4'
  go_wp2_with fail
  refine (concat_from w _ wb.heap.size _ _ n1 n2 c1 c2 lit dist (K2.out.alloc _) (by simp) (by simp) HX.out HY.out nofun nofun (fun ad h => ⟨ba, oa, (Option.some.inj h).symm⟩) (fun ad h => ⟨bb, ob, (Option.some.inj h).symm⟩) (by omega) (by omega)).mono ?_
  rintro _ wc ⟨AC, cc, rfl, hoc, hkc⟩
  obtain ⟨A', c', hv', hric, -⟩ := own_ri hoc
  injection hv' with q1 q2 q3
  subst q1
  subst q3
  have HRC := Lib.hid hric
  have KC := Lib.hid hkc
  have HTC := Lib.hid (HT.out.keeps hkc (by simp))
  clear hoc hric hkc HX HY K2
  go_wp2_with fail
  refine (lensPack_calls wc _ _ _ (lit ++ dist) HTC.out HRC.out (by omega)).mono ?_
  rintro e wd hpk
  obtain ⟨vs, rfl, hos, hbd⟩ : ∃ v, e = .returned (.tuple #[v, .int .i64 0]) ∧ wd.ownsRow wc.heap.size 31 2 v (packF (lit ++ dist)).length (pcells (packF (lit ++ dist))) ∧ Below wc.heap.size wc wd := by
    rcases hpk with ⟨_, _, h⟩ | ⟨h, _⟩
    · exact h
    · exfalso
      rw [HA3.out, List.length_append, HL1.out, HL2.out] at h
      rcases h with h | h
      · omega
      · cases h
  obtain ⟨st, hst⟩ : ∃ st, st = packF (lit ++ dist) := ⟨_, rfl⟩
  rw [← hst] at hos
  have HST := Lib.hid hst
  have HSL : Hid (st.length ≤ 316) := Lib.hid (by have := packF_len (lit ++ dist); rw [List.length_append, HL1.out, HL2.out] at this; rw [hst]; omega)
  have HSY : Hid (∀ s ∈ st, 0 ≤ s.1 ∧ s.1 ≤ 18 ∧ 0 ≤ s.2 ∧ s.2 < 2 ^ wN s.1) := Lib.hid (by rw [hst]; exact HM.out.sym)
  obtain ⟨AS, cs, rfl, hrp, -⟩ := own_rp hos
  have hk1 := Keeps.of_below hbd (S := [])
  have hgc : g < wc.heap.size := Nat.lt_of_lt_of_le hgt KC.out.size
  have KD := Lib.hid (KC.out.trans hk1)
  have HOS := Lib.hid (hos.mono (Nat.le_of_lt_succ (Nat.succ_lt_succ hgc)) : wd.ownsRow (g + 1) 31 2 _ _ _)
  have HRP := Lib.hid hrp
  clear hos hrp hbd hk1 hst HRC HTC HA1 HA2 HA3 hpk
  have HKL := Lib.hid (rfl : st.length = st.length)
  generalize hk : st.length = k at HOS HRP HSL HKL ⊢
  have hk316 : k ≤ 316 := HSL.out
  have HKK : Hid (st.length = k) := Lib.hid hk
  clear hk HKL HSL
  have hmk := fun w => make_ints (P := Tryd.prog) w 22 3 .i64 8 Tryd.underlying22 info_int 19 19 rfl (by omega) (by omega)
  obtain ⟨cb, hcb⟩ : ∃ x, x = wd.heap.size := ⟨_, rfl⟩
  obtain ⟨w4, hw4⟩ : ∃ x, x = wd.alloc (.cells (ints .i64 (List.replicate 19 0)).toArray 3) := ⟨_, rfl⟩
  have hk4 : Keeps [] wd w4 := by rw [hw4]; exact (Keeps.refl [] wd).alloc _
  have HC4 : Hid (Blk w4 cb 3 (ints .i64 (cntF 19 ((st.take 0).map Prod.fst)))) := by rw [hw4, hcb]; exact Lib.hid (by rw [List.take_zero]; exact blk_new wd _ _)
  have HK4 := Lib.hid hk4
  have hcb2 : wd.heap.size ≤ cb := by omega
  clear hk4
  go_upto_region 7 with (fail)
  change Code.wp _ _ _ _ (wd.alloc (.cells (ints .i64 (List.replicate 19 0)).toArray 3))
  rw [← hw4, ← hcb]
  clear hw4 hcb hmk
  go_wp2_with fail
  go_loopw [64] (fun iv wr => ∃ (i : Nat), i ≤ k ∧ iv = .int .i64 i ∧ Hid (Blk wr cb 3 (ints .i64 (cntF 19 ((st.take i).map Prod.fst)))) ∧ Hid (Keeps [] wd wr)) (fun iv _ => k - (intOf iv).toNat)
  case atStart => exact ⟨0, by omega, rfl, HC4, HK4⟩
  case round =>
    clear HC4 HK4
    obtain ⟨i, hi, rfl, HC, HK⟩ := hrel
    by_cases hlt : i < k
    · have e0 : decide (i < k) = true := by simpa using hlt
      obtain ⟨b, o, rfl⟩ := HRP.out.hd (by omega)
      obtain ⟨p1, p2⟩ := (HRP.out.keeps HK.out (off_nil _)).cell b o rfl i hlt
      obtain ⟨s0, s1, -, -⟩ := HSY.out _ (pth_mem (show i < st.length by have := HKK.out; omega))
      obtain ⟨j, hj⟩ : ∃ j : Nat, (pth st i).1 = j := ⟨(pth st i).1.toNat, by omega⟩
      have hj19 : j < 19 := by omega
      have HCN : Hid (cntF 19 ((st.take (i + 1)).map Prod.fst) = (cntF 19 ((st.take i).map Prod.fst)).set j (nth (cntF 19 ((st.take i).map Prod.fst)) j + 1)) := Lib.hid (by
        rw [take_pth (show i < st.length by have := HKK.out; omega), List.map_append, List.map_singleton, hj, cntF_snoc _ _ _ hj19])
      have hbd := cnt_bd 19 ((st.take i).map Prod.fst) j hj19
      have hcl : (cntF 19 ((st.take i).map Prod.fst)).length = 19 := cntF_len _ _
      have hbl : ((st.take i).map Prod.fst).length ≤ 316 := by rw [List.length_map, List.length_take]; omega
      rw [hj] at p1
      generalize (pth st i).2 = x at *
      generalize cntF 19 ((st.take i).map Prod.fst) = cs0 at *
      obtain ⟨v, hv⟩ : ∃ v, v = nth cs0 j := ⟨_, rfl⟩
      have hcl2 := (HC.out).cell j
      rw [show (ints .i64 cs0)[j]? = some (.int .i64 v) by rw [ints_getElem?, hv]; simp [nth, List.getD, show j < cs0.length by omega]] at hcl2
      have hfr := (HC.out).frozen j
      have hclt := HC.out.lt
      have s2 : IntKind.i64.wrap (v + 1) = v + 1 := IntWalk.i64_in _ (by omega)
      go_wp2_with fail
      go_roundw
      case rel =>
        refine ⟨i + 1, by omega, by go_num, ?_, Lib.hid ((HK.out.setCell (p := ⟨cb, j, none⟩) (Or.inr hcb2) _).alloc _)⟩
        rw [HCN.out]
        have := (HC.out.set j (.int .i64 (nth cs0 j + 1))).keeps ((Keeps.refl [] _).alloc (.cells #[.int .i64 (j : Int), .int .i64 x] 31)) (by simp)
        rw [show (ints .i64 cs0).set j (.int .i64 (nth cs0 j + 1)) = ints .i64 (cs0.set j (nth cs0 j + 1)) by simp [ints, List.map_set]] at this
        exact Lib.hid this
      case measure => simp [intOf]; omega
    · obtain rfl : i = k := by omega
      have e0 : decide (i < i) = false := by simp
      have HCR : Hid (RI .i64 wr (some ⟨cb, 0, none⟩) 19 (countsW lit dist)) := Lib.hid (by
        have h := HC.out
        rw [← HKK.out, List.take_length, HST.out] at h
        have := Blk.ri (xs := countsW lit dist) (ys := []) (by rw [List.append_nil]; exact h)
        rwa [countsW_len] at this)
      obtain ⟨w5, hw5⟩ : ∃ x : World, x = wr := ⟨_, rfl⟩
      rw [← hw5] at HK HCR ⊢
      clear HC hw5
      go_wp2_with fail
      refine (limit_calls w5 _ _ _ (countsW lit dist) 7 HCR.out).mono ?_
      rw [HM.out.lim]
      rintro e w6 ⟨vl, rfl, ho6, hb6⟩
      rw [codesW_len] at ho6
      obtain ⟨AL, cl, rfl, hrl, -⟩ := own_ri ho6
      have hk6 := Keeps.of_below hb6 (S := [])
      have hg5 : g + 1 ≤ w5.heap.size := by have := KD.out.size; have := HK.out.size; omega
      have HO6 : Hid (w6.ownsRow (g + 1) 3 1 (.slice AL 19 cl) 19 (ints .i64 (codesW lit dist))) := Lib.hid (ho6.mono hg5)
      have HRL := Lib.hid hrl
      have K6 := Lib.hid (HK.out.trans hk6)
      have hg6 : g + 1 ≤ w6.heap.size := by have := hk6.size; omega
      have HCB : Hid (∀ i, i < 19 → 0 ≤ nth (codesW lit dist) i ∧ nth (codesW lit dist) i ≤ 7) := Lib.hid (fun i hi => (HM.out.codes i hi).2)
      have HCS : Hid (∀ s ∈ st, 1 ≤ nth (codesW lit dist) s.1.toNat) := Lib.hid (by rw [HST.out]; exact fun s hs => (HM.out.code s hs).1)
      have HCK : Hid (checkF (codesW lit dist) = 0) := Lib.hid HM.out.check
      have HCL : Hid ((codesW lit dist).length = 19) := Lib.hid (codesW_len lit dist)
      have HHB : Hid (headB lit dist = vbits ((n1 : Int) - 257) 5 ++ (vbits ((n2 : Int) - 1) 5 ++ (vbits ((manyGo (codesW lit dist) 19 : Int) - 4) 4 ++ (codeBits (codesW lit dist) (manyGo (codesW lit dist) 19) ++ stepsB (codesW lit dist) st)))) := Lib.hid (by rw [HST.out]; unfold headB; rw [HL1.out, HL2.out])
      have hn1 : 257 ≤ n1 := by rw [← HL1.out]; exact HM.out.lit0
      have hn2 : 1 ≤ n2 := by rw [← HL2.out]; exact HM.out.dist0
      clear ho6 hrl hb6 hk6 HCR HK
      generalize codesW lit dist = cd at *
      go_wp2_with fail
      refine (codes_calls w6 _ _ _ cd HRL.out (by omega)).mono ?_
      rintro e w7 ⟨vr, rfl, ho7, hb7⟩
      obtain ⟨hcl7, hcat⟩ := codes_atW HCK.out
      rw [hcl7, HCL.out] at ho7
      obtain ⟨AR, cr, rfl, hrr, -⟩ := own_ri ho7
      have hk7 := Keeps.of_below hb7 (S := [])
      have HCA := Lib.hid hcat
      have HO7 : Hid (w7.ownsRow (g + 1) 68 1 (.slice AR 19 cr) 19 (ints .u32 (codesF cd).1)) := Lib.hid (ho7.mono hg6)
      have HO6' := Lib.hid (own_keeps HO6.out hk7 (by simp))
      have K7 := Lib.hid (KD.out.trans (K6.out.trans hk7))
      have HOS' := Lib.hid (own_keeps HOS.out (K6.out.trans hk7) (by simp))
      have HRL' := Lib.hid (HRL.out.keeps hk7 (off_nil _))
      have HT7 := Lib.hid (HT.out.keeps K7.out (by simp))
      have HW7 := Lib.hid (HW.out.keeps K7.out (by simp))
      clear ho7 hrr hb7 hk7 hcl7 hcat HO6 K6 HOS HRL HRP HT HW
      generalize (codesF cd).1 = rw at *
      generalize (codesF cd).2 = er at *
      go_upto_block 3 with (fail)
      go_cut [16] (fun mv wc => ∃ m : Nat, 4 ≤ m ∧ m ≤ 19 ∧ mv = .int .i64 m ∧ Hid (manyGo cd 19 = m) ∧ Hid (Keeps [] w7 wc))
      case first =>
        go_wp2_with fail
        go_loopw [16] (fun mv wr => ∃ (m : Nat), 4 ≤ m ∧ m ≤ 19 ∧ mv = .int .i64 m ∧ Hid (manyGo cd 19 = manyGo cd m) ∧ Hid (Keeps [] w7 wr)) (fun mv _ => (intOf mv).toNat)
        case atStart => exact ⟨19, by omega, by omega, rfl, Lib.hid rfl, Lib.hid (Keeps.refl _ _)⟩
        case round =>
          obtain ⟨m, hm4, hm19, rfl, HMG, HK⟩ := hrel
          obtain ⟨ol0, ol1⟩ := order_lt (m - 1) (by omega)
          have ho := (HT7.out.keeps HK.out (by simp)).ord.cell _ _ rfl (m - 1) (by omega)
          rw [Nat.zero_add] at ho
          have HDN : Hid (4 < m → nth cd (nth orderL (m - 1)).toNat = 0 → manyGo cd m = manyGo cd (m - 1)) := Lib.hid (manyGo_down cd m)
          have HSP : Hid (m = 4 ∨ nth cd (nth orderL (m - 1)).toNat ≠ 0 → manyGo cd m = m) := Lib.hid (manyGo_stop cd m hm4)
          obtain ⟨oj, hoo⟩ : ∃ o : Nat, nth orderL (m - 1) = o := ⟨(nth orderL (m - 1)).toNat, by omega⟩
          rw [hoo] at ho ol1 HDN HSP
          rw [Int.toNat_natCast] at HDN HSP
          have ho19 : oj < 19 := by omega
          obtain ⟨lb, lo, rfl, hlc⟩ := (HRL'.out.keeps HK.out (off_nil _)).at ho19
          clear hoo ol0 ol1
          have s1 : IntKind.i64.wrap ((m : Int) - 1) = ((m - 1 : Nat) : Int) := by rw [IntWalk.i64_in _ (by omega)]; omega
          have s2 : (m : Int) - 1 = ((m - 1 : Nat) : Int) := by omega
          by_cases h4 : 4 < m
          · have e1 : decide (4 < m) = true := by simpa using h4
            have e2 : decide ((4 : Int) < (m : Int)) = true := by simp; omega
            by_cases h0 : nth cd oj = 0
            · rw [h0] at hlc
              go_wp2_with fail
              go_roundw
              case rel => exact ⟨m - 1, by omega, by omega, by go_num, Lib.hid (by rw [HMG.out]; exact HDN.out h4 h0), HK⟩
              case measure => simp [intOf]; omega
            · have e3 : (nth cd oj == 0) = false := by simpa using h0
              have e4 : decide (nth cd oj = 0) = false := by simpa using h0
              go_wp2_with fail
              go_meet
              exact ⟨m, by omega, by omega, rfl, Lib.hid (by rw [HMG.out]; exact HSP.out (.inr h0)), HK⟩
          · have e1 : decide (4 < m) = false := by simpa using h4
            have e2 : decide ((4 : Int) < (m : Int)) = false := by simp; omega
            go_wp2_with fail
            go_meet
            exact ⟨m, by omega, by omega, rfl, Lib.hid (by rw [HMG.out]; exact HSP.out (.inl (by omega))), HK⟩
      case rest =>
        obtain ⟨m, hm4, hm19, rfl, HMG, hkw⟩ := hcut
        have HOSp := Lib.hid (own_keeps HOS'.out hkw.out (by simp))
        have HO6p := Lib.hid (own_keeps HO6'.out hkw.out (by simp))
        have HO7p := Lib.hid (own_keeps HO7.out hkw.out (by simp))
        have HTp := Lib.hid (HT7.out.keeps hkw.out (by simp))
        have HWp := Lib.hid (HW7.out.keeps hkw.out (by simp))
        have KP := Lib.hid (K7.out.trans hkw.out)
        have HBL := Lib.hid hb
        clear HOS' HO6' HO7 HT7 HW7 K7 hkw HRL' KC KD e0 hb
        obtain ⟨x1, hx1⟩ : ∃ x : Int, x = (n1 : Int) - 257 := ⟨_, rfl⟩
        obtain ⟨x2, hx2⟩ : ∃ x : Int, x = (n2 : Int) - 1 := ⟨_, rfl⟩
        obtain ⟨x3, hx3⟩ : ∃ x : Int, x = (m : Int) - 4 := ⟨_, rfl⟩
        have hx10 : 0 ≤ x1 := by omega
        have hx11 : x1 < 32 := by omega
        have hx20 : 0 ≤ x2 := by omega
        have hx21 : x2 < 32 := by omega
        have hx30 : 0 ≤ x3 := by omega
        have hx31 : x3 < 16 := by omega
        have HHC : Hid (headB lit dist = vbits x1 5 ++ (vbits x2 5 ++ (vbits x3 4 ++ (codeBits cd m ++ stepsB cd st)))) := Lib.hid (by rw [HHB.out, HMG.out, ← hx1, ← hx2, ← hx3])
        have f1 : (n1 : Int) - 257 = x1 := hx1.symm
        have f2 : (n2 : Int) - 1 = x2 := hx2.symm
        have f3 : (m : Int) - 4 = x3 := hx3.symm
        have g1 : IntKind.i64.wrap x1 = x1 := IntWalk.i64_in _ (by omega)
        have g2 : IntKind.i64.wrap x2 = x2 := IntWalk.i64_in _ (by omega)
        have g3 : IntKind.i64.wrap x3 = x3 := IntWalk.i64_in _ (by omega)
        have k1 : IntKind.u32.wrap x1 = x1 := IntWalk.u32_in _ (by omega)
        have k2 : IntKind.u32.wrap x2 = x2 := IntWalk.u32_in _ (by omega)
        have k3 : IntKind.u32.wrap x3 = x3 := IntWalk.u32_in _ (by omega)
        clear hx1 hx2 hx3 HHB HMG
        go_wp2_with fail
        refine (put_calls _ g bl x1 5 HWp.out hx10 (by omega) (by omega) (Int.ediv_eq_zero_of_lt hx10 hx11) (by have := HBL.out; omega)).mono ?_
        rintro _ w8 ⟨rfl, hw8, hb8, hp8⟩
        have HW8 := Lib.hid hw8
        have HB8 := Lib.hid hb8
        have HP8 := Lib.hid hp8
        clear hw8 hb8 hp8 HWp
        go_wp2_with fail
        refine (put_calls _ g _ x2 5 HW8.out hx20 (by omega) (by omega) (Int.ediv_eq_zero_of_lt hx20 hx21) (by have := HBL.out; simp only [List.length_append, vbits_len]; omega)).mono ?_
        rintro _ w9 ⟨rfl, hw9, hb9, hp9⟩
        have HW9 := Lib.hid hw9
        have HB9 := Lib.hid (HB8.out.trans hb9)
        have HP9 := Lib.hid (HP8.out.trans hp9)
        clear hw9 hb9 hp9 HW8 HB8 HP8
        go_wp2_with fail
        refine (put_calls _ g _ x3 4 HW9.out hx30 (by omega) (by omega) (Int.ediv_eq_zero_of_lt hx30 hx31) (by have := HBL.out; simp only [List.length_append, vbits_len]; omega)).mono ?_
        rintro _ w10 ⟨rfl, hw10, hb10, hp10⟩
        have HW10 := Lib.hid hw10
        have HB10 := Lib.hid (HB9.out.trans hb10)
        have HP10 := Lib.hid (HP9.out.trans hp10)
        obtain ⟨bl3, hbl3⟩ : ∃ x, x = bl ++ vbits x1 5 ++ vbits x2 5 ++ vbits x3 4 := ⟨_, rfl⟩
        rw [← hbl3] at HW10
        have HHD : Hid (bl ++ headB lit dist = bl3 ++ codeBits cd m ++ stepsB cd st) := Lib.hid (by rw [HHC.out, hbl3]; simp only [List.append_assoc])
        have HBL3 : Hid (bl3.length ≤ 50000014) := Lib.hid (by have := HBL.out; rw [hbl3]; simp only [List.length_append, vbits_len]; omega)
        have hsl := fun w => slice_arr w 1 m hm19
        clear hw10 hb10 hp10 HW9 HB9 HP9 hbl3 f1 f2 f3 g1 g2 g3 k1 k2 k3 hx10 hx11 hx20 hx21 hx30 hx31 HHC
        go_wp2_with fail
        go_loopw [120] (fun iv wr => ∃ (q : Nat), q ≤ m ∧ iv = .int .i64 q ∧ Hid (Wtr wr g (bl3 ++ codeBits cd q)) ∧ Hid (Below g wc wr) ∧ Hid (PT g wc wr)) (fun iv _ => m - (intOf iv).toNat)
        case atStart => exact ⟨0, by omega, rfl, Lib.hid (by rw [show codeBits cd 0 = [] from rfl, List.append_nil]; exact HW10.out), HB10, HP10⟩
        case round =>
          clear HW10 HB10 HP10 hsl
          obtain ⟨q, hq, rfl, HWq, HBq, HPq⟩ := hrel
          by_cases hlt : q < m
          · have e0 : decide (q < m) = true := by simpa using hlt
            obtain ⟨ol0, ol1⟩ := order_lt q (by omega)
            have ho := (HTp.out.below HBq.out hg).ord.cell _ _ rfl q (by omega)
            rw [Nat.zero_add] at ho
            have HCN : Hid (codeBits cd (q + 1) = codeBits cd q ++ vbits (nth cd (nth orderL q).toNat) 3) := Lib.hid (codeBits_succ cd q)
            obtain ⟨oj, hoo⟩ : ∃ o : Nat, nth orderL q = o := ⟨(nth orderL q).toNat, by omega⟩
            rw [hoo] at ho ol1 HCN
            rw [Int.toNat_natCast] at HCN
            have ho19 : oj < 19 := by omega
            obtain ⟨lb, lo, hAL, hlc⟩ := (ri_pt (by decide) (Nat.lt_succ_self g) HO6p.out HPq.out).at ho19
            subst hAL
            obtain ⟨c0, c1⟩ := HCB.out oj ho19
            have HLQ : Hid ((codeBits cd q).length = 3 * q) := Lib.hid (codeBits_len cd q)
            clear hoo ol0 ol1
            generalize nth cd oj = y at *
            have k1 : IntKind.u32.wrap y = y := IntWalk.u32_in _ (by omega)
            go_wp2_with fail
            refine (put_calls _ g _ y 3 HWq.out c0 (by omega) (by omega) (Int.ediv_eq_zero_of_lt c0 (Int.lt_of_le_of_lt c1 (by decide))) (by have := HBL3.out; have := HLQ.out; simp only [List.length_append]; omega)).mono ?_
            rintro _ w11 ⟨rfl, hw11, hb11, hp11⟩
            have HW11 : Hid (Wtr w11 g (bl3 ++ codeBits cd (q + 1))) := Lib.hid (by rw [HCN.out, ← List.append_assoc]; exact hw11)
            have HB11 := Lib.hid (HBq.out.trans hb11)
            have HP11 := Lib.hid (HPq.out.trans hp11)
            clear hw11 hb11 hp11 HWq HBq HPq
            go_wp2_with fail
            go_roundw
            case rel => exact ⟨q + 1, by omega, by go_num, HW11, HB11, HP11⟩
            case measure => simp [intOf]; omega
          · obtain rfl : q = m := by omega
            have e0 : decide (q < q) = false := by simp
            obtain ⟨bl4, hbl4⟩ : ∃ x, x = bl3 ++ codeBits cd q := ⟨_, rfl⟩
            have HHE : Hid (bl ++ headB lit dist = bl4 ++ stepsB cd st) := Lib.hid (by rw [HHD.out, hbl4])
            have HBL4 : Hid (bl4.length ≤ 50000100) := Lib.hid (by have := HBL3.out; rw [hbl4, List.length_append, codeBits_len]; omega)
            rw [← hbl4] at HWq
            clear hbl4 HHD HBL3
            go_wp2_with fail
            go_loopw [134] (fun iv wr => ∃ (p : Nat), p ≤ i ∧ iv = .int .i64 p ∧ Hid (Wtr wr g (bl4 ++ stepsB cd (st.take p))) ∧ Hid (Below g wc wr) ∧ Hid (PT g wc wr)) (fun iv _ => i - (intOf iv).toNat)
            case atStart => exact ⟨0, by omega, rfl, Lib.hid (by rw [List.take_zero, show stepsB cd [] = [] from rfl, List.append_nil]; exact HWq.out), HBq, HPq⟩
            case round =>
              clear HWq HBq HPq
              obtain ⟨p, hp, rfl, HWl, HBl, HPl⟩ := hrel
              by_cases hlt2 : p < i
              · have e5 : decide (p < i) = true := by simpa using hlt2
                have HRPl := rp_pt (by decide) (Nat.lt_succ_self g) HOSp.out HPl.out
                obtain ⟨sb, so, rfl⟩ := HRPl.hd (by omega)
                obtain ⟨p1, p2⟩ := HRPl.cell sb so rfl p hlt2
                have hps : p < st.length := by have := HKK.out; omega
                obtain ⟨s0, s1, s2, s3⟩ := HSY.out _ (pth_mem hps)
                have hcs := HCS.out _ (pth_mem hps)
                obtain ⟨j, hj⟩ : ∃ j : Nat, (pth st p).1 = j := ⟨(pth st p).1.toNat, by omega⟩
                obtain ⟨x, hx⟩ : ∃ x : Int, x = (pth st p).2 := ⟨_, rfl⟩
                have HST2 : Hid (stepsB cd (st.take (p + 1)) = stepsB cd (st.take p) ++ (msbF (codeI cd j) (nth cd j).toNat ++ vbits x (wN (j : Int)))) := Lib.hid (by
                  rw [take_pth hps]
                  unfold stepsB
                  rw [List.flatMap_append, List.flatMap_singleton, stepB, hj, ← hx, Int.toNat_natCast])
                have HSL2 : Hid ((stepsB cd (st.take p)).length ≤ 14 * 316) := Lib.hid (by
                  have h1 := stepsB_len (codes := cd) (st.take p) (fun s hs => by
                    have := HSY.out s (List.mem_of_mem_take hs)
                    exact (HCB.out _ (by omega)).2)
                  have h2 : (st.take p).length ≤ 316 := by rw [List.length_take]; omega
                  omega)
                rw [hj] at p1 s0 s1 s3 hcs
                rw [← hx] at p2 s2 s3
                rw [Int.toNat_natCast] at hcs
                have hj19 : j < 19 := by omega
                obtain ⟨cb1, co1, hAL, hlc⟩ := (ri_pt (by decide) (Nat.lt_succ_self g) HO6p.out HPl.out).at hj19
                subst hAL
                obtain ⟨c0, c1⟩ := HCB.out j hj19
                obtain ⟨rb1, ro1, hAR, hrc⟩ := (ri_pt (by decide) (Nat.lt_succ_self g) HO7p.out HPl.out).at hj19
                subst hAR
                obtain ⟨M, hM⟩ : ∃ M : Nat, nth cd j = M := ⟨(nth cd j).toNat, by omega⟩
                rw [HCA.out j M (by have := HCL.out; omega) hM (by omega)] at hrc
                rw [hM] at hlc hcs c0 c1 HST2
                rw [Int.toNat_natCast] at HST2
                have hrb := revF_bd (codeI cd j) M
                have hp16 := pow16 M (by omega)
                have HVB : Hid (vbits (revF (codeI cd j) M) M = msbF (codeI cd j) M) := Lib.hid (vbits_revW _ _)
                have HX0 : Hid (revF (codeI cd j) M / 2 ^ M = 0) := Lib.hid (Int.ediv_eq_zero_of_lt hrb.1 hrb.2)
                have hy0 := hrb.1
                have hy1 : revF (codeI cd j) M < 4294967296 := by omega
                have hwn := wN_le (j : Int)
                have hw8 := pow_le8 (wN (j : Int)) (by omega)
                have HX1 : Hid (x / 2 ^ wN (j : Int) = 0) := Lib.hid (Int.ediv_eq_zero_of_lt s2 s3)
                have hwt := (HTp.out.below HBl.out hg).wid.cell _ _ rfl j (by omega)
                rw [Nat.zero_add, wN_tab j hj19] at hwt
                have hM7 : M ≤ 7 := by omega
                clear hrb hp16 hcs c0 c1 HRPl hj hx hps
                generalize revF (codeI cd j) M = y at *
                have hx256 : x < 256 := by omega
                generalize hwN : wN (j : Int) = W at *
                have HWN := Lib.hid hwN
                clear hwN s3 hw8
                have t1 : IntKind.i64.wrap (j : Int) = (j : Int) := IntWalk.i64_in _ (by omega)
                have t2 : (0 : Int) ≤ (j : Int) := by omega
                have t3 : (j : Int) < 19 := by omega
                have t4 : IntKind.u32.wrap x = x := IntWalk.u32_in _ (by omega)
                obtain ⟨gs, hgs⟩ : ∃ z, z = wr.heap.size := ⟨_, rfl⟩
                obtain ⟨w20, hw20⟩ : ∃ z, z = wr.alloc (.cells #[.int .i64 (j : Int), .int .i64 x] 31) := ⟨_, rfl⟩
                have HB20 : Hid (Blk w20 gs 31 [.int .i64 (j : Int), .int .i64 x]) := by rw [hw20, hgs]; exact Lib.hid (blk_new wr _ [.int .i64 (j : Int), .int .i64 x])
                have ka : Keeps [] wr w20 := by rw [hw20]; exact (Keeps.refl [] wr).alloc _
                have hgl := HWl.out.lt
                have HW20 := Lib.hid (HWl.out.keeps ka (by simp))
                have HBl20 : Hid (Below g wc w20) := by rw [hw20]; exact Lib.hid (HBl.out.alloc (Nat.le_of_lt (Nat.lt_of_lt_of_le (by rw [hgs] at *; exact hgl) (Nat.le_refl _))) _)
                have HPl20 : Hid (PT g wc w20) := by rw [hw20]; exact Lib.hid (HPl.out.alloc _)
                have hggs : gs ≠ g := by omega
                go_upto_region 28 with (fail)
                change Code.wp _ _ _ _ (wr.alloc (.cells #[.int .i64 (j : Int), .int .i64 x] 31))
                rw [← hw20, ← hgs]
                have hlc' := ka.cell (by simp) hlc
                have hrc' := ka.cell (by simp) hrc
                have hwt' := ka.cell (by simp) hwt
                have b1 := HB20.out.cell 0
                have b2 := HB20.out.cell 1
                simp only [List.getElem?_cons_zero, List.getElem?_cons_succ] at b1 b2
                clear hlc hrc hwt ka hgl HWl HBl HPl p1 p2 hw20 hgs e5
                go_wp2_with fail
                go_still_tail 11, (by kernel_rfl)
                change wpList _ _ _ _ _ w20.drew
                have hdr := (Keeps.refl [] w20).drew
                have HWd := Lib.hid (HW20.out.keeps hdr (by simp))
                have HBd := Lib.hid (HBl20.out.trans (below_lower hdr.below (Nat.le_of_lt HW20.out.lt)))
                have HPd := Lib.hid HPl20.out.drew
                have HB2 := Lib.hid (HB20.out.keeps hdr (by simp))
                clear hdr HW20 HBl20 HPl20 HB20 b1 b2 hlc' hrc' hwt'
                go_wp2_with fail
                refine (put_calls _ g _ y M HWd.out hy0 hy1 (by omega) HX0.out (by have := HBL4.out; have := HSL2.out; simp only [List.length_append]; omega)).mono ?_
                rintro _ w21 ⟨rfl, hw21, hb21, hp21⟩
                rw [HVB.out] at hw21
                have HW21 := Lib.hid hw21
                have HB21 := Lib.hid (HBd.out.trans hb21)
                have HP21 := Lib.hid (HPd.out.trans hp21)
                have HB22 : Hid (Blk w21 gs 31 [.int .i64 (j : Int), .int .i64 x]) := Lib.hid (by
                  have h := HB2.out
                  refine (hp21.same gs h.lt hggs (fun ⟨c, f, hc⟩ => ?_)).trans h
                  have h2 : w20.drew.heap[gs]? = _ := h
                  rw [h2] at hc
                  injection hc with hc
                  injection hc with _ h2 _
                  exact absurd h2 (by decide))
                have hwt2 := (HTp.out.below HB21.out hg).wid.cell _ _ rfl j (by omega)
                rw [Nat.zero_add, wN_tab j hj19, HWN.out] at hwt2
                have b1 := HB22.out.cell 0
                have b2 := HB22.out.cell 1
                simp only [List.getElem?_cons_zero, List.getElem?_cons_succ] at b1 b2
                clear hw21 hb21 hp21 HWd HBd HPd HB2 HB22
                go_wp2_with fail
                go_still_tail 8, (by kernel_rfl)
                change wpList _ _ _ _ _ w21.drew
                have hdr := (Keeps.refl [] w21).drew
                have HWd := Lib.hid (HW21.out.keeps hdr (by simp))
                have HBd := Lib.hid (HB21.out.trans (below_lower hdr.below (Nat.le_of_lt HW21.out.lt)))
                have HPd := Lib.hid HP21.out.drew
                clear hdr HW21 HB21 HP21 b1 b2 hwt2
                go_wp2_with fail
                refine (put_calls _ g _ x W HWd.out s2 (by omega) (by omega) HX1.out (by have := HBL4.out; have := HSL2.out; simp only [List.length_append, msbF_len]; omega)).mono ?_
                rintro _ w22 ⟨rfl, hw22, hb22, hp22⟩
                have HW22 : Hid (Wtr w22 g (bl4 ++ stepsB cd (st.take (p + 1)))) := Lib.hid (by rw [HST2.out]; simpa only [List.append_assoc] using hw22)
                have HB22 := Lib.hid (HBd.out.trans hb22)
                have HP22 := Lib.hid (HPd.out.trans hp22)
                clear hw22 hb22 hp22 HWd HBd HPd
                go_wp2_with fail
                go_roundw
                case rel => exact ⟨p + 1, by omega, by go_num, HW22, HB22, HP22⟩
                case measure => simp [intOf]; omega
              · obtain rfl : p = i := by omega
                have e5 : decide (p < p) = false := by simp
                go_wp2_with fail
                go_ret
                have h := HWl.out
                rw [← HKK.out, List.take_length, ← HHE.out] at h
                exact .inl ⟨HM.out, rfl, h, (below_lower KP.out.below (Nat.le_of_lt hgt)).trans HBl.out, (PT.of_keeps KP.out).trans HPl.out⟩
theorem any_range {xs : List Int} (h : anyBad xs = false) : ∀ x ∈ xs, 0 ≤ x ∧ x ≤ 15 := by
  intro x hx
  have := List.any_eq_false.1 h x hx
  simp [badLen] at this
  omega
set_option maxRecDepth 100000 in
set_option maxHeartbeats 4000000 in
theorem write_bad (w : World) (g : Nat) (bl : List Int) (A1 A2 : Option Addr) (n1 n2 c1 c2 : Nat) (lit dist : List Int) 
    (hx : RI .i64 w A1 n1 lit) (hy : RI .i64 w A2 n2 dist) (hm : ¬ MayW lit dist) :
    Calls Tryd.prog 44 #[.pointer (some ⟨g, 0, none⟩), .slice A1 n1 c1, .slice A2 n2 c2] w (Wrote w g bl lit dist) := by
  have HM := Lib.hid hm
  have HX := Lib.hid hx
  have HY := Lib.hid hy
  have HL1 : Hid (lit.length = n1) := Lib.hid hx.len
  have HL2 : Hid (dist.length = n2) := Lib.hid hy.len
  clear hx hy hm
  go_enter Tryd.func44, Tryd.ntmps44
  by_cases h1 : n1 < 257
  · have e1 : decide (n1 < 257) = true := by simpa using h1
    have e1' : decide ((n1 : Int) < 257) = true := by simp; omega
    go_wp2_with fail
    go_ret
    exact .inr ⟨HM.out, rfl, Below.refl _ _⟩
  have e1 : decide (n1 < 257) = false := by simpa using h1
  have e1' : decide ((n1 : Int) < 257) = false := by simp; omega
  by_cases h2 : 286 < n1
  · have e2 : decide (286 < n1) = true := by simpa using h2
    have e2' : decide ((286 : Int) < (n1 : Int)) = true := by simp; omega
    go_wp2_with fail
    go_ret
    exact .inr ⟨HM.out, rfl, Below.refl _ _⟩
  have e2 : decide (286 < n1) = false := by simpa using h2
  have e2' : decide ((286 : Int) < (n1 : Int)) = false := by simp; omega
  by_cases h3 : n2 < 1
  · have e3 : decide (n2 < 1) = true := by simpa using h3
    have e3' : decide ((n2 : Int) < 1) = true := by simp; omega
    have e3'' : n2 = 0 := by omega
    go_wp2_with fail
    go_ret
    exact .inr ⟨HM.out, rfl, Below.refl _ _⟩
  have e3 : decide (n2 < 1) = false := by simpa using h3
  have e3' : decide ((n2 : Int) < 1) = false := by simp; omega
  by_cases h4 : 30 < n2
  · have e4 : decide (30 < n2) = true := by simpa using h4
    have e4' : decide ((30 : Int) < (n2 : Int)) = true := by simp; omega
    go_wp2_with fail
    go_ret
    exact .inr ⟨HM.out, rfl, Below.refl _ _⟩
  have e4 : decide (30 < n2) = false := by simpa using h4
  have e4' : decide ((30 : Int) < (n2 : Int)) = false := by simp; omega
  go_wp2_with fail
  refine (lengths_calls _ _ _ _ lit HX.out (by omega)).mono ?_
  rintro _ wa ⟨rfl, hd1⟩
  have K1 := Lib.hid (hd1.keeps (S := []))
  clear hd1
  cases hb1 : anyBad lit with
  | true =>
    have HB1 := Lib.hid hb1
    clear hb1
    go_wp2_with fail
    go_ret
    exact .inr ⟨HM.out, rfl, K1.out.below⟩
  | false =>
    have HB1 := Lib.hid hb1
    clear hb1
    go_wp2_with fail
    refine (lengths_calls _ _ _ _ dist (HY.out.keeps K1.out (off_nil _)) (by omega)).mono ?_
    rintro _ wb ⟨rfl, hd1⟩
    have K2 := Lib.hid (K1.out.trans (hd1.keeps (S := [])))
    clear hd1 K1
    cases hb2 : anyBad dist with
    | true =>
      have HB2 := Lib.hid hb2
      clear hb2
      go_wp2_with fail
      go_ret
      exact .inr ⟨HM.out, rfl, K2.out.below⟩
    | false =>
      exfalso
      have := HL1.out
      have := HL2.out
      exact HM.out ⟨by omega, by omega, by omega, by omega, any_range HB1.out, any_range hb2⟩
theorem write_calls (w : World) (g : Nat) (bl : List Int) (A1 A2 : Option Addr) (n1 n2 c1 c2 : Nat) (lit dist : List Int) (hT : Tabs w) (hg : gtop ≤ g) (hw : Wtr w g bl) (hb : bl.length ≤ 50000000)
    (hx : RI .i64 w A1 n1 lit) (hy : RI .i64 w A2 n2 dist) :
    Calls Tryd.prog 44 #[.pointer (some ⟨g, 0, none⟩), .slice A1 n1 c1, .slice A2 n2 c2] w (Wrote w g bl lit dist) := by
  by_cases hm : MayW lit dist
  · exact write_good w g bl A1 A2 n1 n2 c1 c2 lit dist hT hg hw hb hx hy hm
  · exact write_bad w g bl A1 A2 n1 n2 c1 c2 lit dist hx hy hm
end Go.Proofs.YtcblibefmclloaaDoor

set_option linter.unusedVariables false
set_option linter.unusedSimpArgs false
namespace Go.Proofs.YtcblibefmclloaaDoor
open Go.RowKit
def saidV : Option (Int × Nat) → Value
  | some (v, k) => .tuple #[.int .i64 v, .int .i64 k, .bool true]
  | none => .tuple #[.int .i64 0, .int .i64 0, .bool false]
theorem saidV_none {r : Option (Int × Nat)} (h : r = none) : Ending.returned (.tuple #[.int .i64 0, .int .i64 0, .bool false]) = .returned (saidV r) := by rw [h]; rfl
theorem saidV_some {r : Option (Int × Nat)} {v ki : Int} {k : Nat} (h : r = some (v, k)) (hk : ki = k) : Ending.returned (.tuple #[.int .i64 v, .int .i64 ki, .bool true]) = .returned (saidV r) := by rw [h, hk]; rfl
set_option maxRecDepth 100000 in
set_option maxHeartbeats 1000000 in
theorem says_none (w : World) (len c : Nat) (A : Option Addr) (l : List Int) (sym extra : Int)
    (hs : sym < 0 ∨ 18 < sym ∨ (0 ≤ sym ∧ sym ≤ 15 ∧ (extra == 0) = false) ∨ (sym = 16 ∧ extra < 0) ∨ (sym = 16 ∧ 0 ≤ extra ∧ 3 < extra) ∨ (sym = 17 ∧ extra < 0) ∨ (sym = 17 ∧ 0 ≤ extra ∧ 7 < extra) ∨ (sym = 18 ∧ extra < 0) ∨ (sym = 18 ∧ 0 ≤ extra ∧ 127 < extra)) :
    Calls Tryd.prog 78 #[.agg #[.int .i64 sym, .int .i64 extra], .slice A len c] w fun e w' => e = .returned (saidV (sayF l sym extra)) ∧ Keeps [] w w' := by
  have hr : sayF l sym extra = none := by
    rcases hs with h | h | ⟨h1, h2, h3⟩ | ⟨rfl, h⟩ | ⟨rfl, _, h⟩ | ⟨rfl, h⟩ | ⟨rfl, _, h⟩ | ⟨rfl, h⟩ | ⟨rfl, _, h⟩
    · exact sayF_lit_none (by omega) (Or.inl h)
    · exact sayF_big h
    · exact sayF_lit_none h2 (Or.inr (by simpa using h3))
    · exact sayF_16_none (Or.inl h)
    · exact sayF_16_none (Or.inr (Or.inl h))
    · exact sayF_17_none (Or.inl h)
    · exact sayF_17_none (Or.inr h)
    · exact sayF_18_none (Or.inl h)
    · exact sayF_18_none (Or.inr h)
  have HRR := Lib.hid hr
  clear hr
  rcases hs with h | h | ⟨h1, h2, h3⟩ | ⟨rfl, h⟩ | ⟨rfl, h0, h⟩ | ⟨rfl, h⟩ | ⟨rfl, h0, h⟩ | ⟨rfl, h⟩ | ⟨rfl, h0, h⟩
  case' inl =>
    have e1 : (sym == 16) = false := by simp; omega
    have e2 : (sym == 17) = false := by simp; omega
    have e3 : (sym == 18) = false := by simp; omega
  case' inr.inl =>
    have e1 : (sym == 16) = false := by simp; omega
    have e2 : (sym == 17) = false := by simp; omega
    have e3 : (sym == 18) = false := by simp; omega
  case' inr.inr.inl =>
    have e1 : (sym == 16) = false := by simp; omega
    have e2 : (sym == 17) = false := by simp; omega
    have e3 : (sym == 18) = false := by simp; omega
  all_goals
    go_enter Tryd.func78, Tryd.ntmps78
    go_wp2
    go_ret3
    exact ⟨saidV_none HRR.out, by repeat (first | exact Keeps.refl _ _ | apply Keeps.drewN | apply Keeps.drew | apply Keeps.alloc)⟩
set_option maxRecDepth 100000 in
set_option maxHeartbeats 1000000 in
theorem says_none16 (w : World) (c : Nat) (A : Option Addr) (extra : Int) (h0 : 0 ≤ extra) (h3 : extra ≤ 3) :
    Calls Tryd.prog 78 #[.agg #[.int .i64 16, .int .i64 extra], .slice A 0 c] w fun e w' => e = .returned (saidV (sayF [] 16 extra)) ∧ Keeps [] w w' := by
  have HRR := Lib.hid (sayF_16_none (l := []) (extra := extra) (Or.inr (Or.inr rfl)))
  go_enter Tryd.func78, Tryd.ntmps78
  go_wp2
  go_ret3
  exact ⟨saidV_none HRR.out, by repeat (first | exact Keeps.refl _ _ | apply Keeps.drewN | apply Keeps.drew | apply Keeps.alloc)⟩
set_option maxRecDepth 100000 in
set_option maxHeartbeats 1000000 in
theorem says_lit (w : World) (len c : Nat) (A : Option Addr) (l : List Int) (sym : Int) (h0 : 0 ≤ sym) (h15 : sym ≤ 15) :
    Calls Tryd.prog 78 #[.agg #[.int .i64 sym, .int .i64 0], .slice A len c] w fun e w' => e = .returned (saidV (sayF l sym 0)) ∧ Keeps [] w w' := by
  have HRR := Lib.hid (sayF_lit (l := l) h0 h15)
  go_enter Tryd.func78, Tryd.ntmps78
  go_wp2
  go_ret3
  exact ⟨saidV_some HRR.out rfl, by repeat (first | exact Keeps.refl _ _ | apply Keeps.drewN | apply Keeps.drew | apply Keeps.alloc)⟩
set_option maxRecDepth 100000 in
set_option maxHeartbeats 1000000 in
theorem says_16 (w : World) (len c : Nat) (A : Option Addr) (l : List Int) (extra : Int) (hl : RI .i64 w A len l) (hp : 0 < len) (hn : len ≤ 1000000) (h0 : 0 ≤ extra) (h3 : extra ≤ 3) :
    Calls Tryd.prog 78 #[.agg #[.int .i64 16, .int .i64 extra], .slice A len c] w fun e w' => e = .returned (saidV (sayF l 16 extra)) ∧ Keeps [] w w' := by
  have hll := hl.len
  have HRR := Lib.hid (sayF_16 (l := l) h0 h3 (by rintro rfl; simp at hll; omega))
  obtain ⟨b, o, rfl, hlast⟩ := hl.at (show len - 1 < len by omega)
  have hlast' := fun ob => ((Keeps.refl [] w).alloc ob).cell (by simp) hlast
  have HE : Hid (nth l (len - 1) = l.getD (l.length - 1) 0) := by rw [hll]; rfl
  have e2 : IntKind.i64.wrap ((len : Int) - 1) = (len : Int) - 1 := IntWalk.i64_in _ (by omega)
  have e3 : IntKind.i64.wrap (extra + 3) = extra + 3 := IntWalk.i64_in _ (by omega)
  have e7 : (0 : Int) ≤ (len : Int) - 1 := by omega
  have e8 : ((len : Int) - 1).toNat = len - 1 := by omega
  clear hlast hl hll
  go_enter Tryd.func78, Tryd.ntmps78
  go_wp2
  go_quiet (fail)
  go_wp2
  go_ret3
  rw [HE.out]
  exact ⟨saidV_some HRR.out (by omega), by repeat (first | exact Keeps.refl _ _ | apply Keeps.drewN | apply Keeps.drew | apply Keeps.alloc)⟩
set_option maxRecDepth 100000 in
set_option maxHeartbeats 1000000 in
theorem says_17 (w : World) (len c : Nat) (A : Option Addr) (l : List Int) (extra : Int) (h0 : 0 ≤ extra) (h3 : extra ≤ 7) :
    Calls Tryd.prog 78 #[.agg #[.int .i64 17, .int .i64 extra], .slice A len c] w fun e w' => e = .returned (saidV (sayF l 17 extra)) ∧ Keeps [] w w' := by
  have HRR := Lib.hid (sayF_17 (l := l) h0 h3)
  have e3 : IntKind.i64.wrap (extra + 3) = extra + 3 := IntWalk.i64_in _ (by omega)
  go_enter Tryd.func78, Tryd.ntmps78
  go_wp2
  go_quiet (fail)
  go_wp2
  go_ret3
  exact ⟨saidV_some HRR.out (by omega), by repeat (first | exact Keeps.refl _ _ | apply Keeps.drewN | apply Keeps.drew | apply Keeps.alloc)⟩
set_option maxRecDepth 100000 in
set_option maxHeartbeats 1000000 in
theorem says_18 (w : World) (len c : Nat) (A : Option Addr) (l : List Int) (extra : Int) (h0 : 0 ≤ extra) (h3 : extra ≤ 127) :
    Calls Tryd.prog 78 #[.agg #[.int .i64 18, .int .i64 extra], .slice A len c] w fun e w' => e = .returned (saidV (sayF l 18 extra)) ∧ Keeps [] w w' := by
  have HRR := Lib.hid (sayF_18 (l := l) h0 h3)
  have e3 : IntKind.i64.wrap (extra + 11) = extra + 11 := IntWalk.i64_in _ (by omega)
  go_enter Tryd.func78, Tryd.ntmps78
  go_wp2
  go_quiet (fail)
  go_wp2
  go_ret3
  exact ⟨saidV_some HRR.out (by omega), by repeat (first | exact Keeps.refl _ _ | apply Keeps.drewN | apply Keeps.drew | apply Keeps.alloc)⟩
theorem says_calls (w : World) (len c : Nat) (A : Option Addr) (l : List Int) (sym extra : Int) (hl : RI .i64 w A len l) (hn : len ≤ 1000000) :
    Calls Tryd.prog 78 #[.agg #[.int .i64 sym, .int .i64 extra], .slice A len c] w fun e w' => e = .returned (saidV (sayF l sym extra)) ∧ Keeps [] w w' := by
  by_cases hs : sym < 0 ∨ 18 < sym ∨ (0 ≤ sym ∧ sym ≤ 15 ∧ (extra == 0) = false) ∨ (sym = 16 ∧ extra < 0) ∨ (sym = 16 ∧ 0 ≤ extra ∧ 3 < extra) ∨ (sym = 17 ∧ extra < 0) ∨ (sym = 17 ∧ 0 ≤ extra ∧ 7 < extra) ∨ (sym = 18 ∧ extra < 0) ∨ (sym = 18 ∧ 0 ≤ extra ∧ 127 < extra)
  · exact says_none w len c A l sym extra hs
  · rcases (by omega : 0 ≤ sym ∧ sym ≤ 15 ∨ sym = 16 ∨ sym = 17 ∨ sym = 18) with ⟨h0, h1⟩ | rfl | rfl | rfl
    · have hx : extra = 0 := by
        by_cases h : extra = 0
        · exact h
        · exact absurd (Or.inr (Or.inr (Or.inl ⟨h0, h1, by simpa using h⟩))) hs
      subst hx
      exact says_lit w len c A l sym h0 h1
    · by_cases hp : 0 < len
      · exact says_16 w len c A l extra hl hp hn (by omega) (by omega)
      · obtain rfl : len = 0 := by omega
        obtain rfl : l = [] := List.eq_nil_of_length_eq_zero hl.len
        exact says_none16 w c A extra (by omega) (by omega)
    · exact says_17 w len c A l extra (by omega) (by omega)
    · exact says_18 w len c A l extra (by omega) (by omega)
end Go.Proofs.YtcblibefmclloaaDoor

set_option linter.unusedVariables false
set_option linter.unusedSimpArgs false
namespace Go.Proofs.YtcblibefmclloaaDoor
open Go.RowKit
/-- 's = append(s, ys...)' of numbers, whatever slice the source is. -/
theorem app_any {ops : Array Oper} {rest : List Oper} {o : Oper} {a : Act} {Q : Exit → Act → World → Prop} {w : World} (hgd : o.guard = none) (s x : Operand)
    (ho : o.op = .call { callee := .builtin .append, args := #[s, x], argTypes := #[22, 22] })
    (base : Nat) (v : Value) (n : Nat) (xs : List Int) (hs : a.eval s = v) (hown : w.ownsRow base 3 1 v n (ints .i64 xs))
    (A : Option Addr) (m c : Nat) (ys : List Int) (hx : a.eval x = .slice A m c) (hy : RI .i64 w A m ys) (hnil : A = none → m = 0 ∧ c = 0) (hpl : ∀ ad, A = some ad → ∃ b o, ad = ⟨b, o, none⟩)
    (hn : n + m ≤ 1000000) (hbase : base ≤ w.heap.size)
    (h : ∀ v' w', w'.ownsRow base 3 1 v' (n + m) (ints .i64 (xs ++ ys)) → w.grownBy w' v.ownBlock → wpList Tryd.prog ops Q rest (a.put o.dst v') w') : wpList Tryd.prog ops Q (o :: rest) a w := by
  obtain ⟨i0, hi, hz0, hz1, hz2⟩ := info_parts info_int
  cases A with
  | none =>
    obtain ⟨rfl, rfl⟩ := hnil rfl
    obtain rfl : ys = [] := List.eq_nil_of_length_eq_zero hy.len
    refine wpList_append_own_none hgd s x 22 ho base 3 i0 1 Tryd.underlying22 hi v n (ints .i64 xs) hs hown hx ?_
    exact h v w (by simpa using hown) ⟨rfl, rfl, rfl, Nat.le_refl _, fun _ _ _ => rfl⟩
  | some ad =>
    obtain ⟨b, of, rfl⟩ := hpl ad rfl
    refine wpList_append_own _ hgd s x 22 ho base 3 i0 (.int .i64 0) 1 8 Tryd.underlying22 hi hz0 hz1 hz2 rfl (by decide) v n (ints .i64 xs) hs hown ⟨b, of, none⟩ m c (ints .i64 ys) hx (by simp [ints, hy.len]) ?_ (ints_one _ _) (by unfold maxLen; omega) (by omega) hbase ?_
    · intro j u hu
      have hj : j < m := by have := (List.getElem?_eq_some_iff.1 hu).1; have := hy.len; simp [ints] at *; omega
      rw [add_plain2]
      have hc := hy.cell b of rfl j hj
      rw [hc, ← hu, ints_getElem?]
      simp [nth, List.getD, show j < ys.length by have := hy.len; omega]
    · intro v' w' h2 h3 _
      have e : ints .i64 (xs ++ ys) = ints .i64 xs ++ ints .i64 ys := by simp [ints]
      rw [e] at h
      exact h v' w' h2 h3
/-- What adding a step answers by the document. -/
def WithV (w : World) (r : Option (List Int)) (e : Ending) (w' : World) : Prop :=
  match r with
  | some l => ∃ v, e = .returned (.tuple #[v, .int .i64 0]) ∧ w'.ownsRow w.heap.size 3 1 v l.length (ints .i64 l) ∧ Below w.heap.size w w'
  | none => e = .returned (.tuple #[.slice none 0 0, .int .i64 41]) ∧ Below w.heap.size w w'
theorem new_ri (w : World) (t : TypeId) (v : Int) : RI .i64 (w.alloc (.cells #[.int .i64 v] t)) (some ⟨w.heap.size, 0, none⟩) 1 [v] := by
  have h : Blk (w.alloc (.cells (ints .i64 [v]).toArray t (0, 0))) w.heap.size t (ints .i64 ([v] ++ [])) := blk_new w t _
  exact h.ri
set_option maxRecDepth 100000 in
set_option maxHeartbeats 1000000 in
theorem with_calls (w : World) (len c : Nat) (A : Option Addr) (l : List Int) (sym extra n : Int) (hl : RI .i64 w A len l) (hn : len ≤ 1000) (hnil : A = none → len = 0 ∧ c = 0) (hpl : ∀ ad, A = some ad → ∃ b o, ad = ⟨b, o, none⟩) :
    Calls Tryd.prog 57 #[.slice A len c, .agg #[.int .i64 sym, .int .i64 extra], .int .i64 n] w (WithV w (addF l sym extra n)) := by
  have HL := Lib.hid hl
  have HNIL := Lib.hid hnil
  have HPL := Lib.hid hpl
  clear hl hnil hpl
  go_enter Tryd.func57, Tryd.ntmps57
  go_wp2_with fail
  refine (says_calls _ _ _ _ l _ _ (HL.out.keeps ((Keeps.refl _ _).alloc _) (off_nil _)) (by omega)).mono ?_
  rintro e w1 ⟨rfl, hk⟩
  have HK := Lib.hid ((Keeps.refl [] w).alloc _ |>.trans hk)
  clear hk
  cases hs : sayF l sym extra with
  | none =>
    have HR := Lib.hid (addF_none (n := n) hs)
    rw [saidV]
    clear hs
    go_wp2_with fail
    go_ret2
    rw [HR.out]
    exact ⟨rfl, HK.out.below⟩
  | some p =>
    obtain ⟨v, k⟩ := p
    have hkp := sayF_pos hs
    have HS := Lib.hid hs
    rw [saidV]
    clear hs
    by_cases hm : n < (len : Int) + (k : Int)
    · have HR := Lib.hid (addF_many (n := n) HS.out (by have := HL.out.len; omega))
      go_wp2_with fail
      go_ret2
      rw [HR.out]
      exact ⟨rfl, HK.out.below⟩
    · have HR := Lib.hid (addF_some (n := n) HS.out (by have := HL.out.len; omega))
      have hsz := HK.out.size
      go_wp2_with (at_builtin; refine app_any rfl (.tmp 30) (.tmp 31) rfl w.heap.size _ _ [] rfl (World.ownsRow_nil _ _ _ _) A len c l rfl (HL.out.keeps HK.out (off_nil _)) HNIL.out HPL.out (by omega) hsz ?_)
      intro v1 w2 h1 hg1
      have H1 := Lib.hid h1
      have HB1 := Lib.hid (HK.out.below.grown hg1 hsz (fun k hk => by simp [Value.ownBlock] at hk))
      clear h1 hg1
      go_wp2_with fail
      go_loopw [11, 12] (fun u i wr => ∃ j : Nat, j ≤ k ∧ i = .int .i64 j ∧ Hid (wr.ownsRow w.heap.size 3 1 u (len + j) (ints .i64 (l ++ List.replicate j v))) ∧ Hid (Below w.heap.size w wr)) (fun _ i _ => k - (intOf i).toNat)
      case atStart => exact ⟨0, by omega, rfl, Lib.hid (by simpa using H1.out), HB1⟩
      case round =>
        clear H1 HB1
        obtain ⟨j, hj, rfl, HO, HW⟩ := hrel
        have hsz2 := HW.out.size
        by_cases hlt : j < k
        · go_wp2_with (at_builtin; refine app_ints rfl (.tmp 38) (.tmp 40) rfl w.heap.size _ _ _ rfl (HO.out.alloc _) wr.heap.size 1 1 [v] rfl (new_ri _ _ _) (by omega) (by simp; omega) ?_)
          intro v1 w2 h1 hg1
          have H1 := Lib.hid h1
          have HB1 := Lib.hid ((HW.out.alloc (by omega) _).grown hg1 (by simp; omega) (fun k hk => (HO.out.lt k hk).1))
          clear h1 hg1 HO HW
          go_wp2_with fail
          go_roundw
          case rel => exact ⟨j + 1, by omega, by go_num, Lib.hid (by rw [List.replicate_succ']; simpa [Nat.add_assoc] using H1.out), HB1⟩
          case measure => simp [intOf]; omega
        · obtain rfl : j = k := by omega
          go_wp2_with fail
          go_ret2
          rw [HR.out]
          refine ⟨_, rfl, ?_, HW.out⟩
          rw [show (l ++ List.replicate j v).length = len + j by have := HL.out.len; simp; omega]
          exact HO.out
end Go.Proofs.YtcblibefmclloaaDoor

set_option linter.unusedVariables false
set_option linter.unusedSimpArgs false
namespace Go.Proofs.YtcblibefmclloaaDoor
open Go.RowKit
def sLen : Value → Nat
  | .slice _ n _ => n
  | _ => 0
set_option maxRecDepth 100000 in
set_option maxHeartbeats 400000 in
theorem cloneI_calls (w : World) (A : Option Addr) (n c : Nat) (xs : List Int) (hx : RI .i64 w A n xs) (hnil : A = none → n = 0 ∧ c = 0) (hpl : ∀ ad, A = some ad → ∃ b o, ad = ⟨b, o, none⟩) (hn : n ≤ 100000) :
    Calls Tryd.prog 82 #[.slice A n c] w fun e w' => ∃ v, e = .returned v ∧ w'.ownsRow w.heap.size 3 1 v n (ints .i64 xs) ∧ Below w.heap.size w w' := by
  have HX := Lib.hid hx
  have HP := Lib.hid hpl
  clear hx hpl
  go_enter Tryd.func82, Tryd.ntmps82
  cases A with
  | none =>
    obtain ⟨rfl, rfl⟩ := hnil rfl
    obtain rfl : xs = [] := List.eq_nil_of_length_eq_zero HX.out.len
    have hq := fun w => Lib.run_eql_slice_nil (P := Tryd.prog) w 22 3 none 0 0 0 0 Tryd.underlying22
    go_wp2_with fail
    go_ret
    exact ⟨_, rfl, World.ownsRow_nil _ _ _ _, Below.refl _ _⟩
  | some ad =>
    obtain ⟨b, o, rfl⟩ := HP.out ad rfl
    have hq := fun w => Lib.run_eql_slice_nil (P := Tryd.prog) w 22 3 (some ⟨b, o, none⟩) n c 0 0 Tryd.underlying22
    have HO : Hid ((w.alloc (.cells #[] 3)).ownsRow w.heap.size 3 1 (.slice (some ⟨w.heap.size, 0, none⟩) 0 0) 0 (ints .i64 [])) := Lib.hid (World.ownsRow_lit w #[] 0 (Nat.le_refl _) (by decide) rfl)
    have HR := Lib.hid (HX.out.keeps ((Keeps.refl [] w).alloc (.cells #[] 3)) (off_nil _))
    go_wp2_with (at_builtin; refine app_any rfl (.tmp 5) (.tmp 6) rfl w.heap.size _ _ [] rfl (by exact HO.out) (some ⟨b, o, none⟩) n c xs rfl (by exact HR.out) (by simp) (by intro ad h; exact ⟨_, _, (Option.some.inj h).symm⟩) (by omega) (by simp) ?_)
    intro v1 w1 ho1 hg1
    have HB1 := Lib.hid ((((Below.refl w.heap.size w).alloc (Nat.le_refl _) (.cells #[] 3))).grown hg1 (by simp) (fun k hk => (HO.out.lt k hk).1))
    have HO1 := Lib.hid ho1
    clear ho1 hg1
    go_wp2_with fail
    go_ret
    exact ⟨_, rfl, by simpa using HO1.out, HB1.out⟩
end Go.Proofs.YtcblibefmclloaaDoor

set_option linter.unusedVariables false
set_option linter.unusedSimpArgs false
namespace Go.Proofs.YtcblibefmclloaaDoor
open Go.RowKit
theorem own_full {w : World} {base : Nat} {e : TypeId} {v : Value} {n : Nat} {k : IntKind} {xs : List Int} (h : w.ownsRow base e 1 v n (ints k xs)) :
    ∃ A c, v = .slice A n c ∧ RI k w A n xs ∧ n ≤ c ∧ (A = none → n = 0 ∧ c = 0) ∧ (∀ ad, A = some ad → ∃ b o, ad = ⟨b, o, none⟩) ∧ (∀ a, A = some a → base ≤ a.block ∧ a.block < w.heap.size) := by
  obtain ⟨A, c, rfl, h1, h2, h3⟩ := own_ri h
  refine ⟨A, c, rfl, h1, h2, ?_, ?_, fun a ha => ⟨(h3 a ha).1, (h3 a ha).2.1⟩⟩
  · rintro rfl
    rcases h.2 with ⟨h4, h5⟩ | ⟨g, cap, cur, h4, _⟩
    · injection h4 with _ _ h6
      exact ⟨h5, h6⟩
    · injection h4 with h6; cases h6
  · rintro ad rfl
    rcases h.2 with ⟨h4, h5⟩ | ⟨g, cap, cur, h4, _⟩
    · injection h4 with h6; cases h6
    · injection h4 with h6; injection h6 with h7; exact ⟨g, 0, h7⟩
set_option maxRecDepth 100000 in
set_option maxHeartbeats 1000000 in
theorem refUnpack_calls (w : World) (A : Option Addr) (m c : Nat) (xs : List (Int × Int)) (n : Int) (hx : RP w A m xs) (hm : m ≤ 140737488355328) :
    Calls Tryd.prog 22 #[.slice A m c, .int .i64 n] w (Unpacked w (unpackF xs n)) := by
  have HX := Lib.hid hx
  clear hx
  by_cases h0 : n < 0
  · have e1 : decide (n < 0) = true := by simpa using h0
    go_enter Tryd.func22, Tryd.ntmps22
    go_wp2_with fail
    go_ret2
    exact unpacked_nil _ _ _ _ (unpackF_arg (Or.inl h0)) (Below.refl _ _)
  · have e1 : decide (n < 0) = false := by simpa using h0
    by_cases h1 : 316 < n
    · have e2 : decide (316 < n) = true := by simpa using h1
      go_enter Tryd.func22, Tryd.ntmps22
      go_wp2_with fail
      go_ret2
      exact unpacked_nil _ _ _ _ (unpackF_arg (Or.inr h1)) (Below.refl _ _)
    · have e2 : decide (316 < n) = false := by simpa using h1
      go_enter Tryd.func22, Tryd.ntmps22
      go_wp2_with fail
      clear e1 e2
      go_loopw [6, 7] (fun u i wr => ∃ (k : Nat) (l : List Int), k ≤ m ∧ i = .int .i64 k ∧ (l.length : Int) ≤ n ∧ Hid (wr.ownsRow w.heap.size 3 1 u l.length (ints .i64 l)) ∧ Hid (unpackTo [] xs n = unpackTo l (xs.drop k) n) ∧ Hid (Below w.heap.size w wr)) (fun _ i _ => m - (intOf i).toNat)
      case atStart => exact ⟨0, [], by omega, rfl, by simp; omega, Lib.hid (World.ownsRow_nil _ _ _ _), Lib.hid (by simp), Lib.hid (Below.refl _ _)⟩
      case round =>
        obtain ⟨k, l, hk, rfl, hl, HO, HP, HW⟩ := hrel
        by_cases hlt : k < m
        · obtain ⟨b, o, rfl⟩ := HX.out.hd (by omega)
          obtain ⟨c1, c2⟩ := HX.out.cell b o rfl k hlt
          have hd := pth_drop (show k < xs.length by have := HX.out.len; omega)
          have c1' := (Keeps.of_below (S := []) HW.out).cell (by simp) c1
          have c2' := (Keeps.of_below (S := []) HW.out).cell (by simp) c2
          have HD := Lib.hid hd
          clear c1 c2 hd
          have hsz := HW.out.size
          obtain ⟨A1, cc, rfl, hri, hcap, hnil, hpl, hblk⟩ := own_full HO.out
          have HRI := Lib.hid hri
          have HN := Lib.hid hnil
          have HPL := Lib.hid hpl
          clear hri hblk hcap hnil hpl
          go_wp2_with fail
          refine (with_calls _ _ _ _ l _ _ n HRI.out (by omega) HN.out HPL.out).mono ?_
          intro e w2 ha
          have hp := HP.out
          rw [HD.out] at hp
          cases hadd : addF l (pth xs k).1 (pth xs k).2 n with
          | none =>
            rw [hadd] at ha
            obtain ⟨rfl, hb⟩ := ha
            rw [unpackTo_stop hadd] at hp
            have HP2 := Lib.hid hp
            have HB := Lib.hid (HW.out.trans (hb.mono hsz))
            clear hp hb hadd
            go_wp2_with fail
            go_ret2
            exact unpacked_nil _ _ _ _ (unpackF_none (by omega) (by omega) HP2.out) HB.out
          | some l' =>
            rw [hadd] at ha
            obtain ⟨v', rfl, ho, hb⟩ := ha
            rw [unpackTo_cons hadd] at hp
            have hlen := addF_len hadd
            have HP2 := Lib.hid hp
            have HB := Lib.hid (HW.out.trans (hb.mono hsz))
            have HO2 := Lib.hid (ho.mono hsz)
            clear hp hb hadd ho
            go_wp2_with fail
            go_roundw
            case rel => exact ⟨k + 1, l', by omega, by go_num, hlen.2, HO2, HP2, HB⟩
            case measure => simp [intOf]; omega
        · obtain rfl : k = m := by omega
          have hp := HP.out
          rw [List.drop_eq_nil_of_le (by have := HX.out.len; omega), unpackTo] at hp
          have HP2 := Lib.hid hp
          clear hp
          obtain ⟨A1, cc, rfl, hri, hcap, hblk⟩ := own_ri HO.out
          clear hri hcap hblk
          by_cases hfew : (l.length : Int) < n
          · have e5 : decide ((l.length : Int) < n) = true := by simpa using hfew
            go_wp2_with fail
            go_ret2
            exact unpacked_nil _ _ _ _ (unpackF_few (by omega) (by omega) HP2.out hfew) HW.out
          · have e5 : decide ((l.length : Int) < n) = false := by simpa using hfew
            go_wp2_with fail
            go_ret2
            rw [unpackF_ok (by omega) (by omega) HP2.out (by omega)]
            exact ⟨_, rfl, HO.out, HW.out⟩
end Go.Proofs.YtcblibefmclloaaDoor

set_option linter.unusedVariables false
set_option linter.unusedSimpArgs false
namespace Go.Proofs.YtcblibefmclloaaDoor
open Go.RowKit
/-- Reading bits, whatever has gone wrong before. -/
def TookP (w : World) (rb eb g : Nat) (A : Option Addr) (c q n : Nat) (e : Int) (bs : List Int) (r : Ending) (w' : World) : Prop :=
  ∃ (v : Int) (q' : Nat) (e' : Int), r = .returned (.int .i64 v) ∧ Hd w' rb eb g A c bs q' e' ∧ Keeps [g, eb] w w' ∧ 0 ≤ v ∧ v < 256 ∧ q ≤ q' ∧
    ((e = 0 ∧ q + n ≤ 8 * bs.length ∧ e' = 0 ∧ v = numB bs q n ∧ q' = q + n) ∨ ((e ≠ 0 ∨ 8 * bs.length < q + n) ∧ e' = 10))
theorem read1_any (w : World) (rb eb g : Nat) (A : Option Addr) (c q n : Nat) (e : Int) (bs : List Int) (h : Hd w rb eb g A c bs q e) (he : e = 0 ∨ e = 10) (hn : n ≤ 8) :
    Calls Tryd.prog 79 #[.int .i64 n, .pointer (some ⟨rb, 0, none⟩), .pointer (some ⟨eb, 0, none⟩)] w (TookP w rb eb g A c q n e bs) := by
  obtain ⟨n0, n1⟩ := numB_lt bs q n
  have n2 := pow_le8 n hn
  by_cases hf : q + n ≤ 8 * bs.length
  · refine (read1_ok w rb eb g A c bs q n e h (by omega) hf).mono ?_
    rintro r w' ⟨rfl, h1, h2⟩
    refine ⟨_, _, _, rfl, h1, h2, n0, by omega, by omega, ?_⟩
    rcases he with rfl | rfl
    · exact .inl ⟨rfl, hf, rfl, rfl, rfl⟩
    · exact .inr ⟨.inl (by decide), rfl⟩
  · refine (read1_end w rb eb g A c bs q n e h (by omega) (by omega)).mono ?_
    rintro r w' ⟨rfl, h1, h2⟩
    refine ⟨_, _, _, rfl, h1, h2, by omega, by omega, Nat.le_refl _, .inr ⟨.inr (by omega), ?_⟩⟩
    rcases he with rfl | rfl <;> rfl
theorem Keeps.under {S : List Nat} {w w1 w2 : World} {B : Nat} (h : Keeps S w w1) (hb : Below B w1 w2) (hB : w.heap.size ≤ B) : Keeps S w w2 :=
  ⟨hb.os.trans h.os, hb.tape.trans h.tape, hb.output.trans h.output, Nat.le_trans h.size hb.size, fun k hk hs => (hb.block k (by omega)).trans (h.block k hk hs)⟩
theorem Rdr.below {w w' : World} {B g : Nat} {A : Option Addr} {c : Nat} {bs : List Int} {p : Nat} (h : Rdr w g A c bs p) (hb : Below B w w') (hg : g < B) (ha : ∀ a, A = some a → a.block < B) : Rdr w' g A c bs p :=
  ⟨(hb.block g hg).trans h.blk, h.ri.below hb ha, h.off, h.le, h.byte, h.size⟩
theorem codes_moreP {T q q' i p o : Nat} {E E' v : Int} {bs cs : List Int}
    (hcL : cL bs (p + 14) (i + 1) = (cL bs (p + 14) i).set o (numB bs (p + 14 + 3 * i) 3))
    (hI : (p + 14 + 3 * i ≤ T ∧ E = 0 ∧ q = p + 14 + 3 * i ∧ cs = cL bs (p + 14) i) ∨ (T < p + 14 + 3 * i ∧ E = 10))
    (hc : (E = 0 ∧ q + 3 ≤ T ∧ E' = 0 ∧ v = numB bs q 3 ∧ q' = q + 3) ∨ ((E ≠ 0 ∨ T < q + 3) ∧ E' = 10)) :
    (E' = 0 ∨ E' = 10) ∧ ((p + 14 + 3 * (i + 1) ≤ T ∧ E' = 0 ∧ q' = p + 14 + 3 * (i + 1) ∧ cs.set o v = cL bs (p + 14) (i + 1)) ∨ (T < p + 14 + 3 * (i + 1) ∧ E' = 10)) := by
  refine ⟨by omega, ?_⟩
  rcases hI with ⟨a1, rfl, rfl, rfl⟩ | ⟨a1, rfl⟩
  · rcases hc with ⟨_, b1, rfl, rfl, rfl⟩ | ⟨b1, rfl⟩
    · exact .inl ⟨by omega, rfl, by omega, hcL.symm⟩
    · exact .inr ⟨by omega, rfl⟩
  · rcases hc with ⟨b0, _⟩ | ⟨_, rfl⟩
    · exact absurd b0 (by decide)
    · exact .inr ⟨by omega, rfl⟩
theorem keeps_ge {g eb : Nat} {w w1 w2 : World} (h : Keeps [g] w w1) (hk : Keeps [g, eb] w1 w2) (he : w.heap.size ≤ eb) : Keeps [g] w w2 := h.then hk (fun x hx => by
  rcases List.mem_cons.1 hx with rfl | hx
  · exact Or.inl (by simp)
  · rw [List.mem_singleton.1 hx]; exact Or.inr he)
/-- What the head's inner reading is to give. -/
def ReadP (w : World) (g : Nat) (A : Option Addr) (c : Nat) (bs : List Int) (p : Nat) (h : List Int × List Int × Nat × Int) (e : Ending) (w' : World) : Prop :=
  ∃ (v1 v2 : Value) (q : Nat), e = .returned (.tuple #[v1, v2, .int .i64 h.2.2.2]) ∧ w'.ownsRow w.heap.size 3 1 v1 h.1.length (ints .i64 h.1) ∧ w'.ownsRow w.heap.size 3 1 v2 h.2.1.length (ints .i64 h.2.1) ∧
    Rdr w' g A c bs q ∧ p ≤ q ∧ (h.2.2.2 = 0 → q = p + h.2.2.1) ∧ Keeps [g] w w'
theorem readP_err {w w' : World} {g : Nat} {A : Option Addr} {c : Nat} {bs : List Int} {p q : Nat} {h : List Int × List Int × Nat × Int} {e : Int} (hh : h = ([], [], 0, e)) (he : e ≠ 0) (hr : Rdr w' g A c bs q) (hp : p ≤ q) (hk : Keeps [g] w w') :
    ReadP w g A c bs p h (.returned (.tuple #[.slice none 0 0, .slice none 0 0, .int .i64 e])) w' := by
  subst hh
  exact ⟨_, _, q, rfl, World.ownsRow_nil _ _ _ _, World.ownsRow_nil _ _ _ _, hr, hp, fun h => absurd h he, hk⟩
set_option maxRecDepth 100000 in
set_option maxHeartbeats 4000000 in
theorem read_calls (w : World) (g : Nat) (A : Option Addr) (c : Nat) (bs : List Int) (p : Nat) (hT : Tabs w) (hg : gtop ≤ g) (hr : Rdr w g A c bs p) (ha : ∀ a, A = some a → a.block < w.heap.size) :
    Calls Tryd.prog 58 #[.pointer (some ⟨g, 0, none⟩)] w (ReadP w g A c bs p (headF bs p)) := by
  have hglt := hr.lt
  have hple := hr.le
  have hsz := hr.size
  obtain ⟨rb, hrb⟩ : ∃ x, x = w.heap.size := ⟨_, rfl⟩
  obtain ⟨eb, heb⟩ : ∃ x, x = w.heap.size + 1 := ⟨_, rfl⟩
  obtain ⟨w0, hw0⟩ : ∃ w0, w0 = (w.alloc (.cells #[.pointer (some ⟨g, 0, none⟩)] 38)).alloc (.cells #[.int .i64 0] 26) := ⟨_, rfl⟩
  have k1 : Keeps [] w w0 := by rw [hw0]; exact ((Keeps.refl [] w).alloc _).alloc _
  have H0 : Hid (Hd w0 rb eb g A c bs p 0) := by
    rw [hrb, heb, hw0]
    exact Lib.hid ⟨by rw [← hw0]; exact hr.dr k1, ⟨by simp, by simp⟩, ⟨by simp, by simp⟩, by omega, by omega, ha⟩
  have K0 := Lib.hid (k1.mono (by simp) : Keeps [g] w w0)
  have HT := Lib.hid hT
  have HRB : Hid (w.heap.size ≤ rb) := Lib.hid (by omega)
  have HEB : Hid (w.heap.size ≤ eb) := Lib.hid (by omega)
  have HA := Lib.hid ha
  have hre : rb < eb := by omega
  have hgr : g < rb := by omega
  clear hr ha hT k1
  go_enter Tryd.func58, Tryd.ntmps58
  go_wp2_with fail
  change Calls _ _ #[.int .i64 5, .pointer (some ⟨w.heap.size, 0, none⟩), .pointer (some ⟨w.heap.size + 1, 0, none⟩)] ((w.alloc (.cells #[.pointer (some ⟨g, 0, none⟩)] 38)).alloc (.cells #[.int .i64 0] 26)) _
  rw [← hw0, ← heb, ← hrb]
  clear hw0 hrb heb
  refine (read1_any _ _ _ _ _ _ p 5 0 bs H0.out (.inl rfl) (by omega)).mono ?_
  rintro _ w1 ⟨v1, q1, E1, rfl, hh1, hk1, v10, v11, hq1, hc1⟩
  have H1 := Lib.hid hh1
  have K1 := Lib.hid (K0.out.then hk1 (fun x hx => by
    rcases List.mem_cons.1 hx with rfl | hx
    · exact Or.inl (by simp)
    · rw [List.mem_singleton.1 hx]; exact Or.inr HEB.out))
  have hE1 : E1 = 0 ∨ E1 = 10 := by omega
  clear hh1 hk1 H0 K0
  go_wp2_with fail
  refine (read1_any _ _ _ _ _ _ q1 5 E1 bs H1.out hE1 (by omega)).mono ?_
  rintro _ w2 ⟨v2, q2, E2, rfl, hh1, hk1, v20, v21, hq2, hc2⟩
  have H2 := Lib.hid hh1
  have K2 := Lib.hid (K1.out.then hk1 (fun x hx => by
    rcases List.mem_cons.1 hx with rfl | hx
    · exact Or.inl (by simp)
    · rw [List.mem_singleton.1 hx]; exact Or.inr HEB.out))
  have hE2 : E2 = 0 ∨ E2 = 10 := by omega
  clear hh1 hk1 H1 K1
  go_wp2_with fail
  refine (read1_any _ _ _ _ _ _ q2 4 E2 bs H2.out hE2 (by omega)).mono ?_
  rintro _ w3 ⟨v3, q3, E3, rfl, hh1, hk1, v30, v31, hq3, hc3⟩
  have H3 := Lib.hid hh1
  have K3 := Lib.hid (K2.out.then hk1 (fun x hx => by
    rcases List.mem_cons.1 hx with rfl | hx
    · exact Or.inl (by simp)
    · rw [List.mem_singleton.1 hx]; exact Or.inr HEB.out))
  have hpq : p ≤ q3 := by omega
  have HC : Hid ((p + 14 ≤ 8 * bs.length ∧ E3 = 0 ∧ v1 = numB bs p 5 ∧ v2 = numB bs (p + 5) 5 ∧ v3 = numB bs (p + 10) 4 ∧ q3 = p + 14) ∨ (8 * bs.length < p + 14 ∧ E3 = 10)) := by
    rcases hc1 with ⟨_, a1, rfl, rfl, rfl⟩ | ⟨a1, rfl⟩
    · rcases hc2 with ⟨_, a2, rfl, rfl, rfl⟩ | ⟨a2, rfl⟩
      · rcases hc3 with ⟨_, a3, rfl, rfl, rfl⟩ | ⟨a3, rfl⟩
        · exact Lib.hid (.inl ⟨by omega, rfl, rfl, rfl, rfl, rfl⟩)
        · exact Lib.hid (.inr ⟨by omega, rfl⟩)
      · exact Lib.hid (.inr ⟨by omega, by omega⟩)
    · exact Lib.hid (.inr ⟨by omega, by omega⟩)
  clear hh1 hk1 H2 K2 hc1 hc2 hc3 hE1 hE2 hq1 hq2 hq3
  have ce := H3.out.bxe.cell
  have fe := H3.out.bxe.free
  rcases HC.out with ⟨hfit, rfl, hv1, hv2, hv3, rfl⟩ | ⟨hend, rfl⟩
  · clear HC
    have HV1 := Lib.hid hv1
    have HV2 := Lib.hid hv2
    have HV3 := Lib.hid hv3
    clear hv1 hv2 hv3
    by_cases hb1 : 286 < 257 + v1
    · have HRES : Hid (headF bs p = ([], [], 0, 40)) := Lib.hid (by unfold headF; rw [if_neg (by omega), if_pos (by left; have := HV1.out; omega)])
      have e1 : decide (286 < 257 + v1) = true := by simpa using hb1
      go_wp2_with fail
      have H4 := H3.out.set 40
      have c4 := H4.bxe.cell
      exact bodyPost_ret (v := .tuple #[.slice none 0 0, .slice none 0 0, .int .i64 40]) (by simp [results, Tryd.results58, go_sem, c4]) rfl (readP_err HRES.out (by first | decide | assumption) H4.rd hpq (K3.out.setCell (p := ⟨eb, 0, none⟩) (Or.inr HEB.out) _))
    have e1 : decide (286 < 257 + v1) = false := by simpa using hb1
    by_cases hb2 : 30 < 1 + v2
    · have HRES : Hid (headF bs p = ([], [], 0, 40)) := Lib.hid (by unfold headF; rw [if_neg (by omega), if_pos (by right; have := HV2.out; omega)])
      have e2 : decide (30 < 1 + v2) = true := by simpa using hb2
      go_wp2_with fail
      have H4 := H3.out.set 40
      have c4 := H4.bxe.cell
      exact bodyPost_ret (v := .tuple #[.slice none 0 0, .slice none 0 0, .int .i64 40]) (by simp [results, Tryd.results58, go_sem, c4]) rfl (readP_err HRES.out (by first | decide | assumption) H4.rd hpq (K3.out.setCell (p := ⟨eb, 0, none⟩) (Or.inr HEB.out) _))
    have e2 : decide (30 < 1 + v2) = false := by simpa using hb2
    have HNB : Hid (¬ (29 < numB bs p 5 ∨ 29 < numB bs (p + 5) 5)) := Lib.hid (by have := HV1.out; have := HV2.out; omega)
    obtain ⟨mn, hmn⟩ : ∃ mn, mn = manyF bs p := ⟨_, rfl⟩
    have hmn2 : 4 + v3 = (mn : Int) := by rw [hmn]; unfold manyF; rw [← HV3.out]; omega
    have hmn3 : mn ≤ 19 := by rw [hmn]; exact manyF_le bs p
    have HMN := Lib.hid hmn
    obtain ⟨lit, hlit⟩ : ∃ x, x = litF bs p := ⟨_, rfl⟩
    obtain ⟨dist, hdist⟩ : ∃ x, x = distF bs p := ⟨_, rfl⟩
    have hl2 : 257 + v1 = (lit : Int) := by rw [hlit]; unfold litF; rw [← HV1.out]; omega
    have hd2 : 1 + v2 = (dist : Int) := by rw [hdist]; unfold distF; rw [← HV2.out]; omega
    have hlb : lit ≤ 286 := by omega
    have hdb : dist ≤ 30 := by omega
    have hd1 : 1 ≤ dist := by omega
    have HLI := Lib.hid hlit
    have HDI := Lib.hid hdist
    clear hmn hlit hdist HV1 HV2 HV3
    have e1' : decide (286 < (lit : Int)) = false := by simp; omega
    have e2' : decide (30 < (dist : Int)) = false := by simp; omega
    clear e1 e2 v10 v11 v20 v21 hb1 hb2
    have hmk := fun w => make_ints (P := Tryd.prog) w 22 3 .i64 8 Tryd.underlying22 info_int 19 19 rfl (by omega) (by omega)
    obtain ⟨gc, hgc⟩ : ∃ x, x = w3.heap.size := ⟨_, rfl⟩
    obtain ⟨w4, hw4⟩ : ∃ x, x = w3.alloc (.cells (ints .i64 (List.replicate 19 0)).toArray 3) := ⟨_, rfl⟩
    have hk4 : Keeps [] w3 w4 := by rw [hw4]; exact (Keeps.refl [] w3).alloc _
    have HC4 : Hid (Blk w4 gc 3 (ints .i64 (cL bs (p + 14) 0))) := by rw [hw4, hgc]; exact Lib.hid (blk_new w3 _ _)
    have H4 := Lib.hid (H3.out.keeps hk4 (by simp) (by simp) (by simp) (off_nil _))
    have K4 := Lib.hid (K3.out.trans (hk4.mono (by simp)))
    have hgce : eb < gc := by have := H3.out.bxe.lt; omega
    have hgcg : gc ≠ g := by omega
    have HGC : Hid (w.heap.size ≤ gc) := Lib.hid (by have := HEB.out; omega)
    clear hk4 H3 K3
    have hsl := fun w => slice_arr w 1 mn hmn3
    go_upto_region 10 with (fail)
    change Code.wp _ _ _ _ (w3.alloc (.cells (ints .i64 (List.replicate 19 0)).toArray 3))
    rw [← hw4, ← hgc]
    clear hw4 hgc hmk
    go_wp2_with fail
    go_loopw [43] (fun iv wr => ∃ (i q : Nat) (E : Int) (cs : List Int), i ≤ mn ∧ iv = .int .i64 i ∧ cs.length = 19 ∧ p ≤ q ∧ (E = 0 ∨ E = 10) ∧ Hid ((p + 14 + 3 * i ≤ 8 * bs.length ∧ E = 0 ∧ q = p + 14 + 3 * i ∧ cs = cL bs (p + 14) i) ∨ (8 * bs.length < p + 14 + 3 * i ∧ E = 10)) ∧
      Hid (Blk wr gc 3 (ints .i64 cs)) ∧ Hid (Hd wr rb eb g A c bs q E) ∧ Hid (Keeps [g] w wr)) (fun iv _ => mn - (intOf iv).toNat)
    case atStart => exact ⟨0, p + 14, 0, cL bs (p + 14) 0, by omega, rfl, cL_len _ _ _, by omega, .inl rfl, Lib.hid (.inl ⟨by omega, rfl, rfl, rfl⟩), HC4, H4, K4⟩
    case round =>
      clear HC4 H4 K4
      obtain ⟨i, q, E, cs, hi, rfl, hcl, hq, hE, HI, HC, H, HK⟩ := hrel
      by_cases hlt : i < mn
      · have e0 : decide (i < mn) = true := by simpa using hlt
        obtain ⟨o0, o1⟩ := order_lt i (by omega)
        have ho := (HT.out.keeps HK.out (fun x hx => by rw [List.mem_singleton.1 hx]; exact hg)).ord.cell _ _ rfl i (by omega)
        rw [Nat.zero_add] at ho
        have HCL : Hid (cL bs (p + 14) (i + 1) = (cL bs (p + 14) i).set (nth orderL i).toNat (numB bs (p + 14 + 3 * i) 3)) := Lib.hid rfl
        obtain ⟨o, hoo⟩ : ∃ o : Nat, nth orderL i = o := ⟨(nth orderL i).toNat, by omega⟩
        rw [hoo] at ho o1 HCL
        rw [Int.toNat_natCast] at HCL
        have ho19 : o < 19 := by omega
        clear hoo o0 o1
        go_wp2_with fail
        refine (read1_any _ _ _ _ _ _ q 3 E bs H.out hE (by omega)).mono ?_
        rintro _ w5 ⟨v, q', E', rfl, hh5, hk5, hv0, hv1, hq', hc'⟩
        have hb5 := HC.out.keeps hk5 (by simp; omega)
        have hc5 := hb5.cell o
        rw [show (ints .i64 cs)[o]? = some (.int .i64 (nth cs o)) by rw [ints_getElem?]; simp [nth, List.getD, show o < cs.length by omega]] at hc5
        have hf5 := hb5.frozen o
        obtain ⟨hE', hI'⟩ := codes_moreP HCL.out HI.out hc'
        have HI' := Lib.hid hI'
        have ks : Keeps [gc] w5 (w5.setCell ⟨gc, o, none⟩ (.int .i64 v)) := (Keeps.refl [gc] w5).setCell (p := ⟨gc, o, none⟩) (Or.inl (by simp)) _
        have HC' : Hid (Blk (w5.setCell ⟨gc, o, none⟩ (.int .i64 v)) gc 3 (ints .i64 (cs.set o v))) := Lib.hid (by
          have := hb5.set o (.int .i64 v)
          rwa [show (ints .i64 cs).set o (.int .i64 v) = ints .i64 (cs.set o v) by simp [ints, List.map_set]] at this)
        have H' := Lib.hid (hh5.keeps ks (by simpa using Ne.symm hgcg) (by simp; omega) (by simp; omega) (fun a ha hm => by have := HA.out a ha; rw [List.mem_singleton.1 hm] at this; have := HGC.out; omega))
        have HK' := Lib.hid ((keeps_ge HK.out hk5 HEB.out).setCell (p := ⟨gc, o, none⟩) (Or.inr HGC.out) (.int .i64 v))
        clear hh5 hk5 hb5 hI' hc' ks HC H HK HI HCL ho
        go_wp2_with fail
        go_roundw
        case rel => exact ⟨i + 1, q', E', cs.set o v, by omega, by go_num, by rw [List.length_set]; exact hcl, by omega, hE', HI', HC', H', HK'⟩
        case measure => simp [intOf]; omega
      · obtain rfl : i = mn := by omega
        have e0 : decide (i < i) = false := by simp
        have ce := H.out.bxe.cell
        have fe := H.out.bxe.free
        rcases HI.out with ⟨hf3, rfl, rfl, rfl⟩ | ⟨hend, rfl⟩
        · clear HI
          obtain ⟨cd, hcd⟩ : ∃ cd, cd = cL bs (p + 14) i := ⟨_, rfl⟩
          have hcl' : cd.length = 19 := by rw [hcd]; exact cL_len _ _ _
          have HCD : Hid (cd = codesH bs p) := Lib.hid (by rw [hcd]; unfold codesH; rw [← HMN.out])
          rw [← hcd] at HC
          have HCR : Hid (RI .i64 wr (some ⟨gc, 0, none⟩) 19 cd) := Lib.hid (by
            have := Blk.ri (xs := cd) (ys := []) (by rw [List.append_nil]; exact HC.out)
            rwa [hcl'] at this)
          have HF3 : Hid (¬ (8 * bs.length < p + 14 + 3 * manyF bs p)) := Lib.hid (by rw [← HMN.out]; omega)
          have HQ : Hid (p + 14 + 3 * i = p + 14 + 3 * manyF bs p) := Lib.hid (by rw [← HMN.out])
          have HF1 : Hid (¬ 8 * bs.length < p + 14) := Lib.hid (by omega)
          clear hcd HC hcl
          obtain ⟨wc, hwc⟩ : ∃ x : World, x = wr := ⟨_, rfl⟩
          rw [← hwc] at H HK HCR ce fe ⊢
          clear hwc
          go_wp2_with fail
          refine (new_calls wc _ _ _ cd HCR.out (by omega)).mono ?_
          rintro e w6 ⟨hb6, hmade⟩
          have hk6 := Keeps.of_below hb6 (S := [])
          have H6 := Lib.hid (H.out.keeps hk6 (by simp) (by simp) (by simp) (off_nil _))
          have K6 := Lib.hid (HK.out.trans (hk6.mono (by simp)))
          have c6 := H6.out.bxe.cell
          have f6 := H6.out.bxe.free
          have hgd : g < wc.heap.size := H.out.rd.lt
          have hebd : eb < wc.heap.size := H.out.bxe.lt
          clear ce fe H HK HCR hb6 hk6
          by_cases hck : checkF cd = 0
          · rw [if_pos hck] at hmade
            obtain ⟨gd, rfl, hd, hgd2⟩ := hmade
            have HCK := Lib.hid hck
            obtain ⟨w7, hw7⟩ : ∃ x, x = w6.setCell ⟨eb, 0, none⟩ (.int .i64 0) := ⟨_, rfl⟩
            have hk7 : Keeps [eb] w6 w7 := by rw [hw7]; exact (Keeps.refl [eb] w6).setCell (p := ⟨eb, 0, none⟩) (Or.inl (by simp)) _
            have H7 : Hid (Hd w7 rb eb g A c bs (p + 14 + 3 * i) 0) := by rw [hw7]; exact Lib.hid (H6.out.set 0)
            have K7 : Hid (Keeps [g] w w7) := by rw [hw7]; exact Lib.hid (K6.out.setCell (p := ⟨eb, 0, none⟩) (Or.inr HEB.out) _)
            have D7 := Lib.hid (Dec.apart (gr := g) (show Dec w7 gd cd from DSt.keeps hd hk7 (fun x hx => by rw [List.mem_singleton.1 hx]; exact Or.inl (by omega))) (by omega))
            have T7 := Lib.hid (HT.out.keeps K7.out (fun x hx => by rw [List.mem_singleton.1 hx]; exact hg))
            obtain ⟨b0, hb0⟩ : ∃ x, x = w7.heap.size := ⟨_, rfl⟩
            have c7 := H7.out.bxe.cell
            obtain ⟨N, hN⟩ : ∃ N, N = lit + dist := ⟨_, rfl⟩
            have HRR0 : Hid (readR bs p = stepsF cd bs N N [] (p + 14 + 3 * i)) := Lib.hid (by
              unfold readR
              rw [← HCD.out, HQ.out, hN, HLI.out, HDI.out])
            have hNb : N ≤ 316 := by omega
            have hN3 : IntKind.i64.wrap ((lit : Int) + (dist : Int)) = (N : Int) := by rw [show (lit : Int) + (dist : Int) = (N : Int) by omega]; exact IntWalk.i64_in _ (by omega)
            have hLN : lit < N := by omega
            have HE1 : Hid (∀ e, (readR bs p).2.2 = e → e ≠ 0 → headF bs p = ([], [], 0, e)) := Lib.hid (fun e h he => head_err HF1.out HNB.out HF3.out (by rw [← HCD.out]; exact HCK.out) h he)
            have HE2 : Hid (∀ l q, readR bs p = (l, q, 0) → headF bs p = (l.take lit, l.drop lit, q - p, 0)) := Lib.hid (fun l q h => by rw [HLI.out]; exact head_ok HF1.out HNB.out HF3.out (by rw [← HCD.out]; exact HCK.out) h)
            have hpi : p ≤ p + 14 + 3 * i := by omega
            have hb0w : w.heap.size ≤ b0 := by rw [hb0]; exact K7.out.size
            have hb0g : g < b0 := by omega
            have hb0e : eb < b0 := by rw [hb0]; exact H7.out.bxe.lt
            have HW7 : Hid (Keeps [g] w7 w7) := Lib.hid (Keeps.refl _ _)
            clear hN hck hd hk7 e1' e2' hl2 hd2 hmn2 HF3 HQ HCD HLI HDI HNB HMN H6 K6 HF1
            go_wp2_with fail
            rw [← hw7]
            clear hw7
            go_loopw [13] (fun lv wr => ∃ (f q len cc : Nat) (l : List Int) (AL : Option Addr), lv = .slice AL len cc ∧ len ≤ N ∧ N ≤ len + f ∧ p ≤ q ∧ Hid (readR bs p = stepsF cd bs N f l q) ∧ Hid (wr.ownsRow b0 3 1 (.slice AL len cc) len (ints .i64 l)) ∧
              Hid (Rdr wr g A c bs q) ∧ Hid (Keeps [g] w7 wr)) (fun lv _ => N - sLen lv)
            case atStart => exact ⟨N, p + 14 + 3 * i, 0, 0, [], none, rfl, by omega, by omega, hpi, HRR0, Lib.hid (World.ownsRow_nil _ _ _ _), Lib.hid H7.out.rd, HW7⟩
            case round =>
              clear HRR0 HW7
              obtain ⟨f, q, len, cc, l, AL, rfl, hlen, hf, hpq', HRD, HLO, HR, HK⟩ := hrel
              have HLEN : Hid (l.length = len) := Lib.hid (by have := HLO.out.1; simpa [ints] using this)
              by_cases hlt2 : len < N
              · have e4 : decide ((len : Int) < (N : Int)) = true := by simp; omega
                obtain ⟨f', rfl⟩ : ∃ f', f = f' + 1 := ⟨f - 1, by omega⟩
                have HUN : Hid (readR bs p = if (decF cd bs q).2.1 ≠ 0 then ([], q, (decF cd bs q).2.1)
                    else if 8 * bs.length < q + (decF cd bs q).2.2 + wN (decF cd bs q).1 then ([], q, 10)
                    else match addF l (decF cd bs q).1 (numB bs (q + (decF cd bs q).2.2) (wN (decF cd bs q).1)) N with
                      | none => ([], q, 41)
                      | some l' => stepsF cd bs N f' l' (q + (decF cd bs q).2.2 + wN (decF cd bs q).1)) := Lib.hid (by
                  rw [HRD.out, stepsF, if_neg (by rw [HLEN.out]; omega)]
                  rfl)
                have hqT := HR.out.le
                clear HRD
                obtain ⟨wl, hwl⟩ : ∃ x : World, x = wr := ⟨_, rfl⟩
                rw [← hwl] at HLO HR HK ⊢
                clear hwl
                have kr := (H7.out.bxr.keeps HK.out (by simp; omega)).cell
                go_wp2_with fail
                refine (nextN_calls wl gd g cd A c bs q (D7.out.keeps HK.out (fun x hx => List.mem_singleton.1 hx)) HR.out (by omega)).mono ?_
                rintro _ w8 ⟨rfl, hr8, hk8⟩
                have HK8 := Lib.hid (HK.out.trans hk8)
                have HLO8 := Lib.hid (own_keeps HLO.out hk8 (fun x hx hm => by have := (HLO.out.lt x hx).1; rw [List.mem_singleton.1 hm] at this; omega))
                have HR8 := Lib.hid hr8
                have HBD := Lib.hid (dec_bd cd bs q hqT)
                clear hr8 hk8 HR HK HLO kr
                generalize decF cd bs q = d at *
                obtain ⟨sy0, er, k⟩ := d
                have HR8' : Hid (Rdr w8 g A c bs (q + k)) := HR8
                simp only [] at HBD HUN
                have b8 := H7.out.bxe.keeps HK8.out (by simp; omega)
                have ce8 := b8.cell
                have fe8 := b8.free
                have hse : ∀ (W : World) (e : Int), Keeps [eb] W (W.setCell ⟨eb, 0, none⟩ (.int .i64 e)) := fun W e => (Keeps.refl [eb] W).setCell (p := ⟨eb, 0, none⟩) (Or.inl (by simp)) _
                have hoE : Off [eb] A := fun a ha hm => by have := HA.out a ha; rw [List.mem_singleton.1 hm] at this; have := HEB.out; omega
                have hge : g ∉ [eb] := by simp; omega
                by_cases her : er = 0
                · subst her
                  obtain ⟨j, rfl, hj, hpk⟩ : ∃ j : Nat, sy0 = j ∧ j < 19 ∧ q + k ≤ 8 * bs.length := by
                    rcases HBD.out with ⟨_, j, h1, h2, h3⟩ | ⟨h, _⟩
                    · exact ⟨j, h1, by omega, h3⟩
                    · exact absurd rfl h
                  clear HBD HR8
                  have kr := (H7.out.bxr.keeps HK8.out (by simp; omega)).cell
                  have kw := (T7.out.keeps HK8.out (fun x hx => by rw [List.mem_singleton.1 hx]; exact hg)).wid.cell _ _ rfl j (by omega)
                  rw [Nat.zero_add, wN_tab j hj] at kw
                  have hw7 := wN_le (j : Int)
                  obtain ⟨W, hW⟩ : ∃ W, W = wN (j : Int) := ⟨_, rfl⟩
                  rw [← hW] at kw hw7 HUN
                  have s1 : (j : Int) < 19 := by omega
                  have s2 : (0 : Int) ≤ (j : Int) := by omega
                  have s3 : IntKind.i64.wrap (j : Int) = (j : Int) := IntWalk.i64_in _ (by omega)
                  clear hW
                  by_cases hov : 8 * bs.length < q + k + W
                  · have HRES := Lib.hid (HE1.out 10 (by rw [HUN.out, if_neg (by simp), if_pos hov]) (by decide))
                    clear HUN
                    go_wp2_with fail
                    go_region_with (first | (go_at_call 49; refine (take_end _ g A c bs (q + k) W (HR8'.out.dr (Keeps.refl [] w8).drew) (by omega) (by omega)).mono ?_; rintro _ w9 ⟨rfl, hd9⟩))
                    all_goals (
                      have HK9 := HK8.out.trans (((Keeps.refl [g] w8).drew).trans (hd9.keeps (S := [g])))
                      have HR9 := (HR8'.out.dr (Keeps.refl [] w8).drew).dr (hd9.keeps (S := []))
                      have b9 := H7.out.bxe.keeps HK9 (by simp; omega)
                      have ce9 := b9.cell
                      have fe9 := b9.free
                      go_wp2_with fail
                      have c4 := (b9.set (.int .i64 10)).cell
                      exact bodyPost_ret (v := .tuple #[.slice none 0 0, .slice none 0 0, .int .i64 10]) (by simp [results, Tryd.results58, go_sem, c4]) rfl (readP_err HRES.out (by decide) (HR9.keeps (hse _ _) hge hoE) (by omega) ((K7.out.trans HK9).setCell (p := ⟨eb, 0, none⟩) (Or.inr HEB.out) _)))
                  · have HUN2 : Hid (readR bs p = match addF l (j : Int) (numB bs (q + k) W) N with
                      | none => ([], q, 41)
                      | some l' => stepsF cd bs N f' l' (q + k + W)) := Lib.hid (by rw [HUN.out, if_neg (by simp), if_neg hov])
                    clear HUN
                    obtain ⟨n0, n1⟩ := numB_lt bs (q + k) W
                    have n2 := pow_le8 W (by omega)
                    have hex : Hid (numB bs (q + k) W = numB bs (q + k) W) := Lib.hid rfl
                    have e5 : IntKind.i64.wrap (numB bs (q + k) W) = numB bs (q + k) W := IntWalk.i64_in _ (by omega)
                    go_wp2_with fail
                    go_region_with (first | (go_at_call 49; refine (take_calls _ g A c bs (q + k) W (HR8'.out.dr (Keeps.refl [] w8).drew) (by omega) (by omega)).mono ?_; rintro _ w9 ⟨rfl, hr9, hk9⟩))
                    all_goals (
                      have HK9 := Lib.hid (HK8.out.trans (((Keeps.refl [g] w8).drew).trans hk9))
                      have HR9 := Lib.hid hr9
                      have HLO9 := Lib.hid (own_keeps HLO8.out (((Keeps.refl [g] w8).drew).trans hk9) (fun x hx hm => by have := (HLO8.out.lt x hx).1; rw [List.mem_singleton.1 hm] at this; omega))
                      have HT9 := Lib.hid (T7.out.keeps HK9.out (fun x hx => by rw [List.mem_singleton.1 hx]; exact hg))
                      have hb9 : b0 ≤ w9.heap.size := by rw [hb0]; exact HK9.out.size
                      clear hr9 hk9 HK8 HLO8 HR8' kr kw ce8 fe8 b8 hov
                      generalize numB bs (q + k) W = ex at *
                      generalize hqq : q + k + W = q2 at *
                      have hpq2 : p ≤ q2 := by omega
                      go_wp2_with fail
                      refine (add_calls w9 b0 len _ l j ex N hb9 HT9.out HLO9.out (by omega)).mono ?_
                      intro e w10 hv
                      have hw70 : w7.heap.size ≤ b0 := by omega
                      have hAb : ∀ a, A = some a → a.block < b0 := fun a ha => by have := HA.out a ha; omega
                      cases haf : addF l (j : Int) ex N with
                      | none =>
                        rw [haf] at hv
                        obtain ⟨rfl, hb10⟩ := hv
                        have HRES := Lib.hid (HE1.out 41 (by rw [HUN2.out, haf]) (by decide))
                        have HK10 := HK9.out.under hb10 hw70
                        have HR10 := HR9.out.below hb10 hb0g hAb
                        have b10 := H7.out.bxe.keeps HK10 (by simp; omega)
                        have ce10 := b10.cell
                        have fe10 := b10.free
                        go_wp2_with fail
                        have c4 := (b10.set (.int .i64 41)).cell
                        exact bodyPost_ret (v := .tuple #[.slice none 0 0, .slice none 0 0, .int .i64 41]) (by simp [results, Tryd.results58, go_sem, c4]) rfl (readP_err HRES.out (by decide) (HR10.keeps (hse _ _) hge hoE) (by omega) ((K7.out.trans HK10).setCell (p := ⟨eb, 0, none⟩) (Or.inr HEB.out) _))
                      | some l' =>
                        rw [haf] at hv
                        obtain ⟨v10, rfl, ho10, hb10⟩ := hv
                        obtain ⟨g1, g2, -⟩ := addF_grows haf
                        obtain ⟨A10, c10, rfl⟩ := own_form' ho10
                        have HRD10 : Hid (readR bs p = stepsF cd bs N f' l' q2) := Lib.hid (by rw [HUN2.out, haf])
                        have HK10 := Lib.hid (HK9.out.under hb10 hw70)
                        have HR10 := Lib.hid (HR9.out.below hb10 hb0g hAb)
                        have HLO10 := Lib.hid ho10
                        have hlen' := HLEN.out
                        clear ho10 hb10 HK9 HR9 HLO9 HT9 HUN2
                        go_wp2_with fail
                        go_roundw
                        case rel => exact ⟨f', q2, l'.length, c10, l', A10, rfl, by omega, by omega, hpq2, HRD10, HLO10, HR10, HK10⟩
                        case measure => simp [sLen]; omega)
                · have HRES := Lib.hid (HE1.out er (by rw [HUN.out, if_pos her]) her)
                  have e5 : (er != 0) = true := by simpa using her
                  clear HUN HBD
                  go_wp2_with fail
                  have c4 := (b8.set (.int .i64 er)).cell
                  exact bodyPost_ret (v := .tuple #[.slice none 0 0, .slice none 0 0, .int .i64 er]) (by simp [results, Tryd.results58, go_sem, c4]) rfl (readP_err HRES.out her (HR8'.out.keeps (hse _ _) hge hoE) (by omega) ((K7.out.trans HK8.out).setCell (p := ⟨eb, 0, none⟩) (Or.inr HEB.out) _))
              · obtain rfl : len = N := by omega
                have e4 : decide ((len : Int) < (len : Int)) = false := by simp
                have HRES := Lib.hid (HE2.out l q (by rw [HRD.out, stepsF_done _ _ _ _ _ _ (by rw [HLEN.out]; omega)]))
                obtain ⟨A9, c9, hv9, hri9, hcap9, -, -, hbk9⟩ := own_full HLO.out
                injection hv9 with hv1 hv2 hv3
                subst hv1
                subst hv3
                obtain ⟨ab, ao, rfl⟩ := hri9.hd (by omega)
                have hr0 := hri9.keeps (Keeps.refl [] wr).drew (off_nil _)
                have hr1 : RI .i64 wr.drew (some ⟨ab, ao, none⟩) lit (l.take lit) := hr0.take (by omega)
                have hl2' : (l.drop lit).length = len - lit := by rw [List.length_drop, HLEN.out]
                have hr2 : RI .i64 wr.drew (some ⟨ab, ao + lit, none⟩) (len - lit) (l.drop lit) := ⟨hl2', fun _ => ⟨_, _, rfl⟩, fun b' o' ha j hj => by
                  injection ha with ha; injection ha with h1 h2 h3; subst h1; subst h2
                  have := hr0.cell ab ao rfl (lit + j) (by omega)
                  rw [show ao + lit + j = ao + (lit + j) by omega, this]
                  simp [nth, List.getD]⟩
                have HR1 := Lib.hid hr1
                have HR2 := Lib.hid hr2
                have t2 : (0 : Int) ≤ (lit : Int) := by omega
                have t3 : (lit : Int) ≤ (len : Int) := by omega
                have t4 : (lit : Int) ≤ (cc : Int) := by omega
                have t5 : lit ≤ len := by omega
                have t6 : lit ≤ cc := by omega
                have t7 : ¬ cc = lit := by omega
                have t8 : ¬ lit = cc := by omega
                have hwlt : w7.heap.size ≤ wr.heap.size := HK.out.size
                have b8 := H7.out.bxe.keeps HK.out (by simp; omega)
                have HB8 := Lib.hid b8
                clear HRD hri9 hv2 hr0 hr1 hr2 b8
                go_wp2_with fail
                go_region_with (first
                  | (go_at_call_of 82 (some (Addr.mk ab ao none)); refine (cloneI_calls _ _ _ _ (l.take lit) (by first | exact HR1.out | exact HR1.out.keeps (Keeps.of_below hbB) (off_nil _)) (by simp) (by intro ad h; exact ⟨_, _, (Option.some.inj h).symm⟩) (by omega)).mono ?_; rintro _ wA ⟨vA, rfl, hoA, hbA⟩; have bxA : Box wA eb (.int .i64 0) := (by first | exact HB8.out.keeps ((Keeps.refl [] wr).drew.trans (Keeps.of_below hbA)) (by simp) | exact bxB.keeps (Keeps.of_below (S := []) hbA) (by simp)); have ceA := bxA.cell; have feA := bxA.free)
                  | (go_at_call_of 82 (some (Addr.mk ab (ao + lit) none)); refine (cloneI_calls _ _ _ _ (l.drop lit) (by first | exact HR2.out | exact HR2.out.keeps (Keeps.of_below hbA) (off_nil _)) (by simp) (by intro ad h; exact ⟨_, _, (Option.some.inj h).symm⟩) (by omega)).mono ?_; rintro _ wB ⟨vB, rfl, hoB, hbB⟩; have bxB : Box wB eb (.int .i64 0) := (by first | exact HB8.out.keeps ((Keeps.refl [] wr).drew.trans (Keeps.of_below hbB)) (by simp) | exact bxA.keeps (Keeps.of_below (S := []) hbB) (by simp)); have ceB := bxB.cell; have feB := bxB.free))
                all_goals (
                  have kA : Keeps [] wr wA := (Keeps.refl [] wr).drew.trans (Keeps.of_below hbA)
                  have kB : Keeps [] wA wB := Keeps.of_below hbB
                  have hwr : wr.heap.size ≤ wA.heap.size := kA.size
                  have hebw : eb < wr.heap.size := by omega
                  have kS : Keeps [eb] wB (wB.setCell ⟨eb, 0, none⟩ (.int .i64 0)) := (Keeps.refl [eb] wB).setCell (p := ⟨eb, 0, none⟩) (Or.inl (by simp)) _
                  have oA := own_keeps (own_keeps hoA kB (by simp)) kS (fun x hx hm => by
                    have h1 := (hoA.lt x hx).1
                    rw [List.mem_singleton.1 hm] at h1
                    have h2 : wr.heap.size ≤ eb := h1
                    omega)
                  have oB := own_keeps hoB kS (fun x hx hm => by
                    have h1 := (hoB.lt x hx).1
                    rw [List.mem_singleton.1 hm] at h1
                    omega)
                  have hR := (((HR.out.dr kA).dr kB).keeps kS (by simp; omega) (fun a ha hm => by have := HA.out a ha; rw [List.mem_singleton.1 hm] at this; have := HEB.out; omega))
                  have hKK : Keeps [g] w (wB.setCell ⟨eb, 0, none⟩ (.int .i64 0)) := (((K7.out.trans HK.out).trans (kA.mono (by simp))).trans (kB.mono (by simp))).setCell (p := ⟨eb, 0, none⟩) (Or.inr HEB.out) _
                  have hww : w.heap.size ≤ wr.heap.size := by omega
                  have c4 := (bxB.set (.int .i64 0)).cell
                  have hl1 : (l.take lit).length = lit := by rw [List.length_take, HLEN.out]; omega
                  go_wp2_with fail
                  refine bodyPost_ret (v := .tuple #[vA, vB, .int .i64 0]) (by simp [results, Tryd.results58, go_sem, c4]) rfl ?_
                  rw [HRES.out]
                  exact ⟨vA, vB, q, rfl, by rw [hl1]; exact oA.mono hww, by rw [hl2']; exact oB.mono (by omega), hR, hpq', fun _ => by simp only []; omega, hKK⟩)
          · rw [if_neg hck] at hmade
            subst hmade
            have HRES : Hid (headF bs p = ([], [], 0, checkF cd)) := Lib.hid (by unfold headF; rw [if_neg HF1.out, if_neg HNB.out, if_neg HF3.out, ← HCD.out, if_pos hck])
            have e3 : (checkF cd != 0) = true := by simpa using hck
            generalize checkF cd = er at *
            go_wp2_with fail
            go_region
            go_wp2_with fail
            have H8 := (((H6.out.set er).set er).keeps (Keeps.refl [] _).drew (by simp) (by simp) (by simp) (off_nil _))
            have c4 := H8.bxe.cell
            exact bodyPost_ret (v := .tuple #[.slice none 0 0, .slice none 0 0, .int .i64 er]) (by simp [results, Tryd.results58, go_sem, c4]) rfl (readP_err HRES.out hck H8.rd (by omega) ((K6.out.setCell (p := ⟨eb, 0, none⟩) (Or.inr HEB.out) _).setCell (p := ⟨eb, 0, none⟩) (Or.inr HEB.out) _).drew)

        · have HRES : Hid (headF bs p = ([], [], 0, 10)) := Lib.hid (by unfold headF; rw [if_neg (by omega), if_neg HNB.out, ← HMN.out, if_pos hend])
          clear HI
          go_wp2_with fail
          go_region
          go_wp2_with fail
          have H5 := (H.out.set 10).keeps (Keeps.refl [] _).drew (by simp) (by simp) (by simp) (off_nil _)
          have c4 := H5.bxe.cell
          exact bodyPost_ret (v := .tuple #[.slice none 0 0, .slice none 0 0, .int .i64 10]) (by simp [results, Tryd.results58, go_sem, c4]) rfl (readP_err HRES.out (by first | decide | assumption) H5.rd hq (HK.out.setCell (p := ⟨eb, 0, none⟩) (Or.inr HEB.out) _).drew)
  · have HRES : Hid (headF bs p = ([], [], 0, 10)) := Lib.hid (by unfold headF; rw [if_pos hend])
    clear HC
    go_wp2_with fail
    go_region
    go_wp2_with fail
    have H4 := (H3.out.set 10).keeps (Keeps.refl [] _).drew (by simp) (by simp) (by simp) (off_nil _)
    have c4 := H4.bxe.cell
    exact bodyPost_ret (v := .tuple #[.slice none 0 0, .slice none 0 0, .int .i64 10]) (by simp [results, Tryd.results58, go_sem, c4]) rfl (readP_err HRES.out (by first | decide | assumption) H4.rd hpq (K3.out.setCell (p := ⟨eb, 0, none⟩) (Or.inr HEB.out) _).drew)
end Go.Proofs.YtcblibefmclloaaDoor
