import Derived.Test.YtcblibefmclloaaDoorAdd2
set_option linter.unusedVariables false
set_option linter.unusedSimpArgs false
namespace Go.Proofs.YtcblibefmclloaaDoor
open Go.RowKit
theorem add_calls (w : World) (base len : Nat) (u : Value) (l : List Int) (sym extra n : Int) (hb : base ≤ w.heap.size) (ht : Tabs w) (hu : w.ownsRow base 3 1 u len (ints .i64 l)) (hlen : len ≤ 1000) :
    Calls Tryd.prog 56 #[u, .agg #[.int .i64 sym, .int .i64 extra], .int .i64 n] w (Added w base (addF l sym extra n)) := by
  cases hsay : sayF l sym extra with
  | some p =>
    obtain ⟨v, k⟩ := p
    have h0 : 0 ≤ sym := by
      rcases Int.lt_or_le sym 0 with h | h
      · rw [sayF_lit_none (by omega) (Or.inl h)] at hsay; cases hsay
      · exact h
    obtain ⟨s, rfl⟩ := Int.eq_ofNat_of_zero_le h0
    exact add_good w base len u l s extra n v k hb ht hu hlen hsay
  | none =>
    obtain ⟨A, c, rfl, hri, hcap, hblk⟩ := own_ri hu
    by_cases hs : sym < 0 ∨ 18 < sym
    · exact add_bad w base len c A l sym extra n hb hs
    · by_cases hx : extra < 0
      · exact add_neg w base len c A l sym extra n hb (by omega) (by omega) hx
      · obtain ⟨s, rfl⟩ := Int.eq_ofNat_of_zero_le (show 0 ≤ sym by omega)
        by_cases ho : s ≤ 15 ∧ 1 ≤ extra ∨ s = 16 ∧ 4 ≤ extra ∨ s = 17 ∧ 8 ≤ extra ∨ s = 18 ∧ 128 ≤ extra
        · exact add_over w base len c A l s extra n hb ht (by omega) ho
        · rcases (by omega : s ≤ 15 ∨ s = 16 ∨ s = 17 ∨ s = 18) with h | rfl | rfl | rfl
          · obtain rfl : extra = 0 := by omega
            rw [sayF_lit (by omega) (by omega)] at hsay; cases hsay
          · have hl : l = [] := by
              rcases Classical.em (l = []) with h | h
              · exact h
              · rw [show ((16 : Nat) : Int) = 16 from rfl, sayF_16 (by omega) (by omega) h] at hsay; cases hsay
            subst hl
            obtain rfl : len = 0 := by have := hri.len; simpa using this.symm
            exact add_first w base c A extra n hb ht (by omega) (by omega)
          · rw [show ((17 : Nat) : Int) = 17 from rfl, sayF_17 (by omega) (by omega)] at hsay; cases hsay
          · rw [show ((18 : Nat) : Int) = 18 from rfl, sayF_18 (by omega) (by omega)] at hsay; cases hsay
/-- What unpacking answers. -/
def Unpacked (w : World) (r : List Int × Int) (e : Ending) (w' : World) : Prop :=
  ∃ v, e = .returned (.tuple #[v, .int .i64 r.2]) ∧ w'.ownsRow w.heap.size 3 1 v r.1.length (ints .i64 r.1) ∧ Below w.heap.size w w'
theorem unpacked_nil (w w' : World) (r : List Int × Int) (e : Int) (hr : r = ([], e)) (h : Below w.heap.size w w') : Unpacked w r (.returned (.tuple #[.slice none 0 0, .int .i64 e])) w' := by
  subst hr
  exact ⟨_, rfl, World.ownsRow_nil _ _ _ _, h⟩
theorem pth_drop {xs : List (Int × Int)} {k : Nat} (h : k < xs.length) : xs.drop k = pth xs k :: xs.drop (k + 1) := by
  rw [List.drop_eq_getElem_cons h]; simp [pth, List.getD, h]
set_option maxRecDepth 100000 in
set_option maxHeartbeats 1000000 in
theorem unpack_calls (w : World) (A : Option Addr) (m c : Nat) (xs : List (Int × Int)) (n : Int) (ht : Tabs w) (hx : RP w A m xs) (hm : m ≤ 140737488355328) :
    Calls Tryd.prog 21 #[.slice A m c, .int .i64 n] w (Unpacked w (unpackF xs n)) := by
  have HX := Lib.hid hx
  have HT := Lib.hid ht
  clear hx ht
  by_cases h0 : n < 0
  · have e1 : decide (n < 0) = true := by simpa using h0
    go_enter Tryd.func21, Tryd.ntmps21
    go_wp2_with fail
    go_ret2
    exact unpacked_nil _ _ _ _ (unpackF_arg (Or.inl h0)) (Below.refl _ _)
  · have e1 : decide (n < 0) = false := by simpa using h0
    by_cases h1 : 316 < n
    · have e2 : decide (316 < n) = true := by simpa using h1
      go_enter Tryd.func21, Tryd.ntmps21
      go_wp2_with fail
      go_ret2
      exact unpacked_nil _ _ _ _ (unpackF_arg (Or.inr h1)) (Below.refl _ _)
    · have e2 : decide (316 < n) = false := by simpa using h1
      go_enter Tryd.func21, Tryd.ntmps21
      go_wp2_with fail
      clear e1 e2
      go_loopw [6, 18] (fun u i wr => ∃ (k : Nat) (l : List Int), k ≤ m ∧ i = .int .i64 k ∧ (l.length : Int) ≤ n ∧ Hid (wr.ownsRow w.heap.size 3 1 u l.length (ints .i64 l)) ∧ Hid (unpackTo [] xs n = unpackTo l (xs.drop k) n) ∧ Hid (Below w.heap.size w wr)) (fun _ i _ => m - (intOf i).toNat)
      case atStart => exact ⟨0, [], by omega, rfl, by simp; omega, Lib.hid (World.ownsRow_nil _ _ _ _), Lib.hid (by simp), Lib.hid (Below.refl _ _)⟩
      case round =>
        obtain ⟨k, l, hk, rfl, hl, HO, HP, HW⟩ := hrel
        by_cases hlt : k < m
        · obtain ⟨b, o, rfl⟩ := HX.out.hd (by omega)
          obtain ⟨c1, c2⟩ := HX.out.cell b o rfl k hlt
          have hd := pth_drop (show k < xs.length by have := HX.out.len; omega)
          have c1' := (Keeps.of_below (S := []) HW.out).cell (by simp) c1
          have c2' := (Keeps.of_below (S := []) HW.out).cell (by simp) c2
          have HD := Lib.hid hd
          clear c1 c2 hd
          have hsz := HW.out.size
          obtain ⟨A1, cc, rfl, hri, hcap, hblk⟩ := own_ri HO.out
          have HRI := Lib.hid hri
          clear hri hblk hcap
          go_wp2_with fail
          refine (add_calls _ w.heap.size l.length _ l _ _ n (by simp; omega) (HT.out.below (HW.out.alloc (by omega) _) HT.out.size) (HO.out.alloc _) (by omega)).mono ?_
          intro e w2 ha
          have hp := HP.out
          rw [HD.out] at hp
          cases hadd : addF l (pth xs k).1 (pth xs k).2 n with
          | none =>
            rw [hadd] at ha
            obtain ⟨rfl, hb⟩ := ha
            rw [unpackTo_stop hadd] at hp
            have HP2 := Lib.hid hp
            have HB := Lib.hid hb
            clear hp hb hadd
            go_wp2_with fail
            go_ret2
            exact unpacked_nil _ _ _ _ (unpackF_none (by omega) (by omega) HP2.out) ((HW.out.alloc (by omega) _).trans HB.out)
          | some l' =>
            rw [hadd] at ha
            obtain ⟨v', rfl, ho, hb⟩ := ha
            rw [unpackTo_cons hadd] at hp
            have hlen := addF_len hadd
            have HP2 := Lib.hid hp
            have HB := Lib.hid hb
            have HO2 := Lib.hid ho
            clear hp hb hadd ho
            go_wp2_with fail
            go_roundw
            case rel => exact ⟨k + 1, l', by omega, by go_num, hlen.2, HO2, HP2, Lib.hid ((HW.out.alloc (by omega) _).trans HB.out)⟩
            case measure => simp [intOf]; omega
        · obtain rfl : k = m := by omega
          have hp := HP.out
          rw [List.drop_eq_nil_of_le (by have := HX.out.len; omega), unpackTo] at hp
          have HP2 := Lib.hid hp
          clear hp
          obtain ⟨A1, cc, rfl, hri, hcap, hblk⟩ := own_ri HO.out
          clear hri hcap hblk
          by_cases hfew : (l.length : Int) < n
          · have e5 : decide ((l.length : Int) < n) = true := by simpa using hfew
            go_wp2_with fail
            go_ret2
            exact unpacked_nil _ _ _ _ (unpackF_few (by omega) (by omega) HP2.out hfew) HW.out
          · have e5 : decide ((l.length : Int) < n) = false := by simpa using hfew
            go_wp2_with fail
            go_ret2
            rw [unpackF_ok (by omega) (by omega) HP2.out (by omega)]
            exact ⟨_, rfl, HO.out, HW.out⟩
end Go.Proofs.YtcblibefmclloaaDoor
