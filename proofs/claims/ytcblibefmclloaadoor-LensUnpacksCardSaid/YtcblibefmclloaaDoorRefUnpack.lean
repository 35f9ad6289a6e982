import Derived.Test.YtcblibefmclloaaDoorWith
import Derived.Test.YtcblibefmclloaaDoorUnpack
set_option linter.unusedVariables false
set_option linter.unusedSimpArgs false
namespace Go.Proofs.YtcblibefmclloaaDoor
open Go.RowKit
theorem own_full {w : World} {base : Nat} {e : TypeId} {v : Value} {n : Nat} {k : IntKind} {xs : List Int} (h : w.ownsRow base e 1 v n (ints k xs)) :
    ∃ A c, v = .slice A n c ∧ RI k w A n xs ∧ n ≤ c ∧ (A = none → n = 0 ∧ c = 0) ∧ (∀ ad, A = some ad → ∃ b o, ad = ⟨b, o, none⟩) ∧ (∀ a, A = some a → base ≤ a.block ∧ a.block < w.heap.size) := by
  obtain ⟨A, c, rfl, h1, h2, h3⟩ := own_ri h
  refine ⟨A, c, rfl, h1, h2, ?_, ?_, fun a ha => ⟨(h3 a ha).1, (h3 a ha).2.1⟩⟩
  · rintro rfl
    rcases h.2 with ⟨h4, h5⟩ | ⟨g, cap, cur, h4, _⟩
    · injection h4 with _ _ h6
      exact ⟨h5, h6⟩
    · injection h4 with h6; cases h6
  · rintro ad rfl
    rcases h.2 with ⟨h4, h5⟩ | ⟨g, cap, cur, h4, _⟩
    · injection h4 with h6; cases h6
    · injection h4 with h6; injection h6 with h7; exact ⟨g, 0, h7⟩
set_option maxRecDepth 100000 in
set_option maxHeartbeats 1000000 in
theorem refUnpack_calls (w : World) (A : Option Addr) (m c : Nat) (xs : List (Int × Int)) (n : Int) (hx : RP w A m xs) (hm : m ≤ 140737488355328) :
    Calls Tryd.prog 22 #[.slice A m c, .int .i64 n] w (Unpacked w (unpackF xs n)) := by
  have HX := Lib.hid hx
  clear hx
  by_cases h0 : n < 0
  · have e1 : decide (n < 0) = true := by simpa using h0
    go_enter Tryd.func22, Tryd.ntmps22
    go_wp2_with fail
    go_ret2
    exact unpacked_nil _ _ _ _ (unpackF_arg (Or.inl h0)) (Below.refl _ _)
  · have e1 : decide (n < 0) = false := by simpa using h0
    by_cases h1 : 316 < n
    · have e2 : decide (316 < n) = true := by simpa using h1
      go_enter Tryd.func22, Tryd.ntmps22
      go_wp2_with fail
      go_ret2
      exact unpacked_nil _ _ _ _ (unpackF_arg (Or.inr h1)) (Below.refl _ _)
    · have e2 : decide (316 < n) = false := by simpa using h1
      go_enter Tryd.func22, Tryd.ntmps22
      go_wp2_with fail
      clear e1 e2
      go_loopw [6, 7] (fun u i wr => ∃ (k : Nat) (l : List Int), k ≤ m ∧ i = .int .i64 k ∧ (l.length : Int) ≤ n ∧ Hid (wr.ownsRow w.heap.size 3 1 u l.length (ints .i64 l)) ∧ Hid (unpackTo [] xs n = unpackTo l (xs.drop k) n) ∧ Hid (Below w.heap.size w wr)) (fun _ i _ => m - (intOf i).toNat)
      case atStart => exact ⟨0, [], by omega, rfl, by simp; omega, Lib.hid (World.ownsRow_nil _ _ _ _), Lib.hid (by simp), Lib.hid (Below.refl _ _)⟩
      case round =>
        obtain ⟨k, l, hk, rfl, hl, HO, HP, HW⟩ := hrel
        by_cases hlt : k < m
        · obtain ⟨b, o, rfl⟩ := HX.out.hd (by omega)
          obtain ⟨c1, c2⟩ := HX.out.cell b o rfl k hlt
          have hd := pth_drop (show k < xs.length by have := HX.out.len; omega)
          have c1' := (Keeps.of_below (S := []) HW.out).cell (by simp) c1
          have c2' := (Keeps.of_below (S := []) HW.out).cell (by simp) c2
          have HD := Lib.hid hd
          clear c1 c2 hd
          have hsz := HW.out.size
          obtain ⟨A1, cc, rfl, hri, hcap, hnil, hpl, hblk⟩ := own_full HO.out
          have HRI := Lib.hid hri
          have HN := Lib.hid hnil
          have HPL := Lib.hid hpl
          clear hri hblk hcap hnil hpl
          go_wp2_with fail
          refine (with_calls _ _ _ _ l _ _ n HRI.out (by omega) HN.out HPL.out).mono ?_
          intro e w2 ha
          have hp := HP.out
          rw [HD.out] at hp
          cases hadd : addF l (pth xs k).1 (pth xs k).2 n with
          | none =>
            rw [hadd] at ha
            obtain ⟨rfl, hb⟩ := ha
            rw [unpackTo_stop hadd] at hp
            have HP2 := Lib.hid hp
            have HB := Lib.hid (HW.out.trans (hb.mono hsz))
            clear hp hb hadd
            go_wp2_with fail
            go_ret2
            exact unpacked_nil _ _ _ _ (unpackF_none (by omega) (by omega) HP2.out) HB.out
          | some l' =>
            rw [hadd] at ha
            obtain ⟨v', rfl, ho, hb⟩ := ha
            rw [unpackTo_cons hadd] at hp
            have hlen := addF_len hadd
            have HP2 := Lib.hid hp
            have HB := Lib.hid (HW.out.trans (hb.mono hsz))
            have HO2 := Lib.hid (ho.mono hsz)
            clear hp hb hadd ho
            go_wp2_with fail
            go_roundw
            case rel => exact ⟨k + 1, l', by omega, by go_num, hlen.2, HO2, HP2, HB⟩
            case measure => simp [intOf]; omega
        · obtain rfl : k = m := by omega
          have hp := HP.out
          rw [List.drop_eq_nil_of_le (by have := HX.out.len; omega), unpackTo] at hp
          have HP2 := Lib.hid hp
          clear hp
          obtain ⟨A1, cc, rfl, hri, hcap, hblk⟩ := own_ri HO.out
          clear hri hcap hblk
          by_cases hfew : (l.length : Int) < n
          · have e5 : decide ((l.length : Int) < n) = true := by simpa using hfew
            go_wp2_with fail
            go_ret2
            exact unpacked_nil _ _ _ _ (unpackF_few (by omega) (by omega) HP2.out hfew) HW.out
          · have e5 : decide ((l.length : Int) < n) = false := by simpa using hfew
            go_wp2_with fail
            go_ret2
            rw [unpackF_ok (by omega) (by omega) HP2.out (by omega)]
            exact ⟨_, rfl, HO.out, HW.out⟩
end Go.Proofs.YtcblibefmclloaaDoor
