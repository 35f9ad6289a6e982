import Derived.Test.YtcblibefmclloaaPk
set_option linter.unusedVariables false
set_option linter.unusedSimpArgs false
namespace Go.Proofs.Ytcblibefmclloaa
open Go.RowKit
/-- Two places exchanged. -/
def swp (L : List Pk) (i j : Nat) : List Pk := (L.set i (kth L j)).set j (kth L i)
theorem swp_length (L : List Pk) (i j : Nat) : (swp L i j).length = L.length := by simp [swp]
/-- So many exchanged. -/
def swpN (L : List Pk) (a b : Nat) : Nat → List Pk
  | 0 => L
  | n + 1 => swp (swpN L a b n) (a + n) (b + n)
theorem swpN_length (L : List Pk) (a b n : Nat) : (swpN L a b n).length = L.length := by
  induction n with
  | zero => rfl
  | succ n ih => rw [swpN, swp_length, ih]
theorem set_two (L : List Pk) (i j : Nat) (hi : i < L.length) (hj : j < L.length) (w : World) (g : Nat) (R : List Value) (h : PB w g L R) (hij : i ≠ j) :
    PB ((((w.setCell ⟨g, i * 2, none⟩ (.int .i64 (kth L j).w)).setCell ⟨g, i * 2 + 1, none⟩ (.slice (kth L j).a (kth L j).n (kth L j).c)).setCell ⟨g, j * 2, none⟩ (.int .i64 (kth L i).w)).setCell ⟨g, j * 2 + 1, none⟩ (.slice (kth L i).a (kth L i).n (kth L i).c)) g (swp L i j) R :=
  (h.set hi (kth L j)).set (by simpa using hj) (kth L i)
set_option maxRecDepth 100000 in
set_option maxHeartbeats 1000000 in
theorem swapRange_calls (w : World) (g : Nat) (L : List Pk) (R : List Value) (m c a b n : Nat) (fv : Value) (h : PB w g L R) (hm : m = L.length) (hab : a + n ≤ b) (hb : b + n ≤ m) (hsz : m ≤ 1000000) :
    Calls Try.prog 49 #[.slice (some ⟨g, 0, none⟩) m c, .int .i64 a, .int .i64 b, .int .i64 n, fv] w fun e w' => e = .returned (.tuple #[]) ∧ PB w' g (swpN L a b n) R ∧ Keeps [g] w w' := by
  have H := Lib.hid h
  have HM := Lib.hid hm
  clear h hm
  go_enter Try.func49, Try.ntmps49
  go_wp2_with fail
  go_loopw [10] (fun i wr => ∃ k : Nat, k ≤ n ∧ i = .int .i64 k ∧ Hid (PB wr g (swpN L a b k) R) ∧ Hid (Keeps [g] w wr)) (fun i _ => n - (intOf i).toNat)
  case atStart => exact ⟨0, by omega, rfl, H, Lib.hid (Keeps.refl _ _)⟩
  case round =>
    obtain ⟨k, hk, rfl, HB, HK⟩ := hrel
    by_cases hlt : k < n
    · have hl := swpN_length L a b k
      have HL := Lib.hid hl
      have HS : Hid (swpN L a b (k + 1) = swp (swpN L a b k) (a + k) (b + k)) := rfl
      clear hl
      generalize swpN L a b k = M at *
      obtain ⟨p1, p2⟩ := HB.out.cell (j := a + k) (by have := HL.out; have := HM.out; omega)
      obtain ⟨q1, q2⟩ := HB.out.cell (j := b + k) (by have := HL.out; have := HM.out; omega)
      have f1 := HB.out.free ((a + k) * 2)
      have f2 := HB.out.free ((a + k) * 2 + 1)
      have f3 := HB.out.free ((b + k) * 2)
      have f4 := HB.out.free ((b + k) * 2 + 1)
      have s1 : ((a : Int) + k).toNat = a + k := by omega
      have s2 : ((b : Int) + k).toNat = b + k := by omega
      have s3 : (0 : Int) ≤ (a : Int) + k := by omega
      have s4 : (0 : Int) ≤ (b : Int) + k := by omega
      have s5 : (a : Int) + k < (m : Int) := by omega
      have s6 : (b : Int) + k < (m : Int) := by omega
      go_wp2_with fail
      go_region
      go_wp2_with fail
      go_roundw
      case rel =>
        refine ⟨k + 1, by omega, by go_num, Lib.hid ?_, Lib.hid ?_⟩
        · rw [HS.out]
          exact (set_two M (a + k) (b + k) (by have := HL.out; have := HM.out; omega) (by have := HL.out; have := HM.out; omega) _ g R HB.out (by omega)).dr (Dr.refl _).drew
        · exact ((((HK.out.put _).put _).put _).put _).drew
      case measure => simp [intOf]; omega
    · obtain rfl : k = n := by omega
      go_wp2_with fail
      go_end0
      exact ⟨rfl, HB.out, HK.out⟩
end Go.Proofs.Ytcblibefmclloaa
