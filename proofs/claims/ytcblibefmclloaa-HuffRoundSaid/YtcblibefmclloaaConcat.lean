import Derived.Test.YtcblibefmclloaaGrow
import Derived.Deep.Onto
set_option linter.unusedVariables false
set_option linter.unusedSimpArgs false
namespace Go.Proofs.Ytcblibefmclloaa
open Go.RowKit
set_option maxRecDepth 100000 in
set_option maxHeartbeats 1000000 in
theorem concat_calls (w : World) (gb : Nat) (A1 A2 : Option Addr) (n1 n2 c1 c2 : Nat) (xs ys : List Int) (h0 : w.cell? ⟨gb, 0, none⟩ = some (.slice A1 n1 c1)) (h1 : w.cell? ⟨gb, 1, none⟩ = some (.slice A2 n2 c2))
    (hx : RI .i64 w A1 n1 xs) (hy : RI .i64 w A2 n2 ys) (hnx : A1 = none → n1 = 0 ∧ c1 = 0) (hny : A2 = none → n2 = 0 ∧ c2 = 0) (hpx : ∀ ad, A1 = some ad → ∃ b o, ad = ⟨b, o, none⟩) (hpy : ∀ ad, A2 = some ad → ∃ b o, ad = ⟨b, o, none⟩)
    (hn1 : n1 ≤ 1000000000) (hn2 : n2 ≤ 1000000000) :
    Calls Try.prog 36 #[.slice (some ⟨gb, 0, none⟩) 2 2] w fun e w' => ∃ v, e = .returned v ∧ w'.ownsRow w.heap.size 3 1 v (n1 + n2) (ints .i64 (xs ++ ys)) ∧ Below w.heap.size w w' := by
  have HX := Lib.hid hx
  have HY := Lib.hid hy
  have NX := Lib.hid hnx
  have NY := Lib.hid hny
  have PX := Lib.hid hpx
  have PY := Lib.hid hpy
  have H0 := Lib.hid h0
  have H1 := Lib.hid h1
  have e1 : decide ((n1 : Int) < 0) = false := by simp
  have e2 : decide ((n1 : Int) + n2 < 0) = false := by simp; omega
  clear hx hy hnx hny hpx hpy
  go_enter Try.func36, Try.ntmps36
  go_wp2_with fail
  refine wp_loop_rounds 3 ?_
  rw [rounds_succ]
  go_wp2_with fail
  rw [rounds_succ]
  go_wp2_with fail
  rw [rounds_succ]
  go_wp2_with fail
  rw [show ((n1 : Int) + n2) = ((n1 + n2 : Nat) : Int) by omega]
  refine (grow_calls _ (n1 + n2) (by omega)).mono ?_
  rintro _ w1 ⟨v, rfl, ho, hb⟩
  have HO := Lib.hid (ho w.heap.size (Nat.le_refl _))
  have HB := Lib.hid hb
  have hz := hb.size
  have h0 := (Keeps.of_below (S := []) hb).cell (by simp) H0.out
  have h1 := (Keeps.of_below (S := []) hb).cell (by simp) H1.out
  clear ho hb e1 e2
  go_wp2_with fail
  refine wp_loop_rounds 3 ?_
  rw [rounds_succ]
  go_wp2_with (at_builtin; refine app_ints rfl (.tmp 31) (.tmp 32) rfl w.heap.size _ _ [] rfl HO.out A1 n1 c1 xs rfl (HX.out.keeps (Keeps.of_below (S := []) HB.out) (off_nil _)) NX.out PX.out (by omega) hz ?_)
  intro v2 w2 ho hg
  have HO2 := Lib.hid ho
  have hb2 := HB.out.grown hg (Nat.le_trans (Nat.le_refl _) hz) (fun k hk => own_lo HO.out k hk)
  have HB2 := Lib.hid hb2
  have hz2 := hb2.size
  have h0 := (Keeps.of_below (S := []) hb2).cell (by simp) H0.out
  have h1 := (Keeps.of_below (S := []) hb2).cell (by simp) H1.out
  clear ho hg hb2
  go_wp2_with fail
  rw [rounds_succ]
  go_wp2_with (at_builtin; refine app_ints rfl (.tmp 31) (.tmp 32) rfl w.heap.size _ _ _ rfl HO2.out A2 n2 c2 ys rfl (HY.out.keeps (Keeps.of_below (S := []) HB2.out) (off_nil _)) NY.out PY.out (by omega) hz2 ?_)
  intro v3 w3 ho hg
  have HO3 := Lib.hid ho
  have hb3 := HB2.out.grown hg hz2 (fun k hk => own_lo HO2.out k hk)
  have HB3 := Lib.hid hb3
  clear ho hg hb3 h0 h1
  go_wp2_with fail
  rw [rounds_succ]
  go_wp2_with fail
  go_ret
  exact ⟨_, rfl, HO3.out, HB3.out⟩
/-- The same, told of a world before. -/
theorem concat_from (w0 w : World) (gb : Nat) (A1 A2 : Option Addr) (n1 n2 c1 c2 : Nat) (xs ys : List Int) (hk : Keeps [] w0 w) (h0 : w.cell? ⟨gb, 0, none⟩ = some (.slice A1 n1 c1)) (h1 : w.cell? ⟨gb, 1, none⟩ = some (.slice A2 n2 c2))
    (hx : RI .i64 w0 A1 n1 xs) (hy : RI .i64 w0 A2 n2 ys) (hnx : A1 = none → n1 = 0 ∧ c1 = 0) (hny : A2 = none → n2 = 0 ∧ c2 = 0) (hpx : ∀ ad, A1 = some ad → ∃ b o, ad = ⟨b, o, none⟩) (hpy : ∀ ad, A2 = some ad → ∃ b o, ad = ⟨b, o, none⟩)
    (hn1 : n1 ≤ 1000000000) (hn2 : n2 ≤ 1000000000) :
    Calls Try.prog 36 #[.slice (some ⟨gb, 0, none⟩) 2 2] w fun e w' => ∃ A c, e = .returned (.slice A (n1 + n2) c) ∧ w'.ownsRow w0.heap.size 3 1 (.slice A (n1 + n2) c) (n1 + n2) (ints .i64 (xs ++ ys)) ∧ Keeps [] w0 w' := by
  refine (concat_calls w gb A1 A2 n1 n2 c1 c2 xs ys h0 h1 (hx.keeps hk (off_nil _)) (hy.keeps hk (off_nil _)) hnx hny hpx hpy hn1 hn2).mono ?_
  rintro e w' ⟨v, rfl, ho, hb⟩
  have ho2 := ho.mono hk.size
  have hf : ∃ A c, v = .slice A (n1 + n2) c := by
    rcases ho.2 with ⟨rfl, h0⟩ | ⟨g, cap, cur, rfl, _⟩
    · exact ⟨none, 0, by rw [h0]⟩
    · exact ⟨_, _, rfl⟩
  obtain ⟨A, c, rfl⟩ := hf
  exact ⟨A, c, rfl, ho2, hk.trans (Keeps.of_below hb)⟩
end Go.Proofs.Ytcblibefmclloaa
