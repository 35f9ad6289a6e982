import Derived.Test.YtcblibefmclloaaDoorReadBad
set_option linter.unusedVariables false
set_option linter.unusedSimpArgs false
namespace Go.Proofs.YtcblibefmclloaaDoor
open Go.RowKit
set_option maxRecDepth 100000 in
set_option maxHeartbeats 1000000 in
theorem readHead_bad (w : World) (g : Nat) (A : Option Addr) (c : Nat) (bs : List Int) (p : Nat) (hr : Rdr w g A c bs p) (ha : ∀ a, A = some a → a.block < w.heap.size) (hf : p + 14 ≤ 8 * bs.length) (hbad : 29 < numB bs p 5 ∨ 29 < numB bs (p + 5) 5) :
    Calls Tryd.prog 25 #[.pointer (some ⟨g, 0, none⟩)] w fun r w' => r = .returned (.tuple #[.slice none 0 0, .slice none 0 0, .int .i64 40]) ∧ Rdr w' g A c bs p ∧ Keeps [g] w w' := by
  have HR := Lib.hid hr
  have hsz := hr.size
  clear hr
  go_enter Tryd.func25, Tryd.ntmps25
  go_wp2_with fail
  refine (gone_calls _ _ _ _ _ _ HR.out).mono ?_
  rintro r w1 ⟨rfl, hd⟩
  have H1 := Lib.hid (HR.out.dr hd.keeps)
  have K1 := Lib.hid (hd.keeps (S := [g]))
  have HA1 : Hid (∀ a, A = some a → a.block < w1.heap.size) := fun a h => Nat.lt_of_lt_of_le (ha a h) (hd.keeps (S := [])).size
  clear hd HR ha
  go_wp2_with fail
  refine (read_bad _ _ _ _ _ _ H1.out HA1.out hf hbad).mono ?_
  rintro r w2 ⟨rfl, h2, k2⟩
  have H2 := Lib.hid h2
  have K2 := Lib.hid (K1.out.trans k2)
  clear h2 k2 H1 K1 HA1 hbad
  go_wp2_with fail
  refine (gone_calls _ _ _ _ _ _ H2.out).mono ?_
  rintro r w3 ⟨rfl, hd⟩
  have H3 := Lib.hid (H2.out.dr hd.keeps)
  have K3 := Lib.hid (K2.out.trans (hd.keeps (S := [g])))
  clear hd H2 K2
  go_wp2_with fail
  refine (back_calls' _ _ _ _ _ _ 14 _ (by omega) H3.out (by omega)).mono ?_
  rintro r w4 ⟨rfl, h4, k4⟩
  have H4 := Lib.hid h4
  have K4 := Lib.hid (K3.out.trans k4)
  clear h4 k4 H3 K3
  go_wp2_with fail
  go_ret3
  exact ⟨rfl, by simpa using H4.out, K4.out⟩
end Go.Proofs.YtcblibefmclloaaDoor
