import Derived.Test.YtcblibefmclloaaDoorRead1
set_option linter.unusedVariables false
set_option linter.unusedSimpArgs false
namespace Go.Proofs.YtcblibefmclloaaDoor
open Go.RowKit
set_option maxRecDepth 100000 in
set_option maxHeartbeats 1000000 in
theorem read_bad (w : World) (g : Nat) (A : Option Addr) (c : Nat) (bs : List Int) (p : Nat) (hr : Rdr w g A c bs p) (ha : ∀ a, A = some a → a.block < w.heap.size) (hf : p + 14 ≤ 8 * bs.length) (hbad : 29 < numB bs p 5 ∨ 29 < numB bs (p + 5) 5) :
    Calls Tryd.prog 58 #[.pointer (some ⟨g, 0, none⟩)] w fun r w' => r = .returned (.tuple #[.slice none 0 0, .slice none 0 0, .int .i64 40]) ∧ Rdr w' g A c bs (p + 14) ∧ Keeps [g] w w' := by
  have hg := hr.lt
  have H0 : Hid (Hd ((w.alloc (.cells #[.pointer (some ⟨g, 0, none⟩)] 38)).alloc (.cells #[.int .i64 0] 26)) w.heap.size (w.heap.size + 1) g A c bs p 0) := by
    have k1 : Keeps [] w ((w.alloc (.cells #[.pointer (some ⟨g, 0, none⟩)] 38)).alloc (.cells #[.int .i64 0] 26)) := ((Keeps.refl [] w).alloc _).alloc _
    exact ⟨hr.dr k1, ⟨by simp, by simp⟩, ⟨by simp, by simp⟩, hg, by omega, ha⟩
  have K0 : Hid (Keeps [g, w.heap.size + 1] w ((w.alloc (.cells #[.pointer (some ⟨g, 0, none⟩)] 38)).alloc (.cells #[.int .i64 0] 26))) := ((Keeps.refl _ w).alloc _).alloc _
  have b1 := numB_lt bs p 5
  have b2 := numB_lt bs (p + 5) 5
  have b3 := numB_lt bs (p + 10) 4
  have p5 : (2 : Int) ^ 5 = 32 := rfl
  have p4 : (2 : Int) ^ 4 = 16 := rfl
  rw [p5] at b1 b2
  rw [p4] at b3
  clear hr ha p5 p4
  go_enter Tryd.func58, Tryd.ntmps58
  go_wp2_with fail
  refine (read1_ok _ _ _ g A c bs p 5 0 H0.out (by omega) (by omega)).mono ?_
  rintro r w1 ⟨rfl, h1, k1⟩
  have H1 := Lib.hid h1
  have K1 := Lib.hid (K0.out.trans k1)
  clear h1 k1 H0 K0
  go_wp2_with fail
  refine (read1_ok _ _ _ g A c bs (p + 5) 5 0 H1.out (by omega) (by omega)).mono ?_
  rintro r w2 ⟨rfl, h1, k1⟩
  have H2 := Lib.hid h1
  have K2 := Lib.hid (K1.out.then k1 (by simp))
  clear h1 k1 H1 K1
  go_wp2_with fail
  refine (read1_ok _ _ _ g A c bs (p + 5 + 5) 4 0 H2.out (by omega) (by omega)).mono ?_
  rintro r w3 ⟨rfl, h1, k1⟩
  have ce := h1.bxe.cell
  have fe := h1.bxe.free
  have H3 := Lib.hid h1
  have K3 := Lib.hid (K2.out.then k1 (by simp))
  clear h1 k1 H2 K2
  by_cases hb1 : 29 < numB bs p 5
  · go_wp2_with fail
    have H4 := Lib.hid (H3.out.set 40)
    have c4 := H4.out.bxe.cell
    refine bodyPost_ret (v := .tuple #[.slice none 0 0, .slice none 0 0, .int .i64 40]) (by simp [results, Tryd.results58, go_sem, c4]) rfl ⟨rfl, H4.out.rd, ?_⟩
    exact ⟨K3.out.os, K3.out.tape, K3.out.output, by simpa [World.setCell] using K3.out.size, fun k hk hn => ((K3.out.setCell (p := ⟨w.heap.size + 1, 0, none⟩) (Or.inl (by simp)) (.int .i64 40)).block k hk (by simp at hn ⊢; omega))⟩
  · have hb2 : 29 < numB bs (p + 5) 5 := by omega
    go_wp2_with fail
    have H4 := Lib.hid (H3.out.set 40)
    have c4 := H4.out.bxe.cell
    refine bodyPost_ret (v := .tuple #[.slice none 0 0, .slice none 0 0, .int .i64 40]) (by simp [results, Tryd.results58, go_sem, c4]) rfl ⟨rfl, H4.out.rd, ?_⟩
    exact ⟨K3.out.os, K3.out.tape, K3.out.output, by simpa [World.setCell] using K3.out.size, fun k hk hn => ((K3.out.setCell (p := ⟨w.heap.size + 1, 0, none⟩) (Or.inl (by simp)) (.int .i64 40)).block k hk (by simp at hn ⊢; omega))⟩
end Go.Proofs.YtcblibefmclloaaDoor
