import Derived.Test.YtcblibefmclloaaDoorIStrA
import Derived.Test.YtcblibefmclloaaDoorIStrB
import Derived.Deep.RegionLaw
import Derived.Test.YtcblibefmclloaaDoorIStrC
import Derived.Deep.Onto
import Derived.Test.YtcblibefmclloaaDoorIStrE
import Derived.Test.YtcblibefmclloaaDoorIStrD
import Derived.Test.YtcblibefmclloaaDoorIStrF
import Derived.StillTailTactics
import Derived.WalkMore
set_option linter.unusedVariables false
set_option linter.unusedSimpArgs false
namespace Go.Proofs.YtcblibefmclloaaDoor
open Go.RowKit
theorem arr19 : Tryd.prog.underlying 77 = some (.array (Tryd.prog.arrayLen 77) (Tryd.prog.elem 77)) := by kernel_rfl
theorem len19 : Tryd.prog.arrayLen 77 = 19 := by kernel_rfl
theorem elem19 : Tryd.prog.elem 77 = 3 := by kernel_rfl
theorem slice_arr (w : World) (b mn : Nat) (h : mn ≤ 19) : (Instr.sliceAt 77 (.pointer (some ⟨b, 0, none⟩)) none (some (.int .i64 mn)) none).run Tryd.prog w = .ok (.slice (some ⟨b, 0, none⟩) mn 19) w := by
  rw [run_sliceAt_array_h w 77 ⟨b, 0, none⟩ arr19 .i64 (mn : Int) (by omega) (by rw [len19]; omega), elem19, len19]
  obtain ⟨i0, hi, hz0, hz1, hz2⟩ := info_parts info_int
  simp [sizeOf, typeInfo, hi, hz1, slicedAt, go_sem]
end Go.Proofs.YtcblibefmclloaaDoor

set_option linter.unusedVariables false
set_option linter.unusedSimpArgs false
namespace Go.Proofs.YtcblibefmclloaaDoor
open Go.RowKit
/-- A block of one cell, not frozen. -/
structure Box (w : World) (b : Nat) (v : Value) : Prop where
  cell : w.cell? ⟨b, 0, none⟩ = some v
  free : w.frozen? ⟨b, 0, none⟩ = false
theorem Box.lt {w : World} {b : Nat} {v : Value} (h : Box w b v) : b < w.heap.size := World.block_lt_of_cell? _ _ h.cell
theorem Box.keeps {S : List Nat} {w w' : World} {b : Nat} {v : Value} (h : Box w b v) (hk : Keeps S w w') (hn : b ∉ S) : Box w' b v :=
  ⟨hk.cell (p := ⟨b, 0, none⟩) hn h.cell, (hk.frozen (p := ⟨b, 0, none⟩) h.lt hn).trans h.free⟩
theorem Box.set {w : World} {b : Nat} {v : Value} (h : Box w b v) (u : Value) : Box (w.setCell ⟨b, 0, none⟩ u) b u :=
  ⟨World.cell?_setCell_same' _ _ _ (by rw [h.cell]; rfl), by simpa using h.free⟩
/-- What the head's reader holds: the reader, its box, the box of what is wrong. -/
structure Hd (w : World) (rb eb g : Nat) (A : Option Addr) (c : Nat) (bs : List Int) (p : Nat) (e : Int) : Prop where
  rd : Rdr w g A c bs p
  bxr : Box w rb (.pointer (some ⟨g, 0, none⟩))
  bxe : Box w eb (.int .i64 e)
  hgr : g < rb
  hre : rb < eb
  ha : ∀ a, A = some a → a.block < rb
theorem Hd.offE {w : World} {rb eb g : Nat} {A : Option Addr} {c : Nat} {bs : List Int} {p : Nat} {e : Int} (h : Hd w rb eb g A c bs p e) : Off [eb] A := by
  intro a ha; have := h.ha a ha; have := h.hre; simp; omega
theorem Hd.take {w w' : World} {rb eb g : Nat} {A : Option Addr} {c : Nat} {bs : List Int} {p q : Nat} {e : Int} (h : Hd w rb eb g A c bs p e) (hr : Rdr w' g A c bs q) (hk : Keeps [g] w w') : Hd w' rb eb g A c bs q e :=
  ⟨hr, h.bxr.keeps hk (by have := h.hgr; simp; omega), h.bxe.keeps hk (by have := h.hgr; have := h.hre; simp; omega), h.hgr, h.hre, h.ha⟩
theorem Hd.keeps {S : List Nat} {w w' : World} {rb eb g : Nat} {A : Option Addr} {c : Nat} {bs : List Int} {p : Nat} {e : Int} (h : Hd w rb eb g A c bs p e) (hk : Keeps S w w') (h1 : g ∉ S) (h2 : rb ∉ S) (h3 : eb ∉ S) (h4 : Off S A) : Hd w' rb eb g A c bs p e :=
  ⟨h.rd.keeps hk h1 h4, h.bxr.keeps hk h2, h.bxe.keeps hk h3, h.hgr, h.hre, h.ha⟩
theorem Hd.set {w : World} {rb eb g : Nat} {A : Option Addr} {c : Nat} {bs : List Int} {p : Nat} {e : Int} (h : Hd w rb eb g A c bs p e) (e' : Int) : Hd (w.setCell ⟨eb, 0, none⟩ (.int .i64 e')) rb eb g A c bs p e' :=
  have hk : Keeps [eb] w (w.setCell ⟨eb, 0, none⟩ (.int .i64 e')) := (Keeps.refl _ _).setCell (Or.inl (by simp)) _
  ⟨h.rd.keeps hk (by have := h.hgr; have := h.hre; simp; omega) h.offE, h.bxr.keeps hk (by have := h.hre; simp; omega), h.bxe.set _, h.hgr, h.hre, h.ha⟩
set_option maxHeartbeats 400000 in
theorem read1_ok (w : World) (rb eb g : Nat) (A : Option Addr) (c : Nat) (bs : List Int) (p n : Nat) (e : Int) (h : Hd w rb eb g A c bs p e) (hn : n ≤ 32) (hf : p + n ≤ 8 * bs.length) :
    Calls Tryd.prog 79 #[.int .i64 n, .pointer (some ⟨rb, 0, none⟩), .pointer (some ⟨eb, 0, none⟩)] w fun r w' => r = .returned (.int .i64 (numB bs p n)) ∧ Hd w' rb eb g A c bs (p + n) e ∧ Keeps [g, eb] w w' := by
  have c1 := h.bxr.cell
  have H := Lib.hid h
  clear h
  have hb := numB_lt bs p n
  have hb2 := pow32 n hn
  have e1 : IntKind.i64.wrap (numB bs p n) = numB bs p n := IntWalk.i64_in _ (by omega)
  go_enter Tryd.func79, Tryd.ntmps79
  go_wp2_with fail
  refine (take_calls _ _ _ _ _ _ _ H.out.rd hn hf).mono ?_
  rintro r w' ⟨rfl, hr2, hk⟩
  have h2 := H.out.take hr2 hk
  have c2 := h2.bxe.cell
  have f2 := h2.bxe.free
  have H2 := Lib.hid h2
  have HK := Lib.hid hk
  clear hr2 hk c1 h2 H
  by_cases he : e = 0
  · subst he
    go_wp2_with fail
    go_ret
    exact ⟨rfl, H2.out.set 0, (HK.out.mono (by simp)).setCell (Or.inl (by simp)) _⟩
  · have e2 : (e == 0) = false := by simpa using he
    go_wp2_with fail
    go_ret
    exact ⟨rfl, H2.out, HK.out.mono (by simp)⟩
set_option maxHeartbeats 400000 in
theorem read1_end (w : World) (rb eb g : Nat) (A : Option Addr) (c : Nat) (bs : List Int) (p n : Nat) (e : Int) (h : Hd w rb eb g A c bs p e) (hn : n ≤ 32) (hf : 8 * bs.length < p + n) :
    Calls Tryd.prog 79 #[.int .i64 n, .pointer (some ⟨rb, 0, none⟩), .pointer (some ⟨eb, 0, none⟩)] w fun r w' => r = .returned (.int .i64 0) ∧ Hd w' rb eb g A c bs p (if e = 0 then 10 else e) ∧ Keeps [g, eb] w w' := by
  have c1 := h.bxr.cell
  have H := Lib.hid h
  clear h
  go_enter Tryd.func79, Tryd.ntmps79
  go_wp2_with fail
  refine (take_end _ _ _ _ _ _ _ H.out.rd hn hf).mono ?_
  rintro r w' ⟨rfl, hk⟩
  have h2 := H.out.keeps hk.keeps (S := []) (by simp) (by simp) (by simp) (off_nil _)
  have c2 := h2.bxe.cell
  have f2 := h2.bxe.free
  have H2 := Lib.hid h2
  have HK := Lib.hid hk
  clear hk c1 h2 H
  by_cases he : e = 0
  · subst he
    go_wp2_with fail
    go_ret
    exact ⟨rfl, by first | exact H2.out.set 10 | (rw [if_pos rfl]; exact H2.out.set 10), (HK.out.keeps).setCell (Or.inl (by simp)) _⟩
  · have e2 : (e == 0) = false := by simpa using he
    go_wp2_with fail
    go_ret
    exact ⟨rfl, by first | exact H2.out | (rw [if_neg he]; exact H2.out), HK.out.keeps⟩
end Go.Proofs.YtcblibefmclloaaDoor

set_option linter.unusedVariables false
set_option linter.unusedSimpArgs false
namespace Go.Proofs.YtcblibefmclloaaDoor
open Go.RowKit
set_option maxRecDepth 100000 in
set_option maxHeartbeats 1000000 in
theorem read_bad (w : World) (g : Nat) (A : Option Addr) (c : Nat) (bs : List Int) (p : Nat) (hr : Rdr w g A c bs p) (ha : ∀ a, A = some a → a.block < w.heap.size) (hf : p + 14 ≤ 8 * bs.length) (hbad : 29 < numB bs p 5 ∨ 29 < numB bs (p + 5) 5) :
    Calls Tryd.prog 58 #[.pointer (some ⟨g, 0, none⟩)] w fun r w' => r = .returned (.tuple #[.slice none 0 0, .slice none 0 0, .int .i64 40]) ∧ Rdr w' g A c bs (p + 14) ∧ Keeps [g] w w' := by
  have hg := hr.lt
  have H0 : Hid (Hd ((w.alloc (.cells #[.pointer (some ⟨g, 0, none⟩)] 38)).alloc (.cells #[.int .i64 0] 26)) w.heap.size (w.heap.size + 1) g A c bs p 0) := by
    have k1 : Keeps [] w ((w.alloc (.cells #[.pointer (some ⟨g, 0, none⟩)] 38)).alloc (.cells #[.int .i64 0] 26)) := ((Keeps.refl [] w).alloc _).alloc _
    exact ⟨hr.dr k1, ⟨by simp, by simp⟩, ⟨by simp, by simp⟩, hg, by omega, ha⟩
  have K0 : Hid (Keeps [g, w.heap.size + 1] w ((w.alloc (.cells #[.pointer (some ⟨g, 0, none⟩)] 38)).alloc (.cells #[.int .i64 0] 26))) := ((Keeps.refl _ w).alloc _).alloc _
  have b1 := numB_lt bs p 5
  have b2 := numB_lt bs (p + 5) 5
  have b3 := numB_lt bs (p + 10) 4
  have p5 : (2 : Int) ^ 5 = 32 := rfl
  have p4 : (2 : Int) ^ 4 = 16 := rfl
  rw [p5] at b1 b2
  rw [p4] at b3
  clear hr ha p5 p4
  go_enter Tryd.func58, Tryd.ntmps58
  go_wp2_with fail
  refine (read1_ok _ _ _ g A c bs p 5 0 H0.out (by omega) (by omega)).mono ?_
  rintro r w1 ⟨rfl, h1, k1⟩
  have H1 := Lib.hid h1
  have K1 := Lib.hid (K0.out.trans k1)
  clear h1 k1 H0 K0
  go_wp2_with fail
  refine (read1_ok _ _ _ g A c bs (p + 5) 5 0 H1.out (by omega) (by omega)).mono ?_
  rintro r w2 ⟨rfl, h1, k1⟩
  have H2 := Lib.hid h1
  have K2 := Lib.hid (K1.out.then k1 (by simp))
  clear h1 k1 H1 K1
  go_wp2_with fail
  refine (read1_ok _ _ _ g A c bs (p + 5 + 5) 4 0 H2.out (by omega) (by omega)).mono ?_
  rintro r w3 ⟨rfl, h1, k1⟩
  have ce := h1.bxe.cell
  have fe := h1.bxe.free
  have H3 := Lib.hid h1
  have K3 := Lib.hid (K2.out.then k1 (by simp))
  clear h1 k1 H2 K2
  by_cases hb1 : 29 < numB bs p 5
  · go_wp2_with fail
    have H4 := Lib.hid (H3.out.set 40)
    have c4 := H4.out.bxe.cell
    refine bodyPost_ret (v := .tuple #[.slice none 0 0, .slice none 0 0, .int .i64 40]) (by simp [results, Tryd.results58, go_sem, c4]) rfl ⟨rfl, H4.out.rd, ?_⟩
    exact ⟨K3.out.os, K3.out.tape, K3.out.output, by simpa [World.setCell] using K3.out.size, fun k hk hn => ((K3.out.setCell (p := ⟨w.heap.size + 1, 0, none⟩) (Or.inl (by simp)) (.int .i64 40)).block k hk (by simp at hn ⊢; omega))⟩
  · have hb2 : 29 < numB bs (p + 5) 5 := by omega
    go_wp2_with fail
    have H4 := Lib.hid (H3.out.set 40)
    have c4 := H4.out.bxe.cell
    refine bodyPost_ret (v := .tuple #[.slice none 0 0, .slice none 0 0, .int .i64 40]) (by simp [results, Tryd.results58, go_sem, c4]) rfl ⟨rfl, H4.out.rd, ?_⟩
    exact ⟨K3.out.os, K3.out.tape, K3.out.output, by simpa [World.setCell] using K3.out.size, fun k hk hn => ((K3.out.setCell (p := ⟨w.heap.size + 1, 0, none⟩) (Or.inl (by simp)) (.int .i64 40)).block k hk (by simp at hn ⊢; omega))⟩
end Go.Proofs.YtcblibefmclloaaDoor

set_option linter.unusedVariables false
set_option linter.unusedSimpArgs false
namespace Go.Proofs.YtcblibefmclloaaDoor
open Go.RowKit
set_option maxRecDepth 100000 in
set_option maxHeartbeats 1000000 in
theorem readHead_bad (w : World) (g : Nat) (A : Option Addr) (c : Nat) (bs : List Int) (p : Nat) (hr : Rdr w g A c bs p) (ha : ∀ a, A = some a → a.block < w.heap.size) (hf : p + 14 ≤ 8 * bs.length) (hbad : 29 < numB bs p 5 ∨ 29 < numB bs (p + 5) 5) :
    Calls Tryd.prog 25 #[.pointer (some ⟨g, 0, none⟩)] w fun r w' => r = .returned (.tuple #[.slice none 0 0, .slice none 0 0, .int .i64 40]) ∧ Rdr w' g A c bs p ∧ Keeps [g] w w' := by
  have HR := Lib.hid hr
  have hsz := hr.size
  clear hr
  go_enter Tryd.func25, Tryd.ntmps25
  go_wp2_with fail
  refine (gone_calls _ _ _ _ _ _ HR.out).mono ?_
  rintro r w1 ⟨rfl, hd⟩
  have H1 := Lib.hid (HR.out.dr hd.keeps)
  have K1 := Lib.hid (hd.keeps (S := [g]))
  have HA1 : Hid (∀ a, A = some a → a.block < w1.heap.size) := fun a h => Nat.lt_of_lt_of_le (ha a h) (hd.keeps (S := [])).size
  clear hd HR ha
  go_wp2_with fail
  refine (read_bad _ _ _ _ _ _ H1.out HA1.out hf hbad).mono ?_
  rintro r w2 ⟨rfl, h2, k2⟩
  have H2 := Lib.hid h2
  have K2 := Lib.hid (K1.out.trans k2)
  clear h2 k2 H1 K1 HA1 hbad
  go_wp2_with fail
  refine (gone_calls _ _ _ _ _ _ H2.out).mono ?_
  rintro r w3 ⟨rfl, hd⟩
  have H3 := Lib.hid (H2.out.dr hd.keeps)
  have K3 := Lib.hid (K2.out.trans (hd.keeps (S := [g])))
  clear hd H2 K2
  go_wp2_with fail
  refine (back_calls' _ _ _ _ _ _ 14 _ (by omega) H3.out (by omega)).mono ?_
  rintro r w4 ⟨rfl, h4, k4⟩
  have H4 := Lib.hid h4
  have K4 := Lib.hid (K3.out.trans k4)
  clear h4 k4 H3 K3
  go_wp2_with fail
  go_ret3
  exact ⟨rfl, by simpa using H4.out, K4.out⟩
end Go.Proofs.YtcblibefmclloaaDoor

set_option linter.unusedVariables false
set_option linter.unusedSimpArgs false
namespace Go.Proofs.YtcblibefmclloaaDoor
open Go.RowKit
set_option maxRecDepth 100000 in
set_option maxHeartbeats 1000000 in
theorem mul64_calls (w : World) (m : Nat) (hm : m ≤ 1000000) :
    Calls Tryd.prog 114 #[.int .u64 1, .int .u64 m] w fun e w' => e = .returned (.tuple #[.int .u64 0, .int .u64 m]) ∧ w = w' := by
  have e1 : Go.bits .and .u64 1 4294967295 = 1 := by rw [u64_mask32 _ (by omega) (by omega)]; rfl
  have e2 : Go.bits .and .u64 0 4294967295 = 0 := by rw [u64_mask32 _ (by omega) (by omega)]; rfl
  have e3 : Go.bits .and .u64 (m : Int) 4294967295 = m := by rw [u64_mask32 _ (by omega) (by omega)]; omega
  have e4 : IntKind.u64.wrap (m : Int) = m := wraps_u64 _ (by omega) (by omega)
  have e5 : (m : Int) / 4294967296 = 0 := by omega
  have e6 : IntKind.u64.wrap 0 = 0 := rfl
  go_enter Tryd.func114, Tryd.ntmps114
  go_wp2
  go_ret2
  exact ⟨rfl, rfl⟩
set_option maxRecDepth 100000 in
set_option maxHeartbeats 1000000 in
theorem mul_calls (w : World) (m : Nat) (hm : m ≤ 1000000) :
    Calls Tryd.prog 104 #[.int .u64 1, .int .u64 m] w fun e w' => e = .returned (.tuple #[.int .u64 0, .int .u64 m]) ∧ w = w' := by
  go_enter Tryd.func104, Tryd.ntmps104
  go_wp2_with fail
  refine (mul64_calls _ _ hm).mono ?_
  rintro e w' ⟨rfl, rfl⟩
  go_wp2_with fail
  go_ret2
  exact ⟨rfl, rfl⟩
end Go.Proofs.YtcblibefmclloaaDoor

set_option linter.unusedVariables false
set_option linter.unusedSimpArgs false
namespace Go.Proofs.YtcblibefmclloaaDoor
open Go.RowKit
theorem ints_one (k : IntKind) (xs : List Int) : ∀ v ∈ ints k xs, v.oneCell' = true := by
  intro u hu; simp only [ints, List.mem_map] at hu; obtain ⟨x, _, rfl⟩ := hu; rfl
theorem rep_src {w : World} {g t k m : Nat} {v : Int} (h : Blk w g t (ints .i64 (List.replicate k v ++ List.replicate m 0))) (j : Nat) (hj : j ≤ k) :
    ∀ i u, (ints .i64 (List.replicate j v))[i]? = some u → w.cell? ((⟨g, 0, none⟩ : Addr).add i) = some u := by
  intro i u hu
  have hi : i < j := by have := (List.getElem?_eq_some_iff.1 hu).1; simpa [ints] using this
  rw [add_plain, h.cell]
  rw [ints_getElem?] at hu ⊢
  rw [List.getElem?_append_left (by simp; omega)]
  simpa [hi, show i < k by omega] using hu
theorem rep_fit {k m q : Nat} {v : Int} (h2 : q ≤ m - k) (h : k < m) : k + (ints .i64 (List.replicate q v)).length ≤ (ints .i64 (List.replicate k v ++ List.replicate (m - k) 0)).length := by
  simp [ints]; omega
theorem rep_splice {k m q : Nat} {v : Int} (h2 : q ≤ m - k) (h : k < m) : splice (ints .i64 (List.replicate k v ++ List.replicate (m - k) 0)) k (ints .i64 (List.replicate q v)) = ints .i64 (List.replicate (k + q) v ++ List.replicate (m - (k + q)) 0) := by
  have e1 : List.replicate (k + q) v = List.replicate k v ++ List.replicate q v := by simp
  rw [e1]
  simp only [splice, ints, List.map_append, List.map_replicate, List.length_replicate, List.append_assoc]
  rw [List.take_append_of_le_length (by simp), List.drop_append]
  simp
  omega
set_option maxRecDepth 100000 in
set_option maxHeartbeats 1000000 in
theorem repeat_calls (w : World) (b c m : Nat) (v : Int) (hc : w.cell? ⟨b, 0, none⟩ = some (.int .i64 v)) (hm1 : 1 ≤ m) (hm : m ≤ 1000000) :
    Calls Tryd.prog 77 #[.slice (some ⟨b, 0, none⟩) 1 c, .int .i64 m] w fun e w' => ∃ g, e = .returned (.slice (some ⟨g, 0, none⟩) m m) ∧ Blk w' g 3 (ints .i64 (List.replicate m v)) ∧ w.heap.size ≤ g ∧ Below w.heap.size w w' := by
  have hbl : b < w.heap.size := World.block_lt_of_cell? _ _ hc
  have e0 : IntKind.u64.wrap (m : Int) = m := wraps_u64 _ (by omega) (by omega)
  have e1 : IntKind.u64.wrap 1 = 1 := rfl
  have e2 : decide ((0 : Int) < 0) = false := rfl
  have e4 : decide ((m : Int) < 0) = false := by simp
  have hmk := fun w => make_ints (P := Tryd.prog) w 22 3 .i64 8 Tryd.underlying22 info_int (m : Int) m rfl (by omega) (by omega)
  go_enter Tryd.func77, Tryd.ntmps77
  go_wp2_with fail
  refine (mul_calls _ _ hm).mono ?_
  rintro e w' ⟨rfl, rfl⟩
  have e3 : decide ((9223372036854775807 : Int) < (m : Int)) = false := by simp; omega
  go_wp2_with (with_reducible refine wpList_copy_splice rfl (.tmp 31) (.tmp 32) _ _ rfl 3 Tryd.underlying22 size_int _ _ _ _ _ _ rfl rfl w.heap.size 0 (ints .i64 (List.replicate m 0)) 3 ?h1 (ints .i64 [v]) ?h2 ?h3 ?h4 ?h5 w.heap.size w ?h6 (Nat.le_refl _) ?_)
  case h1 => exact blk_new w _ _
  case h2 => exact (Nat.min_eq_left hm1).symm
  case h3 =>
    intro _ j u hu
    match j, hu with
    | 0, hu =>
      simp [ints] at hu
      subst hu
      exact hc
    | j + 1, hu => simp [ints] at hu
  case h4 => simp [ints]; omega
  case h5 => intro u hu; simp only [ints, List.mem_map] at hu; obtain ⟨x, _, rfl⟩ := hu; rfl
  case h6 => exact (Below.refl _ _).alloc (Nat.le_refl _) _
  intro w1 hg1 hb1
  have hB : Blk w1 w.heap.size 3 (splice (ints .i64 (List.replicate m 0)) 0 (ints .i64 [v])) := hg1.out
  have hsp : splice (ints .i64 (List.replicate m 0)) 0 (ints .i64 [v]) = ints .i64 (List.replicate 1 v ++ List.replicate (m - 1) 0) := by
    simp [splice, ints]
  rw [hsp] at hB
  clear hg1 hsp hmk hc
  have HB := Lib.hid hB
  have HW := Lib.hid hb1
  clear hB hb1 e0 e1 e2 e3 e4
  go_wp2_with fail
  go_loopw [8] (fun v8 wr => ∃ k : Nat, 1 ≤ k ∧ k ≤ m ∧ v8 = .int .i64 k ∧ Hid (Blk wr w.heap.size 3 (ints .i64 (List.replicate k v ++ List.replicate (m - k) 0))) ∧ Hid (Below w.heap.size w wr)) (fun v8 _ => m - (intOf v8).toNat)
  case atStart => exact ⟨1, by omega, by omega, by go_num, HB, HW⟩
  case round =>
    clear HB HW
    obtain ⟨k, hk1, hk, rfl, HB, HW⟩ := hrel
    by_cases hlt : k < m
    · go_wp2_with fail
      have HLT := Lib.hid hlt
      obtain ⟨q, hq⟩ : ∃ q, q = Nat.min k (m - k) := ⟨_, rfl⟩
      have hq1 : 1 ≤ q := by rw [hq]; exact Nat.le_min.2 ⟨hk1, by omega⟩
      have hq2 : q ≤ m - k := by rw [hq]; exact Nat.min_le_right _ _
      have hq3 : q ≤ k := by rw [hq]; exact Nat.min_le_left _ _
      have HQ := Lib.hid hq
      clear hq
      have hlen : (ints .i64 (List.replicate q v)).length = q := by simp [ints]
      have HLEN := Lib.hid hlen
      have e2 : IntKind.i64.wrap ((k : Int) + (q : Int)) = (k : Int) + (q : Int) := IntWalk.i64_in _ (by omega)
      have e9 : ¬ m = k := by omega
      have HN := Lib.hid e9
      go_region_law (refine step_copy_splice rfl (.tmp 41) (.tmp 44) _ _ rfl 3 Tryd.underlying22 size_int (some ⟨w.heap.size, k, none⟩) (some ⟨w.heap.size, 0, none⟩) (m - k) (m - k) k m (by simp [Act.eval, Act.put, HN.out]) (by simp [Act.eval, Act.put]) w.heap.size k (ints .i64 (List.replicate k v ++ List.replicate (m - k) 0)) 3 (by exact HB.out) (ints .i64 (List.replicate q v)) (by exact HLEN.out.trans HQ.out) (fun _ => ⟨rfl, _, rfl, by exact rep_src HB.out _ hq3⟩) (by exact rep_fit hq2 HLT.out) (by exact ints_one _ _) w.heap.size w (by exact HW.out.drew) (Nat.le_refl _) ?_; intro w4 hg4 hb4)
      all_goals
        have hB4 : Blk w4 w.heap.size 3 (splice (ints .i64 (List.replicate k v ++ List.replicate (m - k) 0)) k (ints .i64 (List.replicate q v))) := hg4.out
        rw [rep_splice hq2 HLT.out] at hB4
        have HB4 := Lib.hid hB4
        have HW4 := Lib.hid hb4
        clear hB4 hb4 hg4 HB HW e9 hlen e2
        go_wp2_with fail
        go_roundw
        case rel => exact ⟨.int .i64 ((k : Int) + q), _, _, _, _, _, _, _, _, _, _, _, _, _, ⟨k + q, by omega, by omega, by go_num, HB4, HW4⟩, rfl⟩
        case measure =>
          show m - (intOf (.int .i64 ((k : Int) + q))).toNat < m - (intOf (.int .i64 (k : Int))).toNat
          simp [intOf]; omega
    · go_wp2_with fail
      obtain rfl : k = m := by omega
      go_ret
      exact ⟨_, rfl, by simpa using HB.out, Nat.le_refl _, HW.out⟩
theorem repeat_calls' (w : World) (b c m : Nat) (mi v : Int) (hmi : mi = m) (hc : w.cell? ⟨b, 0, none⟩ = some (.int .i64 v)) (hm1 : 1 ≤ m) (hm : m ≤ 1000000) :
    Calls Tryd.prog 77 #[.slice (some ⟨b, 0, none⟩) 1 c, .int .i64 mi] w fun e w' => ∃ g, e = .returned (.slice (some ⟨g, 0, none⟩) m m) ∧ Blk w' g 3 (ints .i64 (List.replicate m v)) ∧ w.heap.size ≤ g ∧ Below w.heap.size w w' := by
  subst hmi
  exact repeat_calls w b c m v hc hm1 hm
end Go.Proofs.YtcblibefmclloaaDoor

set_option linter.unusedVariables false
set_option linter.unusedSimpArgs false
namespace Go.Proofs.YtcblibefmclloaaDoor
open Go.RowKit
/-- 's = append(s, ys...)' of numbers, on a row of one's own. -/
theorem app_ints {ops : Array Oper} {rest : List Oper} {o : Oper} {a : Act} {Q : Exit → Act → World → Prop} {w : World} (hgd : o.guard = none) (s x : Operand)
    (ho : o.op = .call { callee := .builtin .append, args := #[s, x], argTypes := #[22, 22] })
    (base : Nat) (v : Value) (n : Nat) (xs : List Int) (hs : a.eval s = v) (hown : w.ownsRow base 3 1 v n (ints .i64 xs))
    (g m c : Nat) (ys : List Int) (hx : a.eval x = .slice (some ⟨g, 0, none⟩) m c) (hy : RI .i64 w (some ⟨g, 0, none⟩) m ys)
    (hn : n + m ≤ 1000000) (hbase : base ≤ w.heap.size)
    (h : ∀ v' w', w'.ownsRow base 3 1 v' (n + m) (ints .i64 (xs ++ ys)) → w.grownBy w' v.ownBlock → wpList Tryd.prog ops Q rest (a.put o.dst v') w') : wpList Tryd.prog ops Q (o :: rest) a w := by
  obtain ⟨i0, hi, hz0, hz1, hz2⟩ := info_parts info_int
  refine wpList_append_own _ hgd s x 22 ho base 3 i0 (.int .i64 0) 1 8 Tryd.underlying22 hi hz0 hz1 hz2 rfl (by decide) v n (ints .i64 xs) hs hown ⟨g, 0, none⟩ m c (ints .i64 ys) hx (by simp [ints, hy.len]) ?_ (ints_one _ _) (by unfold maxLen; omega) (by omega) hbase ?_
  · intro j u hu
    have hj : j < m := by have := (List.getElem?_eq_some_iff.1 hu).1; have := hy.len; simp [ints] at *; omega
    rw [add_plain]
    have hc := hy.cell g 0 rfl j hj
    rw [Nat.zero_add] at hc
    rw [hc, ← hu, ints_getElem?]
    simp [nth, List.getD, show j < ys.length by have := hy.len; omega]
  · intro v' w' h2 h3 _
    have e : ints .i64 (xs ++ ys) = ints .i64 xs ++ ints .i64 ys := by simp [ints]
    rw [e] at h
    exact h v' w' h2 h3
/-- What adding a step answers. -/
def Added (w : World) (base : Nat) (r : Option (List Int)) (e : Ending) (w' : World) : Prop :=
  match r with
  | some l => ∃ v, e = .returned (.tuple #[v, .bool true]) ∧ w'.ownsRow base 3 1 v l.length (ints .i64 l) ∧ Below base w w'
  | none => e = .returned (.tuple #[.slice none 0 0, .bool false]) ∧ Below base w w'
set_option maxRecDepth 100000 in
set_option maxHeartbeats 1000000 in
theorem add_bad (w : World) (base len c : Nat) (A : Option Addr) (l : List Int) (sym extra n : Int) (hb : base ≤ w.heap.size) (hs : sym < 0 ∨ 18 < sym) :
    Calls Tryd.prog 56 #[.slice A len c, .agg #[.int .i64 sym, .int .i64 extra], .int .i64 n] w (Added w base (addF l sym extra n)) := by
  have hr : addF l sym extra n = none := addF_none (by rcases hs with h | h; exact sayF_lit_none (by omega) (Or.inl h); exact sayF_big h)
  rw [hr]
  clear hr
  rcases hs with h | h
  · have e1 : decide (sym < 0) = true := by simpa using h
    go_enter Tryd.func56, Tryd.ntmps56
    go_wp2_with fail
    go_quiet (fail)
    go_wp2_with fail
    go_ret2
    exact ⟨rfl, (((Keeps.refl [] w).alloc _).drewN _).below.mono hb⟩
  · have e1 : decide (sym < 0) = false := by simp; omega
    have e2 : decide (19 ≤ sym) = true := by simp; omega
    go_enter Tryd.func56, Tryd.ntmps56
    go_wp2_with fail
    go_quiet (fail)
    go_wp2_with fail
    go_ret2
    exact ⟨rfl, (((Keeps.refl [] w).alloc _).drewN _).below.mono hb⟩
set_option maxRecDepth 100000 in
set_option maxHeartbeats 1000000 in
theorem add_neg (w : World) (base len c : Nat) (A : Option Addr) (l : List Int) (sym extra n : Int) (hb : base ≤ w.heap.size) (h0 : 0 ≤ sym) (h18 : sym ≤ 18) (hs : extra < 0) :
    Calls Tryd.prog 56 #[.slice A len c, .agg #[.int .i64 sym, .int .i64 extra], .int .i64 n] w (Added w base (addF l sym extra n)) := by
  have hr : addF l sym extra n = none := addF_none (by
    rcases (by omega : sym ≤ 15 ∨ sym = 16 ∨ sym = 17 ∨ sym = 18) with h | rfl | rfl | rfl
    · exact sayF_lit_none (by omega) (Or.inr (by omega))
    · exact sayF_16_none (Or.inl hs)
    · exact sayF_17_none (Or.inl hs)
    · exact sayF_18_none (Or.inl hs))
  rw [hr]
  clear hr
  have e1 : decide (sym < 0) = false := by simp; omega
  have e2 : decide (19 ≤ sym) = false := by simp; omega
  have e3 : decide (extra < 0) = true := by simpa using hs
  go_enter Tryd.func56, Tryd.ntmps56
  go_wp2_with fail
  go_quiet (fail)
  go_wp2_with fail
  go_ret2
  exact ⟨rfl, (((Keeps.refl [] w).alloc _).drewN _).below.mono hb⟩
/-- Of literal lengths: no more is said. -/
theorem wide0 (s : Nat) (h : s ≤ 15) : nth wideL s = 0 := by
  rcases (by omega : s = 0 ∨ s = 1 ∨ s = 2 ∨ s = 3 ∨ s = 4 ∨ s = 5 ∨ s = 6 ∨ s = 7 ∨ s = 8 ∨ s = 9 ∨ s = 10 ∨ s = 11 ∨ s = 12 ∨ s = 13 ∨ s = 14 ∨ s = 15) with rfl | rfl | rfl | rfl | rfl | rfl | rfl | rfl | rfl | rfl | rfl | rfl | rfl | rfl | rfl | rfl <;> rfl
set_option maxRecDepth 100000 in
set_option maxHeartbeats 1000000 in
theorem add_over (w : World) (base len c : Nat) (A : Option Addr) (l : List Int) (s : Nat) (extra n : Int) (hb : base ≤ w.heap.size) (ht : Tabs w) (h0 : 0 ≤ extra)
    (hs : s ≤ 15 ∧ 1 ≤ extra ∨ s = 16 ∧ 4 ≤ extra ∨ s = 17 ∧ 8 ≤ extra ∨ s = 18 ∧ 128 ≤ extra) :
    Calls Tryd.prog 56 #[.slice A len c, .agg #[.int .i64 s, .int .i64 extra], .int .i64 n] w (Added w base (addF l s extra n)) := by
  have e1 : decide ((s : Int) < 0) = false := by simp
  have e2 : decide (19 ≤ (s : Int)) = false := by simp; omega
  have e3 : decide (extra < 0) = false := by simp; omega
  have hl : (s : Int) < 19 := by omega
  have hc := ht.wid.cell _ _ rfl s (by omega)
  rw [Nat.zero_add] at hc
  clear ht
  rcases hs with ⟨h, hs⟩ | ⟨rfl, hs⟩ | ⟨rfl, hs⟩ | ⟨rfl, hs⟩
  · have hr : addF l s extra n = none := addF_none (sayF_lit_none (by omega) (Or.inr (by omega)))
    rw [hr]
    clear hr
    rw [wide0 s h] at hc
    have hc' := fun o => ((Keeps.refl [] w).alloc o).cell (by simp) hc
    clear hc
    have e4 : decide (1 ≤ extra) = true := by simpa using hs
    go_enter Tryd.func56, Tryd.ntmps56
    go_wp2_with fail
    go_quiet (fail)
    go_wp2_with fail
    go_ret2
    exact ⟨rfl, (((Keeps.refl [] w).alloc _).drewN _).below.mono hb⟩
  · have hr : addF l ((16 : Nat) : Int) extra n = none := addF_none (sayF_16_none (Or.inr (Or.inl (by omega))))
    rw [hr]
    clear hr
    rw [show nth wideL 16 = 2 from rfl] at hc
    have hc' := fun o => ((Keeps.refl [] w).alloc o).cell (by simp) hc
    clear hc
    have e4 : decide (4 ≤ extra) = true := by simpa using hs
    go_enter Tryd.func56, Tryd.ntmps56
    go_wp2_with fail
    go_quiet (fail)
    go_wp2_with fail
    go_ret2
    exact ⟨rfl, (((Keeps.refl [] w).alloc _).drewN _).below.mono hb⟩
  · have hr : addF l ((17 : Nat) : Int) extra n = none := addF_none (sayF_17_none (Or.inr (by omega)))
    rw [hr]
    clear hr
    rw [show nth wideL 17 = 3 from rfl] at hc
    have hc' := fun o => ((Keeps.refl [] w).alloc o).cell (by simp) hc
    clear hc
    have e4 : decide (8 ≤ extra) = true := by simpa using hs
    go_enter Tryd.func56, Tryd.ntmps56
    go_wp2_with fail
    go_quiet (fail)
    go_wp2_with fail
    go_ret2
    exact ⟨rfl, (((Keeps.refl [] w).alloc _).drewN _).below.mono hb⟩
  · have hr : addF l ((18 : Nat) : Int) extra n = none := addF_none (sayF_18_none (Or.inr (by omega)))
    rw [hr]
    clear hr
    rw [show nth wideL 18 = 7 from rfl] at hc
    have hc' := fun o => ((Keeps.refl [] w).alloc o).cell (by simp) hc
    clear hc
    have e4 : decide (128 ≤ extra) = true := by simpa using hs
    go_enter Tryd.func56, Tryd.ntmps56
    go_wp2_with fail
    go_quiet (fail)
    go_wp2_with fail
    go_ret2
    exact ⟨rfl, (((Keeps.refl [] w).alloc _).drewN _).below.mono hb⟩
set_option maxRecDepth 100000 in
set_option maxHeartbeats 1000000 in
/-- '16' with nothing to say again. -/
theorem add_first (w : World) (base c : Nat) (A : Option Addr) (extra n : Int) (hb : base ≤ w.heap.size) (ht : Tabs w) (h0 : 0 ≤ extra) (h3 : extra ≤ 3) :
    Calls Tryd.prog 56 #[.slice A 0 c, .agg #[.int .i64 16, .int .i64 extra], .int .i64 n] w (Added w base (addF [] 16 extra n)) := by
  have hr : addF [] 16 extra n = none := addF_none (sayF_16_none (Or.inr (Or.inr rfl)))
  rw [hr]
  clear hr
  have e3 : decide (extra < 0) = false := by simp; omega
  have e4 : decide (4 ≤ extra) = false := by simp; omega
  have hc := ht.wid.cell _ _ rfl 16 (by omega)
  rw [Nat.zero_add, show nth wideL 16 = 2 from rfl] at hc
  have hd := ht.fro.cell _ _ rfl 16 (by omega)
  rw [Nat.zero_add, show nth fromL 16 = 3 from rfl] at hd
  have hc' := fun o => ((Keeps.refl [] w).alloc o).cell (by simp) hc
  have hd' := fun o => ((Keeps.refl [] w).alloc o).cell (by simp) hd
  have e2 : IntKind.i64.wrap (3 + extra) = 3 + extra := IntWalk.i64_in _ (by omega)
  clear hc hd ht
  go_enter Tryd.func56, Tryd.ntmps56
  go_wp2_with fail
  go_quiet (fail)
  go_wp2_with fail
  go_quiet (fail)
  go_wp2_with fail
  go_ret2
  exact ⟨rfl, (((Keeps.refl [] w).alloc _).drewN _).below.mono hb⟩
end Go.Proofs.YtcblibefmclloaaDoor

set_option linter.unusedVariables false
set_option linter.unusedSimpArgs false
namespace Go.Proofs.YtcblibefmclloaaDoor
open Go.RowKit
theorem rep_ri {w : World} {g t m : Nat} {v : Int} (h : Blk w g t (ints .i64 (List.replicate m v))) : RI .i64 w (some ⟨g, 0, none⟩) m (List.replicate m v) := by
  have := Blk.ri (ys := []) (xs := List.replicate m v) (by simpa using h)
  simpa using this
set_option maxRecDepth 100000 in
set_option maxHeartbeats 1000000 in
theorem add_good (w : World) (base len : Nat) (u : Value) (l : List Int) (s : Nat) (extra n v : Int) (k : Nat) (hb : base ≤ w.heap.size) (ht : Tabs w) (hu : w.ownsRow base 3 1 u len (ints .i64 l)) (hlen : len ≤ 1000) (hsay : sayF l s extra = some (v, k)) :
    Calls Tryd.prog 56 #[u, .agg #[.int .i64 s, .int .i64 extra], .int .i64 n] w (Added w base (addF l s extra n)) := by
  obtain ⟨A, c, rfl, hri, hcap, hblk⟩ := own_ri hu
  have hll : l.length = len := hri.len
  have hkp := sayF_pos hsay
  have HS := Lib.hid hsay
  have HU := Lib.hid hu
  clear hu
  have HC : Hid (s ≤ 15 ∧ extra = 0 ∧ v = s ∧ k = 1 ∨ s = 16 ∧ 0 ≤ extra ∧ extra ≤ 3 ∧ 1 ≤ len ∧ v = nth l (len - 1) ∧ (k : Int) = 3 + extra ∨ s = 17 ∧ 0 ≤ extra ∧ extra ≤ 7 ∧ v = 0 ∧ (k : Int) = 3 + extra ∨ s = 18 ∧ 0 ≤ extra ∧ extra ≤ 127 ∧ v = 0 ∧ (k : Int) = 11 + extra) := by
    simp only [sayF] at hsay
    split at hsay
    · rename_i h; simp at hsay; exact Or.inl ⟨by omega, h.2.2, hsay.1.symm, hsay.2.symm⟩
    · split at hsay
      · rename_i h; simp at hsay
        have : 1 ≤ l.length := by
          rcases Nat.eq_zero_or_pos l.length with h' | h'
          · exact absurd (List.eq_nil_of_length_eq_zero h') h.2.2.2
          · exact h'
        exact Or.inr (Or.inl ⟨by omega, h.2.1, h.2.2.1, by omega, by rw [← hll]; simpa [nth] using hsay.1.symm, by omega⟩)
      · split at hsay
        · rename_i h; simp at hsay; exact Or.inr (Or.inr (Or.inl ⟨by omega, h.2.1, h.2.2, hsay.1.symm, by omega⟩))
        · split at hsay
          · rename_i h; simp at hsay; exact Or.inr (Or.inr (Or.inr ⟨by omega, h.2.1, h.2.2, hsay.1.symm, by omega⟩))
          · simp at hsay
  clear hsay
  have hglob : ∀ (j : Nat) (o : Obj), j < 19 → (w.alloc o).cell? ⟨2, j, none⟩ = some (.int .i64 (nth wideL j)) ∧ (w.alloc o).cell? ⟨0, j, none⟩ = some (.int .i64 (nth fromL j)) := fun j o hj => by
    have h1 := ht.wid.cell _ _ rfl j hj
    have h2 := ht.fro.cell _ _ rfl j hj
    rw [Nat.zero_add] at h1 h2
    exact ⟨((Keeps.refl [] w).alloc o).cell (by simp) h1, ((Keeps.refl [] w).alloc o).cell (by simp) h2⟩
  have HR := Lib.hid hri
  clear ht hri hll
  have e1 : decide ((s : Int) < 0) = false := by simp
  rcases HC.out with ⟨hs, rfl, hv, hk0⟩ | ⟨rfl, hx0, hx3, hl1, hv, hk⟩ | ⟨rfl, hx0, hx3, hv, hk⟩ | ⟨rfl, hx0, hx3, hv, hk⟩
  case' inl =>
    have hk1 : (k : Int) ≤ 1 := by omega
    have hk2 : 1 ≤ (k : Int) := by omega
    have HV := Lib.hid hv
    clear hv hk0
    have e2 : decide (19 ≤ (s : Int)) = false := by simp; omega
    have hl : (s : Int) < 19 := by omega
    have hc := fun o => (hglob s o (by omega)).1
    rw [wide0 s hs] at hc
    have e5 : decide (15 < (s : Int)) = false := by simp; omega
    have e6 : ((s : Int) == 16) = false := by simp; omega
    clear hglob HC
    go_enter Tryd.func56, Tryd.ntmps56
    go_wp2_with fail
    go_quiet (fail)
    go_upto_region 10 with (fail)
  case' inr.inl =>
    have hk1 : (k : Int) ≤ 3 + extra := by omega
    have hk2 : 3 + extra ≤ (k : Int) := by omega
    have HV := Lib.hid hv
    clear hv hk
    have e3 : decide (extra < 0) = false := by simp; omega
    have e4 : decide (4 ≤ extra) = false := by simp; omega
    have hc := fun o => (hglob 16 o (by omega)).1
    have hd := fun o => (hglob 16 o (by omega)).2
    rw [show nth wideL 16 = 2 from rfl] at hc
    rw [show nth fromL 16 = 3 from rfl] at hd
    have e2 : IntKind.i64.wrap (3 + extra) = 3 + extra := IntWalk.i64_in _ (by omega)
    obtain ⟨b, o, rfl, hlast⟩ := HR.out.at (show len - 1 < len by omega)
    have hlast' := fun ob => ((Keeps.refl [] w).alloc ob).cell (by simp) hlast
    have e7 : ((len : Int) == 0) = false := by simp; omega
    have e8 : ((len : Int) - 1).toNat = len - 1 := by omega
    clear hglob HC hlast
    go_enter Tryd.func56, Tryd.ntmps56
    go_wp2_with fail
    go_quiet (fail)
    go_wp2_with fail
    go_quiet (fail)
    go_upto_region 10 with (fail)
  case' inr.inr.inl =>
    have hk1 : (k : Int) ≤ 3 + extra := by omega
    have hk2 : 3 + extra ≤ (k : Int) := by omega
    have HV := Lib.hid hv
    clear hv hk
    have e3 : decide (extra < 0) = false := by simp; omega
    have e4 : decide (8 ≤ extra) = false := by simp; omega
    have hc := fun o => (hglob 17 o (by omega)).1
    have hd := fun o => (hglob 17 o (by omega)).2
    rw [show nth wideL 17 = 3 from rfl] at hc
    rw [show nth fromL 17 = 3 from rfl] at hd
    have e2 : IntKind.i64.wrap (3 + extra) = 3 + extra := IntWalk.i64_in _ (by omega)
    clear hglob HC
    go_enter Tryd.func56, Tryd.ntmps56
    go_wp2_with fail
    go_quiet (fail)
    go_wp2_with fail
    go_quiet (fail)
    go_upto_region 10 with (fail)
  case' inr.inr.inr =>
    have hk1 : (k : Int) ≤ 11 + extra := by omega
    have hk2 : 11 + extra ≤ (k : Int) := by omega
    have HV := Lib.hid hv
    clear hv hk
    have e3 : decide (extra < 0) = false := by simp; omega
    have e4 : decide (128 ≤ extra) = false := by simp; omega
    have hc := fun o => (hglob 18 o (by omega)).1
    have hd := fun o => (hglob 18 o (by omega)).2
    rw [show nth wideL 18 = 7 from rfl] at hc
    rw [show nth fromL 18 = 11 from rfl] at hd
    have e2 : IntKind.i64.wrap (11 + extra) = 11 + extra := IntWalk.i64_in _ (by omega)
    clear hglob HC
    go_enter Tryd.func56, Tryd.ntmps56
    go_wp2_with fail
    go_quiet (fail)
    go_wp2_with fail
    go_quiet (fail)
    go_upto_region 10 with (fail)
  all_goals
    by_cases hn : n < (len : Int) + (k : Int)
    · go_wp2_with fail
      go_ret2
      rw [addF_many HS.out (by have := HR.out.len; omega)]
      exact ⟨rfl, Keeps.below (by repeat (first | exact Keeps.refl _ _ | apply Keeps.drewN | apply Keeps.alloc)) |>.mono hb⟩
    · go_wp2_with fail
      refine (repeat_calls' _ _ _ k _ v (by omega) (by rw [HV.out]; go_simp) (by omega) (by omega)).mono ?_
      rintro e w6 ⟨g, rfl, hB, hg, hb6⟩
      have hK : Keeps [] w w6 := Keeps.trans (by repeat (first | exact Keeps.refl _ _ | apply Keeps.drewN | apply Keeps.alloc)) (Keeps.of_below hb6)
      have hO := own_keeps HU.out hK (by simp)
      have hRI := rep_ri hB
      have hsz : base ≤ w6.heap.size := Nat.le_trans hb hK.size
      have HO := Lib.hid hO
      have HRI := Lib.hid hRI
      have HK := Lib.hid hK
      clear hB hb6 hO hRI hK hg
      go_wp2_with (at_builtin; refine app_ints rfl (.tmp 63) (.tmp 67) rfl base _ _ _ rfl HO.out g k k (List.replicate k v) rfl HRI.out (by omega) hsz ?_)
      intro v' w7 h7 hg7
      have H7 := Lib.hid h7
      have HG := Lib.hid hg7
      clear h7 hg7
      go_wp2_with fail
      go_ret2
      rw [addF_some HS.out (by have := HR.out.len; omega)]
      refine ⟨v', rfl, ?_, ?_⟩
      · rw [show (l ++ List.replicate k v).length = len + k by have := HR.out.len; simp; omega]; exact H7.out
      · exact ((HK.out.below.mono hb).grown HG.out hsz (fun k hk => (HU.out.lt k hk).1))
end Go.Proofs.YtcblibefmclloaaDoor

set_option linter.unusedVariables false
set_option linter.unusedSimpArgs false
namespace Go.Proofs.YtcblibefmclloaaDoor
open Go.RowKit
theorem add_calls (w : World) (base len : Nat) (u : Value) (l : List Int) (sym extra n : Int) (hb : base ≤ w.heap.size) (ht : Tabs w) (hu : w.ownsRow base 3 1 u len (ints .i64 l)) (hlen : len ≤ 1000) :
    Calls Tryd.prog 56 #[u, .agg #[.int .i64 sym, .int .i64 extra], .int .i64 n] w (Added w base (addF l sym extra n)) := by
  cases hsay : sayF l sym extra with
  | some p =>
    obtain ⟨v, k⟩ := p
    have h0 : 0 ≤ sym := by
      rcases Int.lt_or_le sym 0 with h | h
      · rw [sayF_lit_none (by omega) (Or.inl h)] at hsay; cases hsay
      · exact h
    obtain ⟨s, rfl⟩ := Int.eq_ofNat_of_zero_le h0
    exact add_good w base len u l s extra n v k hb ht hu hlen hsay
  | none =>
    obtain ⟨A, c, rfl, hri, hcap, hblk⟩ := own_ri hu
    by_cases hs : sym < 0 ∨ 18 < sym
    · exact add_bad w base len c A l sym extra n hb hs
    · by_cases hx : extra < 0
      · exact add_neg w base len c A l sym extra n hb (by omega) (by omega) hx
      · obtain ⟨s, rfl⟩ := Int.eq_ofNat_of_zero_le (show 0 ≤ sym by omega)
        by_cases ho : s ≤ 15 ∧ 1 ≤ extra ∨ s = 16 ∧ 4 ≤ extra ∨ s = 17 ∧ 8 ≤ extra ∨ s = 18 ∧ 128 ≤ extra
        · exact add_over w base len c A l s extra n hb ht (by omega) ho
        · rcases (by omega : s ≤ 15 ∨ s = 16 ∨ s = 17 ∨ s = 18) with h | rfl | rfl | rfl
          · obtain rfl : extra = 0 := by omega
            rw [sayF_lit (by omega) (by omega)] at hsay; cases hsay
          · have hl : l = [] := by
              rcases Classical.em (l = []) with h | h
              · exact h
              · rw [show ((16 : Nat) : Int) = 16 from rfl, sayF_16 (by omega) (by omega) h] at hsay; cases hsay
            subst hl
            obtain rfl : len = 0 := by have := hri.len; simpa using this.symm
            exact add_first w base c A extra n hb ht (by omega) (by omega)
          · rw [show ((17 : Nat) : Int) = 17 from rfl, sayF_17 (by omega) (by omega)] at hsay; cases hsay
          · rw [show ((18 : Nat) : Int) = 18 from rfl, sayF_18 (by omega) (by omega)] at hsay; cases hsay
/-- What unpacking answers. -/
def Unpacked (w : World) (r : List Int × Int) (e : Ending) (w' : World) : Prop :=
  ∃ v, e = .returned (.tuple #[v, .int .i64 r.2]) ∧ w'.ownsRow w.heap.size 3 1 v r.1.length (ints .i64 r.1) ∧ Below w.heap.size w w'
theorem unpacked_nil (w w' : World) (r : List Int × Int) (e : Int) (hr : r = ([], e)) (h : Below w.heap.size w w') : Unpacked w r (.returned (.tuple #[.slice none 0 0, .int .i64 e])) w' := by
  subst hr
  exact ⟨_, rfl, World.ownsRow_nil _ _ _ _, h⟩
theorem pth_drop {xs : List (Int × Int)} {k : Nat} (h : k < xs.length) : xs.drop k = pth xs k :: xs.drop (k + 1) := by
  rw [List.drop_eq_getElem_cons h]; simp [pth, List.getD, h]
set_option maxRecDepth 100000 in
set_option maxHeartbeats 1000000 in
theorem unpack_calls (w : World) (A : Option Addr) (m c : Nat) (xs : List (Int × Int)) (n : Int) (ht : Tabs w) (hx : RP w A m xs) (hm : m ≤ 140737488355328) :
    Calls Tryd.prog 21 #[.slice A m c, .int .i64 n] w (Unpacked w (unpackF xs n)) := by
  have HX := Lib.hid hx
  have HT := Lib.hid ht
  clear hx ht
  by_cases h0 : n < 0
  · have e1 : decide (n < 0) = true := by simpa using h0
    go_enter Tryd.func21, Tryd.ntmps21
    go_wp2_with fail
    go_ret2
    exact unpacked_nil _ _ _ _ (unpackF_arg (Or.inl h0)) (Below.refl _ _)
  · have e1 : decide (n < 0) = false := by simpa using h0
    by_cases h1 : 316 < n
    · have e2 : decide (316 < n) = true := by simpa using h1
      go_enter Tryd.func21, Tryd.ntmps21
      go_wp2_with fail
      go_ret2
      exact unpacked_nil _ _ _ _ (unpackF_arg (Or.inr h1)) (Below.refl _ _)
    · have e2 : decide (316 < n) = false := by simpa using h1
      go_enter Tryd.func21, Tryd.ntmps21
      go_wp2_with fail
      clear e1 e2
      go_loopw [6, 18] (fun u i wr => ∃ (k : Nat) (l : List Int), k ≤ m ∧ i = .int .i64 k ∧ (l.length : Int) ≤ n ∧ Hid (wr.ownsRow w.heap.size 3 1 u l.length (ints .i64 l)) ∧ Hid (unpackTo [] xs n = unpackTo l (xs.drop k) n) ∧ Hid (Below w.heap.size w wr)) (fun _ i _ => m - (intOf i).toNat)
      case atStart => exact ⟨0, [], by omega, rfl, by simp; omega, Lib.hid (World.ownsRow_nil _ _ _ _), Lib.hid (by simp), Lib.hid (Below.refl _ _)⟩
      case round =>
        obtain ⟨k, l, hk, rfl, hl, HO, HP, HW⟩ := hrel
        by_cases hlt : k < m
        · obtain ⟨b, o, rfl⟩ := HX.out.hd (by omega)
          obtain ⟨c1, c2⟩ := HX.out.cell b o rfl k hlt
          have hd := pth_drop (show k < xs.length by have := HX.out.len; omega)
          have c1' := (Keeps.of_below (S := []) HW.out).cell (by simp) c1
          have c2' := (Keeps.of_below (S := []) HW.out).cell (by simp) c2
          have HD := Lib.hid hd
          clear c1 c2 hd
          have hsz := HW.out.size
          obtain ⟨A1, cc, rfl, hri, hcap, hblk⟩ := own_ri HO.out
          have HRI := Lib.hid hri
          clear hri hblk hcap
          go_wp2_with fail
          refine (add_calls _ w.heap.size l.length _ l _ _ n (by simp; omega) (HT.out.below (HW.out.alloc (by omega) _) HT.out.size) (HO.out.alloc _) (by omega)).mono ?_
          intro e w2 ha
          have hp := HP.out
          rw [HD.out] at hp
          cases hadd : addF l (pth xs k).1 (pth xs k).2 n with
          | none =>
            rw [hadd] at ha
            obtain ⟨rfl, hb⟩ := ha
            rw [unpackTo_stop hadd] at hp
            have HP2 := Lib.hid hp
            have HB := Lib.hid hb
            clear hp hb hadd
            go_wp2_with fail
            go_ret2
            exact unpacked_nil _ _ _ _ (unpackF_none (by omega) (by omega) HP2.out) ((HW.out.alloc (by omega) _).trans HB.out)
          | some l' =>
            rw [hadd] at ha
            obtain ⟨v', rfl, ho, hb⟩ := ha
            rw [unpackTo_cons hadd] at hp
            have hlen := addF_len hadd
            have HP2 := Lib.hid hp
            have HB := Lib.hid hb
            have HO2 := Lib.hid ho
            clear hp hb hadd ho
            go_wp2_with fail
            go_roundw
            case rel => exact ⟨k + 1, l', by omega, by go_num, hlen.2, HO2, HP2, Lib.hid ((HW.out.alloc (by omega) _).trans HB.out)⟩
            case measure => simp [intOf]; omega
        · obtain rfl : k = m := by omega
          have hp := HP.out
          rw [List.drop_eq_nil_of_le (by have := HX.out.len; omega), unpackTo] at hp
          have HP2 := Lib.hid hp
          clear hp
          obtain ⟨A1, cc, rfl, hri, hcap, hblk⟩ := own_ri HO.out
          clear hri hcap hblk
          by_cases hfew : (l.length : Int) < n
          · have e5 : decide ((l.length : Int) < n) = true := by simpa using hfew
            go_wp2_with fail
            go_ret2
            exact unpacked_nil _ _ _ _ (unpackF_few (by omega) (by omega) HP2.out hfew) HW.out
          · have e5 : decide ((l.length : Int) < n) = false := by simpa using hfew
            go_wp2_with fail
            go_ret2
            rw [unpackF_ok (by omega) (by omega) HP2.out (by omega)]
            exact ⟨_, rfl, HO.out, HW.out⟩
end Go.Proofs.YtcblibefmclloaaDoor

set_option linter.unusedVariables false
set_option linter.unusedSimpArgs false
namespace Go.Proofs.YtcblibefmclloaaDoor
open Go.RowKit
theorem pack_ex : packF [0, 0, 0, 3, 3, 3, 3, 3, 0] = [(17, 0), (3, 0), (16, 1), (0, 0)] := by
  simp [packF, runN, rsteps, zsteps, vsteps, reps, left]
theorem unpack_ex : unpackF [(5, 0), (16, 3)] 7 = ([5, 5, 5, 5, 5, 5, 5], 0) := by decide
theorem unpack_ex2 : unpackF [(16, 0)] 3 = ([], 41) := by decide
theorem lit_ri {k : IntKind} (w : World) (t : TypeId) (xs : List Int) : RI k (w.alloc (.cells (ints k xs).toArray t)) (some ⟨w.heap.size, 0, none⟩) xs.length xs := by
  have h : Blk (w.alloc (.cells (ints k xs).toArray t)) w.heap.size t (ints k (xs ++ [])) := by rw [List.append_nil]; exact blk_new w t _
  exact h.ri
theorem blk_rp {w : World} {g : Nat} {t : TypeId} {xs : List (Int × Int)} (h : Blk w g t (pcells xs)) : RP w (some ⟨g, 0, none⟩) xs.length xs :=
  ⟨rfl, fun _ => ⟨_, _, rfl⟩, fun b o ha j hj => by
    injection ha with ha; injection ha with h1 h2 h3; subst h1; subst h2
    have := pcells_get xs j hj
    rw [Nat.zero_add, h.cell, h.cell]
    exact this⟩
theorem lit_rp (w : World) (t : TypeId) (xs : List (Int × Int)) : RP (w.alloc (.cells (pcells xs).toArray t)) (some ⟨w.heap.size, 0, none⟩) xs.length xs := blk_rp (blk_new w t _)
theorem RP.keeps {S : List Nat} {w w' : World} {A : Option Addr} {n : Nat} {xs : List (Int × Int)} (h : RP w A n xs) (hk : Keeps S w w') (ho : Off S A) : RP w' A n xs :=
  ⟨h.len, h.hd, fun b o ha j hj => ⟨hk.cell (p := ⟨b, o + j * 2, none⟩) (ho ⟨b, o, none⟩ ha) (h.cell b o ha j hj).1, hk.cell (p := ⟨b, o + j * 2 + 1, none⟩) (ho ⟨b, o, none⟩ ha) (h.cell b o ha j hj).2⟩⟩
theorem own_rp {w : World} {base : Nat} {e : TypeId} {v : Value} {n : Nat} {xs : List (Int × Int)} (h : w.ownsRow base e 2 v n (pcells xs)) :
    ∃ A c, v = .slice A n c ∧ RP w A n xs ∧ n ≤ c ∧ (∀ a, A = some a → base ≤ a.block ∧ a.block < w.heap.size) := by
  obtain ⟨h1, h2⟩ := h
  have hl : xs.length = n := by rw [pcells_length] at h1; omega
  rcases h2 with ⟨rfl, rfl⟩ | ⟨g, cap, cur, rfl, hb, hh, hc, hm, hs, ht⟩
  · exact ⟨none, 0, rfl, ⟨hl, by omega, by simp⟩, by omega, by simp⟩
  · refine ⟨_, _, rfl, ⟨hl, fun _ => ⟨_, _, rfl⟩, fun b o ha j hj => ?_⟩, hc, fun a ha => ?_⟩
    · injection ha with ha; injection ha with h1 h2 h3; subst h1; subst h2
      have hp := pcells_get xs j (by omega)
      have e1 : ∀ i, i < n * 2 → cur.toList[i]? = (pcells xs)[i]? := fun i hi => by rw [← ht, List.getElem?_take, if_pos hi]
      rw [Nat.zero_add]
      unfold World.cell?
      simp only [hh]
      rw [← Array.getElem?_toList, ← Array.getElem?_toList, e1 _ (by omega), e1 _ (by omega)]
      exact hp
    · obtain rfl := Option.some.inj ha
      exact ⟨hb, (Array.getElem?_eq_some_iff.1 hh).1⟩
theorem bytes_ex : ∀ j, 0 ≤ nth [255, 255] j ∧ nth [255, 255] j ≤ 255
  | 0 => by decide
  | 1 => by decide
  | j + 2 => by simp [nth]
set_option maxRecDepth 100000 in
set_option maxHeartbeats 1000000 in
theorem awake_calls (w : World) (ht : Tabs w) : Calls Tryd.prog 15 #[] w fun e w' => e = .returned (.bool true) ∧ Keeps [] w w' := by
  have HT := Lib.hid ht
  clear ht
  go_enter Tryd.func15, Tryd.ntmps15
  go_wp2_with fail
  refine (lensPack_calls _ _ _ _ [0, 0, 0, 3, 3, 3, 3, 3, 0] (HT.out.keeps ((Keeps.refl [] w).alloc _) (by simp)) (lit_ri w 3 [0, 0, 0, 3, 3, 3, 3, 3, 0]) (by decide)).mono ?_
  intro e w1 hp
  rcases hp with ⟨_, _, v1, rfl, ho1, hb1⟩ | ⟨h, _⟩
  · rw [pack_ex] at ho1
    have K1 := Lib.hid (((Keeps.refl [] w).alloc (.cells (ints .i64 [0, 0, 0, 3, 3, 3, 3, 3, 0]).toArray 3)).trans (Keeps.of_below hb1))
    have O1 := Lib.hid ho1
    clear ho1 hb1
    have S1 := K1.out.size
    go_wp2_with fail
    refine (unpack_calls _ _ _ _ [(5, 0), (16, 3)] 7 (HT.out.keeps (K1.out.alloc _) (by simp)) (lit_rp w1 31 [(5, 0), (16, 3)]) (by decide)).mono ?_
    rintro e w2 ⟨v2, rfl, ho2, hb2⟩
    rw [unpack_ex] at ho2 ⊢
    have B2 : Keeps [] w1 w2 := (((Keeps.refl [] w1).alloc (.cells (pcells [(5, 0), (16, 3)]).toArray 31)).trans (Keeps.of_below hb2))
    have K2 := Lib.hid (K1.out.trans B2)
    have O2 := Lib.hid ho2
    have O1' := Lib.hid (own_keeps O1.out B2 (by simp))
    clear ho2 hb2 B2 O1
    go_wp2_with fail
    refine (unpack_calls _ _ _ _ [(16, 0)] 3 (HT.out.keeps (K2.out.alloc _) (by simp)) (lit_rp w2 31 [(16, 0)]) (by decide)).mono ?_
    rintro e w3 ⟨v3, rfl, ho3, hb3⟩
    rw [unpack_ex2] at ho3 ⊢
    have B3 : Keeps [] w2 w3 := (((Keeps.refl [] w2).alloc (.cells (pcells [(16, 0)]).toArray 31)).trans (Keeps.of_below hb3))
    have K3 := Lib.hid (K2.out.trans B3)
    have O2' := Lib.hid (own_keeps O2.out B3 (by simp))
    have O1 := Lib.hid (own_keeps O1'.out B3 (by simp))
    clear ho3 hb3 B3 O1' O2 K1 K2
    go_wp2_with fail
    refine (newReader_calls _ _ _ _ [255, 255] (lit_ri w3 5 [255, 255]) (by simp) bytes_ex (by decide)).mono ?_
    rintro e w4 ⟨g, A, c, rfl, hr4, hg4, ha4, hb4⟩
    have B4 : Keeps [] w3 w4 := (((Keeps.refl [] w3).alloc (.cells (ints .u8 [255, 255]).toArray 5)).trans (Keeps.of_below hb4))
    have K4 := Lib.hid (K3.out.trans B4)
    have O2 := Lib.hid (own_keeps O2'.out B4 (by simp))
    have O1' := Lib.hid (own_keeps O1.out B4 (by simp))
    have R4 := Lib.hid hr4
    have A4 := Lib.hid ha4
    have G4 := Lib.hid hg4
    have N1 : Hid (∀ k, v1.ownBlock = some k → k ∉ [g]) := fun k hk => by have := (O1.out.lt k hk).2; simp at hg4 ⊢; omega
    have N2 : Hid (∀ k, v2.ownBlock = some k → k ∉ [g]) := fun k hk => by have := (O2'.out.lt k hk).2; simp at hg4 ⊢; omega
    have NG : Hid (w.heap.size ≤ g) := by have := K3.out.size; simp at hg4; show _ ≤ _; omega
    clear hr4 ha4 hg4 hb4 B4 O1 O2' K3
    go_wp2_with fail
    refine (readHead_bad _ _ _ _ _ _ R4.out (fun a h => (A4.out a h).2) (by decide) (Or.inl (by decide))).mono ?_
    rintro e w5 ⟨rfl, hr5, hk5⟩
    have K5 := Lib.hid (K4.out.then hk5 (fun x hx => Or.inr (by have := NG.out; simp at hx; omega)))
    obtain ⟨P, cp, rfl, hrp, hcp, hbp⟩ := own_rp (own_keeps O1'.out hk5 N1.out)
    obtain ⟨I, ci, rfl, hri, hci, hbi⟩ := own_ri (own_keeps O2.out hk5 N2.out)
    have RP5 := Lib.hid hrp
    have RI5 := Lib.hid hri
    clear hk5 hrp hri hbp hbi N1 N2 NG O1' O2 K4 A4 R4 G4
    go_wp2_with fail
    refine (same_calls _ _ _ _ _ _ _ [(17, 0), (3, 0), (16, 1), (0, 0)] [(17, 0), (3, 0), (16, 1), (0, 0)] (RP5.out.keeps ((Keeps.refl _ _).alloc _) (off_nil _)) (lit_rp w5 31 [(17, 0), (3, 0), (16, 1), (0, 0)]) (by decide) (by decide)).mono ?_
    rintro e w6 ⟨rfl, hd6⟩
    rw [beq_self_eq_true]
    have K6 := Lib.hid ((K5.out.alloc (.cells (pcells [(17, 0), (3, 0), (16, 1), (0, 0)]).toArray 31)).trans hd6.keeps)
    have RI6 := Lib.hid (RI5.out.keeps (((Keeps.refl [] w5).alloc (.cells (pcells [(17, 0), (3, 0), (16, 1), (0, 0)]).toArray 31)).trans hd6.keeps) (off_nil _))
    clear hd6 RI5 RP5 K5
    go_wp2_with fail
    refine (ints_calls _ _ _ _ _ _ _ [5, 5, 5, 5, 5, 5, 5] [5, 5, 5, 5, 5, 5, 5] (RI6.out.keeps ((Keeps.refl _ _).alloc _) (off_nil _)) (lit_ri w6 3 [5, 5, 5, 5, 5, 5, 5]) (by decide) (by decide)).mono ?_
    rintro e w7 ⟨rfl, hd7⟩
    rw [beq_self_eq_true]
    have K7 := Lib.hid ((K6.out.alloc (.cells (ints .i64 [5, 5, 5, 5, 5, 5, 5]).toArray 3)).trans hd7.keeps)
    clear hd7 K6 RI6
    go_wp2_with fail
    go_ret
    exact ⟨rfl, K7.out⟩
  · exfalso; rcases h with h | h
    · simp at h
    · revert h; decide
end Go.Proofs.YtcblibefmclloaaDoor

set_option linter.unusedVariables false
set_option linter.unusedSimpArgs false
namespace Go.Proofs.YtcblibefmclloaaDoor
open Go.RowKit
/-- Blocks that are no bytes stay while a writer writes. -/
theorem own_ptT {w w' : World} {g base n size : Nat} {t : TypeId} {v : Value} {xs : List Value} (ht : t ≠ 5) (hb : g < base) (h : w.ownsRow base t size v n xs) (hp : PT g w w') : w'.ownsRow base t size v n xs := by
  obtain ⟨h1, h2⟩ := h
  refine ⟨h1, ?_⟩
  rcases h2 with h2 | ⟨b, cap, cur, hv, hb2, hh, r⟩
  · exact Or.inl h2
  · refine Or.inr ⟨b, cap, cur, hv, hb2, ?_, r⟩
    rw [hp.same b (Array.getElem?_eq_some_iff.1 hh).1 (by omega) (fun ⟨c, f, hc⟩ => ?_), hh]
    rw [hh] at hc
    injection hc with hc
    injection hc with _ h2 _
    exact ht h2
theorem ri_pt {w w' : World} {g base n c : Nat} {t : TypeId} {A : Option Addr} {k : IntKind} {xs : List Int} (ht : t ≠ 5) (hb : g < base) (h : w.ownsRow base t 1 (.slice A n c) n (ints k xs)) (hp : PT g w w') : RI k w' A n xs := by
  obtain ⟨A', c', hv, hr, _⟩ := own_ri (own_ptT ht hb h hp)
  injection hv with h1 h2 h3
  rw [h1]; exact hr
theorem rp_pt {w w' : World} {g base n c : Nat} {t : TypeId} {A : Option Addr} {xs : List (Int × Int)} (ht : t ≠ 5) (hb : g < base) (h : w.ownsRow base t 2 (.slice A n c) n (pcells xs)) (hp : PT g w w') : RP w' A n xs := by
  obtain ⟨A', c', hv, hr, _⟩ := own_rp (own_ptT ht hb h hp)
  injection hv with h1 h2 h3
  rw [h1]; exact hr
theorem any_false {xs : List Int} (h : ∀ x ∈ xs, 0 ≤ x ∧ x ≤ 15) : anyBad xs = false := by
  unfold anyBad
  rw [List.any_eq_false]
  intro x hx
  have := h x hx
  simp [badLen]; omega
theorem revF_bitW (c : Int) : ∀ n t, t < n → revF c n / 2 ^ t % 2 = c / 2 ^ (n - 1 - t) % 2
  | 0, t, h => by omega
  | n + 1, t, h => by
    rw [revF]
    match t with
    | 0 => rw [Int.pow_zero, Int.ediv_one, show n + 1 - 1 - 0 = n by omega]; omega
    | t + 1 =>
      have ih := revF_bitW c n t (by omega)
      rw [Int.pow_succ, Int.mul_comm (2 ^ t) 2, ← div_div _ _ _ (by omega), show (2 * revF c n + c / 2 ^ n % 2) / 2 = revF c n by omega, ih, show n + 1 - 1 - (t + 1) = n - 1 - t by omega]
theorem vbits_revW (c : Int) (n : Nat) : vbits (revF c n) n = msbF c n := by
  unfold vbits msbF
  refine List.map_congr_left fun t ht => ?_
  exact revF_bitW c n t (List.mem_range.1 ht)
theorem codes_atW {l : List Int} (hc : checkF l = 0) : (codesF l).1.length = l.length ∧ ∀ k m : Nat, k < l.length → nth l k = m → 1 ≤ m → nth (codesF l).1 k = revF (codeI l k) m := by
  have e : (codesF l).1 = outL l l.length := by unfold codesF; rw [if_pos hc]
  rw [e]
  refine ⟨outL_len l _, fun k m hk hm h1 => ?_⟩
  unfold outL
  rw [nth_map_range _ _ _ hk, if_pos ⟨hk, by omega⟩, hm]; rfl
theorem pth_mem {xs : List (Int × Int)} {i : Nat} (h : i < xs.length) : pth xs i ∈ xs := by
  have : pth xs i = xs[i] := by simp [pth, List.getD, h]
  rw [this]; exact List.getElem_mem _
theorem take_pth {xs : List (Int × Int)} {i : Nat} (h : i < xs.length) : xs.take (i + 1) = xs.take i ++ [pth xs i] := by
  rw [List.take_succ_eq_append_getElem h]; simp [pth, List.getD, h]
theorem PT.of_keeps {g : Nat} {w w' : World} (h : Keeps [] w w') : PT g w w' := ⟨h.size, fun k hk _ _ => h.block k hk (by simp)⟩
theorem below_lower {B C : Nat} {w w' : World} (h : Below B w w') (hle : C ≤ B) : Below C w w' := ⟨h.os, h.tape, h.output, h.size, fun k hk => h.block k (Nat.lt_of_lt_of_le hk hle)⟩
theorem manyGo_down (codes : List Int) (m : Nat) (h4 : 4 < m) (h0 : nth codes (nth orderL (m - 1)).toNat = 0) : manyGo codes m = manyGo codes (m - 1) := by
  obtain ⟨k, rfl⟩ : ∃ k, m = k + 1 := ⟨m - 1, by omega⟩
  rw [manyGo, if_pos ⟨by omega, h0⟩]; rfl
theorem manyGo_stop (codes : List Int) (m : Nat) (h4 : 4 ≤ m) (h0 : m = 4 ∨ nth codes (nth orderL (m - 1)).toNat ≠ 0) : manyGo codes m = m := by
  obtain ⟨k, rfl⟩ : ∃ k, m = k + 1 := ⟨m - 1, by omega⟩
  rw [manyGo, if_neg]
  rintro ⟨h1, h2⟩
  rcases h0 with h | h
  · omega
  · exact h h2
/-- What a writing answers. -/
def Wrote (w : World) (g : Nat) (bl lit dist : List Int) (e : Ending) (w' : World) : Prop :=
  (MayW lit dist ∧ e = .returned (.int .i64 0) ∧ Wtr w' g (bl ++ headB lit dist) ∧ Below g w w' ∧ PT g w w') ∨ (¬ MayW lit dist ∧ e = .returned (.int .i64 1) ∧ Below w.heap.size w w')
set_option maxRecDepth 100000 in
set_option maxHeartbeats 4000000 in
theorem write_good (w : World) (g : Nat) (bl : List Int) (A1 A2 : Option Addr) (n1 n2 c1 c2 : Nat) (lit dist : List Int) (hT : Tabs w) (hg : gtop ≤ g) (hw : Wtr w g bl) (hb : bl.length ≤ 50000000)
    (hx : RI .i64 w A1 n1 lit) (hy : RI .i64 w A2 n2 dist) (hm : MayW lit dist) :
    Calls Tryd.prog 44 #[.pointer (some ⟨g, 0, none⟩), .slice A1 n1 c1, .slice A2 n2 c2] w (Wrote w g bl lit dist) := by
  have hl0 := hx.len
  have hl1 := hy.len
  have b0 := hm.lit0
  have b1 := hm.lit1
  have b2 := hm.dist0
  have b3 := hm.dist1
  have e1 : decide (n1 < 257) = false := by simp; omega
  have e1' : decide ((n1 : Int) < 257) = false := by simp; omega
  have e2 : decide (286 < n1) = false := by simp; omega
  have e2' : decide ((286 : Int) < (n1 : Int)) = false := by simp; omega
  have e3 : decide (n2 < 1) = false := by simp; omega
  have e3' : decide ((n2 : Int) < 1) = false := by simp; omega
  have e4 : decide (30 < n2) = false := by simp; omega
  have e4' : decide ((30 : Int) < (n2 : Int)) = false := by simp; omega
  have hg0 : n1 ≤ 286 := by omega
  have hg1 : n2 ≤ 30 := by omega
  obtain ⟨ba, oa, rfl⟩ := hx.hd (by omega)
  obtain ⟨bb, ob, rfl⟩ := hy.hd (by omega)
  have HL1 : Hid (lit.length = n1) := Lib.hid hl0
  have HL2 : Hid (dist.length = n2) := Lib.hid hl1
  have HX := Lib.hid hx
  have HY := Lib.hid hy
  have HT := Lib.hid hT
  have HW := Lib.hid hw
  have HM := Lib.hid hm
  have hgt := hw.lt
  have HA1 : Hid (anyBad lit = false) := Lib.hid (any_false hm.litB)
  have HA2 : Hid (anyBad dist = false) := Lib.hid (any_false hm.distB)
  have HA3 : Hid (anyBad (lit ++ dist) = false) := Lib.hid (any_false hm.all)
  clear hx hy hT hw hm hl0 hl1 b0 b1 b2 b3
  go_enter Tryd.func44, Tryd.ntmps44
  go_wp2_with fail
  refine (lengths_calls _ _ _ _ lit HX.out (by omega)).mono ?_
  rintro _ wa ⟨rfl, hd1⟩
  rw [HA1.out]
  have K1 := Lib.hid (hd1.keeps (S := []))
  clear hd1
  go_wp2_with fail
  refine (lengths_calls _ _ _ _ dist (HY.out.keeps K1.out (off_nil _)) (by omega)).mono ?_
  rintro _ wb ⟨rfl, hd1⟩
  rw [HA2.out]
  have K2 := Lib.hid (K1.out.trans (hd1.keeps (S := [])))
  clear hd1 K1 e1 e2 e3 e4 e1' e2' e3' e4'
  go_wp2_with fail
  refine (concat_from w _ wb.heap.size _ _ n1 n2 c1 c2 lit dist (K2.out.alloc _) (by simp) (by simp) HX.out HY.out nofun nofun (fun ad h => ⟨ba, oa, (Option.some.inj h).symm⟩) (fun ad h => ⟨bb, ob, (Option.some.inj h).symm⟩) (by omega) (by omega)).mono ?_
  rintro _ wc ⟨AC, cc, rfl, hoc, hkc⟩
  obtain ⟨A', c', hv', hric, -⟩ := own_ri hoc
  injection hv' with q1 q2 q3
  subst q1
  subst q3
  have HRC := Lib.hid hric
  have KC := Lib.hid hkc
  have HTC := Lib.hid (HT.out.keeps hkc (by simp))
  clear hoc hric hkc HX HY K2
  go_wp2_with fail
  refine (lensPack_calls wc _ _ _ (lit ++ dist) HTC.out HRC.out (by omega)).mono ?_
  rintro e wd hpk
  obtain ⟨vs, rfl, hos, hbd⟩ : ∃ v, e = .returned (.tuple #[v, .int .i64 0]) ∧ wd.ownsRow wc.heap.size 31 2 v (packF (lit ++ dist)).length (pcells (packF (lit ++ dist))) ∧ Below wc.heap.size wc wd := by
    rcases hpk with ⟨_, _, h⟩ | ⟨h, _⟩
    · exact h
    · exfalso
      rw [HA3.out, List.length_append, HL1.out, HL2.out] at h
      rcases h with h | h
      · omega
      · cases h
  obtain ⟨st, hst⟩ : ∃ st, st = packF (lit ++ dist) := ⟨_, rfl⟩
  rw [← hst] at hos
  have HST := Lib.hid hst
  have HSL : Hid (st.length ≤ 316) := Lib.hid (by have := packF_len (lit ++ dist); rw [List.length_append, HL1.out, HL2.out] at this; rw [hst]; omega)
  have HSY : Hid (∀ s ∈ st, 0 ≤ s.1 ∧ s.1 ≤ 18 ∧ 0 ≤ s.2 ∧ s.2 < 2 ^ wN s.1) := Lib.hid (by rw [hst]; exact HM.out.sym)
  obtain ⟨AS, cs, rfl, hrp, -⟩ := own_rp hos
  have hk1 := Keeps.of_below hbd (S := [])
  have hgc : g < wc.heap.size := Nat.lt_of_lt_of_le hgt KC.out.size
  have KD := Lib.hid (KC.out.trans hk1)
  have HOS := Lib.hid (hos.mono (Nat.le_of_lt_succ (Nat.succ_lt_succ hgc)) : wd.ownsRow (g + 1) 31 2 _ _ _)
  have HRP := Lib.hid hrp
  clear hos hrp hbd hk1 hst HRC HTC HA1 HA2 HA3 hpk
  have HKL := Lib.hid (rfl : st.length = st.length)
  generalize hk : st.length = k at HOS HRP HSL HKL ⊢
  have hk316 : k ≤ 316 := HSL.out
  have HKK : Hid (st.length = k) := Lib.hid hk
  clear hk HKL HSL
  have hmk := fun w => make_ints (P := Tryd.prog) w 22 3 .i64 8 Tryd.underlying22 info_int 19 19 rfl (by omega) (by omega)
  obtain ⟨cb, hcb⟩ : ∃ x, x = wd.heap.size := ⟨_, rfl⟩
  obtain ⟨w4, hw4⟩ : ∃ x, x = wd.alloc (.cells (ints .i64 (List.replicate 19 0)).toArray 3) := ⟨_, rfl⟩
  have hk4 : Keeps [] wd w4 := by rw [hw4]; exact (Keeps.refl [] wd).alloc _
  have HC4 : Hid (Blk w4 cb 3 (ints .i64 (cntF 19 ((st.take 0).map Prod.fst)))) := by rw [hw4, hcb]; exact Lib.hid (by rw [List.take_zero]; exact blk_new wd _ _)
  have HK4 := Lib.hid hk4
  have hcb2 : wd.heap.size ≤ cb := by omega
  clear hk4
  go_upto_region 7 with (fail)
  change Code.wp _ _ _ _ (wd.alloc (.cells (ints .i64 (List.replicate 19 0)).toArray 3))
  rw [← hw4, ← hcb]
  clear hw4 hcb hmk
  go_wp2_with fail
  go_loopw [64] (fun iv wr => ∃ (i : Nat), i ≤ k ∧ iv = .int .i64 i ∧ Hid (Blk wr cb 3 (ints .i64 (cntF 19 ((st.take i).map Prod.fst)))) ∧ Hid (Keeps [] wd wr)) (fun iv _ => k - (intOf iv).toNat)
  case atStart => exact ⟨0, by omega, rfl, HC4, HK4⟩
  case round =>
    clear HC4 HK4
    obtain ⟨i, hi, rfl, HC, HK⟩ := hrel
    by_cases hlt : i < k
    · have e0 : decide (i < k) = true := by simpa using hlt
      obtain ⟨b, o, rfl⟩ := HRP.out.hd (by omega)
      obtain ⟨p1, p2⟩ := (HRP.out.keeps HK.out (off_nil _)).cell b o rfl i hlt
      obtain ⟨s0, s1, -, -⟩ := HSY.out _ (pth_mem (show i < st.length by have := HKK.out; omega))
      obtain ⟨j, hj⟩ : ∃ j : Nat, (pth st i).1 = j := ⟨(pth st i).1.toNat, by omega⟩
      have hj19 : j < 19 := by omega
      have HCN : Hid (cntF 19 ((st.take (i + 1)).map Prod.fst) = (cntF 19 ((st.take i).map Prod.fst)).set j (nth (cntF 19 ((st.take i).map Prod.fst)) j + 1)) := Lib.hid (by
        rw [take_pth (show i < st.length by have := HKK.out; omega), List.map_append, List.map_singleton, hj, cntF_snoc _ _ _ hj19])
      have hbd := cnt_bd 19 ((st.take i).map Prod.fst) j hj19
      have hcl : (cntF 19 ((st.take i).map Prod.fst)).length = 19 := cntF_len _ _
      have hbl : ((st.take i).map Prod.fst).length ≤ 316 := by rw [List.length_map, List.length_take]; omega
      rw [hj] at p1
      generalize (pth st i).2 = x at *
      generalize cntF 19 ((st.take i).map Prod.fst) = cs0 at *
      obtain ⟨v, hv⟩ : ∃ v, v = nth cs0 j := ⟨_, rfl⟩
      have hcl2 := (HC.out).cell j
      rw [show (ints .i64 cs0)[j]? = some (.int .i64 v) by rw [ints_getElem?, hv]; simp [nth, List.getD, show j < cs0.length by omega]] at hcl2
      have hfr := (HC.out).frozen j
      have hclt := HC.out.lt
      have s2 : IntKind.i64.wrap (v + 1) = v + 1 := IntWalk.i64_in _ (by omega)
      go_wp2_with fail
      go_roundw
      case rel =>
        refine ⟨i + 1, by omega, by go_num, ?_, Lib.hid ((HK.out.setCell (p := ⟨cb, j, none⟩) (Or.inr hcb2) _).alloc _)⟩
        rw [HCN.out]
        have := (HC.out.set j (.int .i64 (nth cs0 j + 1))).keeps ((Keeps.refl [] _).alloc (.cells #[.int .i64 (j : Int), .int .i64 x] 31)) (by simp)
        rw [show (ints .i64 cs0).set j (.int .i64 (nth cs0 j + 1)) = ints .i64 (cs0.set j (nth cs0 j + 1)) by simp [ints, List.map_set]] at this
        exact Lib.hid this
      case measure => simp [intOf]; omega
    · obtain rfl : i = k := by omega
      have e0 : decide (i < i) = false := by simp
      have HCR : Hid (RI .i64 wr (some ⟨cb, 0, none⟩) 19 (countsW lit dist)) := Lib.hid (by
        have h := HC.out
        rw [← HKK.out, List.take_length, HST.out] at h
        have := Blk.ri (xs := countsW lit dist) (ys := []) (by rw [List.append_nil]; exact h)
        rwa [countsW_len] at this)
      obtain ⟨w5, hw5⟩ : ∃ x : World, x = wr := ⟨_, rfl⟩
      rw [← hw5] at HK HCR ⊢
      clear HC hw5
      go_wp2_with fail
      refine (limit_calls w5 _ _ _ (countsW lit dist) 7 HCR.out).mono ?_
      rw [HM.out.lim]
      rintro e w6 ⟨vl, rfl, ho6, hb6⟩
      rw [codesW_len] at ho6
      obtain ⟨AL, cl, rfl, hrl, -⟩ := own_ri ho6
      have hk6 := Keeps.of_below hb6 (S := [])
      have hg5 : g + 1 ≤ w5.heap.size := by have := KD.out.size; have := HK.out.size; omega
      have HO6 : Hid (w6.ownsRow (g + 1) 3 1 (.slice AL 19 cl) 19 (ints .i64 (codesW lit dist))) := Lib.hid (ho6.mono hg5)
      have HRL := Lib.hid hrl
      have K6 := Lib.hid (HK.out.trans hk6)
      have hg6 : g + 1 ≤ w6.heap.size := by have := hk6.size; omega
      have HCB : Hid (∀ i, i < 19 → 0 ≤ nth (codesW lit dist) i ∧ nth (codesW lit dist) i ≤ 7) := Lib.hid (fun i hi => (HM.out.codes i hi).2)
      have HCS : Hid (∀ s ∈ st, 1 ≤ nth (codesW lit dist) s.1.toNat) := Lib.hid (by rw [HST.out]; exact fun s hs => (HM.out.code s hs).1)
      have HCK : Hid (checkF (codesW lit dist) = 0) := Lib.hid HM.out.check
      have HCL : Hid ((codesW lit dist).length = 19) := Lib.hid (codesW_len lit dist)
      have HHB : Hid (headB lit dist = vbits ((n1 : Int) - 257) 5 ++ (vbits ((n2 : Int) - 1) 5 ++ (vbits ((manyGo (codesW lit dist) 19 : Int) - 4) 4 ++ (codeBits (codesW lit dist) (manyGo (codesW lit dist) 19) ++ stepsB (codesW lit dist) st)))) := Lib.hid (by rw [HST.out]; unfold headB; rw [HL1.out, HL2.out])
      have hn1 : 257 ≤ n1 := by rw [← HL1.out]; exact HM.out.lit0
      have hn2 : 1 ≤ n2 := by rw [← HL2.out]; exact HM.out.dist0
      clear ho6 hrl hb6 hk6 HCR HK
      generalize codesW lit dist = cd at *
      go_wp2_with fail
      refine (codes_calls w6 _ _ _ cd HRL.out (by omega)).mono ?_
      rintro e w7 ⟨vr, rfl, ho7, hb7⟩
      obtain ⟨hcl7, hcat⟩ := codes_atW HCK.out
      rw [hcl7, HCL.out] at ho7
      obtain ⟨AR, cr, rfl, hrr, -⟩ := own_ri ho7
      have hk7 := Keeps.of_below hb7 (S := [])
      have HCA := Lib.hid hcat
      have HO7 : Hid (w7.ownsRow (g + 1) 68 1 (.slice AR 19 cr) 19 (ints .u32 (codesF cd).1)) := Lib.hid (ho7.mono hg6)
      have HO6' := Lib.hid (own_keeps HO6.out hk7 (by simp))
      have K7 := Lib.hid (KD.out.trans (K6.out.trans hk7))
      have HOS' := Lib.hid (own_keeps HOS.out (K6.out.trans hk7) (by simp))
      have HRL' := Lib.hid (HRL.out.keeps hk7 (off_nil _))
      have HT7 := Lib.hid (HT.out.keeps K7.out (by simp))
      have HW7 := Lib.hid (HW.out.keeps K7.out (by simp))
      clear ho7 hrr hb7 hk7 hcl7 hcat HO6 K6 HOS HRL HRP HT HW
      generalize (codesF cd).1 = rw at *
      generalize (codesF cd).2 = er at *
      go_upto_block 3 with (fail)
      go_cut [16] (fun mv wc => ∃ m : Nat, 4 ≤ m ∧ m ≤ 19 ∧ mv = .int .i64 m ∧ Hid (manyGo cd 19 = m) ∧ Hid (Keeps [] w7 wc))
      case first =>
        go_wp2_with fail
        go_loopw [16] (fun mv wr => ∃ (m : Nat), 4 ≤ m ∧ m ≤ 19 ∧ mv = .int .i64 m ∧ Hid (manyGo cd 19 = manyGo cd m) ∧ Hid (Keeps [] w7 wr)) (fun mv _ => (intOf mv).toNat)
        case atStart => exact ⟨19, by omega, by omega, rfl, Lib.hid rfl, Lib.hid (Keeps.refl _ _)⟩
        case round =>
          obtain ⟨m, hm4, hm19, rfl, HMG, HK⟩ := hrel
          obtain ⟨ol0, ol1⟩ := order_lt (m - 1) (by omega)
          have ho := (HT7.out.keeps HK.out (by simp)).ord.cell _ _ rfl (m - 1) (by omega)
          rw [Nat.zero_add] at ho
          have HDN : Hid (4 < m → nth cd (nth orderL (m - 1)).toNat = 0 → manyGo cd m = manyGo cd (m - 1)) := Lib.hid (manyGo_down cd m)
          have HSP : Hid (m = 4 ∨ nth cd (nth orderL (m - 1)).toNat ≠ 0 → manyGo cd m = m) := Lib.hid (manyGo_stop cd m hm4)
          obtain ⟨oj, hoo⟩ : ∃ o : Nat, nth orderL (m - 1) = o := ⟨(nth orderL (m - 1)).toNat, by omega⟩
          rw [hoo] at ho ol1 HDN HSP
          rw [Int.toNat_natCast] at HDN HSP
          have ho19 : oj < 19 := by omega
          obtain ⟨lb, lo, rfl, hlc⟩ := (HRL'.out.keeps HK.out (off_nil _)).at ho19
          clear hoo ol0 ol1
          have s1 : IntKind.i64.wrap ((m : Int) - 1) = ((m - 1 : Nat) : Int) := by rw [IntWalk.i64_in _ (by omega)]; omega
          have s2 : (m : Int) - 1 = ((m - 1 : Nat) : Int) := by omega
          by_cases h4 : 4 < m
          · have e1 : decide (4 < m) = true := by simpa using h4
            have e2 : decide ((4 : Int) < (m : Int)) = true := by simp; omega
            by_cases h0 : nth cd oj = 0
            · rw [h0] at hlc
              go_wp2_with fail
              go_roundw
              case rel => exact ⟨m - 1, by omega, by omega, by go_num, Lib.hid (by rw [HMG.out]; exact HDN.out h4 h0), HK⟩
              case measure => simp [intOf]; omega
            · have e3 : (nth cd oj == 0) = false := by simpa using h0
              have e4 : decide (nth cd oj = 0) = false := by simpa using h0
              go_wp2_with fail
              go_meet
              exact ⟨m, by omega, by omega, rfl, Lib.hid (by rw [HMG.out]; exact HSP.out (.inr h0)), HK⟩
          · have e1 : decide (4 < m) = false := by simpa using h4
            have e2 : decide ((4 : Int) < (m : Int)) = false := by simp; omega
            go_wp2_with fail
            go_meet
            exact ⟨m, by omega, by omega, rfl, Lib.hid (by rw [HMG.out]; exact HSP.out (.inl (by omega))), HK⟩
      case rest =>
        obtain ⟨m, hm4, hm19, rfl, HMG, hkw⟩ := hcut
        have HOSp := Lib.hid (own_keeps HOS'.out hkw.out (by simp))
        have HO6p := Lib.hid (own_keeps HO6'.out hkw.out (by simp))
        have HO7p := Lib.hid (own_keeps HO7.out hkw.out (by simp))
        have HTp := Lib.hid (HT7.out.keeps hkw.out (by simp))
        have HWp := Lib.hid (HW7.out.keeps hkw.out (by simp))
        have KP := Lib.hid (K7.out.trans hkw.out)
        have HBL := Lib.hid hb
        clear HOS' HO6' HO7 HT7 HW7 K7 hkw HRL' KC KD e0 hb
        obtain ⟨x1, hx1⟩ : ∃ x : Int, x = (n1 : Int) - 257 := ⟨_, rfl⟩
        obtain ⟨x2, hx2⟩ : ∃ x : Int, x = (n2 : Int) - 1 := ⟨_, rfl⟩
        obtain ⟨x3, hx3⟩ : ∃ x : Int, x = (m : Int) - 4 := ⟨_, rfl⟩
        have hx10 : 0 ≤ x1 := by omega
        have hx11 : x1 < 32 := by omega
        have hx20 : 0 ≤ x2 := by omega
        have hx21 : x2 < 32 := by omega
        have hx30 : 0 ≤ x3 := by omega
        have hx31 : x3 < 16 := by omega
        have HHC : Hid (headB lit dist = vbits x1 5 ++ (vbits x2 5 ++ (vbits x3 4 ++ (codeBits cd m ++ stepsB cd st)))) := Lib.hid (by rw [HHB.out, HMG.out, ← hx1, ← hx2, ← hx3])
        have f1 : (n1 : Int) - 257 = x1 := hx1.symm
        have f2 : (n2 : Int) - 1 = x2 := hx2.symm
        have f3 : (m : Int) - 4 = x3 := hx3.symm
        have g1 : IntKind.i64.wrap x1 = x1 := IntWalk.i64_in _ (by omega)
        have g2 : IntKind.i64.wrap x2 = x2 := IntWalk.i64_in _ (by omega)
        have g3 : IntKind.i64.wrap x3 = x3 := IntWalk.i64_in _ (by omega)
        have k1 : IntKind.u32.wrap x1 = x1 := IntWalk.u32_in _ (by omega)
        have k2 : IntKind.u32.wrap x2 = x2 := IntWalk.u32_in _ (by omega)
        have k3 : IntKind.u32.wrap x3 = x3 := IntWalk.u32_in _ (by omega)
        clear hx1 hx2 hx3 HHB HMG
        go_wp2_with fail
        refine (put_calls _ g bl x1 5 HWp.out hx10 (by omega) (by omega) (Int.ediv_eq_zero_of_lt hx10 hx11) (by have := HBL.out; omega)).mono ?_
        rintro _ w8 ⟨rfl, hw8, hb8, hp8⟩
        have HW8 := Lib.hid hw8
        have HB8 := Lib.hid hb8
        have HP8 := Lib.hid hp8
        clear hw8 hb8 hp8 HWp
        go_wp2_with fail
        refine (put_calls _ g _ x2 5 HW8.out hx20 (by omega) (by omega) (Int.ediv_eq_zero_of_lt hx20 hx21) (by have := HBL.out; simp only [List.length_append, vbits_len]; omega)).mono ?_
        rintro _ w9 ⟨rfl, hw9, hb9, hp9⟩
        have HW9 := Lib.hid hw9
        have HB9 := Lib.hid (HB8.out.trans hb9)
        have HP9 := Lib.hid (HP8.out.trans hp9)
        clear hw9 hb9 hp9 HW8 HB8 HP8
        go_wp2_with fail
        refine (put_calls _ g _ x3 4 HW9.out hx30 (by omega) (by omega) (Int.ediv_eq_zero_of_lt hx30 hx31) (by have := HBL.out; simp only [List.length_append, vbits_len]; omega)).mono ?_
        rintro _ w10 ⟨rfl, hw10, hb10, hp10⟩
        have HW10 := Lib.hid hw10
        have HB10 := Lib.hid (HB9.out.trans hb10)
        have HP10 := Lib.hid (HP9.out.trans hp10)
        obtain ⟨bl3, hbl3⟩ : ∃ x, x = bl ++ vbits x1 5 ++ vbits x2 5 ++ vbits x3 4 := ⟨_, rfl⟩
        rw [← hbl3] at HW10
        have HHD : Hid (bl ++ headB lit dist = bl3 ++ codeBits cd m ++ stepsB cd st) := Lib.hid (by rw [HHC.out, hbl3]; simp only [List.append_assoc])
        have HBL3 : Hid (bl3.length ≤ 50000014) := Lib.hid (by have := HBL.out; rw [hbl3]; simp only [List.length_append, vbits_len]; omega)
        have hsl := fun w => slice_arr w 1 m hm19
        clear hw10 hb10 hp10 HW9 HB9 HP9 hbl3 f1 f2 f3 g1 g2 g3 k1 k2 k3 hx10 hx11 hx20 hx21 hx30 hx31 HHC
        go_wp2_with fail
        go_loopw [120] (fun iv wr => ∃ (q : Nat), q ≤ m ∧ iv = .int .i64 q ∧ Hid (Wtr wr g (bl3 ++ codeBits cd q)) ∧ Hid (Below g wc wr) ∧ Hid (PT g wc wr)) (fun iv _ => m - (intOf iv).toNat)
        case atStart => exact ⟨0, by omega, rfl, Lib.hid (by rw [show codeBits cd 0 = [] from rfl, List.append_nil]; exact HW10.out), HB10, HP10⟩
        case round =>
          clear HW10 HB10 HP10 hsl
          obtain ⟨q, hq, rfl, HWq, HBq, HPq⟩ := hrel
          by_cases hlt : q < m
          · have e0 : decide (q < m) = true := by simpa using hlt
            obtain ⟨ol0, ol1⟩ := order_lt q (by omega)
            have ho := (HTp.out.below HBq.out hg).ord.cell _ _ rfl q (by omega)
            rw [Nat.zero_add] at ho
            have HCN : Hid (codeBits cd (q + 1) = codeBits cd q ++ vbits (nth cd (nth orderL q).toNat) 3) := Lib.hid (codeBits_succ cd q)
            obtain ⟨oj, hoo⟩ : ∃ o : Nat, nth orderL q = o := ⟨(nth orderL q).toNat, by omega⟩
            rw [hoo] at ho ol1 HCN
            rw [Int.toNat_natCast] at HCN
            have ho19 : oj < 19 := by omega
            obtain ⟨lb, lo, hAL, hlc⟩ := (ri_pt (by decide) (Nat.lt_succ_self g) HO6p.out HPq.out).at ho19
            subst hAL
            obtain ⟨c0, c1⟩ := HCB.out oj ho19
            have HLQ : Hid ((codeBits cd q).length = 3 * q) := Lib.hid (codeBits_len cd q)
            clear hoo ol0 ol1
            generalize nth cd oj = y at *
            have k1 : IntKind.u32.wrap y = y := IntWalk.u32_in _ (by omega)
            go_wp2_with fail
            refine (put_calls _ g _ y 3 HWq.out c0 (by omega) (by omega) (Int.ediv_eq_zero_of_lt c0 (Int.lt_of_le_of_lt c1 (by decide))) (by have := HBL3.out; have := HLQ.out; simp only [List.length_append]; omega)).mono ?_
            rintro _ w11 ⟨rfl, hw11, hb11, hp11⟩
            have HW11 : Hid (Wtr w11 g (bl3 ++ codeBits cd (q + 1))) := Lib.hid (by rw [HCN.out, ← List.append_assoc]; exact hw11)
            have HB11 := Lib.hid (HBq.out.trans hb11)
            have HP11 := Lib.hid (HPq.out.trans hp11)
            clear hw11 hb11 hp11 HWq HBq HPq
            go_wp2_with fail
            go_roundw
            case rel => exact ⟨q + 1, by omega, by go_num, HW11, HB11, HP11⟩
            case measure => simp [intOf]; omega
          · obtain rfl : q = m := by omega
            have e0 : decide (q < q) = false := by simp
            obtain ⟨bl4, hbl4⟩ : ∃ x, x = bl3 ++ codeBits cd q := ⟨_, rfl⟩
            have HHE : Hid (bl ++ headB lit dist = bl4 ++ stepsB cd st) := Lib.hid (by rw [HHD.out, hbl4])
            have HBL4 : Hid (bl4.length ≤ 50000100) := Lib.hid (by have := HBL3.out; rw [hbl4, List.length_append, codeBits_len]; omega)
            rw [← hbl4] at HWq
            clear hbl4 HHD HBL3
            go_wp2_with fail
            go_loopw [134] (fun iv wr => ∃ (p : Nat), p ≤ i ∧ iv = .int .i64 p ∧ Hid (Wtr wr g (bl4 ++ stepsB cd (st.take p))) ∧ Hid (Below g wc wr) ∧ Hid (PT g wc wr)) (fun iv _ => i - (intOf iv).toNat)
            case atStart => exact ⟨0, by omega, rfl, Lib.hid (by rw [List.take_zero, show stepsB cd [] = [] from rfl, List.append_nil]; exact HWq.out), HBq, HPq⟩
            case round =>
              clear HWq HBq HPq
              obtain ⟨p, hp, rfl, HWl, HBl, HPl⟩ := hrel
              by_cases hlt2 : p < i
              · have e5 : decide (p < i) = true := by simpa using hlt2
                have HRPl := rp_pt (by decide) (Nat.lt_succ_self g) HOSp.out HPl.out
                obtain ⟨sb, so, rfl⟩ := HRPl.hd (by omega)
                obtain ⟨p1, p2⟩ := HRPl.cell sb so rfl p hlt2
                have hps : p < st.length := by have := HKK.out; omega
                obtain ⟨s0, s1, s2, s3⟩ := HSY.out _ (pth_mem hps)
                have hcs := HCS.out _ (pth_mem hps)
                obtain ⟨j, hj⟩ : ∃ j : Nat, (pth st p).1 = j := ⟨(pth st p).1.toNat, by omega⟩
                obtain ⟨x, hx⟩ : ∃ x : Int, x = (pth st p).2 := ⟨_, rfl⟩
                have HST2 : Hid (stepsB cd (st.take (p + 1)) = stepsB cd (st.take p) ++ (msbF (codeI cd j) (nth cd j).toNat ++ vbits x (wN (j : Int)))) := Lib.hid (by
                  rw [take_pth hps]
                  unfold stepsB
                  rw [List.flatMap_append, List.flatMap_singleton, stepB, hj, ← hx, Int.toNat_natCast])
                have HSL2 : Hid ((stepsB cd (st.take p)).length ≤ 14 * 316) := Lib.hid (by
                  have h1 := stepsB_len (codes := cd) (st.take p) (fun s hs => by
                    have := HSY.out s (List.mem_of_mem_take hs)
                    exact (HCB.out _ (by omega)).2)
                  have h2 : (st.take p).length ≤ 316 := by rw [List.length_take]; omega
                  omega)
                rw [hj] at p1 s0 s1 s3 hcs
                rw [← hx] at p2 s2 s3
                rw [Int.toNat_natCast] at hcs
                have hj19 : j < 19 := by omega
                obtain ⟨cb1, co1, hAL, hlc⟩ := (ri_pt (by decide) (Nat.lt_succ_self g) HO6p.out HPl.out).at hj19
                subst hAL
                obtain ⟨c0, c1⟩ := HCB.out j hj19
                obtain ⟨rb1, ro1, hAR, hrc⟩ := (ri_pt (by decide) (Nat.lt_succ_self g) HO7p.out HPl.out).at hj19
                subst hAR
                obtain ⟨M, hM⟩ : ∃ M : Nat, nth cd j = M := ⟨(nth cd j).toNat, by omega⟩
                rw [HCA.out j M (by have := HCL.out; omega) hM (by omega)] at hrc
                rw [hM] at hlc hcs c0 c1 HST2
                rw [Int.toNat_natCast] at HST2
                have hrb := revF_bd (codeI cd j) M
                have hp16 := pow16 M (by omega)
                have HVB : Hid (vbits (revF (codeI cd j) M) M = msbF (codeI cd j) M) := Lib.hid (vbits_revW _ _)
                have HX0 : Hid (revF (codeI cd j) M / 2 ^ M = 0) := Lib.hid (Int.ediv_eq_zero_of_lt hrb.1 hrb.2)
                have hy0 := hrb.1
                have hy1 : revF (codeI cd j) M < 4294967296 := by omega
                have hwn := wN_le (j : Int)
                have hw8 := pow_le8 (wN (j : Int)) (by omega)
                have HX1 : Hid (x / 2 ^ wN (j : Int) = 0) := Lib.hid (Int.ediv_eq_zero_of_lt s2 s3)
                have hwt := (HTp.out.below HBl.out hg).wid.cell _ _ rfl j (by omega)
                rw [Nat.zero_add, wN_tab j hj19] at hwt
                have hM7 : M ≤ 7 := by omega
                clear hrb hp16 hcs c0 c1 HRPl hj hx hps
                generalize revF (codeI cd j) M = y at *
                have hx256 : x < 256 := by omega
                generalize hwN : wN (j : Int) = W at *
                have HWN := Lib.hid hwN
                clear hwN s3 hw8
                have t1 : IntKind.i64.wrap (j : Int) = (j : Int) := IntWalk.i64_in _ (by omega)
                have t2 : (0 : Int) ≤ (j : Int) := by omega
                have t3 : (j : Int) < 19 := by omega
                have t4 : IntKind.u32.wrap x = x := IntWalk.u32_in _ (by omega)
                obtain ⟨gs, hgs⟩ : ∃ z, z = wr.heap.size := ⟨_, rfl⟩
                obtain ⟨w20, hw20⟩ : ∃ z, z = wr.alloc (.cells #[.int .i64 (j : Int), .int .i64 x] 31) := ⟨_, rfl⟩
                have HB20 : Hid (Blk w20 gs 31 [.int .i64 (j : Int), .int .i64 x]) := by rw [hw20, hgs]; exact Lib.hid (blk_new wr _ [.int .i64 (j : Int), .int .i64 x])
                have ka : Keeps [] wr w20 := by rw [hw20]; exact (Keeps.refl [] wr).alloc _
                have hgl := HWl.out.lt
                have HW20 := Lib.hid (HWl.out.keeps ka (by simp))
                have HBl20 : Hid (Below g wc w20) := by rw [hw20]; exact Lib.hid (HBl.out.alloc (Nat.le_of_lt (Nat.lt_of_lt_of_le (by rw [hgs] at *; exact hgl) (Nat.le_refl _))) _)
                have HPl20 : Hid (PT g wc w20) := by rw [hw20]; exact Lib.hid (HPl.out.alloc _)
                have hggs : gs ≠ g := by omega
                go_upto_region 28 with (fail)
                change Code.wp _ _ _ _ (wr.alloc (.cells #[.int .i64 (j : Int), .int .i64 x] 31))
                rw [← hw20, ← hgs]
                have hlc' := ka.cell (by simp) hlc
                have hrc' := ka.cell (by simp) hrc
                have hwt' := ka.cell (by simp) hwt
                have b1 := HB20.out.cell 0
                have b2 := HB20.out.cell 1
                simp only [List.getElem?_cons_zero, List.getElem?_cons_succ] at b1 b2
                clear hlc hrc hwt ka hgl HWl HBl HPl p1 p2 hw20 hgs e5
                go_wp2_with fail
                go_still_tail 11, (by kernel_rfl)
                change wpList _ _ _ _ _ w20.drew
                have hdr := (Keeps.refl [] w20).drew
                have HWd := Lib.hid (HW20.out.keeps hdr (by simp))
                have HBd := Lib.hid (HBl20.out.trans (below_lower hdr.below (Nat.le_of_lt HW20.out.lt)))
                have HPd := Lib.hid HPl20.out.drew
                have HB2 := Lib.hid (HB20.out.keeps hdr (by simp))
                clear hdr HW20 HBl20 HPl20 HB20 b1 b2 hlc' hrc' hwt'
                go_wp2_with fail
                refine (put_calls _ g _ y M HWd.out hy0 hy1 (by omega) HX0.out (by have := HBL4.out; have := HSL2.out; simp only [List.length_append]; omega)).mono ?_
                rintro _ w21 ⟨rfl, hw21, hb21, hp21⟩
                rw [HVB.out] at hw21
                have HW21 := Lib.hid hw21
                have HB21 := Lib.hid (HBd.out.trans hb21)
                have HP21 := Lib.hid (HPd.out.trans hp21)
                have HB22 : Hid (Blk w21 gs 31 [.int .i64 (j : Int), .int .i64 x]) := Lib.hid (by
                  have h := HB2.out
                  refine (hp21.same gs h.lt hggs (fun ⟨c, f, hc⟩ => ?_)).trans h
                  have h2 : w20.drew.heap[gs]? = _ := h
                  rw [h2] at hc
                  injection hc with hc
                  injection hc with _ h2 _
                  exact absurd h2 (by decide))
                have hwt2 := (HTp.out.below HB21.out hg).wid.cell _ _ rfl j (by omega)
                rw [Nat.zero_add, wN_tab j hj19, HWN.out] at hwt2
                have b1 := HB22.out.cell 0
                have b2 := HB22.out.cell 1
                simp only [List.getElem?_cons_zero, List.getElem?_cons_succ] at b1 b2
                clear hw21 hb21 hp21 HWd HBd HPd HB2 HB22
                go_wp2_with fail
                go_still_tail 8, (by kernel_rfl)
                change wpList _ _ _ _ _ w21.drew
                have hdr := (Keeps.refl [] w21).drew
                have HWd := Lib.hid (HW21.out.keeps hdr (by simp))
                have HBd := Lib.hid (HB21.out.trans (below_lower hdr.below (Nat.le_of_lt HW21.out.lt)))
                have HPd := Lib.hid HP21.out.drew
                clear hdr HW21 HB21 HP21 b1 b2 hwt2
                go_wp2_with fail
                refine (put_calls _ g _ x W HWd.out s2 (by omega) (by omega) HX1.out (by have := HBL4.out; have := HSL2.out; simp only [List.length_append, msbF_len]; omega)).mono ?_
                rintro _ w22 ⟨rfl, hw22, hb22, hp22⟩
                have HW22 : Hid (Wtr w22 g (bl4 ++ stepsB cd (st.take (p + 1)))) := Lib.hid (by rw [HST2.out]; simpa only [List.append_assoc] using hw22)
                have HB22 := Lib.hid (HBd.out.trans hb22)
                have HP22 := Lib.hid (HPd.out.trans hp22)
                clear hw22 hb22 hp22 HWd HBd HPd
                go_wp2_with fail
                go_roundw
                case rel => exact ⟨p + 1, by omega, by go_num, HW22, HB22, HP22⟩
                case measure => simp [intOf]; omega
              · obtain rfl : p = i := by omega
                have e5 : decide (p < p) = false := by simp
                go_wp2_with fail
                go_ret
                have h := HWl.out
                rw [← HKK.out, List.take_length, ← HHE.out] at h
                exact .inl ⟨HM.out, rfl, h, (below_lower KP.out.below (Nat.le_of_lt hgt)).trans HBl.out, (PT.of_keeps KP.out).trans HPl.out⟩
theorem any_range {xs : List Int} (h : anyBad xs = false) : ∀ x ∈ xs, 0 ≤ x ∧ x ≤ 15 := by
  intro x hx
  have := List.any_eq_false.1 h x hx
  simp [badLen] at this
  omega
set_option maxRecDepth 100000 in
set_option maxHeartbeats 4000000 in
theorem write_bad (w : World) (g : Nat) (bl : List Int) (A1 A2 : Option Addr) (n1 n2 c1 c2 : Nat) (lit dist : List Int) 
    (hx : RI .i64 w A1 n1 lit) (hy : RI .i64 w A2 n2 dist) (hm : ¬ MayW lit dist) :
    Calls Tryd.prog 44 #[.pointer (some ⟨g, 0, none⟩), .slice A1 n1 c1, .slice A2 n2 c2] w (Wrote w g bl lit dist) := by
  have HM := Lib.hid hm
  have HX := Lib.hid hx
  have HY := Lib.hid hy
  have HL1 : Hid (lit.length = n1) := Lib.hid hx.len
  have HL2 : Hid (dist.length = n2) := Lib.hid hy.len
  clear hx hy hm
  go_enter Tryd.func44, Tryd.ntmps44
  by_cases h1 : n1 < 257
  · have e1 : decide (n1 < 257) = true := by simpa using h1
    have e1' : decide ((n1 : Int) < 257) = true := by simp; omega
    go_wp2_with fail
    go_ret
    exact .inr ⟨HM.out, rfl, Below.refl _ _⟩
  have e1 : decide (n1 < 257) = false := by simpa using h1
  have e1' : decide ((n1 : Int) < 257) = false := by simp; omega
  by_cases h2 : 286 < n1
  · have e2 : decide (286 < n1) = true := by simpa using h2
    have e2' : decide ((286 : Int) < (n1 : Int)) = true := by simp; omega
    go_wp2_with fail
    go_ret
    exact .inr ⟨HM.out, rfl, Below.refl _ _⟩
  have e2 : decide (286 < n1) = false := by simpa using h2
  have e2' : decide ((286 : Int) < (n1 : Int)) = false := by simp; omega
  by_cases h3 : n2 < 1
  · have e3 : decide (n2 < 1) = true := by simpa using h3
    have e3' : decide ((n2 : Int) < 1) = true := by simp; omega
    have e3'' : n2 = 0 := by omega
    go_wp2_with fail
    go_ret
    exact .inr ⟨HM.out, rfl, Below.refl _ _⟩
  have e3 : decide (n2 < 1) = false := by simpa using h3
  have e3' : decide ((n2 : Int) < 1) = false := by simp; omega
  by_cases h4 : 30 < n2
  · have e4 : decide (30 < n2) = true := by simpa using h4
    have e4' : decide ((30 : Int) < (n2 : Int)) = true := by simp; omega
    go_wp2_with fail
    go_ret
    exact .inr ⟨HM.out, rfl, Below.refl _ _⟩
  have e4 : decide (30 < n2) = false := by simpa using h4
  have e4' : decide ((30 : Int) < (n2 : Int)) = false := by simp; omega
  go_wp2_with fail
  refine (lengths_calls _ _ _ _ lit HX.out (by omega)).mono ?_
  rintro _ wa ⟨rfl, hd1⟩
  have K1 := Lib.hid (hd1.keeps (S := []))
  clear hd1
  cases hb1 : anyBad lit with
  | true =>
    have HB1 := Lib.hid hb1
    clear hb1
    go_wp2_with fail
    go_ret
    exact .inr ⟨HM.out, rfl, K1.out.below⟩
  | false =>
    have HB1 := Lib.hid hb1
    clear hb1
    go_wp2_with fail
    refine (lengths_calls _ _ _ _ dist (HY.out.keeps K1.out (off_nil _)) (by omega)).mono ?_
    rintro _ wb ⟨rfl, hd1⟩
    have K2 := Lib.hid (K1.out.trans (hd1.keeps (S := [])))
    clear hd1 K1
    cases hb2 : anyBad dist with
    | true =>
      have HB2 := Lib.hid hb2
      clear hb2
      go_wp2_with fail
      go_ret
      exact .inr ⟨HM.out, rfl, K2.out.below⟩
    | false =>
      exfalso
      have := HL1.out
      have := HL2.out
      exact HM.out ⟨by omega, by omega, by omega, by omega, any_range HB1.out, any_range hb2⟩
theorem write_calls (w : World) (g : Nat) (bl : List Int) (A1 A2 : Option Addr) (n1 n2 c1 c2 : Nat) (lit dist : List Int) (hT : Tabs w) (hg : gtop ≤ g) (hw : Wtr w g bl) (hb : bl.length ≤ 50000000)
    (hx : RI .i64 w A1 n1 lit) (hy : RI .i64 w A2 n2 dist) :
    Calls Tryd.prog 44 #[.pointer (some ⟨g, 0, none⟩), .slice A1 n1 c1, .slice A2 n2 c2] w (Wrote w g bl lit dist) := by
  by_cases hm : MayW lit dist
  · exact write_good w g bl A1 A2 n1 n2 c1 c2 lit dist hT hg hw hb hx hy hm
  · exact write_bad w g bl A1 A2 n1 n2 c1 c2 lit dist hx hy hm
end Go.Proofs.YtcblibefmclloaaDoor

set_option linter.unusedVariables false
set_option linter.unusedSimpArgs false
namespace Go.Proofs.YtcblibefmclloaaDoor
open Go.RowKit
def saidV : Option (Int × Nat) → Value
  | some (v, k) => .tuple #[.int .i64 v, .int .i64 k, .bool true]
  | none => .tuple #[.int .i64 0, .int .i64 0, .bool false]
theorem saidV_none {r : Option (Int × Nat)} (h : r = none) : Ending.returned (.tuple #[.int .i64 0, .int .i64 0, .bool false]) = .returned (saidV r) := by rw [h]; rfl
theorem saidV_some {r : Option (Int × Nat)} {v ki : Int} {k : Nat} (h : r = some (v, k)) (hk : ki = k) : Ending.returned (.tuple #[.int .i64 v, .int .i64 ki, .bool true]) = .returned (saidV r) := by rw [h, hk]; rfl
set_option maxRecDepth 100000 in
set_option maxHeartbeats 1000000 in
theorem says_none (w : World) (len c : Nat) (A : Option Addr) (l : List Int) (sym extra : Int)
    (hs : sym < 0 ∨ 18 < sym ∨ (0 ≤ sym ∧ sym ≤ 15 ∧ (extra == 0) = false) ∨ (sym = 16 ∧ extra < 0) ∨ (sym = 16 ∧ 0 ≤ extra ∧ 3 < extra) ∨ (sym = 17 ∧ extra < 0) ∨ (sym = 17 ∧ 0 ≤ extra ∧ 7 < extra) ∨ (sym = 18 ∧ extra < 0) ∨ (sym = 18 ∧ 0 ≤ extra ∧ 127 < extra)) :
    Calls Tryd.prog 78 #[.agg #[.int .i64 sym, .int .i64 extra], .slice A len c] w fun e w' => e = .returned (saidV (sayF l sym extra)) ∧ Keeps [] w w' := by
  have hr : sayF l sym extra = none := by
    rcases hs with h | h | ⟨h1, h2, h3⟩ | ⟨rfl, h⟩ | ⟨rfl, _, h⟩ | ⟨rfl, h⟩ | ⟨rfl, _, h⟩ | ⟨rfl, h⟩ | ⟨rfl, _, h⟩
    · exact sayF_lit_none (by omega) (Or.inl h)
    · exact sayF_big h
    · exact sayF_lit_none h2 (Or.inr (by simpa using h3))
    · exact sayF_16_none (Or.inl h)
    · exact sayF_16_none (Or.inr (Or.inl h))
    · exact sayF_17_none (Or.inl h)
    · exact sayF_17_none (Or.inr h)
    · exact sayF_18_none (Or.inl h)
    · exact sayF_18_none (Or.inr h)
  have HRR := Lib.hid hr
  clear hr
  rcases hs with h | h | ⟨h1, h2, h3⟩ | ⟨rfl, h⟩ | ⟨rfl, h0, h⟩ | ⟨rfl, h⟩ | ⟨rfl, h0, h⟩ | ⟨rfl, h⟩ | ⟨rfl, h0, h⟩
  case' inl =>
    have e1 : (sym == 16) = false := by simp; omega
    have e2 : (sym == 17) = false := by simp; omega
    have e3 : (sym == 18) = false := by simp; omega
  case' inr.inl =>
    have e1 : (sym == 16) = false := by simp; omega
    have e2 : (sym == 17) = false := by simp; omega
    have e3 : (sym == 18) = false := by simp; omega
  case' inr.inr.inl =>
    have e1 : (sym == 16) = false := by simp; omega
    have e2 : (sym == 17) = false := by simp; omega
    have e3 : (sym == 18) = false := by simp; omega
  all_goals
    go_enter Tryd.func78, Tryd.ntmps78
    go_wp2
    go_ret3
    exact ⟨saidV_none HRR.out, by repeat (first | exact Keeps.refl _ _ | apply Keeps.drewN | apply Keeps.drew | apply Keeps.alloc)⟩
set_option maxRecDepth 100000 in
set_option maxHeartbeats 1000000 in
theorem says_none16 (w : World) (c : Nat) (A : Option Addr) (extra : Int) (h0 : 0 ≤ extra) (h3 : extra ≤ 3) :
    Calls Tryd.prog 78 #[.agg #[.int .i64 16, .int .i64 extra], .slice A 0 c] w fun e w' => e = .returned (saidV (sayF [] 16 extra)) ∧ Keeps [] w w' := by
  have HRR := Lib.hid (sayF_16_none (l := []) (extra := extra) (Or.inr (Or.inr rfl)))
  go_enter Tryd.func78, Tryd.ntmps78
  go_wp2
  go_ret3
  exact ⟨saidV_none HRR.out, by repeat (first | exact Keeps.refl _ _ | apply Keeps.drewN | apply Keeps.drew | apply Keeps.alloc)⟩
set_option maxRecDepth 100000 in
set_option maxHeartbeats 1000000 in
theorem says_lit (w : World) (len c : Nat) (A : Option Addr) (l : List Int) (sym : Int) (h0 : 0 ≤ sym) (h15 : sym ≤ 15) :
    Calls Tryd.prog 78 #[.agg #[.int .i64 sym, .int .i64 0], .slice A len c] w fun e w' => e = .returned (saidV (sayF l sym 0)) ∧ Keeps [] w w' := by
  have HRR := Lib.hid (sayF_lit (l := l) h0 h15)
  go_enter Tryd.func78, Tryd.ntmps78
  go_wp2
  go_ret3
  exact ⟨saidV_some HRR.out rfl, by repeat (first | exact Keeps.refl _ _ | apply Keeps.drewN | apply Keeps.drew | apply Keeps.alloc)⟩
set_option maxRecDepth 100000 in
set_option maxHeartbeats 1000000 in
theorem says_16 (w : World) (len c : Nat) (A : Option Addr) (l : List Int) (extra : Int) (hl : RI .i64 w A len l) (hp : 0 < len) (hn : len ≤ 1000000) (h0 : 0 ≤ extra) (h3 : extra ≤ 3) :
    Calls Tryd.prog 78 #[.agg #[.int .i64 16, .int .i64 extra], .slice A len c] w fun e w' => e = .returned (saidV (sayF l 16 extra)) ∧ Keeps [] w w' := by
  have hll := hl.len
  have HRR := Lib.hid (sayF_16 (l := l) h0 h3 (by rintro rfl; simp at hll; omega))
  obtain ⟨b, o, rfl, hlast⟩ := hl.at (show len - 1 < len by omega)
  have hlast' := fun ob => ((Keeps.refl [] w).alloc ob).cell (by simp) hlast
  have HE : Hid (nth l (len - 1) = l.getD (l.length - 1) 0) := by rw [hll]; rfl
  have e2 : IntKind.i64.wrap ((len : Int) - 1) = (len : Int) - 1 := IntWalk.i64_in _ (by omega)
  have e3 : IntKind.i64.wrap (extra + 3) = extra + 3 := IntWalk.i64_in _ (by omega)
  have e7 : (0 : Int) ≤ (len : Int) - 1 := by omega
  have e8 : ((len : Int) - 1).toNat = len - 1 := by omega
  clear hlast hl hll
  go_enter Tryd.func78, Tryd.ntmps78
  go_wp2
  go_quiet (fail)
  go_wp2
  go_ret3
  rw [HE.out]
  exact ⟨saidV_some HRR.out (by omega), by repeat (first | exact Keeps.refl _ _ | apply Keeps.drewN | apply Keeps.drew | apply Keeps.alloc)⟩
set_option maxRecDepth 100000 in
set_option maxHeartbeats 1000000 in
theorem says_17 (w : World) (len c : Nat) (A : Option Addr) (l : List Int) (extra : Int) (h0 : 0 ≤ extra) (h3 : extra ≤ 7) :
    Calls Tryd.prog 78 #[.agg #[.int .i64 17, .int .i64 extra], .slice A len c] w fun e w' => e = .returned (saidV (sayF l 17 extra)) ∧ Keeps [] w w' := by
  have HRR := Lib.hid (sayF_17 (l := l) h0 h3)
  have e3 : IntKind.i64.wrap (extra + 3) = extra + 3 := IntWalk.i64_in _ (by omega)
  go_enter Tryd.func78, Tryd.ntmps78
  go_wp2
  go_quiet (fail)
  go_wp2
  go_ret3
  exact ⟨saidV_some HRR.out (by omega), by repeat (first | exact Keeps.refl _ _ | apply Keeps.drewN | apply Keeps.drew | apply Keeps.alloc)⟩
set_option maxRecDepth 100000 in
set_option maxHeartbeats 1000000 in
theorem says_18 (w : World) (len c : Nat) (A : Option Addr) (l : List Int) (extra : Int) (h0 : 0 ≤ extra) (h3 : extra ≤ 127) :
    Calls Tryd.prog 78 #[.agg #[.int .i64 18, .int .i64 extra], .slice A len c] w fun e w' => e = .returned (saidV (sayF l 18 extra)) ∧ Keeps [] w w' := by
  have HRR := Lib.hid (sayF_18 (l := l) h0 h3)
  have e3 : IntKind.i64.wrap (extra + 11) = extra + 11 := IntWalk.i64_in _ (by omega)
  go_enter Tryd.func78, Tryd.ntmps78
  go_wp2
  go_quiet (fail)
  go_wp2
  go_ret3
  exact ⟨saidV_some HRR.out (by omega), by repeat (first | exact Keeps.refl _ _ | apply Keeps.drewN | apply Keeps.drew | apply Keeps.alloc)⟩
theorem says_calls (w : World) (len c : Nat) (A : Option Addr) (l : List Int) (sym extra : Int) (hl : RI .i64 w A len l) (hn : len ≤ 1000000) :
    Calls Tryd.prog 78 #[.agg #[.int .i64 sym, .int .i64 extra], .slice A len c] w fun e w' => e = .returned (saidV (sayF l sym extra)) ∧ Keeps [] w w' := by
  by_cases hs : sym < 0 ∨ 18 < sym ∨ (0 ≤ sym ∧ sym ≤ 15 ∧ (extra == 0) = false) ∨ (sym = 16 ∧ extra < 0) ∨ (sym = 16 ∧ 0 ≤ extra ∧ 3 < extra) ∨ (sym = 17 ∧ extra < 0) ∨ (sym = 17 ∧ 0 ≤ extra ∧ 7 < extra) ∨ (sym = 18 ∧ extra < 0) ∨ (sym = 18 ∧ 0 ≤ extra ∧ 127 < extra)
  · exact says_none w len c A l sym extra hs
  · rcases (by omega : 0 ≤ sym ∧ sym ≤ 15 ∨ sym = 16 ∨ sym = 17 ∨ sym = 18) with ⟨h0, h1⟩ | rfl | rfl | rfl
    · have hx : extra = 0 := by
        by_cases h : extra = 0
        · exact h
        · exact absurd (Or.inr (Or.inr (Or.inl ⟨h0, h1, by simpa using h⟩))) hs
      subst hx
      exact says_lit w len c A l sym h0 h1
    · by_cases hp : 0 < len
      · exact says_16 w len c A l extra hl hp hn (by omega) (by omega)
      · obtain rfl : len = 0 := by omega
        obtain rfl : l = [] := List.eq_nil_of_length_eq_zero hl.len
        exact says_none16 w c A extra (by omega) (by omega)
    · exact says_17 w len c A l extra (by omega) (by omega)
    · exact says_18 w len c A l extra (by omega) (by omega)
end Go.Proofs.YtcblibefmclloaaDoor
