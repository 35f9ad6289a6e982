import Derived.Test.YtcblibefmclloaaDoorNewReader
set_option linter.unusedVariables false
set_option linter.unusedSimpArgs false
namespace Go.Proofs.YtcblibefmclloaaDoor
open Go.RowKit
/-- A block of one cell, not frozen. -/
structure Box (w : World) (b : Nat) (v : Value) : Prop where
  cell : w.cell? ⟨b, 0, none⟩ = some v
  free : w.frozen? ⟨b, 0, none⟩ = false
theorem Box.lt {w : World} {b : Nat} {v : Value} (h : Box w b v) : b < w.heap.size := World.block_lt_of_cell? _ _ h.cell
theorem Box.keeps {S : List Nat} {w w' : World} {b : Nat} {v : Value} (h : Box w b v) (hk : Keeps S w w') (hn : b ∉ S) : Box w' b v :=
  ⟨hk.cell (p := ⟨b, 0, none⟩) hn h.cell, (hk.frozen (p := ⟨b, 0, none⟩) h.lt hn).trans h.free⟩
theorem Box.set {w : World} {b : Nat} {v : Value} (h : Box w b v) (u : Value) : Box (w.setCell ⟨b, 0, none⟩ u) b u :=
  ⟨World.cell?_setCell_same' _ _ _ (by rw [h.cell]; rfl), by simpa using h.free⟩
/-- What the head's reader holds: the reader, its box, the box of what is wrong. -/
structure Hd (w : World) (rb eb g : Nat) (A : Option Addr) (c : Nat) (bs : List Int) (p : Nat) (e : Int) : Prop where
  rd : Rdr w g A c bs p
  bxr : Box w rb (.pointer (some ⟨g, 0, none⟩))
  bxe : Box w eb (.int .i64 e)
  hgr : g < rb
  hre : rb < eb
  ha : ∀ a, A = some a → a.block < rb
theorem Hd.offE {w : World} {rb eb g : Nat} {A : Option Addr} {c : Nat} {bs : List Int} {p : Nat} {e : Int} (h : Hd w rb eb g A c bs p e) : Off [eb] A := by
  intro a ha; have := h.ha a ha; have := h.hre; simp; omega
theorem Hd.take {w w' : World} {rb eb g : Nat} {A : Option Addr} {c : Nat} {bs : List Int} {p q : Nat} {e : Int} (h : Hd w rb eb g A c bs p e) (hr : Rdr w' g A c bs q) (hk : Keeps [g] w w') : Hd w' rb eb g A c bs q e :=
  ⟨hr, h.bxr.keeps hk (by have := h.hgr; simp; omega), h.bxe.keeps hk (by have := h.hgr; have := h.hre; simp; omega), h.hgr, h.hre, h.ha⟩
theorem Hd.keeps {S : List Nat} {w w' : World} {rb eb g : Nat} {A : Option Addr} {c : Nat} {bs : List Int} {p : Nat} {e : Int} (h : Hd w rb eb g A c bs p e) (hk : Keeps S w w') (h1 : g ∉ S) (h2 : rb ∉ S) (h3 : eb ∉ S) (h4 : Off S A) : Hd w' rb eb g A c bs p e :=
  ⟨h.rd.keeps hk h1 h4, h.bxr.keeps hk h2, h.bxe.keeps hk h3, h.hgr, h.hre, h.ha⟩
theorem Hd.set {w : World} {rb eb g : Nat} {A : Option Addr} {c : Nat} {bs : List Int} {p : Nat} {e : Int} (h : Hd w rb eb g A c bs p e) (e' : Int) : Hd (w.setCell ⟨eb, 0, none⟩ (.int .i64 e')) rb eb g A c bs p e' :=
  have hk : Keeps [eb] w (w.setCell ⟨eb, 0, none⟩ (.int .i64 e')) := (Keeps.refl _ _).setCell (Or.inl (by simp)) _
  ⟨h.rd.keeps hk (by have := h.hgr; have := h.hre; simp; omega) h.offE, h.bxr.keeps hk (by have := h.hre; simp; omega), h.bxe.set _, h.hgr, h.hre, h.ha⟩
set_option maxHeartbeats 400000 in
theorem read1_ok (w : World) (rb eb g : Nat) (A : Option Addr) (c : Nat) (bs : List Int) (p n : Nat) (e : Int) (h : Hd w rb eb g A c bs p e) (hn : n ≤ 32) (hf : p + n ≤ 8 * bs.length) :
    Calls Tryd.prog 79 #[.int .i64 n, .pointer (some ⟨rb, 0, none⟩), .pointer (some ⟨eb, 0, none⟩)] w fun r w' => r = .returned (.int .i64 (numB bs p n)) ∧ Hd w' rb eb g A c bs (p + n) e ∧ Keeps [g, eb] w w' := by
  have c1 := h.bxr.cell
  have H := Lib.hid h
  clear h
  have hb := numB_lt bs p n
  have hb2 := pow32 n hn
  have e1 : IntKind.i64.wrap (numB bs p n) = numB bs p n := IntWalk.i64_in _ (by omega)
  go_enter Tryd.func79, Tryd.ntmps79
  go_wp2_with fail
  refine (take_calls _ _ _ _ _ _ _ H.out.rd hn hf).mono ?_
  rintro r w' ⟨rfl, hr2, hk⟩
  have h2 := H.out.take hr2 hk
  have c2 := h2.bxe.cell
  have f2 := h2.bxe.free
  have H2 := Lib.hid h2
  have HK := Lib.hid hk
  clear hr2 hk c1 h2 H
  by_cases he : e = 0
  · subst he
    go_wp2_with fail
    go_ret
    exact ⟨rfl, H2.out.set 0, (HK.out.mono (by simp)).setCell (Or.inl (by simp)) _⟩
  · have e2 : (e == 0) = false := by simpa using he
    go_wp2_with fail
    go_ret
    exact ⟨rfl, H2.out, HK.out.mono (by simp)⟩
set_option maxHeartbeats 400000 in
theorem read1_end (w : World) (rb eb g : Nat) (A : Option Addr) (c : Nat) (bs : List Int) (p n : Nat) (e : Int) (h : Hd w rb eb g A c bs p e) (hn : n ≤ 32) (hf : 8 * bs.length < p + n) :
    Calls Tryd.prog 79 #[.int .i64 n, .pointer (some ⟨rb, 0, none⟩), .pointer (some ⟨eb, 0, none⟩)] w fun r w' => r = .returned (.int .i64 0) ∧ Hd w' rb eb g A c bs p (if e = 0 then 10 else e) ∧ Keeps [g, eb] w w' := by
  have c1 := h.bxr.cell
  have H := Lib.hid h
  clear h
  go_enter Tryd.func79, Tryd.ntmps79
  go_wp2_with fail
  refine (take_end _ _ _ _ _ _ _ H.out.rd hn hf).mono ?_
  rintro r w' ⟨rfl, hk⟩
  have h2 := H.out.keeps hk.keeps (S := []) (by simp) (by simp) (by simp) (off_nil _)
  have c2 := h2.bxe.cell
  have f2 := h2.bxe.free
  have H2 := Lib.hid h2
  have HK := Lib.hid hk
  clear hk c1 h2 H
  by_cases he : e = 0
  · subst he
    go_wp2_with fail
    go_ret
    exact ⟨rfl, by first | exact H2.out.set 10 | (rw [if_pos rfl]; exact H2.out.set 10), (HK.out.keeps).setCell (Or.inl (by simp)) _⟩
  · have e2 : (e == 0) = false := by simpa using he
    go_wp2_with fail
    go_ret
    exact ⟨rfl, by first | exact H2.out | (rw [if_neg he]; exact H2.out), HK.out.keeps⟩
end Go.Proofs.YtcblibefmclloaaDoor
