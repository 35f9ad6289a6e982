import Derived.Test.YtghjlpechjggjaaGreatDoorZshM
import Derived.Test.YtghjlpechjggjaaGreatDoorZshJ
set_option linter.unusedVariables false
set_option linter.unusedSimpArgs false
set_option linter.constructorNameAsVariable false
set_option maxRecDepth 100000
set_option maxHeartbeats 60000000
namespace Go.Proofs.YtghjlpechjggjaaGreatDoor
open Go.RowKit
theorem rw_blk {α : Type} {k : Nat} {enc : α → List Value} (he : ∀ x, (enc x).length = k) {w : World} {g : Nat} {t : TypeId} {l : List α} (h : Blk w g t (l.flatMap enc)) : RW k enc w (some ⟨g, 0, none⟩) l.length l :=
 ⟨rfl, fun _ => ⟨_, _, rfl⟩, fun b o ha j hj i hi => by
  injection ha with ha; injection ha with h1 h2 h3; subst h1; subst h2
  rw [Nat.zero_add, h.cell, rw_get he l j hj i hi]⟩
theorem own_riZ {w : World} {base : Nat} {A : Option Addr} {n c : Nat} {xs : List Int} (h : w.ownsRow base 5 1 (.slice A n c) n (ints .u8 xs)) : RI .u8 w A n xs := by
 obtain ⟨A', c', hv, hr, -⟩ := own_ri h
 injection hv with q1 q2 q3
 subst q1
 exact hr
theorem own_blkZ {w : World} {base : Nat} {e : TypeId} {k : IntKind} {A : Option Addr} {n c : Nat} {xs : List Int} (h : w.ownsRow base e 1 (.slice A n c) n (ints k xs)) : ∀ a, A = some a → base ≤ a.block ∧ a.block < w.heap.size := by
 obtain ⟨A', c', hv, hr, -, h3⟩ := own_ri h
 injection hv with q1 q2 q3
 subst q1
 exact fun a ha => ⟨(h3 a ha).1, (h3 a ha).2.1⟩
theorem zb_own {w : World} {base : Nat} {A : Option Addr} {n c : Nat} {xs : List Int} (h : w.ownsRow base 5 1 (.slice A n c) n (ints .u8 xs)) (hb : ∀ x ∈ xs, 0 ≤ x ∧ x ≤ 255) (hn : n ≤ 1000000000) : ZB w A n c xs :=
 ⟨own_riZ h, own_cap h, hb, hn, fun a ha => (own_blkZ h a ha).2⟩
theorem zb_lent {w : World} {g n : Nat} {xs : List Int} (h : Blk w g 5 (ints .u8 (xs ++ [99]))) (hl : xs.length = n) (hb : ∀ x ∈ xs, 0 ≤ x ∧ x ≤ 255) (hn : n ≤ 1000000000) : ZB w (some ⟨g, 0, none⟩) n (n + 1) xs :=
 ⟨by have := h.ri; rwa [hl] at this, ⟨by omega, by unfold maxLen; omega, fun _ => ⟨_, _, rfl⟩⟩, hb, hn, fun a ha => by injection ha with ha; subst ha; exact h.lt⟩
theorem Keeps.freshZ {T : List Nat} {w w1 w2 : World} (h : Keeps [] w w1) (k : Keeps T w1 w2) (hT : ∀ x ∈ T, w.heap.size ≤ x) : Keeps [] w w2 :=
 ⟨k.os.trans h.os, k.tape.trans h.tape, k.output.trans h.output, Nat.le_trans h.size k.size, fun i hi _ => (k.block i (Nat.lt_of_lt_of_le hi h.size) (fun hm => by have := hT i hm; omega)).trans (h.block i hi (by simp))⟩
def WrOk (w : World) (l : List EN) (e : Ending) (w' : World) : Prop :=
 ∃ (g n c : Nat) (xs : List Int) (es : List ZE), e = .returned (.tuple #[.slice (some ⟨g, 0, none⟩) n c, .int .i64 0]) ∧ FF l xs es ∧ xs.length = n ∧ w.heap.size ≤ g ∧ w'.ownsRow w.heap.size 5 1 (.slice (some ⟨g, 0, none⟩) n c) n (ints .u8 xs) ∧ Below w.heap.size w w'
theorem zwrite_ok (w : World) (A : Option Addr) (n c : Nat) (l : List EN) (h : RW 2 ecells w A n l) (hn : n ≤ 100000000) (hs : ∀ e ∈ l, e.1.size ≤ 1000000000 ∧ e.2.size ≤ 1000000000) (hT : Tabz w) (hc : zcheck l = 0) :
  Calls Tryz.prog 13 #[.slice A n c] w (WrOk w l) :=
 (zwrite_calls w A n c l h hn hs hT).mono fun e w' ⟨v, he, _, hx, hb⟩ => by
  obtain ⟨xs, hf, ho⟩ := hx hc
  obtain ⟨es, hff⟩ := ff_of hc hf
  have hl := hff.len
  rcases ho.2 with ⟨-, h0⟩ | ⟨g, cap, cur, rfl, hg, hrest⟩
  ·omega
  ·exact ⟨g, xs.length, cap, xs, es, by rw [he, hc], hff, rfl, hg, ho, hb⟩
theorem zwrite_no (w : World) (A : Option Addr) (n c : Nat) (l : List EN) (h : RW 2 ecells w A n l) (hn : n ≤ 100000000) (hs : ∀ e ∈ l, e.1.size ≤ 1000000000 ∧ e.2.size ≤ 1000000000) (hT : Tabz w) (hc : zcheck l ≠ 0) :
  Calls Tryz.prog 13 #[.slice A n c] w fun e w' => e = .returned (.tuple #[.slice none 0 0, .int .i64 (zcheck l)]) ∧ Below w.heap.size w w' :=
 (zwrite_calls w A n c l h hn hs hT).mono fun e w' ⟨v, he, h0, _, hb⟩ => ⟨by rw [he, h0 hc], hb⟩
def RdOk (w : World) (l : List EN) (E : Int) (e : Ending) (w' : World) : Prop :=
 ∃ (A : Option Addr) (n c : Nat), e = .returned (.tuple #[.slice A n c, .int .i64 E]) ∧ l.length = n ∧ RW 2 ecells w' A n l ∧ (∀ a, A = some a → w.heap.size ≤ a.block ∧ a.block < w'.heap.size) ∧ Below w.heap.size w w'
theorem rd_of {w w' : World} {v : Value} {l : List EN} {E : Int} {e : Ending} (he : e = .returned (.tuple #[v, .int .i64 E])) (ho : w'.ownsRow w.heap.size 34 2 v l.length (l.flatMap ecells)) (hb : Below w.heap.size w w') : RdOk w l E e w' := by
 obtain ⟨A, c, rfl, hr, -, hblk⟩ := own_rw (by decide) ecells_len ho
 exact ⟨A, l.length, c, he, rfl, hr, hblk, hb⟩
theorem zread_form (w : World) (A : Option Addr) (n c : Nat) (xs : List Int) (hz : ZB w A n c xs) (hT : Tabz w) {l : List EN} {E : Int} (hx : zread xs = (l, E)) :
  Calls Tryz.prog 18 #[.slice A n c] w (RdOk w l E) :=
 (zread_calls w A n c xs hz hT).mono fun e w' ⟨v, he, _, ho, hb⟩ => by rw [hx] at he ho; exact rd_of he ho hb
def LsOk (w : World) (l : List ZI) (E : Int) (e : Ending) (w' : World) : Prop :=
 ∃ (A : Option Addr) (n c : Nat), e = .returned (.tuple #[.slice A n c, .int .i64 E]) ∧ l.length = n ∧ RW 5 icells w' A n l ∧ (∀ a, A = some a → w.heap.size ≤ a.block ∧ a.block < w'.heap.size) ∧ Below w.heap.size w w'
theorem ls_of {w w' : World} {v : Value} {l : List ZI} {E : Int} {e : Ending} (he : e = .returned (.tuple #[v, .int .i64 E])) (ho : w'.ownsRow w.heap.size 51 5 v l.length (l.flatMap icells)) (hb : Below w.heap.size w w') : LsOk w l E e w' := by
 obtain ⟨A, c, rfl, hr, -, hblk⟩ := own_rw (by decide) icells_len ho
 exact ⟨A, l.length, c, he, rfl, hr, hblk, hb⟩
theorem zlist_form (w : World) (A : Option Addr) (n c : Nat) (xs : List Int) (hz : ZB w A n c xs) {l : List ZI} {E : Int} (hx : (zpieces xs).2.map ZP.x = l) (he : (zpieces xs).1 = E) :
  Calls Tryz.prog 20 #[.slice A n c] w (LsOk w l E) :=
 (zlist_calls w A n c xs hz).mono fun e w' ⟨v, h1, ho, hb⟩ => by
  rw [he] at h1
  have hl : (zpieces xs).2.length = l.length := by rw [← hx, List.length_map]
  rw [hx, hl] at ho
  exact ls_of h1 ho hb
open Go.RowKit
def nilF : List Int := [80, 75, 5, 6, 0, 0, 0, 0, 0, 0, 0, 0, 0, 0, 0, 0, 0, 0, 0, 0, 0, 0]
def awL : List EN := [(⟨#[97]⟩, ⟨#[111, 110, 101]⟩), (⟨#[98, 47, 99]⟩, ⟨#[116, 119, 111]⟩)]
def awD : List EN := [(⟨#[97]⟩, ⟨#[]⟩), (⟨#[97]⟩, ⟨#[]⟩)]
theorem aw8 : zfileB [] = nilF ∧ zcheck [] = 0 ∧ zcheck awL = 0 ∧ zcheck awD = 80 ∧ (zpieces (nilF ++ [0])).1 = 81 ∧ nameB ⟨#[97, 47, 98, 46, 116, 120, 116]⟩ = true ∧ nameB ⟨#[97, 47, 47, 98]⟩ = false := by decide +kernel
theorem ff_nil {xs : List Int} {es : List ZE} (h : FF [] xs es) : xs = nilF := by
 have h1 : es = [] := List.map_eq_nil_iff.1 h.out
 rw [h.xs, h1]
 exact aw8.1
theorem awS : (∀ e ∈ awL, e.1.size ≤ 1000000000 ∧ e.2.size ≤ 1000000000) ∧ (∀ e ∈ awD, e.1.size ≤ 1000000000 ∧ e.2.size ≤ 1000000000) := by
 constructor <;> (intro e he; simp [awL, awD] at he; rcases he with rfl | rfl <;> decide)
theorem nil_u8 : ∀ x ∈ nilF, 0 ≤ x ∧ x ≤ 255 := by decide
theorem nil0_u8 : ∀ x ∈ nilF ++ [0], 0 ≤ x ∧ x ≤ 255 := by decide
theorem gtz (w : World) (h : Tabz w) : gtopz ≤ w.heap.size ∨ True := .inr trivial
theorem awake8_calls (w : World) (hT : Tabz w) : Calls Tryz.prog 9 #[] w fun e w' => e = .returned (.bool true) ∧ Keeps [] w w' := by
 have HT := Lib.hid hT
 clear hT
 go_enter Tryz.func9, Tryz.ntmps9
 go_wp2_with fail
 refine (zwrite_ok w none 0 0 [] ⟨rfl, fun h => absurd h (by omega), fun b o h => by cases h⟩ (by omega) (by simp) HT.out aw8.2.1).mono ?_
 rintro _ w1 ⟨g1, n1, c1, xs1, es1, rfl, hff, hl, hg1, ho, hb⟩
 obtain rfl := ff_nil hff
 obtain rfl : 22 = n1 := hl
 have K1 := Lib.hid (Keeps.of_below hb (S := []))
 have O1 := Lib.hid ho
 obtain ⟨w1', hw1'⟩ : ∃ z, z = w1.alloc (.cells #[.string ⟨#[97]⟩, .string ⟨#[111, 110, 101]⟩, .string ⟨#[98, 47, 99]⟩, .string ⟨#[116, 119, 111]⟩] 34) := ⟨_, rfl⟩
 have k1' : Keeps [] w1 w1' := by rw [hw1']; exact (Keeps.refl [] _).alloc _
 have HF2 := Lib.hid (zwrite_ok w1' (some ⟨w1.heap.size, 0, none⟩) 2 2 awL (by rw [hw1']; exact rw_blk ecells_len (blk_new w1 34 (awL.flatMap ecells))) (by omega) awS.1 (HT.out.keeps (K1.out.trans k1') (by simp)) aw8.2.2.1)
 have K1' := Lib.hid (K1.out.trans k1')
 have O1' := Lib.hid (own_keeps O1.out k1' (by simp))
 clear hff ho hb k1' O1 K1
 go_wp2_with fail
 rw [← hw1']
 refine HF2.out.mono ?_
 rintro _ w2 ⟨g2, n2, c2, xs2, es2, rfl, hff2, hl2, hg2, ho2, hb2⟩
 have k2 := Keeps.of_below hb2 (S := [])
 have K2 := Lib.hid (K1'.out.trans k2)
 have O2 := Lib.hid (own_keeps O1'.out k2 (by simp))
 have hl600 := hff2.len.2
 have HF3 := Lib.hid (zread_form w2 (some ⟨g2, 0, none⟩) n2 c2 xs2 (zb_own ho2 hff2.u8 (by omega)) (HT.out.keeps K2.out (by simp)) hff2.read)
 clear hff2 hl2 hg2 ho2 hb2 k2 HF2 K1' O1' hw1' hl600
 go_wp2_with fail
 refine HF3.out.mono ?_
 rintro _ w3 ⟨A3, n3, c3, rfl, hl3, hr3, hbk3, hb3⟩
 obtain rfl : 2 = n3 := hl3
 have k3 := Keeps.of_below hb3 (S := [])
 obtain ⟨w4s, hws⟩ : ∃ z, z = w3.heap.size := ⟨_, rfl⟩
 have R3 := Lib.hid hr3
 obtain ⟨w3', hw3'⟩ : ∃ z, z = w3.alloc (.cells #[.string ⟨#[97]⟩, .string ⟨#[]⟩, .string ⟨#[97]⟩, .string ⟨#[]⟩] 34) := ⟨_, rfl⟩
 have k3' : Keeps [] w3 w3' := by rw [hw3']; exact (Keeps.refl [] _).alloc _
 have K3 := Lib.hid ((K2.out.trans k3).trans k3')
 have O3 := Lib.hid (own_keeps O2.out (k3.trans k3') (by simp))
 have R3' := Lib.hid (R3.out.keeps ecells_len k3' (off_nil _))
 have HA3 : Hid (∀ a, A3 = some a → a.block < w4s) := Lib.hid (fun a ha => by rw [hws]; exact (hbk3 a ha).2)
 have HS3 : Hid (w4s ≤ w3'.heap.size) := Lib.hid (by rw [hws]; exact k3'.size)
 clear hws
 have HF4 := Lib.hid (zwrite_no w3' (some ⟨w3.heap.size, 0, none⟩) 2 2 awD (by rw [hw3']; exact rw_blk ecells_len (blk_new w3 34 (awD.flatMap ecells))) (by omega) awS.2 (HT.out.keeps K3.out (by simp)) (by rw [aw8.2.2.2.1]; decide))
 clear hr3 hbk3 hb3 k3 k3' R3 HF3 K2 O2
 go_wp2_with fail
 rw [← hw3']
 refine HF4.out.mono ?_
 rintro _ w4 ⟨rfl, hb4⟩
 rw [aw8.2.2.2.1]
 have k4 := Keeps.of_below hb4 (S := [])
 have hs4 : w4s ≤ w4.heap.size := by have h1 := HS3.out; have h2 := k4.size; omega
 have HG1 : Hid (g1 < w4.heap.size) := Lib.hid (own_blkZ (own_keeps O3.out k4 (by simp)) ⟨g1, 0, none⟩ rfl).2
 have K4 := Lib.hid (K3.out.trans k4)
 have O4 := Lib.hid (own_keeps O3.out k4 (by simp))
 have R4 := Lib.hid (R3'.out.keeps ecells_len k4 (off_nil _))
 clear hb4 k4 HF4 K3 O3 R3' hw3'
 go_wp2_with fail
 refine (lent8_calls w4 (some ⟨g1, 0, none⟩) 22 c1 nilF (own_riZ O4.out) (by omega)).mono ?_
 rintro _ w5 ⟨g5, rfl, hB5, hg5, k5⟩
 have hB5l : g5 < w5.heap.size := hB5.lt
 have h45 : w4.heap.size ≤ w5.heap.size := k5.size
 have o5 : w5.ownsRow w4.heap.size 5 1 (.slice (some ⟨g5, 0, none⟩) 22 23) 22 (ints .u8 nilF) :=
  ⟨by decide, .inr ⟨g5, 23, (ints .u8 (nilF ++ [99])).toArray, rfl, hg5, hB5, by decide, by decide, by decide, rfl⟩⟩
 have k5' : Keeps [] w5 (w5.alloc (.cells #[.int .u8 0] 5)) := (Keeps.refl [] _).alloc _
 have O5 := Lib.hid (own_keeps O4.out (k5.trans k5') (by simp))
 have R5 := Lib.hid (R4.out.keeps ecells_len (k5.trans k5') (off_nil _))
 have K5 := Lib.hid ((K4.out.trans k5).trans k5')
 have P5 := Lib.hid (own_keeps o5 k5' (by simp))
 have L5 : Hid (RI .u8 (w5.alloc (.cells #[.int .u8 0] 5)) (some ⟨w5.heap.size, 0, none⟩) 1 [0]) := Lib.hid (by
  have := Blk.ri (xs := [0]) (ys := []) (k := .u8) (by simpa using blk_new w5 5 (ints .u8 [0]))
  exact this)
 have h45' : w4.heap.size ≤ (w5.alloc (.cells #[.int .u8 0] 5)).heap.size := Nat.le_trans h45 k5'.size
 have hgg : w.heap.size ≤ w4.heap.size := K4.out.size
 clear hB5 k5 k5' o5 O4 R4 K4 hB5l h45
 go_wp2_with (at_builtin; refine app_bytesB rfl (.tmp 36) (.tmp 37) rfl w4.heap.size (.slice (some ⟨g5, 0, none⟩) 22 23) 22 nilF rfl P5.out (some ⟨w5.heap.size, 0, none⟩) 1 1 [0] rfl L5.out nofun (by omega) h45' ?_)
 intro v6 w6 ho6 hg6 _
 have kk : Keeps [g5] (w5.alloc (.cells #[.int .u8 0] 5)) w6 := (Keeps.refl _ _).grown hg6 (fun k hk => .inl (by simp [Value.ownBlock] at hk; simp [hk]))
 have hg1l : g1 < w4.heap.size := HG1.out
 have O6 := Lib.hid (own_keeps O5.out kk (fun g hg hm => by simp [Value.ownBlock] at hg; simp at hm; omega))
 have R6 := Lib.hid (R5.out.keeps ecells_len kk (fun a ha hm => by have := HA3.out a ha; simp at hm; omega))
 have K6 := Lib.hid (K5.out.freshZ kk (by simp; omega))
 obtain ⟨A6, c6, rfl⟩ := own_formW ho6
 have HF7 := Lib.hid (zlist_form w6 A6 23 c6 (nilF ++ [0]) (zb_own ho6 nil0_u8 (by omega)) rfl aw8.2.2.2.2.1)
 clear ho6 hg6 kk P5 L5 O5 R5 K5 hg1l
 go_wp2_with fail
 refine HF7.out.mono ?_
 rintro _ w7 ⟨A7, n7, c7, rfl, -, -, -, hb7⟩
 have k7 := Keeps.of_below hb7 (S := [])
 obtain ⟨LI, hLI⟩ : ∃ z : Array Value, z = #[.string ⟨#[97]⟩, .string ⟨#[111, 110, 101]⟩, .string ⟨#[98, 47, 99]⟩, .string ⟨#[116, 119, 111]⟩] := ⟨_, rfl⟩
 have k7' : Keeps [] w7 (w7.alloc (.cells LI 34)) := (Keeps.refl [] _).alloc _
 have b0 : w7.cell? ⟨g1, 0, none⟩ = some (.int .u8 80) := by
  have := (own_riZ (own_keeps O6.out k7 (by simp))).cell g1 0 rfl 0 (by omega)
  rw [Nat.add_zero] at this
  rw [this]; rfl
 have HF8 := Lib.hid (same8_calls (w7.alloc (.cells LI 34)) A3 (some ⟨w7.heap.size, 0, none⟩) 2 c3 2 2 awL awL (R6.out.keeps ecells_len (k7.trans k7') (off_nil _)) (by rw [hLI]; exact rw_blk ecells_len (blk_new w7 34 (awL.flatMap ecells))) (by omega) (by omega))
 have K7 := Lib.hid ((K6.out.trans k7).trans k7')
 rw [hLI] at HF8 K7
 rw [decide_eq_true rfl] at HF8
 clear hb7 k7 k7' HF7 O6 R6 K6 hLI
 go_wp2_with fail
 refine HF8.out.mono ?_
 rintro _ w8 ⟨rfl, hd8⟩
 have K8 := Lib.hid (K7.out.trans (hd8.keeps (S := [])))
 clear hd8 b0 HF8 K7
 go_wp2_with fail
 refine (name_calls w8 ⟨#[97, 47, 98, 46, 116, 120, 116]⟩ (by decide)).mono ?_
 rintro _ w9 ⟨rfl, hb9⟩
 rw [aw8.2.2.2.2.2.1]
 have K9 := Lib.hid (K8.out.trans (Keeps.of_below hb9 (S := [])))
 clear hb9 K8
 go_wp2_with fail
 refine (name_calls w9 ⟨#[97, 47, 47, 98]⟩ (by decide)).mono ?_
 rintro _ w10 ⟨rfl, hb10⟩
 rw [aw8.2.2.2.2.2.2]
 have K10 := Lib.hid (K9.out.trans (Keeps.of_below hb10 (S := [])))
 clear hb10 K9
 go_wp2_with fail
 go_ret
 exact ⟨rfl, K10.out⟩
end Go.Proofs.YtghjlpechjggjaaGreatDoor
