import Derived.Test.YtcblibefmclloaaDecNext
import Derived.Test.YtcblibefmclloaaNewReader
import Derived.Test.YtcblibefmclloaaLimit
set_option linter.unusedVariables false
set_option linter.unusedSimpArgs false
namespace Go.Proofs.Ytcblibefmclloaa
open Go.RowKit
theorem codes_ex : codesF [2, 1, 3, 3] = ([1, 0, 3, 7], 0) := by decide +kernel
theorem check_ex : checkF [2, 1, 3, 3] = 0 := by decide +kernel
theorem check_ex2 : checkF [2, 2] = 31 := by decide +kernel
theorem lim_ex : limF [5, 1, 1, 1] 2 = ([2, 2, 2, 2], 0) := by decide +kernel
theorem dec_ex : decF [2, 1, 3, 3] [122] 0 = (1, 0, 1) := by decide +kernel
theorem dec_ex2 : decF [2, 1, 3, 3] [122] 1 = (0, 0, 2) := by decide +kernel
theorem dec_ex3 : decF [2, 1, 3, 3] [122] 3 = (3, 0, 3) := by decide +kernel
theorem lit_ri {k : IntKind} (w : World) (t : TypeId) (xs : List Int) : RI k (w.alloc (.cells (ints k xs).toArray t)) (some ⟨w.heap.size, 0, none⟩) xs.length xs := by
  have h : Blk (w.alloc (.cells (ints k xs).toArray t)) w.heap.size t (ints k (xs ++ [])) := by rw [List.append_nil]; exact blk_new w t _
  exact h.ri
theorem byte_ex : ∀ j, 0 ≤ nth [122] j ∧ nth [122] j ≤ 255
  | 0 => by decide
  | j + 1 => by simp [nth]
set_option maxRecDepth 100000 in
set_option maxHeartbeats 1000000 in
theorem awake3_calls (w : World) : Calls Try.prog 14 #[] w fun e w' => e = .returned (.bool true) ∧ Keeps [] w w' := by
  go_enter Try.func14, Try.ntmps14
  go_wp2_with fail
  refine (codes_calls _ _ _ _ [2, 1, 3, 3] (lit_ri w 3 [2, 1, 3, 3]) (by decide)).mono ?_
  rintro e w1 ⟨v1, rfl, ho1, hb1⟩
  rw [codes_ex] at ho1 ⊢
  have K1 := Lib.hid (((Keeps.refl [] w).alloc (.cells (ints .i64 [2, 1, 3, 3]).toArray 3)).trans (Keeps.of_below hb1))
  have O1 := Lib.hid ho1
  clear ho1 hb1
  go_wp2_with fail
  refine (new_calls _ _ _ _ [2, 1, 3, 3] (lit_ri w1 3 [2, 1, 3, 3]) (by decide)).mono ?_
  rintro e w2 ⟨hb2, hm⟩
  rw [if_pos check_ex] at hm
  obtain ⟨g, rfl, hd, hg⟩ := hm
  have B2 : Keeps [] w1 w2 := (((Keeps.refl [] w1).alloc (.cells (ints .i64 [2, 1, 3, 3]).toArray 3)).trans (Keeps.of_below hb2))
  have K2 := Lib.hid (K1.out.trans B2)
  have O1' := Lib.hid (own_keeps O1.out B2 (by simp))
  have D2 := Lib.hid hd.top
  clear hd hb2 B2 O1 K1 hg
  go_wp2_with fail
  refine (limit_calls _ _ _ _ [5, 1, 1, 1] 2 (lit_ri w2 3 [5, 1, 1, 1])).mono ?_
  rintro e w3 ⟨v3, rfl, ho3, hb3⟩
  rw [lim_ex] at ho3 ⊢
  have B3 : Keeps [] w2 w3 := (((Keeps.refl [] w2).alloc (.cells (ints .i64 [5, 1, 1, 1]).toArray 3)).trans (Keeps.of_below hb3))
  have K3 := Lib.hid (K2.out.trans B3)
  have D3 := Lib.hid (D2.out.keeps B3 (by simp))
  obtain ⟨P, cp, rfl, hrp, hcp, hbp⟩ := own_ri (own_keeps O1'.out B3 (by simp))
  obtain ⟨I, ci, rfl, hri, hci, hbi⟩ := own_ri ho3
  obtain ⟨pb, po, rfl⟩ := hrp.hd (by decide)
  obtain ⟨ib, io, rfl⟩ := hri.hd (by decide)
  have R1 := Lib.hid hrp
  have R2 := Lib.hid hri
  have LP := Lib.hid (hbp _ rfl)
  have LI := Lib.hid (hbi _ rfl)
  have S3 := Lib.hid B3.size
  clear hb3 ho3 B3 O1' hrp hri hbp hbi K2 D2 hcp hci
  go_wp2_with fail
  refine (newReader_calls _ _ _ _ [122] (lit_ri w3 5 [122]) (by simp) byte_ex (by decide)).mono ?_
  rintro e w4 ⟨gr, A, c, rfl, hr4, hg4, ha4, hb4⟩
  have B4 : Keeps [] w3 w4 := (((Keeps.refl [] w3).alloc (.cells (ints .u8 [122]).toArray 5)).trans (Keeps.of_below hb4))
  have K4 := Lib.hid (K3.out.trans B4)
  have D4 := Lib.hid (D3.out.keeps B4 (by simp))
  have P4 := Lib.hid (R1.out.keeps B4 (off_nil _))
  have I4 := Lib.hid (R2.out.keeps B4 (off_nil _))
  have R4 := Lib.hid hr4
  have G4 : Hid (w3.heap.size ≤ gr) := Lib.hid (by simp at hg4; omega)
  have T4 : Hid (w2.heap.size ≤ gr) := Lib.hid (by have := G4.out; have := S3.out; omega)
  have W4 : Hid (w.heap.size ≤ gr) := Lib.hid (by have := G4.out; have := K3.out.size; omega)
  have OP : Hid (Off [gr] (some ⟨pb, po, none⟩)) := Lib.hid (by
    intro a ha hm
    obtain rfl := Option.some.inj ha
    have := LP.out.2; have := G4.out; simp at hm this; omega)
  have OI : Hid (Off [gr] (some ⟨ib, io, none⟩)) := Lib.hid (by
    intro a ha hm
    obtain rfl := Option.some.inj ha
    have := LI.out.2; have := G4.out; simp at hm this; omega)
  clear hr4 hg4 ha4 hb4 B4 K3 D3 R1 R2 LP LI S3 G4
  go_wp2_with fail
  refine (next_calls _ _ _ _ [2, 1, 3, 3] _ _ [122] 0 D4.out R4.out T4.out (by decide)).mono ?_
  rintro e w5 ⟨rfl, hr5, hk5⟩
  rw [dec_ex] at hr5 ⊢
  have K5 := Lib.hid (K4.out.then hk5 (fun x hx => Or.inr (by have := W4.out; simp at hx; omega)))
  have D5 := Lib.hid (D4.out.keeps hk5 (fun x hx => by have := T4.out; simp at hx; omega))
  have P5 := Lib.hid (P4.out.keeps hk5 OP.out)
  have I5 := Lib.hid (I4.out.keeps hk5 OI.out)
  have R5 := Lib.hid hr5
  clear hr5 hk5 K4 D4 P4 I4 R4
  go_wp2_with fail
  refine (next_calls _ _ _ _ [2, 1, 3, 3] _ _ [122] 1 D5.out R5.out T4.out (by decide)).mono ?_
  rintro e w6 ⟨rfl, hr5, hk5⟩
  rw [dec_ex2] at hr5 ⊢
  have K6 := Lib.hid (K5.out.then hk5 (fun x hx => Or.inr (by have := W4.out; simp at hx; omega)))
  have D6 := Lib.hid (D5.out.keeps hk5 (fun x hx => by have := T4.out; simp at hx; omega))
  have P6 := Lib.hid (P5.out.keeps hk5 OP.out)
  have I6 := Lib.hid (I5.out.keeps hk5 OI.out)
  have R6 := Lib.hid hr5
  clear hr5 hk5 K5 D5 P5 I5 R5
  go_wp2_with fail
  refine (next_calls _ _ _ _ [2, 1, 3, 3] _ _ [122] 3 D6.out R6.out T4.out (by decide)).mono ?_
  rintro e w7 ⟨rfl, hr5, hk5⟩
  rw [dec_ex3] at hr5 ⊢
  have K7 := Lib.hid (K6.out.then hk5 (fun x hx => Or.inr (by have := W4.out; simp at hx; omega)))
  have P7 := P6.out.keeps hk5 OP.out
  have I7 := I6.out.keeps hk5 OI.out
  have c0 : w7.cell? ⟨pb, po, none⟩ = some (.int .u32 1) := P7.cell _ _ rfl 0 (by decide)
  have c2 : w7.cell? ⟨pb, po + 2, none⟩ = some (.int .u32 3) := P7.cell _ _ rfl 2 (by decide)
  have c3 : w7.cell? ⟨pb, po + 3, none⟩ = some (.int .u32 7) := P7.cell _ _ rfl 3 (by decide)
  have i0 : w7.cell? ⟨ib, io, none⟩ = some (.int .i64 2) := I7.cell _ _ rfl 0 (by decide)
  clear hr5 hk5 K6 D6 P6 I6 R6 P7 I7 OP OI W4 T4
  go_wp2_with fail
  have hl2 : RI .i64 (w7.alloc (.cells #[.int .i64 2, .int .i64 2] 3)) (some ⟨w7.heap.size, 0, none⟩) 2 [2, 2] := lit_ri w7 3 [2, 2]
  refine (check_calls _ _ 2 2 [2, 2] hl2 (by decide)).mono ?_
  rintro e w8 ⟨rfl, hd8⟩
  rw [check_ex2]
  have K8 := Lib.hid ((K7.out.alloc (.cells (ints .i64 [2, 2]).toArray 3)).trans hd8.keeps)
  clear hd8 K7
  go_wp2_with fail
  go_ret
  exact ⟨rfl, K8.out⟩
end Go.Proofs.Ytcblibefmclloaa
