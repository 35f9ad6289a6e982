import Derived.Test.YtkpabdjniiepkaaGreatDoorDflN
import Derived.Test.YtkpabdjniiepkaaGreatDoorDflI
import Derived.Test.YtkpabdjniiepkaaGreatDoorDflL
import Derived.Lib.SlBytesConst
set_option linter.unusedVariables false
set_option linter.unusedSimpArgs false
/-! deflate.Stream. -/
namespace Go.Proofs.YtkpabdjniiepkaaGreatDoor
open Go.RowKit
/-- A stream that keeps so many bytes, and has told so many. -/
def DStrm (w : World) (s : Nat) (kept : List Int) (told : Nat) (closed : Bool) (kb : Option Nat) : Prop :=
  ∃ (A : Option Addr) (c : Nat), Blk w s 74 [.slice A kept.length c, .int .i64 (told : Nat), .bool closed] ∧ w.ownsRow (s + 1) 5 1 (.slice A kept.length c) kept.length (ints .u8 kept) ∧ (Value.slice A kept.length c).ownBlock = kb
theorem DStrm.lt {w : World} {s told : Nat} {kept : List Int} {cl : Bool} {kb : Option Nat} (h : DStrm w s kept told cl kb) : s < w.heap.size := by obtain ⟨A, c, hb, _⟩ := h; exact hb.lt
theorem DStrm.kb_lt {w : World} {s told : Nat} {kept : List Int} {cl : Bool} {kb : Option Nat} (h : DStrm w s kept told cl kb) : ∀ x, kb = some x → s < x ∧ x < w.heap.size := fun x hx => by
  obtain ⟨A, c, hb, ho, hk⟩ := h
  rw [hx] at hk
  exact ⟨own_lo ho x hk, own_hi ho x hk⟩
theorem DStrm.keeps {w w' : World} {s told : Nat} {kept : List Int} {cl : Bool} {kb : Option Nat} {K : List Nat} (h : DStrm w s kept told cl kb) (hk : Keeps K w w') (hs : s ∉ K) (hkb : ∀ x, kb = some x → x ∉ K) : DStrm w' s kept told cl kb := by
  obtain ⟨A, c, h1, h2, h3⟩ := h
  exact ⟨A, c, h1.keeps hk hs, own_keeps h2 hk (fun x hx => hkb x (by rw [← h3]; exact hx)), h3⟩
/-- A row's first byte is laid anew. -/
theorem own_set0 {w : World} {base g n c : Nat} {x : Int} {xs : List Int} (h : w.ownsRow base 5 1 (.slice (some ⟨g, 0, none⟩) n c) n (ints .u8 (x :: xs))) (hu : AllU8 w (.slice (some ⟨g, 0, none⟩) n c)) (y : Int) :
    w.cell? ⟨g, 0, none⟩ = some (.int .u8 x) ∧ w.frozen? ⟨g, 0, none⟩ = false ∧ (w.setCell ⟨g, 0, none⟩ (.int .u8 y)).ownsRow base 5 1 (.slice (some ⟨g, 0, none⟩) n c) n (ints .u8 (y :: xs)) ∧ AllU8 (w.setCell ⟨g, 0, none⟩ (.int .u8 y)) (.slice (some ⟨g, 0, none⟩) n c) := by
  have hl : xs.length + 1 = n := by have := h.1; simpa [ints] using this
  rcases h.2 with ⟨hv, _⟩ | ⟨g', cap, cur, hv, hb, hh, hc, hm, hs, ht⟩
  · injection hv with h1; cases h1
  · injection hv with h1 h2 h3
    injection h1 with h1
    injection h1 with h1
    subst h1
    subst h3
    have hB : Blk w g 5 cur.toList := by unfold Blk; rw [Array.toArray_toList]; exact hh
    obtain ⟨r, hr, htr⟩ : ∃ r, cur.toList = .int .u8 x :: r ∧ r.take xs.length = ints .u8 xs := by
      cases hcl : cur.toList with
      | nil => rw [hcl] at ht; simp [ints] at ht
      | cons a r =>
        rw [hcl, ← hl, Nat.mul_one, List.take_succ_cons] at ht
        simp only [ints, List.map_cons, List.cons.injEq] at ht
        exact ⟨r, by rw [ht.1], ht.2⟩
    have hB2 := hB.set 0 (.int .u8 y)
    rw [hr, List.set_cons_zero] at hB2
    rw [hr] at hB
    have hsz : r.length + 1 = c * 1 := by rw [← hs, ← Array.length_toList, hr]; rfl
    refine ⟨by rw [hB.cell]; rfl, hB.frozen 0, ⟨by simp [ints, hl], .inr ⟨g, c, _, rfl, hb, hB2, hc, hm, by simp; omega, ?_⟩⟩, ?_⟩
    · rw [List.toList_toArray, ← hl, Nat.mul_one, List.take_succ_cons, htr]; rfl
    · intro k hk
      simp only [Value.ownBlock, Option.some.injEq] at hk
      subst hk
      obtain ⟨cur2, q1, q2⟩ := hu g rfl
      have e : cur2 = cur := by
        rw [hh] at q1
        injection q1 with q1
        injection q1 with q1 _ _
        exact q1.symm
      subst e
      refine ⟨_, hB2, fun u hu2 => ?_⟩
      rw [List.toList_toArray] at hu2
      rcases List.mem_cons.1 hu2 with rfl | hm2
      · exact ⟨_, rfl⟩
      · exact q2 u (by rw [hr]; exact List.mem_cons_of_mem _ hm2)
theorem stor_cons (b : Int) (xs : List Int) : ∃ r, storB b xs = b :: r ∧ ∀ c, storB c xs = c :: r := ⟨_, rfl, fun _ => rfl⟩
set_option maxRecDepth 100000 in
theorem dnew_calls (w : World) : Calls Tryz.prog 18 #[] w fun e w' => e = .returned (.pointer (some ⟨w.heap.size, 0, none⟩)) ∧ DStrm w' w.heap.size [] 0 false none ∧ Keeps [] w w' := by
  go_enter Tryz.func18, Tryz.ntmps18
  go_wp2_with fail
  go_ret
  exact ⟨rfl, ⟨none, 0, blk_new w 74 [.slice none 0 0, .int .i64 0, .bool false], World.ownsRow_nil _ _ _ _, rfl⟩, (Keeps.refl [] w).alloc _⟩
/-- What feeding answers: an error, what is told, what is kept, how many were told. -/
def feedD (kept : List Int) (told : Nat) (b : List Int) : Int × List Int × List Int × Nat :=
  if 16384 < told + kept.length + b.length then (2, [], kept, told)
  else if (kept ++ b).length < 4096 then (0, [], kept ++ b, told)
  else (0, storB 0 (kept ++ b), [], told + (kept ++ b).length)
def FeedDP (w : World) (s : Nat) (kept : List Int) (told : Nat) (b : List Int) (kb : Option Nat) (e : Ending) (w' : World) : Prop :=
  ∃ v kb', e = .returned (.tuple #[v, .int .i64 (feedD kept told b).1]) ∧ w'.ownsRow w.heap.size 5 1 v (feedD kept told b).2.1.length (ints .u8 (feedD kept told b).2.1) ∧ AllU8 w' v ∧ DStrm w' s (feedD kept told b).2.2.1 (feedD kept told b).2.2.2 false kb' ∧ (∀ x, kb' = some x → kb = some x ∨ w.heap.size ≤ x) ∧ (kb' = none ∨ v = .slice none 0 0) ∧ Keeps (s :: kb.toList) w w'
theorem dfeed_closed (w : World) (s told : Nat) (kept : List Int) (kb : Option Nat) (A : Option Addr) (n c : Nat) (h : DStrm w s kept told true kb) :
    Calls Tryz.prog 19 #[.pointer (some ⟨s, 0, none⟩), .slice A n c] w fun e w' => e = .returned (.tuple #[.slice none 0 0, .int .i64 1]) ∧ Keeps [] w w' := by
  obtain ⟨A1, c1, hb, -⟩ := h
  have k2 := hb.cell 2
  simp only [List.getElem?_cons_zero, List.getElem?_cons_succ] at k2
  clear hb
  go_enter Tryz.func19, Tryz.ntmps19
  go_wp2_with fail
  go_ret2
  exact ⟨rfl, Keeps.refl _ _⟩
theorem dfeed_nil (w : World) (A : Option Addr) (n c : Nat) :
    Calls Tryz.prog 19 #[.pointer none, .slice A n c] w fun e w' => e = .returned (.tuple #[.slice none 0 0, .int .i64 3]) ∧ Keeps [] w w' := by
  go_enter Tryz.func19, Tryz.ntmps19
  go_wp2_with fail
  go_ret2
  exact ⟨rfl, Keeps.refl _ _⟩
theorem dclose_nil (w : World) :
    Calls Tryz.prog 20 #[.pointer none] w fun e w' => e = .returned (.tuple #[.slice none 0 0, .int .i64 3]) ∧ Keeps [] w w' := by
  go_enter Tryz.func20, Tryz.ntmps20
  go_wp2_with fail
  go_ret2
  exact ⟨rfl, Keeps.refl _ _⟩
theorem dclose_closed (w : World) (s told : Nat) (kept : List Int) (kb : Option Nat) (h : DStrm w s kept told true kb) :
    Calls Tryz.prog 20 #[.pointer (some ⟨s, 0, none⟩)] w fun e w' => e = .returned (.tuple #[.slice none 0 0, .int .i64 1]) ∧ Keeps [] w w' := by
  obtain ⟨A1, c1, hb, -⟩ := h
  have k2 := hb.cell 2
  simp only [List.getElem?_cons_zero, List.getElem?_cons_succ] at k2
  clear hb
  go_enter Tryz.func20, Tryz.ntmps20
  go_wp2_with fail
  go_ret2
  exact ⟨rfl, Keeps.refl _ _⟩
set_option maxRecDepth 100000 in
set_option maxHeartbeats 1000000 in
theorem dclose_calls (w : World) (s told : Nat) (kept : List Int) (kb : Option Nat) (h : DStrm w s kept told false kb) (hT : Tabs w) (hs : gtop ≤ s) (hb : ∀ j, 0 ≤ nth kept j ∧ nth kept j ≤ 255) (hn : kept.length ≤ 16384) :
    Calls Tryz.prog 20 #[.pointer (some ⟨s, 0, none⟩)] w fun e w' => ∃ g m c ys, e = .returned (.tuple #[.slice (some ⟨g, 0, none⟩) m c, .int .i64 0]) ∧ RI .u8 w' (some ⟨g, 0, none⟩) m ys ∧ w.heap.size ≤ g ∧ Defl kept ys ∧ CapOk (some ⟨g, 0, none⟩) m c ∧ DStrm w' s kept told true kb ∧ Keeps [s] w w' := by
  obtain ⟨A, c, hbk, hown, hkb⟩ := h
  have k2 := hbk.cell 2
  have f2 := hbk.frozen 2
  have k0 := (hbk.set 2 (.bool true)).cell 0
  simp only [List.getElem?_cons_zero, List.getElem?_cons_succ, List.set_cons_succ, List.set_cons_zero] at k2 k0
  have hsl := hbk.lt
  have ka : Keeps [s] w (w.setCell ⟨s, 2, none⟩ (.bool true)) := (Keeps.refl [s] w).setCell (p := ⟨s, 2, none⟩) (Or.inl (by simp)) _
  have hown2 := own_keeps hown ka (fun g hg hm => by have := own_lo hown g hg; simp at hm; omega)
  have hri : RI .u8 (w.setCell ⟨s, 2, none⟩ (.bool true)) A kept.length kept ∧ (∀ a, A = some a → a.block < (w.setCell ⟨s, 2, none⟩ (.bool true)).heap.size) ∧ (A = none → kept.length = 0 ∧ c = 0) := by
    obtain ⟨A', c', hv, hr, -, hnil, -, hlo⟩ := own_full hown2
    injection hv with q1 q2 q3
    subst q1
    subst q3
    exact ⟨hr, fun a h => (hlo a h).2, hnil⟩
  have HDC := Lib.hid (deflate_calls (w.setCell ⟨s, 2, none⟩ (.bool true)) A kept.length c kept (hT.keeps ka (by simp; exact hs)) hri.1 hri.2.2 hri.2.1 hb)
  have HD1 : Hid (DStrm (w.setCell ⟨s, 2, none⟩ (.bool true)) s kept told true kb) := Lib.hid ⟨A, c, hbk.set 2 (.bool true), hown2, hkb⟩
  have HKA := Lib.hid ka
  clear hbk hown hkb hown2 hri hT ka hs
  go_enter Tryz.func20, Tryz.ntmps20
  go_wp2_with fail
  refine HDC.out.mono ?_
  rintro e w' (⟨h1, _⟩ | ⟨-, g, m, c2, ys, rfl, hr, hg, hd, hb, hcap⟩)
  · omega
  have HR := Lib.hid hr
  have HG : Hid (w.heap.size ≤ g) := Lib.hid (by simpa using hg)
  have HD := Lib.hid hd
  have HCP := Lib.hid hcap
  have HK2 := Lib.hid (HKA.out.trans ((Keeps.of_below hb (S := [])).mono (by simp)))
  have HD2 := Lib.hid (HD1.out.keeps (Keeps.of_below hb (S := [])) (by simp) (by simp))
  clear hr hg hd hb hcap HDC HD1 HKA
  go_wp2_with fail
  go_ret2
  exact ⟨g, m, c2, ys, rfl, HR.out, HG.out, HD.out, HCP.out, HD2.out, HK2.out⟩
set_option maxRecDepth 100000 in
set_option maxHeartbeats 2000000 in
theorem dfeed_calls (w : World) (s told : Nat) (kept : List Int) (kb : Option Nat) (A : Option Addr) (n c : Nat) (b : List Int) (h : DStrm w s kept told false kb) (hr : RI .u8 w A n b) (hnil : A = none → n = 0 ∧ c = 0) (hn : n ≤ 1000000000) (hk : told + kept.length ≤ 16384) :
    Calls Tryz.prog 19 #[.pointer (some ⟨s, 0, none⟩), .slice A n c] w (FeedDP w s kept told b kb) := by
  have HS := Lib.hid h
  obtain ⟨A1, c1, hbk, hown, hkb⟩ := h
  have k0 := hbk.cell 0
  have k1 := hbk.cell 1
  have k2 := hbk.cell 2
  have f0 := hbk.frozen 0
  have f1 := hbk.frozen 1
  simp only [List.getElem?_cons_zero, List.getElem?_cons_succ] at k0 k1 k2
  have hsl := hbk.lt
  have HBK := Lib.hid hbk
  have HO := Lib.hid hown
  have HKB := Lib.hid hkb
  have HR := Lib.hid hr
  have HN := Lib.hid hnil
  have HLB : Hid (b.length = n) := Lib.hid hr.len
  clear hbk hown hkb hr hnil
  have HLN : Hid ((kept ++ b).length = kept.length + n) := Lib.hid (by rw [List.length_append, HLB.out])
  have s1 : IntKind.i64.wrap ((16384 : Int) - (told : Int)) = 16384 - (told : Int) := IntWalk.i64_in _ (by omega)
  have s2 : IntKind.i64.wrap ((16384 : Int) - (told : Int) - (kept.length : Int)) = 16384 - (told : Int) - (kept.length : Int) := IntWalk.i64_in _ (by omega)
  by_cases hbig : 16384 < told + kept.length + n
  · have x1 : decide ((16384 : Int) - (told : Int) - (kept.length : Int) < (n : Int)) = true := by simp; omega
    have HF : Hid (feedD kept told b = (2, [], kept, told)) := Lib.hid (if_pos (by rw [HLB.out]; exact hbig))
    clear hbig
    go_enter Tryz.func19, Tryz.ntmps19
    go_wp2_with fail
    go_quiet (fail)
    go_wp2_with fail
    go_ret2
    unfold FeedDP
    rw [HF.out]
    exact ⟨.slice none 0 0, kb, rfl, World.ownsRow_nil _ _ _ _, AllU8.nil _, HS.out.keeps (Dr.keeps (S := []) ⟨_, rfl⟩) (by simp) (by simp), fun x hx => .inl hx, .inr rfl, Dr.keeps ⟨_, rfl⟩⟩
  · have x1 : decide ((16384 : Int) - (told : Int) - (kept.length : Int) < (n : Int)) = false := by simp; omega
    have HF0 : Hid (feedD kept told b = if (kept ++ b).length < 4096 then (0, [], kept ++ b, told) else (0, storB 0 (kept ++ b), [], told + (kept ++ b).length)) := Lib.hid (if_neg (by rw [HLB.out]; exact hbig))
    have hN : told + kept.length + n ≤ 16384 := by omega
    clear hbig
    go_enter Tryz.func19, Tryz.ntmps19
    go_wp2_with fail
    go_quiet (fail)
    obtain ⟨w1, hw1⟩ : ∃ x, x = w.drewN nq := ⟨_, rfl⟩
    rw [← hw1]
    have kw : Keeps [] w w1 := by rw [hw1]; exact Dr.keeps ⟨_, rfl⟩
    have KW := Lib.hid kw
    have HBK1 := Lib.hid (HBK.out.keeps kw (by simp))
    have HO1 := Lib.hid (own_keeps HO.out kw (by simp))
    have HR1 := Lib.hid (HR.out.keeps kw (off_nil _))
    have hsz1 : w1.heap.size = w.heap.size := by rw [hw1]; rfl
    replace k0 := HBK1.out.cell 0
    replace k1 := HBK1.out.cell 1
    replace k2 := HBK1.out.cell 2
    simp only [List.getElem?_cons_zero, List.getElem?_cons_succ] at k0 k1 k2
    clear hw1 kw HBK HO HR f0 f1 s1 s2 x1
    go_wp2_with (at_builtin; refine app_bytesU rfl (.tmp 35) (.tmp 36) rfl (s + 1) (.slice A1 kept.length c1) kept.length kept rfl (by exact HO1.out) A n c b rfl (by exact HR1.out) HN.out (by omega) (by omega) ?_)
    intro v' w2 hown hg hwh _
    obtain ⟨A2, c2, rfl⟩ := own_formW hown
    have hb2 : Blk w2 s 74 [.slice A1 kept.length c1, .int .i64 (told : Nat), .bool false] := (hg.block s (by omega) (fun e => by have := own_lo HO1.out _ e.symm; omega)).trans HBK1.out
    have HB2 := Lib.hid hb2
    have HOW := Lib.hid hown
    have HG := Lib.hid hg
    have HWH := Lib.hid hwh
    have f0 := hb2.frozen 0
    have k0' := hb2.cell 0
    simp only [List.getElem?_cons_zero] at k0'
    clear hown hg hwh hb2 k0 k1 k2
    have kg : Keeps kb.toList w1 w2 := ⟨HG.out.os, HG.out.tape, HG.out.output, HG.out.size, fun k hk hn => HG.out.block k hk (fun e => hn (by rw [← HKB.out, ← e]; simp))⟩
    obtain ⟨w3, hw3⟩ : ∃ x, x = w2.setCell ⟨s, 0, none⟩ (.slice A2 (kept.length + n) c2) := ⟨_, rfl⟩
    have HB3 : Hid (Blk w3 s 74 [.slice A2 (kept.length + n) c2, .int .i64 (told : Nat), .bool false]) := Lib.hid (by
      have := HB2.out.set 0 (.slice A2 (kept.length + n) c2)
      rw [hw3]; exact this)
    have HO3 : Hid (w3.ownsRow (s + 1) 5 1 (.slice A2 (kept.length + n) c2) (kept.length + n) (ints .u8 (kept ++ b))) := Lib.hid (by rw [hw3]; exact ownsRow_setCell_below HOW.out (Nat.lt_succ_self s) _)
    have HK3 : Hid (Keeps (s :: kb.toList) w w3) := Lib.hid (by
      rw [hw3]
      exact ((KW.out.mono (by simp)).trans (kg.mono (by intro x hx; exact List.mem_cons_of_mem _ hx))).setCell (p := ⟨s, 0, none⟩) (Or.inl (by simp)) _)
    have HKB2 : Hid (∀ x, (Value.slice A2 (kept.length + n) c2).ownBlock = some x → kb = some x ∨ w.heap.size ≤ x) := Lib.hid (fun x hx => by
      rcases HWH.out with h | h
      · left; rw [← HKB.out, ← h]; exact hx
      · right; rw [h] at hx; injection hx with hx; omega)
    have hs3 : w.heap.size ≤ w3.heap.size := HK3.out.size
    go_upto_region 8 with (fail)
    rw [← hw3]
    clear hw3 kg f0 k0' HB2 HOW HG HWH HBK1 HO1 HR1 KW
    have c0 := HB3.out.cell 0
    simp only [List.getElem?_cons_zero] at c0
    by_cases hsm : kept.length + n < 4096
    · have y1 : decide (((kept.length + n : Nat) : Int) < 4096) = true := by simp; omega
      have y2 : decide ((kept.length : Int) + (n : Int) < 4096) = true := by simp; omega
      have HF : Hid (feedD kept told b = (0, [], kept ++ b, told)) := Lib.hid (by rw [HF0.out, if_pos (by rw [HLN.out]; exact hsm)])
      clear hsm
      go_wp2_with fail
      go_ret2
      unfold FeedDP
      rw [HF.out]
      refine ⟨.slice none 0 0, (Value.slice A2 (kept.length + n) c2).ownBlock, rfl, World.ownsRow_nil _ _ _ _, AllU8.nil _, ⟨A2, c2, ?_, ?_, ?_⟩, HKB2.out, .inr rfl, HK3.out⟩
      · dsimp only; rw [HLN.out]; exact HB3.out
      · dsimp only; rw [HLN.out]; exact HO3.out
      · dsimp only; rw [HLN.out]
    · have y1 : decide (((kept.length + n : Nat) : Int) < 4096) = false := by simp; omega
      have y2 : decide ((kept.length : Int) + (n : Int) < 4096) = false := by simp; omega
      have HF : Hid (feedD kept told b = (0, storB 0 (kept ++ b), [], told + (kept ++ b).length)) := Lib.hid (by rw [HF0.out, if_neg (by rw [HLN.out]; exact hsm)])
      clear hsm
      have hri : RI .u8 w3 A2 (kept.length + n) (kept ++ b) ∧ (A2 = none → kept.length + n = 0 ∧ c2 = 0) := by
        obtain ⟨A', c', hv, hr, -, hnil, -, hlo⟩ := own_full HO3.out
        injection hv with q1 q2 q3
        subst q1
        subst q3
        exact ⟨hr, hnil⟩
      have HSC := Lib.hid (dstored_calls w3 A2 (kept.length + n) c2 (kept ++ b) hri.1 hri.2)
      clear hri
      go_wp2_with fail
      refine HSC.out.mono ?_
      rintro e w4 (⟨h1, _⟩ | ⟨-, v, rfl, ho, hu, hb4⟩)
      · omega
      obtain ⟨g5, c5, rfl, hg5⟩ := own_some ho (by omega)
      obtain ⟨r, hr1, hr0⟩ := stor_cons 1 (kept ++ b)
      rw [hr1] at ho
      obtain ⟨d0, df, ho5, hu5⟩ := own_set0 ho hu 0
      rw [← hr0 0] at ho5
      have k34 := Keeps.of_below hb4 (S := [])
      have hsl3 : s < w3.heap.size := by omega
      have hsg : s ≠ g5 := by omega
      obtain ⟨w5, hw5⟩ : ∃ x, x = w4.setCell ⟨g5, 0, none⟩ (.int .u8 0) := ⟨_, rfl⟩
      have HB5 : Hid (Blk w5 s 74 [.slice A2 (kept.length + n) c2, .int .i64 (told : Nat), .bool false]) := Lib.hid (by rw [hw5]; exact (HB3.out.keeps k34 (by simp)).set_other (a := ⟨g5, 0, none⟩) hsg _)
      have HO5 : Hid (w5.ownsRow w3.heap.size 5 1 (.slice (some ⟨g5, 0, none⟩) (5 + (kept.length + n)) c5) (5 + (kept.length + n)) (ints .u8 (storB 0 (kept ++ b)))) := Lib.hid (by rw [hw5]; exact ho5)
      have HU5 : Hid (AllU8 w5 (.slice (some ⟨g5, 0, none⟩) (5 + (kept.length + n)) c5)) := Lib.hid (by rw [hw5]; exact hu5)
      have HK5 : Hid (Keeps (s :: kb.toList) w w5) := Lib.hid (by
        rw [hw5]
        exact (HK3.out.trans (k34.mono (by simp))).setCell (p := ⟨g5, 0, none⟩) (Or.inr (by show w.heap.size ≤ g5; omega)) _)
      clear ho hu hb4 ho5 hu5 k34 HB3 HO3 HK3 HSC c0
      go_upto_region 14 with (fail)
      rw [← hw5]
      have c0 := HB5.out.cell 0
      have c1 := HB5.out.cell 1
      have f1 := HB5.out.frozen 1
      simp only [List.getElem?_cons_zero, List.getElem?_cons_succ] at c0 c1
      have s3 : IntKind.i64.wrap ((told : Int) + ((kept.length + n : Nat) : Int)) = (told : Int) + ((kept.length + n : Nat) : Int) := IntWalk.i64_in _ (by omega)
      have s4 : IntKind.i64.wrap ((told : Int) + ((kept.length : Int) + (n : Int))) = (told : Int) + ((kept.length : Int) + (n : Int)) := IntWalk.i64_in _ (by omega)
      clear hw5 d0 df
      go_region
      obtain ⟨w6, hw6⟩ : ∃ x, x = (w5.setCell ⟨s, 1, none⟩ (.int .i64 ((told : Int) + ((kept.length : Int) + (n : Int))))).drew := ⟨_, rfl⟩
      rw [← hw6]
      have hb6 : Blk w6 s 74 [.slice A2 (kept.length + n) c2, .int .i64 ((told : Int) + ((kept.length : Int) + (n : Int))), .bool false] := by
        have := (HB5.out.set 1 (.int .i64 ((told : Int) + ((kept.length : Int) + (n : Int))))).drewN 1
        rw [hw6]; exact this
      have HO6 : Hid (w6.ownsRow w3.heap.size 5 1 (.slice (some ⟨g5, 0, none⟩) (5 + (kept.length + n)) c5) (5 + (kept.length + n)) (ints .u8 (storB 0 (kept ++ b)))) := Lib.hid (by
        rw [hw6]
        exact own_keeps (ownsRow_setCell_below HO5.out hsl3 _) (Keeps.refl [] _).drew (by simp))
      have hkk : Keeps [s] w5 w6 := by rw [hw6]; exact ((Keeps.refl [s] w5).setCell (p := ⟨s, 1, none⟩) (Or.inl (by simp)) _).drew
      have HU6 := Lib.hid (HU5.out.keeps hkk (fun k hk hm => by simp only [Value.ownBlock, Option.some.injEq] at hk; simp at hm; omega))
      have HK6 := Lib.hid (HK5.out.trans (hkk.mono (by simp)))
      have HB6 := Lib.hid hb6
      have f0 := hb6.frozen 0
      have d0 := hb6.cell 0
      simp only [List.getElem?_cons_zero] at d0
      clear hw6 hb6 hkk HB5 HO5 HU5 HK5 c0 c1 f1 s3 s4 y1 y2
      go_wp2_with fail
      go_ret2
      unfold FeedDP
      rw [HF.out]
      have hb7 := HB6.out.set 0 (.slice none 0 0)
      rw [List.set_cons_zero] at hb7
      have hlt6 : s < w3.heap.size := hsl3
      refine ⟨.slice (some ⟨g5, 0, none⟩) (5 + (kept.length + n)) c5, none, rfl, ?_, ?_, ⟨none, 0, ?_, World.ownsRow_nil _ _ _ _, rfl⟩, by simp, .inl rfl, HK6.out.setCell (p := ⟨s, 0, none⟩) (Or.inl (by simp)) _⟩
      · dsimp only
        rw [storB_len, HLN.out]
        exact own_lower (ownsRow_setCell_below HO6.out hlt6 _) hs3
      · exact HU6.out.keeps (S := [s]) ((Keeps.refl [s] w6).setCell (p := ⟨s, 0, none⟩) (Or.inl (by simp)) _) (fun k hk hm => by simp only [Value.ownBlock, Option.some.injEq] at hk; simp at hm; omega)
      · dsimp only
        rw [HLN.out, show ((told + (kept.length + n) : Nat) : Int) = (told : Int) + ((kept.length : Int) + (n : Int)) by omega]
        exact hb7
end Go.Proofs.YtkpabdjniiepkaaGreatDoor

set_option linter.unusedVariables false
set_option linter.unusedSimpArgs false
/-! law07.awake. -/
namespace Go.Proofs.YtkpabdjniiepkaaGreatDoor
open Go.RowKit
theorem rt_blk {w : World} {g : Nat} {ts : List Tok} (h : Blk w g 41 (ts.flatMap tcells)) : RT w (some ⟨g, 0, none⟩) ts.length ts :=
  ⟨rfl, fun _ => ⟨_, _, rfl⟩, fun b o ha j hj => by
    injection ha with ha; injection ha with h1 h2 h3; subst h1; subst h2
    obtain ⟨p1, p2, p3⟩ := tcells_get ts j hj
    rw [Nat.zero_add, h.cell, h.cell, h.cell]
    exact ⟨p1, p2, p3⟩⟩
theorem lit_bytesM (w : World) (xs : List Int) (fr : Nat × Nat) : RI .u8 (w.alloc (.cells (ints .u8 xs).toArray 5 fr)) (some ⟨w.heap.size, 0, none⟩) xs.length xs :=
  ⟨rfl, fun _ => ⟨_, _, rfl⟩, fun b o ha j hj => by
    injection ha with ha; injection ha with h1 h2 h3; subst h1; subst h2
    rw [Nat.zero_add, World.cell?_alloc_mark, List.getElem?_toArray, ints_getElem?]
    simp [nth, List.getD, hj]⟩
theorem ri_off {k : IntKind} {w : World} {A : Option Addr} {n : Nat} {xs : List Int} (h : RI k w A n xs) (hn : 0 < n) : ∀ a, A = some a → a.block < w.heap.size := fun a ha => by
  obtain ⟨b, o, rfl⟩ := h.hd hn
  injection ha with ha
  subst ha
  exact World.block_lt_of_cell? _ _ (h.cell b o rfl 0 hn)
theorem Keeps.fresh {T : List Nat} {w w1 w2 : World} (h : Keeps [] w w1) (k : Keeps T w1 w2) (hT : ∀ x ∈ T, w.heap.size ≤ x) : Keeps [] w w2 :=
  ⟨k.os.trans h.os, k.tape.trans h.tape, k.output.trans h.output, Nat.le_trans h.size k.size, fun i hi _ => (k.block i (Nat.lt_of_lt_of_le hi h.size) (fun hm => by have := hT i hm; omega)).trans (h.block i hi (by simp))⟩
theorem storB_byte {b : Int} {data : List Int} (hb : b = 0 ∨ b = 1) (hd : ∀ x ∈ data, 0 ≤ x ∧ x ≤ 255) (hn : data.length ≤ 16384) : ∀ x ∈ storB b data, 0 ≤ x ∧ x ≤ 255 := by
  intro x hx
  unfold storB at hx
  rcases List.mem_append.1 hx with h | h
  · simp only [List.mem_cons, List.not_mem_nil, or_false] at h
    rcases h with rfl | rfl | rfl | rfl | rfl <;> omega
  · exact hd x h
theorem Defl.byte {data xs : List Int} (h : Defl data xs) (hd : ∀ x ∈ data, 0 ≤ x ∧ x ≤ 255) (hn : data.length ≤ 16384) : ∀ x ∈ xs, 0 ≤ x ∧ x ≤ 255 := by
  obtain ⟨f, d, hf, hdy, rfl⟩ := h.out
  have sel : ∀ a b : List Int, (∀ x ∈ a, 0 ≤ x ∧ x ≤ 255) → (∀ x ∈ b, 0 ≤ x ∧ x ≤ 255) → ∀ x ∈ lessL a b, 0 ≤ x ∧ x ≤ 255 := fun a b h1 h2 x hx => by
    unfold lessL at hx
    split at hx
    · exact h2 x hx
    · exact h1 x hx
  exact sel _ _ (sel _ _ (storB_byte (.inr rfl) hd hn) hf.all_u8) hdy.all_u8
theorem Defl.infl {data xs : List Int} (h : Defl data xs) (hd : ∀ x ∈ data, 0 ≤ x ∧ x ≤ 255) (hn : data.length ≤ 16384) {most : Int} (h0 : (data.length : Int) ≤ most) (h1 : most ≤ 16384) : inflR xs most = (data, xs.length, 0) := (h.final hd hn).infl h0 h1
def awT : List Tok := [(97, 0, 0), (0, 6, 1)]
theorem aw_bits : (fixB awT).length = 30 ∧ ∀ i, i < 30 → bitAt [75, 132, 0, 0] i = nth (fixB awT) i := by decide +kernel
theorem aw_wb : WB [75, 132, 0, 0] (fixB awT) := by
  obtain ⟨h1, h2⟩ := aw_bits
  refine ⟨by rw [h1]; rfl, by_all (by decide), fun _ => by rw [h1]; decide, fun i hi => h2 i (by omega)⟩
theorem aw_chk : checkT awT 0 = 0 ∧ checkT [(0, 3, 1)] 0 = 60 ∧ feedD [] 0 [97, 98, 99] = (0, [], [97, 98, 99], 0) ∧ storB 1 [97, 98, 99] = [1, 3, 0, 252, 255, 97, 98, 99] := by decide +kernel
theorem aw_lit : LitOk awT ∧ LitOk [(0, 3, 1)] := by
  constructor <;> (intro t ht; simp [awT] at ht; rcases ht with rfl | rfl <;> simp)
set_option maxRecDepth 100000 in
set_option maxHeartbeats 4000000 in
theorem awake7_calls (w : World) (hT : Tabs w) : Calls Tryz.prog 5 #[] w fun e w' => e = .returned (.bool true) ∧ Keeps [] w w' := by
  have HT := Lib.hid hT
  have HTS := Lib.hid hT.size
  have kc := fun (w : World) (C : Array Value) (n c : Nat) => Lib.run_convert_bytes_const (P := Tryz.prog) w 22 5 C n c Tryz.underlying22 Tryz.underlying5
  have k0 : Keeps [] w (w.alloc (.cells (ints .u8 [97, 98, 99]).toArray 5 (3, 4))) := (Keeps.refl [] w).alloc _
  have HK0 := Lib.hid k0
  have HL0 := Lib.hid (lit_bytesM w [97, 98, 99] (3, 4))
  clear hT k0
  go_enter Tryz.func5, Tryz.ntmps5
  go_wp2_with fail
  refine (dstored_calls (w.alloc (.cells (ints .u8 [97, 98, 99]).toArray 5 (3, 4))) _ 3 3 [97, 98, 99] HL0.out (by simp)).mono ?_
  rintro e w1 (⟨h1, _⟩ | ⟨-, v, rfl, ho, -, hb⟩)
  · omega
  obtain ⟨A1, c1, rfl⟩ := own_formW ho
  have hr1 : RI .u8 w1 A1 (5 + 3) (storB 1 [97, 98, 99]) := by
    obtain ⟨A', c', hv, hr, -⟩ := own_ri ho
    injection hv with q1 q2 q3
    subst q1
    exact hr
  rw [aw_chk.2.2.2] at hr1
  have HK1 := Lib.hid (HK0.out.trans (Keeps.of_below hb))
  have k1 : Keeps [] w1 (w1.alloc (.cells (awT.flatMap tcells).toArray 41)) := (Keeps.refl [] w1).alloc _
  have HR1 := Lib.hid (hr1.keeps k1 (off_nil _))
  have HF := Lib.hid (dfixed_calls (w1.alloc (.cells (awT.flatMap tcells).toArray 41)) (some ⟨w1.heap.size, 0, none⟩) 2 2 awT (rt_blk (blk_new w1 41 (awT.flatMap tcells))) (fun a h => by injection h with h; subst h; simp) aw_lit.1 (by omega))
  have HK2 := Lib.hid (HK1.out.trans k1)
  clear ho hb hr1 k1 HK1 HL0 HK0
  go_wp2_with fail
  refine HF.out.mono ?_
  rintro e w2 (⟨-, g2, n2, c2, ys2, rfl, hr2, -, hwb2, hb2, -⟩ | ⟨h1, _⟩)
  rotate_left
  · exact absurd aw_chk.1 h1
  obtain rfl : ys2 = [75, 132, 0, 0] := hwb2.uniq aw_wb
  have hn2 : 4 = n2 := hr2.len
  subst hn2
  have kk := Keeps.of_below hb2 (S := [])
  have k1 : Keeps [] w2 (w2.alloc (.cells ([((0, 3, 1) : Tok)].flatMap tcells).toArray 41)) := (Keeps.refl [] w2).alloc _
  have R1 := Lib.hid (HR1.out.keeps (kk.trans k1) (off_nil _))
  have R2 := Lib.hid (hr2.keeps k1 (off_nil _))
  have K3 := Lib.hid ((HK2.out.trans kk).trans k1)
  have HF3 := Lib.hid (dfixed_calls (w2.alloc (.cells ([((0, 3, 1) : Tok)].flatMap tcells).toArray 41)) (some ⟨w2.heap.size, 0, none⟩) 1 1 [(0, 3, 1)] (rt_blk (blk_new w2 41 ([((0, 3, 1) : Tok)].flatMap tcells))) (fun a h => by injection h with h; subst h; simp) aw_lit.2 (by omega))
  clear HR1 HK2 HF hr2 hwb2 hb2 kk k1
  go_wp2_with fail
  refine HF3.out.mono ?_
  rintro e w3 (⟨h1, _⟩ | ⟨-, rfl, hb3⟩)
  · rw [aw_chk.2.1] at h1; cases h1
  rw [aw_chk.2.1]
  have kk := Keeps.of_below hb3 (S := [])
  have R13 := Lib.hid (R1.out.keeps kk (off_nil _))
  have R23 := Lib.hid (R2.out.keeps kk (off_nil _))
  have K4 := Lib.hid (K3.out.trans kk)
  clear R1 R2 K3 HF3 hb3 kk
  go_wp2_with fail
  refine (dnew_calls w3).mono ?_
  rintro _ w4 ⟨rfl, hs4, hk4⟩
  have R14 := Lib.hid (R13.out.keeps hk4 (off_nil _))
  have R24 := Lib.hid (R23.out.keeps hk4 (off_nil _))
  have K5 := Lib.hid (K4.out.trans hk4)
  have k5 : Keeps [] w4 (w4.alloc (.cells (ints .u8 [97, 98, 99]).toArray 5 (3, 4))) := (Keeps.refl [] w4).alloc _
  have hws : w.heap.size ≤ w3.heap.size := K4.out.size
  have HA1 := Lib.hid (ri_off R13.out (by omega))
  have HG2 : Hid (g2 < w3.heap.size) := Lib.hid (ri_off R23.out (by omega) ⟨g2, 0, none⟩ rfl)
  have hsw4 : w3.heap.size < w4.heap.size := hs4.lt
  have R15 := Lib.hid (R14.out.keeps k5 (off_nil _))
  have R25 := Lib.hid (R24.out.keeps k5 (off_nil _))
  have K6 := Lib.hid (K5.out.trans k5)
  have HFD := Lib.hid (dfeed_calls (w4.alloc (.cells (ints .u8 [97, 98, 99]).toArray 5 (3, 4))) w3.heap.size 0 [] none (some ⟨w4.heap.size, 0, none⟩) 3 3 [97, 98, 99] (hs4.keeps k5 (by simp) (by simp)) (lit_bytesM w4 [97, 98, 99] (3, 4)) (by simp) (by omega) (by simp))
  clear R13 R23 R14 R24 K4 K5 hs4 hk4 k5
  generalize hs : w3.heap.size = s at *
  go_wp2_with fail
  refine HFD.out.mono ?_
  rintro e w5 ⟨v5, kb, rfl, ho5, -, hs5, hkb, -, hk5⟩
  rw [aw_chk.2.2.1] at ho5 hs5 ⊢
  dsimp only at ho5 hs5 ⊢
  obtain ⟨A5, c5, rfl⟩ := own_formW ho5
  have HO5 := Lib.hid ho5
  have HS5 := Lib.hid hs5
  have hsz5 : w4.heap.size + 1 ≤ w5.heap.size := by have := hk5.size; simpa using this
  have hk5' : Keeps [s] (w4.alloc (.cells (ints .u8 [97, 98, 99]).toArray 5 (3, 4))) w5 := hk5
  have R16 := Lib.hid (R15.out.keeps hk5' (fun a ha hm => by have := HA1.out a ha; simp at hm; omega))
  have R26 := Lib.hid (R25.out.keeps hk5' (fun a ha hm => by have := HG2.out; injection ha with ha; subst ha; simp at hm; omega))
  have K7 := Lib.hid (K6.out.fresh hk5' (by simp; exact hws))
  have hgs : gtop ≤ s := Nat.le_trans HTS.out hws
  clear ho5 hs5 hk5 hk5' HFD R15 R25 K6 hkb
  go_wp2_with fail
  refine (dclose_calls w5 s 0 [97, 98, 99] kb HS5.out (HT.out.keeps K7.out (by simp)) hgs (by_all (by decide)) (by simp)).mono ?_
  rintro _ w6 ⟨g6, m6, c6, ys, rfl, hr6, hg6, hd6, -, hs6, hk6⟩
  have HR6 := Lib.hid hr6
  have HD6 := Lib.hid hd6
  have hm6 : m6 ≤ 8 := by have h1 := hd6.len.1; have h2 := hr6.len; simp at h1; omega
  have HL6 : Hid (ys.length = m6) := Lib.hid hr6.len
  have HS6 := Lib.hid hs6
  have HO6 := Lib.hid (own_keeps HO5.out hk6 (fun g hg hm => by have := own_lo HO5.out g hg; simp at hm this; omega))
  have R17 := Lib.hid (R16.out.keeps hk6 (fun a ha hm => by have := HA1.out a ha; simp at hm; omega))
  have R27 := Lib.hid (R26.out.keeps hk6 (fun a ha hm => by have := HG2.out; injection ha with ha; subst ha; simp at hm; omega))
  have K8 := Lib.hid (K7.out.fresh hk6 (by simp; exact hws))
  have hsz6 := hk6.size
  clear hr6 hd6 hs6 hk6 R16 R26 K7 HS5 HO5
  go_wp2_with fail
  refine (dclose_closed w6 s 0 [97, 98, 99] kb HS6.out).mono ?_
  rintro _ w7 ⟨rfl, hk7⟩
  have HR7 := Lib.hid (HR6.out.keeps hk7 (off_nil _))
  have HO7 := Lib.hid (own_keeps HO6.out hk7 (by simp))
  have R18 := Lib.hid (R17.out.keeps hk7 (off_nil _))
  have R28 := Lib.hid (R27.out.keeps hk7 (off_nil _))
  have K9 := Lib.hid (K8.out.trans hk7)
  have hsz7 := hk7.size
  clear hk7 HR6 HO6 R17 R27 K8 HS6
  go_wp2_with (at_builtin; refine app_bytesB rfl (.tmp 58) (.tmp 59) rfl w4.heap.size (.slice A5 0 c5) 0 [] rfl (by exact own_lower HO7.out (by simp)) (some ⟨g6, 0, none⟩) m6 c6 ys rfl (by exact HR7.out) nofun (by omega) (by omega) ?_)
  intro v8 w8 ho8 hg8 _
  obtain ⟨A8, c8, rfl⟩ := own_formW ho8
  have hr8 : RI .u8 w8 A8 (0 + m6) ys := by
    obtain ⟨A', c', hv, hr, -⟩ := own_ri ho8
    injection hv with q1 q2 q3
    subst q1
    simpa using hr
  rw [Nat.zero_add] at hr8
  have kk : Keeps (Value.slice A5 0 c5).ownBlock.toList w7 w8 := (Keeps.refl _ w7).grown hg8 (fun k hk => .inl (by rw [hk]; simp))
  have hoB : ∀ g, (Value.slice A5 0 c5).ownBlock = some g → w4.heap.size ≤ g := fun g hg => by have := own_lo HO7.out g hg; simp at this; omega
  have R19 := Lib.hid (R18.out.keeps kk (fun a ha hm => by have := HA1.out a ha; have := hoB a.block (by simpa using hm); omega))
  have R29 := Lib.hid (R28.out.keeps kk (fun a ha hm => by have := HG2.out; injection ha with ha; subst ha; have := hoB g2 (by simpa using hm); omega))
  have K10 := Lib.hid (K9.out.fresh kk (fun x hx => by have := hoB x (by simpa using hx); omega))
  have HR8 := Lib.hid hr8
  have HB8 := Lib.hid (nth_u8 (HD6.out.byte (data := [97, 98, 99]) (by intro x hx; simp at hx; rcases hx with rfl | rfl | rfl <;> omega) (by simp)))
  have HIN : Hid (inflR ys 9 = ([97, 98, 99], ys.length, 0)) := Lib.hid (HD6.out.infl (by intro x hx; simp at hx; rcases hx with rfl | rfl | rfl <;> omega) (by simp) (by simp) (by omega))
  clear ho8 hg8 hr8 kk hoB HO7 R18 R28 K9 HR7
  go_wp2_with fail
  refine (rinflate_calls w8 A8 m6 c8 ys 9 HR8.out HB8.out (by omega)).mono ?_
  rintro e w9 ⟨B9, c9, rfl, hr9, -, hk9⟩
  rw [HIN.out] at hr9 ⊢
  dsimp only at hr9 ⊢
  have R110 := Lib.hid (R19.out.keeps hk9 (off_nil _))
  have R210 := Lib.hid (R29.out.keeps hk9 (off_nil _))
  have HR9 := Lib.hid hr9
  have K11 := Lib.hid (K10.out.trans hk9)
  have k11 : Keeps [] w9 (w9.alloc (.cells (ints .u8 [1, 3, 0, 252, 255, 97, 98, 99]).toArray 5)) := (Keeps.refl [] w9).alloc _
  have R111 := Lib.hid (R110.out.keeps k11 (off_nil _))
  have R211 := Lib.hid (R210.out.keeps k11 (off_nil _))
  have HR11 := Lib.hid (HR9.out.keeps k11 (off_nil _))
  have K12 := Lib.hid (K11.out.trans k11)
  have HL9 := Lib.hid (lit_bytes w9 [1, 3, 0, 252, 255, 97, 98, 99])
  clear hr9 hk9 R19 R29 K10 HR8 k11 R110 R210 HR9 K11 HIN HB8
  go_wp2_with fail
  refine (keepBytes_calls (w9.alloc (.cells (ints .u8 [1, 3, 0, 252, 255, 97, 98, 99]).toArray 5)) _ _ 8 8 c1 8 _ _ R111.out HL9.out (by omega) (by omega)).mono ?_
  rintro _ w10 ⟨rfl, hd10⟩
  rw [beq_self_eq_true]
  have hk10 := hd10.keeps (S := [])
  have k12 : Keeps [] w10 (w10.alloc (.cells (ints .u8 [75, 132, 0, 0]).toArray 5)) := (Keeps.refl [] w10).alloc _
  have R212 := Lib.hid (R211.out.keeps (hk10.trans k12) (off_nil _))
  have HR12 := Lib.hid (HR11.out.keeps (hk10.trans k12) (off_nil _))
  have K13 := Lib.hid (K12.out.trans (hk10.trans k12))
  have HL10 := Lib.hid (lit_bytes w10 [75, 132, 0, 0])
  clear hd10 hk10 k12 R111 R211 HR11 K12 HL9
  go_wp2_with fail
  refine (keepBytes_calls (w10.alloc (.cells (ints .u8 [75, 132, 0, 0]).toArray 5)) _ _ 4 4 c2 4 _ _ R212.out HL10.out (by omega) (by omega)).mono ?_
  rintro _ w11 ⟨rfl, hd11⟩
  rw [beq_self_eq_true]
  have hk11 := hd11.keeps (S := [])
  have HR13 := Lib.hid (HR12.out.keeps hk11 (off_nil _))
  have K14 := Lib.hid (K13.out.trans hk11)
  have x1 := conv_str (n := 3) (c := c9) HR13.out (by decide) ⟨#[97, 98, 99]⟩ (by decide)
  clear hd11 hk11 R212 HR12 K13 HL10
  go_wp2_with fail
  go_ret
  exact ⟨rfl, K14.out⟩
end Go.Proofs.YtkpabdjniiepkaaGreatDoor
