/-
  No stream answers so: Feed, Done, Rest and Close of a nil stream; for every row of bytes.
-/
import Derived.Test.YtcblibefmclloaaDoorINilA
import Derived.Test.YtcblibefmclloaaDoorINilK
import Derived.Laws.BytesArg
set_option linter.unusedVariables false
set_option linter.unusedSimpArgs false
namespace Go.Proofs.YtcblibefmclloaaDoor
open Go.RowKit
set_option maxHeartbeats 400000 in
theorem keepBytes_calls (w : World) (A B : Option Addr) (n m c d : Nat) (xs ys : List Int) (hx : RI .u8 w A n xs) (hy : RI .u8 w B m ys) (hn : n ≤ 140737488355328) (hm : m ≤ 140737488355328) :
    Calls Tryd.prog 34 #[.slice A n c, .slice B m d] w fun e w' => e = .returned (.bool (xs == ys)) ∧ Dr w w' := by
  have lx := hx.len
  have ly := hy.len
  by_cases hnm : n = m
  · subst hnm
    have t0 : ((n : Int) != (n : Int)) = false := by simp
    go_enter Tryd.func34, Tryd.ntmps34
    go_wp2
    clear t0
    have HX := Lib.hid hx
    have HY := Lib.hid hy
    have LX := Lib.hid lx
    have LY := Lib.hid ly
    clear hx hy lx ly
    go_loopw [5] (fun i wr => ∃ k : Nat, k ≤ n ∧ i = .int .i64 k ∧ Hid (∀ j, j < k → nth xs j = nth ys j) ∧ Hid (Dr w wr)) (fun i _ => n - (intOf i).toNat)
    case atStart => exact ⟨0, by omega, rfl, fun j hj => by omega, Dr.refl _⟩
    case round =>
      obtain ⟨k, hk, rfl, HE, HW⟩ := hrel
      obtain ⟨q, rfl⟩ := HW.out
      clear HW
      by_cases hlt : k < n
      · obtain ⟨a, o, rfl, ha⟩ := HX.out.at hlt
        obtain ⟨b, o', rfl, hb⟩ := HY.out.at hlt
        by_cases hv : nth xs k = nth ys k
        · have t1 : (nth xs k != nth ys k) = false := by simpa using hv
          have HV := Lib.hid hv
          clear hv
          go_wp2
          go_quiet (fail)
          go_wp2
          go_roundw
          case rel => exact ⟨k + 1, by omega, by go_num, eq_snoc HE.out HV.out, ⟨_, rfl⟩⟩
          case measure => simp [intOf]; omega
        · have t1 : (nth xs k != nth ys k) = true := by simpa using hv
          have HV := Lib.hid hv
          clear hv
          go_wp2
          go_quiet (fail)
          go_wp2
          go_ret
          rw [beq_of_ne xs ys k HV.out]
          exact ⟨rfl, Dr.step ⟨_, rfl⟩ _⟩
      · go_wp2
        go_ret
        rw [beq_of_getD xs ys n LX.out LY.out (fun j hj => HE.out j (by omega))]
        exact ⟨rfl, _, rfl⟩
  · have t0 : ((n : Int) != (m : Int)) = true := by simp; omega
    go_enter Tryd.func34, Tryd.ntmps34
    go_wp2
    go_ret
    rw [beq_of_len xs ys (by omega)]
    exact ⟨rfl, 0, rfl⟩
end Go.Proofs.YtcblibefmclloaaDoor

set_option linter.unusedVariables false
set_option linter.unusedSimpArgs false
namespace Go.Proofs.YtcblibefmclloaaDoor
open Go.RowKit
theorem aw_facts : inflR [75, 76, 74, 6, 0] 9 = ([97, 98, 99], 5, 0) ∧ inflR [75, 132, 0, 0] 99 = ([97, 97, 97, 97, 97, 97, 97], 4, 0) ∧ inflR [7] 9 = ([], 0, 50) ∧ inflF [75, 76] 9 = ([97], 0, 55) ∧
    (inflF [75, 76, 74, 6, 0, 255] 9).1 = [97, 98, 99] ∧ (inflF [75, 76, 74, 6, 0, 255] 9).2.2 = 0 ∧ ((inflF [75, 76, 74, 6, 0, 255] 9).2.1 + 7) / 8 = 5 := by decide +kernel
theorem by_all {xs : List Int} (h : xs.all (fun x => decide (0 ≤ x) && decide (x ≤ 255)) = true) (j : Nat) : 0 ≤ nth xs j ∧ nth xs j ≤ 255 := by
  by_cases hj : j < xs.length
  · have := List.all_eq_true.1 h (nth xs j) (by rw [nth_lt hj]; exact List.getElem_mem _)
    simpa using this
  · simp [nth, List.getD, List.getElem?_eq_none (Nat.le_of_not_lt hj)]
theorem conv_str {w : World} {A : Option Addr} {n c : Nat} {xs : List Int} (h : RI .u8 w A n xs) (h1 : 0 < n) (s : ByteArray) (hs : strOfNums xs = s) : (convert 37 9 (.slice A n c)).run Tryd.prog w = .ok (.string s) w := by
  subst hs
  obtain ⟨b, o, rfl⟩ := h.hd h1
  exact run_convert_bytes_arg w 37 5 Tryd.underlying37 Tryd.underlying5 b o n c xs h.len (fun i hi => h.cell b o rfl i hi) 9 Tryd.underlying9
theorem lit_bytes (w : World) (xs : List Int) : RI .u8 (w.alloc (.cells (ints .u8 xs).toArray 5)) (some ⟨w.heap.size, 0, none⟩) xs.length xs := by
  have := Blk.ri (xs := xs) (ys := []) (k := .u8) (by simpa using blk_new w 5 (ints .u8 xs))
  exact this
set_option maxRecDepth 100000 in
set_option maxHeartbeats 2000000 in
theorem awake5_calls (w : World) (hT : Tabs w) : Calls Tryd.prog 36 #[] w fun e w' => e = .returned (.bool true) ∧ Keeps [] w w' := by
  have HT := Lib.hid hT
  have HTS := Lib.hid hT.size
  clear hT
  go_enter Tryd.func36, Tryd.ntmps36
  have k0 : Keeps [] w (w.alloc (.cells (ints .u8 [75, 76, 74, 6, 0]).toArray 5)) := (Keeps.refl [] w).alloc _
  have HK0 := Lib.hid k0
  have HL0 := Lib.hid (lit_bytes w [75, 76, 74, 6, 0])
  clear k0
  go_wp2_with fail
  refine (inflate_calls (w.alloc (.cells (ints .u8 [75, 76, 74, 6, 0]).toArray 5)) _ 5 5 [75, 76, 74, 6, 0] 9 (HT.out.keeps HK0.out (by simp)) HL0.out (by simp) (by_all (by decide)) (by omega)).mono ?_
  rintro _ w1 ⟨v1, rfl, ho1, hb1⟩
  rw [aw_facts.1] at ho1 ⊢
  simp only [] at ho1 ⊢
  obtain ⟨A1, c1, rfl, hr1, -, -⟩ := own_ri ho1
  have HR1 := Lib.hid hr1
  have HK1 := Lib.hid (HK0.out.trans (Keeps.of_below hb1))
  clear ho1 hb1 hr1 HK0 HL0
  have k0 : Keeps [] w1 (w1.alloc (.cells (ints .u8 [75, 132, 0, 0]).toArray 5)) := (Keeps.refl [] w1).alloc _
  have HK1' := Lib.hid (HK1.out.trans k0)
  have HL1 := Lib.hid (lit_bytes w1 [75, 132, 0, 0])
  have HR1' := Lib.hid (HR1.out.keeps k0 (off_nil _))
  clear k0 HR1 HK1
  go_wp2_with fail
  refine (inflate_calls (w1.alloc (.cells (ints .u8 [75, 132, 0, 0]).toArray 5)) _ 4 4 [75, 132, 0, 0] 99 (HT.out.keeps HK1'.out (by simp)) HL1.out (by simp) (by_all (by decide)) (by omega)).mono ?_
  rintro _ w2 ⟨v2, rfl, ho2, hb2⟩
  rw [aw_facts.2.1] at ho2 ⊢
  simp only [] at ho2 ⊢
  obtain ⟨A2, c2, rfl, hr2, -, -⟩ := own_ri ho2
  have k2 := Keeps.of_below hb2 (S := [])
  have k0 : Keeps [] w2 (w2.alloc (.cells (ints .u8 [7]).toArray 5)) := (Keeps.refl [] w2).alloc _
  have HR1 := Lib.hid (HR1'.out.keeps (k2.trans k0) (off_nil _))
  have HR2 := Lib.hid (hr2.keeps k0 (off_nil _))
  have HK2 := Lib.hid ((HK1'.out.trans k2).trans k0)
  have HL2 := Lib.hid (lit_bytes w2 [7])
  clear ho2 hb2 hr2 k0 k2 HK1' HL1 HR1'
  go_wp2_with fail
  refine (inflate_calls (w2.alloc (.cells (ints .u8 [7]).toArray 5)) _ 1 1 [7] 9 (HT.out.keeps HK2.out (by simp)) HL2.out (by simp) (by_all (by decide)) (by omega)).mono ?_
  rintro _ w3 ⟨v3, rfl, ho3, hb3⟩
  rw [aw_facts.2.2.1] at ho3 ⊢
  simp only [] at ho3 ⊢
  obtain ⟨A3, c3, rfl, -, -, -⟩ := own_ri ho3
  have k3 := Keeps.of_below hb3 (S := [])
  have HR13 := Lib.hid (HR1.out.keeps k3 (off_nil _))
  have HR23 := Lib.hid (HR2.out.keeps k3 (off_nil _))
  have HK3 := Lib.hid (HK2.out.trans k3)
  clear ho3 hb3 k3 HR1 HR2 HK2 HL2
  go_wp2_with fail
  refine (inew_calls w3 9).mono ?_
  rintro _ w4 ⟨-, hn⟩
  obtain ⟨s, rfl, hst, hs, k4⟩ := hn 9 rfl (by omega)
  have k0 : Keeps [] w4 (w4.alloc (.cells (ints .u8 [75, 76]).toArray 5)) := (Keeps.refl [] w4).alloc _
  have HR14 := Lib.hid (HR13.out.keeps (k4.trans k0) (off_nil _))
  have HR24 := Lib.hid (HR23.out.keeps (k4.trans k0) (off_nil _))
  have HK4 := Lib.hid ((HK3.out.trans k4).trans k0)
  have HST4 := Lib.hid (hst.keeps k0 (by simp))
  have HSG : Hid (gtop ≤ s) := Lib.hid (by have := HTS.out; have := HK3.out.size; omega)
  have HSW : Hid (w3.heap.size ≤ s) := Lib.hid hs
  have HSO : Hid (w.heap.size ≤ s) := Lib.hid (by have := HK3.out.size; omega)
  have HL4 := Lib.hid (lit_bytes w4 [75, 76])
  have HB1 : Hid (∀ a, A1 = some a → a.block < s) := Lib.hid (fun a ha => by
    obtain ⟨b, o, hd, hc⟩ := HR13.out.at (show 0 < [97, 98, 99].length by decide)
    rw [ha] at hd
    injection hd with hd
    have := World.block_lt_of_cell? _ _ hc
    rw [hd]; exact Nat.lt_of_lt_of_le this hs)
  have HB2 : Hid (∀ a, A2 = some a → a.block < s) := Lib.hid (fun a ha => by
    obtain ⟨b, o, hd, hc⟩ := HR23.out.at (show 0 < [97, 97, 97, 97, 97, 97, 97].length by decide)
    rw [ha] at hd
    injection hd with hd
    have := World.block_lt_of_cell? _ _ hc
    rw [hd]; exact Nat.lt_of_lt_of_le this hs)
  clear hst hs k4 k0 hn HR13 HR23 HK3 HTS
  go_wp2_with fail
  refine (feed_calls (w4.alloc (.cells (ints .u8 [75, 76]).toArray 5)) s 9 [] none _ 2 2 [75, 76] HST4.out (HT.out.keeps HK4.out (by simp)) HSG.out HL4.out (by simp) (by_all (by decide)) (by simp)).mono ?_
  rintro _ w5 ⟨v5, fb, rfl, ho5, hst5, hk5, hfb5, hdis5⟩
  have e1 : feedR (inflF [] 9) (inflF ([] ++ [75, 76]) 9) = ([97], 0) := by rw [inflF_nil, List.nil_append, aw_facts.2.2.2.1]; rfl
  rw [e1] at ho5 ⊢
  rw [List.nil_append] at hst5
  simp only [] at ho5 ⊢
  have HV5 := Lib.hid hdis5
  obtain ⟨A5, c5, rfl, hr5, -, hlo5⟩ := own_ri ho5
  have HFB : Hid (∀ x, fb = some x → w4.heap.size + 1 ≤ x) := Lib.hid (fun x hx => by
    rcases hfb5 x hx with h | h
    · cases h
    · simpa using h)
  have k0 : Keeps [] w5 (w5.alloc (.cells (ints .u8 [74, 6, 0, 255]).toArray 5)) := (Keeps.refl [] w5).alloc _
  have HR15 := Lib.hid ((HR14.out.keeps hk5 (fun a ha hm => by have := HB1.out a ha; simp at hm; omega)).keeps k0 (off_nil _))
  have HR25 := Lib.hid ((HR24.out.keeps hk5 (fun a ha hm => by have := HB2.out a ha; simp at hm; omega)).keeps k0 (off_nil _))
  have HR55 := Lib.hid (hr5.keeps k0 (off_nil _))
  have HK5 := Lib.hid ((HK4.out.then hk5 (fun x hx => by simp at hx; subst hx; exact .inr HSO.out)).trans k0)
  have HST5 := Lib.hid (hst5.keeps k0 (by simp))
  have HL5 := Lib.hid (lit_bytes w5 [74, 6, 0, 255])
  have HW4 : Hid (s < w4.heap.size + 1) := Lib.hid (by have := HST4.out.lt; simpa using this)
  have HD5 : Hid (∀ a, A5 = some a → a.block ≠ s ∧ fb ≠ some a.block) := Lib.hid (fun a ha => ⟨by
    have := (hlo5 a ha).1
    have h2 := HW4.out
    simp at this
    omega, HV5.out a.block (by rw [ha]; rfl)⟩)
  have HF1 : Hid (∀ a, A1 = some a → fb ≠ some a.block) := Lib.hid (fun a ha h => by have := HFB.out _ h; have := HB1.out a ha; have := HW4.out; omega)
  have HF2 : Hid (∀ a, A2 = some a → fb ≠ some a.block) := Lib.hid (fun a ha h => by have := HFB.out _ h; have := HB2.out a ha; have := HW4.out; omega)
  have HSZ : Hid (w.heap.size ≤ w4.heap.size + 1) := Lib.hid (by have := HK4.out.size; simpa using this)
  clear ho5 hr5 hlo5 hst5 hk5 hfb5 hdis5 e1 k0 HR14 HR24 HK4 HST4 HL4 HV5
  go_wp2_with fail
  refine (feed_calls (w5.alloc (.cells (ints .u8 [74, 6, 0, 255]).toArray 5)) s 9 [75, 76] fb _ 4 4 [74, 6, 0, 255] HST5.out (HT.out.keeps HK5.out (by simp)) HSG.out HL5.out (by simp) (by_all (by decide)) (by simp)).mono ?_
  rintro _ w6 ⟨v6, fb6, rfl, ho6, hst6, hk6, -, -⟩
  have e1 : feedR (inflF [75, 76] 9) (inflF ([75, 76] ++ [74, 6, 0, 255]) 9) = ([98, 99], 0) := by
    have h1 : [(75 : Int), 76] ++ [74, 6, 0, 255] = [75, 76, 74, 6, 0, 255] := rfl
    rw [h1]
    unfold feedR
    rw [if_pos (.inl aw_facts.2.2.2.2.2.1), aw_facts.2.2.2.1, aw_facts.2.2.2.2.1]
    rfl
  rw [e1] at ho6 ⊢
  rw [show [(75 : Int), 76] ++ [74, 6, 0, 255] = [75, 76, 74, 6, 0, 255] from rfl] at hst6
  simp only [] at ho6 ⊢
  obtain ⟨A6, c6, rfl, hr6, -, -⟩ := own_ri ho6
  have hno : ∀ {a : Addr}, a.block ≠ s → fb ≠ some a.block → a.block ∉ s :: fb.toList := fun h1 h2 hm => by
    rcases List.mem_cons.1 hm with h | h
    · exact h1 h
    · exact h2 (Option.mem_toList.1 h)
  have HR16 := Lib.hid (HR15.out.keeps hk6 (fun a ha => hno (by have := HB1.out a ha; omega) (HF1.out a ha)))
  have HR26 := Lib.hid (HR25.out.keeps hk6 (fun a ha => hno (by have := HB2.out a ha; omega) (HF2.out a ha)))
  have HR56 := Lib.hid (HR55.out.keeps hk6 (fun a ha => hno (HD5.out a ha).1 (HD5.out a ha).2))
  have HR66 := Lib.hid hr6
  have HK6 := Lib.hid (HK5.out.then hk6 (fun x hx => by
    rcases List.mem_cons.1 hx with h | h
    · subst h; exact .inr HSO.out
    · have := HFB.out x (Option.mem_toList.1 h); have := HSZ.out; exact .inr (by omega)))
  have HST6 := Lib.hid hst6
  have x1 := conv_str (n := 3) (c := c1) HR16.out (by decide) ⟨#[97, 98, 99]⟩ (by decide)
  have x2 := conv_str (n := 7) (c := c2) HR26.out (by decide) ⟨#[97, 97, 97, 97, 97, 97, 97]⟩ (by decide)
  have x5 := conv_str (n := 1) (c := c5) HR56.out (by decide) ⟨#[97]⟩ (by decide)
  have x6 := conv_str (n := 2) (c := c6) HR66.out (by decide) ⟨#[98, 99]⟩ (by decide)
  clear ho6 hst6 hk6 hr6 e1 HR15 HR25 HR55 HK5 HST5 HL5 HF1 HF2 HD5 HSZ HFB HB1 HB2 hno
  go_upto_region 10 with (fail)
  go_wp2_with fail
  refine (done_calls w6 s 9 [75, 76, 74, 6, 0, 255] fb6 HST6.out).mono ?_
  rintro _ w7 ⟨rfl, hd7⟩
  rw [aw_facts.2.2.2.2.2.1]
  have HK7 := Lib.hid (HK6.out.trans (hd7.keeps (S := [])))
  have HST7 := Lib.hid (HST6.out.keeps (hd7.keeps (S := [])) (by simp))
  clear hd7 HK6 HST6 x1 x2 x5 x6
  go_wp2_with fail
  refine (rest_calls w7 s 9 [75, 76, 74, 6, 0, 255] fb6 HST7.out (by simp)).mono ?_
  rintro _ w8 ⟨v8, rfl, ho8, hk8⟩
  have e1 : restF [75, 76, 74, 6, 0, 255] 9 = [255] := by
    unfold restF
    rw [if_pos aw_facts.2.2.2.2.2.1, aw_facts.2.2.2.2.2.2]
    rfl
  rw [e1] at ho8
  obtain ⟨A8, c8, rfl, hr8, -, -⟩ := own_ri ho8
  have k0 : Keeps [] w8 (w8.alloc (.cells (ints .u8 [255]).toArray 5)) := (Keeps.refl [] w8).alloc _
  have HR8 := Lib.hid (hr8.keeps k0 (off_nil _))
  have HK8 := Lib.hid ((HK7.out.trans hk8).trans k0)
  have HST8 := Lib.hid (HST7.out.keeps (hk8.trans k0) (by simp))
  have HL8 := Lib.hid (lit_bytes w8 [255])
  clear ho8 hr8 hk8 k0 HK7 HST7 e1
  go_wp2_with fail
  refine (keepBytes_calls (w8.alloc (.cells (ints .u8 [255]).toArray 5)) _ _ 1 1 c8 1 [255] [255] HR8.out HL8.out (by omega) (by omega)).mono ?_
  rintro _ w9 ⟨rfl, hd9⟩
  rw [beq_self_eq_true]
  have HK9 := Lib.hid (HK8.out.trans (hd9.keeps (S := [])))
  have HST9 := Lib.hid (HST8.out.keeps (hd9.keeps (S := [])) (by simp))
  clear hd9 HK8 HST8
  go_wp2_with fail
  refine (close_calls w9 s 9 [75, 76, 74, 6, 0, 255] fb6 HST9.out).mono ?_
  rintro _ w10 ⟨rfl, hd10⟩
  rw [aw_facts.2.2.2.2.2.1]
  have HK10 := Lib.hid (HK9.out.trans (hd10.keeps (S := [])))
  clear hd10 HK9 HST9
  go_wp2_with fail
  go_ret
  exact ⟨rfl, HK10.out⟩
end Go.Proofs.YtcblibefmclloaaDoor

set_option linter.unusedVariables false
set_option linter.unusedSimpArgs false
namespace Go.Proofs.YtcblibefmclloaaDoor
open Go.RowKit
set_option maxRecDepth 100000 in
set_option maxHeartbeats 1000000 in
theorem inflateNil_walk (w : World) (A : Option Addr) (n c : Nat) (bs : List Int) (hT : Tabs w) (hb : RI .u8 w A n bs) (hm : n ≤ maxLen) (hnil : A = none → n = 0 ∧ c = 0) (hwf : ∀ x ∈ bs, (Lit.int .u8 x).wf = true) :
    Calls Tryd.prog 11 #[.slice A n c] w fun e w' => e = .returned (.bool true) ∧ Keeps [] w w' := by
  have HT := Lib.hid hT
  unfold maxLen at hm
  clear hT hb hnil hwf
  go_enter Tryd.func11, Tryd.ntmps11
  by_cases h1 : 65536 < n
  · have e1 : decide (65536 < n) = true := by simpa using h1
    have e1' : decide ((65536 : Int) < (n : Int)) = true := by simp; omega
    go_wp2_with fail
    go_ret
    exact ⟨rfl, Keeps.refl _ _⟩
  have e1 : decide (65536 < n) = false := by simpa using h1
  have e1' : decide ((65536 : Int) < (n : Int)) = false := by simp; omega
  go_wp2_with fail
  refine (feed_nil w A n c).mono ?_
  rintro _ w1 ⟨rfl, hd⟩
  have HK1 := Lib.hid (hd.keeps (S := []))
  clear hd
  go_wp2_with fail
  refine (awake5_calls w1 (HT.out.keeps HK1.out (by simp))).mono ?_
  rintro _ w2 ⟨rfl, hk⟩
  have HK2 := Lib.hid (HK1.out.trans hk)
  clear hk HK1
  go_wp2_with fail
  refine (done_nil w2).mono ?_
  rintro _ w3 ⟨rfl, hd⟩
  have HK3 := Lib.hid (HK2.out.trans (hd.keeps (S := [])))
  clear hd HK2
  go_wp2_with fail
  refine (rest_nil w3).mono ?_
  rintro _ w4 ⟨rfl, hd⟩
  have HK4 := Lib.hid (HK3.out.trans (hd.keeps (S := [])))
  clear hd HK3
  go_wp2_with fail
  refine (close_nil w4).mono ?_
  rintro _ w5 ⟨rfl, hd⟩
  have HK5 := Lib.hid (HK4.out.trans (hd.keeps (S := [])))
  clear hd HK4
  go_wp2_with fail
  go_ret
  exact ⟨rfl, HK5.out⟩
end Go.Proofs.YtcblibefmclloaaDoor

/-
  No stream answers so: Feed, Done, Rest and Close of a nil stream; for every row of bytes.
-/
set_option linter.unusedVariables false
set_option linter.unusedSimpArgs false
namespace Go.Proofs.YtcblibefmclloaaDoor.inflateNil
open Go.ChangeShapes Go.WideShapes Go.ChangeAt Go.RowKit
set_option maxRecDepth 100000 in
theorem contract (H : Type) (enc : TypeId × Value → H) (W : World) (base : Nat) (args : Array Value) (ds gs : List (DataW H)) (before : List MemPlace)
    (hval : ∀ (j : Nat) t v, Tryd.f11.params[j]? = some t → args[j]? = some v → Value.okWide Tryd.prog W .any base t v)
    (hW : DataW.Whole enc Tryd.prog Tryd.f11.params.toList Rows.inflateNilSpec.vars false W args.toList ds gs before) (hL : laidMetH Tryd.prog Rows.inflateNilRow.laid W) :
    Calls Tryd.prog 11 args W fun e W' => ∃ v, e = .returned v ∧ Rows.inflateNilSpec.post enc Tryd.prog Tryd.f11 false true false false W args v W' := by
  have hT : Tabs W := tabs_of (laidMet.filter (fun x => x.1 == "haversack/lens.order" || x.1 == "haversack/lens.wide" || x.1 == "haversack/lens.from") hL)
  have hW' := hW
  obtain ⟨p, q, hA0, hV, rfl, hfz, hnd⟩ := hW
  have hA : DataW.TrodAll enc Tryd.prog W 0 (fun _ => true) true Tryd.f11.params.toList args.toList ds p := hA0
  rw [Tryd.params11] at hA hval
  obtain ⟨v0, vs0, d0, ds0, p0, q0, hargs, rfl, rfl, h0, r0⟩ := trodAll_cons hA
  obtain ⟨rfl, rfl, rfl⟩ := trodAll_nil r0
  obtain rfl : args = #[v0] := by cases args; simp_all
  obtain ⟨rfl, rfl⟩ := trodVars_none hV
  obtain ⟨a0, len0, cap0, rfl⟩ := okWide_slice Tryd.underlying37 (hval 0 37 v0 rfl rfl)
  have k0 := h0
  have lt0 : ∀ x ∈ p0, x.block < W.heap.size := by obtain ⟨m, hm⟩ := k0; exact DataW.trod_lt m _ _ _ hm
  obtain ⟨z0, w0, m0, n0, y0⟩ := ri_came Tryd.underlying37 Tryd.underlying5 cellsU8 h0
  clear hA0
  refine (inflateNil_walk W a0 len0 cap0 z0 hT w0 m0 n0 y0).mono fun e W' ⟨he, hk⟩ => ?_
  have bel := hk.below
  subst he
  exact ⟨_, rfl, _, _, _, [], _, [], hW', trodAll_mk1 (shut_bool Tryd.underlying4 _), (trodAll_cons_mk (Below.trod laidOut (by kernel_rfl) (of_decide_eq_true (by kernel_rfl)) k0 bel lt0) trodAll_mk0), rfl, bel.frame _, fun h => by cases h⟩
theorem reads (os : Os) {H : Type} (enc : TypeId × Value → H) : ∃ places, DataW.whole enc Tryd.prog ((laidWorld os).forCall (fun _ _ => 0) ⟨#[], #[.slice none 0 0], []⟩).memory Tryd.f11.params.toList Rows.inflateNilSpec.vars false #[Value.slice none 0 0].toList 8 = some ([.nil], [], places) :=
  ⟨[], by kernel_rfl⟩
set_option maxRecDepth 100000 in
theorem lifted (os : Os) (started : os.Started) (H : Type) (enc : TypeId × Value → H) (F : Stop.Interp) :
    ReturnsInHanded {} Tryd.checked os 11 .any ((OpenSpec.ofChange Rows.inflateNilSpec).preRow enc Tryd.prog Tryd.f11 Rows.inflateNilRow.domain false Rows.inflateNilRow.laid) (((OpenSpec.ofChange Rows.inflateNilSpec).at F).post enc Tryd.prog Tryd.f11 false true false false) := by
  obtain ⟨places, hx⟩ := reads os enc
  refine returnsInHanded_of_row (C := Tryd.checked) (s := OpenSpec.ofChange Rows.inflateNilSpec) own started (by kernel_rfl) Tryd.func11
    (witness_row_at (enc := enc) (C := Tryd.checked) false (laidWorld os) #[.slice none 0 0] rfl (by kernel_rfl) (by kernel_rfl) (by kernel_rfl)
      (OpenSpec.preRow_of_cond 8 hx (by kernel_rfl) (fun k hk => by cases hk) (by kernel_rfl) (laid_met os _))) ?_
  intro W base args ds gs before hval hW _ _ _ hL _ _
  exact contract H enc W base args ds gs before hval hW hL
theorem said : Rows.InflateNilSaid :=
  OpenClaim.holds_of_cond 11 Tryd.f11 rfl rfl rfl rfl rfl rfl rfl ⟨rfl, rfl, rfl, rfl, rfl⟩ rfl rfl rfl rfl rfl (by kernel_rfl) Tryd.func11 (by kernel_rfl)
    (of_decide_eq_true (by kernel_rfl)) (by unfold Func.isWrapper; first | (rw [if_pos (by decide +kernel)]; kernel_rfl) | (rw [if_neg (by decide +kernel)]; exact ⟨rfl, rfl⟩))
    (fun os started H enc _ F => by rw [OpenClaim.pre_eq_preRow]; exact lifted os started H enc F)
theorem plain (f : FuncId) (fn : Func) (hf : Tryd.pinned.checked.prog.funcNamed "haversack/haversacklaw05.InflateNil" = some f) (hfn : Tryd.pinned.checked.prog.funcs[f]? = some fn) :
    false = Tryd.pinned.checked.prog.looks [] ∧ ∀ (j : Nat) t, fn.params[j]? = some t → Tryd.pinned.checked.prog.wantsStandIn t = false := by
  obtain rfl : f = 11 := Option.some.inj ((show Tryd.prog.funcNamed "haversack/haversacklaw05.InflateNil" = some 11 by kernel_rfl).symm.trans hf) |>.symm
  obtain rfl : fn = Tryd.f11 := (Option.some.inj (Tryd.func11.symm.trans hfn)).symm
  refine ⟨by kernel_rfl, fun j t ht => ?_⟩
  rw [Tryd.params11] at ht
  have hm := Array.mem_of_getElem? ht
  obtain rfl : t = 37 := by simpa using hm
  exact (show Tryd.prog.wantsStandIn 37 = false by kernel_rfl)
/-- The card. -/
theorem card : Rows.InflateNilCardSaid :=
  Claim7.holds_tied_plain_at .later [] _ _ _ _ said (fun _ h => by cases h) (by kernel_rfl) (fun _ h => by cases h) inflateNil_row_tie rfl ⟨rfl, rfl⟩ (by kernel_rfl) rfl plain (by kernel_rfl)
#print axioms card
end Go.Proofs.YtcblibefmclloaaDoor.inflateNil
