import Derived.Test.YtcblibefmclloaaDoorReadsF
import Derived.Test.YtcblibefmclloaaDoorReadsD
import Derived.Test.YtcblibefmclloaaDoorReadsB
import Derived.StillTailTactics
import Derived.RegionTactic
import Derived.BigQuiet
import Derived.BigRegion
import Derived.Test.YtcblibefmclloaaDoorReadsE
set_option linter.unusedVariables false
set_option linter.unusedSimpArgs false
namespace Go.Proofs.YtcblibefmclloaaDoor
open Go.RowKit
theorem headF_n {bs : List Int} {p : Nat} (h : (headF bs p).2.2.2 ≠ 0) : (headF bs p).2.2.1 = 0 := by
  unfold headF at h ⊢
  split
  · rfl
  split
  · rfl
  split
  · rfl
  split
  · rfl
  split
  · rfl
  · next h1 h2 h3 h4 h5 =>
    rw [if_neg h1, if_neg h2, if_neg h3, if_neg h4, if_neg h5] at h
    exact absurd rfl h
theorem stepsF_len (codes bs : List Int) (N : Int) (hN : 0 ≤ N) : ∀ f l q, (l.length : Int) ≤ N → ((stepsF codes bs N f l q).1.length : Int) ≤ N
  | 0, l, q, h => h
  | f + 1, l, q, h => by
    rw [stepsF]
    split
    · exact h
    split
    · simpa using hN
    split
    · simpa using hN
    split
    · simpa using hN
    · next l' haf => exact stepsF_len codes bs N hN f l' _ (addF_grows haf).2.1
theorem litF_le (bs : List Int) (p : Nat) : litF bs p ≤ 288 := by
  have := numB_lt bs p 5
  unfold litF
  have e : (2 : Int) ^ 5 = 32 := rfl
  omega
theorem distF_le (bs : List Int) (p : Nat) : distF bs p ≤ 32 := by
  have := numB_lt bs (p + 5) 5
  unfold distF
  have e : (2 : Int) ^ 5 = 32 := rfl
  omega
theorem headF_len (bs : List Int) (p : Nat) : (headF bs p).1.length ≤ 320 ∧ (headF bs p).2.1.length ≤ 320 := by
  have h := stepsF_len (codesH bs p) bs ((litF bs p + distF bs p : Nat) : Int) (Int.natCast_nonneg _) (litF bs p + distF bs p) [] (p + 14 + 3 * manyF bs p) (by simp; omega)
  have hr : ((readR bs p).1.length : Int) ≤ ((litF bs p + distF bs p : Nat) : Int) := h
  have h1 := litF_le bs p
  have h2 := distF_le bs p
  unfold headF
  split
  · simp
  split
  · simp
  split
  · simp
  split
  · simp
  split
  · simp
  · simp only [List.length_take, List.length_drop]; omega
theorem headF_n_le (bs : List Int) (p : Nat) (hp : p ≤ 8 * bs.length) : True := trivial
set_option maxRecDepth 100000 in
set_option maxHeartbeats 1000000 in
theorem lensRead_calls (w : World) (g : Nat) (A : Option Addr) (c : Nat) (bs : List Int) (p : Nat) (hT : Tabs w) (hg : gtop ≤ g) (hr : Rdr w g A c bs p) (ha : ∀ a, A = some a → a.block < w.heap.size) :
    Calls Tryd.prog 25 #[.pointer (some ⟨g, 0, none⟩)] w fun e w' => ∃ v1 v2, e = .returned (.tuple #[v1, v2, .int .i64 (headF bs p).2.2.2]) ∧ w'.ownsRow w.heap.size 3 1 v1 (headF bs p).1.length (ints .i64 (headF bs p).1) ∧
      w'.ownsRow w.heap.size 3 1 v2 (headF bs p).2.1.length (ints .i64 (headF bs p).2.1) ∧ Rdr w' g A c bs (p + (headF bs p).2.2.1) ∧ Keeps [g] w w' := by
  have HR := Lib.hid hr
  have HT := Lib.hid hT
  have hsz := hr.size
  clear hr hT
  go_enter Tryd.func25, Tryd.ntmps25
  go_wp2_with fail
  refine (gone_calls _ _ _ _ _ _ HR.out).mono ?_
  rintro r w1 ⟨rfl, hd⟩
  have hk1 := hd.keeps (S := [])
  have H1 := Lib.hid (HR.out.dr hk1)
  have T1 := Lib.hid (HT.out.keeps hk1 (by simp))
  have K1 := Lib.hid (hd.keeps (S := [g]))
  have HA1 : Hid (∀ a, A = some a → a.block < w1.heap.size) := Lib.hid (fun a h => Nat.lt_of_lt_of_le (ha a h) hk1.size)
  have S1 : Hid (w.heap.size ≤ w1.heap.size) := Lib.hid hk1.size
  clear hd HR HT ha hk1
  go_wp2_with fail
  refine (read_calls _ _ _ _ _ _ T1.out hg H1.out HA1.out).mono ?_
  rintro _ w2 ⟨v1, v2, q, rfl, ho1, ho2, hr2, hpq, hq, hk2⟩
  have HO1 := Lib.hid (ho1.mono S1.out)
  have HO2 := Lib.hid (ho2.mono S1.out)
  have H2 := Lib.hid hr2
  have K2 := Lib.hid (K1.out.trans hk2)
  have HGW : Hid (g < w1.heap.size) := Lib.hid H1.out.lt
  have HOW1 := Lib.hid ho1
  have HOW2 := Lib.hid ho2
  have hqT := hr2.le
  clear ho1 ho2 hr2 hk2 H1 K1 T1 HA1
  by_cases her : (headF bs p).2.2.2 = 0
  · have HQ := Lib.hid (hq her)
    have e1 : ((headF bs p).2.2.2 != 0) = false := by simp [her]
    have HER := Lib.hid her
    clear hq
    obtain ⟨A1, c1, rfl⟩ := own_form' HO1.out
    obtain ⟨A2, c2, rfl⟩ := own_form' HO2.out
    go_wp2_with fail
    go_ret3
    exact ⟨_, _, by first | rfl | (rw [HER.out]; rfl), HO1.out, HO2.out, by rw [← HQ.out]; exact H2.out, K2.out⟩
  · have HN := Lib.hid (headF_n her)
    have e1 : ((headF bs p).2.2.2 != 0) = true := by simpa using her
    obtain ⟨A1, c1, rfl⟩ := own_form' HO1.out
    obtain ⟨A2, c2, rfl⟩ := own_form' HO2.out
    clear hq
    generalize hE : (headF bs p).2.2.2 = er at *
    go_wp2_with fail
    refine (gone_calls _ _ _ _ _ _ H2.out).mono ?_
    rintro r w3 ⟨rfl, hd⟩
    have H3 := Lib.hid (H2.out.dr hd.keeps)
    have K3 := Lib.hid (K2.out.trans (hd.keeps (S := [g])))
    have O1 := Lib.hid (own_keeps HOW1.out (hd.keeps (S := [])) (by simp))
    have O2 := Lib.hid (own_keeps HOW2.out (hd.keeps (S := [])) (by simp))
    have e2 : IntKind.i64.wrap ((q : Int) - (p : Int)) = ((q - p : Nat) : Int) := by rw [show (q : Int) - (p : Int) = ((q - p : Nat) : Int) by omega]; exact IntWalk.i64_in _ (by omega)
    clear hd H2 K2 HO1 HO2 HOW1 HOW2
    go_wp2_with fail
    refine (back_calls' _ _ _ _ _ q (q - p) _ (by first | rfl | omega) H3.out (by omega)).mono ?_
    rintro r w4 ⟨rfl, h4, k4⟩
    have H4 := Lib.hid h4
    have K4 := Lib.hid (K3.out.trans k4)
    have P1 := Lib.hid (own_keeps O1.out k4 (fun x hx hm => by have := (O1.out.lt x hx).1; rw [List.mem_singleton.1 hm] at this; have := HGW.out; omega))
    have P2 := Lib.hid (own_keeps O2.out k4 (fun x hx hm => by have := (O2.out.lt x hx).1; rw [List.mem_singleton.1 hm] at this; have := HGW.out; omega))
    clear h4 k4 H3 K3 O1 O2
    go_wp2_with fail
    go_ret3
    refine ⟨_, _, by rw [hE]; rfl, P1.out.mono S1.out, P2.out.mono S1.out, ?_, K4.out⟩
    rw [HN.out]
    have := H4.out
    rwa [show q - (q - p) = p + 0 by omega] at this
end Go.Proofs.YtcblibefmclloaaDoor

set_option linter.unusedVariables false
set_option linter.unusedSimpArgs false
namespace Go.Proofs.YtcblibefmclloaaDoor
open Go.RowKit
theorem numB_cons (bs : List Int) (p m : Nat) : numB bs p (m + 1) = 2 * numB bs (p + 1) m + bitAt bs p := by
  rw [Nat.add_comm m 1, numB_add bs p 1 m]
  simp [numB]; omega
set_option maxRecDepth 100000 in
set_option maxHeartbeats 1000000 in
theorem number_calls (w : World) (B : Option Addr) (M c : Nat) (bs : List Int) (p n : Nat) (hb : RI .u8 w B M (bitsP bs M)) (hn : n ≤ 32) (hf : p + n ≤ M) (hM : M ≤ 100000000) :
    Calls Tryd.prog 83 #[.slice B M c, .int .i64 p, .int .i64 n] w fun e w' => e = .returned (.int .u32 (numB bs p n)) ∧ Dr w w' := by
  have HB := Lib.hid hb
  clear hb
  go_enter Tryd.func83, Tryd.ntmps83
  go_wp2_with fail
  go_loopw [7, 8] (fun vv iv wr => ∃ K : Nat, K ≤ n ∧ iv = .int .i64 ((K : Int) - 1) ∧ vv = .int .u32 (numB bs (p + K) (n - K)) ∧ Hid (Dr w wr)) (fun _ iv _ => (intOf iv + 1).toNat)
  case atStart => exact ⟨n, by omega, by go_num, by rw [Nat.sub_self]; rfl, Lib.hid ⟨0, rfl⟩⟩
  case round =>
    obtain ⟨K, hK, rfl, rfl, HD⟩ := hrel
    obtain ⟨q, rfl⟩ := HD.out
    clear HD
    by_cases hk : 0 < K
    · obtain ⟨k, rfl⟩ : ∃ k, K = k + 1 := ⟨K - 1, by omega⟩
      have hk1 : ((k + 1 : Nat) : Int) - 1 = k := by omega
      rw [hk1]
      clear hk1
      have e0 : decide (0 ≤ (k : Int)) = true := by simp
      obtain ⟨b, o, rfl, hc⟩ := HB.out.at (j := p + k) (by omega)
      rw [bitsP_nth _ _ _ (by omega)] at hc
      have HN : Hid (numB bs (p + k) (n - k) = 2 * numB bs (p + (k + 1)) (n - (k + 1)) + bitAt bs (p + k)) := Lib.hid (by
        rw [show n - k = (n - (k + 1)) + 1 by omega, numB_cons]; rfl)
      obtain ⟨b0, b1⟩ := bitAt_le bs (p + k)
      obtain ⟨n0, n1⟩ := numB_lt bs (p + k) (n - k)
      have n2 := pow32 (n - k) (by omega)
      obtain ⟨m0, m1⟩ := numB_lt bs (p + (k + 1)) (n - (k + 1))
      rw [HN.out] at n1
      have HN2 := Lib.hid HN.out.symm
      clear n0 HN
      have n3 : 2 * numB bs (p + (k + 1)) (n - (k + 1)) + bitAt bs (p + k) < 4294967296 := by omega
      clear n1 n2 m1
      generalize numB bs (p + (k + 1)) (n - (k + 1)) = v at *
      generalize bitAt bs (p + k) = z at *
      go_wp2_with fail
      go_roundw
      case rel => exact ⟨k, by omega, by go_num, by rw [← HN2.out], Lib.hid ⟨_, rfl⟩⟩
      case measure => simp [intOf]
    · obtain rfl : K = 0 := by omega
      have e0 : decide (0 ≤ ((0 : Nat) : Int) - 1) = false := by simp
      go_wp2_with fail
      go_ret
      exact ⟨rfl, _, rfl⟩
end Go.Proofs.YtcblibefmclloaaDoor

set_option linter.unusedVariables false
set_option linter.unusedSimpArgs false
namespace Go.Proofs.YtcblibefmclloaaDoor
open Go.RowKit
/-- The reference's head under way. -/
def HB (w : World) (gh : Nat) (B : Option Addr) (M c at' : Nat) (E : Int) : Prop := Blk w gh 86 [.slice B M c, .int .i64 at', .int .i64 E]
theorem HB.keeps {S : List Nat} {w w' : World} {gh : Nat} {B : Option Addr} {M c a : Nat} {E : Int} (h : HB w gh B M c a E) (hk : Keeps S w w') (hg : gh ∉ S) : HB w' gh B M c a E := Blk.keeps h hk hg
set_option maxRecDepth 100000 in
set_option maxHeartbeats 1000000 in
theorem htake_bad (w : World) (gh : Nat) (B : Option Addr) (M c p n : Nat) (E : Int) (hb : HB w gh B M c p E) (hE : E ≠ 0) :
    Calls Tryd.prog 60 #[.pointer (some ⟨gh, 0, none⟩), .int .i64 n] w fun e w' => e = .returned (.int .i64 0) ∧ HB w' gh B M c p E ∧ Keeps [] w w' := by
  have h2 := Blk.cell hb 2
  simp only [List.getElem?_cons_zero, List.getElem?_cons_succ] at h2
  have e1 : (E != 0) = true := by simpa using hE
  have e2 : (E == 0) = false := by simpa using hE
  have HH := Lib.hid hb
  clear hb
  go_enter Tryd.func60, Tryd.ntmps60
  go_wp2_with fail
  go_quiet (fail)
  go_wp2_with fail
  go_ret
  exact ⟨rfl, HB.keeps HH.out ((Keeps.refl [] w).drewN _) (by simp), (Keeps.refl [] w).drewN _⟩
set_option maxRecDepth 100000 in
set_option maxHeartbeats 1000000 in
theorem htake_end (w : World) (gh : Nat) (B : Option Addr) (M c p n : Nat) (hb : HB w gh B M c p 0) (hf : M < p + n) (hn : n ≤ 32) (hp : p ≤ M) (hM : M ≤ 100000000) :
    Calls Tryd.prog 60 #[.pointer (some ⟨gh, 0, none⟩), .int .i64 n] w fun e w' => e = .returned (.int .i64 0) ∧ HB w' gh B M c p 10 ∧ Keeps [gh] w w' := by
  have h0 := Blk.cell hb 0
  have h1 := Blk.cell hb 1
  have h2 := Blk.cell hb 2
  simp only [List.getElem?_cons_zero, List.getElem?_cons_succ] at h0 h1 h2
  have f2 := Blk.frozen hb 2
  have e3 : decide ((M : Int) - (p : Int) < (n : Int)) = true := by simp; omega
  have s1 : IntKind.i64.wrap ((M : Int) - (p : Int)) = (M : Int) - (p : Int) := IntWalk.i64_in _ (by omega)
  have HH := Lib.hid hb
  clear hb
  go_enter Tryd.func60, Tryd.ntmps60
  go_wp2_with fail
  go_quiet (fail)
  go_wp2_with fail
  go_ret
  refine ⟨rfl, ?_, ((Keeps.refl [gh] w).drewN _).setCell (Or.inl (by simp)) _⟩
  exact Blk.set (Blk.keeps HH.out ((Keeps.refl [] w).drewN _) (by simp)) 2 (.int .i64 10)
set_option maxRecDepth 100000 in
set_option maxHeartbeats 1000000 in
theorem htake_ok (w : World) (gh : Nat) (B : Option Addr) (M c p n : Nat) (bs : List Int) (hb : HB w gh B M c p 0) (hr : RI .u8 w B M (bitsP bs M)) (hf : p + n ≤ M) (hn : n ≤ 31) (hM : M ≤ 100000000) :
    Calls Tryd.prog 60 #[.pointer (some ⟨gh, 0, none⟩), .int .i64 n] w fun e w' => e = .returned (.int .i64 (numB bs p n)) ∧ HB w' gh B M c (p + n) 0 ∧ Keeps [gh] w w' := by
  have h0 := Blk.cell hb 0
  have h1 := Blk.cell hb 1
  have h2 := Blk.cell hb 2
  simp only [List.getElem?_cons_zero, List.getElem?_cons_succ] at h0 h1 h2
  have e3 : decide ((M : Int) - (p : Int) < (n : Int)) = false := by simp; omega
  have s1 : IntKind.i64.wrap ((M : Int) - (p : Int)) = (M : Int) - (p : Int) := IntWalk.i64_in _ (by omega)
  have HH := Lib.hid hb
  have HR := Lib.hid hr
  clear hb hr
  go_enter Tryd.func60, Tryd.ntmps60
  go_wp2_with fail
  go_quiet (fail)
  go_wp2_with fail
  obtain ⟨w1, hw1⟩ : ∃ w1 : World, w1 = w.drewN nq := ⟨_, rfl⟩
  have hk1 : Keeps [] w w1 := by rw [hw1]; exact (Keeps.refl [] w).drewN _
  rw [← hw1]
  clear hw1
  have HH1 := Lib.hid (HB.keeps HH.out hk1 (by simp))
  have HR1 := Lib.hid (HR.out.keeps hk1 (off_nil _))
  have h0 := Blk.cell HH1.out 0
  have h1 := Blk.cell HH1.out 1
  simp only [List.getElem?_cons_zero, List.getElem?_cons_succ] at h0 h1
  go_still_tail 9, (by kernel_rfl)
  change wpList _ _ _ _ _ w1.drew
  have hk2 := (Keeps.refl [] w1).drew
  have HH2 := Lib.hid (HB.keeps HH1.out hk2 (by simp))
  have HR2 := Lib.hid (HR1.out.keeps hk2 (off_nil _))
  have HK2 := Lib.hid (hk1.trans hk2)
  clear hk1 hk2 h0 h1 HH HR HH1 HR1
  go_wp2_with fail
  refine (number_calls _ _ _ _ bs p n HR2.out (by omega) hf hM).mono ?_
  rintro _ w3 ⟨rfl, hd3⟩
  have HH3 := Lib.hid (HB.keeps HH2.out (hd3.keeps (S := [])) (by simp))
  have HK3 := Lib.hid (HK2.out.trans (hd3.keeps (S := [])))
  have g1 := Blk.cell HH3.out 1
  simp only [List.getElem?_cons_zero, List.getElem?_cons_succ] at g1
  have f1 := Blk.frozen HH3.out 1
  obtain ⟨n0, n1⟩ := numB_lt bs p n
  have n2 := pow32 n (by omega)
  have e5 : IntKind.i64.wrap (numB bs p n) = numB bs p n := IntWalk.i64_in _ (by omega)
  have e6 : IntKind.i64.wrap ((p : Int) + n) = (p : Int) + n := IntWalk.i64_in _ (by omega)
  clear hd3 HH2 HK2 HR2
  go_wp2_with fail
  go_ret
  refine ⟨rfl, ?_, (HK3.out.mono (by simp)).setCell (Or.inl (by simp)) _⟩
  exact Blk.set HH3.out 1 (.int .i64 ((p + n : Nat) : Int))
end Go.Proofs.YtcblibefmclloaaDoor

set_option linter.unusedVariables false
set_option linter.unusedSimpArgs false
namespace Go.Proofs.YtcblibefmclloaaDoor
open Go.RowKit
/-- What reading by rows is to give. -/
def Next3 (w : World) (r : Int × Nat × Int) (e : Ending) (w' : World) : Prop :=
  e = .returned (.tuple #[.int .i64 r.1, .int .i64 (r.2.1 : Nat), .int .i64 r.2.2]) ∧ Dr w w'
theorem next3 {w w' : World} {r : Int × Nat × Int} {s e k : Int} {n : Nat} (hr : r = (s, n, e)) (hk : k = n) (h : Dr w w') : Next3 w r (.returned (.tuple #[.int .i64 s, .int .i64 k, .int .i64 e])) w' := by
  subst hr; subst hk; exact ⟨rfl, h⟩
set_option maxRecDepth 100000 in
set_option maxHeartbeats 1000000 in
theorem refNext_calls (w : World) (g n : Nat) (rs : List (List Int)) (B : Option Addr) (m c : Nat) (bl : List Int) (p : Nat) (hB : RB w g n rs) (hb : RI .u8 w B m bl) (hp : p ≤ m) (hm : m ≤ 100000000) (hn : n ≤ 288) (hrow : ∀ j, (rth rs j).length ≤ 15) :
    Calls Tryd.prog 87 #[.slice (some ⟨g, 0, none⟩) n n, .slice B m c, .int .i64 p] w (Next3 w (nextR rs bl p)) := by
  have HB := Lib.hid hB
  have HBL := Lib.hid hb
  have HLL := Lib.hid hb.len
  have HRL := Lib.hid hB.len
  have HRW := Lib.hid hrow
  clear hB hb hrow
  go_enter Tryd.func87, Tryd.ntmps87
  go_wp2_with fail
  go_loopw [9, 10] (fun bv iv wr => ∃ (b : Bool) (i : Nat), i ≤ n ∧ bv = .bool b ∧ iv = .int .i64 i ∧ Hid (nextR rs bl p = nextG rs bl p (n - i) i b) ∧ Hid (Dr w wr)) (fun _ iv _ => n - (intOf iv).toNat)
  case atStart => exact ⟨false, 0, by omega, rfl, rfl, Lib.hid (by rw [Nat.sub_zero]; unfold nextR; rw [HRL.out]), Lib.hid ⟨0, rfl⟩⟩
  case round =>
    obtain ⟨b, i, hi, rfl, rfl, HR, HD⟩ := hrel
    obtain ⟨q, rfl⟩ := HD.out
    clear HD
    by_cases hlt : i < n
    · obtain ⟨A', c', hcr, hri, hra⟩ := HB.out.at hlt
      have e0 : decide ((i : Int) < (n : Int)) = true := by simpa using hlt
      have HST : Hid (nextG rs bl p (n - i) i b = if (rth rs i).length = 0 then nextG rs bl p (n - (i + 1)) (i + 1) b else
          if agrN (rth rs i) bl p = (rth rs i).length then ((i : Int), (rth rs i).length, 0)
          else nextG rs bl p (n - (i + 1)) (i + 1) (b || decide (p + agrN (rth rs i) bl p = bl.length))) := by
        show _ = _
        rw [show n - i = (n - (i + 1)) + 1 by omega, nextG]
      have hk15 := HRW.out i
      obtain ⟨K, hK⟩ : ∃ K, K = (rth rs i).length := ⟨_, rfl⟩
      rw [← hK] at hcr hri hk15
      have HK := Lib.hid hK
      have HRI := Lib.hid hri
      clear hK hri hra
      by_cases hz : K = 0
      · have e1 : ((K : Int) == 0) = true := by simpa using hz
        have HN : Hid (nextR rs bl p = nextG rs bl p (n - (i + 1)) (i + 1) b) := by
          show _ = _
          rw [HR.out, HST.out, if_pos (by rw [← HK.out]; exact hz)]
        clear HST HR
        go_wp2_with fail
        go_roundw
        case rel => exact ⟨b, i + 1, by omega, rfl, by go_num, HN, Lib.hid ⟨_, rfl⟩⟩
        case measure => simp [intOf]; omega
      · have e1 : ((K : Int) == 0) = false := by simpa using hz
        have HN : Hid (nextR rs bl p = if agrN (rth rs i) bl p = K then ((i : Int), K, 0)
          else nextG rs bl p (n - (i + 1)) (i + 1) (b || decide (p + agrN (rth rs i) bl p = bl.length))) := by
          show _ = _
          rw [HR.out, HST.out, if_neg (by rw [← HK.out]; exact hz), HK.out]
        have HAG0 : Hid (agrN (rth rs i) bl p = agr (rth rs i) bl p (K - 0) 0) := by
          show _ = _
          rw [Nat.sub_zero]; unfold agrN; rw [HK.out]
        clear HST HR
        go_wp2_with fail
        go_loopw [11] (fun nv wx => ∃ t : Nat, t ≤ K ∧ nv = .int .i64 t ∧ p + t ≤ m ∧ Hid (agrN (rth rs i) bl p = agr (rth rs i) bl p (K - t) t) ∧ Hid (Dr w wx)) (fun nv _ => K - (intOf nv).toNat)
        case atStart => exact ⟨0, by omega, rfl, by omega, HAG0, Lib.hid ⟨_, rfl⟩⟩
        case round =>
          clear HAG0
          obtain ⟨t, ht, rfl, hpt, HAG, HD⟩ := hrel
          obtain ⟨q2, rfl⟩ := HD.out
          clear HD
          by_cases htk : t < K
          · have e2 : decide ((t : Int) < (K : Int)) = true := by simpa using htk
            have e5 : ((t : Int) == (K : Int)) = false := by simp; omega
            by_cases hpm : p + t < m
            · have e3 : decide ((p : Int) + (t : Int) < (m : Int)) = true := by simp; omega
              have e6 : ((p : Int) + (t : Int) == (m : Int)) = false := by simp; omega
              obtain ⟨rb, ro, rfl, hc1⟩ := HRI.out.at htk
              obtain ⟨bb, bo, rfl, hc2⟩ := HBL.out.at hpm
              by_cases heq : nth (rth rs i) t = nth bl (p + t)
              · have e4 : (nth (rth rs i) t == nth bl (p + t)) = true := by simpa using heq
                have HAG2 : Hid (agrN (rth rs i) bl p = agr (rth rs i) bl p (K - (t + 1)) (t + 1)) := by
                  show _ = _
                  rw [HAG.out, show K - t = (K - (t + 1)) + 1 by omega, agr, if_pos ⟨by rw [← HK.out]; exact htk, by rw [HLL.out]; exact hpm, heq⟩]
                clear HAG
                generalize nth (rth rs i) t = x at *
                generalize nth bl (p + t) = y at *
                go_wp2_with fail
                go_quiet (fail)
                go_wp2_with fail
                go_roundw
                case rel => exact ⟨t + 1, by omega, by go_num, by omega, HAG2, Lib.hid ⟨_, rfl⟩⟩
                case measure => simp [intOf]; omega
              · have e4 : (nth (rth rs i) t == nth bl (p + t)) = false := by simpa using heq
                have HN2 : Hid (nextR rs bl p = nextG rs bl p (n - (i + 1)) (i + 1) b) := by
                  show _ = _
                  have ha : agrN (rth rs i) bl p = t := by rw [HAG.out, show K - t = (K - (t + 1)) + 1 by omega, agr, if_neg (fun h => heq h.2.2)]
                  rw [HN.out, ha, if_neg (by omega), decide_eq_false (by rw [HLL.out]; omega), Bool.or_false]
                clear HAG HN
                generalize nth (rth rs i) t = x at *
                generalize nth bl (p + t) = y at *
                cases b
                · go_wp2_with fail
                  go_quiet (fail)
                  go_wp2_with fail
                  go_roundw
                  case rel => exact ⟨false, i + 1, by omega, rfl, by go_num, HN2, Lib.hid ⟨_, rfl⟩⟩
                  case measure => simp [intOf]; omega
                · go_wp2_with fail
                  go_quiet (fail)
                  go_wp2_with fail
                  go_roundw
                  case rel => exact ⟨true, i + 1, by omega, rfl, by go_num, HN2, Lib.hid ⟨_, rfl⟩⟩
                  case measure => simp [intOf]; omega
            · have e3 : decide ((p : Int) + (t : Int) < (m : Int)) = false := by simp; omega
              have e6 : ((p : Int) + (t : Int) == (m : Int)) = true := by simp; omega
              have HN2 : Hid (nextR rs bl p = nextG rs bl p (n - (i + 1)) (i + 1) true) := by
                show _ = _
                have ha : agrN (rth rs i) bl p = t := by rw [HAG.out, show K - t = (K - (t + 1)) + 1 by omega, agr, if_neg (fun h => by have := h.2.1; rw [HLL.out] at this; omega)]
                rw [HN.out, ha, if_neg (by omega), decide_eq_true (by rw [HLL.out]; omega), Bool.or_true]
              clear HAG HN
              cases b
              · go_wp2_with fail
                go_quiet (fail)
                go_wp2_with fail
                go_roundw
                case rel => exact ⟨true, i + 1, by omega, rfl, by go_num, HN2, Lib.hid ⟨_, rfl⟩⟩
                case measure => simp [intOf]; omega
              · go_wp2_with fail
                go_quiet (fail)
                go_wp2_with fail
                go_roundw
                case rel => exact ⟨true, i + 1, by omega, rfl, by go_num, HN2, Lib.hid ⟨_, rfl⟩⟩
                case measure => simp [intOf]; omega
          · obtain rfl : t = K := by omega
            have e2 : decide ((t : Int) < (t : Int)) = false := by simp
            have e5 : ((t : Int) == (t : Int)) = true := by simp
            have HN2 : Hid (nextR rs bl p = ((i : Int), t, 0)) := by
              show _ = _
              rw [HN.out, HAG.out, Nat.sub_self, agr, if_pos rfl]
            clear HAG HN
            go_wp2_with fail
            go_quiet (fail)
            go_wp2_with fail
            go_ret3
            exact next3 HN2.out rfl ⟨_, rfl⟩
    · obtain rfl : i = n := by omega
      have e0 : decide ((i : Int) < (i : Int)) = false := by simp
      have HN : Hid (nextR rs bl p = (0, 0, if b then 10 else 32)) := by show _ = _; rw [HR.out, Nat.sub_self, nextG]
      cases b
      · go_wp2_with fail
        go_ret3
        exact next3 HN.out rfl ⟨_, rfl⟩
      · go_wp2_with fail
        go_ret3
        exact next3 HN.out rfl ⟨_, rfl⟩
end Go.Proofs.YtcblibefmclloaaDoor

set_option linter.unusedVariables false
set_option linter.unusedSimpArgs false
namespace Go.Proofs.YtcblibefmclloaaDoor
open Go.RowKit
/-- What reading one step is to give. -/
def Stepped (w : World) (gh : Nat) (B : Option Addr) (M c p : Nat) (bs codes : List Int) (e : Ending) (w' : World) : Prop :=
  ∃ (sy ex : Int) (q : Nat) (E : Int), e = .returned (.agg #[.int .i64 sy, .int .i64 ex]) ∧ HB w' gh B M c q E ∧ Keeps [gh] w w' ∧
    ((decF codes bs p).2.1 ≠ 0 → E = (decF codes bs p).2.1) ∧
    ((decF codes bs p).2.1 = 0 → if M < p + (decF codes bs p).2.2 + wN (decF codes bs p).1 then E = 10
      else E = 0 ∧ sy = (decF codes bs p).1 ∧ ex = numB bs (p + (decF codes bs p).2.2) (wN (decF codes bs p).1) ∧ q = p + (decF codes bs p).2.2 + wN (decF codes bs p).1)
set_option maxRecDepth 100000 in
set_option maxHeartbeats 1000000 in
theorem step_calls (w : World) (gh gr : Nat) (B : Option Addr) (M c p : Nat) (bs codes : List Int) (hM : M = 8 * bs.length) (hb : HB w gh B M c p 0) (hr : RI .u8 w B M (bitsP bs M)) (hrow : RB w gr 19 (rowsF codes))
    (hck : checkF codes = 0) (hlen : codes.length = 19) (hsh : ∀ j, (rth (rowsF codes) j).length ≤ 15) (hp : p ≤ M) (hMb : M ≤ 100000000) (hgB : Off [gh] B) (hgr : ∀ x ∈ [gh], x < gr ∨ w.heap.size ≤ x) :
    Calls Tryd.prog 63 #[.pointer (some ⟨gh, 0, none⟩), .slice (some ⟨gr, 0, none⟩) 19 19] w (Stepped w gh B M c p bs codes) := by
  have hns := next_same hck bs p (by omega)
  rw [← hM] at hns
  have hbd := dec_bd codes bs p (by omega)
  rw [hlen, ← hM] at hbd
  have HH := Lib.hid hb
  have HR := Lib.hid hr
  have HRB := Lib.hid hrow
  have HSH := Lib.hid hsh
  have HNS := Lib.hid hns
  have HBD := Lib.hid hbd
  have hlt := Blk.lt hb
  clear hb hr hrow hsh hck hlen hns hbd hM
  obtain ⟨w0, hw0⟩ : ∃ w0, w0 = w.alloc (.cells #[.int .i64 0, .int .i64 0] 31) := ⟨_, rfl⟩
  have hk0 : Keeps [] w w0 := by rw [hw0]; exact (Keeps.refl [] w).alloc _
  obtain ⟨gs, hgs⟩ : ∃ gs, gs = w.heap.size := ⟨_, rfl⟩
  have HS0 : Hid (Blk w0 gs 31 [.int .i64 0, .int .i64 0]) := by rw [hw0, hgs]; exact Lib.hid (blk_new w 31 [.int .i64 0, .int .i64 0])
  have HH0 := Lib.hid (HB.keeps HH.out hk0 (by simp))
  have HR0 := Lib.hid (HR.out.keeps hk0 (off_nil _))
  have HRB0 := Lib.hid (HRB.out.keeps hk0 (by simp))
  have HK0 := Lib.hid hk0
  have h0 := Blk.cell HH0.out 0
  have h1 := Blk.cell HH0.out 1
  simp only [List.getElem?_cons_zero, List.getElem?_cons_succ] at h0 h1
  go_enter Tryd.func63, Tryd.ntmps63
  go_upto_region 1 with (fail)
  rw [← hw0, ← hgs]
  have hcl : ∀ q, Calls Tryd.prog 87 #[.slice (some ⟨gr, 0, none⟩) 19 19, .slice B M c, .int .i64 p] (w0.drewN q) fun e w' => e = .returned (.tuple #[.int .i64 (decF codes bs p).1, .int .i64 ((decF codes bs p).2.2 : Nat), .int .i64 (decF codes bs p).2.1]) ∧ ∃ m, w' = (w0.drewN q).drewN m := fun q => by
    have h := refNext_calls (w0.drewN q) gr 19 (rowsF codes) B M c (bitsP bs M) p (HRB0.out.keeps ((Keeps.refl [] w0).drewN q) (by simp)) (HR0.out.keeps ((Keeps.refl [] w0).drewN q) (off_nil _)) hp hMb (by omega) HSH.out
    rw [HNS.out] at h
    exact h
  have HCL := Lib.hid hcl
  clear hw0 hk0 HH HR HRB hcl
  generalize hdd : decF codes bs p = d at *
  obtain ⟨sy, er, k⟩ := d
  simp only [] at HBD
  go_quiet (first | (go_at_call 87; exact Calls.quiet_of (HCL.out _)))
  obtain ⟨w2, hw2⟩ : ∃ w2 : World, w2 = w0.drewN nq := ⟨_, rfl⟩
  have hk2 : Keeps [] w0 w2 := by rw [hw2]; exact (Keeps.refl [] w0).drewN _
  rw [← hw2]
  clear hw2
  have HH2 := Lib.hid (HB.keeps HH0.out hk2 (by simp))
  have HR2 := Lib.hid (HR0.out.keeps hk2 (off_nil _))
  have HS2 := Lib.hid (HS0.out.keeps hk2 (by simp))
  have HK2 := Lib.hid (HK0.out.trans hk2)
  have HGS : Hid (gh < gs) := Lib.hid (by rw [hgs]; exact hlt)
  have HGW : Hid (w.heap.size ≤ gs) := Lib.hid (by omega)
  clear hk2 h0 h1 HH0 HR0 HRB0 HS0 HK0 HNS HSH HCL hgs hlt hgr
  have h1 := Blk.cell HH2.out 1
  have h2 := Blk.cell HH2.out 2
  simp only [List.getElem?_cons_zero, List.getElem?_cons_succ] at h1 h2
  have f1 := Blk.frozen HH2.out 1
  have f2 := Blk.frozen HH2.out 2
  have k0 := Blk.cell HS2.out 0
  have k1 := Blk.cell HS2.out 1
  simp only [List.getElem?_cons_zero, List.getElem?_cons_succ] at k0 k1
  have j0 := Blk.frozen HS2.out 0
  have j1 := Blk.frozen HS2.out 1
  have hne : gh ≠ gs := by have := HGS.out; omega
  have hne' : gs ≠ gh := Ne.symm hne
  by_cases her : er = 0
  · obtain ⟨j, rfl, hj, hpk⟩ : ∃ j : Nat, sy = j ∧ j < 19 ∧ p + k ≤ M := by
      rcases HBD.out with ⟨_, h⟩ | ⟨h, _⟩
      · exact h
      · exact absurd her h
    subst her
    obtain ⟨w3, hw3⟩ : ∃ w3 : World, w3 = w2.setCell ⟨gh, 1, none⟩ (.int .i64 ((p : Int) + k)) := ⟨_, rfl⟩
    have hk3 : Keeps [gh] w2 w3 := by rw [hw3]; exact (Keeps.refl [gh] w2).setCell (p := ⟨gh, 1, none⟩) (Or.inl (by simp)) _
    have HH3 : Hid (HB w3 gh B M c (p + k) 0) := Lib.hid (by rw [hw3]; exact Blk.set HH2.out 1 (.int .i64 ((p + k : Nat) : Int)))
    have HS3 := Lib.hid (HS2.out.keeps hk3 (by simpa using hne'))
    have HR3 := Lib.hid (HR2.out.keeps hk3 hgB)
    have HK3 : Hid (Keeps [gh] w w3) := Lib.hid ((HK2.out.mono (by simp) : Keeps [gh] w w2).trans hk3)
    have e1 : IntKind.i64.wrap ((p : Int) + k) = (p : Int) + k := IntWalk.i64_in _ (by omega)
    clear hk3 HH2 HS2 HR2 HK2 HBD
    rcases (by omega : j < 16 ∨ j = 16 ∨ j = 17 ∨ j = 18) with hj16 | rfl | rfl | rfl
    · have q1 : ((j : Int) == 16) = false := by simp; omega
      have q2 : ((j : Int) == 17) = false := by simp; omega
      have q3 : ((j : Int) == 18) = false := by simp; omega
      have hw : wN (j : Int) = 0 := by unfold wN; rw [if_neg (by omega), if_neg (by omega), if_neg (by omega)]
      subst hw3
      go_wp2_with fail
      have hS := (HS3.out.set 0 (.int .i64 (j : Int))).set 1 (.int .i64 0)
      have hB := Blk.keeps HH3.out (((Keeps.refl [gs] _).setCell (p := ⟨gs, 0, none⟩) (Or.inl (by simp)) (.int .i64 (j : Int))).setCell (p := ⟨gs, 1, none⟩) (Or.inl (by simp)) (.int .i64 0)) (by simpa using hne)
      have hK := (HK3.out.setCell (p := ⟨gs, 0, none⟩) (Or.inr HGW.out) (.int .i64 (j : Int))).setCell (p := ⟨gs, 1, none⟩) (Or.inr HGW.out) (.int .i64 0)
      have c0 := Blk.cell hS 0
      have c1 := Blk.cell hS 1
      simp only [List.set_cons_zero, List.set_cons_succ, List.getElem?_cons_zero, List.getElem?_cons_succ] at c0 c1
      refine bodyPost_ret (v := .agg #[.int .i64 (j : Int), .int .i64 0]) (by simp [results, Tryd.results63, go_sem, c0, c1]) rfl ⟨(j : Int), 0, (p + k), 0, rfl, hB, hK, fun h => absurd (by rw [hdd]) h, fun _ => ?_⟩
      rw [hdd]
      simp only []
      rw [hw, if_neg (by omega)]
      refine ⟨?_, ?_, ?_, ?_⟩ <;> first | rfl | trivial
    · have hw : wN (((16 : Nat) : Int)) = 2 := rfl
      by_cases hfit : p + k + 2 ≤ M
      · go_wp2_with fail
        rw [← hw3]
        refine (htake_ok _ _ _ _ _ _ 2 bs HH3.out HR3.out hfit (by omega) hMb).mono ?_
        rintro _ w4 ⟨rfl, hh4, hk4⟩
        have HH4 := Lib.hid hh4
        have HS4 := Lib.hid (HS3.out.keeps hk4 (by simpa using hne'))
        have HK4 := Lib.hid (HK3.out.trans hk4)
        clear hh4 hk4 HH3 HS3 HR3 HK3 hw3 h1 h2 f1 f2 k0 k1 j0 j1
        have k0 := Blk.cell HS4.out 0
        have k1 := Blk.cell HS4.out 1
        simp only [List.getElem?_cons_zero, List.getElem?_cons_succ] at k0 k1
        have j0 := Blk.frozen HS4.out 0
        have j1 := Blk.frozen HS4.out 1
        generalize hex : numB bs (p + k) 2 = ex at *
        go_wp2_with fail
        have hS := (HS4.out.set 0 (.int .i64 16)).set 1 (.int .i64 ex)
        have hB := Blk.keeps HH4.out (((Keeps.refl [gs] _).setCell (p := ⟨gs, 0, none⟩) (Or.inl (by simp)) (.int .i64 16)).setCell (p := ⟨gs, 1, none⟩) (Or.inl (by simp)) (.int .i64 ex)) (by simpa using hne)
        have hK := (HK4.out.setCell (p := ⟨gs, 0, none⟩) (Or.inr HGW.out) (.int .i64 16)).setCell (p := ⟨gs, 1, none⟩) (Or.inr HGW.out) (.int .i64 ex)
        have c0 := Blk.cell hS 0
        have c1 := Blk.cell hS 1
        simp only [List.set_cons_zero, List.set_cons_succ, List.getElem?_cons_zero, List.getElem?_cons_succ] at c0 c1
        refine bodyPost_ret (v := .agg #[.int .i64 16, .int .i64 ex]) (by simp [results, Tryd.results63, go_sem, c0, c1]) rfl ⟨16, ex, (p + k + 2), 0, rfl, hB, hK, fun h => absurd (by rw [hdd]) h, fun _ => ?_⟩
        rw [hdd]
        simp only []
        rw [hw, if_neg (by omega)]
        refine ⟨?_, ?_, ?_, ?_⟩ <;> first | rfl | trivial | exact hex.symm
      · go_wp2_with fail
        rw [← hw3]
        refine (htake_end _ _ _ _ _ _ 2 HH3.out (by omega) (by omega) hpk hMb).mono ?_
        rintro _ w4 ⟨rfl, hh4, hk4⟩
        have HH4 := Lib.hid hh4
        have HS4 := Lib.hid (HS3.out.keeps hk4 (by simpa using hne'))
        have HK4 := Lib.hid (HK3.out.trans hk4)
        clear hh4 hk4 HH3 HS3 HR3 HK3 hw3 h1 h2 f1 f2 k0 k1 j0 j1
        have k0 := Blk.cell HS4.out 0
        have k1 := Blk.cell HS4.out 1
        simp only [List.getElem?_cons_zero, List.getElem?_cons_succ] at k0 k1
        have j0 := Blk.frozen HS4.out 0
        have j1 := Blk.frozen HS4.out 1
        go_wp2_with fail
        have hS := (HS4.out.set 0 (.int .i64 16)).set 1 (.int .i64 0)
        have hB := Blk.keeps HH4.out (((Keeps.refl [gs] _).setCell (p := ⟨gs, 0, none⟩) (Or.inl (by simp)) (.int .i64 16)).setCell (p := ⟨gs, 1, none⟩) (Or.inl (by simp)) (.int .i64 0)) (by simpa using hne)
        have hK := (HK4.out.setCell (p := ⟨gs, 0, none⟩) (Or.inr HGW.out) (.int .i64 16)).setCell (p := ⟨gs, 1, none⟩) (Or.inr HGW.out) (.int .i64 0)
        have c0 := Blk.cell hS 0
        have c1 := Blk.cell hS 1
        simp only [List.set_cons_zero, List.set_cons_succ, List.getElem?_cons_zero, List.getElem?_cons_succ] at c0 c1
        refine bodyPost_ret (v := .agg #[.int .i64 16, .int .i64 0]) (by simp [results, Tryd.results63, go_sem, c0, c1]) rfl ⟨16, 0, (p + k), 10, rfl, hB, hK, fun h => absurd (by rw [hdd]) h, fun _ => ?_⟩
        rw [hdd]
        simp only []
        rw [hw, if_pos (by omega)]
        all_goals trivial
    · have hw : wN (((17 : Nat) : Int)) = 3 := rfl
      by_cases hfit : p + k + 3 ≤ M
      · go_wp2_with fail
        rw [← hw3]
        refine (htake_ok _ _ _ _ _ _ 3 bs HH3.out HR3.out hfit (by omega) hMb).mono ?_
        rintro _ w4 ⟨rfl, hh4, hk4⟩
        have HH4 := Lib.hid hh4
        have HS4 := Lib.hid (HS3.out.keeps hk4 (by simpa using hne'))
        have HK4 := Lib.hid (HK3.out.trans hk4)
        clear hh4 hk4 HH3 HS3 HR3 HK3 hw3 h1 h2 f1 f2 k0 k1 j0 j1
        have k0 := Blk.cell HS4.out 0
        have k1 := Blk.cell HS4.out 1
        simp only [List.getElem?_cons_zero, List.getElem?_cons_succ] at k0 k1
        have j0 := Blk.frozen HS4.out 0
        have j1 := Blk.frozen HS4.out 1
        generalize hex : numB bs (p + k) 3 = ex at *
        go_wp2_with fail
        have hS := (HS4.out.set 0 (.int .i64 17)).set 1 (.int .i64 ex)
        have hB := Blk.keeps HH4.out (((Keeps.refl [gs] _).setCell (p := ⟨gs, 0, none⟩) (Or.inl (by simp)) (.int .i64 17)).setCell (p := ⟨gs, 1, none⟩) (Or.inl (by simp)) (.int .i64 ex)) (by simpa using hne)
        have hK := (HK4.out.setCell (p := ⟨gs, 0, none⟩) (Or.inr HGW.out) (.int .i64 17)).setCell (p := ⟨gs, 1, none⟩) (Or.inr HGW.out) (.int .i64 ex)
        have c0 := Blk.cell hS 0
        have c1 := Blk.cell hS 1
        simp only [List.set_cons_zero, List.set_cons_succ, List.getElem?_cons_zero, List.getElem?_cons_succ] at c0 c1
        refine bodyPost_ret (v := .agg #[.int .i64 17, .int .i64 ex]) (by simp [results, Tryd.results63, go_sem, c0, c1]) rfl ⟨17, ex, (p + k + 3), 0, rfl, hB, hK, fun h => absurd (by rw [hdd]) h, fun _ => ?_⟩
        rw [hdd]
        simp only []
        rw [hw, if_neg (by omega)]
        refine ⟨?_, ?_, ?_, ?_⟩ <;> first | rfl | trivial | exact hex.symm
      · go_wp2_with fail
        rw [← hw3]
        refine (htake_end _ _ _ _ _ _ 3 HH3.out (by omega) (by omega) hpk hMb).mono ?_
        rintro _ w4 ⟨rfl, hh4, hk4⟩
        have HH4 := Lib.hid hh4
        have HS4 := Lib.hid (HS3.out.keeps hk4 (by simpa using hne'))
        have HK4 := Lib.hid (HK3.out.trans hk4)
        clear hh4 hk4 HH3 HS3 HR3 HK3 hw3 h1 h2 f1 f2 k0 k1 j0 j1
        have k0 := Blk.cell HS4.out 0
        have k1 := Blk.cell HS4.out 1
        simp only [List.getElem?_cons_zero, List.getElem?_cons_succ] at k0 k1
        have j0 := Blk.frozen HS4.out 0
        have j1 := Blk.frozen HS4.out 1
        go_wp2_with fail
        have hS := (HS4.out.set 0 (.int .i64 17)).set 1 (.int .i64 0)
        have hB := Blk.keeps HH4.out (((Keeps.refl [gs] _).setCell (p := ⟨gs, 0, none⟩) (Or.inl (by simp)) (.int .i64 17)).setCell (p := ⟨gs, 1, none⟩) (Or.inl (by simp)) (.int .i64 0)) (by simpa using hne)
        have hK := (HK4.out.setCell (p := ⟨gs, 0, none⟩) (Or.inr HGW.out) (.int .i64 17)).setCell (p := ⟨gs, 1, none⟩) (Or.inr HGW.out) (.int .i64 0)
        have c0 := Blk.cell hS 0
        have c1 := Blk.cell hS 1
        simp only [List.set_cons_zero, List.set_cons_succ, List.getElem?_cons_zero, List.getElem?_cons_succ] at c0 c1
        refine bodyPost_ret (v := .agg #[.int .i64 17, .int .i64 0]) (by simp [results, Tryd.results63, go_sem, c0, c1]) rfl ⟨17, 0, (p + k), 10, rfl, hB, hK, fun h => absurd (by rw [hdd]) h, fun _ => ?_⟩
        rw [hdd]
        simp only []
        rw [hw, if_pos (by omega)]
        all_goals trivial
    · have hw : wN (((18 : Nat) : Int)) = 7 := rfl
      by_cases hfit : p + k + 7 ≤ M
      · go_wp2_with fail
        rw [← hw3]
        refine (htake_ok _ _ _ _ _ _ 7 bs HH3.out HR3.out hfit (by omega) hMb).mono ?_
        rintro _ w4 ⟨rfl, hh4, hk4⟩
        have HH4 := Lib.hid hh4
        have HS4 := Lib.hid (HS3.out.keeps hk4 (by simpa using hne'))
        have HK4 := Lib.hid (HK3.out.trans hk4)
        clear hh4 hk4 HH3 HS3 HR3 HK3 hw3 h1 h2 f1 f2 k0 k1 j0 j1
        have k0 := Blk.cell HS4.out 0
        have k1 := Blk.cell HS4.out 1
        simp only [List.getElem?_cons_zero, List.getElem?_cons_succ] at k0 k1
        have j0 := Blk.frozen HS4.out 0
        have j1 := Blk.frozen HS4.out 1
        generalize hex : numB bs (p + k) 7 = ex at *
        go_wp2_with fail
        have hS := (HS4.out.set 0 (.int .i64 18)).set 1 (.int .i64 ex)
        have hB := Blk.keeps HH4.out (((Keeps.refl [gs] _).setCell (p := ⟨gs, 0, none⟩) (Or.inl (by simp)) (.int .i64 18)).setCell (p := ⟨gs, 1, none⟩) (Or.inl (by simp)) (.int .i64 ex)) (by simpa using hne)
        have hK := (HK4.out.setCell (p := ⟨gs, 0, none⟩) (Or.inr HGW.out) (.int .i64 18)).setCell (p := ⟨gs, 1, none⟩) (Or.inr HGW.out) (.int .i64 ex)
        have c0 := Blk.cell hS 0
        have c1 := Blk.cell hS 1
        simp only [List.set_cons_zero, List.set_cons_succ, List.getElem?_cons_zero, List.getElem?_cons_succ] at c0 c1
        refine bodyPost_ret (v := .agg #[.int .i64 18, .int .i64 ex]) (by simp [results, Tryd.results63, go_sem, c0, c1]) rfl ⟨18, ex, (p + k + 7), 0, rfl, hB, hK, fun h => absurd (by rw [hdd]) h, fun _ => ?_⟩
        rw [hdd]
        simp only []
        rw [hw, if_neg (by omega)]
        refine ⟨?_, ?_, ?_, ?_⟩ <;> first | rfl | trivial | exact hex.symm
      · go_wp2_with fail
        rw [← hw3]
        refine (htake_end _ _ _ _ _ _ 7 HH3.out (by omega) (by omega) hpk hMb).mono ?_
        rintro _ w4 ⟨rfl, hh4, hk4⟩
        have HH4 := Lib.hid hh4
        have HS4 := Lib.hid (HS3.out.keeps hk4 (by simpa using hne'))
        have HK4 := Lib.hid (HK3.out.trans hk4)
        clear hh4 hk4 HH3 HS3 HR3 HK3 hw3 h1 h2 f1 f2 k0 k1 j0 j1
        have k0 := Blk.cell HS4.out 0
        have k1 := Blk.cell HS4.out 1
        simp only [List.getElem?_cons_zero, List.getElem?_cons_succ] at k0 k1
        have j0 := Blk.frozen HS4.out 0
        have j1 := Blk.frozen HS4.out 1
        go_wp2_with fail
        have hS := (HS4.out.set 0 (.int .i64 18)).set 1 (.int .i64 0)
        have hB := Blk.keeps HH4.out (((Keeps.refl [gs] _).setCell (p := ⟨gs, 0, none⟩) (Or.inl (by simp)) (.int .i64 18)).setCell (p := ⟨gs, 1, none⟩) (Or.inl (by simp)) (.int .i64 0)) (by simpa using hne)
        have hK := (HK4.out.setCell (p := ⟨gs, 0, none⟩) (Or.inr HGW.out) (.int .i64 18)).setCell (p := ⟨gs, 1, none⟩) (Or.inr HGW.out) (.int .i64 0)
        have c0 := Blk.cell hS 0
        have c1 := Blk.cell hS 1
        simp only [List.set_cons_zero, List.set_cons_succ, List.getElem?_cons_zero, List.getElem?_cons_succ] at c0 c1
        refine bodyPost_ret (v := .agg #[.int .i64 18, .int .i64 0]) (by simp [results, Tryd.results63, go_sem, c0, c1]) rfl ⟨18, 0, (p + k), 10, rfl, hB, hK, fun h => absurd (by rw [hdd]) h, fun _ => ?_⟩
        rw [hdd]
        simp only []
        rw [hw, if_pos (by omega)]
        all_goals trivial
  · have e1 : (er != 0) = true := by simpa using her
    go_wp2_with fail
    have hA := Blk.set HH2.out 2 (.int .i64 er)
    have hS := ((HS2.out.keeps ((Keeps.refl [gh] w2).setCell (p := ⟨gh, 2, none⟩) (Or.inl (by simp)) (.int .i64 er)) (by simpa using hne')).set 0 (.int .i64 0)).set 1 (.int .i64 0)
    have hB := Blk.keeps hA (((Keeps.refl [gs] _).setCell (p := ⟨gs, 0, none⟩) (Or.inl (by simp)) (.int .i64 0)).setCell (p := ⟨gs, 1, none⟩) (Or.inl (by simp)) (.int .i64 0)) (by simpa using hne)
    have hK := (((HK2.out.mono (by simp) : Keeps [gh] w w2).setCell (p := ⟨gh, 2, none⟩) (Or.inl (by simp)) (.int .i64 er)).setCell (p := ⟨gs, 0, none⟩) (Or.inr HGW.out) (.int .i64 0)).setCell (p := ⟨gs, 1, none⟩) (Or.inr HGW.out) (.int .i64 0)
    have c0 := Blk.cell hS 0
    have c1 := Blk.cell hS 1
    simp only [List.set_cons_zero, List.set_cons_succ, List.getElem?_cons_zero, List.getElem?_cons_succ] at c0 c1
    refine bodyPost_ret (v := .agg #[.int .i64 0, .int .i64 0]) (by simp [results, Tryd.results63, go_sem, c0, c1]) rfl ⟨0, 0, p, er, rfl, hB, hK, fun _ => by rw [hdd], fun h => ?_⟩
    rw [hdd] at h
    exact absurd h her
end Go.Proofs.YtcblibefmclloaaDoor

set_option linter.unusedVariables false
set_option linter.unusedSimpArgs false
namespace Go.Proofs.YtcblibefmclloaaDoor
open Go.RowKit
set_option maxHeartbeats 400000 in
theorem power_calls (w : World) (n : Nat) (hn : n ≤ 40) :
    Calls Tryd.prog 86 #[.int .i64 n] w fun e w' => e = .returned (.int .i64 ((2 ^ n : Nat) : Int)) ∧ Dr w w' := by
  go_enter Tryd.func86, Tryd.ntmps86
  go_wp2_with fail
  go_loopw [3, 4] (fun v i wr => ∃ (k : Nat) (m : Nat), k ≤ n ∧ i = .int .i64 k ∧ v = .int .i64 m ∧ Hid (m = 2 ^ k) ∧ Hid (Dr w wr)) (fun _ i _ => n - (intOf i).toNat)
  case atStart => exact ⟨0, 1, by omega, rfl, rfl, Lib.hid rfl, ⟨0, rfl⟩⟩
  case round =>
    obtain ⟨k, m, hk, rfl, rfl, HM, HD⟩ := hrel
    obtain ⟨q, rfl⟩ := HD.out
    clear HD
    have hb : m ≤ 1099511627776 := by
      rw [HM.out]
      exact Nat.le_trans (Nat.pow_le_pow_right (by decide) (show k ≤ 40 by omega)) (by decide)
    by_cases hlt : k < n
    · go_wp2_with fail
      go_roundw
      case rel => exact ⟨k + 1, 2 * m, by omega, by go_num, by go_num, Lib.hid (by rw [HM.out, Nat.pow_succ]; omega), ⟨_, rfl⟩⟩
      case measure => simp [intOf]; omega
    · obtain rfl : k = n := by omega
      go_wp2_with fail
      go_ret
      rw [← HM.out]
      exact ⟨rfl, _, rfl⟩
theorem power_calls' (w : World) (n : Nat) (ni : Int) (hi : ni = n) (hn : n ≤ 40) :
    Calls Tryd.prog 86 #[.int .i64 ni] w fun e w' => e = .returned (.int .i64 ((2 ^ n : Nat) : Int)) ∧ Dr w w' := by
  subst hi; exact power_calls w n hn
set_option maxHeartbeats 400000 in
theorem used_calls (w : World) (A : Option Addr) (n c : Nat) (l : List Int) (hl : RI .i64 w A n l) (hn : n ≤ 100000) :
    Calls Tryd.prog 85 #[.slice A n c] w fun e w' => e = .returned (.int .i64 (usedF l)) ∧ Dr w w' := by
  have HLL := Lib.hid hl.len
  have HL := Lib.hid hl
  clear hl
  go_enter Tryd.func85, Tryd.ntmps85
  go_wp2_with fail
  go_loopw [3, 4] (fun v i wr => ∃ k : Nat, k ≤ n ∧ i = .int .i64 k ∧ v = .int .i64 (usedF (l.take k)) ∧ Hid (Dr w wr)) (fun _ i _ => n - (intOf i).toNat)
  case atStart => exact ⟨0, by omega, rfl, rfl, ⟨0, rfl⟩⟩
  case round =>
    obtain ⟨k, hk, rfl, rfl, HD⟩ := hrel
    obtain ⟨q, rfl⟩ := HD.out
    clear HD
    have hu := usedF_le (l.take k)
    have htk : (l.take k).length = k := by rw [List.length_take]; have := HLL.out; omega
    rw [htk] at hu
    clear htk
    by_cases hlt : k < n
    · obtain ⟨b, o, rfl, hc⟩ := HL.out.at hlt
      have US := Lib.hid (usedF_snoc l k (by have := HLL.out; omega))
      generalize usedF (l.take k) = U at *
      by_cases hz : 0 < nth l k
      · have e3 : decide (0 < nth l k) = true := by simpa using hz
        have HU : Hid (usedF (l.take (k + 1)) = U + 1) := by have := US.out; rwa [if_pos hz] at this
        go_wp2_with fail
        go_roundw
        case rel => exact ⟨k + 1, by omega, by go_num, by rw [HU.out]; go_num, ⟨_, rfl⟩⟩
        case measure => simp [intOf]; omega
      · have e3 : decide (0 < nth l k) = false := by simpa using hz
        have HU : Hid (usedF (l.take (k + 1)) = U) := by have := US.out; rwa [if_neg hz, Nat.add_zero] at this
        go_wp2_with fail
        go_roundw
        case rel => exact ⟨k + 1, by omega, by go_num, by rw [HU.out], ⟨_, rfl⟩⟩
        case measure => simp [intOf]; omega
    · obtain rfl : k = n := by omega
      have htk : l.take k = l := List.take_of_length_le (by have := HLL.out; omega)
      rw [htk] at hu ⊢
      clear htk
      go_wp2_with fail
      go_ret
      exact ⟨rfl, _, rfl⟩
set_option maxHeartbeats 400000 in
theorem measure_calls (w : World) (A : Option Addr) (n c : Nat) (l : List Int) (hl : RI .i64 w A n l) (hn : n ≤ 100000) (hok : l.all okLen = true) :
    Calls Tryd.prog 84 #[.slice A n c] w fun e w' => e = .returned (.int .i64 (measF l)) ∧ Dr w w' := by
  have HLL := Lib.hid hl.len
  have HL := Lib.hid hl
  have HOK := Lib.hid hok
  clear hl hok
  go_enter Tryd.func84, Tryd.ntmps84
  go_wp2_with fail
  go_loopw [3, 4] (fun v i wr => ∃ k : Nat, k ≤ n ∧ i = .int .i64 k ∧ v = .int .i64 (measF (l.take k)) ∧ Hid (Dr w wr)) (fun _ i _ => n - (intOf i).toNat)
  case atStart => exact ⟨0, by omega, rfl, rfl, ⟨0, rfl⟩⟩
  case round =>
    obtain ⟨k, hk, rfl, rfl, HD⟩ := hrel
    obtain ⟨q, rfl⟩ := HD.out
    clear HD
    have hu := measF_le (l.take k) (by rw [List.all_eq_true]; intro x hx; exact List.all_eq_true.1 HOK.out x (List.mem_of_mem_take hx))
    have htk : (l.take k).length = k := by rw [List.length_take]; have := HLL.out; omega
    rw [htk] at hu
    clear htk
    by_cases hlt : k < n
    · obtain ⟨b, o, rfl, hc⟩ := HL.out.at hlt
      have hx : okLen (nth l k) = true := by rw [nth_lt (by have := HLL.out; omega)]; exact List.all_eq_true.1 HOK.out _ (List.getElem_mem _)
      have MS := Lib.hid (measF_snoc l k (by have := HLL.out; omega))
      have hple := part_le (nth l k) hx
      have hx1 : 0 ≤ nth l k ∧ nth l k ≤ 15 := by simpa [okLen] using hx
      obtain ⟨hx2, hx3⟩ := hx1
      clear hx
      generalize measF (l.take k) = M at *
      by_cases hz : 0 < nth l k
      · have e3 : decide (0 < nth l k) = true := by simpa using hz
        have HP : Hid (((2 ^ (15 - nth l k).toNat : Nat) : Int) = (part (nth l k) : Int)) := by show _ = _; unfold part; rw [if_pos hz]
        go_wp2_with fail
        refine (power_calls' _ (15 - nth l k).toNat _ (by omega) (by omega)).mono ?_
        rintro e w' ⟨rfl, hd⟩
        rw [HP.out]
        have HD2 := Lib.hid (Dr.trans ⟨q, rfl⟩ hd)
        clear hd
        go_wp2_with fail
        go_roundw
        case rel => exact ⟨k + 1, by omega, by go_num, by rw [MS.out]; go_num, HD2⟩
        case measure => simp [intOf]; omega
      · have e3 : decide (0 < nth l k) = false := by simpa using hz
        have HM : Hid (measF (l.take (k + 1)) = M) := by have := MS.out; rwa [part_zero _ hz, Nat.add_zero] at this
        go_wp2_with fail
        go_roundw
        case rel => exact ⟨k + 1, by omega, by go_num, by rw [HM.out], ⟨_, rfl⟩⟩
        case measure => simp [intOf]; omega
    · obtain rfl : k = n := by omega
      have htk : l.take k = l := List.take_of_length_le (by have := HLL.out; omega)
      rw [htk] at hu ⊢
      clear htk
      go_wp2_with fail
      go_ret
      exact ⟨rfl, _, rfl⟩
end Go.Proofs.YtcblibefmclloaaDoor

set_option linter.unusedVariables false
set_option linter.unusedSimpArgs false
namespace Go.Proofs.YtcblibefmclloaaDoor
open Go.RowKit
set_option maxRecDepth 100000 in
set_option maxHeartbeats 1000000 in
theorem refCheck_calls (w : World) (A : Option Addr) (n c : Nat) (l : List Int) (hl : RI .i64 w A n l) (hn : n ≤ 140737488355328) :
    Calls Tryd.prog 61 #[.slice A n c] w fun e w' => e = .returned (.int .i64 (checkF l)) ∧ Dr w w' := by
  have hll := hl.len
  have HL := Lib.hid hl
  have HLL := Lib.hid hll
  clear hl
  by_cases h0 : n < 1
  · have hr : checkF l = 1 := by rw [checkF, if_pos (by omega)]
    have e0 : decide (n < 1) = true := by simpa using h0
    clear hll
    rw [hr]
    clear hr
    go_enter Tryd.func61, Tryd.ntmps61
    go_wp2_with fail
    go_ret
    exact ⟨rfl, 0, rfl⟩
  · have e0 : decide (n < 1) = false := by simpa using h0
    by_cases hb : 288 < n
    · have hr : checkF l = 1 := by rw [checkF, if_pos (by omega)]
      have e1 : decide (288 < n) = true := by simpa using hb
      clear hll
      rw [hr]
      clear hr
      go_enter Tryd.func61, Tryd.ntmps61
      go_wp2_with fail
      go_ret
      exact ⟨rfl, 0, rfl⟩
    · have e1 : decide (288 < n) = false := by simp; omega
      clear hll
      go_enter Tryd.func61, Tryd.ntmps61
      go_wp2_with fail
      clear e0 e1
      go_loopw [3] (fun i wr => ∃ k : Nat, k ≤ n ∧ i = .int .i64 k ∧ Hid ((l.take k).all okLen = true) ∧ Hid (Dr w wr)) (fun i _ => n - (intOf i).toNat)
      case atStart => exact ⟨0, by omega, rfl, Lib.hid (by simp), ⟨0, rfl⟩⟩
      case round =>
        obtain ⟨k, hk, rfl, HA, HD⟩ := hrel
        by_cases hlt : k < n
        · obtain ⟨q, rfl⟩ := HD.out
          clear HD
          obtain ⟨b, o, rfl, hc⟩ := HL.out.at hlt
          have asn := all_snoc l k (by have := HLL.out; omega)
          rw [HA.out] at asn
          have AS := Lib.hid asn
          clear asn
          by_cases hneg : nth l k < 0
          · have e1 : decide (nth l k < 0) = true := by simpa using hneg
            have hok : okLen (nth l k) = false := by simp [okLen]; omega
            have hr : checkF l = 1 := by rw [checkF, if_neg (by have := HLL.out; omega), if_pos (all_hit l k (by have := HLL.out; omega) hok)]
            have HR := Lib.hid hr
            clear hr hok
            go_wp2_with fail
            go_ret
            rw [HR.out]
            exact ⟨rfl, _, rfl⟩
          · have e1 : decide (nth l k < 0) = false := by simpa using hneg
            by_cases hbig : 15 < nth l k
            · have e2 : decide (15 < nth l k) = true := by simpa using hbig
              have hok : okLen (nth l k) = false := by simp [okLen]; omega
              have hr : checkF l = 1 := by rw [checkF, if_neg (by have := HLL.out; omega), if_pos (all_hit l k (by have := HLL.out; omega) hok)]
              have HR := Lib.hid hr
              clear hr hok
              go_wp2_with fail
              go_ret
              rw [HR.out]
              exact ⟨rfl, _, rfl⟩
            · have e2 : decide (15 < nth l k) = false := by simpa using hbig
              have hok : okLen (nth l k) = true := by simp [okLen]; omega
              have HOK := Lib.hid hok
              clear hok
              go_wp2_with fail
              go_roundw
              case rel => exact ⟨k + 1, by omega, by go_num, Lib.hid (AS.out.trans (by rw [HOK.out]; rfl)), ⟨_, rfl⟩⟩
              case measure => simp [intOf]; omega
        · obtain rfl : k = n := by omega
          have htk : l.take k = l := List.take_of_length_le (by have := HLL.out; omega)
          rw [htk] at HA
          have hlen := HLL.out
          have hm := measF_le l HA.out
          have HR : Hid (checkF l = if 32768 < measF l then 30 else if measF l = 32768 then 0 else if usedF l = 1 ∧ measF l = 16384 then 0 else 31) := by
            show _ = _
            rw [checkF, if_neg (by omega), if_neg (by rw [HA.out]; simp)]
          rw [hlen] at hm
          clear htk hlen
          go_wp2_with fail
          refine (measure_calls _ _ _ _ l (HL.out.keeps (HD.out.keeps (S := [])) (off_nil _)) (by omega) HA.out).mono ?_
          rintro e w1 ⟨rfl, hd1⟩
          have HD1 := Lib.hid (HD.out.trans hd1)
          clear HD hd1
          by_cases c1 : 32768 < measF l
          · have e1 : decide ((32768 : Int) < (measF l : Int)) = true := by simp; omega
            go_wp2_with fail
            go_ret
            rw [HR.out, if_pos c1]
            exact ⟨rfl, HD1.out⟩
          · have e1 : decide ((32768 : Int) < (measF l : Int)) = false := by simp; omega
            by_cases c2 : measF l = 32768
            · have e2 : ((measF l : Int) == 32768) = true := by simp; omega
              have C2 := Lib.hid c2
              clear c2
              go_wp2_with fail
              go_ret
              rw [HR.out, if_neg c1, if_pos C2.out]
              exact ⟨rfl, HD1.out⟩
            · have e2 : ((measF l : Int) == 32768) = false := by simp; omega
              go_wp2_with fail
              refine (used_calls _ _ _ _ l (HL.out.keeps (HD1.out.keeps (S := [])) (off_nil _)) (by omega)).mono ?_
              rintro e w2 ⟨rfl, hd2⟩
              have HD2 := Lib.hid (HD1.out.trans hd2)
              clear HD1 hd2
              by_cases c3 : usedF l = 1
              · have e3 : ((usedF l : Int) == 1) = true := by simp; omega
                have C3 := Lib.hid c3
                clear c3
                by_cases c4 : measF l = 16384
                · have e4 : ((measF l : Int) == 16384) = true := by simp; omega
                  have C4 := Lib.hid c4
                  have C2 := Lib.hid c2
                  clear c4 c2
                  go_wp2_with fail
                  go_ret
                  rw [HR.out, if_neg c1, if_neg C2.out, if_pos ⟨C3.out, C4.out⟩]
                  exact ⟨rfl, HD2.out⟩
                · have e4 : ((measF l : Int) == 16384) = false := by simp; omega
                  go_wp2_with fail
                  go_ret
                  rw [HR.out, if_neg c1, if_neg c2, if_neg (fun h => c4 h.2)]
                  exact ⟨rfl, HD2.out⟩
              · have e3 : ((usedF l : Int) == 1) = false := by simp; omega
                go_wp2_with fail
                go_ret
                rw [HR.out, if_neg c1, if_neg c2, if_neg (fun h => c3 h.1)]
                exact ⟨rfl, HD2.out⟩
end Go.Proofs.YtcblibefmclloaaDoor
