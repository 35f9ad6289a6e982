import Derived.Test.YtkpabdjniiepkaaGreatDoorDBacB
import Derived.Test.YtkpabdjniiepkaaGreatDoorDflH
import Derived.Deep.RegionWith
import Derived.Test.YtkpabdjniiepkaaGreatDoorDflL
import Derived.Laws.BytesArg
set_option linter.unusedVariables false
set_option linter.unusedSimpArgs false
namespace Go.Proofs.YtkpabdjniiepkaaGreatDoor
open Go.RowKit
/-- A stream that has been fed so many bytes. -/
def Strm (w : World) (s most : Nat) (fed : List Int) (fb : Option Nat) : Prop :=
  ∃ (v : Value) (told used : Nat), Blk w s 52 [.int .i64 most, v, .int .i64 told, .int .i64 (inflF fed most).2.2, .int .i64 used] ∧ w.ownsRow (s + 1) 5 1 v fed.length (ints .u8 fed) ∧
    ((inflF fed most).2.2 = 55 ∨ (inflF fed most).2.2 = 0 → told = (inflF fed most).1.length) ∧ ((inflF fed most).2.2 = 0 → used = ((inflF fed most).2.1 + 7) / 8) ∧ (∀ j, 0 ≤ nth fed j ∧ nth fed j ≤ 255) ∧ most ≤ 16384 ∧ v.ownBlock = fb
theorem Strm.lt {w : World} {s most : Nat} {fed : List Int} {fb : Option Nat} (h : Strm w s most fed fb) : s < w.heap.size := by obtain ⟨v, t, u, hb, _⟩ := h; exact hb.lt
theorem Strm.keeps {w w' : World} {s most : Nat} {fed : List Int} {fb : Option Nat} {K : List Nat} (h : Strm w s most fed fb) (hk : Keeps K w w') (hK : ∀ x ∈ K, x < s ∨ w.heap.size ≤ x) : Strm w' s most fed fb := by
  obtain ⟨v, t, u, h1, h2, h3⟩ := h
  have hl := h1.lt
  refine ⟨v, t, u, h1.keeps hk (fun hm => by rcases hK s hm with h | h <;> omega), own_keeps h2 hk (fun x hx hm => ?_), h3⟩
  have a := own_lo h2 x hx
  have b := own_hi h2 x hx
  rcases hK x hm with h | h <;> omega
theorem inflF_nil (most : Nat) : inflF [] most = ([], 0, 55) := by
  unfold inflF
  rw [blksF, if_pos (by simp)]
theorem inew_calls (w : World) (most : Int) : Calls Tryz.prog 7 #[.int .i64 most] w fun e w' =>
    (most < 0 ∨ 16384 < most → e = .returned (.tuple #[.pointer none, .int .i64 1]) ∧ Keeps [] w w') ∧ (∀ m : Nat, most = m → m ≤ 16384 → ∃ s, e = .returned (.tuple #[.pointer (some ⟨s, 0, none⟩), .int .i64 0]) ∧ Strm w' s m [] none ∧ w.heap.size ≤ s ∧ Keeps [] w w') := by
  go_enter Tryz.func7, Tryz.ntmps7
  by_cases h0 : most < 0
  · have e0 : decide (most < 0) = true := by simpa using h0
    have H0 := Lib.hid h0
    clear h0
    go_wp2_with fail
    go_ret2
    exact ⟨fun _ => ⟨rfl, Keeps.refl _ _⟩, fun m hm _ => by have := H0.out; omega⟩
  have e0 : decide (most < 0) = false := by simpa using h0
  by_cases h1 : 16384 < most
  · have e1 : decide (16384 < most) = true := by simpa using h1
    have H1 := Lib.hid h1
    clear h1
    go_wp2_with fail
    go_ret2
    exact ⟨fun _ => ⟨rfl, Keeps.refl _ _⟩, fun m hm _ => by have := H1.out; omega⟩
  have e1 : decide (16384 < most) = false := by simpa using h1
  obtain ⟨m, rfl⟩ := Int.eq_ofNat_of_zero_le (show 0 ≤ most by omega)
  have hm : m ≤ 16384 := by omega
  change Code.wp _ _ _ _ _
  have HS : Hid (Strm (w.alloc (.cells #[.int .i64 m, .slice none 0 0, .int .i64 0, .int .i64 55, .int .i64 0] 52)) w.heap.size m [] none) := Lib.hid (by
    refine ⟨.slice none 0 0, 0, 0, ?_, World.ownsRow_nil _ _ _ _, ?_, ?_, fun j => by simp [nth], hm, rfl⟩
    · rw [inflF_nil]; exact blk_new w _ _
    · rw [inflF_nil]; intro _; rfl
    · rw [inflF_nil]; intro h; simp at h)
  go_wp2_with fail
  go_ret2
  exact ⟨fun h => by omega, fun k hk _ => ⟨_, rfl, by obtain rfl : m = k := by omega
                                                      exact HS.out, Nat.le_refl _, (Keeps.refl [] w).alloc _⟩⟩
theorem done_calls (w : World) (s most : Nat) (fed : List Int) (fb : Option Nat) (h : Strm w s most fed fb) : Calls Tryz.prog 10 #[.pointer (some ⟨s, 0, none⟩)] w fun e w' => e = .returned (.bool (decide ((inflF fed most).2.2 = 0))) ∧ Dr w w' := by
  obtain ⟨v, t, u, hb, -⟩ := h
  have k3 := hb.cell 3
  simp only [List.getElem?_cons_zero, List.getElem?_cons_succ] at k3
  clear hb
  generalize (inflF fed most).2.2 = er at *
  go_enter Tryz.func10, Tryz.ntmps10
  by_cases he : er = 0
  · subst he
    go_wp2_with fail
    go_ret
    exact ⟨rfl, 0, rfl⟩
  · have e1 : (er == 0) = false := by simpa using he
    have e2 : decide (er = 0) = false := by simpa using he
    go_wp2_with fail
    go_ret
    exact ⟨by rw [e2]; rfl, 0, rfl⟩
theorem done_nil (w : World) : Calls Tryz.prog 10 #[.pointer none] w fun e w' => e = .returned (.bool false) ∧ Dr w w' := by
  go_enter Tryz.func10, Tryz.ntmps10
  go_wp2_with fail
  go_ret
  exact ⟨rfl, 0, rfl⟩
theorem feed_nil (w : World) (A : Option Addr) (n c : Nat) : Calls Tryz.prog 9 #[.pointer none, .slice A n c] w fun e w' => e = .returned (.tuple #[.slice none 0 0, .int .i64 3]) ∧ Dr w w' := by
  go_enter Tryz.func9, Tryz.ntmps9
  go_wp2_with fail
  go_ret2
  exact ⟨rfl, 0, rfl⟩
/-- What stands behind the end. -/
def restF (fed : List Int) (most : Nat) : List Int := if (inflF fed most).2.2 = 0 then fed.drop (((inflF fed most).2.1 + 7) / 8) else []
end Go.Proofs.YtkpabdjniiepkaaGreatDoor

set_option linter.unusedVariables false
set_option linter.unusedSimpArgs false
namespace Go.Proofs.YtkpabdjniiepkaaGreatDoor
open Go.RowKit
/-- What feeding tells. -/
def feedR (r0 r : IRes) : List Int × Int := if r.2.2 = 0 ∨ r.2.2 = 55 then (r.1.drop r0.1.length, 0) else ([], r.2.2)
def FedP (w : World) (s most : Nat) (fed b : List Int) (fb : Option Nat) (e : Ending) (w' : World) : Prop :=
  ∃ v fb', e = .returned (.tuple #[v, .int .i64 (feedR (inflF fed most) (inflF (fed ++ b) most)).2]) ∧ w'.ownsRow w.heap.size 5 1 v (feedR (inflF fed most) (inflF (fed ++ b) most)).1.length (ints .u8 (feedR (inflF fed most) (inflF (fed ++ b) most)).1) ∧
    Strm w' s most (fed ++ b) fb' ∧ Keeps (s :: fb.toList) w w' ∧ (∀ x, fb' = some x → fb = some x ∨ w.heap.size ≤ x) ∧ (∀ x, v.ownBlock = some x → fb' ≠ some x)
theorem nth_byte_append {xs ys : List Int} (h1 : ∀ j, 0 ≤ nth xs j ∧ nth xs j ≤ 255) (h2 : ∀ j, 0 ≤ nth ys j ∧ nth ys j ≤ 255) (j : Nat) : 0 ≤ nth (xs ++ ys) j ∧ nth (xs ++ ys) j ≤ 255 := by
  by_cases h : j < xs.length
  · rw [nth_append_left _ _ _ h]; exact h1 j
  · have := nth_append_right xs ys (j - xs.length)
    rw [show xs.length + (j - xs.length) = j by omega] at this
    rw [this]; exact h2 _
theorem RI.keeps_of {k : IntKind} {w w' : World} {A : Option Addr} {n : Nat} {xs : List Int} {S : List Nat} (h : RI k w A n xs) (hk : Keeps S w w') (ho : ∀ a, A = some a → a.block ∉ S) : RI k w' A n xs := h.keeps hk ho
/-- An append may take a block that is its own, or a new one. -/
theorem own_grown {w w' : World} {base n m size : Nat} {t : TypeId} {v v' : Value} {xs ys : List Value} (h : w.ownsRow base t size v n xs) (h' : w'.ownsRow base t size v' m ys) (hg : w.grownBy w' v.ownBlock) : True := trivial
set_option maxRecDepth 100000 in
set_option maxHeartbeats 2000000 in
theorem feed_calls (w : World) (s most : Nat) (fed : List Int) (fb : Option Nat) (A : Option Addr) (n c : Nat) (b : List Int) (h : Strm w s most fed fb) (hT : Tabs w) (hs : gtop ≤ s) (hr : RI .u8 w A n b) (hnil : A = none → n = 0 ∧ c = 0)
    (hbyte : ∀ j, 0 ≤ nth b j ∧ nth b j ≤ 255) (hsz : fed.length + n ≤ 1000000000) :
    Calls Tryz.prog 9 #[.pointer (some ⟨s, 0, none⟩), .slice A n c] w (FedP w s most fed b fb) := by
  have hslt := h.lt
  obtain ⟨v, t, u, hb, hown, ht, hu, hbf, hm, hfb⟩ := h
  obtain ⟨vA, vc, rfl⟩ := own_formW hown
  have k1 := hb.cell 1
  simp only [List.getElem?_cons_zero, List.getElem?_cons_succ] at k1
  have HB := Lib.hid hb
  have HO := Lib.hid hown
  have HFB := Lib.hid hfb
  have HTO := Lib.hid ht
  have HUS := Lib.hid hu
  have HBY := Lib.hid (nth_byte_append hbf hbyte)
  have HR := Lib.hid hr
  have HBN := Lib.hid hr.len
  have HN := Lib.hid hnil
  have HT := Lib.hid hT
  have HEX := Lib.hid (inflF_ext fed b most)
  have HPS := Lib.hid (fun h => inflF_pos (fed ++ b) most h)
  clear hb hown ht hu hbf hr hnil hbyte hfb hT
  obtain ⟨r0, hr0⟩ : ∃ r0, r0 = inflF fed most := ⟨_, rfl⟩
  obtain ⟨r1, hr1⟩ : ∃ r1, r1 = inflF (fed ++ b) most := ⟨_, rfl⟩
  have HR0 := Lib.hid hr0
  have HR1 := Lib.hid hr1
  rw [← hr0] at HB HTO HUS HEX
  rw [← hr1] at HEX HPS
  clear hr0 hr1
  obtain ⟨o0, p0, e0⟩ := r0
  obtain ⟨o1, p1, e1⟩ := r1
  simp only [] at HB HTO HUS HEX HPS
  obtain ⟨L, hL⟩ : ∃ L, L = fed.length := ⟨_, rfl⟩
  have HL := Lib.hid hL
  rw [← hL] at k1 HO HB HFB hsz
  clear hL
  have HF : ∀ (x : Value) (y : Int) (fb' : Option Nat) (w' : World), Hid (feedR (o0, p0, e0) (o1, p1, e1) = ([], y)) → Strm w' s most (fed ++ b) fb' → Keeps (s :: fb.toList) w w' → (∀ x, fb' = some x → fb = some x ∨ w.heap.size ≤ x) → FedP w s most fed b fb (.returned (.tuple #[.slice none 0 0, .int .i64 y])) w' := fun x y fb' w' hfr hst hk hx => by
    refine ⟨.slice none 0 0, fb', ?_, ?_, hst, hk, hx, fun x hx => by simp [Value.ownBlock] at hx⟩
    · rw [← HR0.out, ← HR1.out, hfr.out]
    · rw [← HR0.out, ← HR1.out, hfr.out]; exact World.ownsRow_nil _ _ _ _
  have HFT0 : ∀ (v : Value) (o : List Int) (fb' : Option Nat) (w' : World), Hid (feedR (o0, p0, e0) (o1, p1, e1) = (o, 0)) → w'.ownsRow w.heap.size 5 1 v o.length (ints .u8 o) → Strm w' s most (fed ++ b) fb' → Keeps (s :: fb.toList) w w' →
      (∀ x, fb' = some x → fb = some x ∨ w.heap.size ≤ x) → (∀ x, v.ownBlock = some x → fb' ≠ some x) → FedP w s most fed b fb (.returned (.tuple #[v, .int .i64 0])) w' := fun v o fb' w' hfr ho hst hk hx hv => by
    refine ⟨v, fb', ?_, ?_, hst, hk, hx, hv⟩
    · rw [← HR0.out, ← HR1.out, hfr.out]
    · rw [← HR0.out, ← HR1.out, hfr.out]; exact ho
  have HFH := Lib.hid HF
  have HFT := Lib.hid HFT0
  clear HF HFT0
  go_enter Tryz.func9, Tryz.ntmps9
  go_wp2_with (at_builtin; refine app_bytesB rfl (.tmp 15) (.tmp 16) rfl (s + 1) _ L fed rfl (by exact HO.out) A n c b rfl (by exact HR.out) HN.out ?c1 ?c2 ?_)
  case c1 => omega
  case c2 => exact hslt
  intro v1 w1 ho1 hg1 hwh1
  have hg0 : ∀ k, (Value.slice vA L vc).ownBlock = some k → s + 1 ≤ k := fun k hk => (HO.out.lt k hk).1
  have kg : Keeps (s :: fb.toList) w w1 := (grown_keepsI hg1).mono (fun x hx => by rw [HFB.out] at hx; exact List.mem_cons_of_mem _ hx)
  have hb1 : Blk w1 s 52 [.int .i64 most, .slice vA L vc, .int .i64 t, .int .i64 e0, .int .i64 u] := (hg1.block s hslt (fun e => by have := hg0 s e.symm; omega)).trans HB.out
  obtain ⟨vB, vd, rfl⟩ : ∃ A c, v1 = .slice A (L + n) c := own_formW ho1
  have hT1 := HT.out.keeps (grown_keepsI hg1) (fun x hx => by have := hg0 x (Option.mem_toList.1 hx); omega)
  have HFB1 : Hid (∀ x, (Value.slice vB (L + n) vd).ownBlock = some x → fb = some x ∨ w.heap.size ≤ x) := Lib.hid (fun x hx => by
    rcases hwh1 with e | e
    · exact .inl (by rw [← HFB.out, ← e]; exact hx)
    · rw [e] at hx; exact .inr (by injection hx with hx; omega))
  clear hwh1
  have f1 := hb1.frozen 1
  have j1 := hb1.cell 1
  simp only [List.getElem?_cons_zero, List.getElem?_cons_succ] at j1
  have ks : Keeps [s] w1 (w1.setCell ⟨s, 1, none⟩ (.slice vB (L + n) vd)) := (Keeps.refl [s] w1).setCell (p := ⟨s, 1, none⟩) (Or.inl (by simp)) _
  have hb2 := hb1.set 1 (.slice vB (L + n) vd)
  simp only [List.set_cons_succ, List.set_cons_zero] at hb2
  have ho2 := ownsRow_setCell_below ho1 (a := ⟨s, 1, none⟩) (Nat.lt_succ_self s) (.slice vB (L + n) vd)
  obtain ⟨w2, hw2⟩ : ∃ w2, w2 = w1.setCell ⟨s, 1, none⟩ (.slice vB (L + n) vd) := ⟨_, rfl⟩
  have HW2 := Lib.hid hw2
  rw [← hw2] at ks hb2 ho2
  have HB2 := Lib.hid hb2
  have HO2 := Lib.hid ho2
  have HK2 := Lib.hid (kg.trans (ks.mono (fun x hx => by rw [List.mem_singleton.1 hx]; exact List.mem_cons_self)))
  have HT2 := Lib.hid (hT1.keeps ks (fun x hx => by rw [List.mem_singleton.1 hx]; exact hs))
  have HBX := Lib.hid hb1
  clear kg hb1 hT1 hb2 ho2 hw2 ho1 hg1 HB HO HT k1 hg0 ks
  go_upto_region 4 with (fail)
  rw [← HW2.out]
  clear f1 j1 HW2 HBX
  have HST : Hid (∀ (t' u' : Nat) (w' : World), Blk w' s 52 [.int .i64 most, .slice vB (L + n) vd, .int .i64 t', .int .i64 e1, .int .i64 u'] → w'.ownsRow (s + 1) 5 1 (.slice vB (L + n) vd) (L + n) (ints .u8 (fed ++ b)) →
      (e1 = 55 ∨ e1 = 0 → t' = o1.length) → (e1 = 0 → u' = (p1 + 7) / 8) → Strm w' s most (fed ++ b) (Value.slice vB (L + n) vd).ownBlock) := Lib.hid (fun t' u' w' hb' ho' ht' hu' => by
    refine ⟨_, t', u', ?_, ?_, ?_, ?_, HBY.out, hm, rfl⟩
    · rw [← HR1.out]; exact hb'
    · rw [List.length_append, ← HL.out, HBN.out]; exact ho'
    · rw [← HR1.out]; exact ht'
    · rw [← HR1.out]; exact hu')
  obtain ⟨z0, z2, z3, z1⟩ : w2.cell? ⟨s, 0, none⟩ = some (.int .i64 most) ∧ w2.cell? ⟨s, 2, none⟩ = some (.int .i64 t) ∧ w2.cell? ⟨s, 3, none⟩ = some (.int .i64 e0) ∧ w2.cell? ⟨s, 1, none⟩ = some (.slice vB (L + n) vd) := by
    have a0 := HB2.out.cell 0
    have a1 := HB2.out.cell 1
    have a2 := HB2.out.cell 2
    have a3 := HB2.out.cell 3
    simp only [List.getElem?_cons_zero, List.getElem?_cons_succ] at a0 a1 a2 a3
    exact ⟨a0, a2, a3, a1⟩
  by_cases h55 : e0 ≠ 55
  · have hsame := HEX.out.1 h55
    injection hsame with q1 q2
    injection q2 with q2 q3
    subst q1; subst q2; subst q3
    have HS2 := Lib.hid (HST.out t u w2 HB2.out HO2.out HTO.out HUS.out)
    by_cases h0 : e1 = 0
    · subst h0
      have HFR : Hid (feedR (o1, p1, 0) (o1, p1, 0) = ([], 0)) := Lib.hid (by unfold feedR; rw [if_pos (.inl rfl)]; simp)
      clear HST HTO HUS HEX HPS h55
      go_wp2_with fail
      go_ret2
      exact HFH.out (.int .i64 0) 0 _ _ HFR HS2.out HK2.out HFB1.out
    · have HFR : Hid (feedR (o1, p1, e1) (o1, p1, e1) = ([], e1)) := Lib.hid (by unfold feedR; rw [if_neg (by rintro (h | h); exact h0 h; exact h55 h)])
      have g0 : (e1 == 0) = false := by simpa using h0
      have g5 : (e1 != 55) = true := by simpa using h55
      clear HST HTO HUS HEX HPS h55 h0
      go_wp2_with fail
      go_quiet (fail)
      go_wp2_with fail
      go_ret2
      exact HFH.out (.int .i64 0) e1 _ _ HFR (HS2.out.keeps ((Keeps.refl [] w2).drewN _) (by simp)) (HK2.out.drewN _) HFB1.out
  obtain rfl : e0 = 55 := Classical.not_not.1 h55
  clear h55
  replace HTO := Lib.hid (HTO.out (.inl rfl))
  have HPRE := Lib.hid (HEX.out.2 rfl)
  clear HUS HEX
  obtain ⟨vB', vd', hv', hri, hcap, hnB, hplB, hltB⟩ := own_full HO2.out
  injection hv' with hv1 hv2 hv3
  subst hv1
  subst hv3
  have HRI := Lib.hid hri
  have HNB := Lib.hid hnB
  clear hv2 hri hcap hnB hplB
  have HLT := Lib.hid hltB
  clear hltB
  go_upto_region 8 with (fail)
  go_cut [6, 7] (fun v6 v7 wc => ∃ (g gr : Nat) (A3 : Option Addr) (c3 q : Nat), v6 = .pointer (some ⟨g, 0, none⟩) ∧ v7 = .int .i64 e1 ∧ Hid (IR wc g gr A3 c3 (fed ++ b) q most o1) ∧ Hid (e1 = 0 → q = p1) ∧ Hid (w2.drew.heap.size ≤ gr) ∧ Hid (∀ a, A3 = some a → gr < a.block) ∧ Hid (Below w2.drew.heap.size w2.drew wc))
  case first =>
    have hdr := (Keeps.refl [] w2).drew
    have HTd := Lib.hid (HT2.out.keeps hdr (by simp))
    have HRd := Lib.hid (HRI.out.keeps hdr (off_nil _))
    have hcl : Calls Tryz.prog 22 #[.slice vB (L + n) vd, .int .i64 most] w2.drew fun e w' => ∃ g gr A c q, e = .returned (.tuple #[.pointer (some ⟨g, 0, none⟩), .int .i64 e1]) ∧ IR w' g gr A c (fed ++ b) q most o1 ∧ (e1 = 0 → q = p1) ∧ w2.drew.heap.size ≤ gr ∧ (∀ a, A = some a → gr < a.block) ∧ Below w2.drew.heap.size w2.drew w' := by
      have := iread_calls w2.drew vB (L + n) vd (fed ++ b) most HTd.out HRd.out HNB.out HBY.out (by omega) hm
      rwa [← HR1.out] at this
    have HCL := Lib.hid hcl
    clear hdr HTd HRd hcl HRI
    go_region_with (first | (go_at_call 22; refine HCL.out.mono ?_; rintro _ w3 ⟨g, gr, A3, c3, q, rfl, hi, hq, hgr, hA3, hb3⟩; have HI := Lib.hid hi; have HQ := Lib.hid hq; have HGR := Lib.hid hgr; have HA3 := Lib.hid hA3; have HB3 := Lib.hid hb3; clear hi hq hgr hA3 hb3))
    all_goals (go_wp2_with fail; go_meet; exact ⟨g, gr, A3, c3, q, rfl, rfl, HI, HQ, HGR, HA3, HB3⟩)
  case rest =>
  obtain ⟨g, gr, A3, c3, q, rfl, rfl, HI0, HQ0, HGR0, HA30, HB30⟩ := hcut
  have hi := HI0.out
  have hq := HQ0.out
  have hgr := HGR0.out
  have hA3 := HA30.out
  have hb3 := HB30.out
  clear HI0 HQ0 HGR0 HA30 HB30
  obtain ⟨w3, hw3⟩ : ∃ w3 : World, w3 = wc := ⟨_, rfl⟩
  rw [← hw3] at hi hb3 ⊢
  clear hw3
  have hdr := (Keeps.refl [] w2).drew
  have HBd := Lib.hid (HB2.out.keeps hdr (by simp))
  have HOd := Lib.hid (own_keeps HO2.out hdr (by simp))
  have HKd := Lib.hid (HK2.out.trans (hdr.mono (by simp)))
  clear hdr HB2 HO2 HT2 HK2 HRI z0 z1 z2 z3
  have hk3 := Keeps.of_below hb3 (S := [])
  have HB3 := Lib.hid (HBd.out.keeps hk3 (by simp))
  have HO3 := Lib.hid (own_keeps HOd.out hk3 (by simp))
  have HK3 := Lib.hid (HKd.out.trans (hk3.mono (by simp)))
  have hss : s < w2.drew.heap.size := HBd.out.lt
  have hsg : s < gr := by omega
  have hgg : gr < g := hi.lt
  have HI := Lib.hid hi
  have HQ := Lib.hid hq
  have HA3 := Lib.hid hA3
  have HW2S : Hid (w.heap.size ≤ w2.drew.heap.size) := Lib.hid HKd.out.size
  have HGR : Hid (w2.drew.heap.size ≤ gr) := Lib.hid hgr
  have HLT2 : Hid (∀ a, vB = some a → a.block < w2.drew.heap.size) := Lib.hid (fun a ha => (HLT.out a ha).2)
  have f3 := HB3.out.frozen 3
  have j3 := HB3.out.cell 3
  simp only [List.getElem?_cons_zero, List.getElem?_cons_succ] at j3
  clear hi hq hgr hA3 hb3 hk3 HBd HOd HKd HLT
  go_upto_region 10 with (fail)
  have ks3 : Keeps [s] w3 (w3.setCell ⟨s, 3, none⟩ (.int .i64 e1)) := (Keeps.refl [s] w3).setCell (p := ⟨s, 3, none⟩) (Or.inl (by simp)) _
  have hb4 := HB3.out.set 3 (.int .i64 e1)
  simp only [List.set_cons_succ, List.set_cons_zero] at hb4
  have ho4 := ownsRow_setCell_below HO3.out (a := ⟨s, 3, none⟩) (Nat.lt_succ_self s) (.int .i64 e1)
  obtain ⟨w4, hw4⟩ : ∃ w4, w4 = w3.setCell ⟨s, 3, none⟩ (.int .i64 e1) := ⟨_, rfl⟩
  rw [← hw4] at ks3 hb4 ho4 ⊢
  clear hw4
  have HB4 := Lib.hid hb4
  have HO4 := Lib.hid ho4
  have HK4 := Lib.hid (HK3.out.trans (ks3.mono (fun x hx => by rw [List.mem_singleton.1 hx]; exact List.mem_cons_self)))
  have hRD : Rdr w4 gr A3 c3 (fed ++ b) q := HI.out.rd.keeps ks3 (by simp; omega) (fun a ha hm => by have := HA3.out a ha; rw [List.mem_singleton.1 hm] at this; omega)
  have HRD := Lib.hid hRD
  obtain ⟨gv, hgblk, hgown⟩ := HI.out.box
  obtain ⟨vG, vcG, rfl, hgri, hgcap, hgnil, hgpl, hglt⟩ := own_full hgown
  have HGB := Lib.hid (hgblk.keeps ks3 (by simp; omega))
  have HGR2 := Lib.hid (hgri.keeps ks3 (fun a ha hm => by have := (hglt a ha).1; rw [List.mem_singleton.1 hm] at this; omega))
  have HGN := Lib.hid hgnil
  have HGP := Lib.hid hgpl
  have HGL := Lib.hid (fun a ha => (hglt a ha).1)
  have HGC := Lib.hid hgcap
  have HW4S : Hid (w2.drew.heap.size ≤ w4.heap.size) := Lib.hid (by have := HGB.out.lt; have := HGR.out; omega)
  clear hb4 ho4 ks3 hRD hgblk hgown hgri hgcap hgnil hgpl hglt HI HB3 HO3 HK3 f3 j3 HA3
  by_cases he0 : e1 = 0
  · subst he0
    obtain rfl := HQ.out rfl
    have hpq := HRD.out.le
    have hpl1 : (fed ++ b).length = L + n := by rw [List.length_append, ← HL.out, HBN.out]
    rw [hpl1] at hpq
    clear hpl1 HQ
    obtain ⟨Q, hQ⟩ : ∃ Q, Q = (q + 7) / 8 := ⟨_, rfl⟩
    have HQ := Lib.hid hQ
    have s2 : ((q : Int) + 7) / 8 = (Q : Int) := by omega
    clear hQ
    have k0 := HGB.out.cell 0
    simp only [List.getElem?_cons_zero] at k0
    go_wp2_with fail
    refine (gone_calls w4 gr A3 c3 (fed ++ b) q HRD.out).mono ?_
    rintro _ w5 ⟨rfl, hd⟩
    have hk5 := hd.keeps (S := [])
    have hb5 := HB4.out.keeps hk5 (by simp)
    have f4 := hb5.frozen 4
    have j4 := hb5.cell 4
    simp only [List.getElem?_cons_zero, List.getElem?_cons_succ] at j4
    have HB5 := Lib.hid hb5
    have HO5 := Lib.hid (own_keeps HO4.out hk5 (by simp))
    have HK5 := Lib.hid (HK4.out.trans (hk5.mono (by simp)))
    have HGB5 := Lib.hid (HGB.out.keeps hk5 (by simp))
    have HGR5 := Lib.hid (HGR2.out.keeps hk5 (off_nil _))
    have HW5S : Hid (w2.drew.heap.size ≤ w5.heap.size) := Lib.hid (Nat.le_trans HW4S.out hk5.size)
    clear hd hk5 hb5 HB4 HO4 HK4 HGB HGR2 HW4S HRD k0
    go_upto_region 14 with (fail)
    clear f4 j4 s2
    have ks5 : Keeps [s] w5 (w5.setCell ⟨s, 4, none⟩ (.int .i64 Q)) := (Keeps.refl [s] w5).setCell (p := ⟨s, 4, none⟩) (Or.inl (by simp)) _
    have hb6 := HB5.out.set 4 (.int .i64 Q)
    simp only [List.set_cons_succ, List.set_cons_zero] at hb6
    have ho6 := ownsRow_setCell_below HO5.out (a := ⟨s, 4, none⟩) (Nat.lt_succ_self s) (.int .i64 Q)
    obtain ⟨w6, hw6⟩ : ∃ w6, w6 = w5.setCell ⟨s, 4, none⟩ (.int .i64 Q) := ⟨_, rfl⟩
    rw [← hw6] at ks5 hb6 ho6 ⊢
    clear hw6
    have HGB6 := Lib.hid (HGB5.out.keeps ks5 (by simp; omega))
    have HGR6 := Lib.hid (HGR5.out.keeps ks5 (fun a ha hm => by have := HGL.out a ha; rw [List.mem_singleton.1 hm] at this; omega))
    have HK6 := Lib.hid (HK5.out.trans (ks5.mono (fun x hx => by rw [List.mem_singleton.1 hx]; exact List.mem_cons_self)))
    have HB6 := Lib.hid hb6
    have HO6 := Lib.hid ho6
    have HW6S : Hid (w2.drew.heap.size ≤ w6.heap.size) := Lib.hid (Nat.le_trans HW5S.out ks5.size)
    clear ks5 hb6 ho6 HB5 HO5 HK5 HGB5 HGR5 HW5S
    obtain ⟨U, hU⟩ : ∃ U : Nat, U = Q := ⟨_, rfl⟩
    have HUQ : Hid ((0 : Int) = 0 → U = (q + 7) / 8) := Lib.hid (fun _ => by rw [hU]; exact HQ.out)
    rw [← hU] at HB6
    clear hU
    have HFR : Hid (feedR (o0, p0, 55) (o1, q, 0) = (o1.drop t, 0)) := Lib.hid (by unfold feedR; rw [if_pos (.inl rfl), HTO.out])
    have HTT : Hid ((0 : Int) = 55 ∨ (0 : Int) = 0 → o1.length = o1.length) := Lib.hid (fun _ => rfl)
    have k1 := HGB6.out.cell 1
    have k2 := HB6.out.cell 2
    simp only [List.getElem?_cons_zero, List.getElem?_cons_succ] at k1 k2
    have htl : t ≤ o1.length := by rw [HTO.out]; exact HPRE.out.length_le
    obtain ⟨M, hM⟩ : ∃ M, M = o1.length := ⟨_, rfl⟩
    have HM := Lib.hid hM
    have hMb : M ≤ 4000000000 := by rw [hM]; have := inflF_le (fed ++ b) most; rw [← HR1.out] at this; simp only [] at this; omega
    rw [← hM] at k1 htl HGR6 HTT
    have HGC' : Hid (M ≤ vcG) := Lib.hid (by rw [hM]; exact HGC.out)
    have HCN := Lib.hid (cutA_nil (l := t) (n := M) (c := vcG) (fun h => by have := HGN.out h; rw [hM]; exact this))
    clear hM
    have HRC := Lib.hid (HGR6.out.cut HGP.out htl HGC'.out)
    have hsl := fun w => slice_from8 w vG M vcG t t rfl htl
    go_still_tail 9, (by kernel_rfl)
    change wpList _ _ _ _ _ w6.drew
    have hdr := (Keeps.refl [] w6).drew
    have HBd := Lib.hid (HB6.out.keeps hdr (by simp))
    have HOd := Lib.hid (own_keeps HO6.out hdr (by simp))
    have HKd := Lib.hid (HK6.out.trans (hdr.mono (by simp)))
    have HRCd := Lib.hid (HRC.out.keeps hdr (off_nil _))
    have HGBd := Lib.hid (HGB6.out.keeps hdr (by simp))
    clear hdr HB6 HO6 HK6 HRC HGB6 HGR6 k1 k2 hsl
    go_wp2_with fail
    refine (bclone_calls w6.drew (cutA vG t vcG) (M - t) (vcG - t) (o1.drop t) HRCd.out HCN.out (by omega)).mono ?_
    rintro _ w7 ⟨v7, rfl, ho7, hb7⟩
    have hk7 := Keeps.of_below hb7 (S := [])
    have hb8 := HBd.out.keeps hk7 (by simp)
    have HB7 := Lib.hid hb8
    have HO7 := Lib.hid (own_keeps HOd.out hk7 (by simp))
    have HK7 := Lib.hid (HKd.out.trans (hk7.mono (by simp)))
    have hg7 := HGBd.out.keeps hk7 (by simp)
    have k1 := hg7.cell 1
    simp only [List.getElem?_cons_zero, List.getElem?_cons_succ] at k1
    rw [← HM.out] at k1
    have HV7 := Lib.hid ho7
    obtain ⟨A7, c7, rfl⟩ := own_formW ho7
    have f2 := hb8.frozen 2
    have j2 := hb8.cell 2
    simp only [List.getElem?_cons_zero, List.getElem?_cons_succ] at j2
    have HVB : Hid (∀ x, (Value.slice A7 (M - t) c7).ownBlock = some x → w6.drew.heap.size ≤ x) := Lib.hid (fun x hx => own_lo HV7.out x hx)
    clear hb8 ho7 hb7 hk7 hg7 HBd HOd HKd HRCd HGBd
    go_wp2_with fail
    go_ret2
    have hb9 := HB7.out.set 2 (.int .i64 M)
    simp only [List.set_cons_succ, List.set_cons_zero] at hb9
    have ho9 := ownsRow_setCell_below HO7.out (a := ⟨s, 2, none⟩) (Nat.lt_succ_self s) (.int .i64 M)
    have hv9 := own_keeps HV7.out (S := [s]) ((Keeps.refl [s] w7).setCell (p := ⟨s, 2, none⟩) (Or.inl (by simp)) (.int .i64 M)) (fun x hx hm => by have := HVB.out x hx; rw [List.mem_singleton.1 hm] at this; have := HW6S.out; have : w6.heap.size = w6.drew.heap.size := rfl; omega)
    refine HFT.out _ _ _ _ HFR ?_ (HST.out M U _ hb9 ho9 (fun _ => HM.out) HUQ.out) (HK7.out.setCell (p := ⟨s, 2, none⟩) (Or.inl (by simp)) _) HFB1.out (fun x hx hx2 => ?_)
    · rw [List.length_drop, ← HM.out]
      exact hv9.mono (by have := HW6S.out; have := HW2S.out; have : w6.heap.size = w6.drew.heap.size := rfl; omega)
    · have a := HVB.out x hx
      have b : w6.heap.size = w6.drew.heap.size := rfl
      have c := HW6S.out
      cases vB with
      | none => simp [Value.ownBlock] at hx2
      | some ad =>
        have d := HLT2.out ad rfl
        have e : ad.block = x := by simpa [Value.ownBlock] using hx2
        omega
  by_cases he55 : e1 ≠ 55
  · have g0 : (e1 != 0) = true := by simpa using he0
    have g5 : (e1 != 55) = true := by simpa using he55
    have HFR : Hid (feedR (o0, p0, 55) (o1, p1, e1) = ([], e1)) := Lib.hid (by unfold feedR; rw [if_neg (by rintro (h | h); exact he0 h; exact he55 h)])
    have HS4 := Lib.hid (HST.out t u w4 HB4.out HO4.out (fun h => by omega) (fun h => by omega))
    clear HST HPS HQ he0 he55 HRD HGB HGR2
    go_wp2_with fail
    go_ret2
    exact HFH.out (.int .i64 0) e1 _ _ HFR HS4.out HK4.out HFB1.out
  · obtain rfl : e1 = 55 := Classical.not_not.1 he55
    clear he55
    obtain ⟨w6, hw6⟩ : ∃ w6, w6 = w4 := ⟨_, rfl⟩
    rw [← hw6] at HB4 HO4 HK4 HGB HGR2 HW4S ⊢
    clear hw6 HRD HQ he0
    have HB6 := HB4
    have HO6 := HO4
    have HK6 := HK4
    have HGB6 := HGB
    have HGR6 := HGR2
    have HW6S := HW4S
    obtain ⟨U, hU⟩ : ∃ U, U = u := ⟨_, rfl⟩
    have HUQ : Hid ((55 : Int) = 0 → U = (p1 + 7) / 8) := Lib.hid (fun h => by simp at h)
    rw [← hU] at HB6
    clear hU HB4 HO4 HK4 HGB HGR2 HW4S
    have HFR : Hid (feedR (o0, p0, 55) (o1, p1, 55) = (o1.drop t, 0)) := Lib.hid (by unfold feedR; rw [if_pos (.inr rfl), HTO.out])
    have HTT : Hid ((55 : Int) = 55 ∨ (55 : Int) = 0 → o1.length = o1.length) := Lib.hid (fun _ => rfl)
    go_upto_region 14 with (fail)
    have k1 := HGB6.out.cell 1
    have k2 := HB6.out.cell 2
    simp only [List.getElem?_cons_zero, List.getElem?_cons_succ] at k1 k2
    have htl : t ≤ o1.length := by rw [HTO.out]; exact HPRE.out.length_le
    obtain ⟨M, hM⟩ : ∃ M, M = o1.length := ⟨_, rfl⟩
    have HM := Lib.hid hM
    have hMb : M ≤ 4000000000 := by rw [hM]; have := inflF_le (fed ++ b) most; rw [← HR1.out] at this; simp only [] at this; omega
    rw [← hM] at k1 htl HGR6 HTT
    have HGC' : Hid (M ≤ vcG) := Lib.hid (by rw [hM]; exact HGC.out)
    have HCN := Lib.hid (cutA_nil (l := t) (n := M) (c := vcG) (fun h => by have := HGN.out h; rw [hM]; exact this))
    clear hM
    have HRC := Lib.hid (HGR6.out.cut HGP.out htl HGC'.out)
    have hsl := fun w => slice_from8 w vG M vcG t t rfl htl
    go_still_tail 9, (by kernel_rfl)
    change wpList _ _ _ _ _ w6.drew
    have hdr := (Keeps.refl [] w6).drew
    have HBd := Lib.hid (HB6.out.keeps hdr (by simp))
    have HOd := Lib.hid (own_keeps HO6.out hdr (by simp))
    have HKd := Lib.hid (HK6.out.trans (hdr.mono (by simp)))
    have HRCd := Lib.hid (HRC.out.keeps hdr (off_nil _))
    have HGBd := Lib.hid (HGB6.out.keeps hdr (by simp))
    clear hdr HB6 HO6 HK6 HRC HGB6 HGR6 k1 k2 hsl
    go_wp2_with fail
    refine (bclone_calls w6.drew (cutA vG t vcG) (M - t) (vcG - t) (o1.drop t) HRCd.out HCN.out (by omega)).mono ?_
    rintro _ w7 ⟨v7, rfl, ho7, hb7⟩
    have hk7 := Keeps.of_below hb7 (S := [])
    have hb8 := HBd.out.keeps hk7 (by simp)
    have HB7 := Lib.hid hb8
    have HO7 := Lib.hid (own_keeps HOd.out hk7 (by simp))
    have HK7 := Lib.hid (HKd.out.trans (hk7.mono (by simp)))
    have hg7 := HGBd.out.keeps hk7 (by simp)
    have k1 := hg7.cell 1
    simp only [List.getElem?_cons_zero, List.getElem?_cons_succ] at k1
    rw [← HM.out] at k1
    have HV7 := Lib.hid ho7
    obtain ⟨A7, c7, rfl⟩ := own_formW ho7
    have f2 := hb8.frozen 2
    have j2 := hb8.cell 2
    simp only [List.getElem?_cons_zero, List.getElem?_cons_succ] at j2
    have HVB : Hid (∀ x, (Value.slice A7 (M - t) c7).ownBlock = some x → w6.drew.heap.size ≤ x) := Lib.hid (fun x hx => own_lo HV7.out x hx)
    clear hb8 ho7 hb7 hk7 hg7 HBd HOd HKd HRCd HGBd
    go_wp2_with fail
    go_ret2
    have hb9 := HB7.out.set 2 (.int .i64 M)
    simp only [List.set_cons_succ, List.set_cons_zero] at hb9
    have ho9 := ownsRow_setCell_below HO7.out (a := ⟨s, 2, none⟩) (Nat.lt_succ_self s) (.int .i64 M)
    have hv9 := own_keeps HV7.out (S := [s]) ((Keeps.refl [s] w7).setCell (p := ⟨s, 2, none⟩) (Or.inl (by simp)) (.int .i64 M)) (fun x hx hm => by have := HVB.out x hx; rw [List.mem_singleton.1 hm] at this; have := HW6S.out; have : w6.heap.size = w6.drew.heap.size := rfl; omega)
    refine HFT.out _ _ _ _ HFR ?_ (HST.out M U _ hb9 ho9 (fun _ => HM.out) HUQ.out) (HK7.out.setCell (p := ⟨s, 2, none⟩) (Or.inl (by simp)) _) HFB1.out (fun x hx hx2 => ?_)
    · rw [List.length_drop, ← HM.out]
      exact hv9.mono (by have := HW6S.out; have := HW2S.out; have : w6.heap.size = w6.drew.heap.size := rfl; omega)
    · have a := HVB.out x hx
      have b : w6.heap.size = w6.drew.heap.size := rfl
      have c := HW6S.out
      cases vB with
      | none => simp [Value.ownBlock] at hx2
      | some ad =>
        have d := HLT2.out ad rfl
        have e : ad.block = x := by simpa [Value.ownBlock] using hx2
        omega
end Go.Proofs.YtkpabdjniiepkaaGreatDoor

set_option linter.unusedVariables false
set_option linter.unusedSimpArgs false
namespace Go.Proofs.YtkpabdjniiepkaaGreatDoor
open Go.RowKit
theorem aw_facts : inflR [75, 76, 74, 6, 0] 9 = ([97, 98, 99], 5, 0) ∧ inflR [75, 132, 0, 0] 99 = ([97, 97, 97, 97, 97, 97, 97], 4, 0) ∧ inflR [7] 9 = ([], 0, 50) ∧ inflF [75, 76] 9 = ([97], 0, 55) ∧
    (inflF [75, 76, 74, 6, 0, 255] 9).1 = [97, 98, 99] ∧ (inflF [75, 76, 74, 6, 0, 255] 9).2.2 = 0 ∧ ((inflF [75, 76, 74, 6, 0, 255] 9).2.1 + 7) / 8 = 5 := by decide +kernel
end Go.Proofs.YtkpabdjniiepkaaGreatDoor

set_option linter.unusedVariables false
set_option linter.unusedSimpArgs false
namespace Go.Proofs.YtkpabdjniiepkaaGreatDoor
open Go.RowKit
/-- A row of one's own behind a call that keeps all. -/
theorem ri_below {k : IntKind} {w w' : World} {A : Option Addr} {n : Nat} {xs : List Int} (h : RI k w A n xs) (hb : Below w.heap.size w w') : RI k w' A n xs := h.keeps (Keeps.of_below hb (S := [])) (off_nil _)
end Go.Proofs.YtkpabdjniiepkaaGreatDoor

set_option linter.unusedVariables false
set_option linter.unusedSimpArgs false
namespace Go.Proofs.YtkpabdjniiepkaaGreatDoor
open Go.RowKit
/-- Where a part of bytes ends. -/
def cutF (at_ n : Nat) (sizes : List Int) (i : Nat) : Nat := if sizes.length ≤ i ∨ nth sizes i < 0 ∨ (n : Int) - at_ < nth sizes i then n else at_ + (nth sizes i).toNat
theorem cutF_bd {at_ n : Nat} (h : at_ ≤ n) (sizes : List Int) (i : Nat) : at_ ≤ cutF at_ n sizes i ∧ cutF at_ n sizes i ≤ n := by
  unfold cutF
  split <;> omega
theorem cutF_last {at_ n : Nat} (sizes : List Int) (i : Nat) (h : sizes.length ≤ i) : cutF at_ n sizes i = n := by unfold cutF; rw [if_pos (.inl h)]
theorem parts_step {r0 r1 : IRes} {al : List Int} {m : Nat} (hx : Ext r0 r1) (ha : r0.2.2 = 0 ∨ r0.2.2 = 55 → al = r0.1) (hl : al.length ≤ m) (hl1 : r1.1.length ≤ m) :
    (r1.2.2 = 0 ∨ r1.2.2 = 55 → al ++ (feedR r0 r1).1 = r1.1) ∧ (al ++ (feedR r0 r1).1).length ≤ m := by
  by_cases h1 : r1.2.2 = 0 ∨ r1.2.2 = 55
  · have hf : (feedR r0 r1).1 = r1.1.drop r0.1.length := by unfold feedR; rw [if_pos h1]
    have h0 : r0.2.2 = 0 ∨ r0.2.2 = 55 := by
      by_cases h : r0.2.2 = 55
      · exact .inr h
      · rw [hx.1 h] at h1; exact h1
    have hp : r0.1 <+: r1.1 := by
      by_cases h : r0.2.2 = 55
      · exact hx.2 h
      · rw [hx.1 h]; exact List.prefix_refl _
    obtain ⟨t, ht⟩ := hp
    have e : al ++ (feedR r0 r1).1 = r1.1 := by
      rw [hf, ha h0, ← ht, List.drop_left]
    exact ⟨fun _ => e, by rw [e]; exact hl1⟩
  · have hf : (feedR r0 r1).1 = [] := by unfold feedR; rw [if_neg h1]
    rw [hf, List.append_nil]
    exact ⟨fun h => absurd h h1, hl⟩
end Go.Proofs.YtkpabdjniiepkaaGreatDoor
