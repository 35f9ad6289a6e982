/-
  A stored block of any bytes is just the one that the document tells, or the bytes are too many and refused; what is handed in stays.
-/
import Derived.Test.YtkpabdjniiepkaaDoorDflN
import Derived.Test.YtkpabdjniiepkaaDoorDflO
import Derived.Test.YtkpabdjniiepkaaDoorDflL
set_option linter.unusedVariables false
set_option linter.unusedSimpArgs false
/-! ref07.Stored. -/
namespace Go.Proofs.YtkpabdjniiepkaaDoor
open Go.RowKit
set_option maxRecDepth 100000 in
set_option maxHeartbeats 1000000 in
theorem r7stored_calls (w : World) (A : Option Addr) (n c : Nat) (xs : List Int) (hr : RI .u8 w A n xs) (hnil : A = none → n = 0 ∧ c = 0) (hn : n ≤ 16384) :
    Calls Tryd.prog 16 #[.slice A n c] w fun e w' => ∃ v, e = .returned v ∧ w'.ownsRow w.heap.size 5 1 v (5 + n) (ints .u8 (storB 1 xs)) ∧ Below w.heap.size w w' := by
  have HR := Lib.hid hr
  have HN := Lib.hid hnil
  have HLN : Hid (xs.length = n) := Lib.hid hr.len
  clear hr hnil
  have HM : Hid ([1, (n : Int) % 256, (n : Int) / 256, 255 - (n : Int) % 256, 255 - (n : Int) / 256] ++ xs = storB 1 xs) := Lib.hid (by unfold storB; rw [HLN.out])
  have hblk := blk_new w 5 (ints .u8 [1, (n : Int) % 256, (n : Int) / 256, 255 - (n : Int) % 256, 255 - (n : Int) / 256])
  have HO := Lib.hid (own_of_blkK (n := 5) (base := w.heap.size) hblk rfl (Nat.le_refl _) (by omega))
  have HR1 := Lib.hid (HR.out.keeps ((Keeps.refl [] w).alloc (.cells (ints .u8 [1, (n : Int) % 256, (n : Int) / 256, 255 - (n : Int) % 256, 255 - (n : Int) / 256]).toArray 5)) (off_nil _))
  clear hblk
  have s1 : IntKind.u8.wrap ((n : Int) % 256) = (n : Int) % 256 := IntWalk.u8_in _ (by omega)
  have s2 : IntKind.u8.wrap ((n : Int) / 256) = (n : Int) / 256 := IntWalk.u8_in _ (by omega)
  have s3 : IntKind.u8.wrap (255 - (n : Int) % 256) = 255 - (n : Int) % 256 := IntWalk.u8_in _ (by omega)
  have s4 : IntKind.u8.wrap (255 - (n : Int) / 256) = 255 - (n : Int) / 256 := IntWalk.u8_in _ (by omega)
  have s5 : IntKind.i64.wrap (255 - (n : Int) % 256) = 255 - (n : Int) % 256 := IntWalk.i64_in _ (by omega)
  have s6 : IntKind.i64.wrap (255 - (n : Int) / 256) = 255 - (n : Int) / 256 := IntWalk.i64_in _ (by omega)
  go_enter Tryd.func16, Tryd.ntmps16
  go_wp2_with (at_builtin; refine app_bytesB rfl (.tmp 22) (.tmp 23) rfl w.heap.size (.slice (some ⟨w.heap.size, 0, none⟩) 5 5) 5 [1, (n : Int) % 256, (n : Int) / 256, 255 - (n : Int) % 256, 255 - (n : Int) / 256] rfl (by exact HO.out) A n c xs rfl (by exact HR1.out) HN.out (by omega) (by simp) ?_)
  intro v' w' hown hg _
  have HOW := Lib.hid hown
  have HBW := Lib.hid (((Below.refl w.heap.size w).alloc (Nat.le_refl _) (.cells (ints .u8 [1, (n : Int) % 256, (n : Int) / 256, 255 - (n : Int) % 256, 255 - (n : Int) / 256]).toArray 5)).grown hg (by simp) (fun k hk => by simp only [Value.ownBlock, Option.some.injEq] at hk; omega))
  clear hown hg
  go_wp2_with fail
  go_ret
  refine ⟨_, rfl, ?_, HBW.out⟩
  rw [← HM.out]
  exact HOW.out
end Go.Proofs.YtkpabdjniiepkaaDoor

set_option linter.unusedVariables false
set_option linter.unusedSimpArgs false
namespace Go.Proofs.YtkpabdjniiepkaaDoor
open Go.RowKit
set_option maxRecDepth 100000 in
set_option maxHeartbeats 2000000 in
theorem deflateStored_walk (w : World) (A : Option Addr) (n c : Nat) (bs : List Int) (hT : Tabs w) (hb : RI .u8 w A n bs) (hm : n ≤ maxLen) (hnil : A = none → n = 0 ∧ c = 0) (hwf : ∀ x ∈ bs, (Lit.int .u8 x).wf = true) :
    Calls Tryd.prog 4 #[.slice A n c] w fun e w' => e = .returned (.bool true) ∧ Keeps [] w w' := by
  have HT := Lib.hid hT
  have HR := Lib.hid hb
  have HN := Lib.hid hnil
  have HL : Hid (bs.length = n) := Lib.hid hb.len
  unfold maxLen at hm
  clear hT hb hnil hwf
  go_enter Tryd.func4, Tryd.ntmps4
  by_cases h1 : 65536 < n
  · have e1 : decide (65536 < n) = true := by simpa using h1
    have e1' : decide ((65536 : Int) < (n : Int)) = true := by simp; omega
    go_wp2_with fail
    go_ret
    exact ⟨rfl, Keeps.refl _ _⟩
  have e1 : decide (65536 < n) = false := by simpa using h1
  have e1' : decide ((65536 : Int) < (n : Int)) = false := by simp; omega
  go_wp2_with fail
  refine (lend_calls w A n c bs HR.out (by omega)).mono ?_
  rintro _ w1 ⟨g1, rfl, hl1, hg1, hb1⟩
  have hk1 := Keeps.of_below hb1 (S := [])
  have hx1 : RI .u8 w1 (some ⟨g1, 0, none⟩) n bs := by have := hl1.ri; rwa [HL.out] at this
  have HL1 := Lib.hid hl1
  have HX1 := Lib.hid hx1
  have HK1 := Lib.hid hk1
  have HR1 := Lib.hid (HR.out.keeps hk1 (off_nil _))
  clear hl1 hk1 hx1 hb1 e1 e1'
  go_wp2_with fail
  refine (dstored_calls w1 (some ⟨g1, 0, none⟩) n (n + 2) bs HX1.out nofun).mono ?_
  rintro e w2 hst
  have hlw : g1 < w1.heap.size := HL1.out.lt
  obtain ⟨v, er, hv, hb2, hcase⟩ : ∃ v er, e = .returned (.tuple #[v, .int .i64 er]) ∧ Below w1.heap.size w1 w2 ∧ ((16384 < n ∧ v = .slice none 0 0 ∧ er = 2) ∨ (n ≤ 16384 ∧ er = 0 ∧ w2.ownsRow w1.heap.size 5 1 v (5 + n) (ints .u8 (storB 1 bs)))) := by
    rcases hst with ⟨q1, q2, q3⟩ | ⟨q1, v, q2, q3, q4, q5⟩
    · exact ⟨_, _, q2, q3, .inl ⟨q1, rfl, rfl⟩⟩
    · exact ⟨v, 0, q2, q5, .inr ⟨q1, rfl, q3⟩⟩
  subst hv
  have hk2 := Keeps.of_below hb2 (S := [])
  have HL2 : Hid (Lent8 w2 g1 bs) := Lib.hid (Blk.keeps HL1.out hk2 (by simp))
  have HR2 := Lib.hid (HR1.out.keeps hk2 (off_nil _))
  have HK2 := Lib.hid (HK1.out.trans hk2)
  have HC := Lib.hid hcase
  have hs2 := hk2.size
  clear hst hb2 hk2 HL1 HX1 HR1 HK1 hcase
  rcases HC.out with ⟨q1, rfl, rfl⟩ | ⟨q1, rfl, hov⟩
  · have x1 : decide (16384 < n) = true := by simpa using q1
    have x1' : decide ((16384 : Int) < (n : Int)) = true := by simp; omega
    clear HC
    go_wp2_with fail
    refine (back_keep_calls w2 g1 A n c bs HL2.out HL.out HR2.out (by omega)).mono ?_
    rintro _ w3 ⟨rfl, hk3⟩
    have HK3 := Lib.hid (HK2.out.fresh hk3 (by simp; exact hg1))
    clear hk3 HK2 HL2 HR2
    go_wp2_with fail
    refine (awake7_calls w3 (HT.out.keeps HK3.out (by simp))).mono ?_
    rintro _ w4 ⟨rfl, hk⟩
    have HK4 := Lib.hid (HK3.out.trans hk)
    clear hk HK3
    go_wp2_with fail
    go_ret
    exact ⟨rfl, HK4.out⟩
  · have x1 : decide (16384 < n) = false := by simp; omega
    have x1' : decide ((16384 : Int) < (n : Int)) = false := by simp; omega
    obtain ⟨g2, c2, rfl, hg2⟩ := own_some hov (by omega)
    have hri2 : RI .u8 w2 (some ⟨g2, 0, none⟩) (5 + n) (storB 1 bs) := by
      obtain ⟨A', c', hv, hr, -⟩ := own_ri hov
      injection hv with q1 q2 q3
      subst q1
      exact hr
    have HRI2 := Lib.hid hri2
    have hne : g2 ≠ g1 := by omega
    clear HC hov hri2
    go_wp2_with fail
    refine (back_keep_calls w2 g1 A n c bs HL2.out HL.out HR2.out (by omega)).mono ?_
    rintro _ w3 ⟨rfl, hk3⟩
    have HK3 := Lib.hid (HK2.out.fresh hk3 (by simp; exact hg1))
    have HRI3 := Lib.hid (HRI2.out.keeps hk3 (fun a ha hm => by injection ha with ha; subst ha; simp at hm; exact hne hm))
    have HR3 := Lib.hid (HR.out.keeps HK3.out (off_nil _))
    clear hk3 HK2 HL2 HR2 HRI2
    go_wp2_with fail
    refine (awake7_calls w3 (HT.out.keeps HK3.out (by simp))).mono ?_
    rintro _ w4 ⟨rfl, hk⟩
    have HK4 := Lib.hid (HK3.out.trans hk)
    have HRI4 := Lib.hid (HRI3.out.keeps hk (off_nil _))
    have HR4 := Lib.hid (HR3.out.keeps hk (off_nil _))
    clear hk HK3 HRI3 HR3
    go_wp2_with fail
    refine (r7stored_calls w4 A n c bs HR4.out HN.out q1).mono ?_
    rintro _ w5 ⟨v5, rfl, ho5, hb5⟩
    obtain ⟨A5, c5, rfl⟩ := own_formW ho5
    have hr5 : RI .u8 w5 A5 (5 + n) (storB 1 bs) := by
      obtain ⟨A', c', hv, hr, -⟩ := own_ri ho5
      injection hv with q1 q2 q3
      subst q1
      exact hr
    have HR5 := Lib.hid hr5
    have HRI5 := Lib.hid (HRI4.out.keeps (Keeps.of_below hb5 (S := [])) (off_nil _))
    have HK5 := Lib.hid (HK4.out.trans (Keeps.of_below hb5))
    clear ho5 hb5 hr5 HK4 HRI4 HR4
    go_wp2_with fail
    refine (keepBytes_calls w5 _ _ (5 + n) (5 + n) c2 c5 _ _ HRI5.out HR5.out (by omega) (by omega)).mono ?_
    rintro _ w6 ⟨rfl, hd6⟩
    rw [beq_self_eq_true]
    have HK6 := Lib.hid (HK5.out.trans (hd6.keeps (S := [])))
    clear hd6
    go_wp2_with fail
    go_ret
    exact ⟨rfl, HK6.out⟩
end Go.Proofs.YtkpabdjniiepkaaDoor

/-
  A stored block of any bytes is just the one that the document tells, or the bytes are too many and refused; what is handed in stays.
-/
set_option linter.unusedVariables false
set_option linter.unusedSimpArgs false
namespace Go.Proofs.YtkpabdjniiepkaaDoor.deflateStored
open Go.ChangeShapes Go.WideShapes Go.ChangeAt Go.RowKit
set_option maxRecDepth 100000 in
theorem contract (H : Type) (enc : TypeId × Value → H) (W : World) (base : Nat) (args : Array Value) (ds gs : List (DataW H)) (before : List MemPlace)
    (hval : ∀ (j : Nat) t v, Tryd.f4.params[j]? = some t → args[j]? = some v → Value.okWide Tryd.prog W .any base t v)
    (hW : DataW.Whole enc Tryd.prog Tryd.f4.params.toList Rows.deflateStoredSpec.vars false W args.toList ds gs before) (hL : laidMetH Tryd.prog Rows.deflateStoredRow.laid W) :
    Calls Tryd.prog 4 args W fun e W' => ∃ v, e = .returned v ∧ Rows.deflateStoredSpec.post enc Tryd.prog Tryd.f4 false true false false W args v W' := by
  have hT : Tabs W := tabs_of (laidMet.filter (fun x => x.1 == "haversack/lens.order" || x.1 == "haversack/lens.wide" || x.1 == "haversack/lens.from") hL)
  have hW' := hW
  obtain ⟨p, q, hA0, hV, rfl, hfz, hnd⟩ := hW
  have hA : DataW.TrodAll enc Tryd.prog W 0 (fun _ => true) true Tryd.f4.params.toList args.toList ds p := hA0
  rw [Tryd.params4] at hA hval
  obtain ⟨v0, vs0, d0, ds0, p0, q0, hargs, rfl, rfl, h0, r0⟩ := trodAll_cons hA
  obtain ⟨rfl, rfl, rfl⟩ := trodAll_nil r0
  obtain rfl : args = #[v0] := by cases args; simp_all
  obtain ⟨rfl, rfl⟩ := trodVars_none hV
  obtain ⟨a0, len0, cap0, rfl⟩ := okWide_slice Tryd.underlying22 (hval 0 22 v0 rfl rfl)
  have k0 := h0
  have lt0 : ∀ x ∈ p0, x.block < W.heap.size := by obtain ⟨m, hm⟩ := k0; exact DataW.trod_lt m _ _ _ hm
  obtain ⟨z0, w0, m0, n0, y0⟩ := ri_came Tryd.underlying22 Tryd.underlying5 cellsU8 h0
  clear hA0
  refine (deflateStored_walk W a0 len0 cap0 z0 hT w0 m0 n0 y0).mono fun e W' ⟨he, hk⟩ => ?_
  have bel := hk.below
  subst he
  exact ⟨_, rfl, _, _, _, [], _, [], hW', trodAll_mk1 (shut_bool Tryd.underlying4 _), (trodAll_cons_mk (Below.trod laidOut (by kernel_rfl) (of_decide_eq_true (by kernel_rfl)) k0 bel lt0) trodAll_mk0), rfl, bel.frame _, fun h => by cases h⟩
theorem reads (os : Os) {H : Type} (enc : TypeId × Value → H) : ∃ places, DataW.whole enc Tryd.prog ((laidWorld os).forCall (fun _ _ => 0) ⟨#[], #[.slice none 0 0], []⟩).memory Tryd.f4.params.toList Rows.deflateStoredSpec.vars false #[Value.slice none 0 0].toList 8 = some ([.nil], [], places) :=
  ⟨[], by kernel_rfl⟩
set_option maxRecDepth 100000 in
theorem lifted (os : Os) (started : os.Started) (H : Type) (enc : TypeId × Value → H) (F : Stop.Interp) :
    ReturnsInHanded {} Tryd.checked os 4 .any ((OpenSpec.ofChange Rows.deflateStoredSpec).preRow enc Tryd.prog Tryd.f4 Rows.deflateStoredRow.domain false Rows.deflateStoredRow.laid) (((OpenSpec.ofChange Rows.deflateStoredSpec).at F).post enc Tryd.prog Tryd.f4 false true false false) := by
  obtain ⟨places, hx⟩ := reads os enc
  refine returnsInHanded_of_row (C := Tryd.checked) (s := OpenSpec.ofChange Rows.deflateStoredSpec) own started (by kernel_rfl) Tryd.func4
    (witness_row_at (enc := enc) (C := Tryd.checked) false (laidWorld os) #[.slice none 0 0] rfl (by kernel_rfl) (by kernel_rfl) (by kernel_rfl)
      (OpenSpec.preRow_of_cond 8 hx (by kernel_rfl) (fun k hk => by cases hk) (by kernel_rfl) (laid_met os _))) ?_
  intro W base args ds gs before hval hW _ _ _ hL _ _
  exact contract H enc W base args ds gs before hval hW hL
theorem said : Rows.DeflateStoredSaid :=
  OpenClaim.holds_of_cond 4 Tryd.f4 rfl rfl rfl rfl rfl rfl rfl ⟨rfl, rfl, rfl, rfl, rfl⟩ rfl rfl rfl rfl rfl (by kernel_rfl) Tryd.func4 (by kernel_rfl)
    (of_decide_eq_true (by kernel_rfl)) (by unfold Func.isWrapper; first | (rw [if_pos (by decide +kernel)]; kernel_rfl) | (rw [if_neg (by decide +kernel)]; exact ⟨rfl, rfl⟩))
    (fun os started H enc _ F => by rw [OpenClaim.pre_eq_preRow]; exact lifted os started H enc F)
theorem plain (f : FuncId) (fn : Func) (hf : Tryd.pinned.checked.prog.funcNamed "haversack/haversacklaw07.DeflateStored" = some f) (hfn : Tryd.pinned.checked.prog.funcs[f]? = some fn) :
    false = Tryd.pinned.checked.prog.looks [] ∧ ∀ (j : Nat) t, fn.params[j]? = some t → Tryd.pinned.checked.prog.wantsStandIn t = false := by
  obtain rfl : f = 4 := Option.some.inj ((show Tryd.prog.funcNamed "haversack/haversacklaw07.DeflateStored" = some 4 by kernel_rfl).symm.trans hf) |>.symm
  obtain rfl : fn = Tryd.f4 := (Option.some.inj (Tryd.func4.symm.trans hfn)).symm
  refine ⟨by kernel_rfl, fun j t ht => ?_⟩
  rw [Tryd.params4] at ht
  have hm := Array.mem_of_getElem? ht
  obtain rfl : t = 22 := by simpa using hm
  exact (show Tryd.prog.wantsStandIn 22 = false by kernel_rfl)
/-- The card. -/
theorem card : Rows.DeflateStoredCardSaid :=
  Claim7.holds_tied_plain_at .later [] _ _ _ _ said (fun _ h => by cases h) (by kernel_rfl) (fun _ h => by cases h) deflateStored_row_tie rfl ⟨rfl, rfl⟩ (by kernel_rfl) rfl plain (by kernel_rfl)
#print axioms card
end Go.Proofs.YtkpabdjniiepkaaDoor.deflateStored
