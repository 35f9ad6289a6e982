/-
  Any bytes are inflated to just what the document says, or refused with what is wrong, whatever the limit; what is handed in stays.
-/
import Derived.Test.YtcblibefmclloaaDoorIAllK
import Derived.Test.YtcblibefmclloaaDoorIAllM
import Derived.Test.YtcblibefmclloaaDoorIAllJ
set_option linter.unusedVariables false
set_option linter.unusedSimpArgs false
namespace Go.Proofs.YtcblibefmclloaaDoor
open Go.RowKit
set_option maxRecDepth 100000 in
set_option maxHeartbeats 4000000 in
theorem inflateAll_walk (w : World) (A : Option Addr) (n c : Nat) (bs : List Int) (most : Int) (hT : Tabs w) (hb : RI .u8 w A n bs) (hm : n ≤ maxLen) (hnil : A = none → n = 0 ∧ c = 0) (hwf : ∀ x ∈ bs, (Lit.int .u8 x).wf = true) (hC : CapOk A n c) (hk1 : (Lit.int .i64 most).wf = true) :
    Calls Tryd.prog 7 #[.slice A n c, .int .i64 most] w fun e w' => e = .returned (.bool true) ∧ Keeps [] w w' := by
  have HT := Lib.hid hT
  have HB := Lib.hid hb
  have HN := Lib.hid hnil
  have HY := Lib.hid (byte_ofwf hwf)
  have HLB := Lib.hid hb.len
  obtain ⟨i1, i2⟩ := int_ofwf hk1
  unfold maxLen at hm
  clear hT hb hnil hwf hC hk1
  go_enter Tryd.func7, Tryd.ntmps7
  by_cases h1 : 65536 < n
  · have e1 : decide (65536 < n) = true := by simpa using h1
    have e1' : decide ((65536 : Int) < (n : Int)) = true := by simp; omega
    go_wp2_with fail
    go_ret
    exact ⟨rfl, Keeps.refl _ _⟩
  have e1 : decide (65536 < n) = false := by simpa using h1
  have e1' : decide ((65536 : Int) < (n : Int)) = false := by simp; omega
  go_wp2_with fail
  clear e1 e1'
  refine (lend_calls w A n c bs HB.out (by omega)).mono ?_
  rintro _ w1 ⟨g, rfl, hl1, hg1, hb1⟩
  have hk1 := Keeps.of_below hb1 (S := [])
  have HL1 := Lib.hid hl1
  have HG : Hid (w.heap.size ≤ g) := Lib.hid hg1
  have HK1 := Lib.hid hk1
  have HB1 := Lib.hid (HB.out.keeps hk1 (off_nil _))
  have HT1 := Lib.hid (HT.out.keeps hk1 (by simp))
  have HRL : Hid (RI .u8 w1 (some ⟨g, 0, none⟩) n bs) := Lib.hid (by have := hl1.ri; rwa [HLB.out] at this)
  clear hl1 hg1 hb1 hk1
  go_wp2_with fail
  refine (inflateU_calls w1 (some ⟨g, 0, none⟩) n (n + 2) bs most HT1.out HRL.out (by simp) HY.out (by omega)).mono ?_
  rintro _ w2 ⟨v2, rfl, ho2, hb2, hu2⟩
  obtain ⟨r, hr⟩ : ∃ r, r = inflR bs most := ⟨_, rfl⟩
  have HR := Lib.hid hr
  rw [← hr] at ho2 ⊢
  obtain ⟨o, p, er⟩ := r
  simp only [] at ho2 ⊢
  have hob : o.length ≤ 16384 := by
    by_cases he : (inflR bs most).2.2 = 0
    · have h1 := (inflR_le he).2
      obtain ⟨_, h2, _⟩ := inflR_ok he
      rw [← hr] at h1
      simp only [] at h1
      omega
    · have := (inflR_bad he).1
      rw [← hr] at this
      simp only [] at this
      rw [this]; simp
  obtain ⟨A2, c2, rfl⟩ := own_formW ho2
  obtain ⟨L, hL⟩ : ∃ L, L = o.length := ⟨_, rfl⟩
  rw [← hL] at ho2 hu2 hob ⊢
  have HLO := Lib.hid hL
  have hk2 := Keeps.of_below hb2 (S := [])
  have HO2 := Lib.hid ho2
  have HU2 := Lib.hid hu2
  have HK2 := Lib.hid (HK1.out.trans hk2)
  have HL2 : Hid (Lent8 w2 g bs) := Lib.hid (Blk.keeps HL1.out hk2 (by simp))
  have HB2 := Lib.hid (HB1.out.keeps hk2 (off_nil _))
  have HGS : Hid (g < w1.heap.size) := Lib.hid (Blk.lt HL1.out)
  clear hr ho2 hu2 hb2 hk2 hL HL1 HK1 HB1 HT1 HRL
  go_wp2_with fail
  refine (back_keep_calls w2 g A n c bs HL2.out HLB.out HB2.out (by omega)).mono ?_
  rintro _ w3 ⟨rfl, hk3⟩
  have hgx : ∀ {x : Nat}, w1.heap.size ≤ x → x ∉ [g] := fun h hm => by have := HGS.out; rw [List.mem_singleton.1 hm] at h; omega
  have HK3 := Lib.hid (HK2.out.then hk3 (fun x hx => .inr (by rw [List.mem_singleton.1 hx]; exact HG.out)))
  have HO3 := Lib.hid (own_keeps HO2.out hk3 (fun x hx => hgx (own_lo HO2.out x hx)))
  have HU3 := Lib.hid (HU2.out.keeps hk3 (fun x hx => hgx (own_lo HO2.out x hx)))
  have HB3 := Lib.hid (HB.out.keeps HK3.out (off_nil _))
  have HSZ3 : Hid (∀ x, (Value.slice A2 L c2).ownBlock = some x → x < w3.heap.size) := Lib.hid (fun x hx => own_hi HO3.out x hx)
  have HW1 : Hid (w.heap.size ≤ w1.heap.size) := Lib.hid (by have := HG.out; have := HGS.out; omega)
  clear hk3 hgx HK2 HO2 HU2 HL2 HB2 HGS
  go_wp2_with fail
  refine (rinflate_calls w3 A n c bs most HB3.out HY.out (by omega)).mono ?_
  rintro _ w4 ⟨B2, d2, rfl, hr4, hlo4, hk4⟩
  rw [← HR.out] at hr4 ⊢
  simp only [] at hr4 ⊢
  rw [← HLO.out] at hr4 ⊢
  have HR4 := Lib.hid hr4
  have HB24 : Hid (∀ a, B2 = some a → w3.heap.size ≤ a.block) := Lib.hid hlo4
  have HK4 := Lib.hid (HK3.out.trans hk4)
  have HO4 := Lib.hid (own_keeps HO3.out hk4 (by simp))
  have HU4 := Lib.hid (HU3.out.keeps hk4 (by simp))
  clear hr4 hlo4 hk4 HK3 HO3 HU3 HB3
  obtain ⟨A2', c2', hv, hri, -, -⟩ := own_ri HO4.out
  injection hv with q1 q2 q3
  subst q1
  subst q3
  have HRI := Lib.hid hri
  clear hri q2
  go_wp2_with fail
  refine (keepBytes_calls w4 A2 B2 L L c2 d2 o o HRI.out HR4.out (by omega) (by omega)).mono ?_
  rintro _ w5 ⟨rfl, hd5⟩
  rw [beq_self_eq_true]
  have hk5 := hd5.keeps (S := [])
  have HK5 := Lib.hid (HK4.out.trans hk5)
  have HO5 := Lib.hid (own_keeps HO4.out hk5 (by simp))
  have HU5 := Lib.hid (HU4.out.keeps hk5 (by simp))
  have HR5 := Lib.hid (HR4.out.keeps hk5 (off_nil _))
  clear hd5 hk5 HK4 HO4 HU4 HR4 HRI
  go_wp2_with fail
  refine (spoil_calls w5 w1.heap.size A2 L c2 o HO5.out HU5.out).mono ?_
  rintro _ w6 ⟨rfl, hk6⟩
  have HK6 := Lib.hid (HK5.out.then hk6 (fun x hx => .inr (Nat.le_trans HW1.out (own_lo HO5.out x (Option.mem_toList.1 hx)))))
  have HR6 := Lib.hid (HR5.out.keeps hk6 (fun a ha hm => by
    have h1 := HB24.out a ha
    have h2 := HSZ3.out a.block (Option.mem_toList.1 hm)
    omega))
  have HB6 := Lib.hid (HB.out.keeps HK6.out (off_nil _))
  have HT6 := Lib.hid (HT.out.keeps HK6.out (by simp))
  clear hk6 HK5 HO5 HU5 HR5 HB24 HSZ3
  go_wp2_with fail
  refine (inflate_calls w6 A n c bs most HT6.out HB6.out HN.out HY.out (by omega)).mono ?_
  rintro _ w7 ⟨v7, rfl, ho7, hb7⟩
  rw [← HR.out] at ho7 ⊢
  simp only [] at ho7 ⊢
  rw [← HLO.out] at ho7
  obtain ⟨A7, c7, rfl, hr7, -, -⟩ := own_ri ho7
  have hk7 := Keeps.of_below hb7 (S := [])
  have HK7 := Lib.hid (HK6.out.trans hk7)
  have HR7 := Lib.hid (HR6.out.keeps hk7 (off_nil _))
  have HR77 := Lib.hid hr7
  have HT7 := Lib.hid (HT6.out.keeps hk7 (by simp))
  clear ho7 hb7 hr7 hk7 HK6 HR6 HB6 HT6
  go_wp2_with fail
  refine (awake5_calls w7 HT7.out).mono ?_
  rintro _ w8 ⟨rfl, hk8⟩
  have HK8 := Lib.hid (HK7.out.trans hk8)
  have HR8 := Lib.hid (HR7.out.keeps hk8 (off_nil _))
  have HR78 := Lib.hid (HR77.out.keeps hk8 (off_nil _))
  clear hk8 HK7 HR7 HR77 HT7
  go_wp2_with fail
  refine (keepBytes_calls w8 A7 B2 L L c7 d2 o o HR78.out HR8.out (by omega) (by omega)).mono ?_
  rintro _ w9 ⟨rfl, hd9⟩
  rw [beq_self_eq_true]
  have HK9 := Lib.hid (HK8.out.trans (hd9.keeps (S := [])))
  clear hd9 HK8 HR8 HR78
  go_wp2_with fail
  go_ret
  exact ⟨rfl, HK9.out⟩
end Go.Proofs.YtcblibefmclloaaDoor

/-
  Any bytes are inflated to just what the document says, or refused with what is wrong, whatever the limit; what is handed in stays.
-/
set_option linter.unusedVariables false
set_option linter.unusedSimpArgs false
namespace Go.Proofs.YtcblibefmclloaaDoor.inflateAll
open Go.ChangeShapes Go.WideShapes Go.ChangeAt Go.RowKit
set_option maxRecDepth 100000 in
theorem contract (H : Type) (enc : TypeId × Value → H) (W : World) (base : Nat) (args : Array Value) (ds gs : List (DataW H)) (before : List MemPlace)
    (hval : ∀ (j : Nat) t v, Tryd.f7.params[j]? = some t → args[j]? = some v → Value.okWide Tryd.prog W .any base t v)
    (hW : DataW.Whole enc Tryd.prog Tryd.f7.params.toList Rows.inflateAllSpec.vars false W args.toList ds gs before) (hL : laidMetH Tryd.prog Rows.inflateAllRow.laid W) :
    Calls Tryd.prog 7 args W fun e W' => ∃ v, e = .returned v ∧ Rows.inflateAllSpec.post enc Tryd.prog Tryd.f7 false true false false W args v W' := by
  have hT : Tabs W := tabs_of (laidMet.filter (fun x => x.1 == "haversack/lens.order" || x.1 == "haversack/lens.wide" || x.1 == "haversack/lens.from") hL)
  have hW' := hW
  obtain ⟨p, q, hA0, hV, rfl, hfz, hnd⟩ := hW
  have hA : DataW.TrodAll enc Tryd.prog W 0 (fun _ => true) true Tryd.f7.params.toList args.toList ds p := hA0
  rw [Tryd.params7] at hA hval
  obtain ⟨v0, vs0, d0, ds0, p0, q0, hargs, rfl, rfl, h0, r0⟩ := trodAll_cons hA
  obtain ⟨v1, vs1, d1, ds1, p1, q1, rfl, rfl, rfl, h1, r1⟩ := trodAll_cons r0
  obtain ⟨rfl, rfl, rfl⟩ := trodAll_nil r1
  obtain rfl : args = #[v0, v1] := by cases args; simp_all
  obtain ⟨rfl, rfl⟩ := trodVars_none hV
  obtain ⟨a0, len0, cap0, rfl⟩ := okWide_slice Tryd.underlying37 (hval 0 37 v0 rfl rfl)
  have k0 := h0
  have lt0 : ∀ x ∈ p0, x.block < W.heap.size := by obtain ⟨m, hm⟩ := k0; exact DataW.trod_lt m _ _ _ hm
  obtain ⟨z0, w0, m0, n0, y0, q0C⟩ := ri_cameC Tryd.underlying37 Tryd.underlying5 cellsU8 h0
  obtain ⟨a1, rfl, rfl, rfl, w1⟩ := open_int Tryd.underlying3 (hval 1 3 v1 rfl rfl) h1
  clear hA0
  refine (inflateAll_walk W a0 len0 cap0 z0 a1 hT w0 m0 n0 y0 q0C w1).mono fun e W' ⟨he, hk⟩ => ?_
  have bel := hk.below
  subst he
  exact ⟨_, rfl, _, _, _, [], _, [], hW', trodAll_mk1 (shut_bool Tryd.underlying4 _), (trodAll_cons_mk (Below.trod laidOut (by kernel_rfl) (of_decide_eq_true (by kernel_rfl)) k0 bel lt0) (trodAll_cons_mk (shut_int Tryd.underlying3 w1) trodAll_mk0)), rfl, bel.frame _, fun h => by cases h⟩
theorem reads (os : Os) {H : Type} (enc : TypeId × Value → H) : ∃ places, DataW.whole enc Tryd.prog ((laidWorld os).forCall (fun _ _ => 0) ⟨#[], #[.slice none 0 0, .int .i64 0], []⟩).memory Tryd.f7.params.toList Rows.inflateAllSpec.vars false #[Value.slice none 0 0, .int .i64 0].toList 8 = some ([.nil, .lit (.int .i64 0)], [], places) :=
  ⟨[], by kernel_rfl⟩
set_option maxRecDepth 100000 in
theorem lifted (os : Os) (started : os.Started) (H : Type) (enc : TypeId × Value → H) (F : Stop.Interp) :
    ReturnsInHanded {} Tryd.checked os 7 .any ((OpenSpec.ofChange Rows.inflateAllSpec).preRow enc Tryd.prog Tryd.f7 Rows.inflateAllRow.domain false Rows.inflateAllRow.laid) (((OpenSpec.ofChange Rows.inflateAllSpec).at F).post enc Tryd.prog Tryd.f7 false true false false) := by
  obtain ⟨places, hx⟩ := reads os enc
  refine returnsInHanded_of_row (C := Tryd.checked) (s := OpenSpec.ofChange Rows.inflateAllSpec) own started (by kernel_rfl) Tryd.func7
    (witness_row_at (enc := enc) (C := Tryd.checked) false (laidWorld os) #[.slice none 0 0, .int .i64 0] rfl (by kernel_rfl) (by kernel_rfl) (by kernel_rfl)
      (OpenSpec.preRow_of_cond 8 hx (by kernel_rfl) (fun k hk => by cases hk) (by kernel_rfl) (laid_met os _))) ?_
  intro W base args ds gs before hval hW _ _ _ hL _ _
  exact contract H enc W base args ds gs before hval hW hL
theorem said : Rows.InflateAllSaid :=
  OpenClaim.holds_of_cond 7 Tryd.f7 rfl rfl rfl rfl rfl rfl rfl ⟨rfl, rfl, rfl, rfl, rfl⟩ rfl rfl rfl rfl rfl (by kernel_rfl) Tryd.func7 (by kernel_rfl)
    (of_decide_eq_true (by kernel_rfl)) (by unfold Func.isWrapper; first | (rw [if_pos (by decide +kernel)]; kernel_rfl) | (rw [if_neg (by decide +kernel)]; exact ⟨rfl, rfl⟩))
    (fun os started H enc _ F => by rw [OpenClaim.pre_eq_preRow]; exact lifted os started H enc F)
theorem plain (f : FuncId) (fn : Func) (hf : Tryd.pinned.checked.prog.funcNamed "haversack/haversacklaw05.InflateAll" = some f) (hfn : Tryd.pinned.checked.prog.funcs[f]? = some fn) :
    false = Tryd.pinned.checked.prog.looks [] ∧ ∀ (j : Nat) t, fn.params[j]? = some t → Tryd.pinned.checked.prog.wantsStandIn t = false := by
  obtain rfl : f = 7 := Option.some.inj ((show Tryd.prog.funcNamed "haversack/haversacklaw05.InflateAll" = some 7 by kernel_rfl).symm.trans hf) |>.symm
  obtain rfl : fn = Tryd.f7 := (Option.some.inj (Tryd.func7.symm.trans hfn)).symm
  refine ⟨by kernel_rfl, fun j t ht => ?_⟩
  rw [Tryd.params7] at ht
  have hm := Array.mem_of_getElem? ht
  have hm2 : t = 37 ∨ t = 3 := by simpa using hm
  rcases hm2 with rfl | rfl
  · exact (show Tryd.prog.wantsStandIn 37 = false by kernel_rfl)
  · exact (show Tryd.prog.wantsStandIn 3 = false by kernel_rfl)
/-- The card. -/
theorem card : Rows.InflateAllCardSaid :=
  Claim7.holds_tied_plain_at .later [] _ _ _ _ said (fun _ h => by cases h) (by kernel_rfl) (fun _ h => by cases h) inflateAll_row_tie rfl ⟨rfl, rfl⟩ (by kernel_rfl) rfl plain (by kernel_rfl)
#print axioms card
end Go.Proofs.YtcblibefmclloaaDoor.inflateAll
