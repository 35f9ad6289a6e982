import Derived.Test.YtghjlpechjggjaaGreatDoorZshE
import Derived.Test.YtghjlpechjggjaaGreatDoorZshA
import Derived.Lib.SliceRun
import Derived.Deep.AppendLies
import Derived.Deep.RegionHeld3
import Derived.Deep.Onto
import Derived.Test.YtghjlpechjggjaaGreatDoorZshC
set_option linter.unusedVariables false
set_option linter.unusedSimpArgs false
set_option linter.constructorNameAsVariable false
set_option maxRecDepth 100000
set_option maxHeartbeats 60000000
namespace Go.Proofs.YtghjlpechjggjaaGreatDoor
open Go.RowKit
theorem info_pack : (Tryz.prog.info? 154).map (fun i => (i.zero, i.size, i.bytes)) = some (some (.agg #[.int .i64 0, .slice none 0 0]), 2, 32) := by kernel_rfl
theorem app_pack {ops : Array Oper} {rest : List Oper} {o : Oper} {a : Act} {Q : Exit → Act → World → Prop} {w : World} (hgd : o.guard = none) (s x : Operand)
  (ho : o.op = .call { callee := .builtin .append, args := #[s, x], argTypes := #[152, 152] })
  (base : Nat) (v : Value) (n : Nat) (L : List Pk) (hs : a.eval s = v) (hown : w.ownsRow base 154 2 v n (kcells L))
  (b : Nat) (p : Pk) (hx : a.eval x = .slice (some ⟨b, 0, none⟩) 1 1) (h0 : w.cell? ⟨b, 0, none⟩ = some (.int .i64 p.w)) (h1 : w.cell? ⟨b, 1, none⟩ = some (.slice p.a p.n p.c))
  (hn : n ≤ 1000000000) (hbase : base ≤ w.heap.size)
  (h : ∀ v' w', w'.ownsRow base 154 2 v' (n + 1) (kcells (L ++ [p])) → w.grownBy w' v.ownBlock → wpList Tryz.prog ops Q rest (a.put o.dst v') w') : wpList Tryz.prog ops Q (o :: rest) a w := by
 obtain ⟨i0, hi, hz0, hz1, hz2⟩ := info_parts info_pack
 refine wpList_append_own _ hgd s x 152 ho base 154 i0 (.agg #[.int .i64 0, .slice none 0 0]) 2 32 Tryz.underlying152 hi hz0 hz1 hz2 rfl (by decide) v n (kcells L) hs hown ⟨b, 0, none⟩ 1 1 (kcells [p]) hx rfl ?_ (kcells_one _) (by unfold maxLen; omega) (by omega) hbase ?_
 ·intro j u hu
  match j, hu with
  | 0, hu => simp [kcells] at hu; subst hu; rw [add_plain]; exact h0
  | 1, hu => simp [kcells] at hu; subst hu; rw [add_plain]; exact h1
  | j + 2, hu => simp [kcells] at hu
 ·intro v' w' h2 h3 _
  rw [kcells_append] at h
  exact h v' w' h2 h3
theorem step_pack {ops : Array Oper} {o : Oper} {a : Act} {K : Act → World → Prop} {Q : Exit → Act → World → Prop} {E : Prop} {w : World} (hgd : o.guard = none) (s x : Operand)
  (ho : o.op = .call { callee := .builtin .append, args := #[s, x], argTypes := #[152, 152] })
  (base : Nat) (v : Value) (n : Nat) (L : List Pk) (hs : a.eval s = v) (hown : w.ownsRow base 154 2 v n (kcells L))
  (b : Nat) (p : Pk) (hx : a.eval x = .slice (some ⟨b, 0, none⟩) 1 1) (h0 : w.cell? ⟨b, 0, none⟩ = some (.int .i64 p.w)) (h1 : w.cell? ⟨b, 1, none⟩ = some (.slice p.a p.n p.c))
  (hn : n ≤ 1000000000) (hbase : base ≤ w.heap.size)
  (h : ∀ g' c' w', w'.ownsRow base 154 2 (.slice (some ⟨g', 0, none⟩) (n + 1) c') (n + 1) (kcells (L ++ [p])) → w.grownBy w' v.ownBlock → K (a.put o.dst (.slice (some ⟨g', 0, none⟩) (n + 1) c')) w') :
  if Region.wanted o (yielded ops a.tmps) = true then Oper.wp Tryz.prog o a w K Q else E := by
 obtain ⟨i0, hi, hz0, hz1, hz2⟩ := info_parts info_pack
 refine step_append_lies _ hgd s x 152 ho base 154 i0 (.agg #[.int .i64 0, .slice none 0 0]) 2 32 Tryz.underlying152 hi hz0 hz1 hz2 rfl (by decide) v n (kcells L) hs hown ⟨b, 0, none⟩ 1 1 (kcells [p]) hx rfl ?_ (kcells_one _) (by omega) (by unfold maxLen; omega) (by omega) hbase _ rfl ?_
 ·intro j u hu
  match j, hu with
  | 0, hu => simp [kcells] at hu; subst hu; rw [add_plain]; exact h0
  | 1, hu => simp [kcells] at hu; subst hu; rw [add_plain]; exact h1
  | j + 2, hu => simp [kcells] at hu
 ·intro g' cap w' h2 h3 _ _
  rw [kcells_append] at h
  exact h g' cap w' h2 h3
theorem own_cells {w : World} {base : Nat} {e : TypeId} {size n : Nat} {v : Value} {xs : List Value} (h : w.ownsRow base e size v n xs) (hp : 0 < n) (hsz : 0 < size) :
  ∃ g c, v = .slice (some ⟨g, 0, none⟩) n c ∧ g < w.heap.size ∧ base ≤ g ∧ ∀ j u, xs[j]? = some u → w.cell? ⟨g, j, none⟩ = some u := by
 rcases h.2 with ⟨rfl, h2⟩ | ⟨g, cap, cur, rfl, hb, hh, hc, hm, hs, ht⟩
 ·omega
 ·refine ⟨g, cap, rfl, (Array.getElem?_eq_some_iff.1 hh).1, hb, fun j u hu => ?_⟩
  have hj := (List.getElem?_eq_some_iff.1 hu).1
  have hl := h.1
  have e1 : cur.toList[j]? = xs[j]? := by rw [← ht, List.getElem?_take, if_pos (by omega)]
  unfold World.cell?
  simp only [hh]
  rw [← Array.getElem?_toList, e1, hu]; rfl
theorem own_pb {w : World} {base n : Nat} {v : Value} {L : List Pk} (h : w.ownsRow base 154 2 v n (kcells L)) (hp : 0 < n) :
  ∃ g c R, v = .slice (some ⟨g, 0, none⟩) n c ∧ L.length = n ∧ base ≤ g ∧ PB w g L R ∧ ∀ w' L', PB w' g L' R → L'.length = L.length → w'.ownsRow base 154 2 v n (kcells L') := by
 have hl := h.1
 rw [kcells_length] at hl
 rcases h.2 with ⟨rfl, h2⟩ | ⟨g, cap, cur, rfl, hb, hh, hc, hm, hs, ht⟩
 ·omega
 ·refine ⟨g, cap, cur.toList.drop (n * 2), rfl, by omega, hb, ?_, fun w' L' h' hl' => ?_⟩
  ·show w.heap[g]? = some (.cells (kcells L ++ cur.toList.drop (n * 2)).toArray _ (0, 0))
   rw [← ht, List.take_append_drop, Array.toArray_toList]; exact hh
  ·refine ⟨by rw [kcells_length, hl']; omega, .inr ⟨g, cap, _, rfl, hb, h', hc, hm, ?_, ?_⟩⟩
   ·have e1 : L'.length = n := by omega
    simp only [List.size_toArray, List.length_append, kcells_length, List.length_drop, Array.length_toList]; omega
   ·rw [List.toList_toArray, List.take_left' (by rw [kcells_length]; omega)]
theorem clone_calls (w : World) (base : Nat) (v : Value) (n : Nat) (L : List Pk) (ho : w.ownsRow base 154 2 v n (kcells L)) (hp : 0 < n) (hn : n ≤ 1000000000) :
  Calls Tryz.prog 99 #[v] w fun e w' => ∃ v', e = .returned v' ∧ w'.ownsRow w.heap.size 154 2 v' n (kcells L) ∧ Below w.heap.size w w' := by
 obtain ⟨g, c, rfl, hg, hbg, hcells⟩ := own_cells ho hp (by decide)
 have hl : (kcells L).length = n * 2 := ho.1
 have HC := Lib.hid hcells
 have HL := Lib.hid hl
 clear ho hcells hl
 obtain ⟨i0, hi, hz0, hz1, hz2⟩ := info_parts info_pack
 have HI := Lib.hid hi
 have HZ0 := Lib.hid hz0
 have HZ1 := Lib.hid hz1
 have HZ2 := Lib.hid hz2
 clear hi hz0 hz1 hz2
 have o0 : Hid (∀ w' : World, w'.heap[w.heap.size]? = some (.cells #[] 154 (0, 0)) → w'.ownsRow w.heap.size 154 2 (.slice (some ⟨w.heap.size, 0, none⟩) 0 0) 0 []) := fun w' h => ⟨rfl, .inr ⟨_, 0, #[], rfl, Nat.le_refl _, h, Nat.le_refl _, by unfold maxLen; omega, rfl, rfl⟩⟩
 have hq := fun w => Lib.run_eql_slice_nil (P := Tryz.prog) w 152 154 (some ⟨g, 0, none⟩) n c 0 0 Tryz.underlying152
 go_enter Tryz.func99, Tryz.ntmps99
 go_wp2_with (at_builtin; refine wpList_append_own _ rfl (.tmp 5) (.tmp 6) 152 rfl w.heap.size 154 i0 (.agg #[.int .i64 0, .slice none 0 0]) 2 32 Tryz.underlying152 HI.out HZ0.out HZ1.out HZ2.out rfl (by decide) _ 0 [] rfl (o0.out _ ?c1) ⟨g, 0, none⟩ n c (kcells L) rfl HL.out ?c2 (kcells_one _) (by unfold maxLen; omega) (by omega) (by simp) ?_)
 case c1 => exact blk_new w _ []
 case c2 =>
  intro j u hu
  rw [add_plain]
  exact ((Keeps.refl [] w).alloc _).cell (by simp) (HC.out j u hu)
 intro v' w' h2 h3 _
 have H2 := Lib.hid h2
 have H3 := Lib.hid h3
 clear h2 h3
 go_wp2_with fail
 go_ret
 refine ⟨_, rfl, H2.out, ?_⟩
 exact ((Below.refl _ _).alloc (Nat.le_refl _) _).grown H3.out (by simp) (fun k hk => by simp [Value.ownBlock] at hk; omega)
open Go.RowKit
def okW (L : List Pk) : Prop := ∀ j, j < L.length → 0 ≤ (kth L j).w ∧ (kth L j).w ≤ 100000000000000000
theorem okW_mem {L : List Pk} : okW L ↔ ∀ p ∈ L, 0 ≤ p.w ∧ p.w ≤ 100000000000000000 := by
 constructor
 ·intro h p hp
  obtain ⟨j, hj, rfl⟩ := List.mem_iff_getElem.1 hp
  have := h j hj
  rwa [kth_lt hj] at this
 ·intro h j hj
  rw [kth_lt hj]
  exact h _ (List.getElem_mem hj)
theorem okW_perm {a b : List Pk} (h : a.Perm b) (k : okW b) : okW a := okW_mem.2 fun p hp => okW_mem.1 k p (h.mem_iff.1 hp)
abbrev theCmp : Value := .func (.func 97) #[] #[]
theorem in_e {x s y : List Pk} {k : Nat} {e : Pk} (h : s.take (k + 1) = s.take k ++ [e]) : e ∈ x ++ (s ++ y) := by
 have : e ∈ s.take (k + 1) := by rw [h]; simp
 exact List.mem_append_right _ (List.mem_append_left _ (List.mem_of_mem_take this))
theorem in_p {x s y t A t2 : List Pk} {k : Nat} {p : Pk} (h : SS t (s.take k)) (ht : t = A ++ [p] ++ t2) : p ∈ x ++ (s ++ y) := by
 have : p ∈ t := by rw [ht]; simp
 exact List.mem_append_right _ (List.mem_append_left _ (List.mem_of_mem_take (h.mem.1 this)))
theorem insSort_calls (w : World) (g : Nat) (x s y : List Pk) (R : List Value) (n c a b : Nat) (h : PB w g (x ++ (s ++ y)) R) (hn : n = (x ++ (s ++ y)).length) (hw : okW (x ++ (s ++ y)))
  (h1 : a = x.length) (h2 : b = x.length + s.length) (hsz : n ≤ 1000000) :
  Calls Tryz.prog 137 #[.slice (some ⟨g, 0, none⟩) n c, .int .i64 a, .int .i64 b, theCmp] w fun e w' => e = .returned (.tuple #[]) ∧ ∃ r, SS r s ∧ PB w' g (x ++ (r ++ y)) R ∧ Keeps [g] w w' := by
 have H := Lib.hid h
 have hl : n = x.length + (s.length + y.length) := by rw [hn]; simp only [List.length_append]
 have HL := Lib.hid hl
 have H1 := Lib.hid h1
 have H2 := Lib.hid h2
 have HW := Lib.hid hw
 have b2 : a ≤ b := by omega
 have b3 : b ≤ n := by omega
 clear h hl h1 h2 hn hw
 go_enter Tryz.func137, Tryz.ntmps137
 go_wp2_with fail
 go_loopw [8] (fun iv wr => ∃ (I k : Nat) (t r : List Pk), 1 ≤ k ∧ I ≤ n + 1 ∧ iv = .int .i64 I ∧ Hid (I = a + k) ∧ Hid (r = s.drop k) ∧ Hid (SS t (s.take k)) ∧ Hid (PB wr g (x ++ (t ++ (r ++ y))) R) ∧ Hid (Keeps [g] w wr)) (fun iv _ => (b - intOf iv).toNat)
 case atStart =>
  refine ⟨a + 1, 1, s.take 1, s.drop 1, by omega, by omega, by go_num, Lib.hid rfl, Lib.hid rfl, Lib.hid ⟨?_, same.refl _⟩, Lib.hid ?_, Lib.hid (Keeps.refl _ _)⟩
  ·match s with
   | [] => exact srt_nil
   | p :: s => exact srt_one p
  ·have := H.out
   rw [← List.take_append_drop 1 s, List.append_assoc] at this; exact this
 case round =>
  clear H
  obtain ⟨I, k, t, r, hk, hkn, rfl, HI, HR, HS, HB, HK⟩ := hrel
  by_cases hlt : I < b
  ·have hks : k < s.length := by have := H1.out; have := H2.out; have := HI.out; omega
   obtain ⟨e, r', hr'⟩ : ∃ e r', s.drop k = e :: r' := ⟨s[k], s.drop (k + 1), (List.drop_eq_getElem_cons hks)⟩
   have htk : Hid (s.take (k + 1) = s.take k ++ [e]) := by
    have := List.drop_eq_getElem_cons hks
    rw [hr'] at this
    injection this with e1 e2
    show _ = _
    rw [List.take_succ_eq_append_getElem hks, e1]
   have hr2 : Hid (r' = s.drop (k + 1)) := by
    have := List.drop_eq_getElem_cons hks
    rw [hr'] at this
    injection this with e1 e2
   have HB1 : Hid (PB wr g (x ++ (t ++ ([] ++ (e :: ([] ++ (r' ++ y)))))) R) := by
    have := HB.out; rw [HR.out, hr'] at this; exact this
   have ht : Hid (t.length = k) := by have := HS.out.len; rw [List.length_take] at this; show _ = _; omega
   clear HB HR hr' hks
   obtain ⟨wo, rfl⟩ : ∃ wo : World, wo = wr := ⟨_, rfl⟩
   have e0 : decide (I < b) = true := by simpa using hlt
   go_wp2_with fail
   have hkn2 : I < n := by omega
   have haI : a ≤ I := by have := HI.out; omega
   go_loopw [9] (fun jv wr => ∃ (J m : Nat) (t1 t2 : List Pk), a ≤ J ∧ J < n ∧ jv = .int .i64 J ∧ Hid (J = a + m) ∧ Hid (t1.length = m) ∧ Hid (t = t1 ++ t2) ∧ Hid (∀ p ∈ t2, e.w < p.w) ∧ Hid (PB wr g (x ++ (t1 ++ (e :: (t2 ++ (r' ++ y))))) R) ∧ Hid (Keeps [g] w wr)) (fun jv _ => (intOf jv).toNat)
   case atStart => exact ⟨I, k, t, [], haI, hkn2, rfl, HI, ht, Lib.hid (by simp), Lib.hid (by simp), HB1, HK⟩
   case round =>
    clear HB1 HK ht
    obtain ⟨J, m, t1, t2, hJ1, hJ2, rfl, HJ, HM, HT, HG, HB, HK⟩ := hrel
    by_cases hJ : a < J
    ·obtain ⟨i, rfl⟩ : ∃ i, J = i + 1 := ⟨J - 1, by omega⟩
     obtain ⟨A, p, rfl⟩ : ∃ A p, t1 = A ++ [p] := by
      have := HM.out; have := HJ.out
      exact ⟨t1.dropLast, t1.getLast (by rintro rfl; simp at *; omega), (List.dropLast_concat_getLast _).symm⟩
     have hA : Hid (i = (x ++ A).length) := by
      have := HM.out; have := HJ.out; have := H1.out; show _ = _; rw [List.length_append] at *; simp at *; omega
     have HB2 : Hid (PB wr g ((x ++ A) ++ p :: e :: (t2 ++ (r' ++ y))) R) := by
      have := HB.out; simp only [List.append_assoc, List.singleton_append, List.cons_append] at *; exact this
     have k1 : kth ((x ++ A) ++ p :: e :: (t2 ++ (r' ++ y))) i = p := by rw [hA.out, kth_app, if_neg (by omega), Nat.sub_self]; rfl
     have k2 : kth ((x ++ A) ++ p :: e :: (t2 ++ (r' ++ y))) (i + 1) = e := by rw [hA.out, kth_app, if_neg (by omega), show (x ++ A).length + 1 - (x ++ A).length = 1 by omega]; rfl
     have hlen : i + 1 < ((x ++ A) ++ p :: e :: (t2 ++ (r' ++ y))).length := by rw [hA.out]; simp only [List.length_append, List.length_cons]; omega
     obtain ⟨p1, p2⟩ := HB2.out.cell (j := i) (by omega)
     obtain ⟨q1, q2⟩ := HB2.out.cell (j := i + 1) (by omega)
     rw [k1] at p1 p2
     rw [k2] at q1 q2
     have HLN := Lib.hid hlen
     clear k1 k2 hlen
     have e1 : decide ((a : Int) < (i : Int) + 1) = true := by simp; omega
     have s1 : ((i : Int) + 1).toNat = i + 1 := by omega
     have s2 : (0 : Int) ≤ (i : Int) + 1 := by omega
     have s3 : (i : Int) + 1 < (n : Int) := by omega
     have s4 : (i : Int) < (n : Int) := by omega
     have s5 : IntKind.i64.wrap (i : Int) = i := IntWalk.i64_in _ (by omega)
     go_wp2_with fail
     go_still_tail 14, (by kernel_rfl)
     change wpList _ _ _ _ _ wr.drew
     obtain ⟨we, we1⟩ : 0 ≤ e.w ∧ e.w ≤ 100000000000000000 := okW_mem.1 HW.out e (in_e htk.out)
     obtain ⟨wp, wp1⟩ : 0 ≤ p.w ∧ p.w ≤ 100000000000000000 := okW_mem.1 HW.out p (in_p HS.out HT.out)
     go_wp2_with fail
     refine (lighter_calls _ _ _ _ _ _ _ _ _ we we1 wp wp1).mono ?_
     rintro _ w1 ⟨rfl, hk⟩
     have HK1 := Lib.hid (HK.out.trans ((Keeps.refl [g] wr).drew.trans (hk.mono (by simp))))
     have HB3 := Lib.hid (HB2.out.keeps ((Keeps.refl [] wr).drew.trans hk) (by simp))
     clear hk HB HB2 p1 p2 q1 q2 HK
     by_cases hlt : e.w < p.w
     ·have e2 : decide (e.w - p.w < 0) = true := by simp; omega
      obtain ⟨p1, p2⟩ := HB3.out.cell (j := i) (by have := HLN.out; omega)
      obtain ⟨q1, q2⟩ := HB3.out.cell (j := i + 1) HLN.out
      have k1 : kth ((x ++ A) ++ p :: e :: (t2 ++ (r' ++ y))) i = p := by rw [hA.out, kth_app, if_neg (by omega), Nat.sub_self]; rfl
      have k2 : kth ((x ++ A) ++ p :: e :: (t2 ++ (r' ++ y))) (i + 1) = e := by rw [hA.out, kth_app, if_neg (by omega), show (x ++ A).length + 1 - (x ++ A).length = 1 by omega]; rfl
      rw [k1] at p1 p2
      rw [k2] at q1 q2
      have K1 := Lib.hid k1
      have K2 := Lib.hid k2
      clear k1 k2
      have f1 := HB3.out.free (i * 2)
      have f2 := HB3.out.free (i * 2 + 1)
      have f3 := HB3.out.free ((i + 1) * 2)
      have f4 := HB3.out.free ((i + 1) * 2 + 1)
      go_wp2_with fail
      go_region
      go_wp2_with fail
      go_roundw
      case rel =>
       refine ⟨i, A.length, A, p :: t2, by omega, by omega, by go_num, Lib.hid ?_, Lib.hid rfl, Lib.hid ?_, Lib.hid ?_, Lib.hid ?_, Lib.hid ((((((HK1.out.put _).put _).put _).put _)).drew)⟩
       ·have := hA.out; have := H1.out; rw [List.length_append] at *; omega
       ·rw [HT.out]; simp
       ·intro q hq
        rcases List.mem_cons.1 hq with rfl | hq
        ·exact hlt
        ·exact HG.out q hq
       ·have hs := set_two _ (i + 1) i HLN.out (by have := HLN.out; omega) w1 g R HB3.out (by omega)
        rw [K1.out, K2.out] at hs
        have hz := swp_adj' (x ++ A) (t2 ++ (r' ++ y)) p e
        rw [← hA.out] at hz
        rw [hz] at hs
        have := hs.dr (Dr.refl _).drew
        simp only [List.append_assoc, List.cons_append] at this ⊢
        exact this
      case measure => simp [intOf]
     ·have e2 : decide (e.w - p.w < 0) = false := by simp; omega
      go_wp2_with fail
      refine ⟨⟨I + 1, k + 1, A ++ p :: e :: t2, r', by omega, by omega, by go_num, Lib.hid (by have := HI.out; omega), hr2, Lib.hid ?_, Lib.hid ?_, HK1⟩, by simp [intOf]; omega⟩
      ·rw [htk.out, show A ++ p :: e :: t2 = (A ++ [p]) ++ e :: t2 by simp]
       have hs := HS.out
       rw [HT.out] at hs
       refine ss_insert hs (fun q hq => ?_) HG.out
       rcases List.mem_append.1 hq with hq | hq
       ·have := srt_le (srt_left hs.1) q hq p (by simp); omega
       ·rw [List.mem_singleton.1 hq]; omega
      ·have := HB3.out
       simp only [List.append_assoc, List.cons_append] at this ⊢
       exact this
    ·have e1 : decide (a < J) = false := by simpa using hJ
     go_wp2_with fail
     go_quiet (fail)
     go_wp2_with fail
     have h0 : t1 = [] := by have := HM.out; have := HJ.out; exact List.eq_nil_of_length_eq_zero (by omega)
     subst h0
     refine ⟨⟨I + 1, k + 1, e :: t2, r', by omega, by omega, by go_num, Lib.hid (by have := HI.out; omega), hr2, Lib.hid ?_, Lib.hid ?_, Lib.hid (HK.out.drewN _)⟩, by simp [intOf]; omega⟩
     ·rw [htk.out]
      have hs := HS.out
      rw [HT.out] at hs
      exact ss_insert (t1 := []) hs (by simp) HG.out
     ·exact HB.out.dr ⟨_, rfl⟩
  ·go_wp2_with fail
   go_end0
   have hs : s.length ≤ k := by have := H1.out; have := H2.out; have := HI.out; omega
   have e1 : r = [] := by rw [HR.out, List.drop_eq_nil_of_le hs]
   subst e1
   refine ⟨rfl, t, ?_, HB.out, HK.out⟩
   have := HS.out
   rwa [List.take_of_length_le hs] at this
open Go.RowKit
structure Turn (P : Nat → Prop) (lo i j hi : Nat) : Prop where
 a : lo ≤ i
 b : i ≤ j
 c : j ≤ hi
 yes : ∀ k, lo ≤ k → k < i → P k
 no : ∀ k, j ≤ k → k < hi → ¬ P k
theorem Turn.start (P : Nat → Prop) {lo hi : Nat} (h : lo ≤ hi) : Turn P lo lo hi hi := ⟨Nat.le_refl _, h, Nat.le_refl _, fun k a b => by omega, fun k a b => by omega⟩
theorem Turn.up {P : Nat → Prop} {lo i j hi m : Nat} (h : Turn P lo i j hi) (h1 : i ≤ m) (h2 : m < j) (hm : ∀ k, lo ≤ k → k ≤ m → P m → P k) (hp : P m) : Turn P lo (m + 1) j hi :=
 ⟨by have := h.a; omega, by omega, h.c, fun k a b => hm k a (by omega) hp, h.no⟩
theorem Turn.down {P : Nat → Prop} {lo i j hi m : Nat} (h : Turn P lo i j hi) (h1 : i ≤ m) (h2 : m < j) (hm : ∀ k, m ≤ k → k < hi → P k → P m) (hp : ¬ P m) : Turn P lo i m hi :=
 ⟨h.a, h1, by have := h.c; omega, h.yes, fun k a b hk => hp (hm k a b hk)⟩
theorem kth_mono {t : List Pk} (h : srt t) {i j : Nat} (hij : i ≤ j) (hj : j < t.length) : (kth t i).w ≤ (kth t j).w := by
 rcases Nat.eq_or_lt_of_le hij with rfl | hlt
 ·exact Int.le_refl _
 ·rw [kth_lt hj, kth_lt (by omega)]
  exact List.pairwise_iff_getElem.1 h i j (by omega) hj hlt
theorem kth_mem {t : List Pk} {i : Nat} (h : i < t.length) : kth t i ∈ t := by rw [kth_lt h]; exact List.getElem_mem h
theorem mem_kth {t : List Pk} {p : Pk} (h : p ∈ t) : ∃ i, i < t.length ∧ kth t i = p := by
 obtain ⟨i, hi, rfl⟩ := List.mem_iff_getElem.1 h
 exact ⟨i, hi, kth_lt hi⟩
theorem kth_take {t : List Pk} {i k : Nat} (h : i < k) : kth (t.take k) i = kth t i := by simp [kth, List.getD, List.getElem?_take, h]
theorem kth_drop {t : List Pk} {i k : Nat} : kth (t.drop k) i = kth t (k + i) := by simp [kth, List.getD]
theorem ss_one_left {p : Pk} {t1 t2 : List Pk} (h : srt (t1 ++ t2)) (h1 : ∀ q ∈ t1, q.w < p.w) (h2 : ∀ q ∈ t2, p.w ≤ q.w) : SS (t1 ++ p :: t2) (p :: (t1 ++ t2)) := by
 refine ⟨srt_app (srt_left h) (List.pairwise_cons.2 ⟨fun q hq => h2 q hq, srt_right h⟩) ?_, ?_⟩
 ·intro q hq r hr
  rcases List.mem_cons.1 hr with rfl | hr
  ·exact Int.le_of_lt (h1 q hq)
  ·exact srt_le h q hq r hr
 ·have := (same_swap [p] t1 (fun r hr q hq => by rw [List.mem_singleton.1 hr]; have := h1 q hq; omega)).app (same.refl t2)
  simpa using this
theorem symLeft_calls (w : World) (g : Nat) (x t y : List Pk) (p : Pk) (R : List Value) (n c a m b : Nat) (h : PB w g (x ++ (p :: (t ++ y))) R) (hn : n = (x ++ (p :: (t ++ y))).length) (hw : okW (x ++ (p :: (t ++ y))))
  (h1 : a = x.length) (h2 : m = x.length + 1) (h3 : b = x.length + 1 + t.length) (ht : srt t) (hsz : n ≤ 1000000) :
  Calls Tryz.prog 138 #[.slice (some ⟨g, 0, none⟩) n c, .int .i64 a, .int .i64 m, .int .i64 b, theCmp] w fun e w' => e = .returned (.tuple #[]) ∧ ∃ r, SS r (p :: t) ∧ PB w' g (x ++ (r ++ y)) R ∧ Keeps [g] w w' := by
 have H := Lib.hid h
 have hl : n = x.length + (1 + (t.length + y.length)) := by rw [hn]; simp only [List.length_append, List.length_cons]; omega
 have HL := Lib.hid hl
 have H1 := Lib.hid h1
 have H2 := Lib.hid h2
 have H3 := Lib.hid h3
 have HW := Lib.hid hw
 have HT := Lib.hid ht
 have ham : Hid (m = a + 1) := by show _ = _; omega
 have b2 : m ≤ b := by omega
 have b3 : b ≤ n := by omega
 have b4 : a < n := by omega
 have b5 : m ≤ n := by omega
 have e1 : IntKind.i64.wrap ((m : Int) - a) = (m : Int) - a := IntWalk.i64_in _ (by omega)
 have e2 : ((m : Int) - a == 1) = true := by simp; omega
 clear h hl h1 h2 h3 hn hw ht
 go_enter Tryz.func138, Tryz.ntmps138
 go_wp2_with fail
 go_loopw [10, 11] (fun iv jv wr => ∃ (i j : Nat), iv = .int .i64 i ∧ jv = .int .i64 j ∧ i ≤ j ∧ j ≤ b ∧ m ≤ i ∧ Hid (Turn (fun k => (kth (x ++ (p :: (t ++ y))) k).w < p.w) m i j b) ∧ Hid (PB wr g (x ++ (p :: (t ++ y))) R) ∧ Hid (Keeps [g] w wr)) (fun iv jv _ => (intOf jv - intOf iv).toNat)
 case atStart => exact ⟨m, b, rfl, rfl, b2, by omega, by omega, Lib.hid (Turn.start _ b2), H, Lib.hid (Keeps.refl _ _)⟩
 case round =>
  clear H
  obtain ⟨i, j, rfl, rfl, hij, hjb, hmi, HTN, HB, HK⟩ := hrel
  obtain ⟨wo, rfl⟩ : ∃ wo : World, wo = wr := ⟨_, rfl⟩
  by_cases hlt : i < j
  ·have e0 : decide (i < j) = true := by simpa using hlt
   obtain ⟨h, hh⟩ : ∃ h : Nat, h = (i + j) / 2 := ⟨_, rfl⟩
   have s0 : ((i : Int) + j) / 2 = (h : Int) := by omega
   have hih : i ≤ h := by omega
   have hhj : h < j := by omega
   have s1 : (h : Int) < n := by omega
   have hln : Hid ((x ++ (p :: (t ++ y))).length = n) := by have := HL.out; show _ = _; simp only [List.length_append, List.length_cons]; omega
   obtain ⟨p1, p2⟩ := HB.out.cell (j := h) (by have := hln.out; omega)
   obtain ⟨q1, q2⟩ := HB.out.cell (j := a) (by have := hln.out; omega)
   have k1 : kth (x ++ (p :: (t ++ y))) a = p := by rw [H1.out, kth_app, if_neg (by omega), Nat.sub_self]; rfl
   rw [k1] at q1 q2
   obtain ⟨we, we1⟩ := okW_mem.1 HW.out _ (kth_mem (t := x ++ (p :: (t ++ y))) (i := h) (by have := hln.out; omega))
   obtain ⟨wp, wp1⟩ := okW_mem.1 HW.out p (by simp)
   have hu : Hid (∃ u, u = kth (x ++ (p :: (t ++ y))) h) := ⟨_, rfl⟩
   obtain ⟨u, hu⟩ := hu.out
   rw [← hu] at p1 p2 we we1
   have HU := Lib.hid hu
   have HH := Lib.hid hh
   clear hu k1 hh
   go_wp2_with fail
   go_still_tail 9, (by kernel_rfl)
   change wpList _ _ _ _ _ wo.drew
   go_wp2_with fail
   refine (lighter_calls _ _ _ _ _ _ _ _ _ we we1 wp wp1).mono ?_
   rintro _ w1 ⟨rfl, hk⟩
   have HK1 := Lib.hid (HK.out.trans ((Keeps.refl [g] wo).drew.trans (hk.mono (by simp))))
   have HB3 := Lib.hid (HB.out.keeps ((Keeps.refl [] wo).drew.trans hk) (by simp))
   clear hk HB HK p1 p2 q1 q2
   have hmono : Hid (∀ k1 k2, m ≤ k1 → k1 ≤ k2 → k2 < b → (kth (x ++ (p :: (t ++ y))) k1).w ≤ (kth (x ++ (p :: (t ++ y))) k2).w) := by
    intro k1 k2 g1 g2 g3
    have d1 := H2.out; have d3 := H3.out
    have e : ∀ k, m ≤ k → k < b → kth (x ++ (p :: (t ++ y))) k = kth t (k - m) := by
     intro k f1 f2
     rw [kth_app, if_neg (by omega), show p :: (t ++ y) = [p] ++ (t ++ y) from rfl, kth_app, if_neg (by simp; omega), kth_app, if_pos (by simp; omega)]
     congr 1; simp; omega
    rw [e k1 g1 (by omega), e k2 (by omega) g3]
    exact kth_mono HT.out (by omega) (by omega)
   by_cases hlt : u.w < p.w
   ·have e2 : decide (u.w - p.w < 0) = true := by simp; omega
    go_wp2_with fail
    refine ⟨⟨h + 1, j, by go_num, rfl, by omega, by omega, by omega, Lib.hid (HTN.out.up hih hhj (fun k g1 g2 g3 => ?_) ?_), HB3, HK1⟩, by simp [intOf]; omega⟩
    ·exact Int.lt_of_le_of_lt (hmono.out k h g1 g2 (by omega)) g3
    ·show (kth _ h).w < p.w; rw [← HU.out]; exact hlt
   ·have e2 : decide (u.w - p.w < 0) = false := by simp; omega
    go_wp2_with fail
    refine ⟨⟨i, h, rfl, rfl, by omega, by omega, by omega, Lib.hid (HTN.out.down hih hhj (fun k g1 g2 g3 => ?_) ?_), HB3, HK1⟩, by simp [intOf]; omega⟩
    ·exact Int.lt_of_le_of_lt (hmono.out h k (by omega) g1 g2) g3
    ·show ¬ (kth _ h).w < p.w; rw [← HU.out]; omega
  ·have e0 : decide (i < j) = false := by simpa using hlt
   obtain rfl : i = j := by omega
   have e3 : IntKind.i64.wrap ((i : Int) - 1) = (i : Int) - 1 := IntWalk.i64_in _ (by omega)
   have HB0 : Hid (PB wo g (x ++ (t.take 0 ++ (p :: (t.drop 0 ++ y)))) R) := HB
   have hi0 : 1 ≤ i := by have := ham.out; omega
   clear HB
   go_wp2_with fail
   go_loopw [13] (fun kv wr => ∃ (K q : Nat), kv = .int .i64 K ∧ K < i ∧ Hid (K = a + q) ∧ Hid (PB wr g (x ++ (t.take q ++ (p :: (t.drop q ++ y)))) R) ∧ Hid (Keeps [g] w wr)) (fun kv _ => (i - intOf kv).toNat)
   case atStart => exact ⟨a, 0, rfl, by have := ham.out; omega, Lib.hid rfl, HB0, HK⟩
   case round =>
    clear HB0 HK
    obtain ⟨K, q, rfl, hKi, HKq, HB, HK⟩ := hrel
    by_cases hlt2 : K + 1 < i
    ·have e4 : decide ((K : Int) < (i : Int) - 1) = true := by simp; omega
     have hq : q < t.length := by have := HKq.out; have := H1.out; have := H3.out; omega
     have HKA : Hid (K = (x ++ t.take q).length) := by have := HKq.out; have := H1.out; show _ = _; rw [List.length_append, List.length_take]; omega
     have HB2 : Hid (PB wr g ((x ++ t.take q) ++ p :: t[q] :: (t.drop (q + 1) ++ y)) R) := by
      have := HB.out; rw [List.drop_eq_getElem_cons hq] at this; simp only [List.append_assoc, List.cons_append] at *; exact this
     have HE : Hid (t.take (q + 1) = t.take q ++ [t[q]]) := List.take_succ_eq_append_getElem hq
     have HLN : Hid (K + 1 < ((x ++ t.take q) ++ p :: t[q] :: (t.drop (q + 1) ++ y)).length) := by rw [HKA.out]; show _ < _; simp only [List.length_append, List.length_cons]; omega
     generalize t[q] = e at *
     obtain ⟨p1, p2⟩ := HB2.out.cell (j := K) (by have := HLN.out; omega)
     obtain ⟨q1, q2⟩ := HB2.out.cell (j := K + 1) HLN.out
     have k1 : kth ((x ++ t.take q) ++ p :: e :: (t.drop (q + 1) ++ y)) K = p := by rw [HKA.out, kth_app, if_neg (by omega), Nat.sub_self]; rfl
     have k2 : kth ((x ++ t.take q) ++ p :: e :: (t.drop (q + 1) ++ y)) (K + 1) = e := by rw [HKA.out, kth_app, if_neg (by omega), show (x ++ t.take q).length + 1 - (x ++ t.take q).length = 1 by omega]; rfl
     rw [k1] at p1 p2
     rw [k2] at q1 q2
     have K1 := Lib.hid k1
     have K2 := Lib.hid k2
     have f1 := HB2.out.free (K * 2)
     have f2 := HB2.out.free (K * 2 + 1)
     have f3 := HB2.out.free ((K + 1) * 2)
     have f4 := HB2.out.free ((K + 1) * 2 + 1)
     have s1 : ((K : Int) + 1).toNat = K + 1 := by omega
     have s2 : (0 : Int) ≤ (K : Int) + 1 := by omega
     have s3 : (K : Int) + 1 < (n : Int) := by omega
     have s4 : (K : Int) < (n : Int) := by omega
     clear k1 k2 HB hq
     go_wp2_with fail
     go_region
     go_wp2_with fail
     go_roundw
     case rel =>
      refine ⟨K + 1, q + 1, by go_num, by omega, Lib.hid (by have := HKq.out; omega), Lib.hid ?_, Lib.hid ((((((HK.out.put _).put _).put _).put _)).drew)⟩
      have hs := set_two _ K (K + 1) (by have := HLN.out; omega) HLN.out wr g R HB2.out (by omega)
      rw [K1.out, K2.out] at hs
      have hz := swp_adj (x ++ t.take q) (t.drop (q + 1) ++ y) p e
      rw [← HKA.out] at hz
      rw [hz] at hs
      have := hs.dr (Dr.refl _).drew
      rw [HE.out]
      simp only [List.append_assoc, List.cons_append, List.nil_append] at this ⊢
      exact this
     case measure => simp [intOf]; omega
    ·have e4 : decide ((K : Int) < (i : Int) - 1) = false := by simp; omega
     go_wp2_with fail
     refine bodyPost_ret (results_none rfl _ _ _) rfl ?_
     refine ⟨rfl, t.take q ++ p :: t.drop q, ?_, ?_, HK.out⟩
     ·have hs := ss_one_left (p := p) (t1 := t.take q) (t2 := t.drop q) (by rw [List.take_append_drop]; exact HT.out) ?_ ?_
      ·rwa [List.take_append_drop] at hs
      ·intro r hr
       obtain ⟨d, hd, rfl⟩ := mem_kth hr
       rw [List.length_take] at hd
       have := HTN.out.yes (m + d) (by omega) (by have := HKq.out; have := ham.out; omega)
       have d2 := H2.out
       rw [kth_app, if_neg (by omega), show p :: (t ++ y) = [p] ++ (t ++ y) from rfl, kth_app, if_neg (by simp; omega), kth_app, if_pos (by simp; omega)] at this
       rw [kth_take (by omega)]
       rwa [show m + d - x.length - [p].length = d by simp; omega] at this
      ·intro r hr
       obtain ⟨d, hd, rfl⟩ := mem_kth hr
       rw [List.length_drop] at hd
       have d2 := H2.out
       have d3 := H3.out
       have := HTN.out.no (m + (q + d)) (by have := HKq.out; have := ham.out; omega) (by omega)
       rw [kth_app, if_neg (by omega), show p :: (t ++ y) = [p] ++ (t ++ y) from rfl, kth_app, if_neg (by simp; omega), kth_app, if_pos (by simp; omega)] at this
       rw [kth_drop]
       rw [show m + (q + d) - x.length - [p].length = q + d by simp; omega] at this
       omega
     ·have := HB.out
      simp only [List.append_assoc, List.cons_append] at this ⊢
      exact this
open Go.RowKit
theorem symRight_calls (w : World) (g : Nat) (x s y : List Pk) (q : Pk) (R : List Value) (n c a m b : Nat) (h : PB w g (x ++ (s ++ (q :: y))) R) (hn : n = (x ++ (s ++ (q :: y))).length) (hw : okW (x ++ (s ++ (q :: y))))
  (h1 : a = x.length) (h2 : m = x.length + s.length) (h3 : b = x.length + s.length + 1) (hs2 : s.length ≠ 1) (ht : srt s) (hsz : n ≤ 1000000) :
  Calls Tryz.prog 138 #[.slice (some ⟨g, 0, none⟩) n c, .int .i64 a, .int .i64 m, .int .i64 b, theCmp] w fun e w' => e = .returned (.tuple #[]) ∧ ∃ r, SS r (s ++ [q]) ∧ PB w' g (x ++ (r ++ y)) R ∧ Keeps [g] w w' := by
 have H := Lib.hid h
 have hl : n = x.length + (s.length + (1 + y.length)) := by rw [hn]; simp only [List.length_append, List.length_cons]; omega
 have HL := Lib.hid hl
 have H1 := Lib.hid h1
 have H2 := Lib.hid h2
 have H3 := Lib.hid h3
 have HW := Lib.hid hw
 have HT := Lib.hid ht
 have b2 : a ≤ m := by omega
 have b3 : m < n := by omega
 have e1 : IntKind.i64.wrap ((m : Int) - a) = (m : Int) - a := IntWalk.i64_in _ (by omega)
 have e2 : ((m : Int) - a == 1) = false := by simp; omega
 have e3 : IntKind.i64.wrap ((b : Int) - m) = (b : Int) - m := IntWalk.i64_in _ (by omega)
 have e4 : ((b : Int) - m == 1) = true := by simp; omega
 clear h hl h1 h2 h3 hn hw ht
 go_enter Tryz.func138, Tryz.ntmps138
 go_wp2_with fail
 go_loopw [14, 15] (fun iv jv wr => ∃ (i j : Nat), iv = .int .i64 i ∧ jv = .int .i64 j ∧ i ≤ j ∧ j ≤ m ∧ a ≤ i ∧ Hid (Turn (fun k => (kth (x ++ (s ++ (q :: y))) k).w ≤ q.w) a i j m) ∧ Hid (PB wr g (x ++ (s ++ (q :: y))) R) ∧ Hid (Keeps [g] w wr)) (fun iv jv _ => (intOf jv - intOf iv).toNat)
 case atStart => exact ⟨a, m, rfl, rfl, b2, by omega, by omega, Lib.hid (Turn.start _ b2), H, Lib.hid (Keeps.refl _ _)⟩
 case round =>
  clear H
  obtain ⟨i, j, rfl, rfl, hij, hjb, hmi, HTN, HB, HK⟩ := hrel
  obtain ⟨wo, rfl⟩ : ∃ wo : World, wo = wr := ⟨_, rfl⟩
  by_cases hlt : i < j
  ·have e0 : decide (i < j) = true := by simpa using hlt
   obtain ⟨h, hh⟩ : ∃ h : Nat, h = (i + j) / 2 := ⟨_, rfl⟩
   have s0 : ((i : Int) + j) / 2 = (h : Int) := by omega
   have hih : i ≤ h := by omega
   have hhj : h < j := by omega
   have s1 : (h : Int) < n := by omega
   have hln : Hid ((x ++ (s ++ (q :: y))).length = n) := by have := HL.out; show _ = _; simp only [List.length_append, List.length_cons]; omega
   obtain ⟨p1, p2⟩ := HB.out.cell (j := h) (by have := hln.out; omega)
   obtain ⟨q1, q2⟩ := HB.out.cell (j := m) (by have := hln.out; omega)
   have k1 : kth (x ++ (s ++ (q :: y))) m = q := by rw [H2.out, kth_app, if_neg (by omega), kth_app, if_neg (by omega), show x.length + s.length - x.length - s.length = 0 by omega]; rfl
   rw [k1] at q1 q2
   obtain ⟨we, we1⟩ := okW_mem.1 HW.out _ (kth_mem (t := x ++ (s ++ (q :: y))) (i := h) (by have := hln.out; omega))
   obtain ⟨wp, wp1⟩ := okW_mem.1 HW.out q (by simp)
   have hu : Hid (∃ u, u = kth (x ++ (s ++ (q :: y))) h) := ⟨_, rfl⟩
   obtain ⟨u, hu⟩ := hu.out
   rw [← hu] at p1 p2 we we1
   have HU := Lib.hid hu
   have HH := Lib.hid hh
   clear hu k1 hh
   go_wp2_with fail
   go_still_tail 9, (by kernel_rfl)
   change wpList _ _ _ _ _ wo.drew
   go_wp2_with fail
   refine (lighter_calls _ _ _ _ _ _ _ _ _ wp wp1 we we1).mono ?_
   rintro _ w1 ⟨rfl, hk⟩
   have HK1 := Lib.hid (HK.out.trans ((Keeps.refl [g] wo).drew.trans (hk.mono (by simp))))
   have HB3 := Lib.hid (HB.out.keeps ((Keeps.refl [] wo).drew.trans hk) (by simp))
   clear hk HB HK p1 p2 q1 q2
   have hmono : Hid (∀ k1 k2, a ≤ k1 → k1 ≤ k2 → k2 < m → (kth (x ++ (s ++ (q :: y))) k1).w ≤ (kth (x ++ (s ++ (q :: y))) k2).w) := by
    intro k1 k2 g1 g2 g3
    have d1 := H1.out; have d3 := H2.out
    have e : ∀ k, a ≤ k → k < m → kth (x ++ (s ++ (q :: y))) k = kth s (k - a) := by
     intro k f1 f2
     rw [kth_app, if_neg (by omega), kth_app, if_pos (by omega)]
     congr 1; omega
    rw [e k1 g1 (by omega), e k2 (by omega) g3]
    exact kth_mono HT.out (by omega) (by omega)
   by_cases hlt : q.w < u.w
   ·have e2 : decide (q.w - u.w < 0) = true := by simp; omega
    go_wp2_with fail
    refine ⟨⟨i, h, rfl, rfl, by omega, by omega, by omega, Lib.hid (HTN.out.down hih hhj (fun k g1 g2 g3 => ?_) ?_), HB3, HK1⟩, by simp [intOf]; omega⟩
    ·exact Int.le_trans (hmono.out h k (by omega) g1 g2) g3
    ·show ¬ (kth _ h).w ≤ q.w; rw [← HU.out]; omega
   ·have e2 : decide (q.w - u.w < 0) = false := by simp; omega
    go_wp2_with fail
    refine ⟨⟨h + 1, j, by go_num, rfl, by omega, by omega, by omega, Lib.hid (HTN.out.up hih hhj (fun k g1 g2 g3 => ?_) ?_), HB3, HK1⟩, by simp [intOf]; omega⟩
    ·exact Int.le_trans (hmono.out k h g1 g2 (by omega)) g3
    ·show (kth _ h).w ≤ q.w; rw [← HU.out]; omega
  ·have e0 : decide (i < j) = false := by simpa using hlt
   obtain rfl : i = j := by omega
   have HB0 : Hid (PB wo g (x ++ (s.take s.length ++ (q :: (s.drop s.length ++ y)))) R) := by
    have := HB.out; rw [List.take_length, List.drop_length]; exact this
   clear HB
   go_wp2_with fail
   go_loopw [17] (fun kv wr => ∃ (K r : Nat), kv = .int .i64 K ∧ i ≤ K ∧ K ≤ m ∧ Hid (K = a + r) ∧ Hid (PB wr g (x ++ (s.take r ++ (q :: (s.drop r ++ y)))) R) ∧ Hid (Keeps [g] w wr)) (fun kv _ => (intOf kv).toNat)
   case atStart => exact ⟨m, s.length, rfl, hjb, by omega, Lib.hid (by have := H1.out; have := H2.out; omega), HB0, HK⟩
   case round =>
    clear HB0 HK
    obtain ⟨K, r, rfl, hKi, hKm, HKq, HB, HK⟩ := hrel
    by_cases hlt2 : i < K
    ·obtain ⟨D, rfl⟩ : ∃ D, K = D + 1 := ⟨K - 1, by omega⟩
     obtain ⟨r', rfl⟩ : ∃ r', r = r' + 1 := ⟨r - 1, by have := HKq.out; omega⟩
     have e4 : decide ((i : Int) < (D : Int) + 1) = true := by simp; omega
     have hq : r' < s.length := by have := HKq.out; have := H1.out; have := H2.out; omega
     have HKA : Hid (D = (x ++ s.take r').length) := by have := HKq.out; have := H1.out; show _ = _; rw [List.length_append, List.length_take]; omega
     have HB2 : Hid (PB wr g ((x ++ s.take r') ++ s[r'] :: q :: (s.drop (r' + 1) ++ y)) R) := by
      have := HB.out; rw [List.take_succ_eq_append_getElem hq] at this; simp only [List.append_assoc, List.cons_append, List.nil_append] at *; exact this
     have HE : Hid (s.drop r' = s[r'] :: s.drop (r' + 1)) := List.drop_eq_getElem_cons hq
     have HLN : Hid (D + 1 < ((x ++ s.take r') ++ s[r'] :: q :: (s.drop (r' + 1) ++ y)).length) := by rw [HKA.out]; show _ < _; simp only [List.length_append, List.length_cons]; omega
     generalize s[r'] = e at *
     obtain ⟨p1, p2⟩ := HB2.out.cell (j := D) (by have := HLN.out; omega)
     obtain ⟨q1, q2⟩ := HB2.out.cell (j := D + 1) HLN.out
     have k1 : kth ((x ++ s.take r') ++ e :: q :: (s.drop (r' + 1) ++ y)) D = e := by rw [HKA.out, kth_app, if_neg (by omega), Nat.sub_self]; rfl
     have k2 : kth ((x ++ s.take r') ++ e :: q :: (s.drop (r' + 1) ++ y)) (D + 1) = q := by rw [HKA.out, kth_app, if_neg (by omega), show (x ++ s.take r').length + 1 - (x ++ s.take r').length = 1 by omega]; rfl
     rw [k1] at p1 p2
     rw [k2] at q1 q2
     have K1 := Lib.hid k1
     have K2 := Lib.hid k2
     have f1 := HB2.out.free (D * 2)
     have f2 := HB2.out.free (D * 2 + 1)
     have f3 := HB2.out.free ((D + 1) * 2)
     have f4 := HB2.out.free ((D + 1) * 2 + 1)
     have s1 : ((D : Int) + 1).toNat = D + 1 := by omega
     have s2 : (0 : Int) ≤ (D : Int) + 1 := by omega
     have s3 : (D : Int) + 1 < (n : Int) := by omega
     have s4 : (D : Int) < (n : Int) := by omega
     have s5 : IntKind.i64.wrap (D : Int) = D := IntWalk.i64_in _ (by omega)
     clear k1 k2 HB hq
     go_wp2_with fail
     go_region
     go_wp2_with fail
     go_roundw
     case rel =>
      refine ⟨D, r', by go_num, by omega, by omega, Lib.hid (by have := HKq.out; omega), Lib.hid ?_, Lib.hid ((((((HK.out.put _).put _).put _).put _)).drew)⟩
      have hs := set_two _ (D + 1) D HLN.out (by have := HLN.out; omega) wr g R HB2.out (by omega)
      rw [K1.out, K2.out] at hs
      have hz := swp_adj' (x ++ s.take r') (s.drop (r' + 1) ++ y) e q
      rw [← HKA.out] at hz
      rw [hz] at hs
      have := hs.dr (Dr.refl _).drew
      rw [HE.out]
      simp only [List.append_assoc, List.cons_append, List.nil_append] at this ⊢
      exact this
     case measure => simp [intOf]
    ·have e4 : decide (i < K) = false := by simpa using hlt2
     go_wp2_with fail
     refine bodyPost_ret (results_none rfl _ _ _) rfl ?_
     refine ⟨rfl, s.take r ++ q :: s.drop r, ?_, ?_, HK.out⟩
     ·have hs := ss_insert (e := q) (t1 := s.take r) (t2 := s.drop r) (l := s) (by rw [List.take_append_drop]; exact ⟨HT.out, same.refl _⟩) ?_ ?_
      ·exact hs
      ·intro z hz
       obtain ⟨d, hd, rfl⟩ := mem_kth hz
       rw [List.length_take] at hd
       have := HTN.out.yes (a + d) (by omega) (by have := HKq.out; omega)
       have d2 := H1.out
       rw [kth_app, if_neg (by omega), kth_app, if_pos (by omega)] at this
       rw [kth_take (by omega)]
       rw [show a + d - x.length = d by omega] at this
       omega
      ·intro z hz
       obtain ⟨d, hd, rfl⟩ := mem_kth hz
       rw [List.length_drop] at hd
       have d2 := H1.out
       have d3 := H2.out
       have := HTN.out.no (a + (r + d)) (by have := HKq.out; omega) (by omega)
       rw [kth_app, if_neg (by omega), kth_app, if_pos (by omega)] at this
       rw [kth_drop]
       rw [show a + (r + d) - x.length = r + d by omega] at this
       omega
     ·have := HB.out
      simp only [List.append_assoc, List.cons_append] at this ⊢
      exact this
theorem kth_s {x s t y : List Pk} {a m k : Nat} (h1 : a = x.length) (h2 : m = x.length + s.length) (g1 : a ≤ k) (g2 : k < m) : kth (x ++ (s ++ (t ++ y))) k = kth s (k - a) := by
 rw [kth_app, if_neg (by omega), kth_app, if_pos (by omega)]
 congr 1; omega
theorem kth_t {x s t y : List Pk} {m b k : Nat} (h2 : m = x.length + s.length) (h3 : b = x.length + s.length + t.length) (g1 : m ≤ k) (g2 : k < b) : kth (x ++ (s ++ (t ++ y))) k = kth t (k - m) := by
 rw [kth_app, if_neg (by omega), kth_app, if_neg (by omega), kth_app, if_pos (by omega)]
 congr 1; omega
def symC (a m b M st0 r0 : Nat) : Prop := (M < m ∧ st0 + b = M + m ∧ r0 = M) ∨ (m ≤ M ∧ st0 = a ∧ r0 = m)
theorem symC_bd {a m b M st0 r0 : Nat} (h : symC a m b M st0 r0) (hM : M = (a + b) / 2) (h1 : a < m) (h2 : m < b) : a ≤ st0 ∧ st0 ≤ r0 ∧ r0 ≤ m ∧ r0 ≤ M ∧ M < b ∧ (∀ c, st0 ≤ c → c < r0 → m ≤ M + m - 1 - c ∧ M + m - 1 - c < b) := by
 rcases h with ⟨h, h3, h4⟩ | ⟨h, h3, h4⟩
 ·exact ⟨by omega, by omega, by omega, by omega, by omega, fun c g1 g2 => by omega⟩
 ·exact ⟨by omega, by omega, by omega, by omega, by omega, fun c g1 g2 => by omega⟩
theorem sym_mono {x s t y : List Pk} {a m b M st0 r0 : Nat} (h1 : a = x.length) (h2 : m = x.length + s.length) (h3 : b = x.length + s.length + t.length) (hs : srt s) (ht : srt t) (hM : M = (a + b) / 2) (ha : a < m) (hb : m < b) (hc : symC a m b M st0 r0)
  {k h : Nat} (g1 : st0 ≤ k) (g2 : k ≤ h) (g3 : h < r0) (hp : (kth (x ++ (s ++ (t ++ y))) h).w ≤ (kth (x ++ (s ++ (t ++ y))) (M + m - 1 - h)).w) : (kth (x ++ (s ++ (t ++ y))) k).w ≤ (kth (x ++ (s ++ (t ++ y))) (M + m - 1 - k)).w := by
 obtain ⟨c1, c2, c3, c4, c5, c6⟩ := symC_bd hc hM ha hb
 have d1 := c6 k g1 (by omega)
 have d2 := c6 h (by omega) g3
 rw [kth_s h1 h2 (by omega) (by omega), kth_t h2 h3 d1.1 d1.2]
 rw [kth_s h1 h2 (by omega) (by omega), kth_t h2 h3 d2.1 d2.2] at hp
 have e1 := kth_mono hs (i := k - a) (j := h - a) (by omega) (by omega)
 have e2 := kth_mono ht (i := M + m - 1 - h - m) (j := M + m - 1 - k - m) (by omega) (by omega)
 omega
theorem sym_split {x s t y : List Pk} {a m b M st0 st r0 : Nat} (h1 : a = x.length) (h2 : m = x.length + s.length) (h3 : b = x.length + s.length + t.length) (hs : srt s) (ht : srt t) (hM : M = (a + b) / 2) (ha : a < m) (hb : m < b) (hc : symC a m b M st0 r0)
  (hT : Turn (fun c => (kth (x ++ (s ++ (t ++ y))) c).w ≤ (kth (x ++ (s ++ (t ++ y))) (M + m - 1 - c)).w) st0 st st r0) :
  ∃ s1 s2 t1 t2, s = s1 ++ s2 ∧ t = t1 ++ t2 ∧ a + s1.length = st ∧ st + t1.length = M ∧ (∀ p ∈ t1, ∀ q ∈ s2, p.w < q.w) ∧ (∀ p ∈ s1, ∀ q ∈ t2, p.w ≤ q.w) := by
 obtain ⟨c1, c2, c3, c4, c5, c6⟩ := symC_bd hc hM ha hb
 have T1 := hT.a
 have T3 := hT.c
 refine ⟨s.take (st - a), s.drop (st - a), t.take (M - st), t.drop (M - st), (List.take_append_drop _ _).symm, (List.take_append_drop _ _).symm, by rw [List.length_take]; omega, ?_, ?_, ?_⟩
 ·rw [List.length_take]
  rcases hc with ⟨h, h4, h5⟩ | ⟨h, h4, h5⟩ <;> omega
 ·intro p hp q hq
  obtain ⟨i, hi, rfl⟩ := mem_kth hp
  obtain ⟨j, hj, rfl⟩ := mem_kth hq
  rw [List.length_take] at hi
  rw [List.length_drop] at hj
  rw [kth_take (by omega), kth_drop]
  have hst : st < r0 := by rcases hc with ⟨h, h4, h5⟩ | ⟨h, h4, h5⟩ <;> omega
  have d := c6 st (by omega) hst
  have := hT.no st (Nat.le_refl _) hst
  rw [kth_s h1 h2 (by omega) (by omega), kth_t h2 h3 d.1 d.2] at this
  have e1 := kth_mono hs (i := st - a) (j := st - a + j) (by omega) (by omega)
  have e2 := kth_mono ht (i := i) (j := M + m - 1 - st - m) (by omega) (by omega)
  omega
 ·intro p hp q hq
  obtain ⟨i, hi, rfl⟩ := mem_kth hp
  obtain ⟨j, hj, rfl⟩ := mem_kth hq
  rw [List.length_take] at hi
  rw [List.length_drop] at hj
  rw [kth_take (by omega), kth_drop]
  have hst : st0 < st := by rcases hc with ⟨h, h4, h5⟩ | ⟨h, h4, h5⟩ <;> omega
  have d := c6 (st - 1) (by omega) (by omega)
  have := hT.yes (st - 1) (by omega) (by omega)
  rw [kth_s h1 h2 (by omega) (by omega), kth_t h2 h3 d.1 d.2] at this
  have e1 := kth_mono hs (i := i) (j := st - 1 - a) (by omega) (by omega)
  have e2 := kth_mono ht (i := M + m - 1 - (st - 1) - m) (j := M - st + j) (by omega) (by omega)
  omega
theorem sym_join {s1 s2 t1 t2 r1 r2 : List Pk} (hs : srt (s1 ++ s2)) (ht : srt (t1 ++ t2)) (f1 : ∀ p ∈ t1, ∀ q ∈ s2, p.w < q.w) (f2 : ∀ p ∈ s1, ∀ q ∈ t2, p.w ≤ q.w) (h1 : SS r1 (s1 ++ t1)) (h2 : SS r2 (s2 ++ t2)) : SS (r1 ++ r2) (s1 ++ s2 ++ (t1 ++ t2)) := by
 refine ⟨srt_app h1.1 h2.1 ?_, ?_⟩
 ·intro p hp q hq
  rcases List.mem_append.1 (h1.mem.1 hp) with hp | hp <;> rcases List.mem_append.1 (h2.mem.1 hq) with hq | hq
  ·exact srt_le hs p hp q hq
  ·exact f2 p hp q hq
  ·exact Int.le_of_lt (f1 p hp q hq)
  ·exact srt_le ht p hp q hq
 ·refine (h1.2.app h2.2).trans ?_
  have e1 : s1 ++ t1 ++ (s2 ++ t2) = s1 ++ ((t1 ++ s2) ++ t2) := by simp
  have e2 : s1 ++ s2 ++ (t1 ++ t2) = s1 ++ ((s2 ++ t1) ++ t2) := by simp
  rw [e1, e2]
  refine (same.refl s1).app (same.app ?_ (same.refl t2))
  exact same_swap s2 t1 (fun p hp q hq => by have := f1 q hq p hp; omega)
def pc (l : List Pk) (k b : Nat) : List Pk := (l.drop k).take b
def Ch (b : Nat) (r l : List Pk) : Prop := r.length = l.length ∧ ∀ k, SS (pc r (k * b) b) (pc l (k * b) b)
theorem ss_nil : SS [] [] := ⟨srt_nil, same.refl _⟩
theorem pc_app_left {x r : List Pk} {k b : Nat} (h : k + b ≤ x.length) : pc (x ++ r) k b = pc x k b := by
 unfold pc
 rw [List.drop_append_of_le_length (by omega), List.take_append_of_le_length (by rw [List.length_drop]; omega)]
theorem pc_app_right {x r : List Pk} {k b : Nat} (h : x.length ≤ k) : pc (x ++ r) k b = pc r (k - x.length) b := by
 unfold pc
 rw [List.drop_append, List.drop_eq_nil_of_le h, List.nil_append]
theorem pc_all {r : List Pk} {b : Nat} (h : r.length ≤ b) : pc r 0 b = r := by
 unfold pc; rw [List.drop_zero, List.take_of_length_le h]
theorem pc_none {r : List Pk} {k b : Nat} (h : r.length ≤ k) : pc r k b = [] := by
 unfold pc; rw [List.drop_eq_nil_of_le h, List.take_nil]
theorem ch_nil (b : Nat) : Ch b [] [] := ⟨rfl, fun k => by rw [pc_none (by simp)]; exact ss_nil⟩
theorem ch_app {b k : Nat} {x y r s : List Pk} (h : Ch b x y) (hk : x.length = k * b) (hs : SS r s) (hl : s.length ≤ b) : Ch b (x ++ r) (y ++ s) := by
 have hxy := h.1
 refine ⟨by rw [List.length_append, List.length_append, hxy, hs.len], fun j => ?_⟩
 rcases Nat.lt_trichotomy j k with hj | rfl | hj
 ·have : (j + 1) * b ≤ k * b := Nat.mul_le_mul_right b hj
  rw [Nat.add_mul, Nat.one_mul] at this
  rw [pc_app_left (by omega), pc_app_left (by omega)]
  exact h.2 j
 ·rw [pc_app_right (by omega), pc_app_right (by omega), hk, ← hxy, hk, Nat.sub_self, pc_all (by rw [hs.len]; exact hl), pc_all hl]
  exact hs
 ·have : (k + 1) * b ≤ j * b := Nat.mul_le_mul_right b hj
  rw [Nat.add_mul, Nat.one_mul] at this
  have e1 : r.length ≤ j * b - x.length := by rw [hs.len]; omega
  have e2 : s.length ≤ j * b - y.length := by omega
  rw [pc_app_right (by omega), pc_app_right (by omega), pc_none e1, pc_none e2]
  exact ss_nil
theorem ch_done {b : Nat} {r l : List Pk} (h : Ch b r l) (hb : l.length ≤ b) : SS r l := by
 have := h.2 0
 rwa [Nat.zero_mul, pc_all (by rw [h.1]; exact hb), pc_all hb] at this
theorem ss_trans_app {c s t s0 t0 : List Pk} (h : SS c (s ++ t)) (hs : SS s s0) (ht : SS t t0) : SS c (s0 ++ t0) := h.of_same (hs.2.app ht.2)
theorem pc_two (l : List Pk) (k b : Nat) : pc l k (2 * b) = pc l k b ++ pc l (k + b) b := by
 unfold pc
 rw [show 2 * b = b + b by omega, List.take_add, List.drop_drop]
theorem drop_pc (l : List Pk) (k b : Nat) : l.drop k = pc l k b ++ l.drop (k + b) := by
 unfold pc
 rw [← List.drop_drop, List.take_append_drop]
theorem pc_len (l : List Pk) (k b : Nat) : (pc l k b).length = min b (l.length - k) := by unfold pc; rw [List.length_take, List.length_drop]
theorem ch_at {b k a : Nat} {r l : List Pk} (h : Ch b r l) (ha : a = k * b) : SS (pc r a b) (pc l a b) := by subst ha; exact h.2 k
theorem take_pc (l : List Pk) (k b : Nat) : l.take (k + b) = l.take k ++ pc l k b := by unfold pc; rw [List.take_add]
open Go.RowKit
theorem swapRange_parts (w : World) (g : Nat) (x u z v y : List Pk) (R : List Value) (m c a b n : Nat) (ai bi ni : Int) (fv : Value) (h : PB w g (x ++ (u ++ (z ++ (v ++ y)))) R) (hm : m = (x ++ (u ++ (z ++ (v ++ y)))).length)
  (h1 : a = x.length) (h2 : b = x.length + u.length + z.length) (h3 : n = u.length) (h4 : n = v.length) (ea : ai = a) (eb : bi = b) (en : ni = n) (hsz : m ≤ 1000000) :
  Calls Tryz.prog 175 #[.slice (some ⟨g, 0, none⟩) m c, .int .i64 ai, .int .i64 bi, .int .i64 ni, fv] w fun e w' => e = .returned (.tuple #[]) ∧ PB w' g (x ++ (v ++ (z ++ (u ++ y)))) R ∧ Keeps [g] w w' := by
 subst ea eb en
 have hl : m = x.length + (u.length + (z.length + (v.length + y.length))) := by rw [hm]; simp only [List.length_append]
 have := swapRange_calls w g _ R m c a b n fv h hm (by omega) (by omega) hsz
 rw [h1, h2, h3, swpN_parts x u z v y (by omega)] at this
 rw [h1, h2, h3]; exact this
theorem rotate_calls (w : World) (g : Nat) (x u v y : List Pk) (R : List Value) (n c a m b : Nat) (fv : Value) (h : PB w g (x ++ (u ++ (v ++ y))) R) (hn : n = (x ++ (u ++ (v ++ y))).length)
  (h1 : a = x.length) (h2 : m = x.length + u.length) (h3 : b = x.length + u.length + v.length) (hu : 0 < u.length) (hv : 0 < v.length) (hsz : n ≤ 1000000) :
  Calls Tryz.prog 158 #[.slice (some ⟨g, 0, none⟩) n c, .int .i64 a, .int .i64 m, .int .i64 b, fv] w fun e w' => e = .returned (.tuple #[]) ∧ PB w' g (x ++ (v ++ (u ++ y))) R ∧ Keeps [g] w w' := by
 have H := Lib.hid h
 have hl : n = x.length + (u.length + (v.length + y.length)) := by rw [hn]; simp only [List.length_append]
 have HL := Lib.hid hl
 have H1 := Lib.hid h1
 have H2 := Lib.hid h2
 have H3 := Lib.hid h3
 have b1 : a ≤ m := by omega
 have b2 : m ≤ b := by omega
 have b3 : b ≤ n := by omega
 have e1 : IntKind.i64.wrap ((m : Int) - a) = (m : Int) - a := IntWalk.i64_in _ (by omega)
 have e2 : IntKind.i64.wrap ((b : Int) - m) = (b : Int) - m := IntWalk.i64_in _ (by omega)
 clear h hl h1 h2 h3 hn
 go_enter Tryz.func158, Tryz.ntmps158
 go_wp2_with fail
 go_loopw [10, 11] (fun iv jv wr => ∃ (i j : Nat) (P U V S : List Pk), 0 < i ∧ 0 < j ∧ i ≤ m ∧ j ≤ n ∧ m + j ≤ n ∧ iv = .int .i64 i ∧ jv = .int .i64 j ∧ Hid (U.length = i) ∧ Hid (V.length = j) ∧ Hid (P.length + i = m) ∧ Hid (P.length + (i + (j + S.length)) = n) ∧ Hid (P ++ (V ++ (U ++ S)) = x ++ (v ++ (u ++ y))) ∧ Hid (PB wr g (P ++ (U ++ (V ++ S))) R) ∧ Hid (Keeps [g] w wr)) (fun iv jv _ => (intOf iv + intOf jv).toNat)
 case atStart =>
  have q1 := H1.out; have q2 := H2.out; have q3 := H3.out; have q4 := HL.out
  exact ⟨m - a, b - m, x, u, v, y, by omega, by omega, by omega, by omega, by omega, by congr 1; omega, by congr 1; omega, Lib.hid (by omega), Lib.hid (by omega), Lib.hid (by omega), Lib.hid (by omega), Lib.hid rfl, H, Lib.hid (Keeps.refl _ _)⟩
 case round =>
  obtain ⟨i, j, P, U, V, S, hi, hj, him, hjn, hmj, rfl, rfl, HU, HV, HP, HN, HT, HB, HK⟩ := hrel
  clear e1 e2 b1 b2 b3 H
  by_cases hne : i = j
  ·subst hne
   have e3 : ((i : Int) != (i : Int)) = false := by simp
   have e4 : IntKind.i64.wrap ((m : Int) - i) = (m : Int) - i := IntWalk.i64_in _ (by omega)
   go_wp2_with fail
   have HB2 : Hid (PB wr g (P ++ (U ++ ([] ++ (V ++ S)))) R) := HB
   refine (swapRange_parts _ _ P U [] V S R _ _ (m - i) m i _ _ _ _ HB2.out (by have := HN.out; have := HU.out; have := HV.out; simp only [List.length_append, List.length_nil]; omega) (by have := HP.out; omega) (by have := HP.out; have := HU.out; simp only [List.length_nil]; omega) (by have := HU.out; omega) (by have := HV.out; omega) (by omega) rfl rfl hsz).mono ?_
   rintro e w' ⟨rfl, hb, hk⟩
   have HB3 := Lib.hid hb
   have HK3 := Lib.hid (HK.out.trans hk)
   clear hb hk
   go_wp2_with fail
   go_end0
   refine ⟨rfl, ?_, HK3.out⟩
   rw [← HT.out]; exact HB3.out
  ·have e3 : ((i : Int) != (j : Int)) = true := by simp; omega
   by_cases hgt : j < i
   ·have e4 : IntKind.i64.wrap ((m : Int) - i) = (m : Int) - i := IntWalk.i64_in _ (by omega)
    have e5 : IntKind.i64.wrap ((i : Int) - j) = (i : Int) - j := IntWalk.i64_in _ (by omega)
    have HB2 : Hid (PB wr g (P ++ (U.take j ++ (U.drop j ++ (V ++ S)))) R) := by
     have := HB.out; rw [← List.take_append_drop j U, List.append_assoc] at this; exact this
    have l1 : Hid ((U.take j).length = j) := by have := HU.out; show _ = _; rw [List.length_take]; omega
    have l2 : Hid ((U.drop j).length = i - j) := by have := HU.out; show _ = _; rw [List.length_drop]; omega
    have HT2 : Hid (P ++ (V ++ (U.take j ++ (U.drop j ++ S))) = x ++ (v ++ (u ++ y))) := by
     have := HT.out; rw [← List.take_append_drop j U, List.append_assoc] at this; exact this
    generalize U.take j = U1 at *
    generalize U.drop j = U2 at *
    clear hne HB HT
    go_wp2_with fail
    refine (swapRange_parts _ _ P U1 U2 V S R _ _ (m - i) m j _ _ _ _ HB2.out (by have := HN.out; have := l1.out; have := l2.out; have := HV.out; simp only [List.length_append]; omega) (by have := HP.out; omega) (by have := HP.out; have := l1.out; have := l2.out; omega) (by have := l1.out; omega) (by have := HV.out; omega) (by omega) rfl rfl hsz).mono ?_
    rintro e w' ⟨rfl, hb, hk⟩
    have HB3 := Lib.hid hb
    have HK3 := Lib.hid (HK.out.trans hk)
    clear hb hk
    go_wp2_with fail
    go_roundw
    case rel => exact ⟨i - j, j, P ++ V, U2, U1, S, by omega, by omega, by omega, by omega, by omega, by congr 1; omega, rfl, l2, l1, Lib.hid (by have := HP.out; have := HV.out; rw [List.length_append]; omega), Lib.hid (by have := HN.out; have := HV.out; rw [List.length_append]; omega), Lib.hid (by rw [List.append_assoc]; exact HT2.out), Lib.hid (by rw [List.append_assoc]; exact HB3.out), HK3⟩
    case measure => simp [intOf]; omega
   ·have hij : i < j := by omega
    have e4 : IntKind.i64.wrap ((m : Int) - i) = (m : Int) - i := IntWalk.i64_in _ (by omega)
    have e5 : IntKind.i64.wrap ((j : Int) - i) = (j : Int) - i := IntWalk.i64_in _ (by omega)
    have e6 : IntKind.i64.wrap ((m : Int) + j) = (m : Int) + j := IntWalk.i64_in _ (by omega)
    have e7 : IntKind.i64.wrap ((m : Int) + j - i) = (m : Int) + j - i := IntWalk.i64_in _ (by omega)
    have HB2 : Hid (PB wr g (P ++ (U ++ (V.take (j - i) ++ (V.drop (j - i) ++ S)))) R) := by
     have := HB.out; rw [← List.take_append_drop (j - i) V, List.append_assoc] at this; exact this
    have l1 : Hid ((V.take (j - i)).length = j - i) := by have := HV.out; show _ = _; rw [List.length_take]; omega
    have l2 : Hid ((V.drop (j - i)).length = i) := by have := HV.out; show _ = _; rw [List.length_drop]; omega
    have HT2 : Hid (P ++ (V.take (j - i) ++ (V.drop (j - i) ++ (U ++ S))) = x ++ (v ++ (u ++ y))) := by
     have := HT.out; rw [← List.take_append_drop (j - i) V, List.append_assoc] at this; exact this
    generalize V.take (j - i) = V1 at *
    generalize V.drop (j - i) = V2 at *
    clear hne HB HT
    go_wp2_with fail
    refine (swapRange_parts _ _ P U V1 V2 S R _ _ (m - i) (m + j - i) i _ _ _ _ HB2.out (by have := HN.out; have := l1.out; have := l2.out; have := HU.out; simp only [List.length_append]; omega) (by have := HP.out; omega) (by have := HP.out; have := l1.out; have := HU.out; omega) (by have := HU.out; omega) (by have := l2.out; omega) (by omega) (by omega) rfl hsz).mono ?_
    rintro e w' ⟨rfl, hb, hk⟩
    have HB3 := Lib.hid hb
    have HK3 := Lib.hid (HK.out.trans hk)
    clear hb hk
    go_wp2_with fail
    go_roundw
    case rel => exact ⟨i, j - i, P, V2, V1, U ++ S, by omega, by omega, by omega, by omega, by omega, rfl, by congr 1; omega, l2, l1, HP, Lib.hid (by have := HN.out; have := HU.out; rw [List.length_append]; omega), HT2, HB3, HK3⟩
    case measure => simp [intOf]; omega
open Go.RowKit
theorem sym_perm0 (x S1 S2 T1 T2 y : List Pk) : (x ++ (S1 ++ (T1 ++ (S2 ++ (T2 ++ y))))).Perm (x ++ ((S1 ++ S2) ++ ((T1 ++ T2) ++ y))) := by
  refine List.Perm.append_left x ?_
  rw [List.append_assoc]
  refine List.Perm.append_left S1 ?_
  rw [List.append_assoc, ← List.append_assoc T1, ← List.append_assoc S2]
  exact List.Perm.append_right _ List.perm_append_comm
theorem sym_perm {x S1 T1 z r1 : List Pk} (h : r1.Perm (S1 ++ T1)) : ((x ++ r1) ++ z).Perm (x ++ (S1 ++ (T1 ++ z))) := by
  rw [List.append_assoc, ← List.append_assoc S1]
  exact List.Perm.append_left x (List.Perm.append_right z h)
def SymC (N : Nat) : Prop := ∀ (w : World) (g : Nat) (x s t y : List Pk) (R : List Value) (n c a m b : Nat), PB w g (x ++ (s ++ (t ++ y))) R → n = (x ++ (s ++ (t ++ y))).length → okW (x ++ (s ++ (t ++ y))) →
    a = x.length → m = x.length + s.length → b = x.length + s.length + t.length → srt s → srt t → 0 < s.length → 0 < t.length → s.length + t.length ≤ N → n ≤ 1000000 →
    Calls Tryz.prog 138 #[.slice (some ⟨g, 0, none⟩) n c, .int .i64 a, .int .i64 m, .int .i64 b, theCmp] w fun e w' => e = .returned (.tuple #[]) ∧ ∃ r, SS r (s ++ t) ∧ PB w' g (x ++ (r ++ y)) R ∧ Keeps [g] w w'
theorem symGen_calls (N : Nat) (ih : SymC N) (w : World) (g : Nat) (x s t y : List Pk) (R : List Value) (n c a m b : Nat) (h : PB w g (x ++ (s ++ (t ++ y))) R) (hn : n = (x ++ (s ++ (t ++ y))).length) (hw : okW (x ++ (s ++ (t ++ y))))
    (h1 : a = x.length) (h2 : m = x.length + s.length) (h3 : b = x.length + s.length + t.length) (hs : srt s) (ht : srt t) (ls : 2 ≤ s.length) (lt : 2 ≤ t.length) (hN : s.length + t.length ≤ N + 1) (hsz : n ≤ 1000000) :
    Calls Tryz.prog 138 #[.slice (some ⟨g, 0, none⟩) n c, .int .i64 a, .int .i64 m, .int .i64 b, theCmp] w fun e w' => e = .returned (.tuple #[]) ∧ ∃ r, SS r (s ++ t) ∧ PB w' g (x ++ (r ++ y)) R ∧ Keeps [g] w w' := by
  have H := Lib.hid h
  have hl : n = x.length + (s.length + (t.length + y.length)) := by rw [hn]; simp only [List.length_append]
  have HL := Lib.hid hl
  have HLN := Lib.hid hn
  have H1 := Lib.hid h1
  have H2 := Lib.hid h2
  have H3 := Lib.hid h3
  have HW := Lib.hid hw
  have HS := Lib.hid hs
  have HT := Lib.hid ht
  have IH := Lib.hid ih
  have HN := Lib.hid hN
  have b1 : a + 2 ≤ m := by omega
  have b2 : m + 2 ≤ b := by omega
  have b3 : b ≤ n := by omega
  have e1 : IntKind.i64.wrap ((m : Int) - a) = (m : Int) - a := IntWalk.i64_in _ (by omega)
  have e2 : ((m : Int) - a == 1) = false := by simp; omega
  have e3 : IntKind.i64.wrap ((b : Int) - m) = (b : Int) - m := IntWalk.i64_in _ (by omega)
  have e4 : ((b : Int) - m == 1) = false := by simp; omega
  obtain ⟨M, hM⟩ : ∃ M : Nat, M = (a + b) / 2 := ⟨_, rfl⟩
  have s0 : ((a : Int) + b) / 2 = (M : Int) := by omega
  have m1 : a < M := by omega
  have m2 : M < b := by omega
  have HM := Lib.hid hM
  have hcase : ∃ st0 r0 : Nat, symC a m b M st0 r0 := by
    by_cases hmm : M < m
    · exact ⟨M + m - b, M, Or.inl ⟨hmm, by omega, rfl⟩⟩
    · exact ⟨a, m, Or.inr ⟨by omega, rfl, rfl⟩⟩
  obtain ⟨st0, r0, hC⟩ := hcase
  obtain ⟨c1, c2, c3, c4, c5, c6⟩ := symC_bd hC hM (by omega) (by omega)
  have HC := Lib.hid hC
  have C6 := Lib.hid c6
  clear h hl h1 h2 h3 hn hw hs ht ih hN hM hC c6
  have key : ∀ wq : World, Hid (PB wq g (x ++ (s ++ (t ++ y))) R) → True := fun _ _ => trivial
  clear key
  rcases (by have := HC.out; unfold symC at this; omega : (M < m ∧ st0 + b = M + m ∧ r0 = M) ∨ (m ≤ M ∧ st0 = a ∧ r0 = m)) with ⟨hmm, q1, q2⟩ | ⟨hmm, q1, q2⟩
  case' inl =>
    have e5 : decide (M < m) = true := by simpa using hmm
    have q3 : Hid ((M : Int) + m - b = (st0 : Int)) := Lib.hid (by omega)
    have q4 : Hid ((M : Int) = (r0 : Int)) := Lib.hid (by omega)
  case' inr =>
    have e5 : decide (M < m) = false := by simp; omega
    have q3 : Hid ((a : Int) = (st0 : Int)) := Lib.hid (by omega)
    have q4 : Hid ((m : Int) = (r0 : Int)) := Lib.hid (by omega)
  all_goals
    clear q1 q2
    go_enter Tryz.func138, Tryz.ntmps138
    go_wp2_with fail
    go_loopw [20, 21] (fun iv jv wr => ∃ (i j : Nat), iv = .int .i64 i ∧ jv = .int .i64 j ∧ i ≤ j ∧ j ≤ r0 ∧ st0 ≤ i ∧ Hid (Turn (fun c => (kth (x ++ (s ++ (t ++ y))) c).w ≤ (kth (x ++ (s ++ (t ++ y))) (M + m - 1 - c)).w) st0 i j r0) ∧ Hid (PB wr g (x ++ (s ++ (t ++ y))) R) ∧ Hid (Keeps [g] w wr)) (fun iv jv _ => (intOf jv - intOf iv).toNat)
    case atStart => exact ⟨st0, r0, by rw [q3.out], by rw [q4.out], c2, by omega, by omega, Lib.hid (Turn.start _ c2), H, Lib.hid (Keeps.refl _ _)⟩
  all_goals
    clear H
    obtain ⟨i, j, rfl, rfl, hij, hjb, hmi, HTN, HB, HK⟩ := hrel
    obtain ⟨wo, rfl⟩ : ∃ wo : World, wo = wr := ⟨_, rfl⟩
    by_cases hlt : i < j
    · have e0 : decide (i < j) = true := by simpa using hlt
      obtain ⟨h, hh⟩ : ∃ h : Nat, h = (i + j) / 2 := ⟨_, rfl⟩
      have s1 : ((i : Int) + j) / 2 = (h : Int) := by omega
      have hih : i ≤ h := by omega
      have hhj : h < j := by omega
      obtain ⟨z1, z2⟩ := C6.out h (by omega) (by omega)
      obtain ⟨Z, hZ⟩ : ∃ Z : Nat, Z = M + m - 1 - h := ⟨_, rfl⟩
      rw [← hZ] at z1 z2
      have s2 : (M : Int) + m - 1 - h = (Z : Int) := by omega
      have s5 : IntKind.i64.wrap (Z : Int) = (Z : Int) := IntWalk.i64_in _ (by omega)
      have s3 : (h : Int) < n := by omega
      have s4 : (Z : Int) < n := by omega
      obtain ⟨p1, p2⟩ := HB.out.cell (j := h) (by have := HLN.out; omega)
      obtain ⟨q1, q2⟩ := HB.out.cell (j := Z) (by have := HLN.out; omega)
      obtain ⟨we, we1⟩ := okW_mem.1 HW.out _ (kth_mem (t := x ++ (s ++ (t ++ y))) (i := h) (by have := HLN.out; omega))
      obtain ⟨wp, wp1⟩ := okW_mem.1 HW.out _ (kth_mem (t := x ++ (s ++ (t ++ y))) (i := Z) (by have := HLN.out; omega))
      obtain ⟨u, hu⟩ : ∃ u, u = kth (x ++ (s ++ (t ++ y))) h := ⟨_, rfl⟩
      obtain ⟨v, hv⟩ : ∃ v, v = kth (x ++ (s ++ (t ++ y))) Z := ⟨_, rfl⟩
      rw [← hu] at p1 p2 we we1
      rw [← hv] at q1 q2 wp wp1
      have HU := Lib.hid hu
      have HV := Lib.hid hv
      have HH := Lib.hid hh
      have HZ := Lib.hid hZ
      clear hu hv hh hZ
      go_wp2_with fail
      go_still_tail 11, (by kernel_rfl)
      change wpList _ _ _ _ _ wo.drew
      go_wp2_with fail
      refine (lighter_calls _ _ _ _ _ _ _ _ _ wp wp1 we we1).mono ?_
      rintro _ w1 ⟨rfl, hk⟩
      have HK1 := Lib.hid (HK.out.trans ((Keeps.refl [g] wo).drew.trans (hk.mono (by simp))))
      have HB3 := Lib.hid (HB.out.keeps ((Keeps.refl [] wo).drew.trans hk) (by simp))
      clear hk HB HK p1 p2 q1 q2 s5 s2
      by_cases hlt : v.w < u.w
      · have e2 : decide (v.w - u.w < 0) = true := by simp; omega
        go_wp2_with fail
        refine ⟨⟨i, h, rfl, rfl, by omega, by omega, by omega, Lib.hid (HTN.out.down hih hhj (fun k g1 g2 g3 => ?_) ?_), HB3, HK1⟩, by simp [intOf]; omega⟩
        · exact sym_mono H1.out H2.out H3.out HS.out HT.out HM.out (by omega) (by omega) HC.out (by omega) g1 g2 g3
        · show ¬ (kth _ h).w ≤ (kth _ (M + m - 1 - h)).w; rw [← HZ.out, ← HU.out, ← HV.out]; omega
      · have e2 : decide (v.w - u.w < 0) = false := by simp; omega
        go_wp2_with fail
        refine ⟨⟨h + 1, j, by go_num, rfl, by omega, by omega, by omega, Lib.hid (HTN.out.up hih hhj (fun k g1 g2 g3 => ?_) ?_), HB3, HK1⟩, by simp [intOf]; omega⟩
        · exact sym_mono H1.out H2.out H3.out HS.out HT.out HM.out (by omega) (by omega) HC.out g1 g2 (by omega) g3
        · show (kth _ h).w ≤ (kth _ (M + m - 1 - h)).w; rw [← HZ.out, ← HU.out, ← HV.out]; omega
    · have e0 : decide (i < j) = false := by simpa using hlt
      obtain rfl : i = j := by omega
      obtain ⟨S1, S2, T1, T2, es, et, l1, l2, F1, F2⟩ := sym_split H1.out H2.out H3.out HS.out HT.out HM.out (by omega) (by omega) HC.out HTN.out
      obtain ⟨E, hE⟩ : ∃ E : Nat, E + i = M + m := ⟨M + m - i, by omega⟩
      have s1 : (M : Int) + m - i = (E : Int) := by omega
      have s2 : IntKind.i64.wrap ((M : Int) + m - i) = (E : Int) := by rw [IntWalk.i64_in _ (by omega)]; exact s1
      have ls' : s.length = S1.length + S2.length := by rw [es, List.length_append]
      have lt' : t.length = T1.length + T2.length := by rw [et, List.length_append]
      have a1 : E = m + T1.length := by omega
      have a2 : a ≤ i := by omega
      have a3 : i ≤ M := by omega
      have a4 : M ≤ E := by omega
      have a5 : E ≤ b := by have := H2.out; have := H3.out; omega
      have a6 : i ≤ m := by omega
      have a7 : m ≤ E := by omega
      have F : Hid (a = x.length ∧ i = x.length + S1.length ∧ m = i + S2.length ∧ M = i + T1.length ∧ E = m + T1.length ∧ b = E + T2.length ∧ n = b + y.length ∧ S1.length + S2.length + (T1.length + T2.length) ≤ N + 1 ∧ 2 ≤ S1.length + S2.length ∧ 2 ≤ T1.length + T2.length) := by
        have := H1.out; have := H2.out; have := H3.out; have := HL.out; have := HN.out
        exact ⟨by omega, by omega, by omega, by omega, by omega, by omega, by omega, by omega, by omega, by omega⟩
      have HF1 := Lib.hid F1
      have HF2 := Lib.hid F2
      have ES := Lib.hid es
      have ET := Lib.hid et
      have HS2 : Hid (srt (S1 ++ S2)) := by have := HS.out; rwa [es] at this
      have HT2 : Hid (srt (T1 ++ T2)) := by have := HT.out; rwa [et] at this
      have HB2 : Hid (PB wo g (x ++ S1 ++ (S2 ++ (T1 ++ (T2 ++ y)))) R) := by
        have := HB.out; rw [es, et] at this; simp only [List.append_assoc] at this ⊢; exact this
      have OK4 : Hid (okW (x ++ (S1 ++ (T1 ++ (S2 ++ (T2 ++ y)))))) := by
        have := HW.out; rw [es, et] at this; exact okW_perm (sym_perm0 x S1 S2 T1 T2 y) this
      clear hE l1 l2 ls' lt' a1 F1 F2 es et HB HTN e1 e2 e3 e4
      rcases Nat.eq_zero_or_pos S1.length with z10 | z10
      · rcases Nat.eq_zero_or_pos S2.length with z20 | z20
        · rcases Nat.eq_zero_or_pos T1.length with z30 | z30
          · rcases Nat.eq_zero_or_pos T2.length with z40 | z40
            · exfalso; have f := F.out; omega
            · exfalso; have f := F.out; omega
          · rcases Nat.eq_zero_or_pos T2.length with z40 | z40
            · exfalso; have f := F.out; omega
            · exfalso; have f := F.out; omega
        · rcases Nat.eq_zero_or_pos T1.length with z30 | z30
          · rcases Nat.eq_zero_or_pos T2.length with z40 | z40
            · exfalso; have f := F.out; omega
            · exfalso; have f := F.out; omega
          · rcases Nat.eq_zero_or_pos T2.length with z40 | z40
            · have z1 := List.eq_nil_of_length_eq_zero z10
              have z4 := List.eq_nil_of_length_eq_zero z40
              have d0 : decide (i < m) = true := by have f := F.out; simp; omega
              have d1 : decide (m < E) = true := by have f := F.out; simp; omega
              have d2 : decide (a < i) = false := by have f := F.out; simp; omega
              have d3 : decide (i < M) = true := by have f := F.out; simp; omega
              have d4 : decide (M < E) = true := by have f := F.out; simp; omega
              have d5 : decide (E < b) = false := by have f := F.out; simp; omega
              go_wp2_with fail
              refine (rotate_calls _ _ (x ++ S1) S2 T1 (T2 ++ y) R _ _ i m E _ HB2.out (by have f := F.out; (try simp only [List.length_append]); omega) (by have f := F.out; (try simp only [List.length_append]); omega) (by have f := F.out; (try simp only [List.length_append]); omega) (by have f := F.out; (try simp only [List.length_append]); omega) (by omega) (by omega) hsz).mono ?_
              rintro _ w2 ⟨rfl, hb, hk⟩
              have HB3 := Lib.hid hb
              have HK3 := Lib.hid (HK.out.trans hk)
              clear hb hk
              have HB4 : Hid (PB w2 g (x ++ (S1 ++ (T1 ++ (S2 ++ (T2 ++ y))))) R) := by
                have := HB3.out; rw [List.append_assoc] at this; exact this
              have HR1 : Hid (SS (S1 ++ T1) (S1 ++ T1)) := Lib.hid ⟨by rw [z1]; exact srt_left HT2.out, same.refl _⟩
              have HB5 : Hid (PB w2 g (x ++ ((S1 ++ T1) ++ (S2 ++ (T2 ++ y)))) R) := by
                have := HB4.out; rw [List.append_assoc S1]; exact this
              have HK4 := HK3
              have HB6 : Hid (PB w2 g ((x ++ (S1 ++ T1)) ++ (S2 ++ (T2 ++ y))) R) := by
                have := HB5.out; rw [List.append_assoc x]; exact this
              have LR : Hid ((S1 ++ T1).length = S1.length + T1.length) := Lib.hid (HR1.out.len.trans (List.length_append ..))
              have HR2 : Hid (SS (S2 ++ T2) (S2 ++ T2)) := Lib.hid ⟨by rw [z4]; rw [List.append_nil]; exact srt_right HS2.out, same.refl _⟩
              have HB7 : Hid (PB w2 g ((x ++ (S1 ++ T1)) ++ ((S2 ++ T2) ++ y)) R) := by
                have := HB6.out; rw [List.append_assoc S2]; exact this
              have HK5 := HK4
              go_wp2_with fail
              go_end0
              refine ⟨rfl, (S1 ++ T1) ++ (S2 ++ T2), ?_, ?_, HK5.out⟩
              · rw [ES.out, ET.out]; exact sym_join HS2.out HT2.out HF1.out HF2.out HR1.out HR2.out
              · have := HB7.out; simp only [List.append_assoc] at this ⊢; exact this
            · have z1 := List.eq_nil_of_length_eq_zero z10
              have d0 : decide (i < m) = true := by have f := F.out; simp; omega
              have d1 : decide (m < E) = true := by have f := F.out; simp; omega
              have d2 : decide (a < i) = false := by have f := F.out; simp; omega
              have d3 : decide (i < M) = true := by have f := F.out; simp; omega
              have d4 : decide (M < E) = true := by have f := F.out; simp; omega
              have d5 : decide (E < b) = true := by have f := F.out; simp; omega
              go_wp2_with fail
              refine (rotate_calls _ _ (x ++ S1) S2 T1 (T2 ++ y) R _ _ i m E _ HB2.out (by have f := F.out; (try simp only [List.length_append]); omega) (by have f := F.out; (try simp only [List.length_append]); omega) (by have f := F.out; (try simp only [List.length_append]); omega) (by have f := F.out; (try simp only [List.length_append]); omega) (by omega) (by omega) hsz).mono ?_
              rintro _ w2 ⟨rfl, hb, hk⟩
              have HB3 := Lib.hid hb
              have HK3 := Lib.hid (HK.out.trans hk)
              clear hb hk
              have HB4 : Hid (PB w2 g (x ++ (S1 ++ (T1 ++ (S2 ++ (T2 ++ y))))) R) := by
                have := HB3.out; rw [List.append_assoc] at this; exact this
              have HR1 : Hid (SS (S1 ++ T1) (S1 ++ T1)) := Lib.hid ⟨by rw [z1]; exact srt_left HT2.out, same.refl _⟩
              have HB5 : Hid (PB w2 g (x ++ ((S1 ++ T1) ++ (S2 ++ (T2 ++ y)))) R) := by
                have := HB4.out; rw [List.append_assoc S1]; exact this
              have HK4 := HK3
              have HB6 : Hid (PB w2 g ((x ++ (S1 ++ T1)) ++ (S2 ++ (T2 ++ y))) R) := by
                have := HB5.out; rw [List.append_assoc x]; exact this
              have LR : Hid ((S1 ++ T1).length = S1.length + T1.length) := Lib.hid (HR1.out.len.trans (List.length_append ..))
              go_wp2_with fail
              refine (IH.out _ _ (x ++ (S1 ++ T1)) S2 T2 y R _ _ M E b HB6.out (by have f := F.out; have := LR.out; (try simp only [List.length_append] at *); omega) (okW_perm (sym_perm HR1.out.2.1) OK4.out) (by have f := F.out; have := LR.out; (try simp only [List.length_append] at *); omega) (by have f := F.out; have := LR.out; (try simp only [List.length_append] at *); omega) (by have f := F.out; have := LR.out; (try simp only [List.length_append] at *); omega) (srt_right HS2.out) (srt_right HT2.out) (by omega) (by omega) (by have f := F.out; (try simp only [List.length_append]); omega) hsz).mono ?_
              rintro _ w4 ⟨rfl, r2, hr2, hb, hk⟩
              have HR2 := Lib.hid hr2
              have HB7 := Lib.hid hb
              have HK5 := Lib.hid (HK4.out.trans hk)
              clear hb hk hr2
              go_wp2_with fail
              go_end0
              refine ⟨rfl, (S1 ++ T1) ++ r2, ?_, ?_, HK5.out⟩
              · rw [ES.out, ET.out]; exact sym_join HS2.out HT2.out HF1.out HF2.out HR1.out HR2.out
              · have := HB7.out; simp only [List.append_assoc] at this ⊢; exact this
      · rcases Nat.eq_zero_or_pos S2.length with z20 | z20
        · rcases Nat.eq_zero_or_pos T1.length with z30 | z30
          · rcases Nat.eq_zero_or_pos T2.length with z40 | z40
            · exfalso; have f := F.out; omega
            · have z2 := List.eq_nil_of_length_eq_zero z20
              have z3 := List.eq_nil_of_length_eq_zero z30
              have d0 : decide (i < m) = false := by have f := F.out; simp; omega
              have d1 : decide (m < E) = false := by have f := F.out; simp; omega
              have d2 : decide (a < i) = true := by have f := F.out; simp; omega
              have d3 : decide (i < M) = false := by have f := F.out; simp; omega
              have d4 : decide (M < E) = false := by have f := F.out; simp; omega
              have d5 : decide (E < b) = true := by have f := F.out; simp; omega
              have HB3 : Hid (PB wo g (x ++ S1 ++ (T1 ++ (S2 ++ (T2 ++ y)))) R) := by
                have := HB2.out; rw [z2] at this ⊢; exact this
              have HK3 := HK
              have HB4 : Hid (PB wo g (x ++ (S1 ++ (T1 ++ (S2 ++ (T2 ++ y))))) R) := by
                have := HB3.out; rw [List.append_assoc] at this; exact this
              have HR1 : Hid (SS (S1 ++ T1) (S1 ++ T1)) := Lib.hid ⟨by rw [z3]; rw [List.append_nil]; exact srt_left HS2.out, same.refl _⟩
              have HB5 : Hid (PB wo g (x ++ ((S1 ++ T1) ++ (S2 ++ (T2 ++ y)))) R) := by
                have := HB4.out; rw [List.append_assoc S1]; exact this
              have HK4 := HK3
              have HB6 : Hid (PB wo g ((x ++ (S1 ++ T1)) ++ (S2 ++ (T2 ++ y))) R) := by
                have := HB5.out; rw [List.append_assoc x]; exact this
              have LR : Hid ((S1 ++ T1).length = S1.length + T1.length) := Lib.hid (HR1.out.len.trans (List.length_append ..))
              have HR2 : Hid (SS (S2 ++ T2) (S2 ++ T2)) := Lib.hid ⟨by rw [z2]; exact srt_right HT2.out, same.refl _⟩
              have HB7 : Hid (PB wo g ((x ++ (S1 ++ T1)) ++ ((S2 ++ T2) ++ y)) R) := by
                have := HB6.out; rw [List.append_assoc S2]; exact this
              have HK5 := HK4
              go_wp2_with fail
              go_end0
              refine ⟨rfl, (S1 ++ T1) ++ (S2 ++ T2), ?_, ?_, HK5.out⟩
              · rw [ES.out, ET.out]; exact sym_join HS2.out HT2.out HF1.out HF2.out HR1.out HR2.out
              · have := HB7.out; simp only [List.append_assoc] at this ⊢; exact this
          · rcases Nat.eq_zero_or_pos T2.length with z40 | z40
            · exfalso; have f := F.out; omega
            · have z2 := List.eq_nil_of_length_eq_zero z20
              have d0 : decide (i < m) = false := by have f := F.out; simp; omega
              have d1 : decide (m < E) = true := by have f := F.out; simp; omega
              have d2 : decide (a < i) = true := by have f := F.out; simp; omega
              have d3 : decide (i < M) = true := by have f := F.out; simp; omega
              have d4 : decide (M < E) = false := by have f := F.out; simp; omega
              have d5 : decide (E < b) = true := by have f := F.out; simp; omega
              have HB3 : Hid (PB wo g (x ++ S1 ++ (T1 ++ (S2 ++ (T2 ++ y)))) R) := by
                have := HB2.out; rw [z2] at this ⊢; exact this
              have HK3 := HK
              have HB4 : Hid (PB wo g (x ++ (S1 ++ (T1 ++ (S2 ++ (T2 ++ y))))) R) := by
                have := HB3.out; rw [List.append_assoc] at this; exact this
              go_wp2_with fail
              refine (IH.out _ _ x S1 T1 (S2 ++ (T2 ++ y)) R _ _ a i M HB4.out (by have f := F.out; (try simp only [List.length_append]); omega) OK4.out (by have f := F.out; (try simp only [List.length_append]); omega) (by have f := F.out; (try simp only [List.length_append]); omega) (by have f := F.out; (try simp only [List.length_append]); omega) (srt_left HS2.out) (srt_left HT2.out) (by omega) (by omega) (by have f := F.out; (try simp only [List.length_append]); omega) hsz).mono ?_
              rintro _ w3 ⟨rfl, r1, hr1, hb, hk⟩
              have HR1 := Lib.hid hr1
              have HB5 := Lib.hid hb
              have HK4 := Lib.hid (HK3.out.trans hk)
              clear hb hk hr1
              have HB6 : Hid (PB w3 g ((x ++ r1) ++ (S2 ++ (T2 ++ y))) R) := by
                have := HB5.out; rw [List.append_assoc x]; exact this
              have LR : Hid (r1.length = S1.length + T1.length) := Lib.hid (HR1.out.len.trans (List.length_append ..))
              have HR2 : Hid (SS (S2 ++ T2) (S2 ++ T2)) := Lib.hid ⟨by rw [z2]; exact srt_right HT2.out, same.refl _⟩
              have HB7 : Hid (PB w3 g ((x ++ r1) ++ ((S2 ++ T2) ++ y)) R) := by
                have := HB6.out; rw [List.append_assoc S2]; exact this
              have HK5 := HK4
              go_wp2_with fail
              go_end0
              refine ⟨rfl, r1 ++ (S2 ++ T2), ?_, ?_, HK5.out⟩
              · rw [ES.out, ET.out]; exact sym_join HS2.out HT2.out HF1.out HF2.out HR1.out HR2.out
              · have := HB7.out; simp only [List.append_assoc] at this ⊢; exact this
        · rcases Nat.eq_zero_or_pos T1.length with z30 | z30
          · rcases Nat.eq_zero_or_pos T2.length with z40 | z40
            · exfalso; have f := F.out; omega
            · have z3 := List.eq_nil_of_length_eq_zero z30
              have d0 : decide (i < m) = true := by have f := F.out; simp; omega
              have d1 : decide (m < E) = false := by have f := F.out; simp; omega
              have d2 : decide (a < i) = true := by have f := F.out; simp; omega
              have d3 : decide (i < M) = false := by have f := F.out; simp; omega
              have d4 : decide (M < E) = true := by have f := F.out; simp; omega
              have d5 : decide (E < b) = true := by have f := F.out; simp; omega
              have HB3 : Hid (PB wo g (x ++ S1 ++ (T1 ++ (S2 ++ (T2 ++ y)))) R) := by
                have := HB2.out; rw [z3] at this ⊢; exact this
              have HK3 := HK
              have HB4 : Hid (PB wo g (x ++ (S1 ++ (T1 ++ (S2 ++ (T2 ++ y))))) R) := by
                have := HB3.out; rw [List.append_assoc] at this; exact this
              have HR1 : Hid (SS (S1 ++ T1) (S1 ++ T1)) := Lib.hid ⟨by rw [z3]; rw [List.append_nil]; exact srt_left HS2.out, same.refl _⟩
              have HB5 : Hid (PB wo g (x ++ ((S1 ++ T1) ++ (S2 ++ (T2 ++ y)))) R) := by
                have := HB4.out; rw [List.append_assoc S1]; exact this
              have HK4 := HK3
              have HB6 : Hid (PB wo g ((x ++ (S1 ++ T1)) ++ (S2 ++ (T2 ++ y))) R) := by
                have := HB5.out; rw [List.append_assoc x]; exact this
              have LR : Hid ((S1 ++ T1).length = S1.length + T1.length) := Lib.hid (HR1.out.len.trans (List.length_append ..))
              go_wp2_with fail
              refine (IH.out _ _ (x ++ (S1 ++ T1)) S2 T2 y R _ _ M E b HB6.out (by have f := F.out; have := LR.out; (try simp only [List.length_append] at *); omega) (okW_perm (sym_perm HR1.out.2.1) OK4.out) (by have f := F.out; have := LR.out; (try simp only [List.length_append] at *); omega) (by have f := F.out; have := LR.out; (try simp only [List.length_append] at *); omega) (by have f := F.out; have := LR.out; (try simp only [List.length_append] at *); omega) (srt_right HS2.out) (srt_right HT2.out) (by omega) (by omega) (by have f := F.out; (try simp only [List.length_append]); omega) hsz).mono ?_
              rintro _ w4 ⟨rfl, r2, hr2, hb, hk⟩
              have HR2 := Lib.hid hr2
              have HB7 := Lib.hid hb
              have HK5 := Lib.hid (HK4.out.trans hk)
              clear hb hk hr2
              go_wp2_with fail
              go_end0
              refine ⟨rfl, (S1 ++ T1) ++ r2, ?_, ?_, HK5.out⟩
              · rw [ES.out, ET.out]; exact sym_join HS2.out HT2.out HF1.out HF2.out HR1.out HR2.out
              · have := HB7.out; simp only [List.append_assoc] at this ⊢; exact this
          · rcases Nat.eq_zero_or_pos T2.length with z40 | z40
            · have z4 := List.eq_nil_of_length_eq_zero z40
              have d0 : decide (i < m) = true := by have f := F.out; simp; omega
              have d1 : decide (m < E) = true := by have f := F.out; simp; omega
              have d2 : decide (a < i) = true := by have f := F.out; simp; omega
              have d3 : decide (i < M) = true := by have f := F.out; simp; omega
              have d4 : decide (M < E) = true := by have f := F.out; simp; omega
              have d5 : decide (E < b) = false := by have f := F.out; simp; omega
              go_wp2_with fail
              refine (rotate_calls _ _ (x ++ S1) S2 T1 (T2 ++ y) R _ _ i m E _ HB2.out (by have f := F.out; (try simp only [List.length_append]); omega) (by have f := F.out; (try simp only [List.length_append]); omega) (by have f := F.out; (try simp only [List.length_append]); omega) (by have f := F.out; (try simp only [List.length_append]); omega) (by omega) (by omega) hsz).mono ?_
              rintro _ w2 ⟨rfl, hb, hk⟩
              have HB3 := Lib.hid hb
              have HK3 := Lib.hid (HK.out.trans hk)
              clear hb hk
              have HB4 : Hid (PB w2 g (x ++ (S1 ++ (T1 ++ (S2 ++ (T2 ++ y))))) R) := by
                have := HB3.out; rw [List.append_assoc] at this; exact this
              go_wp2_with fail
              refine (IH.out _ _ x S1 T1 (S2 ++ (T2 ++ y)) R _ _ a i M HB4.out (by have f := F.out; (try simp only [List.length_append]); omega) OK4.out (by have f := F.out; (try simp only [List.length_append]); omega) (by have f := F.out; (try simp only [List.length_append]); omega) (by have f := F.out; (try simp only [List.length_append]); omega) (srt_left HS2.out) (srt_left HT2.out) (by omega) (by omega) (by have f := F.out; (try simp only [List.length_append]); omega) hsz).mono ?_
              rintro _ w3 ⟨rfl, r1, hr1, hb, hk⟩
              have HR1 := Lib.hid hr1
              have HB5 := Lib.hid hb
              have HK4 := Lib.hid (HK3.out.trans hk)
              clear hb hk hr1
              have HB6 : Hid (PB w3 g ((x ++ r1) ++ (S2 ++ (T2 ++ y))) R) := by
                have := HB5.out; rw [List.append_assoc x]; exact this
              have LR : Hid (r1.length = S1.length + T1.length) := Lib.hid (HR1.out.len.trans (List.length_append ..))
              have HR2 : Hid (SS (S2 ++ T2) (S2 ++ T2)) := Lib.hid ⟨by rw [z4]; rw [List.append_nil]; exact srt_right HS2.out, same.refl _⟩
              have HB7 : Hid (PB w3 g ((x ++ r1) ++ ((S2 ++ T2) ++ y)) R) := by
                have := HB6.out; rw [List.append_assoc S2]; exact this
              have HK5 := HK4
              go_wp2_with fail
              go_end0
              refine ⟨rfl, r1 ++ (S2 ++ T2), ?_, ?_, HK5.out⟩
              · rw [ES.out, ET.out]; exact sym_join HS2.out HT2.out HF1.out HF2.out HR1.out HR2.out
              · have := HB7.out; simp only [List.append_assoc] at this ⊢; exact this
            · have d0 : decide (i < m) = true := by have f := F.out; simp; omega
              have d1 : decide (m < E) = true := by have f := F.out; simp; omega
              have d2 : decide (a < i) = true := by have f := F.out; simp; omega
              have d3 : decide (i < M) = true := by have f := F.out; simp; omega
              have d4 : decide (M < E) = true := by have f := F.out; simp; omega
              have d5 : decide (E < b) = true := by have f := F.out; simp; omega
              go_wp2_with fail
              refine (rotate_calls _ _ (x ++ S1) S2 T1 (T2 ++ y) R _ _ i m E _ HB2.out (by have f := F.out; (try simp only [List.length_append]); omega) (by have f := F.out; (try simp only [List.length_append]); omega) (by have f := F.out; (try simp only [List.length_append]); omega) (by have f := F.out; (try simp only [List.length_append]); omega) (by omega) (by omega) hsz).mono ?_
              rintro _ w2 ⟨rfl, hb, hk⟩
              have HB3 := Lib.hid hb
              have HK3 := Lib.hid (HK.out.trans hk)
              clear hb hk
              have HB4 : Hid (PB w2 g (x ++ (S1 ++ (T1 ++ (S2 ++ (T2 ++ y))))) R) := by
                have := HB3.out; rw [List.append_assoc] at this; exact this
              go_wp2_with fail
              refine (IH.out _ _ x S1 T1 (S2 ++ (T2 ++ y)) R _ _ a i M HB4.out (by have f := F.out; (try simp only [List.length_append]); omega) OK4.out (by have f := F.out; (try simp only [List.length_append]); omega) (by have f := F.out; (try simp only [List.length_append]); omega) (by have f := F.out; (try simp only [List.length_append]); omega) (srt_left HS2.out) (srt_left HT2.out) (by omega) (by omega) (by have f := F.out; (try simp only [List.length_append]); omega) hsz).mono ?_
              rintro _ w3 ⟨rfl, r1, hr1, hb, hk⟩
              have HR1 := Lib.hid hr1
              have HB5 := Lib.hid hb
              have HK4 := Lib.hid (HK3.out.trans hk)
              clear hb hk hr1
              have HB6 : Hid (PB w3 g ((x ++ r1) ++ (S2 ++ (T2 ++ y))) R) := by
                have := HB5.out; rw [List.append_assoc x]; exact this
              have LR : Hid (r1.length = S1.length + T1.length) := Lib.hid (HR1.out.len.trans (List.length_append ..))
              go_wp2_with fail
              refine (IH.out _ _ (x ++ r1) S2 T2 y R _ _ M E b HB6.out (by have f := F.out; have := LR.out; (try simp only [List.length_append] at *); omega) (okW_perm (sym_perm HR1.out.2.1) OK4.out) (by have f := F.out; have := LR.out; (try simp only [List.length_append] at *); omega) (by have f := F.out; have := LR.out; (try simp only [List.length_append] at *); omega) (by have f := F.out; have := LR.out; (try simp only [List.length_append] at *); omega) (srt_right HS2.out) (srt_right HT2.out) (by omega) (by omega) (by have f := F.out; (try simp only [List.length_append]); omega) hsz).mono ?_
              rintro _ w4 ⟨rfl, r2, hr2, hb, hk⟩
              have HR2 := Lib.hid hr2
              have HB7 := Lib.hid hb
              have HK5 := Lib.hid (HK4.out.trans hk)
              clear hb hk hr2
              go_wp2_with fail
              go_end0
              refine ⟨rfl, r1 ++ r2, ?_, ?_, HK5.out⟩
              · rw [ES.out, ET.out]; exact sym_join HS2.out HT2.out HF1.out HF2.out HR1.out HR2.out
              · have := HB7.out; simp only [List.append_assoc] at this ⊢; exact this
open Go.RowKit
theorem sym_all : ∀ N, SymC N := by
 intro N
 induction N with
 | zero => intro w g x s t y R n c a m b h hn hw h1 h2 h3 hs ht ls lt hN hsz; omega
 | succ N ih =>
  intro w g x s t y R n c a m b h hn hw h1 h2 h3 hs ht ls lt hN hsz
  by_cases e1 : s.length = 1
  ·obtain ⟨p, rfl⟩ := List.length_eq_one_iff.1 e1
   exact symLeft_calls w g x t y p R n c a m b h hn hw h1 (by simpa using h2) (by simpa using h3) ht hsz
  ·by_cases e2 : t.length = 1
   ·obtain ⟨q, rfl⟩ := List.length_eq_one_iff.1 e2
    exact symRight_calls w g x s y q R n c a m b h hn hw h1 h2 (by simpa using h3) e1 hs hsz
   ·exact symGen_calls N ih w g x s t y R n c a m b h hn hw h1 h2 h3 hs ht (by omega) (by omega) hN hsz
theorem sym_calls (w : World) (g : Nat) (x s t y : List Pk) (R : List Value) (n c a m b : Nat) (h : PB w g (x ++ (s ++ (t ++ y))) R) (hn : n = (x ++ (s ++ (t ++ y))).length) (hw : okW (x ++ (s ++ (t ++ y))))
  (h1 : a = x.length) (h2 : m = x.length + s.length) (h3 : b = x.length + s.length + t.length) (hs : srt s) (ht : srt t) (ls : 0 < s.length) (lt : 0 < t.length) (hsz : n ≤ 1000000) :
  Calls Tryz.prog 138 #[.slice (some ⟨g, 0, none⟩) n c, .int .i64 a, .int .i64 m, .int .i64 b, theCmp] w fun e w' => e = .returned (.tuple #[]) ∧ ∃ r, SS r (s ++ t) ∧ PB w' g (x ++ (r ++ y)) R ∧ Keeps [g] w w' :=
 sym_all _ w g x s t y R n c a m b h hn hw h1 h2 h3 hs ht ls lt (Nat.le_refl _) hsz
theorem okW_same {b : Nat} {x y z l : List Pk} (h : same x y) (hl : l = y ++ z) (k : okW l) : okW (x ++ z) := okW_perm (List.Perm.append_right z h.1) (hl ▸ k)
theorem ch_same {b : Nat} : ∀ {n : Nat} {r l : List Pk}, r.length ≤ n → 0 < b → Ch b r l → same r l := by
 intro n
 induction n with
 | zero =>
  intro r l hn hb h
  have e1 : r = [] := List.eq_nil_of_length_eq_zero (by omega)
  have e2 : l = [] := List.eq_nil_of_length_eq_zero (by have := h.1; omega)
  subst e1 e2
  exact same.refl _
 | succ n ih =>
  intro r l hn hb h
  rw [← List.take_append_drop b r, ← List.take_append_drop b l]
  refine same.app ?_ ?_
  ·have := h.2 0
   rw [Nat.zero_mul] at this
   exact this.2
  ·by_cases hr : r = []
   ·subst hr
    have e2 : l = [] := List.eq_nil_of_length_eq_zero (by have := h.1; simpa using this.symm)
    subst e2
    exact same.refl _
   ·refine ih (by rw [List.length_drop]; have := List.length_pos_iff.2 hr; omega) hb ⟨by rw [List.length_drop, List.length_drop, h.1], fun k => ?_⟩
    have := h.2 (k + 1)
    unfold pc at *
    rw [List.drop_drop, List.drop_drop]
    rwa [Nat.add_mul, Nat.one_mul, Nat.add_comm] at this
theorem stable_calls (w : World) (g : Nat) (L : List Pk) (R : List Value) (n c : Nat) (h : PB w g L R) (hn : n = L.length) (hw : okW L) (hsz : n ≤ 1000000) :
  Calls Tryz.prog 122 #[.slice (some ⟨g, 0, none⟩) n c, .int .i64 n, theCmp] w fun e w' => e = .returned (.tuple #[]) ∧ ∃ r, SS r L ∧ PB w' g r R ∧ Keeps [g] w w' := by
 have H := Lib.hid h
 have HN := Lib.hid hn
 have HW := Lib.hid hw
 clear h hn hw
 go_enter Tryz.func122, Tryz.ntmps122
 go_wp2_with fail
 go_loopw [7, 8] (fun av bv wr => ∃ (A B k : Nat) (x : List Pk), A ≤ n ∧ B = A + 20 ∧ av = .int .i64 A ∧ bv = .int .i64 B ∧ Hid (A = k * 20) ∧ Hid (Ch 20 x (L.take A)) ∧ Hid (PB wr g (x ++ L.drop A) R) ∧ Hid (Keeps [g] w wr)) (fun _ bv _ => (n + 20 - intOf bv).toNat)
 case atStart => exact ⟨0, 20, 0, [], by omega, rfl, rfl, rfl, Lib.hid rfl, Lib.hid (by rw [List.take_zero]; exact ch_nil _), H, Lib.hid (Keeps.refl _ _)⟩
 case round =>
  clear H
  obtain ⟨A, B, k, x, hA, hB', rfl, rfl, HA, HC, HB, HK⟩ := hrel
  have hx : Hid (x.length = A) := by have := HC.out.1; rw [List.length_take] at this; have := HN.out; show _ = _; omega
  have OKx : Hid (okW (x ++ L.drop A)) := okW_same (b := 0) (ch_same (Nat.le_refl _) (by decide) HC.out) (List.take_append_drop A L).symm HW.out
  have HB2 := Lib.hid hB'
  by_cases hlt : B ≤ n
  ·have e0 : decide (B ≤ n) = true := by simpa using hlt
   have es : Hid (L.drop A = pc L A 20 ++ L.drop B) := by rw [hB']; exact drop_pc L A 20
   have lp : Hid ((pc L A 20).length = 20) := by show _ = _; rw [pc_len]; have := HN.out; omega
   have HB3 : Hid (PB wr g (x ++ (pc L A 20 ++ L.drop B)) R) := by have := HB.out; rwa [es.out] at this
   have OK3 : Hid (okW (x ++ (pc L A 20 ++ L.drop B))) := by have := OKx.out; rwa [es.out] at this
   have LN : Hid (n = (x ++ (pc L A 20 ++ L.drop B)).length) := by show _ = _; rw [← es.out, List.length_append, List.length_drop, hx.out]; have := HN.out; omega
   clear hB' HB
   go_wp2_with fail
   refine (insSort_calls _ _ x (pc L A 20) (L.drop B) R _ _ A B HB3.out LN.out OK3.out hx.out.symm (by have := hx.out; have := lp.out; have := HB2.out; omega) hsz).mono ?_
   rintro e w1 ⟨rfl, r, hr, hb, hk⟩
   have HR := Lib.hid hr
   have HB4 := Lib.hid hb
   have HK1 := Lib.hid (HK.out.trans hk)
   clear hr hb hk
   go_wp2_with fail
   go_roundw
   case rel =>
    refine ⟨B, B + 20, k + 1, x ++ r, hlt, rfl, rfl, by go_num, Lib.hid (by have := HA.out; have := HB2.out; omega), Lib.hid ?_, Lib.hid ?_, HK1⟩
    ·rw [HB2.out, take_pc]
     exact ch_app HC.out (hx.out.trans HA.out) HR.out (by rw [lp.out]; exact Nat.le_refl _)
    ·rw [List.append_assoc]; exact HB4.out
   case measure => simp [intOf]; omega
  ·have e0 : decide (B ≤ n) = false := by simpa using hlt
   have HB3 : Hid (PB wr g (x ++ (L.drop A ++ [])) R) := by have := HB.out; rwa [← List.append_nil (L.drop A)] at this
   have OK3 : Hid (okW (x ++ (L.drop A ++ []))) := by have := OKx.out; rwa [← List.append_nil (L.drop A)] at this
   have lp : Hid ((L.drop A).length = n - A) := by show _ = _; rw [List.length_drop]; have := HN.out; omega
   clear hB' HB
   go_wp2_with fail
   refine (insSort_calls _ _ x (L.drop A) [] R _ _ A n HB3.out (by have := hx.out; have := lp.out; rw [List.length_append, List.length_append, List.length_nil]; omega) OK3.out hx.out.symm (by have := hx.out; have := lp.out; omega) hsz).mono ?_
   rintro e w1 ⟨rfl, r, hr, hb, hk⟩
   have HCh : Hid (Ch 20 (x ++ r) L) := by
    have := ch_app HC.out (hx.out.trans HA.out) hr (by rw [lp.out]; have := HB2.out; omega)
    rwa [List.take_append_drop] at this
   have HB4 : Hid (PB w1 g (x ++ r) R) := by rw [List.append_nil] at hb; exact hb
   have HK1 := Lib.hid (HK.out.trans hk)
   generalize x ++ r = r0 at *
   clear hr hb hk HK HB3 OK3 HC OKx hx HA e0 lp HB2
   obtain ⟨wo, rfl⟩ : ∃ wo : World, wo = w1 := ⟨_, rfl⟩
   go_wp2_with fail
   go_loopw [6] (fun bv wr => ∃ (bs : Nat) (r : List Pk), 20 ≤ bs ∧ bs ≤ 2000000 ∧ bv = .int .i64 bs ∧ Hid (Ch bs r L) ∧ Hid (PB wr g r R) ∧ Hid (Keeps [g] w wr)) (fun bv _ => (n - intOf bv).toNat)
   case atStart => exact ⟨20, r0, by omega, by omega, rfl, HCh, HB4, HK1⟩
   case round =>
    clear HCh HB4 HK1
    obtain ⟨bs, r, hb1, hb2, rfl, HC, HB, HK⟩ := hrel
    obtain ⟨wq, rfl⟩ : ∃ wq : World, wq = wr := ⟨_, rfl⟩
    have lr : Hid (r.length = n) := by have := HC.out.1; have := HN.out; show _ = _; omega
    have HS : Hid (same r L) := ch_same (Nat.le_refl _) (by omega) HC.out
    by_cases hlt : bs < n
    ·have e0 : decide (bs < n) = true := by simpa using hlt
     go_wp2_with fail
     go_loopw [7, 8] (fun av bv wr => ∃ (A B k : Nat) (x : List Pk), A ≤ n ∧ B = A + 2 * bs ∧ av = .int .i64 A ∧ bv = .int .i64 B ∧ Hid (A = k * (2 * bs)) ∧ Hid (Ch (2 * bs) x (L.take A)) ∧ Hid (PB wr g (x ++ r.drop A) R) ∧ Hid (Keeps [g] w wr)) (fun _ bv _ => (n + 2 * bs - intOf bv).toNat)
     case atStart => exact ⟨0, 2 * bs, 0, [], by omega, by omega, rfl, by go_num, Lib.hid (by omega), Lib.hid (by rw [List.take_zero]; exact ch_nil _), HB, HK⟩
     case round =>
      clear HB HK
      obtain ⟨A, B, k, x, hA, hB', rfl, rfl, HA, HCx, HB, HK⟩ := hrel
      have hx : Hid (x.length = A) := by have := HCx.out.1; rw [List.length_take] at this; have := HN.out; show _ = _; omega
      have HD : Hid (okW r) := okW_perm HS.out.1 HW.out
      have OKx : Hid (okW (x ++ r.drop A)) := by
       have s1 := ch_same (Nat.le_refl _) (by omega) HCx.out
       refine okW_mem.2 fun p hp => ?_
       rcases List.mem_append.1 hp with hp | hp
       ·exact okW_mem.1 HW.out p (List.mem_of_mem_take (s1.1.mem_iff.1 hp))
       ·exact okW_mem.1 HD.out p (List.mem_of_mem_drop hp)
      have hA2 : Hid (A = (2 * k) * bs) := by show _ = _; rw [HA.out, Nat.mul_comm 2 bs, ← Nat.mul_assoc, Nat.mul_comm 2 k, Nat.mul_assoc, Nat.mul_assoc, Nat.mul_comm bs 2]
      have S1 : Hid (SS (pc r A bs) (pc L A bs)) := ch_at HC.out hA2.out
      have S2 : Hid (SS (pc r (A + bs) bs) (pc L (A + bs) bs)) := ch_at (k := 2 * k + 1) HC.out (by rw [hA2.out]; simp only [Nat.add_mul, Nat.one_mul])
      have HB2 := Lib.hid hB'
      by_cases hlt : B ≤ n
      ·have e0 : decide (B ≤ n) = true := by simpa using hlt
       have l1 : Hid ((pc r A bs).length = bs) := by show _ = _; rw [pc_len]; have := lr.out; omega
       have l2 : Hid ((pc r (A + bs) bs).length = bs) := by show _ = _; rw [pc_len]; have := lr.out; omega
       have es : Hid (r.drop A = pc r A bs ++ (pc r (A + bs) bs ++ r.drop B)) := by
        show _ = _
        rw [drop_pc r A bs, drop_pc r (A + bs) bs, hB', show A + bs + bs = A + 2 * bs by omega]
       have HB3 : Hid (PB wr g (x ++ (pc r A bs ++ (pc r (A + bs) bs ++ r.drop B))) R) := by have := HB.out; rwa [es.out] at this
       have OK3 : Hid (okW (x ++ (pc r A bs ++ (pc r (A + bs) bs ++ r.drop B)))) := by have := OKx.out; rwa [es.out] at this
       have LN : Hid (n = (x ++ (pc r A bs ++ (pc r (A + bs) bs ++ r.drop B))).length) := by show _ = _; rw [← es.out, List.length_append, List.length_drop, hx.out]; have := lr.out; omega
       clear hB' HB
       go_wp2_with fail
       rw [show ((A : Int) + bs) = ((A + bs : Nat) : Int) by omega]
       refine (sym_calls _ _ x (pc r A bs) (pc r (A + bs) bs) (r.drop B) R _ _ A (A + bs) B HB3.out LN.out OK3.out hx.out.symm (by have := hx.out; have := l1.out; omega) (by have := hx.out; have := l1.out; have := l2.out; have := HB2.out; omega) S1.out.1 S2.out.1 (by have := l1.out; omega) (by have := l2.out; omega) hsz).mono ?_
       rintro e w1 ⟨rfl, q, hr, hb, hk⟩
       have HR : Hid (SS q (pc L A (2 * bs))) := by show SS _ _; rw [pc_two]; exact ss_trans_app hr S1.out S2.out
       have HB4 := Lib.hid hb
       have HK1 := Lib.hid (HK.out.trans hk)
       clear hr hb hk
       go_wp2_with fail
       go_roundw
       case rel =>
        refine ⟨B, B + 2 * bs, k + 1, x ++ q, hlt, rfl, rfl, by go_num, Lib.hid (by rw [Nat.add_mul, Nat.one_mul, ← HA.out]; exact HB2.out), Lib.hid ?_, Lib.hid ?_, HK1⟩
        ·rw [HB2.out, take_pc]
         exact ch_app HCx.out (hx.out.trans HA.out) HR.out (by rw [pc_len]; omega)
        ·rw [List.append_assoc]; exact HB4.out
       case measure => simp [intOf]; omega
      ·have e0 : decide (B ≤ n) = false := by simpa using hlt
       by_cases hm : A + bs < n
       ·have e5 : decide ((A : Int) + bs < n) = true := by simp; omega
        have l1 : Hid ((pc r A bs).length = bs) := by show _ = _; rw [pc_len]; have := lr.out; omega
        have l2 : Hid ((pc r (A + bs) bs).length = n - (A + bs)) := by show _ = _; rw [pc_len]; have := lr.out; omega
        have es : Hid (r.drop A = pc r A bs ++ (pc r (A + bs) bs ++ [])) := by
         show _ = _
         rw [drop_pc r A bs, drop_pc r (A + bs) bs, List.drop_eq_nil_of_le (show r.length ≤ A + bs + bs by have := lr.out; omega)]
        have HB3 : Hid (PB wr g (x ++ (pc r A bs ++ (pc r (A + bs) bs ++ []))) R) := by have := HB.out; rwa [es.out] at this
        have OK3 : Hid (okW (x ++ (pc r A bs ++ (pc r (A + bs) bs ++ [])))) := by have := OKx.out; rwa [es.out] at this
        have LN : Hid (n = (x ++ (pc r A bs ++ (pc r (A + bs) bs ++ []))).length) := by show _ = _; rw [← es.out, List.length_append, List.length_drop, hx.out]; have := lr.out; omega
        clear hB' HB
        go_wp2_with fail
        rw [show ((A : Int) + bs) = ((A + bs : Nat) : Int) by omega]
        refine (sym_calls _ _ x (pc r A bs) (pc r (A + bs) bs) [] R _ _ A (A + bs) n HB3.out LN.out OK3.out hx.out.symm (by have := hx.out; have := l1.out; omega) (by have := hx.out; have := l1.out; have := l2.out; omega) S1.out.1 S2.out.1 (by have := l1.out; omega) (by have := l2.out; omega) hsz).mono ?_
        rintro e w1 ⟨rfl, q, hr, hb, hk⟩
        have HCh : Hid (Ch (2 * bs) (x ++ q) L) := by
         have hq : SS q (pc L A (2 * bs)) := by rw [pc_two]; exact ss_trans_app hr S1.out S2.out
         have hd : pc L A (2 * bs) = L.drop A := by unfold pc; rw [List.take_of_length_le (by rw [List.length_drop]; have := HN.out; have := HB2.out; omega)]
         rw [hd] at hq
         have := ch_app HCx.out (hx.out.trans HA.out) hq (by rw [List.length_drop]; have := HN.out; have := HB2.out; omega)
         rwa [List.take_append_drop] at this
        have HB4 : Hid (PB w1 g (x ++ q) R) := by rw [List.append_nil] at hb; exact hb
        have HK1 := Lib.hid (HK.out.trans hk)
        clear hr hb hk
        go_wp2_with fail
        refine ⟨⟨2 * bs, x ++ q, by omega, by omega, by go_num, HCh, HB4, HK1⟩, by simp [intOf]; omega⟩
       ·have e5 : decide ((A : Int) + bs < n) = false := by simp; omega
        have HCh : Hid (Ch (2 * bs) (x ++ r.drop A) L) := by
         have hd : ∀ z : List Pk, z.length = n → pc z A bs = z.drop A := fun z hz => by unfold pc; rw [List.take_of_length_le (by rw [List.length_drop]; omega)]
         have hq := S1.out
         rw [hd r lr.out, hd L HN.out.symm] at hq
         have := ch_app HCx.out (hx.out.trans HA.out) hq (by rw [List.length_drop]; have := HN.out; have := HB2.out; omega)
         rwa [List.take_append_drop] at this
        clear hB'
        go_wp2_with fail
        refine ⟨⟨2 * bs, x ++ r.drop A, by omega, by omega, by go_num, HCh, HB, HK⟩, by simp [intOf]; omega⟩
    ·have e0 : decide (bs < n) = false := by simpa using hlt
     go_wp2_with fail
     go_end0
     exact ⟨rfl, r, ch_done HC.out (by have := HN.out; omega), HB.out, HK.out⟩
theorem sort_calls (w : World) (g : Nat) (L : List Pk) (R : List Value) (n c : Nat) (h : PB w g L R) (hn : n = L.length) (hw : okW L) (hsz : n ≤ 1000000) :
  Calls Tryz.prog 98 #[.slice (some ⟨g, 0, none⟩) n c, theCmp] w fun e w' => e = .returned (.tuple #[]) ∧ ∃ r, SS r L ∧ PB w' g r R ∧ Keeps [g] w w' := by
 have H := Lib.hid h
 have HN := Lib.hid hn
 have HW := Lib.hid hw
 clear h hn hw
 go_enter Tryz.func98, Tryz.ntmps98
 go_wp2_with fail
 refine (stable_calls _ _ L R _ _ H.out HN.out HW.out hsz).mono ?_
 rintro e w1 ⟨rfl, r, hr, hb, hk⟩
 have HR := Lib.hid hr
 have HB4 := Lib.hid hb
 have HK1 := Lib.hid hk
 clear hr hb hk
 go_wp2_with fail
 go_end0
 exact ⟨rfl, r, HR.out, HB4.out, HK1.out⟩
open Go.RowKit
def rdS (w : World) (p : Pk) : List Int := (List.range p.n).map fun j => match p.a with
  | some a => match w.cell? ⟨a.block, a.off + j, none⟩ with
    | some (.int _ x) => x
    | _ => 0
  | none => 0
def absW (w : World) (p : Pk) : PP := (p.w, rdS w p)
def sv (p : Pk) : Value := .slice p.a p.n p.c
def Sy (w : World) (base : Nat) (ok : Nat → Prop) (p : Pk) : Prop := 0 < p.n ∧ ∃ xs, w.ownsRow base 3 1 (sv p) p.n (ints .i64 xs) ∧ ∀ g, (sv p).ownBlock = some g → ok g
theorem rdS_own {w : World} {base : Nat} {p : Pk} {xs : List Int} (h : w.ownsRow base 3 1 (sv p) p.n (ints .i64 xs)) : rdS w p = xs := by
  obtain ⟨A, c, hv, hr, -, -⟩ := own_ri h
  unfold sv at hv
  injection hv with h1 h2 h3
  have hl := hr.len
  refine List.ext_getElem (by simp [rdS, hl]) fun j h4 h5 => ?_
  have hj : j < p.n := by omega
  obtain ⟨b, o, ha, hc⟩ := hr.at hj
  rw [← h1] at ha
  simp only [rdS, List.getElem_map, List.getElem_range, ha, hc]
  exact nth_lt h5
theorem Sy.own {w : World} {base : Nat} {ok : Nat → Prop} {p : Pk} (h : Sy w base ok p) : w.ownsRow base 3 1 (sv p) p.n (ints .i64 (rdS w p)) := by
  obtain ⟨_, xs, h1, _⟩ := h
  rw [rdS_own h1]; exact h1
theorem own_int_block {w : World} {base : Nat} {e : TypeId} {size n : Nat} {v : Value} {xs : List Value} (h : w.ownsRow base e size v n xs) {g : Nat} (hg : v.ownBlock = some g) : ∃ cs, w.heap[g]? = some (.cells cs e (0, 0)) := by
  rcases h.2 with ⟨rfl, _⟩ | ⟨g', cap, cur, rfl, hb, hh, _⟩
  · simp [Value.ownBlock] at hg
  · have : g' = g := by simpa [Value.ownBlock] using hg
    subst this
    exact ⟨_, hh⟩
theorem Sy.keeps {w w' : World} {base : Nat} {ok : Nat → Prop} {p : Pk} {S : List Nat} (h : Sy w base ok p) (hk : Keeps S w w') (hS : ∀ g ∈ S, ¬ (ok g ∧ ∃ cs, w.heap[g]? = some (.cells cs 3 (0, 0)))) : Sy w' base ok p ∧ rdS w' p = rdS w p := by
  obtain ⟨hp, xs, ho, hok⟩ := h
  have ho2 := own_keeps ho hk (fun g hg hm => hS g hm ⟨hok g hg, own_int_block ho hg⟩)
  exact ⟨⟨hp, xs, ho2, hok⟩, by rw [rdS_own ho2, rdS_own ho]⟩
theorem Sy.mono {w : World} {base base' : Nat} {ok ok' : Nat → Prop} {p : Pk} (h : Sy w base ok p) (hb : base' ≤ base) (ho : ∀ g, base ≤ g → g < w.heap.size → ok g → ok' g) : Sy w base' ok' p := by
  obtain ⟨hp, xs, h1, h2⟩ := h
  exact ⟨hp, xs, h1.mono hb, fun g hg => ho g (own_lo h1 g hg) (own_hi h1 g hg) (h2 g hg)⟩
theorem own_form {w : World} {base : Nat} {e : TypeId} {size n : Nat} {v : Value} {xs : List Value} (h : w.ownsRow base e size v n xs) : ∃ A c, v = .slice A n c := by
  rcases h.2 with ⟨rfl, rfl⟩ | ⟨g, cap, cur, rfl, _⟩
  · exact ⟨_, _, rfl⟩
  · exact ⟨_, _, rfl⟩
theorem own_form2 {w : World} {base : Nat} {e : TypeId} {size n : Nat} {v : Value} {xs : List Value} (h : w.ownsRow base e size v n xs) : ∃ A c, v = .slice A n c ∧ n ≤ c := by
  rcases h.2 with ⟨rfl, rfl⟩ | ⟨g, cap, cur, rfl, _, _, hc, _⟩
  · exact ⟨_, _, rfl, Nat.le_refl _⟩
  · exact ⟨_, _, rfl, hc⟩
structure PR (w : World) (base : Nat) (ok : Nat → Prop) (b2 : Nat) (v : Value) (L : List Pk) (X : List PP) : Prop where
  own : w.ownsRow b2 154 2 v L.length (kcells L)
  sy : ∀ p ∈ L, Sy w base ok p
  ab : L.map (absW w) = X
theorem PR.nil (w : World) (base : Nat) (ok : Nat → Prop) (b2 : Nat) : PR w base ok b2 (.slice none 0 0) [] [] := ⟨World.ownsRow_nil _ _ _ _, by simp, rfl⟩
theorem PR.len {w : World} {base b2 : Nat} {ok : Nat → Prop} {v : Value} {L : List Pk} {X : List PP} (h : PR w base ok b2 v L X) : X.length = L.length := by rw [← h.ab, List.length_map]
theorem sy_ab {w w' : World} {base : Nat} {ok : Nat → Prop} {L : List Pk} (h : ∀ p ∈ L, Sy w' base ok p ∧ rdS w' p = rdS w p) : L.map (absW w') = L.map (absW w) :=
  List.map_congr_left fun p hp => by unfold absW; rw [(h p hp).2]
theorem PR.keeps {w w' : World} {base b2 : Nat} {ok : Nat → Prop} {v : Value} {L : List Pk} {X : List PP} {S : List Nat} (h : PR w base ok b2 v L X) (hk : Keeps S w w') (hv : ∀ g, v.ownBlock = some g → g ∉ S) (hS : ∀ g ∈ S, ¬ (ok g ∧ ∃ cs, w.heap[g]? = some (.cells cs 3 (0, 0)))) : PR w' base ok b2 v L X :=
  ⟨own_keeps h.own hk hv, fun p hp => ((h.sy p hp).keeps hk hS).1, by rw [sy_ab (fun p hp => (h.sy p hp).keeps hk hS)]; exact h.ab⟩
theorem PR.dr {w w' : World} {base b2 : Nat} {ok : Nat → Prop} {v : Value} {L : List Pk} {X : List PP} (h : PR w base ok b2 v L X) (hk : Keeps [] w w') : PR w' base ok b2 v L X := h.keeps hk (by simp) (by simp)
theorem PR.mono {w : World} {base b2 : Nat} {ok ok' : Nat → Prop} {v : Value} {L : List Pk} {X : List PP} (h : PR w base ok b2 v L X) (ho : ∀ g, base ≤ g → g < w.heap.size → ok g → ok' g) : PR w base ok' b2 v L X :=
  ⟨h.own, fun p hp => (h.sy p hp).mono (Nat.le_refl _) ho, h.ab⟩
theorem ss_abs {w : World} {r L : List Pk} (h : SS r L) : r.map (absW w) = sortP (L.map (absW w)) := by
  refine sortW_eq Prod.fst ?_ ⟨h.2.1.map _, fun v => ?_⟩
  · unfold Srt
    rw [List.pairwise_map]
    exact h.1
  · have := h.2.2 v
    unfold ofW at this
    rw [List.filter_map, List.filter_map]
    exact congrArg (List.map (absW w)) this
theorem okW_of {w : World} {L : List Pk} (h : ∀ x ∈ L.map (absW w), 0 ≤ x.1 ∧ x.1 ≤ 100000000000000000) : okW L := okW_mem.2 fun p hp => h (absW w p) (List.mem_map_of_mem hp)
theorem PR.sort {w : World} {base b2 : Nat} {ok : Nat → Prop} {v : Value} {L : List Pk} {X : List PP} (h : PR w base ok b2 v L X) (hp : 0 < L.length) (hn : L.length ≤ 1000000) (hw : ∀ x ∈ X, 0 ≤ x.1 ∧ x.1 ≤ 100000000000000000) :
    Calls Tryz.prog 98 #[v, theCmp] w fun e w' => e = .returned (.tuple #[]) ∧ ∃ g r, v.ownBlock = some g ∧ b2 ≤ g ∧ PR w' base ok b2 v r (sortP X) ∧ Keeps [g] w w' ∧ r.length = L.length ∧ ∃ cs, w.heap[g]? = some (.cells cs 154 (0, 0)) := by
  obtain ⟨g, c, R, rfl, hl, hg, hb, hback⟩ := own_pb h.own hp
  refine (sort_calls w g L R _ c hb hl.symm (okW_of (w := w) (by rw [h.ab]; exact hw)) (by omega)).mono ?_
  rintro e w' ⟨rfl, r, hr, hb', hk⟩
  have hS : ∀ x ∈ [g], ¬ (ok x ∧ ∃ cs, w.heap[x]? = some (.cells cs 3 (0, 0))) := by
    intro x hx
    rw [List.mem_singleton.1 hx]
    rintro ⟨_, cs, hc⟩
    rw [show w.heap[g]? = some (.cells (kcells L ++ R).toArray 154 (0, 0)) from hb] at hc
    injection hc with hc
    injection hc with _ h2
    exact absurd h2 (by decide)
  have hsy : ∀ p ∈ r, Sy w' base ok p ∧ rdS w' p = rdS w p := fun p hp' => (h.sy p (hr.mem.1 hp')).keeps hk hS
  refine ⟨rfl, g, r, rfl, hg, ⟨?_, fun p hp' => (hsy p hp').1, ?_⟩, hk, hr.len, _, hb⟩
  · have := hback w' r hb' hr.len
    rw [hr.len]; exact this
  · rw [sy_ab hsy, ss_abs hr, h.ab]
def ob (v : Value) : List Nat := v.ownBlock.toList
theorem mem_ob {v : Value} {g : Nat} : g ∈ ob v ↔ v.ownBlock = some g := by unfold ob; cases v.ownBlock <;> simp [eq_comm]
theorem grown_keeps {w w' : World} {v : Value} (h : w.grownBy w' v.ownBlock) : Keeps (ob v) w w' :=
  (Keeps.refl (ob v) w).grown h (fun k hk => Or.inl (mem_ob.2 hk))
theorem Sy.grown {w w' : World} {base b2 n : Nat} {ok : Nat → Prop} {p : Pk} {v : Value} {L : List Pk} (h : Sy w base ok p) (hv : w.ownsRow b2 154 2 v n (kcells L)) (hg : w.grownBy w' v.ownBlock) : Sy w' base ok p ∧ rdS w' p = rdS w p := by
  refine h.keeps (grown_keeps hg) fun g hgm => ?_
  rintro ⟨_, cs, hc⟩
  obtain ⟨cs', hc'⟩ := own_int_block hv (mem_ob.1 hgm)
  rw [hc'] at hc
  injection hc with hc
  injection hc with _ h2
  exact absurd h2 (by decide)
theorem PR.cells {w : World} {base b2 : Nat} {ok : Nat → Prop} {v : Value} {L : List Pk} {X : List PP} (h : PR w base ok b2 v L X) (hp : 0 < L.length) :
    ∃ g c, v = .slice (some ⟨g, 0, none⟩) L.length c ∧ b2 ≤ g ∧ g < w.heap.size ∧ v.ownBlock = some g ∧ ∀ j, j < L.length → w.cell? ⟨g, j * 2, none⟩ = some (.int .i64 (kth L j).w) ∧ w.cell? ⟨g, j * 2 + 1, none⟩ = some (.slice (kth L j).a (kth L j).n (kth L j).c) := by
  obtain ⟨g, c, rfl, hg, hb, hc⟩ := own_cells h.own hp (by decide)
  refine ⟨g, c, rfl, hb, hg, rfl, fun j hj => ?_⟩
  have := kcells_get L [] j hj
  rw [List.append_nil] at this
  exact ⟨hc _ _ this.1, hc _ _ this.2⟩
theorem PR.ath {w : World} {base b2 : Nat} {ok : Nat → Prop} {v : Value} {L : List Pk} {X : List PP} (h : PR w base ok b2 v L X) {j : Nat} (hj : j < L.length) : (X.getD j (0, [])) = absW w (kth L j) := by
  rw [← h.ab, List.getD_eq_getElem?_getD, List.getElem?_map, List.getElem?_eq_getElem hj, kth_lt hj]; rfl
theorem Sy.reads {w : World} {base : Nat} {ok : Nat → Prop} {p : Pk} (h : Sy w base ok p) : RI .i64 w p.a p.n (rdS w p) ∧ ∃ g, p.a = some ⟨g, 0, none⟩ ∧ base ≤ g ∧ g < w.heap.size ∧ ok g := by
  have ho := h.own
  obtain ⟨g, c, hv, hg, hb, hc⟩ := own_cells ho h.1 (by decide)
  obtain ⟨A, c', hv', hr, -, -⟩ := own_ri ho
  unfold sv at hv hv'
  injection hv with h1 h2 h3
  injection hv' with h4 h5 h6
  subst h4
  obtain ⟨_, xs, ho2, hok⟩ := h
  exact ⟨hr, g, h1, hb, hg, hok g (by unfold sv; rw [h1]; rfl)⟩
theorem pack_no_int {w : World} {base b2 : Nat} {ok : Nat → Prop} {v : Value} {L : List Pk} {X : List PP} (h : PR w base ok b2 v L X) : ∀ g ∈ ob v, ¬ (ok g ∧ ∃ cs, w.heap[g]? = some (.cells cs 3 (0, 0))) := by
  rintro g hg ⟨_, cs, hc⟩
  obtain ⟨cs', hc'⟩ := own_int_block h.own (mem_ob.1 hg)
  rw [hc'] at hc
  injection hc with hc
  injection hc with _ h2
  exact absurd h2 (by decide)
theorem PR.other {w w' : World} {base b2 b3 : Nat} {ok : Nat → Prop} {v v' : Value} {L L' : List Pk} {X X' : List PP} (h : PR w base ok b2 v L X) (h' : PR w base ok b3 v' L' X') (hk : Keeps (ob v') w w') (hne : ∀ g, v.ownBlock = some g → g < b3) : PR w' base ok b2 v L X :=
  h.keeps hk (fun g hg hm => by have := own_lo h'.own g (mem_ob.1 hm); have := hne g hg; omega) (pack_no_int h')
theorem PR.snoc {w w2 w3 : World} {base b2 : Nat} {ok : Nat → Prop} {v v' : Value} {L : List Pk} {X : List PP} {p : Pk} (h : PR w base ok b2 v L X) (hk : Keeps [] w w2) (hp : Sy w2 base ok p)
    (ho : w3.ownsRow b2 154 2 v' (L.length + 1) (kcells (L ++ [p]))) (hg : w2.grownBy w3 v.ownBlock) : PR w3 base ok b2 v' (L ++ [p]) (X ++ [absW w2 p]) := by
  have h2 := h.dr hk
  refine ⟨by rw [List.length_append]; exact ho, fun q hq => ?_, ?_⟩
  · rcases List.mem_append.1 hq with hq | hq
    · exact ((h2.sy q hq).grown h2.own hg).1
    · rw [List.mem_singleton.1 hq]; exact (hp.grown h2.own hg).1
  · rw [List.map_append, ← h2.ab, sy_ab (fun q hq => (h2.sy q hq).grown h2.own hg)]
    congr 1
    show [absW w3 p] = [absW w2 p]
    unfold absW; rw [(hp.grown h2.own hg).2]
theorem own_of_blk {w : World} {base g n : Nat} {xs : List Int} (h : Blk w g 3 (ints .i64 xs)) (hl : xs.length = n) (hb : base ≤ g) (hn : n ≤ 1000000000) : w.ownsRow base 3 1 (.slice (some ⟨g, 0, none⟩) n n) n (ints .i64 xs) :=
  ⟨by simp [ints, hl], .inr ⟨g, n, _, rfl, hb, h, Nat.le_refl _, by unfold maxLen; omega, by simp [ints, hl], by rw [List.toList_toArray, List.take_of_length_le (by simp [ints, hl])]⟩⟩
theorem sy_new {w : World} {base b : Nat} {ok : Nat → Prop} {x k : Int} (hb : base ≤ b) (h : w.heap[b]? = some (.cells #[.int .i64 k] 3 (0, 0))) (ho : ok b) : Sy w base ok ⟨x, some ⟨b, 0, none⟩, 1, 1⟩ ∧ absW w ⟨x, some ⟨b, 0, none⟩, 1, 1⟩ = (x, [k]) := by
  have o : w.ownsRow base 3 1 (sv ⟨x, some ⟨b, 0, none⟩, 1, 1⟩) 1 (ints .i64 [k]) := ⟨rfl, .inr ⟨b, 1, #[.int .i64 k], rfl, hb, h, Nat.le_refl _, by unfold maxLen; omega, rfl, rfl⟩⟩
  exact ⟨⟨Nat.one_pos, [k], o, fun g hg => by have : b = g := by simpa [sv, Value.ownBlock] using hg
                                              subst this; exact ho⟩, by unfold absW; rw [rdS_own o]⟩
open Go.RowKit
def Limited (w : World) (r : List Int × Int) (e : Ending) (w' : World) : Prop :=
 ∃ v, e = .returned (.tuple #[v, .int .i64 r.2]) ∧ w'.ownsRow w.heap.size 3 1 v r.1.length (ints .i64 r.1) ∧ Below w.heap.size w w'
theorem limited_err (w w' : World) (r : List Int × Int) (e : Int) (hr : r = ([], e)) (h : Below w.heap.size w w') : Limited w r (.returned (.tuple #[.slice none 0 0, .int .i64 e])) w' := by
 subst hr
 exact ⟨_, rfl, World.ownsRow_nil _ _ _ _, h⟩
theorem limited_ok {w w' : World} {r : List Int × Int} {v : Value} {n : Nat} {ls : List Int} (hr : r = (ls, 0)) (hl : ls.length = n) (ho : w'.ownsRow w.heap.size 3 1 v n (ints .i64 ls)) (h : Below w.heap.size w w') : Limited w r (.returned (.tuple #[v, .int .i64 0])) w' := by
 subst hr hl
 exact ⟨_, rfl, ho, h⟩
theorem limit_arg (w : World) (A : Option Addr) (n c : Nat) (l : List Int) (most : Int) (hl : l.length = n) (hb : n = 0 ∨ 288 < n ∨ most < 1 ∨ 15 < most) :
  Calls Tryz.prog 68 #[.slice A n c, .int .i64 most] w (Limited w (limF l most)) := by
 have HR : Hid (limF l most = ([], 1)) := by show _ = _; rw [limF, if_pos (by omega)]
 by_cases h0 : n = 0
 ·subst h0
  clear hb hl
  go_enter Tryz.func68, Tryz.ntmps68
  go_wp2_with fail
  go_ret2
  exact limited_err _ _ _ _ HR.out (Below.refl _ _)
 ·have e0 : ((n : Int) == 0) = false := by simp; omega
  by_cases h1 : 288 < n
  ·have e1 : decide (288 < n) = true := by simpa using h1
   clear hb hl
   go_enter Tryz.func68, Tryz.ntmps68
   go_wp2_with fail
   go_ret2
   exact limited_err _ _ _ _ HR.out (Below.refl _ _)
  ·have e1 : decide (288 < n) = false := by simpa using h1
   by_cases h2 : most < 1
   ·have e2 : decide (most < 1) = true := by simpa using h2
    clear hb hl
    go_enter Tryz.func68, Tryz.ntmps68
    go_wp2_with fail
    go_ret2
    exact limited_err _ _ _ _ HR.out (Below.refl _ _)
   ·have e2 : decide (most < 1) = false := by simpa using h2
    have e3 : decide (15 < most) = true := by simp; omega
    clear hb hl
    go_enter Tryz.func68, Tryz.ntmps68
    go_wp2_with fail
    go_ret2
    exact limited_err _ _ _ _ HR.out (Below.refl _ _)
theorem any_snocM (l : List Int) (k : Nat) (h : k < l.length) : (l.take (k + 1)).any badCount = ((l.take k).any badCount || badCount (nth l k)) := by
 rw [take_snoc' l k h, List.any_append]; simp
theorem leaves_snoc (l : List Int) (k : Nat) (h : k < l.length) : leavesF (l.take (k + 1)) 0 = leavesF (l.take k) 0 ++ if 0 < nth l k then [(nth l k, [(k : Int)])] else [] := by
 rw [take_snoc' l k h, leavesF_snoc]
 simp [List.length_take, Nat.min_eq_left (Nat.le_of_lt h)]
theorem any_hitM (l : List Int) (k : Nat) (h : k < l.length) (hb : badCount (nth l k) = true) : l.any badCount = true := by
 rw [List.any_eq_true]
 rw [nth_lt h] at hb
 exact ⟨_, List.getElem_mem h, hb⟩
theorem limit_rest (w : World) (A : Option Addr) (n c : Nat) (l : List Int) (m : Nat) (hl : RI .i64 w A n l) (h0 : 0 < n) (h1 : n ≤ 288) (h2 : 1 ≤ m) (h3 : m ≤ 15) :
  Calls Tryz.prog 68 #[.slice A n c, .int .i64 m] w (Limited w (limF l m)) := by
 have hll := hl.len
 have HL := Lib.hid hl
 have HLL := Lib.hid hll
 have HR : Hid (limF l m = if l.any badCount then ([], 1) else if 2 ^ m < (leavesF l 0).length then ([], 30) else (limLens l m, 0)) := by
  show _ = _; rw [limF, if_neg (by omega)]; simp
 clear hl hll
 have e0 : ((n : Int) == 0) = false := by simp; omega
 have e1 : decide (288 < n) = false := by simp; omega
 have e2 : decide ((m : Int) < 1) = false := by simp; omega
 have e3 : decide ((15 : Int) < m) = false := by simp; omega
 go_enter Tryz.func68, Tryz.ntmps68
 go_wp2_with fail
 clear e0 e1 e2 e3
 go_loopw [6, 36] (fun v i wr => ∃ (k : Nat) (L : List Pk), k ≤ n ∧ i = .int .i64 k ∧ L.length ≤ k ∧ Hid ((l.take k).any badCount = false) ∧ Hid (PR wr w.heap.size (fun _ => True) w.heap.size v L (leavesF (l.take k) 0)) ∧ Hid (Below w.heap.size w wr)) (fun _ i _ => n - (intOf i).toNat)
 case atStart => exact ⟨0, [], by omega, rfl, by simp, Lib.hid (by simp), Lib.hid (PR.nil _ _ _ _), Lib.hid (Below.refl _ _)⟩
 case round =>
  obtain ⟨k, L, hk, rfl, hLk, HA, HP, HW⟩ := hrel
  by_cases hlt : k < n
  ·obtain ⟨b, o, rfl, hc⟩ := HL.out.at hlt
   have hc := (Keeps.of_below (S := []) HW.out).cell (by simp) hc
   have as1 := any_snocM l k (by have := HLL.out; omega)
   have ls := leaves_snoc l k (by have := HLL.out; omega)
   rw [HA.out] at as1
   have AS := Lib.hid as1
   have LS := Lib.hid ls
   clear as1 ls
   by_cases hneg : nth l k < 0
   ·have e1 : decide (nth l k < 0) = true := by simpa using hneg
    have HR2 : Hid (limF l m = ([], 1)) := by show _ = _; rw [HR.out, if_pos (any_hitM l k (by have := HLL.out; omega) (by simp [badCount]; omega))]
    go_wp2_with fail
    go_ret2
    exact limited_err _ _ _ _ HR2.out HW.out
   ·have e1 : decide (nth l k < 0) = false := by simpa using hneg
    by_cases hbig : 1000000000000 < nth l k
    ·have e2 : decide (1000000000000 < nth l k) = true := by simpa using hbig
     have HR2 : Hid (limF l m = ([], 1)) := by show _ = _; rw [HR.out, if_pos (any_hitM l k (by have := HLL.out; omega) (by simp [badCount]; omega))]
     go_wp2_with fail
     go_ret2
     exact limited_err _ _ _ _ HR2.out HW.out
    ·have e2 : decide (1000000000000 < nth l k) = false := by simpa using hbig
     have HB : Hid ((l.take (k + 1)).any badCount = false) := by show _ = _; rw [AS.out]; simp [badCount]; omega
     by_cases hz : 0 < nth l k
     ·have e3 : decide (0 < nth l k) = true := by simpa using hz
      have hsz := HW.out.size
      have HO := Lib.hid HP.out.own
      obtain ⟨vA, vc, rfl⟩ := own_form HO.out
      go_wp2_with (at_builtin; refine app_pack rfl (.tmp 49) (.tmp 54) rfl w.heap.size _ L.length L rfl ?c0 (wr.heap.size + 1) ⟨nth l k, some ⟨wr.heap.size, 0, none⟩, 1, 1⟩ ?c5 ?c1 ?c2 ?c3 ?c4 ?_)
      case c0 => exact own_keeps HO.out (((Keeps.refl [] wr).alloc _).alloc _) (by simp)
      case c3 => omega
      case c4 => omega
      intro v' w1 h1 hg
      have hk2 : Keeps [] wr ((wr.alloc (.cells #[.int .i64 k] 3)).alloc (.cells #[.int .i64 (nth l k), .slice (some ⟨wr.heap.size, 0, none⟩) 1 1] 154)) := ((Keeps.refl [] wr).alloc _).alloc _
      obtain ⟨hs1, hs2⟩ := sy_new (w := (wr.alloc (.cells #[.int .i64 k] 3)).alloc (.cells #[.int .i64 (nth l k), .slice (some ⟨wr.heap.size, 0, none⟩) 1 1] 154)) (x := nth l k) (k := (k : Int)) (ok := fun _ => True) hsz (Blk.alloc (blk_new wr 3 [.int .i64 k]) _) trivial
      have hp2 := HP.out.snoc hk2 hs1 h1 hg
      rw [hs2] at hp2
      have HP2 : Hid (PR w1 w.heap.size (fun _ => True) w.heap.size v' (L ++ [⟨nth l k, some ⟨wr.heap.size, 0, none⟩, 1, 1⟩]) (leavesF (l.take (k + 1)) 0)) := by
       show PR _ _ _ _ _ _ _; rw [LS.out, if_pos hz]; exact hp2
      have HW2 := Lib.hid (((HW.out.alloc hsz _).alloc (by simp; omega) _).grown hg (by simp; omega) (fun g hg => own_lo HO.out g hg))
      clear h1 hg hk2 hs1 hs2 hp2
      go_wp2_with fail
      go_roundw
      case rel => exact ⟨k + 1, _, by omega, by go_num, by rw [List.length_append]; simp; omega, HB, HP2, HW2⟩
      case measure => simp [intOf]; omega
     ·have e3 : decide (0 < nth l k) = false := by simpa using hz
      go_wp2_with fail
      go_roundw
      case rel => exact ⟨k + 1, L, by omega, by go_num, by omega, HB, by rw [LS.out, if_neg hz, List.append_nil]; exact HP, HW⟩
      case measure => simp [intOf]; omega
  ·obtain rfl : k = n := by omega
   have htk : l.take k = l := List.take_of_length_le (by have := HLL.out; omega)
   rw [htk] at HA HP
   obtain ⟨b1, b2, b3, b4, b5⟩ := leaves_bd l HA.out 0
   have HR2 : Hid (limF l m = if 2 ^ m < (leavesF l 0).length then ([], 30) else (limLens l m, 0)) := by show _ = _; rw [HR.out, if_neg (by rw [HA.out]; simp)]
   have hlen := HP.out.len
   obtain ⟨P, hP⟩ : ∃ P : Nat, P = 2 ^ m := ⟨_, rfl⟩
   have hP2 : (2 : Int) ^ m = (P : Int) := by rw [hP]; simp
   have hPb : P ≤ 32768 := by rw [hP]; exact Nat.pow_le_pow_right (by decide) h3
   have HPP := Lib.hid hP
   have HLEN := Lib.hid hlen
   have B1 := Lib.hid b1
   have B2 := Lib.hid b2
   have B3 := Lib.hid b3
   have B5 := Lib.hid b5
   clear hP hlen b1 b2 b3 b5 htk HR
   obtain ⟨vA, vc, rfl⟩ := own_form HP.out.own
   by_cases hov : P < L.length
   ·have e1 : decide (P < L.length) = true := by simpa using hov
    have HR3 : Hid (limF l m = ([], 30)) := by show _ = _; rw [HR2.out, if_pos (by rw [HLEN.out, ← HPP.out]; exact hov)]
    go_wp2_with fail
    go_ret2
    exact limited_err _ _ _ _ HR3.out HW.out
   ·have e1 : decide (P < L.length) = false := by simpa using hov
    have HR3 : Hid (limF l m = (limLens l m, 0)) := by show _ = _; rw [HR2.out, if_neg (by rw [HLEN.out, ← HPP.out]; exact hov)]
    have hmk := fun w => make_ints (P := Tryz.prog) w 90 3 .i64 8 Tryz.underlying90 info_int (k : Int) k rfl (by omega) (by omega)
    clear HR2
    by_cases hl1 : L.length = 1
    ·have e2 : ((L.length : Int) == 1) = true := by simp; omega
     have e3 : decide (L.length < 2) = true := by simp; omega
     obtain ⟨g, c', hv, hg, hg2, hob, hcell⟩ := HP.out.cells (by omega)
     injection hv with hv1 hv2 hv3
     subst hv1
     obtain ⟨p1, p2⟩ := hcell 0 (by omega)
     have hx := HP.out.ath (j := 0) (by omega)
     have hsy := HP.out.sy (kth L 0) (kth_mem (by omega))
     obtain ⟨hri, gs, hpa, hgs, hgs2, -⟩ := hsy.reads
     have hpn := hsy.1
     generalize kth L 0 = p at *
     obtain ⟨pw, pa, pn, pcap⟩ := p
     dsimp only at hpa hpn p1 p2 hri
     subst hpa
     have hs0 := hri.cell gs 0 rfl 0 hpn
     have hsl : leavesF l 0 = [((pw, rdS wr ⟨pw, some ⟨gs, 0, none⟩, pn, pcap⟩) : PP)] := by
      have hlen := HLEN.out
      match hLL : leavesF l 0, hlen with
      | [x], _ => rw [hLL] at hx; rw [show x = _ from hx]; rfl
      | [], h => simp at h; omega
      | x :: y :: r, h => simp at h; omega
     have hB3 := B3.out
     have hB5 := B5.out
     rw [hsl] at hB3 hB5
     have hrl : (rdS wr ⟨pw, some ⟨gs, 0, none⟩, pn, pcap⟩).length = 1 := by simpa [sumS] using hB3
     have hrd : rdS wr ⟨pw, some ⟨gs, 0, none⟩, pn, pcap⟩ = [nth (rdS wr ⟨pw, some ⟨gs, 0, none⟩, pn, pcap⟩) 0] := by
      match hm : rdS wr ⟨pw, some ⟨gs, 0, none⟩, pn, pcap⟩, hrl with
      | [s], _ => rfl
     have hsr := hB5 _ (List.mem_singleton.2 rfl) (nth (rdS wr ⟨pw, some ⟨gs, 0, none⟩, pn, pcap⟩) 0) (by rw [hrd]; simp [nth])
     obtain ⟨s, hs⟩ := Int.eq_ofNat_of_zero_le (show 0 ≤ nth (rdS wr ⟨pw, some ⟨gs, 0, none⟩, pn, pcap⟩) 0 by omega)
     rw [hs] at hrd hsr hs0
     have hsk : s < k := by have := HLL.out; omega
     have HRES : Hid (limLens l m = cntF k ([] ++ [(s : Int)])) := by
      show _ = _
      unfold limLens
      rw [hsl, hrd, HLL.out]
      rfl
     have p2' := ((Keeps.refl [] wr).alloc (.cells (ints .i64 (List.replicate k 0)).toArray 3)).cell (by simp) p2
     have hs0' := ((Keeps.refl [] wr).alloc (.cells (ints .i64 (List.replicate k 0)).toArray 3)).cell (by simp) hs0
     have hbz := blk_new wr 3 (ints .i64 (List.replicate k 0))
     have c0 : (wr.alloc (.cells (ints .i64 (List.replicate k 0)).toArray 3)).cell? ⟨wr.heap.size, s, none⟩ = some (.int .i64 0) := by rw [hbz.cell, ints_getElem?]; simp [hsk]
     have f0 := hbz.frozen s
     have HBS := Lib.hid (blk_new wr 3 ((ints .i64 (List.replicate k 0)).set s (.int .i64 1)))
     clear hcell p1 p2 hx hsy hri hs0 hsl hB3 hB5 hrl hrd hsr hs hbz
     have HBW := Lib.hid (HW.out.alloc HW.out.size (.cells ((ints .i64 (List.replicate k 0)).set s (.int .i64 1)).toArray 3))
     have hwz := HW.out.size
     go_wp2_with fail
     go_ret2
     refine limited_ok (v := .slice (some ⟨wr.heap.size, 0, none⟩) k k) HR3.out (by rw [HRES.out, cntF_len]) ?_ HBW.out
     have hz : cntF k ([] ++ [(s : Int)]) = (List.replicate k 0).set s 1 := by
      rw [cntF_snoc k [] s hsk, cntF_nil]
      congr 1
      simp [nth, hsk]
     rw [HRES.out, hz]
     refine own_of_blk ?_ (by simp) hwz (by omega)
     rw [← show (ints .i64 (List.replicate k 0)).set s (.int .i64 1) = ints .i64 ((List.replicate k 0).set s 1) by simp [ints, List.map_set]]
     exact HBS.out
    ·have e2 : ((L.length : Int) == 1) = false := by simp; omega
     by_cases hl2 : L.length < 2
     ·have e3 : decide (L.length < 2) = true := by simpa using hl2
      have hz : Hid (limLens l m = List.replicate k 0) := by
       show _ = _
       have h0 : leavesF l 0 = [] := List.eq_nil_of_length_eq_zero (by rw [HLEN.out]; omega)
       unfold limLens
       rw [h0, HLL.out]
       exact cntF_nil k
      have HBW := Lib.hid (HW.out.alloc HW.out.size (.cells (ints .i64 (List.replicate k 0)).toArray 3))
      have HBS := Lib.hid (blk_new wr 3 (ints .i64 (List.replicate k 0)))
      have hwz := HW.out.size
      go_wp2_with fail
      go_ret2
      refine limited_ok (v := .slice (some ⟨wr.heap.size, 0, none⟩) k k) HR3.out (by rw [hz.out, List.length_replicate]) ?_ HBW.out
      rw [hz.out]
      exact own_of_blk HBS.out (by simp) hwz (by omega)
     ·have e3 : decide (L.length < 2) = false := by simpa using hl2
      have hwz := HW.out.size
      have HP1 := Lib.hid ((HP.out.mono (ok' := fun g => g ≠ wr.heap.size) (fun g _ hg _ => Nat.ne_of_lt hg)).dr ((Keeps.refl [] wr).alloc (.cells (ints .i64 (List.replicate k 0)).toArray 3)))
      have HBZ := Lib.hid (blk_new wr 3 (ints .i64 (List.replicate k 0)))
      have HBW := Lib.hid (HW.out.alloc HW.out.size (.cells (ints .i64 (List.replicate k 0)).toArray 3))
      have hvlt := Lib.hid (fun g (h : (Value.slice vA L.length vc).ownBlock = some g) => own_hi HP.out.own g h)
      have B2' : Hid (sumW (leavesF l 0) ≤ 288000000000000) := by have := B2.out; have := HLL.out; show _ ≤ _; omega
      have B3' : Hid (sumS (leavesF l 0) ≤ 288) := by have := B3.out; have := HLL.out; show _ ≤ _; omega
      have HKP : Hid (L.length ≤ 2 ^ m) := by show _ ≤ _; rw [← HPP.out]; omega
      go_wp2_with fail
      refine (HP1.out.sort (by omega) (by omega) (leaf_ok B1.out B2'.out)).mono ?_
      rintro _ w2 ⟨rfl, g, r, hvg, hbg, hpr, hkp, hrl, -⟩
      have hgk : g < wr.heap.size := hvlt.out g hvg
      have HP2 := Lib.hid hpr
      have HBZ2 := Lib.hid (HBZ.out.keeps hkp (by simp; omega))
      have HBW2 : Hid (Below w.heap.size w w2) := Lib.hid (((Keeps.of_below HBW.out).then hkp (fun x hx => Or.inr (by simp at hx; omega)) : Keeps [] w w2).below)
      have hz2 : wr.heap.size < w2.heap.size := HBZ2.out.lt
      have HGK := Lib.hid hgk
      have HVG := Lib.hid hvg
      have HRL := Lib.hid hrl
      clear hpr hkp HP HP1 HBZ HBW hrl hvg hbg hvlt HW HA
      generalize hgo : wr.heap.size = go at *
      obtain ⟨wo, rfl⟩ : ∃ wo : World, wo = w2 := ⟨_, rfl⟩
      go_wp2_with fail
      go_loopw [11, 84] (fun v i wx => ∃ (t : Nat) (Ll : List Pk), t ≤ m ∧ i = .int .i64 t ∧ Hid (PR wx w.heap.size (fun x => x ≠ go) w.heap.size v Ll (levelF (sortP (leavesF l 0)) t)) ∧ Hid (PR wx w.heap.size (fun x => x ≠ go) w.heap.size (.slice vA L.length vc) r (sortP (leavesF l 0))) ∧ Hid (Blk wx go 3 (ints .i64 (List.replicate k 0))) ∧ Hid (Below w.heap.size w wx) ∧ Hid (wo.heap.size ≤ wx.heap.size)) (fun _ i _ => m - (intOf i).toNat)
      case atStart => exact ⟨0, [], by omega, rfl, Lib.hid (PR.nil _ _ _ _), HP2, HBZ2, HBW2, Lib.hid (Nat.le_refl _)⟩
      case round =>
       obtain ⟨t, Ll, ht, rfl, HPl, HPv, HBZ, HBW, HWO⟩ := hrel
       obtain ⟨wu, rfl⟩ : ∃ wu : World, wu = wr := ⟨_, rfl⟩
       obtain ⟨lA, lc, rfl, hlc⟩ := own_form2 HPl.out.own
       have hlvl := HPl.out.len
       by_cases hlt : t < m
       ·have hlb : Ll.length ≤ 576 := by
         have := (level_bd (sortP (leavesF l 0)) (sortP_pos B1.out) t).2.2.2
         rw [sortP_len, HLEN.out] at this
         omega
        have HLVL := Lib.hid hlvl
        clear hlvl
        go_wp2_with fail
        refine (clone_calls _ _ _ _ r (by have := HPv.out.own; rwa [HRL.out] at this) (by omega) (by omega)).mono ?_
        rintro _ w3 ⟨v3, rfl, ho3, hb3⟩
        have K3 := Lib.hid (Keeps.of_below (S := []) hb3)
        have hz3 := hb3.size
        have HPl3 := Lib.hid (HPl.out.dr K3.out)
        have HPv3 := Lib.hid (HPv.out.dr K3.out)
        have HBZ3 := Lib.hid (HBZ.out.keeps K3.out (by simp))
        have HBW3 := Lib.hid (HBW.out.trans (hb3.mono HBW.out.size))
        have HPn : Hid (PR w3 w.heap.size (fun x => x ≠ go) wu.heap.size v3 r (sortP (leavesF l 0) ++ (pairsF (levelF (sortP (leavesF l 0)) t)).take 0)) := by
         rw [List.take_zero, List.append_nil]
         exact ⟨by rw [HRL.out]; exact ho3, HPv3.out.sy, HPv3.out.ab⟩
        have HLO := Lib.hid (fun x (h : (Value.slice lA Ll.length lc).ownBlock = some x) => own_hi HPl.out.own x h)
        have HLV := Lib.hid (fun x (h : (Value.slice vA L.length vc).ownBlock = some x) => own_hi HPv.out.own x h)
        have HGO := Lib.hid HBZ.out.lt
        have hbu := HBW.out.size
        have HWQ : Hid (wo.heap.size ≤ w3.heap.size) := Lib.hid (Nat.le_trans HWO.out hz3)
        clear ho3 hb3 HPl HPv HBZ HBW
        obtain ⟨wq, rfl⟩ : ∃ wq : World, wq = w3 := ⟨_, rfl⟩
        go_wp2_with fail
        go_loopw [12, 13] (fun v i wx => ∃ (I j : Nat) (Lc : List Pk), i = .int .i64 I ∧ I ≤ 600 ∧ Lc.length ≤ 1000 ∧ Hid (I = 2 * j) ∧ Hid (PR wx w.heap.size (fun x => x ≠ go) wu.heap.size v Lc (sortP (leavesF l 0) ++ (pairsF (levelF (sortP (leavesF l 0)) t)).take j)) ∧ Hid (PR wx w.heap.size (fun x => x ≠ go) w.heap.size (.slice lA Ll.length lc) Ll (levelF (sortP (leavesF l 0)) t)) ∧ Hid (PR wx w.heap.size (fun x => x ≠ go) w.heap.size (.slice vA L.length vc) r (sortP (leavesF l 0))) ∧ Hid (Blk wx go 3 (ints .i64 (List.replicate k 0))) ∧ Hid (Below w.heap.size w wx) ∧ Hid (wq.heap.size ≤ wx.heap.size)) (fun _ i _ => (1000 - intOf i).toNat)
        case atStart => exact ⟨0, 0, r, rfl, by omega, by rw [HRL.out]; omega, Lib.hid rfl, HPn, HPl3, HPv3, HBZ3, HBW3, Lib.hid (Nat.le_refl _)⟩
        case round =>
         clear HPn HPl3 HPv3 HBZ3 HBW3
         obtain ⟨I, j, Lc, rfl, hI, hLc, HI, HPc, HPl, HPv, HBZ, HBW, HWX⟩ := hrel
         obtain ⟨cA, cc, rfl⟩ := own_form HPc.out.own
         by_cases hlt2 : I + 1 < Ll.length
         ·have e5 : decide ((I : Int) + 1 < (Ll.length : Int)) = true := by simp; omega
          obtain ⟨gl, c', hv, hgl, hgl2, hob, hcell⟩ := HPl.out.cells (by omega)
          injection hv with hv1 hv2 hv3
          subst hv1
          subst hv3
          obtain ⟨p1, p2⟩ := hcell I (by omega)
          obtain ⟨q1, q2⟩ := hcell (I + 1) hlt2
          have hxp := HPl.out.ath (j := I) (by omega)
          have hxq := HPl.out.ath (j := I + 1) hlt2
          have hsp := HPl.out.sy (kth Ll I) (kth_mem (by omega))
          have hsq := HPl.out.sy (kth Ll (I + 1)) (kth_mem hlt2)
          have hxl := HPl.out.len
          have hpn := hsp.1
          have okp := level_ok B1.out B2'.out B3'.out (t := t) (by omega) (absW wr (kth Ll I)) (by rw [← hxp, List.getD_eq_getElem?_getD, List.getElem?_eq_getElem (by omega)]; exact List.getElem_mem _)
          have okq := level_ok B1.out B2'.out B3'.out (t := t) (by omega) (absW wr (kth Ll (I + 1))) (by rw [← hxq, List.getD_eq_getElem?_getD, List.getElem?_eq_getElem (by omega)]; exact List.getElem_mem _)
          have HTK : Hid ((pairsF (levelF (sortP (leavesF l 0)) t)).take (j + 1) = (pairsF (levelF (sortP (leavesF l 0)) t)).take j ++ [((absW wr (kth Ll I)).1 + (absW wr (kth Ll (I + 1))).1, (absW wr (kth Ll I)).2 ++ (absW wr (kth Ll (I + 1))).2)]) := by
           have := pairsF_take (levelF (sortP (leavesF l 0)) t) j (by have := HI.out; omega)
           unfold pth2 at this
           rw [← HI.out, hxp, hxq] at this
           exact this
          generalize kth Ll I = p at *
          generalize kth Ll (I + 1) = q at *
          obtain ⟨pw, pa, pn, pcap⟩ := p
          obtain ⟨qw, qa, qn, qcap⟩ := q
          obtain ⟨hrp, gp, hpa, hgp, hgp2, -⟩ := hsp.reads
          obtain ⟨hrq, gq, hqa, hgq, hgq2, -⟩ := hsq.reads
          dsimp only at hpa hqa p1 p2 q1 q2 hrp hrq hpn
          subst hpa
          subst hqa
          have lp := hrp.len
          have lq := hrq.len
          have okp1 : 0 < pw := okp.1
          have okp2 : pw ≤ 100000000000000000 := okp.2.1
          have okq1 : 0 < qw := okq.1
          have okq2 : qw ≤ 100000000000000000 := okq.2.1
          have okp3 : pn ≤ 4320 := by rw [← lp]; exact okp.2.2
          have okq3 : qn ≤ 4320 := by rw [← lq]; exact okq.2.2
          have e6 : IntKind.i64.wrap (pw + qw) = pw + qw := IntWalk.i64_in _ (by omega)
          have e7 : IntKind.i64.wrap ((I : Int) + 1) = (I : Int) + 1 := IntWalk.i64_in _ (by omega)
          have e8 : ((I : Int) + 1).toNat = I + 1 := by omega
          have e9 : (0 : Int) ≤ (I : Int) + 1 := by omega
          have e10 : (I : Int) + 1 < (Ll.length : Int) := by omega
          have e11 : (I : Int) < (Ll.length : Int) := by omega
          have HRP := Lib.hid hrp
          have HRQ := Lib.hid hrq
          have hwq := HWX.out
          have hbz := HBW.out.size
          have HGZ := Lib.hid HBZ.out.lt
          have NOB : Hid (gl ∉ ob (.slice cA Lc.length cc)) := fun hm => by have q1 := own_lo HPc.out.own gl (mem_ob.1 hm); have q2 := HLO.out gl rfl; omega
          clear okp okq hrp hrq lp lq hsp hsq hxp hxq hcell hxl
          go_wp2_with fail
          go_region_held3 (fun w' => w'.cell? ⟨gl, I * 2, none⟩ = some (.int .i64 pw) ∧ w'.cell? ⟨gl, I * 2 + 1, none⟩ = some (.slice (some ⟨gp, 0, none⟩) pn pcap) ∧ w'.cell? ⟨gl, (I + 1) * 2, none⟩ = some (.int .i64 qw) ∧ w'.cell? ⟨gl, (I + 1) * 2 + 1, none⟩ = some (.slice (some ⟨gq, 0, none⟩) qn qcap))
           (first | go_keep | (exact ⟨by assumption, by assumption, by assumption, by assumption⟩))
           (first
            | (go_at_call 60; refine (concat_from wr _ wr.heap.size (some ⟨gp, 0, none⟩) (some ⟨gq, 0, none⟩) pn qn pcap qcap _ _ (by repeat (first | exact Keeps.refl _ _ | apply Keeps.drewN | apply Keeps.drew | apply Keeps.alloc)) (by simp) (by simp) HRP.out HRQ.out nofun nofun (fun ad h => ⟨gp, 0, (Option.some.inj h).symm⟩) (fun ad h => ⟨gq, 0, (Option.some.inj h).symm⟩) (by omega) (by omega)).mono ?_; rintro _ w1 ⟨A5, c5, rfl, ho5, hk5⟩; have hz5 := hk5.size; have r1 := hk5.cell (by simp) p1; have r2 := hk5.cell (by simp) p2; have r3 := hk5.cell (by simp) q1; have r4 := hk5.cell (by simp) q2)
            | (refine step_pack rfl (.tmp 95) (.tmp 122) rfl wu.heap.size _ Lc.length Lc rfl (own_keeps HPc.out.own (hk5.alloc _) (by simp)) w1.heap.size ⟨pw + qw, A5, pn + qn, c5⟩ rfl (by simp) (by simp) (by omega) (by simp; omega) ?_; intro g6 c6 w6 ho6 hg6; have hk6 : Keeps (ob (.slice cA Lc.length cc)) wr w6 := ((hk5.alloc _).mono (by simp)).trans (grown_keeps hg6); have t1 := hk6.cell NOB.out p1; have t2 := hk6.cell NOB.out p2; have t3 := hk6.cell NOB.out q1; have t4 := hk6.cell NOB.out q2))
          have hK7 : Keeps [] wr (w1.alloc (.cells #[.int .i64 (pw + qw), .slice A5 (pn + qn) c5] 154)) := hk5.alloc _
          have hsn : Sy w1 w.heap.size (fun x => x ≠ go) ⟨pw + qw, A5, pn + qn, c5⟩ :=
           ⟨by show 0 < pn + qn; omega, _, ho5.mono hbz, fun x hx => by have q1 := own_lo ho5 x hx; have q2 := HGZ.out; show x ≠ go; omega⟩
          have hrd := rdS_own (p := ⟨pw + qw, A5, pn + qn, c5⟩) ho5
          have hsn2 := hsn.keeps ((Keeps.refl [] w1).alloc (.cells #[.int .i64 (pw + qw), .slice A5 (pn + qn) c5] 154)) (by simp)
          have hsnoc := HPc.out.snoc hK7 hsn2.1 ho6 hg6
          have hab : absW (w1.alloc (.cells #[.int .i64 (pw + qw), .slice A5 (pn + qn) c5] 154)) ⟨pw + qw, A5, pn + qn, c5⟩ = ((absW wr ⟨pw, some ⟨gp, 0, none⟩, pn, pcap⟩).1 + (absW wr ⟨qw, some ⟨gq, 0, none⟩, qn, qcap⟩).1, (absW wr ⟨pw, some ⟨gp, 0, none⟩, pn, pcap⟩).2 ++ (absW wr ⟨qw, some ⟨gq, 0, none⟩, qn, qcap⟩).2) := by
           unfold absW; rw [hsn2.2, hrd]
          rw [hab, List.append_assoc, ← HTK.out] at hsnoc
          have HPc6 := Lib.hid hsnoc
          have HPl6 := Lib.hid (HPl.out.other HPc.out hk6 HLO.out)
          have HPv6 := Lib.hid (HPv.out.other HPc.out hk6 HLV.out)
          have HBZ6 := Lib.hid (HBZ.out.keeps hk6 (fun hm => by have q1 := own_lo HPc.out.own go (mem_ob.1 hm); have q2 := HGO.out; omega))
          have HBW6 : Hid (Below w.heap.size w w6) := Lib.hid (((Keeps.of_below HBW.out).then hk6 (fun x hm => Or.inr (by have q1 := own_lo HPc.out.own x (mem_ob.1 hm); omega)) : Keeps [] w w6).below)
          have HWX6 : Hid (wq.heap.size ≤ w6.heap.size) := Lib.hid (Nat.le_trans HWX.out hk6.size)
          clear hK7 hsn hrd hsn2 hsnoc hab hk6 hg6 ho6 t1 t2 t3 t4 HPc HPl HPv HBZ HBW HWX
          go_wp2_with fail
          go_roundw
          case rel => exact ⟨I + 2, j + 1, Lc ++ [⟨pw + qw, A5, pn + qn, c5⟩], by go_num, by omega, by have hq := HPc6.out.len; rw [List.length_append, sortP_len, HLEN.out, List.length_take] at hq; have := HI.out; omega, Lib.hid (by have := HI.out; omega), HPc6, HPl6, HPv6, HBZ6, HBW6, HWX6⟩
          case measure => simp [intOf]; omega
         ·have e5 : decide ((I : Int) + 1 < (Ll.length : Int)) = false := by simp; omega
          have HDN : Hid (sortP (leavesF l 0) ++ (pairsF (levelF (sortP (leavesF l 0)) t)).take j = sortP (leavesF l 0) ++ pairsF (levelF (sortP (leavesF l 0)) t)) := by
           show _ = _; rw [pairsF_done _ j (by rw [HLVL.out]; have := HI.out; omega)]
          have HPc2 : Hid (PR wr w.heap.size (fun x => x ≠ go) wu.heap.size (.slice cA Lc.length cc) Lc (sortP (leavesF l 0) ++ pairsF (levelF (sortP (leavesF l 0)) t))) := by have := HPc.out; rwa [HDN.out] at this
          have hlc0 : 0 < Lc.length := by have hq := HPc2.out.len; rw [List.length_append, sortP_len, HLEN.out] at hq; omega
          have hwq := HWX.out
          go_wp2_with fail
          refine (HPc2.out.sort hlc0 (by omega) (level_next_ok B1.out B2'.out B3'.out (by omega))).mono ?_
          rintro _ w7 ⟨rfl, g7, r7, hg7, hb7, hpr7, hk7, hl7, -⟩
          have hobv : ob (Value.slice cA Lc.length cc) = [g7] := by unfold ob; rw [hg7]; rfl
          have hk8 : Keeps (ob (Value.slice cA Lc.length cc)) wr w7 := by rw [hobv]; exact hk7
          have HPv7 := Lib.hid (HPv.out.other HPc2.out hk8 HLV.out)
          have HBZ7 := Lib.hid (HBZ.out.keeps hk7 (by have := HGO.out; simp; omega))
          have HBW7 : Hid (Below w.heap.size w w7) := Lib.hid (((Keeps.of_below HBW.out).then hk7 (fun x hm => Or.inr (by simp at hm; omega)) : Keeps [] w w7).below)
          have HWO7 : Hid (wo.heap.size ≤ w7.heap.size) := Lib.hid (Nat.le_trans HWQ.out (Nat.le_trans hwq hk7.size))
          have HPl7 : Hid (PR w7 w.heap.size (fun x => x ≠ go) w.heap.size (.slice cA Lc.length cc) r7 (levelF (sortP (leavesF l 0)) (t + 1))) := Lib.hid ⟨hpr7.own.mono hbu, hpr7.sy, hpr7.ab⟩
          clear hpr7 hk7 hk8 hobv hl7 hg7 hb7 HPc HPl HPv HBZ HBW
          go_wp2_with fail
          refine ⟨⟨t + 1, r7, by omega, by go_num, HPl7, HPv7, HBZ7, HBW7, HWO7⟩, by simp [intOf]; omega⟩
       ·obtain rfl : t = m := by omega
        have hlen2 := level_len (leavesF l 0) t (by rw [HLEN.out]; omega) (by rw [HLEN.out]; exact HKP.out)
        rw [HLEN.out, hlvl] at hlen2
        obtain ⟨Q, hQ⟩ : ∃ Q : Nat, Q = 2 * L.length - 2 := ⟨_, rfl⟩
        have s1 : 2 * (L.length : Int) - 2 = (Q : Int) := by omega
        have s2 : Q ≤ lc := by omega
        have s3 : Q ≤ Ll.length := by omega
        have s4 : 0 < Q := by omega
        have HQ := Lib.hid hQ
        have HINR : Hid (inR k (levelF (sortP (leavesF l 0)) t)) := by
         refine level_inR _ (fun p hp s hs => ?_) t
         have := B5.out p ((sortP_perm _).mem_iff.1 hp) s hs
         have h5 := HLL.out
         omega
        have HLVL := Lib.hid hlvl
        have HBZ0 : Hid (Blk wu go 3 (ints .i64 (cntF k (((levelF (sortP (leavesF l 0)) t).take 0).flatMap Prod.snd)))) := by
         rw [List.take_zero, List.flatMap_nil, cntF_nil]; exact HBZ
        clear hQ hlen2 hlvl HBZ
        go_wp2_with fail
        go_loopw [136] (fun i wx => ∃ q : Nat, q ≤ Q ∧ i = .int .i64 q ∧ Hid (PR wx w.heap.size (fun x => x ≠ go) w.heap.size (.slice lA Ll.length lc) Ll (levelF (sortP (leavesF l 0)) t)) ∧ Hid (Blk wx go 3 (ints .i64 (cntF k (((levelF (sortP (leavesF l 0)) t).take q).flatMap Prod.snd)))) ∧ Hid (Below w.heap.size w wx)) (fun i _ => Q - (intOf i).toNat)
        case atStart => exact ⟨0, by omega, rfl, HPl, HBZ0, HBW⟩
        case round =>
         clear HPl HBZ0 HBW
         obtain ⟨q, hq, rfl, HPl, HBZ, HBW⟩ := hrel
         by_cases hlt3 : q < Q
         ·obtain ⟨gl, c', hv, hgl, hgl2, hob, hcell⟩ := HPl.out.cells (by omega)
          injection hv with hv1 hv2 hv3
          subst hv1
          subst hv3
          obtain ⟨p1, p2⟩ := hcell q (by omega)
          have hxp := HPl.out.ath (j := q) (by omega)
          have hsp := HPl.out.sy (kth Ll q) (kth_mem (by omega))
          have hpn := hsp.1
          have hxl := HPl.out.len
          have hmem : absW wr (kth Ll q) ∈ levelF (sortP (leavesF l 0)) t := by rw [← hxp, List.getD_eq_getElem?_getD, List.getElem?_eq_getElem (by omega)]; exact List.getElem_mem _
          have HTK : Hid (((levelF (sortP (leavesF l 0)) t).take (q + 1)).flatMap Prod.snd = ((levelF (sortP (leavesF l 0)) t).take q).flatMap Prod.snd ++ (absW wr (kth Ll q)).2) := by
           show _ = _
           rw [List.take_succ_eq_append_getElem (by omega), List.flatMap_append, ← hxp, List.getD_eq_getElem?_getD, List.getElem?_eq_getElem (by omega)]
           simp
          have hin := HINR.out _ hmem
          have okp := (level_ok B1.out B2'.out B3'.out (t := t) (by omega) _ hmem).2.2
          generalize kth Ll q = p at *
          obtain ⟨pw, pa, pn, pcap⟩ := p
          obtain ⟨hrp, gp, hpa, hgp, hgp2, hgo2⟩ := hsp.reads
          dsimp only at hpa p1 p2 hrp hpn hgo2
          subst hpa
          have HSY : Hid (∃ xs, xs = rdS wr ⟨pw, some ⟨gp, 0, none⟩, pn, pcap⟩) := ⟨_, rfl⟩
          obtain ⟨xs, hxs⟩ := HSY.out
          have hxs2 : (absW wr ⟨pw, some ⟨gp, 0, none⟩, pn, pcap⟩).2 = xs := hxs.symm
          rw [← hxs] at hrp
          rw [hxs2] at hin okp
          have HTK2 : Hid (((levelF (sortP (leavesF l 0)) t).take (q + 1)).flatMap Prod.snd = ((levelF (sortP (leavesF l 0)) t).take q).flatMap Prod.snd ++ xs) := by show _ = _; rw [HTK.out, hxs2]
          have HRP := Lib.hid hrp
          have HIN := Lib.hid hin
          have hpn2 : pn ≤ 4320 := by rw [← hrp.len]; exact okp
          have HPA := Lib.hid (HPl.out.dr ((Keeps.refl [] wr).alloc (.cells #[.int .i64 pw, .slice (some ⟨gp, 0, none⟩) pn pcap] 154)))
          have HRPA := Lib.hid (hrp.keeps ((Keeps.refl [] wr).alloc (.cells #[.int .i64 pw, .slice (some ⟨gp, 0, none⟩) pn pcap] 154)) (off_nil _))
          have HBZA : Hid (Blk (wr.alloc (.cells #[.int .i64 pw, .slice (some ⟨gp, 0, none⟩) pn pcap] 154)) go 3 (ints .i64 (cntF k (((levelF (sortP (leavesF l 0)) t).take q).flatMap Prod.snd ++ xs.take 0)))) := by
           rw [List.take_zero, List.append_nil]; exact HBZ.out.alloc _
          have HOKL : Hid (¬ (Value.slice (some ⟨gl, 0, none⟩) Ll.length lc).ownBlock = some go) := fun h => by
           obtain ⟨cs, hcs⟩ := own_int_block HPl.out.own h
           rw [show wr.heap[go]? = some (.cells _ 3 (0, 0)) from HBZ.out] at hcs
           injection hcs with hcs
           injection hcs with _ h2
           exact absurd h2 (by decide)
          have HBWA := Lib.hid (HBW.out.alloc HBW.out.size (.cells #[.int .i64 pw, .slice (some ⟨gp, 0, none⟩) pn pcap] 154))
          clear hcell hxp hsp hxl hmem hin okp hxs2 HTK hrp HSY hxs HPl HBZ HBW
          go_wp2_with fail
          go_loopw [143] (fun i wx => ∃ j : Nat, j ≤ pn ∧ i = .int .i64 j ∧ Hid (PR wx w.heap.size (fun x => x ≠ go) w.heap.size (.slice (some ⟨gl, 0, none⟩) Ll.length lc) Ll (levelF (sortP (leavesF l 0)) t)) ∧ Hid (RI .i64 wx (some ⟨gp, 0, none⟩) pn xs) ∧ Hid (Blk wx go 3 (ints .i64 (cntF k (((levelF (sortP (leavesF l 0)) t).take q).flatMap Prod.snd ++ xs.take j)))) ∧ Hid (Below w.heap.size w wx)) (fun i _ => pn - (intOf i).toNat)
          case atStart => exact ⟨0, by omega, rfl, HPA, HRPA, HBZA, HBWA⟩
          case round =>
           clear HPA HRPA HBZA HBWA
           obtain ⟨j, hj, rfl, HPl, HRP2, HBZ, HBW⟩ := hrel
           by_cases hlt4 : j < pn
           ·have hc := HRP2.out.cell gp 0 rfl j hlt4
            rw [Nat.zero_add] at hc
            have hs := HIN.out (nth xs j) (by have := HRP.out.len; rw [nth_lt (by omega)]; exact List.getElem_mem _)
            have HT1 : Hid (xs.take (j + 1) = xs.take j ++ [nth xs j]) := take_snoc' xs j (by have := HRP.out.len; omega)
            obtain ⟨s, hs0⟩ := Int.eq_ofNat_of_zero_le hs.1
            rw [hs0] at hc
            have hsk : s < k := by have := hs.2; rw [hs0] at this; omega
            have HT2 : Hid (xs.take (j + 1) = xs.take j ++ [(s : Int)]) := by have := HT1.out; rwa [hs0] at this
            clear hs hs0 HT1
            have hbd : (((levelF (sortP (leavesF l 0)) t).take q).flatMap Prod.snd ++ xs.take j).length ≤ 10000000 := by
             have h1 := flat_len (X := (levelF (sortP (leavesF l 0)) t).take q) (fun x hx => (level_ok B1.out B2'.out B3'.out (t := t) (by omega) x (List.mem_of_mem_take hx)).2.2)
             rw [List.length_take] at h1
             rw [List.length_append, List.length_take]
             have := HQ.out
             omega
            have HTJ : Hid (((levelF (sortP (leavesF l 0)) t).take q).flatMap Prod.snd ++ xs.take (j + 1) = (((levelF (sortP (leavesF l 0)) t).take q).flatMap Prod.snd ++ xs.take j) ++ [(s : Int)]) := by show _ = _; rw [HT2.out, List.append_assoc]
            generalize ((levelF (sortP (leavesF l 0)) t).take q).flatMap Prod.snd ++ xs.take j = S0 at *
            obtain ⟨x0, x1⟩ := cnt_bd k S0 s hsk
            have HC2 := Lib.hid (cntF_snoc k S0 s hsk)
            have hc0 : wr.cell? ⟨go, s, none⟩ = some (.int .i64 (nth (cntF k S0) s)) := by
             rw [HBZ.out.cell, ints_getElem?]
             have := cntF_len k S0
             simp [nth, List.getD, show s < (cntF k S0).length by omega]
            have hf0 := HBZ.out.frozen s
            generalize nth (cntF k S0) s = x at *
            have HKG : Hid (Keeps [go] wr (wr.setCell ⟨go, s, none⟩ (.int .i64 (x + 1)))) := Lib.hid ((Keeps.refl _ _).setCell (Or.inl (by simp)) _)
            have HPlK := Lib.hid (HPl.out.keeps HKG.out (fun g hg hm => by rw [List.mem_singleton.1 hm] at hg; exact HOKL.out hg) (fun g hg h => by rw [List.mem_singleton.1 hg] at h; exact h.1 rfl))
            have HRPK := Lib.hid (HRP2.out.keeps HKG.out (fun ad h => by obtain rfl := Option.some.inj h; simpa using hgo2))
            have HBZK := Lib.hid (HBZ.out.set s (.int .i64 (x + 1)))
            have HBWK := Lib.hid (HBW.out.setCell (p := ⟨go, s, none⟩) hwz (.int .i64 (x + 1)))
            have x2 : x ≤ 10000000 := by omega
            clear hbd HPl HRP2 HBZ HBW x1
            go_wp2_with fail
            refine ⟨⟨j + 1, by omega, by go_num, HPlK, HRPK, Lib.hid ?_, HBWK⟩, by simp [intOf]; omega⟩
            rw [HTJ.out, HC2.out]
            have := HBZK.out
            rw [show (ints .i64 (cntF k S0)).set s (.int .i64 (x + 1)) = ints .i64 ((cntF k S0).set s (x + 1)) by simp [ints, List.map_set]] at this
            exact this
           ·obtain rfl : j = pn := by omega
            have hxt : xs.take j = xs := List.take_of_length_le (by have := HRP.out.len; omega)
            have HBZ2 : Hid (Blk wr go 3 (ints .i64 (cntF k (((levelF (sortP (leavesF l 0)) t).take (q + 1)).flatMap Prod.snd)))) := by
             have := HBZ.out; rw [hxt, ← HTK2.out] at this; exact this
            clear hxt HBZ
            go_wp2_with fail
            refine ⟨⟨q + 1, by omega, by go_num, HPl, HBZ2, HBW⟩, by simp [intOf]; omega⟩
         ·obtain rfl : q = Q := by omega
          have HRES : Hid (limLens l t = cntF k (((levelF (sortP (leavesF l 0)) t).take q).flatMap Prod.snd)) := by
           show _ = _
           unfold limLens
           rw [if_neg (by rw [HLEN.out]; omega), HLL.out, HLEN.out, HQ.out]
          go_wp2_with fail
          go_ret2
          refine limited_ok (v := .slice (some ⟨go, 0, none⟩) k k) HR3.out (by rw [HRES.out, cntF_len]) ?_ HBW.out
          rw [HRES.out]
          exact own_of_blk HBZ.out (cntF_len _ _) hwz (by omega)
theorem limit_calls (w : World) (A : Option Addr) (n c : Nat) (l : List Int) (most : Int) (hl : RI .i64 w A n l) :
  Calls Tryz.prog 68 #[.slice A n c, .int .i64 most] w (Limited w (limF l most)) := by
 by_cases h : n = 0 ∨ 288 < n ∨ most < 1 ∨ 15 < most
 ·exact limit_arg w A n c l most hl.len h
 ·obtain ⟨m, rfl⟩ := Int.eq_ofNat_of_zero_le (show 0 ≤ most by omega)
  exact limit_rest w A n c l m hl (by omega) (by omega) (by omega) (by omega)
end Go.Proofs.YtghjlpechjggjaaGreatDoor
