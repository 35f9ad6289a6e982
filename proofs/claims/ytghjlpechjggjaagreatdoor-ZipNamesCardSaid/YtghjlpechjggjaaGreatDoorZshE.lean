import Derived.Test.YtghjlpechjggjaaGreatDoorZshD
import Derived.Test.YtghjlpechjggjaaGreatDoorZshC
import Derived.Test.YtghjlpechjggjaaGreatDoorZshB
import Derived.Deep.Onto
import Derived.Test.YtghjlpechjggjaaGreatDoorZshA
import Derived.RegionTactic
import Derived.BigRegion
import Derived.ChangeAlike
import Derived.StillTailTactics
import Derived.Outline
set_option linter.unusedVariables false
set_option linter.unusedSimpArgs false
set_option linter.constructorNameAsVariable false
set_option maxRecDepth 100000
set_option maxHeartbeats 60000000
namespace Go.Proofs.YtghjlpechjggjaaGreatDoor
open Go.RowKit Go.Shelf
attribute [local go_sem] Oper.semAt_some
def partOk (p : List UInt8) : Bool := !(p == []) && !(p == [46]) && !(p == [46, 46])
def nameB (s : ByteArray) : Bool := decide (1 ≤ s.size ∧ s.size ≤ 64) && ((splitL s.data.toList).all partOk && s.data.toList.all (fun b => okB b.toNat))
theorem splitseq_calls (w : World) (s : ByteArray) :
  Calls Tryz.prog 30 #[.string s, .string ⟨#[47]⟩] w fun e w' => e = .returned (.func (.func 82) #[] #[.pointer (some ⟨w.heap.size + 1, 0, none⟩), .pointer (some ⟨w.heap.size, 0, none⟩), .pointer (some ⟨w.heap.size + 2, 0, none⟩)]) ∧
   w' = ((w.alloc (.cells #[.string s] 9)).alloc (.cells #[.string ⟨#[47]⟩] 9)).alloc (.cells #[.int .i64 0] 3) := by
 have hmf : ∀ (fn : Fn) (first cap : Array Value) (w : World), (Instr.makeFunc fn first cap).run Tryz.prog w = .ok (.func fn first cap) w := fun _ _ _ _ => rfl
 go_enter Tryz.func30, Tryz.ntmps30
 go_wp2
 go_ret
 exact ⟨rfl, rfl⟩
theorem results_c1b {fn : Func} {p : Tmp} (h : fn.results = #[.cell p 4]) (tmps : Array Value) (w : World) (g : Nat) {v : Value} (hp : tmps.getD p undef = .pointer (some ⟨g, 0, none⟩)) (hc : w.cell? ⟨g, 0, none⟩ = some v) :
  (results fn tmps).run Tryz.prog w = .ok v w := by
 have hp' : tmps[p]?.getD undef = .pointer (some ⟨g, 0, none⟩) := by simpa using hp
 have ha : ∀ w, (isAgg 4).run Tryz.prog w = .ok false w := run_isAgg_plain Tryz.underlying4 rfl
 simp [results, h, hp', asAddr, go_sem, hc, ha]
theorem name_calls (w : World) (s : ByteArray) (hs : s.size ≤ 1000000000) :
  Calls Tryz.prog 10 #[.string s] w fun e w' => e = .returned (.bool (nameB s)) ∧ Below w.heap.size w w' := by
 have hlen : s.data.toList.length = s.size := by cases s; rfl
 have htl : s.toList = s.data.toList := ByteArray.toList_eq s
 refine (callsIn_wide (n := 0)).1 (callsIn_of_wp_marks Tryz.func10 rfl trivial ?_ rfl)
 simp only [Tryz.ntmps10, List.size_toArray, List.length_cons, List.length_nil, Nat.reduceAdd, Nat.reduceSub, Array.replicate_succ, Array.replicate_zero, List.push_toArray, List.append_toArray, List.nil_append, List.cons_append]
 by_cases h0 : s.size = 0
 ·have e0 : s.data.toList = [] := List.eq_nil_of_length_eq_zero (by omega)
  have z1 : (s.toList == []) = true := by rw [htl, e0]; rfl
  have z1' : s.toList.isEmpty = true := by rw [htl, e0]; rfl
  have HP := Lib.hid (show nameB s = false by unfold nameB; simp [h0])
  clear e0 htl h0 hlen
  gi_wp2
  have hcell : (w.alloc (.cells #[.bool false] 4)).cell? ⟨w.heap.size, 0, none⟩ = some (.bool false) := by
   have := (blk_new w 4 [.bool false]).cell 0
   simpa using this
  exact ⟨_, results_c1b rfl _ _ w.heap.size rfl hcell, by rw [HP.out], (Below.refl _ _).alloc (Nat.le_refl _) _⟩
 by_cases h64 : 64 < s.size
 ·have z1 : (s.toList == []) = false := by
   rw [htl, beq_eq_false_iff_ne]; intro e; rw [e] at hlen; simp at hlen; omega
  have z1' : s.toList.isEmpty = false := by
   rw [htl]; cases hq : s.data.toList with
   | nil => rw [hq] at hlen; simp at hlen; omega
   | cons a b => rfl
  have y1 : decide ((64 : Int) < (s.size : Int)) = true := by simp; omega
  have y1' : decide (64 < s.size) = true := by simp; omega
  have HP := Lib.hid (show nameB s = false by unfold nameB; simp; omega)
  clear htl h0 hlen h64
  gi_wp2
  have hcell : (w.alloc (.cells #[.bool false] 4)).cell? ⟨w.heap.size, 0, none⟩ = some (.bool false) := by
   have := (blk_new w 4 [.bool false]).cell 0
   simpa using this
  exact ⟨_, results_c1b rfl _ _ w.heap.size rfl hcell, by rw [HP.out], (Below.refl _ _).alloc (Nat.le_refl _) _⟩
 have y0 : (s.toList == []) = false := by
  rw [htl, beq_eq_false_iff_ne]; intro e; rw [e] at hlen; simp at hlen; omega
 have y0' : s.toList.isEmpty = false := by
  rw [htl]; cases hq : s.data.toList with
  | nil => rw [hq] at hlen; simp at hlen; omega
  | cons a b => rfl
 have y1 : decide ((64 : Int) < (s.size : Int)) = false := by simp; omega
 have y1' : decide (64 < s.size) = false := by simp; omega
 have HL := Lib.hid hlen
 have HTL := Lib.hid htl
 clear hlen htl
 gi_wp2
 obtain ⟨g, hg⟩ : ∃ g, g = w.heap.size := ⟨_, rfl⟩
 rw [← hg]
 refine ⟨trivial, rfl, ((callsIn_wide (n := 0)).2 (splitseq_calls _ s)).mono ?_⟩
 rintro _ w2 ⟨rfl, hw2⟩
 have hs1 : (w.alloc (.cells #[.bool false] 4)).heap.size = g + 1 := by rw [hg]; simp
 rw [hs1]
 have hka : Keeps [] (w.alloc (.cells #[.bool false] 4)) w2 := by rw [hw2]; exact (((Keeps.refl [] _).alloc _).alloc _).alloc _
 have hgb : Blk w2 g 4 [.bool false] := by rw [hg]; exact (blk_new w 4 [.bool false]).keeps hka (by simp)
 have hb1 : Blk w2 (g + 1) 9 [.string s] := by
  have := ((blk_new (w.alloc (.cells #[.bool false] 4)) 9 [.string s]).keeps (S := []) ((Keeps.refl [] _).alloc (.cells #[.string ⟨#[47]⟩] 9)) (by simp)).keeps (S := []) ((Keeps.refl [] _).alloc (.cells #[.int .i64 0] 3)) (by simp)
  rw [hs1] at this
  rw [hw2]; exact this
 have hb2 : Blk w2 (g + 2) 9 [.string ⟨#[47]⟩] := by
  have := ((blk_new ((w.alloc (.cells #[.bool false] 4)).alloc (.cells #[.string s] 9)) 9 [.string ⟨#[47]⟩])).keeps (S := []) ((Keeps.refl [] _).alloc (.cells #[.int .i64 0] 3)) (by simp)
  rw [World.size_alloc, hs1] at this
  rw [hw2]; exact this
 have hb3 : Blk w2 (g + 3) 3 [.int .i64 0] := by
  have := (blk_new (((w.alloc (.cells #[.bool false] 4)).alloc (.cells #[.string s] 9)).alloc (.cells #[.string ⟨#[47]⟩] 9)) 3 [.int .i64 0])
  rw [World.size_alloc, World.size_alloc, hs1] at this
  rw [hw2]; exact this
 have hsz2 : w2.heap.size = g + 4 := by rw [hw2]; simp; omega
 have hbel2 : Below w.heap.size w w2 := by
  rw [hw2]
  exact ((((Below.refl w.heap.size w).alloc (Nat.le_refl _) _).alloc (by simp) _).alloc (by simp; omega) _).alloc (by simp; omega) _
 have HG := Lib.hid hg
 have HGB := Lib.hid hgb
 have HB1 := Lib.hid hb1
 have HB2 := Lib.hid hb2
 have HB3 := Lib.hid hb3
 have HS2 := Lib.hid hsz2
 have HBL := Lib.hid hbel2
 have HC := Lib.hid (fun w' => idxfunc_calls w' s hs)
 clear hw2 hs1 hka hgb hb1 hb2 hb3 hsz2 hbel2 hg
 gi_wp2
 refine range_lawS (gf := 82) (lb := #[.pointer (some ⟨g + 2, 0, none⟩), .pointer (some ⟨g + 1, 0, none⟩), .pointer (some ⟨g + 3, 0, none⟩)]) (encs := strE) (toks := partZ s) rfl (enters_of Tryz.func82 (by kernel_rfl) rfl) (O := [g + 1]) (C := fun k => k = g + 2 ∨ k = g + 1 ∨ k = g + 3) ?hO ?hC
  (split_iter w2 (g + 2) (g + 1) (g + 3) s hs (by omega) (by omega) HB2.out HB1.out HB3.out) (fun _ => rfl)
  (fun pre W => Blk W g 4 [.bool false] ∧ pre.all (fun x => partOk x.data.toList) = true ∧ Below w.heap.size w W)
  (fun pre W => Blk W g 4 [.bool false] ∧ pre.all (fun x => partOk x.data.toList) = false ∧ Below w.heap.size w W)
  ?hI ?hIx ?h0 (fun x W a' W1 => W1 = W ∧ a' = { tmps := #[.string s, undef, .pointer (some ⟨g, 0, none⟩), .string x, .string s, .bool false, .bool false, .string s, .int .i64 s.size, .bool false, .bool false, .string s, .func (.func 82) #[] #[.pointer (some ⟨g + 2, 0, none⟩), .pointer (some ⟨g + 1, 0, none⟩), .pointer (some ⟨g + 3, 0, none⟩)], .string x, undef, undef, undef, undef, undef, undef, undef, undef, undef, undef, undef, undef, undef], defers := [] }) ?hAx ?assign ?body ?done ?stop
 case hO => have := HS2.out; intro k hk; simp at hk; omega
 case hC => have := HS2.out; rintro k (h | h | h) <;> omega
 case h0 => exact ⟨HGB.out, rfl, HBL.out⟩
 case hAx => rintro x W a' W1 ⟨rfl, -⟩; exact Keeps.refl [] _
 case hI =>
  have h3 := HS2.out
  have h4 := HG.out
  rintro pre W1 W2 ⟨hv, ha, hB⟩ hk
  exact ⟨hv.keeps hk (by simp; omega), ha, hB.trans (keeps_below hk hB.size (fun x hx => by simp at hx; omega))⟩
 case hIx =>
  have h3 := HS2.out
  have h4 := HG.out
  rintro pre W1 W2 ⟨hv, ha, hB⟩ hk
  exact ⟨hv.keeps hk (by simp; omega), ha, hB.trans (keeps_below hk hB.size (fun x hx => by simp at hx; omega))⟩
 case assign =>
  intro l' pre x W K hi hsz hK
  have HK := Lib.hid hK
  clear hK
  dsimp only [strE]
  gi_wp2
  exact HK.out _ _ ⟨rfl, rfl⟩
 case stop =>
  rintro pre W hpre ⟨hv, ha, hB⟩ hD
  have HV := Lib.hid hv
  have HA := Lib.hid ha
  have HBW := Lib.hid hB
  clear hv ha hB
  gi_wp2
  have h3 := HS2.out
  have h4 := HG.out
  refine ⟨by simp, .inl ⟨_, _, rfl, run_takeDeferred hD, ?_⟩⟩
  have hv := HV.out.keeps (keeps_put W w2.heap.size (.deferred none)) (by simp; omega)
  refine ⟨_, results_c1b rfl _ _ g rfl (hv.cell 0), ?_, HBW.out.trans (keeps_below (keeps_put W w2.heap.size _) HBW.out.size (fun x hx => by simp at hx; omega))⟩
  have hno : (splitL s.data.toList).all partOk = false := by
   have hf := HA.out
   obtain ⟨x, hx, hxn⟩ := List.all_eq_false.1 hf
   have hxm := hpre.subset hx
   obtain ⟨y, hy, rfl⟩ := List.mem_map.1 hxm
   rw [List.all_eq_false]
   exact ⟨y, hy, by simpa [mkB] using hxn⟩
  unfold nameB
  rw [hno]
  simp
 case done =>
  rintro W ⟨hv, ha, hB⟩ hD
  have HV := Lib.hid hv
  have HA := Lib.hid ha
  have HBW := Lib.hid hB
  clear hv ha hB
  gi_wp2
  refine ⟨trivial, rfl, ((callsIn_wide (n := 0)).2 (HC.out _)).mono ?_⟩
  rintro _ w5 ⟨i, rfl, hi, hb5⟩
  have h3 := HS2.out
  have h4 := HG.out
  have hvl := HV.out.lt
  have hv5 : Blk w5 g 4 [.bool false] := (hb5.block g hvl).trans HV.out
  have hD5 : w5.heap[w2.heap.size]? = some (.deferred (some [])) := (hb5.block _ (Array.getElem?_eq_some_iff.1 hD).1).trans hD
  have hc5 := hv5.cell 0
  simp only [List.getElem?_cons_zero] at hc5
  have hf5 := hv5.frozen 0
  have HV5 := Lib.hid hv5
  have HI := Lib.hid hi
  have HB5 := Lib.hid (HBW.out.trans (hb5.mono HBW.out.size))
  clear hv5 hi hb5 hvl h3 h4
  gi_wp2
  have h3 := HS2.out
  have h4 := HG.out
  have hne : w2.heap.size ≠ g := by omega
  have hD6 : (w5.setCell ⟨g, 0, none⟩ (.bool (decide (i < 0)))).heap[w2.heap.size]? = some (.deferred (some [])) := (Go.Deep.blk_setCell_other _ _ _ _ (by simpa using hne)).trans hD5
  refine ⟨by simp, .inl ⟨_, _, rfl, run_takeDeferred hD6, ?_⟩⟩
  have hv6 : Blk (w5.setCell ⟨g, 0, none⟩ (.bool (decide (i < 0)))) g 4 [.bool (decide (i < 0))] := HV5.out.set 0 _
  have hv7 := hv6.keeps (keeps_put _ w2.heap.size (.deferred none)) (by simp; omega)
  refine ⟨_, results_c1b rfl _ _ g rfl (hv7.cell 0), ?_, (HB5.out.setCell (p := ⟨g, 0, none⟩) (by simp; omega) _).trans (keeps_below (keeps_put _ w2.heap.size _) (by have := HB5.out.size; simpa [World.setCell] using this) (fun x hx => by simp at hx; omega))⟩
  have hyes : (splitL s.data.toList).all partOk = true := by
   rw [List.all_eq_true]
   intro y hy
   have := List.all_eq_true.1 HA.out (mkB y) (List.mem_map.2 ⟨y, hy, rfl⟩)
   simpa [mkB] using this
  unfold nameB
  rw [hyes, HI.out]
  simp; omega
 case body =>
  rintro pre x W a' W1 W2 ⟨hv, ha, hB⟩ hpl hsz ⟨rfl, rfl⟩ hk2
  have h3 := HS2.out
  have h4 := HG.out
  have hv2 := hv.keeps hk2 (by simp; omega)
  have hc := hv2.cell 0
  simp only [List.getElem?_cons_zero] at hc
  have hf := hv2.frozen 0
  have HV2 := Lib.hid hv2
  have HB2 := Lib.hid (hB.trans (keeps_below hk2 hB.size (fun z hz => by simp at hz; omega)))
  have HA := Lib.hid ha
  have hgw : g < W2.heap.size := hv2.lt
  have hxl : x.toList = x.data.toList := ByteArray.toList_eq x
  have BAD : partOk x.data.toList = false → endPostS (fun k => k = g + 2 ∨ k = g + 1 ∨ k = g + 3) w2.heap.size (fun pre W => Blk W g 4 [.bool false] ∧ pre.all (fun x => partOk x.data.toList) = true ∧ Below w.heap.size w W)
    (fun pre W => Blk W g 4 [.bool false] ∧ pre.all (fun x => partOk x.data.toList) = false ∧ Below w.heap.size w W) (pre ++ [x]) W2 Exit.ret { tmps := #[], defers := [] } (W2.setCell ⟨g, 0, none⟩ (.bool false)) := fun hb => by
   refine ⟨⟨HV2.out.set 0 _, by rw [List.all_append]; simp [hb], HB2.out.setCell (p := ⟨g, 0, none⟩) (by simp; omega) _⟩, by simp [World.setCell], fun j hj hj2 => ?_⟩
   refine Go.Deep.blk_setCell_other _ _ _ _ (fun e => ?_)
   have e : j = g := e
   omega
  have HBAD := Lib.hid BAD
  clear hv ha hB hpl hsz hk2 hv2 h3 h4 BAD
  by_cases q1 : x.data.toList = []
  ·have z1 : (x.toList == []) = true := by rw [hxl, q1]; rfl
   have z1' : x.toList.isEmpty = true := by rw [hxl, q1]; rfl
   have HP := Lib.hid (show partOk x.data.toList = false by rw [q1]; rfl)
   clear q1 hxl
   gi_wp2
   exact HBAD.out HP.out
  have z1 : (x.toList == []) = false := by rw [hxl]; simpa using q1
  have z1' : x.toList.isEmpty = false := by rw [hxl]; simpa using q1
  by_cases q2 : x.data.toList = [46]
  ·have z2 : (x.toList == [46]) = true := by rw [hxl, q2]; rfl
   have HP := Lib.hid (show partOk x.data.toList = false by rw [q2]; rfl)
   clear q1 q2 hxl
   gi_wp2
   exact HBAD.out HP.out
  have z2 : (x.toList == [46]) = false := by rw [hxl]; simpa using q2
  by_cases q3 : x.data.toList = [46, 46]
  ·have z3 : (x.toList == [46, 46]) = true := by rw [hxl, q3]; rfl
   have HP := Lib.hid (show partOk x.data.toList = false by rw [q3]; rfl)
   clear q1 q2 q3 hxl
   gi_wp2
   exact HBAD.out HP.out
  have z3 : (x.toList == [46, 46]) = false := by rw [hxl]; simpa using q3
  have HP := Lib.hid (show partOk x.data.toList = true by unfold partOk; rw [beq_eq_false_iff_ne.2 q1, beq_eq_false_iff_ne.2 q2, beq_eq_false_iff_ne.2 q3]; rfl)
  clear q1 q2 q3 hxl
  gi_wp2
  refine ⟨⟨HV2.out, ?_, HB2.out⟩, KeepsOn.of (Keeps.refl [] _) (by simp)⟩
  rw [List.all_append, HA.out]
  simp [HP.out]
end Go.Proofs.YtghjlpechjggjaaGreatDoor
namespace Go.Proofs.YtghjlpechjggjaaGreatDoor
open Go.RowKit
instance decMemBA (s : ByteArray) (l : List ByteArray) : Decidable (s ∈ l) :=
 if h : l.any (fun k => decide (k = s)) = true then isTrue (by
  obtain ⟨x, hx, he⟩ := List.any_eq_true.1 h
  exact of_decide_eq_true he ▸ hx) else isFalse (fun hm => h (List.any_eq_true.2 ⟨s, hm, decide_eq_true rfl⟩))
structure ZI where
 name : ByteArray
 size : Int
 packed : Int
 sum : Int
 way : Int
 deriving DecidableEq
structure ZP where
 x : ZI
 fro : Nat
def ZP.len (p : ZP) : Nat := p.x.packed.toNat
def zlong (xs : List Int) (rp : Nat) : Nat := (zget xs (rp + 28) 2).toNat
def zname (xs : List Int) (rp : Nat) : ByteArray := strOfNums (seg xs (rp + 46) (zlong xs rp))
def zinf (xs : List Int) (p : Nat) (name : ByteArray) : ZI := ⟨name, zget xs (p + 18) 4, zget xs (p + 14) 4, zget xs (p + 10) 4, zget xs (p + 4) 2⟩
def zrecI (xs : List Int) (rp : Nat) : ZI := zinf xs (rp + 6) (zname xs rp)
def ZRecF (xs : List Int) (en rp : Nat) : Prop :=
 rp + 46 ≤ en ∧ zget xs rp 4 = 33639248 ∧ zget xs (rp + 8) 2 = 0 ∧ zget xs (rp + 30) 2 = 0 ∧ zget xs (rp + 32) 2 = 0 ∧ zget xs (rp + 34) 2 = 0 ∧ rp + 46 + zlong xs rp ≤ en
instance (xs : List Int) (en rp : Nat) : Decidable (ZRecF xs en rp) := by unfold ZRecF; infer_instance
def ZHeadF (xs : List Int) (at_ : Nat) (x : ZI) : Prop :=
 zget xs at_ 4 = 67324752 ∧ zget xs (at_ + 6) 2 = 0 ∧ zget xs (at_ + 28) 2 = 0 ∧ zget xs (at_ + 26) 2 = x.name.size ∧ zinf xs (at_ + 4) (strOfNums (seg xs (at_ + 30) x.name.size)) = x
instance (xs : List Int) (at_ : Nat) (x : ZI) : Decidable (ZHeadF xs at_ x) := by unfold ZHeadF; infer_instance
def zwrong (xs : List Int) (first en rp at_ : Nat) (known : List ByteArray) : Int :=
 if ¬ ZRecF xs en rp then 81
 else if zname xs rp ∈ known ∨ nameB (zname xs rp) = false then 80
 else if ¬ ((zrecI xs rp).way = 0 ∨ (zrecI xs rp).way = 8) then 82
 else if 8192 < (zrecI xs rp).size ∨ 16384 < (zrecI xs rp).packed then 87
 else if ¬ (((zrecI xs rp).way = 8 ∨ (zrecI xs rp).size = (zrecI xs rp).packed) ∧ zget xs (rp + 42) 4 = at_ ∧ ((at_ + 30 + zlong xs rp : Nat) : Int) + (zrecI xs rp).packed ≤ first) then 81
 else if ¬ ZHeadF xs at_ (zrecI xs rp) then 81
 else 0
def zpiece1 (xs : List Int) (rp at_ : Nat) : ZP := ⟨zrecI xs rp, at_ + 30 + zlong xs rp⟩
def znames (l : List ZP) : List ByteArray := l.map fun p => p.x.name
def zloop (xs : List Int) (first en : Nat) : Nat → Nat → Nat → List ZP → Int × List ZP
 | 0, rp, at_, acc => if rp = en ∧ at_ = first then (0, acc) else (81, [])
 | n + 1, rp, at_, acc =>
  if zwrong xs first en rp at_ (znames acc) = 0 then
   zloop xs first en n (rp + 46 + zlong xs rp) (at_ + 30 + zlong xs rp + (zrecI xs rp).packed.toNat) (acc ++ [zpiece1 xs rp at_])
  else (zwrong xs first en rp at_ (znames acc), [])
def ZEnd (xs : List Int) (en : Nat) : Prop :=
 zget xs en 4 = 101010256 ∧ zget xs (en + 4) 2 = 0 ∧ zget xs (en + 6) 2 = 0 ∧ zget xs (en + 8) 2 = zget xs (en + 10) 2 ∧ zget xs (en + 16) 4 + zget xs (en + 12) 4 = en ∧ zget xs (en + 20) 2 = 0
instance (xs : List Int) (en : Nat) : Decidable (ZEnd xs en) := by unfold ZEnd; infer_instance
def zmany (xs : List Int) : Nat := (zget xs (xs.length - 22 + 8) 2).toNat
def zfirst (xs : List Int) : Nat := (zget xs (xs.length - 22 + 16) 4).toNat
def zpieces (xs : List Int) : Int × List ZP :=
 if 1048576 < xs.length then (2, [])
 else if xs.length < 22 then (81, [])
 else if ¬ ZEnd xs (xs.length - 22) then (81, [])
 else if 64 < zmany xs then (86, [])
 else zloop xs (zfirst xs) (xs.length - 22) (zmany xs) (zfirst xs) 0 []
def zdata (xs : List Int) (p : ZP) : List Int × Int :=
 if p.x.way = 8 then
  if (inflR (seg xs p.fro p.len) p.x.size).2.2 ≠ 0 ∨ (inflR (seg xs p.fro p.len) p.x.size).2.1 ≠ p.len ∨ ((inflR (seg xs p.fro p.len) p.x.size).1.length : Int) ≠ p.x.size then ([], 84)
  else if ((crcF (inflR (seg xs p.fro p.len) p.x.size).1 : Nat) : Int) ≠ p.x.sum then ([], 83) else ((inflR (seg xs p.fro p.len) p.x.size).1, 0)
 else if ((crcF (seg xs p.fro p.len) : Nat) : Int) ≠ p.x.sum then ([], 83) else (seg xs p.fro p.len, 0)
def zdatas (xs : List Int) : List ZP → List (ByteArray × ByteArray) → List (ByteArray × ByteArray) × Int
 | [], acc => (acc, 0)
 | p :: l, acc => if (zdata xs p).2 = 0 then zdatas xs l (acc ++ [(p.x.name, strOfNums (zdata xs p).1)]) else ([], (zdata xs p).2)
def zread (xs : List Int) : List (ByteArray × ByteArray) × Int := if (zpieces xs).1 = 0 then zdatas xs (zpieces xs).2 [] else ([], (zpieces xs).1)
def zfindL (xs : List Int) (name : ByteArray) : List ZP → List Int × Int
 | [] => ([], 85)
 | p :: l => if p.x.name = name then zdata xs p else zfindL xs name l
def zfind (xs : List Int) (name : ByteArray) : List Int × Int := if (zpieces xs).1 = 0 then zfindL xs name (zpieces xs).2 else ([], (zpieces xs).1)
theorem zloop_ok {xs : List Int} {first en : Nat} (hnn : ∀ rp, 0 ≤ (zrecI xs rp).packed) : ∀ {n rp at_ : Nat} {acc l : List ZP}, zloop xs first en n rp at_ acc = (0, l) → ∀ p ∈ l, p ∈ acc ∨ (p.fro + p.len ≤ first ∧ nameB p.x.name = true ∧ (p.x.way = 0 ∨ p.x.way = 8) ∧ p.x.size ≤ 8192 ∧ p.x.packed ≤ 16384 ∧ ∃ rp at_, p = zpiece1 xs rp at_)
 | 0, rp, at_, acc, l, h, p, hp => by
  rw [zloop] at h
  split at h
  ·injection h with h1 h2; subst h2; exact .inl hp
  ·injection h with h1 h2; cases h1
 | n + 1, rp, at_, acc, l, h, p, hp => by
  rw [zloop] at h
  split at h
  ·rename_i h0
   rcases zloop_ok hnn h p hp with h | h
   ·rcases List.mem_append.1 h with h | h
    ·exact .inl h
    ·rw [List.mem_singleton] at h
     subst h
     unfold zwrong at h0
     split at h0; · omega
     split at h0; · omega
     split at h0; · omega
     split at h0; · omega
     split at h0; · omega
     split at h0; · omega
     rename_i a1 a2 a3 a4 a5 a6
     simp only [Classical.not_not] at a5
     obtain ⟨-, -, b3⟩ := a5
     refine .inr ⟨?_, ?_, Classical.not_not.1 a3, by show (zrecI xs rp).size ≤ 8192; omega, by show (zrecI xs rp).packed ≤ 16384; omega, _, _, rfl⟩
     ·show at_ + 30 + zlong xs rp + (zrecI xs rp).packed.toNat ≤ first
      have := hnn rp
      omega
     ·show nameB (zname xs rp) = true
      cases hq : nameB (zname xs rp) with
      | true => rfl
      | false => exact absurd (.inr hq) a2
   ·exact .inr h
  ·injection h with h1 h2; contradiction
end Go.Proofs.YtghjlpechjggjaaGreatDoor
namespace Go.Proofs.YtghjlpechjggjaaGreatDoor
open Go.RowKit
theorem nameB_len {s : ByteArray} (h : nameB s = true) : 1 ≤ s.size ∧ s.size ≤ 64 := by
 unfold nameB at h
 rw [Bool.and_eq_true] at h
 exact of_decide_eq_true h.1
theorem seg_right (A B : List Int) {j k n : Nat} (hj : j = A.length + k) : seg (A ++ B) j n = seg B k n := by
 subst hj
 unfold seg
 rw [List.take_append, List.drop_append, List.take_of_length_le (by omega), List.drop_eq_nil_of_le (by omega), List.nil_append]
 congr 1
 ·omega
 ·congr 1; omega
theorem seg_left (A B : List Int) {k n : Nat} (h : k + n ≤ A.length) : seg (A ++ B) k n = seg A k n := by
 unfold seg
 rw [List.take_append, show k + n - A.length = 0 by omega, List.take_zero, List.append_nil]
theorem seg_whole (A B : List Int) {n : Nat} (h : A.length = n) : seg (A ++ B) 0 n = A := by
 rw [seg_left A B (by omega)]
 unfold seg; rw [Nat.zero_add, List.drop_zero, List.take_of_length_le (by omega)]
theorem zget_right (A B : List Int) {j k n : Nat} (hj : j = A.length + k) : zget (A ++ B) j n = zget B k n := by unfold zget; rw [seg_right A B hj]
theorem zleB_cons (v : Int) (k : Nat) : zleB v (k + 1) = v % 256 :: zleB (v / 256) k := by
 unfold zleB
 rw [List.range_succ_eq_map, List.map_cons, List.map_map]
 simp only [Int.pow_zero, Int.ediv_one, List.cons.injEq, true_and]
 apply List.map_congr_left
 intro i _
 simp only [Function.comp, Int.pow_succ]
 rw [Int.mul_comm, ← Int.ediv_ediv_of_nonneg (by decide)]
theorem leI_zleB (k : Nat) : ∀ v : Int, leI (zleB v k) = v % 256 ^ k := by
 induction k with
 | zero => intro v; simp [zleB, leI, Int.emod_one]
 | succ k ih =>
  intro v
  rw [zleB_cons, leI, ih, Int.pow_succ]
  have h1 := Int.emod_emod_of_dvd v (show (256 : Int) ∣ 256 ^ k * 256 from ⟨256 ^ k, by rw [Int.mul_comm]⟩)
  have h2 : v % (256 ^ k * 256) / 256 = v / 256 % 256 ^ k := by
   have e : v / (256 ^ k * 256) = v / 256 / 256 ^ k := by rw [Int.mul_comm, ← Int.ediv_ediv_of_nonneg (by decide)]
   rw [Int.emod_def, Int.emod_def (v / 256), e, Int.mul_comm (256 ^ k) 256, Int.mul_assoc]
   omega
  omega
theorem zget_hit (v : Int) (B : List Int) {k : Nat} (h0 : 0 ≤ v) (h1 : v < 256 ^ k) : zget (zleB v k ++ B) 0 k = v := by
 unfold zget; rw [seg_whole _ _ (zleB_len v k), leI_zleB, Int.emod_eq_of_lt h0 h1]
theorem zget_skip (v : Int) (B : List Int) {j k n : Nat} (h : k ≤ j) : zget (zleB v k ++ B) j n = zget B (j - k) n := zget_right _ _ (by rw [zleB_len]; omega)
theorem zles_cons (k : Nat) (v : Int) (l : List Int) : zlesB k (v :: l) = zleB v k ++ zlesB k l := rfl
theorem zles_nil (k : Nat) : zlesB k [] = [] := rfl
theorem shared_get (way sum bl dl nl : Int) (Z : List Int) (h0 : 0 ≤ way ∧ way < 65536) (h1 : 0 ≤ sum ∧ sum < 4294967296) (h2 : 0 ≤ bl ∧ bl < 4294967296) (h3 : 0 ≤ dl ∧ dl < 4294967296) (h4 : 0 ≤ nl ∧ nl < 65536) :
  zget (sharedB way sum bl dl nl ++ Z) 2 2 = 0 ∧ zget (sharedB way sum bl dl nl ++ Z) 4 2 = way ∧ zget (sharedB way sum bl dl nl ++ Z) 10 4 = sum ∧ zget (sharedB way sum bl dl nl ++ Z) 14 4 = bl ∧ zget (sharedB way sum bl dl nl ++ Z) 18 4 = dl ∧
   zget (sharedB way sum bl dl nl ++ Z) 22 2 = nl ∧ zget (sharedB way sum bl dl nl ++ Z) 24 2 = 0 ∧ ∀ j n, zget (sharedB way sum bl dl nl ++ Z) (26 + j) n = zget Z j n := by
 simp only [sharedB, zles_cons, zles_nil, List.append_assoc, List.nil_append]
 refine ⟨?_, ?_, ?_, ?_, ?_, ?_, ?_, ?_⟩
 ·rw [zget_skip _ _ (by omega), zget_hit _ _ (by omega) (by omega)]
 ·rw [zget_skip _ _ (by omega), zget_skip _ _ (by omega), zget_hit _ _ (by omega) (by omega)]
 ·iterate 5 rw [zget_skip _ _ (by omega)]
  rw [zget_hit _ _ (by omega) (by omega)]
 ·iterate 6 rw [zget_skip _ _ (by omega)]
  rw [zget_hit _ _ (by omega) (by omega)]
 ·iterate 7 rw [zget_skip _ _ (by omega)]
  rw [zget_hit _ _ (by omega) (by omega)]
 ·iterate 8 rw [zget_skip _ _ (by omega)]
  rw [zget_hit _ _ (by omega) (by omega)]
 ·iterate 9 rw [zget_skip _ _ (by omega)]
  rw [zget_hit _ _ (by omega) (by omega)]
 ·intro j n
  iterate 10 rw [zget_skip _ _ (by omega)]
  congr 1
  omega
structure ZG where
 x : ZI
 body : List Int
def ZG.piece (e : ZG) : List Int := (zlesB 4 [67324752] ++ sharedB e.x.way e.x.sum e.x.packed e.x.size e.x.name.size) ++ (sb e.x.name ++ e.body)
def ZG.recd (e : ZG) (at_ : Nat) : List Int := zlesB 4 [33639248] ++ (zlesB 2 [20] ++ (sharedB e.x.way e.x.sum e.x.packed e.x.size e.x.name.size ++ (zlesB 2 [0, 0, 0] ++ (zlesB 4 [0, (at_ : Int)] ++ sb e.x.name))))
structure ZG.Ok (e : ZG) : Prop where
 name : nameB e.x.name = true
 way : e.x.way = 0 ∨ e.x.way = 8
 size : 0 ≤ e.x.size ∧ e.x.size ≤ 8192
 packed : e.x.packed = e.body.length ∧ e.x.packed ≤ 8192
 sum : 0 ≤ e.x.sum ∧ e.x.sum < 4294967296
 same : e.x.way = 8 ∨ e.x.size = e.x.packed
theorem ZG.piece_len (e : ZG) : e.piece.length = 30 + e.x.name.size + e.body.length := by
 unfold ZG.piece
 simp only [List.length_append, zlesB_len, sharedB_len, sb_len, List.length_cons, List.length_nil]
 omega
theorem ZG.recd_len (e : ZG) (a : Nat) : (e.recd a).length = 46 + e.x.name.size := by
 unfold ZG.recd
 simp only [List.length_append, zlesB_len, sharedB_len, sb_len, List.length_cons, List.length_nil]
 omega
theorem ZG.head_at (e : ZG) (he : e.Ok) (A Z : List Int) : ZHeadF (A ++ (e.piece ++ Z)) A.length e.x ∧ seg (A ++ (e.piece ++ Z)) (A.length + 30 + e.x.name.size) e.body.length = e.body := by
 have hn := nameB_len he.name
 have hd := he.size
 have hb := he.packed
 have hw := he.way
 have hc := he.sum
 have X : e.piece ++ Z = zleB 67324752 4 ++ (sharedB e.x.way e.x.sum e.x.packed e.x.size e.x.name.size ++ (sb e.x.name ++ (e.body ++ Z))) := by
  simp only [ZG.piece, zles_cons, zles_nil, List.append_assoc, List.nil_append, List.append_nil]
 obtain ⟨g1, g2, g3, g4, g5, g6, g7, g8⟩ := shared_get e.x.way e.x.sum e.x.packed e.x.size e.x.name.size (sb e.x.name ++ (e.body ++ Z)) (by omega) (by omega) (by omega) (by omega) (by omega)
 have k : ∀ j n, zget (A ++ (e.piece ++ Z)) (A.length + (4 + j)) n = zget (sharedB e.x.way e.x.sum e.x.packed e.x.size e.x.name.size ++ (sb e.x.name ++ (e.body ++ Z))) j n := by
  intro j n
  rw [zget_right _ _ rfl, X, zget_skip _ _ (by omega)]
  congr 1; omega
 have s : ∀ j n, seg (A ++ (e.piece ++ Z)) (A.length + (30 + j)) n = seg (sb e.x.name ++ (e.body ++ Z)) j n := by
  intro j n
  rw [seg_right _ _ rfl, X, seg_right (k := 26 + j) _ _ (by rw [zleB_len]; omega), seg_right (k := j) _ _ (by rw [sharedB_len])]
 refine ⟨⟨?_, ?_, ?_, ?_, ?_⟩, ?_⟩
 ·rw [zget_right (j := A.length) (k := 0) _ _ rfl, X, zget_hit _ _ (by omega) (by omega)]
 ·exact (k 2 2).trans g1
 ·exact (k 24 2).trans g7
 ·exact (k 22 2).trans g6
 ·have e1 := (k 18 4).trans g5
  have e2 := (k 14 4).trans g4
  have e3 := (k 10 4).trans g3
  have e4 := (k 4 2).trans g2
  have e5 : strOfNums (seg (A ++ (e.piece ++ Z)) (A.length + 30) e.x.name.size) = e.x.name := by
   show strOfNums (seg (A ++ (e.piece ++ Z)) (A.length + (30 + 0)) e.x.name.size) = e.x.name
   rw [s, seg_whole _ _ (sb_len _)]
   exact strOf_sb _
  unfold zinf
  rw [e5, show A.length + 4 + 18 = A.length + (4 + 18) from rfl, show A.length + 4 + 14 = A.length + (4 + 14) from rfl, show A.length + 4 + 10 = A.length + (4 + 10) from rfl, show A.length + 4 + 4 = A.length + (4 + 4) from rfl, e1, e2, e3, e4]
 ·rw [Nat.add_assoc, s, seg_right (k := 0) _ _ (by rw [sb_len]; rfl), seg_whole _ _ rfl]
theorem ZG.rec_at (e : ZG) (he : e.Ok) (A Z : List Int) (at_ : Nat) (ha : at_ < 4294967296) :
  zget (A ++ (e.recd at_ ++ Z)) A.length 4 = 33639248 ∧ zget (A ++ (e.recd at_ ++ Z)) (A.length + 8) 2 = 0 ∧ zget (A ++ (e.recd at_ ++ Z)) (A.length + 30) 2 = 0 ∧ zget (A ++ (e.recd at_ ++ Z)) (A.length + 32) 2 = 0 ∧ zget (A ++ (e.recd at_ ++ Z)) (A.length + 34) 2 = 0 ∧
   zlong (A ++ (e.recd at_ ++ Z)) A.length = e.x.name.size ∧ zrecI (A ++ (e.recd at_ ++ Z)) A.length = e.x ∧ zget (A ++ (e.recd at_ ++ Z)) (A.length + 42) 4 = at_ := by
 have hn := nameB_len he.name
 have hd := he.size
 have hb := he.packed
 have hw := he.way
 have hc := he.sum
 have X : e.recd at_ ++ Z = zleB 33639248 4 ++ (zleB 20 2 ++ (sharedB e.x.way e.x.sum e.x.packed e.x.size e.x.name.size ++ (zleB 0 2 ++ (zleB 0 2 ++ (zleB 0 2 ++ (zleB 0 4 ++ (zleB at_ 4 ++ (sb e.x.name ++ Z)))))))) := by
  simp only [ZG.recd, zles_cons, zles_nil, List.append_assoc, List.nil_append, List.append_nil]
 obtain ⟨g1, g2, g3, g4, g5, g6, g7, g8⟩ := shared_get e.x.way e.x.sum e.x.packed e.x.size e.x.name.size (zleB 0 2 ++ (zleB 0 2 ++ (zleB 0 2 ++ (zleB 0 4 ++ (zleB at_ 4 ++ (sb e.x.name ++ Z)))))) (by omega) (by omega) (by omega) (by omega) (by omega)
 have k : ∀ j n, zget (A ++ (e.recd at_ ++ Z)) (A.length + (6 + j)) n = zget (sharedB e.x.way e.x.sum e.x.packed e.x.size e.x.name.size ++ (zleB 0 2 ++ (zleB 0 2 ++ (zleB 0 2 ++ (zleB 0 4 ++ (zleB at_ 4 ++ (sb e.x.name ++ Z))))))) j n := by
  intro j n
  rw [zget_right _ _ rfl, X, zget_skip _ _ (by omega), zget_skip _ _ (by omega)]
  congr 1; omega
 have k2 : ∀ j n, zget (A ++ (e.recd at_ ++ Z)) (A.length + (32 + j)) n = zget (zleB 0 2 ++ (zleB 0 2 ++ (zleB 0 2 ++ (zleB 0 4 ++ (zleB at_ 4 ++ (sb e.x.name ++ Z)))))) j n := by
  intro j n
  rw [show A.length + (32 + j) = A.length + (6 + (26 + j)) by omega, k, g8]
 have s : seg (A ++ (e.recd at_ ++ Z)) (A.length + 46) e.x.name.size = sb e.x.name := by
  rw [seg_right _ _ rfl, X, seg_right (k := 42) _ _ (by rw [zleB_len]), seg_right (k := 40) _ _ (by rw [zleB_len]), seg_right (k := 14) _ _ (by rw [sharedB_len]), seg_right (k := 12) _ _ (by rw [zleB_len]),
   seg_right (k := 10) _ _ (by rw [zleB_len]), seg_right (k := 8) _ _ (by rw [zleB_len]), seg_right (k := 4) _ _ (by rw [zleB_len]), seg_right (k := 0) _ _ (by rw [zleB_len]), seg_whole _ _ (sb_len _)]
 have hl : zlong (A ++ (e.recd at_ ++ Z)) A.length = e.x.name.size := by
  have := (k 22 2).trans g6
  unfold zlong
  rw [show A.length + 28 = A.length + (6 + 22) from rfl, this]
  omega
 refine ⟨?_, (k 2 2).trans g1, (k 24 2).trans g7, ?_, ?_, hl, ?_, ?_⟩
 ·rw [zget_right (j := A.length) (k := 0) _ _ rfl, X, zget_hit _ _ (by omega) (by omega)]
 ·exact (k2 0 2).trans (zget_hit _ _ (by omega) (by omega))
 ·refine (k2 2 2).trans ?_
  rw [zget_skip _ _ (by omega), zget_hit _ _ (by omega) (by omega)]
 ·have e1 := (k 18 4).trans g5
  have e2 := (k 14 4).trans g4
  have e3 := (k 10 4).trans g3
  have e4 := (k 4 2).trans g2
  unfold zrecI zinf zname
  rw [hl, s, strOf_sb, show A.length + 6 + 18 = A.length + (6 + 18) from rfl, show A.length + 6 + 14 = A.length + (6 + 14) from rfl, show A.length + 6 + 10 = A.length + (6 + 10) from rfl, show A.length + 6 + 4 = A.length + (6 + 4) from rfl, e1, e2, e3, e4]
 ·refine (k2 10 4).trans ?_
  iterate 4 rw [zget_skip _ _ (by omega)]
  rw [zget_hit _ _ (by omega) (by omega)]
def zPs (l : List ZG) : List Int := l.flatMap ZG.piece
def zRs : Nat → List ZG → List Int
 | _, [] => []
 | a, e :: l => e.recd a ++ zRs (a + e.piece.length) l
def zpcs : Nat → List ZG → List ZP
 | _, [] => []
 | a, e :: l => ⟨e.x, a + 30 + e.x.name.size⟩ :: zpcs (a + e.piece.length) l
def zendB (n r p : Int) : List Int := zlesB 4 [101010256] ++ (zlesB 2 [0, 0, n, n] ++ (zlesB 4 [r, p] ++ zlesB 2 [0]))
theorem zendB_len (n r p : Int) : (zendB n r p).length = 22 := by simp [zendB, zlesB_len]
def zfileB (l : List ZG) : List Int := zPs l ++ (zRs 0 l ++ zendB l.length (zRs 0 l).length (zPs l).length)
theorem zwrong_ok (e : ZG) (he : e.Ok) (A Z B W : List Int) (first en rp at_ : Nat) (known : List ByteArray) (hx : A ++ (e.piece ++ Z) = B ++ (e.recd at_ ++ W)) (hrp : rp = B.length) (hat : at_ = A.length) (hen : rp + 46 + e.x.name.size ≤ en) (hf : at_ + e.piece.length ≤ first)
  (h32 : at_ < 4294967296) (hk : e.x.name ∉ known) : zwrong (A ++ (e.piece ++ Z)) first en rp at_ known = 0 ∧ zlong (A ++ (e.piece ++ Z)) rp = e.x.name.size ∧ zrecI (A ++ (e.piece ++ Z)) rp = e.x := by
 obtain ⟨h1, -⟩ := e.head_at he A Z
 obtain ⟨r1, r2, r3, r4, r5, r6, r7, r8⟩ := e.rec_at he B W at_ h32
 rw [← hx, ← hrp] at r1 r2 r3 r4 r5 r6 r7 r8
 have hn : zname (A ++ (e.piece ++ Z)) rp = e.x.name := congrArg ZI.name r7
 have hpl := e.piece_len
 have hb := he.packed
 have hd := he.size
 have hw := he.way
 refine ⟨?_, r6, r7⟩
 rw [hat] at r8 hf ⊢
 unfold zwrong
 rw [hn, r7, if_neg (fun h => h ⟨by omega, r1, r2, r3, r4, r5, by rw [r6]; exact hen⟩), if_neg (fun h => by
  rcases h with h | h
  ·exact hk h
  ·rw [he.name] at h; cases h), if_neg (fun h => h hw), if_neg (fun h => by
   omega), if_neg (fun h => h ⟨he.same, r8, by
     rw [r6]
     omega⟩), if_neg (fun h => h h1)]
theorem zPs_cons (e : ZG) (l : List ZG) : zPs (e :: l) = e.piece ++ zPs l := rfl
theorem zRs_cons (e : ZG) (l : List ZG) (a : Nat) : zRs a (e :: l) = e.recd a ++ zRs (a + e.piece.length) l := rfl
theorem zloop_file : ∀ (l : List ZG) (A B E : List Int) (first en rp at_ : Nat) (acc : List ZP), (∀ e ∈ l, e.Ok) → (∀ e ∈ l, e.x.name ∉ znames acc) → (l.map (fun e : ZG => e.x.name)).Nodup → at_ = A.length → first = A.length + (zPs l).length → rp = first + B.length →
  en = rp + (zRs at_ l).length → first < 4294967296 → zloop (A ++ (zPs l ++ (B ++ (zRs at_ l ++ E)))) first en l.length rp at_ acc = (0, acc ++ zpcs at_ l)
 | [], A, B, E, first, en, rp, at_, acc, _, _, _, h1, h2, h3, h4, _ => by
  simp only [zPs, List.flatMap_nil, List.length_nil, zRs] at h2 h4
  rw [List.length_nil, zloop, if_pos ⟨by omega, by omega⟩, zpcs, List.append_nil]
 | e :: l, A, B, E, first, en, rp, at_, acc, hok, hnew, hnd, h1, h2, h3, h4, h5 => by
  have he := hok e List.mem_cons_self
  have hpl := e.piece_len
  have hrl := e.recd_len at_
  rw [zPs_cons] at h2 ⊢
  rw [zRs_cons] at h4 ⊢
  rw [List.length_append] at h2 h4
  have X : A ++ ((e.piece ++ zPs l) ++ (B ++ ((e.recd at_ ++ zRs (at_ + e.piece.length) l) ++ E))) = A ++ (e.piece ++ (zPs l ++ (B ++ (e.recd at_ ++ (zRs (at_ + e.piece.length) l ++ E))))) := by simp only [List.append_assoc]
  have Y : A ++ (e.piece ++ (zPs l ++ (B ++ (e.recd at_ ++ (zRs (at_ + e.piece.length) l ++ E))))) = (A ++ (e.piece ++ (zPs l ++ B))) ++ (e.recd at_ ++ (zRs (at_ + e.piece.length) l ++ E)) := by simp only [List.append_assoc]
  have V : A ++ (e.piece ++ (zPs l ++ (B ++ (e.recd at_ ++ (zRs (at_ + e.piece.length) l ++ E))))) = (A ++ e.piece) ++ (zPs l ++ ((B ++ e.recd at_) ++ (zRs (at_ + e.piece.length) l ++ E))) := by simp only [List.append_assoc]
  obtain ⟨w0, w1, w2⟩ := zwrong_ok e he A _ (A ++ (e.piece ++ (zPs l ++ B))) _ first en rp at_ (znames acc) Y (by simp only [List.length_append]; omega) h1 (by omega) (by omega) (by omega) (hnew e List.mem_cons_self)
  rw [X, List.length_cons, zloop, if_pos w0]
  have e1 : zpiece1 (A ++ (e.piece ++ (zPs l ++ (B ++ (e.recd at_ ++ (zRs (at_ + e.piece.length) l ++ E)))))) rp at_ = ⟨e.x, at_ + 30 + e.x.name.size⟩ := by unfold zpiece1; rw [w1, w2]
  have e2 : e.x.packed.toNat = e.body.length := by rw [he.packed.1]; exact Int.toNat_natCast _
  rw [e1, w1, w2, e2, show at_ + 30 + e.x.name.size + e.body.length = at_ + e.piece.length by omega, V]
  rw [List.map_cons, List.nodup_cons] at hnd
  rw [zloop_file l (A ++ e.piece) (B ++ e.recd at_) E first en (rp + 46 + e.x.name.size) (at_ + e.piece.length) _ (fun x hx => hok x (List.mem_cons_of_mem _ hx)) (fun x hx hm => by
   unfold znames at hm
   rw [List.map_append, List.mem_append] at hm
   rcases hm with hm | hm
   ·exact hnew x (List.mem_cons_of_mem _ hx) hm
   ·rw [List.map_singleton, List.mem_singleton] at hm
    exact hnd.1 (List.mem_map.2 ⟨x, hx, hm⟩)) hnd.2 (by rw [List.length_append]; omega) (by rw [List.length_append]; omega) (by rw [List.length_append]; omega) (by omega) h5]
  rw [zpcs, List.append_assoc]; rfl
theorem zend_at (n r p : Int) (A : List Int) (hn : 0 ≤ n ∧ n < 65536) (hr : 0 ≤ r ∧ r < 4294967296) (hp : 0 ≤ p ∧ p < 4294967296) :
  zget (A ++ zendB n r p) A.length 4 = 101010256 ∧ zget (A ++ zendB n r p) (A.length + 4) 2 = 0 ∧ zget (A ++ zendB n r p) (A.length + 6) 2 = 0 ∧ zget (A ++ zendB n r p) (A.length + 8) 2 = n ∧ zget (A ++ zendB n r p) (A.length + 10) 2 = n ∧
   zget (A ++ zendB n r p) (A.length + 12) 4 = r ∧ zget (A ++ zendB n r p) (A.length + 16) 4 = p ∧ zget (A ++ zendB n r p) (A.length + 20) 2 = 0 := by
 have e : zendB n r p = zleB 101010256 4 ++ (zleB 0 2 ++ (zleB 0 2 ++ (zleB n 2 ++ (zleB n 2 ++ (zleB r 4 ++ (zleB p 4 ++ (zleB 0 2 ++ []))))))) := by
  simp only [zendB, zles_cons, zles_nil, List.append_assoc, List.nil_append, List.append_nil]
 rw [e]
 refine ⟨?_, ?_, ?_, ?_, ?_, ?_, ?_, ?_⟩
 ·rw [zget_right (j := A.length) (k := 0) _ _ rfl, zget_hit _ _ (by omega) (by omega)]
 ·rw [zget_right _ _ rfl, zget_skip _ _ (by omega), zget_hit _ _ (by omega) (by omega)]
 ·rw [zget_right _ _ rfl]; iterate 2 rw [zget_skip _ _ (by omega)]
  rw [zget_hit _ _ (by omega) (by omega)]
 ·rw [zget_right _ _ rfl]; iterate 3 rw [zget_skip _ _ (by omega)]
  rw [zget_hit _ _ (by omega) (by omega)]
 ·rw [zget_right _ _ rfl]; iterate 4 rw [zget_skip _ _ (by omega)]
  rw [zget_hit _ _ (by omega) (by omega)]
 ·rw [zget_right _ _ rfl]; iterate 5 rw [zget_skip _ _ (by omega)]
  rw [zget_hit _ _ (by omega) (by omega)]
 ·rw [zget_right _ _ rfl]; iterate 6 rw [zget_skip _ _ (by omega)]
  rw [zget_hit _ _ (by omega) (by omega)]
 ·rw [zget_right _ _ rfl]; iterate 7 rw [zget_skip _ _ (by omega)]
  rw [zget_hit _ _ (by omega) (by omega)]
structure ZOk (l : List ZG) : Prop where
 ok : ∀ e ∈ l, e.Ok
 nodup : (l.map (fun e : ZG => e.x.name)).Nodup
 len : l.length ≤ 64
theorem ps_len {l : List ZG} (h : ∀ e ∈ l, e.Ok) : (zPs l).length ≤ l.length * 8286 ∧ ∀ a, (zRs a l).length ≤ l.length * 110 := by
 induction l with
 | nil => exact ⟨by simp [zPs], fun a => by simp [zRs]⟩
 | cons e l ih =>
  obtain ⟨i1, i2⟩ := ih (fun x hx => h x (List.mem_cons_of_mem _ hx))
  have he := h e List.mem_cons_self
  have hn := nameB_len he.name
  have hd := he.size
  have hb := he.packed
  have hpl := e.piece_len
  refine ⟨by rw [zPs_cons, List.length_append, List.length_cons]; omega, fun a => ?_⟩
  have := i2 (a + e.piece.length)
  rw [zRs_cons, List.length_append, List.length_cons, e.recd_len]; omega
theorem zfile_len (l : List ZG) : (zfileB l).length = (zPs l).length + (zRs 0 l).length + 22 := by
 unfold zfileB; rw [List.length_append, List.length_append, zendB_len]; omega
theorem zfile_small {l : List ZG} (h : ZOk l) : (zfileB l).length ≤ 600000 := by
 have h1 := (ps_len h.ok).1
 have h2 := (ps_len h.ok).2 0
 have h3 := h.len
 rw [zfile_len]
 omega
theorem zfile_end {l : List ZG} (h : ZOk l) : ZEnd (zfileB l) ((zfileB l).length - 22) ∧ zmany (zfileB l) = l.length ∧ zfirst (zfileB l) = (zPs l).length := by
 have h1 := (ps_len h.ok).1
 have h2 := (ps_len h.ok).2 0
 have h3 := h.len
 have hl := zfile_len l
 have e : zfileB l = (zPs l ++ zRs 0 l) ++ zendB l.length (zRs 0 l).length (zPs l).length := by unfold zfileB; rw [List.append_assoc]
 obtain ⟨a1, a2, a3, a4, a5, a6, a7, a8⟩ := zend_at l.length (zRs 0 l).length (zPs l).length (zPs l ++ zRs 0 l) (by omega) (by omega) (by omega)
 rw [← e, List.length_append] at a1 a2 a3 a4 a5 a6 a7 a8
 unfold zmany zfirst
 rw [hl, show (zPs l).length + (zRs 0 l).length + 22 - 22 = (zPs l).length + (zRs 0 l).length by omega]
 refine ⟨⟨a1, a2, a3, a4.trans a5.symm, by rw [a6, a7]; omega, a8⟩, by rw [a4]; omega, by rw [a7]; omega⟩
theorem zpieces_file {l : List ZG} (h : ZOk l) : zpieces (zfileB l) = (0, zpcs 0 l) := by
 obtain ⟨e1, e2, e3⟩ := zfile_end h
 have hs := zfile_small h
 have hl := zfile_len l
 have h3 := h.len
 unfold zpieces
 rw [if_neg (by omega), if_neg (by omega), if_neg (fun x => x e1), e2, e3, if_neg (by omega)]
 have := zloop_file l [] [] (zendB l.length (zRs 0 l).length (zPs l).length) (zPs l).length ((zfileB l).length - 22) (zPs l).length 0 [] h.ok (fun _ _ => by simp [znames]) h.nodup rfl (by simp) (by simp) (by omega) (by omega)
 rw [List.nil_append, List.nil_append, List.nil_append] at this
 exact this
theorem zPs_take_succ (e : ZG) (l : List ZG) (n : Nat) : zPs ((e :: l).take (n + 1)) = e.piece ++ zPs (l.take n) := by rw [List.take_succ_cons, zPs_cons]
theorem seg_take {xs : List Int} {m j n : Nat} (h : j + n ≤ m) : seg (xs.take m) j n = seg xs j n := by
 unfold seg; rw [List.take_take, Nat.min_eq_left h]
theorem zget_take {xs : List Int} {m j n : Nat} (h : j + n ≤ m) : zget (xs.take m) j n = zget xs j n := by unfold zget; rw [seg_take h]
theorem strOf_size (xs : List Int) : (strOfNums xs).size = xs.length := strOfNums_size xs
theorem zwrong_zero {xs : List Int} {first en rp at_ : Nat} {known : List ByteArray} (h : zwrong xs first en rp at_ known = 0) :
  ZRecF xs en rp ∧ nameB (zname xs rp) = true ∧ ((zrecI xs rp).way = 0 ∨ (zrecI xs rp).way = 8) ∧ (zrecI xs rp).size ≤ 8192 ∧ (zrecI xs rp).packed ≤ 16384 ∧ ((at_ + 30 + zlong xs rp : Nat) : Int) + (zrecI xs rp).packed ≤ first ∧ ZHeadF xs at_ (zrecI xs rp) ∧ zname xs rp ∉ known := by
 unfold zwrong at h
 split at h; · omega
 split at h; · omega
 split at h; · omega
 split at h; · omega
 split at h; · omega
 split at h; · omega
 rename_i a1 a2 a3 a4 a5 a6
 simp only [Classical.not_not] at a1 a3 a5 a6
 refine ⟨a1, ?_, a3, by omega, by omega, a5.2.2, a6, fun h => a2 (.inl h)⟩
 cases hq : nameB (zname xs rp) with
 | true => rfl
 | false => exact absurd (.inr hq) a2
theorem zcut_loop (xs xs' : List Int) (m first en : Nat) (hm : xs' = xs.take m) (hml : xs'.length = m) (hfe : first ≤ en) (hem : en ≤ m) (hnn : ∀ rp, 0 ≤ (zrecI xs' rp).packed) : ∀ (l : List ZG) (n : Nat) (A R : List Int) (rp at_ : Nat) (acc l' : List ZP), (∀ e ∈ l, e.Ok) → xs = A ++ (zPs l ++ R) → zget R 0 4 ≠ 67324752 → at_ = A.length →
  zloop xs' first en n rp at_ acc = (0, l') → n ≤ l.length ∧ first = at_ + (zPs (l.take n)).length ∧ en = rp + (zRs at_ (l.take n)).length
 | l, 0, A, R, rp, at_, acc, l', hok, hx, hR, ha, h => by
  rw [zloop] at h
  split at h
  ·rename_i hq
   refine ⟨Nat.zero_le _, ?_, ?_⟩
   ·rw [List.take_zero, zPs, List.flatMap_nil, List.length_nil]; omega
   ·rw [List.take_zero, zRs, List.length_nil]; omega
  ·injection h with h1 h2; cases h1
 | l, n + 1, A, R, rp, at_, acc, l', hok, hx, hR, ha, h => by
  rw [zloop] at h
  split at h
  ·rename_i hw
   obtain ⟨q1, q2, q3, q4, q5, q6, q7, -⟩ := zwrong_zero hw
   have hpk := hnn rp
   obtain ⟨b1, b2, b3, b4, b5⟩ := q7
   have hz : zget xs' at_ 4 = zget xs at_ 4 := by rw [hm]; exact zget_take (by omega)
   cases l with
   | nil =>
    exfalso
    rw [hz, hx, zget_right (k := 0) _ _ (by omega), zPs, List.flatMap_nil, List.nil_append] at b1
    exact hR b1
   | cons e l =>
    have he := hok e List.mem_cons_self
    have hX : xs = A ++ (e.piece ++ (zPs l ++ R)) := by rw [hx, zPs_cons]; simp only [List.append_assoc]
    obtain ⟨⟨c1, c2, c3, c4, c5⟩, -⟩ := e.head_at he A (zPs l ++ R)
    rw [← hX, ← ha] at c1 c2 c3 c4 c5
    have hnl : (zname xs' rp).size = zlong xs' rp := by
     unfold zname
     rw [strOf_size, seg_len (by rw [hml]; have := q1.2.2.2.2.2.2; omega)]
    have hnm : (zrecI xs' rp).name.size = e.x.name.size := by
     have : zget xs' (at_ + 26) 2 = zget xs (at_ + 26) 2 := by rw [hm]; exact zget_take (by omega)
     rw [this, c4] at b4
     omega
    have hnz : zlong xs' rp = e.x.name.size := by rw [← hnl]; exact hnm
    have hpp : (zrecI xs' rp).packed = e.x.packed := by
     have e1 : (zinf xs' (at_ + 4) (strOfNums (seg xs' (at_ + 30) (zrecI xs' rp).name.size))).packed = (zrecI xs' rp).packed := by rw [b5]
     have e2 : (zinf xs (at_ + 4) (strOfNums (seg xs (at_ + 30) e.x.name.size))).packed = e.x.packed := by rw [c5]
     rw [← e1, ← e2]
     show zget xs' (at_ + 4 + 14) 4 = zget xs (at_ + 4 + 14) 4
     rw [hm]; exact zget_take (by omega)
    have hpb : e.x.packed.toNat = e.body.length := by rw [he.packed.1]; exact Int.toNat_natCast _
    rw [hnz, hpp, hpb] at h
    have hpl := e.piece_len
    have hrl := e.recd_len at_
    obtain ⟨r1, r2, r3⟩ := zcut_loop xs xs' m first en hm hml hfe hem hnn l n (A ++ e.piece) R (rp + 46 + e.x.name.size) (at_ + 30 + e.x.name.size + e.body.length) _ l' (fun x hx => hok x (List.mem_cons_of_mem _ hx)) (by rw [hX, List.append_assoc]) hR (by rw [List.length_append]; omega) h
    refine ⟨by rw [List.length_cons]; omega, ?_, ?_⟩
    ·rw [zPs_take_succ, List.length_append]; omega
    ·rw [List.take_succ_cons, zRs_cons, List.length_append, hrl, show at_ + e.piece.length = at_ + 30 + e.x.name.size + e.body.length by omega]; omega
  ·injection h with h1 h2; contradiction
theorem zPs_head {l : List ZG} (e : ZG) (he : e.Ok) (A Z : List Int) : zget (A ++ (zPs (e :: l) ++ Z)) A.length 4 = 67324752 := by
 rw [zPs_cons, List.append_assoc]
 exact (e.head_at he A _).1.1
theorem zpieces_zero {xs : List Int} (h : (zpieces xs).1 = 0) : xs.length ≤ 1048576 ∧ 22 ≤ xs.length ∧ ZEnd xs (xs.length - 22) ∧ zmany xs ≤ 64 ∧ zpieces xs = zloop xs (zfirst xs) (xs.length - 22) (zmany xs) (zfirst xs) 0 [] := by
 unfold zpieces at h ⊢
 split at h; · cases h
 split at h; · cases h
 split at h; · cases h
 split at h; · cases h
 rename_i a1 a2 a3 a4
 refine ⟨by omega, by omega, Classical.not_not.1 a3, by omega, ?_⟩
 rw [if_neg a1, if_neg a2, if_neg a3, if_neg a4]
theorem zcut {l : List ZG} (h : ZOk l) {m : Nat} (hm : m < (zfileB l).length) (hnn : ∀ p n, 0 ≤ zget ((zfileB l).take m) p n) : (zpieces ((zfileB l).take m)).1 ≠ 0 := by
 intro h0
 obtain ⟨z1, z2, z3, z4, z5⟩ := zpieces_zero h0
 have hl : ((zfileB l).take m).length = m := by rw [List.length_take]; omega
 rw [hl] at z1 z2 z3 z5
 obtain ⟨t1, t2, t3, t4, t5, t6⟩ := z3
 have p1 := hnn (m - 22 + 16) 4
 have p2 := hnn (m - 22 + 12) 4
 have hfz : zfirst ((zfileB l).take m) = (zget ((zfileB l).take m) (m - 22 + 16) 4).toNat := by unfold zfirst; rw [hl]
 have hfe : zfirst ((zfileB l).take m) ≤ m - 22 := by omega
 obtain ⟨l', hl'⟩ : ∃ l', zloop ((zfileB l).take m) (zfirst ((zfileB l).take m)) (m - 22) (zmany ((zfileB l).take m)) (zfirst ((zfileB l).take m)) 0 [] = (0, l') := by
  rw [z5] at h0
  exact ⟨_, Prod.ext h0 rfl⟩
 have hR : zget (zRs 0 l ++ zendB l.length (zRs 0 l).length (zPs l).length) 0 4 ≠ 67324752 := by
  cases l with
  | nil =>
   have := (zend_at 0 0 0 [] (by omega) (by omega) (by omega)).1
   intro hc
   have e : zRs 0 [] ++ zendB (List.length ([] : List ZG)) (zRs 0 []).length (zPs []).length = zendB 0 0 0 := rfl
   rw [e] at hc
   rw [List.nil_append, List.length_nil, hc] at this
   omega
  | cons e l =>
   have := (e.rec_at (h.ok e List.mem_cons_self) [] (zRs (0 + e.piece.length) l ++ zendB (e :: l).length (zRs 0 (e :: l)).length (zPs (e :: l)).length) 0 (by omega)).1
   rw [List.nil_append, List.length_nil] at this
   intro hc
   have e0 : zRs 0 (e :: l) ++ zendB (e :: l).length (zRs 0 (e :: l)).length (zPs (e :: l)).length = e.recd 0 ++ (zRs (0 + e.piece.length) l ++ zendB (e :: l).length (zRs 0 (e :: l)).length (zPs (e :: l)).length) := by
    rw [← List.append_assoc, ← zRs_cons]
   rw [e0, this] at hc
   omega
 obtain ⟨k1, k2, k3⟩ := zcut_loop (zfileB l) _ m _ _ rfl hl hfe (by omega) (fun rp => hnn _ _) l _ [] _ _ _ _ l' h.ok rfl hR rfl hl'
 rw [List.length_nil, Nat.zero_add] at k2
 rw [List.length_nil] at k3
 have hlen := zfile_len l
 by_cases hn : zmany ((zfileB l).take m) = 0
 ·rw [hn, List.take_zero, zPs, List.flatMap_nil, List.length_nil] at k2
  rw [hn, List.take_zero, zRs, List.length_nil] at k3
  cases l with
  | nil => simp [zPs, zRs] at hlen; omega
  | cons e l =>
   have := zPs_head (l := l) e (h.ok e List.mem_cons_self) [] (zRs 0 (e :: l) ++ zendB (e :: l).length (zRs 0 (e :: l)).length (zPs (e :: l)).length)
   rw [List.nil_append] at this
   rw [show m - 22 = 0 by omega, zget_take (by omega)] at t1
   have e0 : zget (zfileB (e :: l)) 0 4 = 67324752 := this
   omega
 ·by_cases hlt : zmany ((zfileB l).take m) < l.length
  ·rw [z5] at h0
   obtain ⟨n', hn'⟩ : ∃ n', zmany ((zfileB l).take m) = n' + 1 := ⟨_, (Nat.succ_pred hn).symm⟩
   rw [hn', zloop] at hl'
   split at hl'
   ·rename_i hw
    have q1 := (zwrong_zero hw).1
    have q2 := q1.2.1
    have q3 := q1.1
    rw [zget_take (by omega)] at q2
    have hsplit : zPs l = zPs (l.take (zmany ((zfileB l).take m))) ++ zPs (l.drop (zmany ((zfileB l).take m))) := by
     unfold zPs; rw [← List.flatMap_append, List.take_append_drop]
    cases hd : l.drop (zmany ((zfileB l).take m)) with
    | nil => have := congrArg List.length hd; rw [List.length_drop, List.length_nil] at this; omega
    | cons e t =>
     have hmem : e ∈ l := List.mem_of_mem_drop (by rw [hd]; exact List.mem_cons_self)
     have := zPs_head (l := t) e (h.ok e hmem) (zPs (l.take (zmany ((zfileB l).take m)))) (zRs 0 l ++ zendB l.length (zRs 0 l).length (zPs l).length)
     rw [← hd, ← List.append_assoc, ← hsplit, ← k2] at this
     have e0 : zget (zfileB l) (zfirst ((zfileB l).take m)) 4 = 67324752 := this
     omega
   ·injection hl' with h1 h2; contradiction
  ·have heq : zmany ((zfileB l).take m) = l.length := by omega
   rw [heq, List.take_length] at k2 k3
   omega
theorem seg_cons (x : Int) (xs : List Int) (j n : Nat) : seg (x :: xs) (j + 1) n = seg xs j n := seg_right [x] xs (by rw [List.length_singleton]; omega)
theorem zahead {l : List ZG} (h : ZOk l) (v : Int) : (zpieces (v :: zfileB l)).1 = 81 := by
 obtain ⟨⟨t1, t2, t3, t4, t5, t6⟩, e2, e3⟩ := zfile_end h
 have hs := zfile_small h
 have hl := zfile_len l
 have hc : (v :: zfileB l).length = (zfileB l).length + 1 := List.length_cons
 unfold zpieces
 rw [hc, if_neg (by omega), if_neg (by omega), if_pos (fun hz => ?_)]
 obtain ⟨u1, u2, u3, u4, u5, u6⟩ := hz
 have g : ∀ j n, zget (v :: zfileB l) ((zfileB l).length + 1 - 22 + j) n = zget (zfileB l) ((zfileB l).length - 22 + j) n := by
  intro j n
  unfold zget
  rw [show (zfileB l).length + 1 - 22 + j = ((zfileB l).length - 22 + j) + 1 by omega, seg_cons]
 rw [g, g] at u5
 omega
theorem zpcs_at : ∀ (l : List ZG) (A R : List Int), (∀ e ∈ l, e.Ok) → ∀ (i : Nat) (hi : i < (zpcs A.length l).length) (hi2 : i < l.length), (zpcs A.length l)[i].x = l[i].x ∧ seg (A ++ (zPs l ++ R)) (zpcs A.length l)[i].fro (zpcs A.length l)[i].len = l[i].body
 | [], _, _, _, i, hi, hi2 => by simp at hi2
 | e :: l, A, R, hok, i, hi, hi2 => by
  have he := hok e List.mem_cons_self
  have hpb : e.x.packed.toNat = e.body.length := by rw [he.packed.1]; exact Int.toNat_natCast _
  have hX : A ++ (zPs (e :: l) ++ R) = A ++ (e.piece ++ (zPs l ++ R)) := by rw [zPs_cons]; simp only [List.append_assoc]
  have hY : A ++ (zPs (e :: l) ++ R) = (A ++ e.piece) ++ (zPs l ++ R) := by rw [hX, List.append_assoc]
  cases i with
  | zero =>
   refine ⟨rfl, ?_⟩
   rw [hX]
   show seg _ (A.length + 30 + e.x.name.size) e.x.packed.toNat = e.body
   rw [hpb]
   exact (e.head_at he A (zPs l ++ R)).2
  | succ i =>
   rw [hY]
   have := zpcs_at l (A ++ e.piece) R (fun x hx => hok x (List.mem_cons_of_mem _ hx)) i (by simp only [zpcs, List.length_cons] at hi; rw [List.length_append]; omega) (by rw [List.length_cons] at hi2; omega)
   simp only [List.length_append] at this
   exact this
theorem zpcs_len : ∀ (l : List ZG) (a : Nat), (zpcs a l).length = l.length
 | [], _ => rfl
 | e :: l, a => by rw [zpcs, List.length_cons, zpcs_len, List.length_cons]
def ZG.data (e : ZG) : List Int × Int :=
 if e.x.way = 8 then
  if (inflR e.body e.x.size).2.2 ≠ 0 ∨ (inflR e.body e.x.size).2.1 ≠ e.body.length ∨ ((inflR e.body e.x.size).1.length : Int) ≠ e.x.size then ([], 84)
  else if ((crcF (inflR e.body e.x.size).1 : Nat) : Int) ≠ e.x.sum then ([], 83) else ((inflR e.body e.x.size).1, 0)
 else if ((crcF e.body : Nat) : Int) ≠ e.x.sum then ([], 83) else (e.body, 0)
def zoutL : List ZG → List (ByteArray × ByteArray) → List (ByteArray × ByteArray) × Int
 | [], acc => (acc, 0)
 | e :: l, acc => if e.data.2 = 0 then zoutL l (acc ++ [(e.x.name, strOfNums e.data.1)]) else ([], e.data.2)
def zlookL (name : ByteArray) : List ZG → List Int × Int
 | [] => ([], 85)
 | e :: l => if e.x.name = name then e.data else zlookL name l
theorem zdata_eq {xs : List Int} {p : ZP} {e : ZG} (he : e.Ok) (h1 : p.x = e.x) (h2 : seg xs p.fro p.len = e.body) : zdata xs p = e.data := by
 have hl : p.len = e.body.length := by unfold ZP.len; rw [h1, he.packed.1]; exact Int.toNat_natCast _
 unfold zdata ZG.data
 rw [h2, hl, h1]
theorem zdatas_eq : ∀ (l : List ZG) (A R : List Int) (acc : List (ByteArray × ByteArray)), (∀ e ∈ l, e.Ok) → zdatas (A ++ (zPs l ++ R)) (zpcs A.length l) acc = zoutL l acc
 | [], _, _, _, _ => rfl
 | e :: l, A, R, acc, hok => by
  have he := hok e List.mem_cons_self
  have h0 := zpcs_at (e :: l) A R hok 0 (by rw [zpcs_len, List.length_cons]; omega) (by rw [List.length_cons]; omega)
  have hY : A ++ (zPs (e :: l) ++ R) = (A ++ e.piece) ++ (zPs l ++ R) := by rw [zPs_cons]; simp only [List.append_assoc]
  have hd := zdata_eq (xs := A ++ (zPs (e :: l) ++ R)) (p := (zpcs A.length (e :: l))[0]'(by rw [zpcs_len, List.length_cons]; omega)) (e := e) he h0.1 h0.2
  have hd' : zdata (A ++ (zPs (e :: l) ++ R)) ⟨e.x, A.length + 30 + e.x.name.size⟩ = e.data := hd
  have hi := zdatas_eq l (A ++ e.piece) R (acc ++ [(e.x.name, strOfNums e.data.1)]) (fun x hx => hok x (List.mem_cons_of_mem _ hx))
  rw [List.length_append, ← hY] at hi
  rw [zpcs, zdatas, hd', zoutL, hi]
theorem zfindL_eq (name : ByteArray) : ∀ (l : List ZG) (A R : List Int), (∀ e ∈ l, e.Ok) → zfindL (A ++ (zPs l ++ R)) name (zpcs A.length l) = zlookL name l
 | [], _, _, _ => rfl
 | e :: l, A, R, hok => by
  have he := hok e List.mem_cons_self
  have h0 := zpcs_at (e :: l) A R hok 0 (by rw [zpcs_len, List.length_cons]; omega) (by rw [List.length_cons]; omega)
  have hY : A ++ (zPs (e :: l) ++ R) = (A ++ e.piece) ++ (zPs l ++ R) := by rw [zPs_cons]; simp only [List.append_assoc]
  have hd := zdata_eq (xs := A ++ (zPs (e :: l) ++ R)) (p := (zpcs A.length (e :: l))[0]'(by rw [zpcs_len, List.length_cons]; omega)) (e := e) he h0.1 h0.2
  have hd' : zdata (A ++ (zPs (e :: l) ++ R)) ⟨e.x, A.length + 30 + e.x.name.size⟩ = e.data := hd
  have hi := zfindL_eq name l (A ++ e.piece) R (fun x hx => hok x (List.mem_cons_of_mem _ hx))
  rw [List.length_append, ← hY] at hi
  rw [zpcs, zfindL, hd', zlookL, hi]
theorem zread_file {l : List ZG} (h : ZOk l) : zread (zfileB l) = zoutL l [] := by
 have e := zpieces_file h
 unfold zread
 rw [e, if_pos rfl]
 exact zdatas_eq l [] _ [] h.ok
theorem zfind_file {l : List ZG} (h : ZOk l) (name : ByteArray) : zfind (zfileB l) name = zlookL name l := by
 have e := zpieces_file h
 unfold zfind
 rw [e, if_pos rfl]
 exact zfindL_eq name l [] _ h.ok
end Go.Proofs.YtghjlpechjggjaaGreatDoor
namespace Go.Proofs.YtghjlpechjggjaaGreatDoor
def checkT : List Tok → Nat → Int
 | [], _ => 0
 | t :: ts, s => if mayT t s = false then 60 else if 16384 < s + max 1 t.2.1.toNat then 2 else checkT ts (s + max 1 t.2.1.toNat)
theorem checkT_expand : ∀ (ts : List Tok) (out : List Int), (expandF 16384 ts out).2 = checkT ts out.length
 | [], out => rfl
 | t :: ts, out => by
  rw [expandF, checkT]
  by_cases hm : mayT t out.length = false
  ·rw [if_pos hm, if_pos hm]
  ·rw [if_neg hm, if_neg hm]
   by_cases hb : 16384 < out.length + max 1 t.2.1.toNat
   ·rw [if_pos hb, if_pos hb]
   ·rw [if_neg hb, if_neg hb, checkT_expand ts, tokT_len t out (may_nn (by simpa using hm))]
theorem expand_le {most : Nat} : ∀ (ts : List Tok) (out : List Int), out.length ≤ most → (expandF most ts out).1.length ≤ most
 | [], out, h => h
 | t :: ts, out, h => by
  rw [expandF]
  split
  ·simp
  ·next hm =>
   split
   ·simp
   ·next hb => exact expand_le ts _ (by rw [tokT_len t out (may_nn (by simpa using hm))]; omega)
theorem check_many {ts : List Tok} (h : checkT ts 0 = 0) : ts.length ≤ 16384 := by
 have e := checkT_expand ts []
 rw [show ([] : List Int).length = 0 from rfl, h] at e
 have := expand_grow ts [] e
 have := expand_le (most := 16384) ts [] (by simp)
 simp at *; omega
def litS (t : Tok) : Int := if t.2.1 = 0 then (t.1.toNat : Int) else (lsym t.2.1.toNat : Int)
def distS (t : Tok) : List Int := if t.2.1 = 0 then [] else [(dsym t.2.2.toNat : Int)]
def litC (ts : List Tok) : List Int := cntF 286 ([256] ++ ts.map litS)
def distC (ts : List Tok) : List Int := cntF 30 (ts.flatMap distS)
theorem distS_len : ∀ ts : List Tok, (ts.flatMap distS).length ≤ ts.length
 | [] => by simp
 | t :: ts => by
  have := distS_len ts
  rw [List.flatMap_cons, List.length_append, List.length_cons]
  have : (distS t).length ≤ 1 := by unfold distS; split <;> simp
  omega
theorem cnt_ok (N : Nat) (S : List Int) (h1 : 1 ≤ N) (hN : N ≤ 288) (hS : S.length ≤ 1000000) :
  limF (cntF N S) 15 = (limLens (cntF N S) 15, 0) ∧ (limLens (cntF N S) 15).length = N ∧ (∀ i, i < N → (0 < nth (limLens (cntF N S) 15) i ↔ (i : Int) ∈ S) ∧ 0 ≤ nth (limLens (cntF N S) 15) i ∧ nth (limLens (cntF N S) 15) i ≤ 15) ∧ ((∃ i : Nat, i < N ∧ (i : Int) ∈ S) → checkF (limLens (cntF N S) 15) = 0) := by
 have hl : (cntF N S).length = N := cntF_len N S
 have hb : (cntF N S).any badCount = false := by
  rw [List.any_eq_false]
  intro x hx
  obtain ⟨i, hi, rfl⟩ := List.mem_iff_getElem.1 hx
  have := cnt_bd N S i (by rw [hl] at hi; exact hi)
  rw [nth_lt hi] at this
  unfold badCount
  simp only [Bool.or_eq_true, decide_eq_true_eq]; omega
 have ht : (leavesF (cntF N S) 0).length ≤ 2 ^ 15 := by
  have := (leaves_bd (cntF N S) hb 0).2.2.2.1
  rw [hl] at this
  have : (2 : Nat) ^ 15 = 32768 := rfl
  omega
 have hc : ∀ i, i < N → (0 < nth (cntF N S) i ↔ (i : Int) ∈ S) := fun i hi => by
  rw [cntF_nth N S i hi, ← List.count_pos_iff]; omega
 refine ⟨?_, by rw [limLens, cntF_len, hl], fun i hi => ?_, ?_⟩
 ·unfold limF
  rw [if_neg (by rw [hl]; omega), if_neg (by simp [hb]), if_neg (by show ¬ 2 ^ 15 < _; omega)]; rfl
 ·have h := lim_each (cntF N S) 15 (by omega) (by omega) hb ht i (by rw [hl]; exact hi)
  exact ⟨h.1.trans (hc i hi), h.2⟩
 ·rintro ⟨i, hi, hm⟩
  refine check_all (cntF N S) 15 (by omega) (by rw [hl]; omega) (by rw [hl]; omega) hb ht ?_
  have hm2 : nth (cntF N S) i ∈ (cntF N S).filter (fun x => decide (0 < x)) := by
   refine List.mem_filter.2 ⟨?_, by simpa using (hc i hi).2 hm⟩
   rw [nth_lt (by rw [hl]; exact hi)]
   exact List.getElem_mem _
  have : 0 < usedF (cntF N S) := by unfold usedF; exact List.length_pos_of_mem hm2
  omega
def dynLit (ts : List Tok) : List Int := limLens (litC ts) 15
def dynDist (ts : List Tok) : List Int := limLens (distC ts) 15
theorem litS_range {t : Tok} (h1 : 0 ≤ t.1 ∧ t.1 ≤ 255) (h2 : t.2.1 ≠ 0 → 3 ≤ t.2.1 ∧ t.2.1 ≤ 258 ∧ 1 ≤ t.2.2 ∧ t.2.2 ≤ 32768) : ∃ s : Nat, litS t = s ∧ s < 286 := by
 unfold litS
 split
 ·exact ⟨_, rfl, by omega⟩
 ·next h0 =>
  obtain ⟨a, b, -⟩ := h2 h0
  obtain ⟨-, c, -⟩ := len_tab t.2.1.toNat (by omega) (by omega)
  exact ⟨_, rfl, by omega⟩
theorem dyn_codable {M : Nat} {ts : List Tok} (hl : LitOk ts) (hex : (expandF M ts []).2 = 0) (hn : ts.length ≤ 16384) :
  Codable (dynLit ts) (dynDist ts) ∧ (∀ t ∈ ts, TokOk (dynLit ts) (dynDist ts) t) ∧ limF (litC ts) 15 = (dynLit ts, 0) ∧ limF (distC ts) 15 = (dynDist ts, 0) ∧ (dynLit ts).length = 286 ∧ (dynDist ts).length = 30 := by
 have hd := distS_len ts
 obtain ⟨l1, l2, l3, l4⟩ := cnt_ok 286 ([256] ++ ts.map litS) (by omega) (by omega) (by simp; omega)
 obtain ⟨d1, d2, d3, d4⟩ := cnt_ok 30 (ts.flatMap distS) (by omega) (by omega) (by omega)
 have hlc : checkF (dynLit ts) = 0 := l4 ⟨256, by omega, by simp⟩
 have tl : ∀ s : Nat, s < 286 → (s : Int) ∈ [256] ++ ts.map litS → Tells (dynLit ts) s := fun s hs hm => by
  obtain ⟨a, b, c⟩ := l3 s hs
  have := a.2 hm
  exact ⟨by show s < (limLens _ 15).length; unfold litC; rw [l2]; exact hs, this, c⟩
 have td : ∀ s : Nat, s < 30 → (s : Int) ∈ ts.flatMap distS → Tells (dynDist ts) s := fun s hs hm => by
  obtain ⟨a, b, c⟩ := d3 s hs
  have := a.2 hm
  exact ⟨by show s < (limLens _ 15).length; unfold distC; rw [d2]; exact hs, this, c⟩
 have mem_b : ∀ (l : List Int) (N : Nat), l.length = N → (∀ i, i < N → 0 ≤ nth l i ∧ nth l i ≤ 15) → ∀ x ∈ l, 0 ≤ x ∧ x ≤ 15 := fun l N hN hi x hx => by
  obtain ⟨i, hi2, rfl⟩ := List.mem_iff_getElem.1 hx
  have := hi i (by omega)
  rwa [nth_lt hi2] at this
 refine ⟨⟨⟨by show 257 ≤ (limLens _ 15).length; unfold litC; omega, by show (limLens _ 15).length ≤ 286; unfold litC; omega, by show 1 ≤ (limLens _ 15).length; unfold distC; omega, by show (limLens _ 15).length ≤ 30; unfold distC; omega, mem_b _ 286 l2 (fun i hi => (l3 i hi).2), mem_b _ 30 d2 (fun i hi => (d3 i hi).2)⟩, hlc, ?_, tl 256 (by omega) (by simp)⟩, ?_, l1, d1, l2, d2⟩
 ·intro hu
  unfold anyUsed at hu
  rw [List.any_eq_true] at hu
  obtain ⟨x, hx, hx0⟩ := hu
  obtain ⟨i, hi, rfl⟩ := List.mem_iff_getElem.1 hx
  have hi2 : i < 30 := by have : (dynDist ts).length = 30 := d2; omega
  have h0 : 0 < nth (dynDist ts) i := by rw [nth_lt hi]; simpa using hx0
  exact d4 ⟨i, hi2, (d3 i hi2).1.1 h0⟩
 ·intro t ht
  obtain ⟨a, b⟩ := hl t ht
  have hr := expand_toks ts [] hex t ht
  obtain ⟨s, hs, hs2⟩ := litS_range ⟨a, b⟩ hr
  have hm : litS t ∈ [256] ++ ts.map litS := List.mem_append.2 (.inr (List.mem_map.2 ⟨t, ht, rfl⟩))
  refine ⟨fun h0 => ⟨a, b, ?_⟩, fun h0 => ?_⟩
  ·have e : litS t = (t.1.toNat : Int) := if_pos h0
   rw [e] at hm
   exact tl _ (by omega) hm
  ·have e : litS t = (lsym t.2.1.toNat : Int) := if_neg h0
   have e2 : distS t = [(dsym t.2.2.toNat : Int)] := if_neg h0
   obtain ⟨c1, c2, c3, c4⟩ := hr h0
   obtain ⟨f1, f2, -⟩ := len_tab t.2.1.toNat (by omega) (by omega)
   obtain ⟨g1, -⟩ := dist_tab t.2.2.toNat (by omega) (by omega)
   rw [e] at hm
   have hmd : (dsym t.2.2.toNat : Int) ∈ ts.flatMap distS := List.mem_flatMap.2 ⟨t, ht, by rw [e2]; simp⟩
   exact ⟨tl _ (by omega) hm, td _ (by omega) hmd, d4 ⟨_, by omega, hmd⟩⟩
theorem tokB_len {lit dist : List Int} {t : Tok} (h : TokOk lit dist t) (hr : t.2.1 ≠ 0 → 3 ≤ t.2.1 ∧ t.2.1 ≤ 258 ∧ 1 ≤ t.2.2 ∧ t.2.2 ≤ 32768) : (tokB lit dist t).length ≤ 48 := by
 obtain ⟨a, b⟩ := h
 unfold tokB
 split
 ·next h0 => have := (tells_bits (a h0).2.2).2; omega
 ·next h0 =>
  obtain ⟨c1, c2, c3, c4⟩ := hr h0
  obtain ⟨b1, b2, b3⟩ := b h0
  have := (tells_bits b1).2
  have := (tells_bits b2).2
  obtain ⟨-, -, -, -, -, f1⟩ := len_tab t.2.1.toNat (by omega) (by omega)
  obtain ⟨-, -, -, -, g1⟩ := dist_tab t.2.2.toNat (by omega) (by omega)
  unfold behB
  simp only [List.length_append, vbits_len]; omega
theorem toksB_len {lit dist : List Int} : ∀ (ts : List Tok), (∀ t ∈ ts, TokOk lit dist t) → (∀ t ∈ ts, t.2.1 ≠ 0 → 3 ≤ t.2.1 ∧ t.2.1 ≤ 258 ∧ 1 ≤ t.2.2 ∧ t.2.2 ≤ 32768) → (toksB lit dist ts).length ≤ 48 * ts.length
 | [], _, _ => by simp [toksB]
 | t :: ts, h, hr => by
  have ih := toksB_len ts (fun u hu => h u (List.mem_cons_of_mem _ hu)) (fun u hu => hr u (List.mem_cons_of_mem _ hu))
  have e : toksB lit dist (t :: ts) = tokB lit dist t ++ toksB lit dist ts := by simp [toksB]
  have := tokB_len (h t List.mem_cons_self) (hr t List.mem_cons_self)
  rw [e, List.length_append, List.length_cons]; omega
theorem toksB_snoc (lit dist : List Int) (ts : List Tok) (t : Tok) : toksB lit dist (ts ++ [t]) = toksB lit dist ts ++ tokB lit dist t := by simp [toksB]
theorem WB.out_bit {xs bl : List Int} (h : WB xs bl) (i : Nat) (hi : bl.length ≤ i) : bitAt xs i = 0 := by
 unfold bitAt
 have hl := h.len
 have hb := h.byte (i / 8)
 have hz : nth xs (i / 8) < 2 ^ (i % 8) := by
  by_cases h8 : i / 8 < xs.length
  ·have h1 : i / 8 = bl.length / 8 := by omega
   have h2 : bl.length % 8 ≠ 0 := by omega
   have h3 := h.top h2
   rw [h1]
   refine Int.lt_of_lt_of_le h3 ?_
   have : (2 : Nat) ^ (bl.length % 8) ≤ 2 ^ (i % 8) := Nat.pow_le_pow_right (by omega) (by omega)
   exact_mod_cast this
  ·have : nth xs (i / 8) = 0 := by simp [nth, List.getD, List.getElem?_eq_none (show xs.length ≤ i / 8 by omega)]
   rw [this]; exact pow_cast _
 rw [Int.ediv_eq_zero_of_lt hb.1 hz]; rfl
theorem byte_ext {x y : Int} (hx : 0 ≤ x ∧ x ≤ 255) (hy : 0 ≤ y ∧ y ≤ 255) (h : ∀ i : Nat, i < 8 → x / 2 ^ i % 2 = y / 2 ^ i % 2) : x = y := by
 have b0 : x % 2 = y % 2 := by simpa using h 0 (by omega)
 have b1 : x / 2 % 2 = y / 2 % 2 := by simpa using h 1 (by omega)
 have b2 : x / 4 % 2 = y / 4 % 2 := by simpa using h 2 (by omega)
 have b3 : x / 8 % 2 = y / 8 % 2 := by simpa using h 3 (by omega)
 have b4 : x / 16 % 2 = y / 16 % 2 := by simpa using h 4 (by omega)
 have b5 : x / 32 % 2 = y / 32 % 2 := by simpa using h 5 (by omega)
 have b6 : x / 64 % 2 = y / 64 % 2 := by simpa using h 6 (by omega)
 have b7 : x / 128 % 2 = y / 128 % 2 := by simpa using h 7 (by omega)
 omega
theorem WB.uniq {xs ys bl : List Int} (h : WB xs bl) (k : WB ys bl) : xs = ys := by
 refine list_nth_ext (by rw [h.len, k.len]) fun j _ => ?_
 refine byte_ext (h.byte j) (k.byte j) fun i hi => ?_
 have hb : bitAt xs (8 * j + i) = bitAt ys (8 * j + i) := by
  by_cases h1 : 8 * j + i < bl.length
  ·rw [h.bit _ h1, k.bit _ h1]
  ·rw [h.out_bit _ (by omega), k.out_bit _ (by omega)]
 unfold bitAt at hb
 rwa [show (8 * j + i) / 8 = j by omega, show (8 * j + i) % 8 = i by omega] at hb
theorem WB.all_u8 {xs bl : List Int} (h : WB xs bl) : ∀ x ∈ xs, 0 ≤ x ∧ x ≤ 255 := fun x hx => by
 obtain ⟨i, hi, rfl⟩ := List.mem_iff_getElem.1 hx
 have := h.byte i
 rwa [nth_lt hi] at this
theorem nth_u8 {data : List Int} (hd : ∀ x ∈ data, 0 ≤ x ∧ x ≤ 255) (j : Nat) : 0 ≤ nth data j ∧ nth data j ≤ 255 := by
 by_cases h : j < data.length
 ·rw [nth_lt h]; exact hd _ (List.getElem_mem _)
 ·simp [nth, List.getD, List.getElem?_eq_none (show data.length ≤ j by omega)]
theorem tokens_final (data : List Int) (hd : ∀ x ∈ data, 0 ≤ x ∧ x ≤ 255) (hn : data.length ≤ 16384) : expandF 16384 (tokensF data) [] = (data, 0) ∧ LitOk (tokensF data) :=
 ⟨tokens_expand hn hn, find_lits (nth_u8 hd) _ _⟩
def lessL (a b : List Int) : List Int := if b.length < a.length then b else a
structure Defl (data xs : List Int) : Prop where
 out : ∃ f d, WB f (fixB (tokensF data)) ∧ WB d (dynB (dynLit (tokensF data)) (dynDist (tokensF data)) (tokensF data)) ∧ xs = lessL (lessL (storB 1 data) f) d
theorem Defl.uniq {data xs ys : List Int} (h : Defl data xs) (k : Defl data ys) : xs = ys := by
 obtain ⟨f, d, hf, hd, rfl⟩ := h.out
 obtain ⟨f', d', hf', hd', rfl⟩ := k.out
 rw [hf.uniq hf', hd.uniq hd']
theorem less_len (a b : List Int) : (lessL a b).length ≤ a.length ∧ (lessL a b).length ≤ b.length := by
 unfold lessL; split <;> omega
theorem Defl.len {data xs : List Int} (h : Defl data xs) : xs.length ≤ data.length + 5 ∧ ∀ f, WB f (fixB (tokensF data)) → xs.length ≤ f.length := by
 obtain ⟨f, d, hf, hd, rfl⟩ := h.out
 have h1 := less_len (lessL (storB 1 data) f) d
 have h2 := less_len (storB 1 data) f
 rw [storB_len] at h2
 exact ⟨by omega, fun f' hf' => by rw [hf'.uniq hf]; omega⟩
theorem Defl.final {data xs : List Int} (h : Defl data xs) (hd : ∀ x ∈ data, 0 ≤ x ∧ x ≤ 255) (hn : data.length ≤ 16384) : FinalOf xs data := by
 obtain ⟨f, d, hf, hdy, rfl⟩ := h.out
 obtain ⟨hx, hl⟩ := tokens_final data hd hn
 obtain ⟨c1, c2, -⟩ := dyn_codable hl (by rw [hx]) (check_many (by rw [← show (expandF 16384 (tokensF data) []).2 = checkT (tokensF data) 0 from checkT_expand _ _, hx]))
 have a1 : FinalOf (storB 1 data) data := final_stored hd (by omega)
 have a2 : FinalOf f data := final_fixed hf hl hx
 have a3 : FinalOf d data := final_dyn hdy c1 c2 hx
 have a4 : FinalOf (lessL (storB 1 data) f) data := by
  unfold lessL
  by_cases h : f.length < (storB 1 data).length
  ·rw [if_pos h]; exact a2
  ·rw [if_neg h]; exact a1
 obtain ⟨b, hb⟩ : ∃ b, b = lessL (storB 1 data) f := ⟨_, rfl⟩
 rw [← hb] at a4 ⊢
 unfold lessL
 by_cases h : d.length < b.length
 ·rw [if_pos h]; exact a3
 ·rw [if_neg h]; exact a4
end Go.Proofs.YtghjlpechjggjaaGreatDoor
namespace Go.Proofs.YtghjlpechjggjaaGreatDoor
theorem WB.first {xs bl : List Int} (h : WB xs ([1, 0, 1] ++ bl)) : 0 < xs.length ∧ 0 ≤ nth xs 0 ∧ nth xs 0 ≤ 255 ∧ nth xs 0 % 8 = 5 := by
 have hl := h.len
 have hn : ([1, 0, 1] ++ bl : List Int).length = 3 + bl.length := by simp; omega
 obtain ⟨b1, b2⟩ := h.byte 0
 have h0 := h.bit 0 (by omega)
 have h1 := h.bit 1 (by omega)
 have h2 := h.bit 2 (by omega)
 simp [bitAt, nth] at h0 h1 h2
 have e : nth xs 0 = xs.getD 0 0 := rfl
 simp [nth] at b1 b2
 refine ⟨by omega, ?_⟩
 simp only [nth, List.getD_eq_getElem?_getD]
 omega
end Go.Proofs.YtghjlpechjggjaaGreatDoor
namespace Go.Proofs.YtghjlpechjggjaaGreatDoor
open Go.RowKit
theorem storB_byte {b : Int} {data : List Int} (hb : b = 0 ∨ b = 1) (hd : ∀ x ∈ data, 0 ≤ x ∧ x ≤ 255) (hn : data.length ≤ 16384) : ∀ x ∈ storB b data, 0 ≤ x ∧ x ≤ 255 := by
 intro x hx
 unfold storB at hx
 rcases List.mem_append.1 hx with h | h
 ·simp only [List.mem_cons, List.not_mem_nil, or_false] at h
  rcases h with rfl | rfl | rfl | rfl | rfl <;> omega
 ·exact hd x h
theorem Defl.byte {data xs : List Int} (h : Defl data xs) (hd : ∀ x ∈ data, 0 ≤ x ∧ x ≤ 255) (hn : data.length ≤ 16384) : ∀ x ∈ xs, 0 ≤ x ∧ x ≤ 255 := by
 obtain ⟨f, d, hf, hdy, rfl⟩ := h.out
 have sel : ∀ a b : List Int, (∀ x ∈ a, 0 ≤ x ∧ x ≤ 255) → (∀ x ∈ b, 0 ≤ x ∧ x ≤ 255) → ∀ x ∈ lessL a b, 0 ≤ x ∧ x ≤ 255 := fun a b h1 h2 x hx => by
  unfold lessL at hx
  split at hx
  ·exact h2 x hx
  ·exact h1 x hx
 exact sel _ _ (sel _ _ (storB_byte (.inr rfl) hd hn) hf.all_u8) hdy.all_u8
theorem Defl.infl {data xs : List Int} (h : Defl data xs) (hd : ∀ x ∈ data, 0 ≤ x ∧ x ≤ 255) (hn : data.length ≤ 16384) {most : Int} (h0 : (data.length : Int) ≤ most) (h1 : most ≤ 16384) : inflR xs most = (data, xs.length, 0) := (h.final hd hn).infl h0 h1
end Go.Proofs.YtghjlpechjggjaaGreatDoor
namespace Go.Proofs.YtghjlpechjggjaaGreatDoor
open Go.RowKit
def zhead (way : Int) (body data : List Int) (name : ByteArray) : List Int := zlesB 4 [67324752] ++ sharedB way (crcF data : Nat) body.length data.length name.size
def zpiece (way : Int) (body data : List Int) (name : ByteArray) : List Int := zhead way body data name ++ (sb name ++ body)
def zrec (way : Int) (body data : List Int) (name : ByteArray) (at_ : Int) : List Int := zlesB 4 [33639248] ++ (zlesB 2 [20] ++ (sharedB way (crcF data : Nat) body.length data.length name.size ++ (zlesB 2 [0, 0, 0] ++ (zlesB 4 [0, at_] ++ sb name))))
def zway (data ys : List Int) : Int := if ys.length < data.length then 8 else 0
def zbody (data ys : List Int) : List Int := if ys.length < data.length then ys else data
structure ZE where
 name : ByteArray
 dat : ByteArray
 ys : List Int
def ZE.way (e : ZE) : Int := zway (sb e.dat) e.ys
def ZE.body (e : ZE) : List Int := zbody (sb e.dat) e.ys
def ZE.g (e : ZE) : ZG := ⟨⟨e.name, e.dat.size, e.body.length, (crcF (sb e.dat) : Nat), e.way⟩, e.body⟩
theorem ZE.way08 (e : ZE) : e.way = 0 ∨ e.way = 8 := by unfold ZE.way zway; split <;> simp
theorem ZE.body_le (e : ZE) : e.body.length ≤ e.dat.size ∧ (e.way = 0 → e.body = sb e.dat) ∧ (e.way = 8 → e.body = e.ys ∧ e.ys.length < e.dat.size) := by
 have := sb_len e.dat
 unfold ZE.body zbody ZE.way zway
 by_cases h : e.ys.length < (sb e.dat).length
 ·simp only [if_pos h]; refine ⟨by omega, by omega, fun _ => ⟨trivial, by omega⟩⟩
 ·simp only [if_neg h]; refine ⟨by omega, fun _ => trivial, by omega⟩
structure ZE.Ok (e : ZE) : Prop where
 name : nameB e.name = true
 dat : e.dat.size ≤ 8192
 defl : Defl (sb e.dat) e.ys
theorem ZE.Ok.g {e : ZE} (h : e.Ok) : e.g.Ok := by
 have hb := e.body_le
 have hd := h.dat
 have hc := crcF_lt (sb_u8 e.dat)
 refine ⟨h.name, e.way08, ⟨Int.natCast_nonneg _, ?_⟩, ⟨rfl, ?_⟩, ⟨Int.natCast_nonneg _, ?_⟩, ?_⟩
 ·show (e.dat.size : Int) ≤ 8192; omega
 ·show (e.body.length : Int) ≤ 8192; omega
 ·show ((crcF (sb e.dat) : Nat) : Int) < 4294967296; omega
 ·rcases e.way08 with h0 | h8
  ·right
   show (e.dat.size : Int) = e.body.length
   rw [hb.2.1 h0, sb_len]
  ·exact .inl h8
theorem ZE.piece_eq (e : ZE) : e.g.piece = zpiece (zway (sb e.dat) e.ys) (zbody (sb e.dat) e.ys) (sb e.dat) e.name := by
 unfold zpiece zhead; rw [sb_len]; rfl
theorem ZE.recd_eq (e : ZE) (a : Nat) : e.g.recd a = zrec (zway (sb e.dat) e.ys) (zbody (sb e.dat) e.ys) (sb e.dat) e.name a := by
 unfold zrec; rw [sb_len]; rfl
theorem ZE.Ok.data {e : ZE} (h : e.Ok) : e.g.data = (sb e.dat, 0) := by
 have hb := e.body_le
 have hd := h.dat
 have hs := sb_len e.dat
 unfold ZG.data
 rcases e.way08 with h0 | h8
 ·have e1 : e.g.body = sb e.dat := hb.2.1 h0
  have e2 : e.g.x.way = 0 := h0
  rw [e2, if_neg (by omega), e1, if_neg (fun h => h rfl)]
 ·have e1 : e.g.body = e.ys := (hb.2.2 h8).1
  have e2 : e.g.x.way = 8 := h8
  have e3 : e.g.x.size = e.dat.size := rfl
  have hi : inflR e.ys e.g.x.size = (sb e.dat, e.ys.length, 0) := h.defl.infl (sb_u8 _) (by omega) (by omega) (by omega)
  rw [e2, if_pos rfl, e1, hi, if_neg (fun h => by
   rcases h with h | h | h
   ·exact h rfl
   ·exact h rfl
   ·exact h (by show ((sb e.dat).length : Int) = _; rw [e3]; omega)), if_neg (fun h => h rfl)]
theorem zPs_app (l m : List ZG) : zPs (l ++ m) = zPs l ++ zPs m := by unfold zPs; rw [List.flatMap_append]
theorem zRs_app : ∀ (l m : List ZG) (a : Nat), zRs a (l ++ m) = zRs a l ++ zRs (a + (zPs l).length) m
 | [], m, a => by rw [List.nil_append, zRs, List.nil_append, zPs, List.flatMap_nil, List.length_nil, Nat.add_zero]
 | e :: l, m, a => by rw [List.cons_append, zRs_cons, zRs_cons, zRs_app l m, zPs_cons, List.length_append, List.append_assoc, Nat.add_assoc]
theorem zPs_one (e : ZG) : zPs [e] = e.piece := by rw [zPs_cons, zPs, List.flatMap_nil, List.append_nil]
theorem zRs_one (e : ZG) (a : Nat) : zRs a [e] = e.recd a := by rw [zRs_cons, zRs, List.append_nil]
def ZE.out (e : ZE) : ByteArray × ByteArray := (e.name, e.dat)
theorem zout_ok : ∀ (l : List ZE) (acc : List (ByteArray × ByteArray)), (∀ e ∈ l, e.Ok) → zoutL (l.map ZE.g) acc = (acc ++ l.map ZE.out, 0)
 | [], acc, _ => by rw [List.map_nil, List.map_nil, zoutL, List.append_nil]
 | e :: l, acc, h => by
  have hd := (h e List.mem_cons_self).data
  rw [List.map_cons, List.map_cons, zoutL, hd, if_pos rfl, zout_ok l _ (fun x hx => h x (List.mem_cons_of_mem _ hx)), List.append_assoc]
  show (acc ++ ([(e.name, strOfNums (sb e.dat))] ++ l.map ZE.out), (0 : Int)) = _
  rw [strOf_sb]; rfl
theorem zlook_ok : ∀ (l : List ZE) (e : ZE), (∀ e ∈ l, e.Ok) → (l.map ZE.name).Nodup → e ∈ l → zlookL e.name (l.map ZE.g) = (sb e.dat, 0)
 | [], e, _, _, h => by cases h
 | f :: l, e, hok, hnd, h => by
  rw [List.map_cons, zlookL]
  rw [List.map_cons, List.nodup_cons] at hnd
  rcases List.mem_cons.1 h with rfl | h
  ·exact (if_pos rfl).trans (hok e List.mem_cons_self).data
  ·refine (if_neg (fun hc => hnd.1 (List.mem_map.2 ⟨e, h, (show f.name = e.name from hc).symm⟩))).trans ?_
   exact zlook_ok l e (fun x hx => hok x (List.mem_cons_of_mem _ hx)) hnd.2 h
theorem zlook_none : ∀ (l : List ZE) (name : ByteArray), (∀ e ∈ l, e.name ≠ name) → zlookL name (l.map ZE.g) = ([], 85)
 | [], _, _ => rfl
 | e :: l, name, h => by
  rw [List.map_cons, zlookL]
  refine (if_neg (h e List.mem_cons_self)).trans ?_
  exact zlook_none l name (fun x hx => h x (List.mem_cons_of_mem _ hx))
theorem zok_of {l : List ZE} (h : ∀ e ∈ l, e.Ok) (hn : (l.map ZE.name).Nodup) (hl : l.length ≤ 64) : ZOk (l.map ZE.g) :=
 ⟨fun g hg => by obtain ⟨e, he, rfl⟩ := List.mem_map.1 hg; exact (h e he).g, by rw [List.map_map]; exact hn, by rw [List.length_map]; exact hl⟩
def ZG.turn (e : ZG) (k : Nat) (v : Int) : ZG := ⟨e.x, e.body.set k v⟩
theorem ZG.turn_piece (e : ZG) {k : Nat} (v : Int) : (e.turn k v).piece = e.piece.set (30 + e.x.name.size + k) v := by
 have e1 : (zlesB 4 [67324752] ++ sharedB e.x.way e.x.sum e.x.packed e.x.size e.x.name.size).length = 30 := by simp only [List.length_append, zlesB_len, sharedB_len, List.length_cons, List.length_nil]
 have e2 := sb_len e.x.name
 unfold ZG.piece
 rw [List.set_append_right _ _ (by rw [e1]; omega), List.set_append_right _ _ (by rw [e1, e2]; omega), e1, e2, show 30 + e.x.name.size + k - 30 - e.x.name.size = k by omega]
 rfl
theorem ZG.turn_len (e : ZG) (k : Nat) (v : Int) : (e.turn k v).piece.length = e.piece.length := by rw [ZG.turn_piece, List.length_set]
theorem zPs_turn : ∀ (l : List ZG) (i k : Nat) (v : Int) (hi : i < l.length), k < l[i].body.length → zPs (l.set i (l[i].turn k v)) = (zPs l).set ((zPs (l.take i)).length + 30 + l[i].x.name.size + k) v
 | [], i, _, _, hi, _ => by simp at hi
 | e :: l, 0, k, v, hi, hk => by
  have hpl := e.piece_len
  have hk' : k < e.body.length := hk
  rw [List.set_cons_zero, zPs_cons, zPs_cons]
  show (e.turn k v).piece ++ zPs l = (e.piece ++ zPs l).set ((zPs []).length + 30 + e.x.name.size + k) v
  rw [show (zPs []).length = 0 from rfl, Nat.zero_add, List.set_append_left _ _ (by omega), ZG.turn_piece]
 | e :: l, i + 1, k, v, hi, hk => by
  have hi' : i < l.length := by rw [List.length_cons] at hi; omega
  have h := zPs_turn l i k v hi' hk
  rw [List.set_cons_succ, zPs_cons, zPs_cons, zPs_take_succ]
  show e.piece ++ zPs (l.set i (l[i].turn k v)) = (e.piece ++ zPs l).set ((e.piece ++ zPs (l.take i)).length + 30 + l[i].x.name.size + k) v
  rw [List.set_append_right _ _ (by rw [List.length_append]; omega), h]
  congr 2
  rw [List.length_append]; omega
theorem zRs_turn : ∀ (l : List ZG) (a i k : Nat) (v : Int) (hi : i < l.length), zRs a (l.set i (l[i].turn k v)) = zRs a l
 | [], _, i, _, _, hi => by simp at hi
 | e :: l, a, 0, k, v, hi => by
  rw [List.set_cons_zero, zRs_cons, zRs_cons]
  show (e.turn k v).recd a ++ zRs (a + (e.turn k v).piece.length) l = _
  rw [ZG.turn_len]; rfl
 | e :: l, a, i + 1, k, v, hi => by
  have h := zRs_turn l (a + e.piece.length) i k v (by rw [List.length_cons] at hi; omega)
  rw [List.set_cons_succ, zRs_cons, zRs_cons]
  exact congrArg (e.recd a ++ ·) h
theorem zpcs_turn : ∀ (l : List ZG) (a i k : Nat) (v : Int) (hi : i < l.length), zpcs a (l.set i (l[i].turn k v)) = zpcs a l
 | [], _, i, _, _, hi => by simp at hi
 | e :: l, a, 0, k, v, hi => by
  rw [List.set_cons_zero, zpcs, zpcs]
  show _ :: zpcs (a + (e.turn k v).piece.length) l = _
  rw [ZG.turn_len]; rfl
 | e :: l, a, i + 1, k, v, hi => by
  have h := zpcs_turn l (a + e.piece.length) i k v (by rw [List.length_cons] at hi; omega)
  rw [List.set_cons_succ, zpcs, zpcs]
  exact congrArg (_ :: ·) h
theorem zfile_turn (l : List ZG) (i k : Nat) (v : Int) (hi : i < l.length) (hk : k < l[i].body.length) : (zfileB l).set ((zPs (l.take i)).length + 30 + l[i].x.name.size + k) v = zfileB (l.set i (l[i].turn k v)) := by
 have hp := zPs_turn l i k v hi hk
 have hr := zRs_turn l 0 i k v hi
 have hlt : (zPs (l.take i)).length + 30 + l[i].x.name.size + k < (zPs l).length := by
  have h1 : zPs l = zPs (l.take i) ++ zPs (l.drop i) := by rw [← zPs_app, List.take_append_drop]
  have h2 : zPs (l.drop i) = l[i].piece ++ zPs (l.drop (i + 1)) := by rw [List.drop_eq_getElem_cons hi, zPs_cons]
  have hpl := l[i].piece_len
  rw [h1, h2, List.length_append, List.length_append]; omega
 unfold zfileB
 rw [hr, hp, List.length_set, List.length_set, List.set_append_left _ _ hlt]
theorem zok_turn {l : List ZG} (h : ZOk l) (i k : Nat) (v : Int) (hi : i < l.length) : ZOk (l.set i (l[i].turn k v)) := by
 refine ⟨fun g hg => ?_, ?_, by rw [List.length_set]; exact h.len⟩
 ·rcases List.mem_or_eq_of_mem_set hg with hg | rfl
  ·exact h.ok g hg
  ·have ho := h.ok l[i] (List.getElem_mem hi)
   exact ⟨ho.name, ho.way, ho.size, ⟨by rw [show (l[i].turn k v).body.length = l[i].body.length from List.length_set]; exact ho.packed.1, ho.packed.2⟩, ho.sum, ho.same⟩
 ·rw [List.map_set]
  have : (l[i].turn k v).x.name = (l.map fun e : ZG => e.x.name)[i]'(by rw [List.length_map]; exact hi) := by rw [List.getElem_map]; rfl
  rw [this, List.set_getElem_self]
  exact h.nodup
theorem set_split {xs : List Int} {k : Nat} (hk : k < xs.length) (v : Int) : xs = xs.take k ++ nth xs k :: xs.drop (k + 1) ∧ xs.set k v = xs.take k ++ v :: xs.drop (k + 1) := by
 refine ⟨?_, List.set_eq_take_append_cons_drop.trans (by rw [if_pos hk])⟩
 conv => lhs; rw [← List.take_append_drop k xs, List.drop_eq_getElem_cons hk]
 rw [nth_lt hk]
theorem ZE.turn_bad {e : ZE} (h : e.Ok) (h0 : e.way = 0) {k : Nat} (hk : k < e.body.length) {v : Int} (hv : 0 ≤ v ∧ v ≤ 255) (hne : v ≠ nth e.body k) : (e.g.turn k v).data = ([], 83) := by
 have hb := e.body_le
 have e1 : e.body = sb e.dat := hb.2.1 h0
 have e2 : (e.g.turn k v).x.way = 0 := h0
 obtain ⟨s1, s2⟩ := set_split hk v
 unfold ZG.data
 rw [e2, if_neg (by omega), if_pos]
 show ((crcF (e.body.set k v) : Nat) : Int) ≠ ((crcF (sb e.dat) : Nat) : Int)
 rw [s2, ← e1]
 conv => rhs; rw [s1]
 have hu := sb_u8 e.dat
 rw [← e1] at hu
 have := crcF_turned (xs := e.body.take k) (ys := e.body.drop (k + 1)) (x := v) (y := nth e.body k) hv (by rw [nth_lt hk]; exact hu _ (List.getElem_mem hk)) (fun z hz => hu z (List.mem_of_mem_take hz)) (fun z hz => hu z (List.mem_of_mem_drop hz)) hne
 omega
theorem zout_turn : ∀ (l : List ZE) (i k : Nat) (v : Int) (acc : List (ByteArray × ByteArray)) (hi : i < l.length), (∀ e ∈ l, e.Ok) → (l[i].g.turn k v).data = ([], 83) → zoutL ((l.map ZE.g).set i (l[i].g.turn k v)) acc = ([], 83)
 | [], i, _, _, _, hi, _, _ => by simp at hi
 | e :: l, 0, k, v, acc, hi, hok, hd => by
  rw [List.map_cons, List.set_cons_zero, zoutL]
  have hd' : (e.g.turn k v).data = ([], 83) := hd
  refine (if_neg (show ¬ (e.g.turn k v).data.2 = 0 by rw [hd']; decide)).trans ?_
  show ([], (e.g.turn k v).data.2) = _
  rw [hd']
 | e :: l, i + 1, k, v, acc, hi, hok, hd => by
  rw [List.map_cons, List.set_cons_succ, zoutL, (hok e List.mem_cons_self).data, if_pos rfl]
  exact zout_turn l i k v _ (by rw [List.length_cons] at hi; omega) (fun x hx => hok x (List.mem_cons_of_mem _ hx)) hd
theorem zlook_turn : ∀ (l : List ZE) (i k : Nat) (v : Int) (hi : i < l.length), (l.map ZE.name).Nodup → (l[i].g.turn k v).data = ([], 83) → zlookL l[i].name ((l.map ZE.g).set i (l[i].g.turn k v)) = ([], 83)
 | [], i, _, _, hi, _, _ => by simp at hi
 | e :: l, 0, k, v, hi, hnd, hd => by
  rw [List.map_cons, List.set_cons_zero, zlookL]
  exact (if_pos rfl).trans hd
 | e :: l, i + 1, k, v, hi, hnd, hd => by
  rw [List.map_cons, List.set_cons_succ, zlookL]
  rw [List.map_cons, List.nodup_cons] at hnd
  refine (if_neg (fun hc => hnd.1 (List.mem_map.2 ⟨l[i]'(by rw [List.length_cons] at hi; omega), List.getElem_mem _, Eq.symm hc⟩))).trans ?_
  exact zlook_turn l i k v (by rw [List.length_cons] at hi; omega) hnd.2 hd
theorem shared_u8 (way sum bl dl nl : Int) : ∀ x ∈ sharedB way sum bl dl nl, 0 ≤ x ∧ x ≤ 255 := by
 intro x hx
 unfold sharedB at hx
 rcases List.mem_append.1 hx with h | h
 ·exact zlesB_u8 _ _ x h
 ·rcases List.mem_append.1 h with h | h <;> exact zlesB_u8 _ _ x h
theorem ZG.u8 (e : ZG) (hb : ∀ x ∈ e.body, 0 ≤ x ∧ x ≤ 255) : (∀ x ∈ e.piece, 0 ≤ x ∧ x ≤ 255) ∧ ∀ a, ∀ x ∈ e.recd a, 0 ≤ x ∧ x ≤ 255 := by
 refine ⟨fun x hx => ?_, fun a x hx => ?_⟩
 ·unfold ZG.piece at hx
  simp only [List.mem_append] at hx
  rcases hx with (h | h) | h | h
  ·exact zlesB_u8 _ _ x h
  ·exact shared_u8 _ _ _ _ _ x h
  ·exact sb_u8 _ x h
  ·exact hb x h
 ·unfold ZG.recd at hx
  simp only [List.mem_append] at hx
  rcases hx with h | h | h | h | h | h
  ·exact zlesB_u8 _ _ x h
  ·exact zlesB_u8 _ _ x h
  ·exact shared_u8 _ _ _ _ _ x h
  ·exact zlesB_u8 _ _ x h
  ·exact zlesB_u8 _ _ x h
  ·exact sb_u8 _ x h
theorem zfile_u8 {l : List ZG} (h : ∀ g ∈ l, ∀ x ∈ g.body, 0 ≤ x ∧ x ≤ 255) : ∀ x ∈ zfileB l, 0 ≤ x ∧ x ≤ 255 := by
 have hP : ∀ x ∈ zPs l, 0 ≤ x ∧ x ≤ 255 := fun x hx => by
  obtain ⟨g, hg, hx⟩ := List.mem_flatMap.1 hx
  exact (g.u8 (h g hg)).1 x hx
 have hR : ∀ (l : List ZG), (∀ g ∈ l, ∀ x ∈ g.body, 0 ≤ x ∧ x ≤ 255) → ∀ a, ∀ x ∈ zRs a l, 0 ≤ x ∧ x ≤ 255 := by
  intro l
  induction l with
  | nil => intro _ a x hx; simp [zRs] at hx
  | cons e l ih =>
   intro h a x hx
   rw [zRs_cons] at hx
   rcases List.mem_append.1 hx with hx | hx
   ·exact (e.u8 (h e List.mem_cons_self)).2 a x hx
   ·exact ih (fun g hg => h g (List.mem_cons_of_mem _ hg)) _ x hx
 intro x hx
 unfold zfileB zendB at hx
 simp only [List.mem_append] at hx
 rcases hx with h1 | h1 | h1 | h1 | h1 | h1
 ·exact hP x h1
 ·exact hR l h 0 x h1
 ·exact zlesB_u8 _ _ x h1
 ·exact zlesB_u8 _ _ x h1
 ·exact zlesB_u8 _ _ x h1
 ·exact zlesB_u8 _ _ x h1
theorem ZE.Ok.body_u8 {e : ZE} (h : e.Ok) : ∀ x ∈ e.g.body, 0 ≤ x ∧ x ≤ 255 := by
 have hd := h.dat
 have hb := e.body_le
 rcases e.way08 with h0 | h8
 ·rw [show e.g.body = sb e.dat from hb.2.1 h0]; exact sb_u8 _
 ·rw [show e.g.body = e.ys from (hb.2.2 h8).1]; exact h.defl.byte (sb_u8 _) (by rw [sb_len]; omega)
end Go.Proofs.YtghjlpechjggjaaGreatDoor
namespace Go.Proofs.YtghjlpechjggjaaGreatDoor
open Go.RowKit
structure RunTo (xs : List Int) (i m : Nat) : Prop where
 one : 1 ≤ m
 le : i + m ≤ xs.length
 eq : ∀ j, j < m → nth xs (i + j) = nth xs i
structure RunOk (xs : List Int) (i m : Nat) : Prop extends RunTo xs i m where
 stop : i + m < xs.length → nth xs (i + m) ≠ nth xs i
theorem RunTo.step {xs : List Int} {i m : Nat} (h : RunTo xs i m) (hl : i + m < xs.length) (hv : nth xs (i + m) = nth xs i) : RunTo xs i (m + 1) :=
 ⟨by omega, by omega, fun j hj => by
  by_cases e : j = m
  ·subst e; exact hv
  ·exact h.eq j (by omega)⟩
theorem RunOk.pack {xs : List Int} {i m : Nat} (h : RunOk xs i m) : packF (xs.drop i) = rsteps (nth xs i) m ++ packF (xs.drop (i + m)) :=
 packF_at xs i m (by have := h.one; have := h.le; omega) h.le h.eq h.stop
theorem own_as {w : World} {base n : Nat} {e : TypeId} {v : Value} {xs ys : List (Int × Int)} (h : w.ownsRow base e 2 v n (pcells xs)) (he : xs = ys) : w.ownsRow base e 2 v ys.length (pcells ys) := by
 subst he
 have := h.1
 rw [pcells_length] at this
 obtain rfl : n = xs.length := by omega
 exact h
def Packed (w : World) (xs : List Int) (e : Ending) (w' : World) : Prop :=
 (xs.length ≤ 316 ∧ anyBad xs = false ∧ ∃ v, e = .returned (.tuple #[v, .int .i64 0]) ∧ w'.ownsRow w.heap.size 163 2 v (packF xs).length (pcells (packF xs)) ∧ Below w.heap.size w w') ∨
 ((316 < xs.length ∨ anyBad xs = true) ∧ e = .returned (.tuple #[.slice none 0 0, .int .i64 1]) ∧ Below w.heap.size w w')
theorem Dr.below {w w' : World} (h : Dr w w') : Below w.heap.size w w' := (h.keeps (S := [])).below
end Go.Proofs.YtghjlpechjggjaaGreatDoor
namespace Go.Proofs.YtghjlpechjggjaaGreatDoor
open Go.RowKit
structure Run0 (xs : List Int) (i m : Nat) : Prop where
 le : i + m ≤ xs.length
 eq : ∀ j, j < m → nth xs (i + j) = nth xs i
theorem Run0.step {xs : List Int} {i m : Nat} (h : Run0 xs i m) (hl : i + m < xs.length) (hv : nth xs (i + m) = nth xs i) : Run0 xs i (m + 1) :=
 ⟨by omega, fun j hj => by
  by_cases e : j = m
  ·subst e; exact hv
  ·exact h.eq j (by omega)⟩
theorem Run0.one {xs : List Int} {i m : Nat} (h : Run0 xs i m) (hi : i < xs.length) (hs : i + m < xs.length → nth xs (i + m) ≠ nth xs i) : 1 ≤ m := by
 rcases Nat.eq_zero_or_pos m with rfl | h1
 ·exact absurd rfl (hs (by omega))
 ·exact h1
theorem box_cell {w w1 : World} {o : Obj} {u x : Value} {B : Nat} (hc : w.cell? ⟨B, 0, none⟩ = some x) (hne : ∀ k, u.ownBlock = some k → B + 1 ≤ k) (hg : (w.alloc o).grownBy w1 u.ownBlock) : w1.cell? ⟨B, 0, none⟩ = some x := by
 have hB : B < w.heap.size := World.block_lt_of_cell? _ _ hc
 exact (World.cell?_of_block (w := w.alloc o) (a := ⟨B, 0, none⟩) (hg.block B (by simp; omega) (fun e => by have := hne B e.symm; omega))).trans (((Keeps.refl [] w).alloc o).cell (by simp) hc)
theorem box_frozen {w w1 : World} {o : Obj} {u : Value} {B : Nat} (hB : B < w.heap.size) (hf : w.frozen? ⟨B, 0, none⟩ = false) (hne : ∀ k, u.ownBlock = some k → B + 1 ≤ k) (hg : (w.alloc o).grownBy w1 u.ownBlock) : w1.frozen? ⟨B, 0, none⟩ = false :=
 (World.frozen?_of_block (w := w.alloc o) (a := ⟨B, 0, none⟩) (hg.block B (by simp; omega) (fun e => by have := hne B e.symm; omega))).trans ((((Keeps.refl [] w).alloc o).frozen (p := ⟨B, 0, none⟩) hB (by simp)).trans hf)
theorem box_put {w0 w w1 : World} {o : Obj} {u x : Value} {B : Nat} {e : TypeId} {size n : Nat} {cs : List Value} (hW : Below B w0 w) (hc : w.cell? ⟨B, 0, none⟩ = some x) (hf : w.frozen? ⟨B, 0, none⟩ = false) (hne : ∀ k, u.ownBlock = some k → B + 1 ≤ k) (hg : (w.alloc o).grownBy w1 u.ownBlock)
  {v : Value} (h1 : w1.ownsRow (B + 1) e size v n cs) :
  (w1.setCell ⟨B, 0, none⟩ v).cell? ⟨B, 0, none⟩ = some v ∧ (w1.setCell ⟨B, 0, none⟩ v).frozen? ⟨B, 0, none⟩ = false ∧ (w1.setCell ⟨B, 0, none⟩ v).ownsRow (B + 1) e size v n cs ∧ Below B w0 (w1.setCell ⟨B, 0, none⟩ v) := by
 have hB : B < w.heap.size := World.block_lt_of_cell? _ _ hc
 refine ⟨World.cell?_setCell_same' _ _ _ (by rw [box_cell hc hne hg]; rfl), by simpa using box_frozen hB hf hne hg, ownsRow_setCell_below h1 (Nat.lt_succ_self B) v, ?_⟩
 exact (((hW.alloc (Nat.le_of_lt hB) _)).grown hg (by simp; omega) (fun k hk => Nat.le_of_succ_le (hne k hk))).setCell (p := ⟨B, 0, none⟩) (Nat.le_refl B) v
theorem lensPack_calls (w : World) (A : Option Addr) (n c : Nat) (xs : List Int) (ht : Tabs w) (hx : RI .i64 w A n xs) (hn : n ≤ 1048576) :
  Calls Tryz.prog 101 #[.slice A n c] w (Packed w xs) := by
 have HT := Lib.hid ht
 have HX := Lib.hid hx
 have HL := Lib.hid hx.len
 clear hx ht
 by_cases hbig : 316 < n
 ·have e1 : decide (316 < n) = true := by simpa using hbig
  go_enter Tryz.func101, Tryz.ntmps101
  go_wp2_with fail
  go_ret2
  exact Or.inr ⟨Or.inl (by have := HL.out; omega), rfl, Below.refl _ _⟩
 ·have e1 : decide (316 < n) = false := by simpa using hbig
  go_enter Tryz.func101, Tryz.ntmps101
  go_wp2_with fail
  refine (lengths_calls w _ _ _ xs HX.out (by omega)).mono ?_
  rintro e w' ⟨rfl, hdr⟩
  have HDR := Lib.hid hdr
  clear hdr
  cases hb : anyBad xs with
  | true =>
   have HB := Lib.hid hb
   clear hb
   go_wp2_with fail
   go_ret2
   exact Or.inr ⟨Or.inr HB.out, rfl, Dr.below HDR.out⟩
  | false =>
   have HB := Lib.hid hb
   clear hb e1
   have HSZ : Hid (w'.heap.size = w.heap.size) := by obtain ⟨q, rfl⟩ := HDR.out; rfl
   go_wp2_with fail
   have HW0 : Hid (Below w'.heap.size w' (w'.alloc (.cells #[.slice none 0 0] 159))) := (Below.refl _ _).alloc (Nat.le_refl _) _
   have HT0 : Hid (Tabs w') := HT.out.keeps (HDR.out.keeps (S := [])) (by simp)
   have HX0 : Hid (RI .i64 w' A n xs) := HX.out.keeps (HDR.out.keeps (S := [])) (off_nil _)
   have HG : Hid (gtop ≤ w'.heap.size) := HT0.out.size
   clear HX HT
   go_loopw [6] (fun i wr => ∃ (k : Nat) (out : List (Int × Int)) (u : Value), k ≤ n ∧ i = .int .i64 k ∧ wr.cell? ⟨w'.heap.size, 0, none⟩ = some u ∧ wr.frozen? ⟨w'.heap.size, 0, none⟩ = false ∧ Hid (wr.ownsRow (w'.heap.size + 1) 163 2 u out.length (pcells out)) ∧ Hid (out ++ packF (xs.drop k) = packF xs) ∧ out.length ≤ k ∧ Hid (Below w'.heap.size w' wr) ∧ w'.heap.size < wr.heap.size) (fun i _ => n - (intOf i).toNat)
   case atStart => exact ⟨0, [], .slice none 0 0, by omega, rfl, by simp, by simp, Lib.hid (World.ownsRow_nil _ _ _ _), Lib.hid (by simp), by simp, HW0, by simp⟩
   case round =>
    clear HW0
    obtain ⟨k, out, u, hk, rfl, hbc, hbf, HO, HP, hol, HW, hsz⟩ := hrel
    by_cases hlt : k < n
    ·obtain ⟨b, o, rfl, hc1⟩ := HX0.out.at hlt
     have hc1' := (Keeps.of_below (S := []) HW.out).cell (by simp) hc1
     clear hc1
     go_upto_block 2 with (fail)
     go_cut [6, 8] (fun v6 v8 wc => ∃ m : Nat, m + k ≤ n ∧ 1 ≤ m ∧ v6 = .int .i64 ((k : Int) + m) ∧ v8 = .int .i64 m ∧ Hid (RunOk xs k m) ∧ Hid (Dr wr wc))
     case first =>
      go_wp2_with fail
      go_loopw [6, 8] (fun v6 v8 wi => ∃ m : Nat, m + k ≤ n ∧ v6 = .int .i64 ((k : Int) + m) ∧ v8 = .int .i64 m ∧ Hid (Run0 xs k m) ∧ Hid (Dr wr wi)) (fun _ v8 _ => n - (intOf v8).toNat)
      case atStart => exact ⟨0, by omega, by go_num, rfl, Lib.hid ⟨by have := HL.out; omega, fun j hj => by omega⟩, ⟨0, rfl⟩⟩
      case round =>
       obtain ⟨m, hm, rfl, rfl, HR, HD⟩ := hrel
       obtain ⟨q1, rfl⟩ := HD.out
       clear HD
       by_cases h1 : k + m < n
       ·obtain ⟨b', o', he, hc2⟩ := HX0.out.at h1
        injection he with he; injection he with he1 he2 he3; subst he1; subst he2; clear he3
        have hc2' := (Keeps.of_below (S := []) HW.out).cell (by simp) hc2
        clear hc2
        have e2 : (0 : Int) ≤ (k : Int) + (m : Int) := by omega
        have e3 : ((k : Int) + (m : Int)).toNat = k + m := by omega
        have e4 : decide ((k : Int) + (m : Int) < (n : Int)) = true := by simp; omega
        by_cases hv : nth xs (k + m) = nth xs k
        ·have e5 : (nth xs (k + m) == nth xs k) = true := by simpa using hv
         have HV := Lib.hid hv
         clear hv
         go_wp2_with fail
         clear e2 e3 e4 e5
         go_wp2_with fail
         go_roundw
         case rel => exact ⟨m + 1, by omega, by go_num, by go_num, Lib.hid (HR.out.step (by have := HL.out; omega) HV.out), Lib.hid (by first | exact ⟨_, rfl⟩ | exact Dr.step ⟨_, rfl⟩ _)⟩
         case measure => simp [intOf]; omega
        ·have e5 : (nth xs (k + m) == nth xs k) = false := by simpa using hv
         have HV := Lib.hid hv
         clear hv
         go_wp2_with fail
         clear e2 e3 e4 e5
         go_wp2_with fail
         go_meet
         case rel => exact ⟨m, by omega, HR.out.one (by have := HL.out; omega) (fun _ => HV.out), rfl, rfl, Lib.hid { one := HR.out.one (by have := HL.out; omega) (fun _ => HV.out), le := HR.out.le, eq := HR.out.eq, stop := fun _ => HV.out }, Lib.hid (by first | exact ⟨_, rfl⟩ | exact Dr.step ⟨_, rfl⟩ _)⟩
       ·have e4 : decide ((k : Int) + (m : Int) < (n : Int)) = false := by simp; omega
        go_wp2_with fail
        clear e4
        go_wp2_with fail
        go_meet
        case rel => exact ⟨m, by omega, by omega, rfl, rfl, Lib.hid { one := by omega, le := HR.out.le, eq := HR.out.eq, stop := fun h => absurd h (by have := HL.out; omega) }, Lib.hid (by first | exact ⟨_, rfl⟩ | exact Dr.step ⟨_, rfl⟩ _)⟩
     case rest =>
      obtain ⟨m, hm, hm1, rfl, rfl, HR, HD⟩ := hcut
      have HO1 : Hid (wc.ownsRow (w'.heap.size + 1) 163 2 u out.length (pcells out)) := by obtain ⟨q1, rfl⟩ := HD.out; exact HO.out
      have HW1 : Hid (Below w'.heap.size w' wc) := by obtain ⟨q1, rfl⟩ := HD.out; exact (HW.out.trans ((Dr.below ⟨q1, rfl⟩).mono HW.out.size))
      have hbc1 : wc.cell? ⟨w'.heap.size, 0, none⟩ = some u := by obtain ⟨q1, rfl⟩ := HD.out; exact hbc
      have hbf1 : wc.frozen? ⟨w'.heap.size, 0, none⟩ = false := by obtain ⟨q1, rfl⟩ := HD.out; exact hbf
      clear HD HO HW hbc hbf hc1'
      have HT1 := Lib.hid (HT0.out.below HW1.out HG.out)
      have hsz1 : w'.heap.size < wc.heap.size := World.block_lt_of_cell? _ _ hbc1
      go_upto_if 43 with (fail)
      go_cut [8] (fun v8 wc => ∃ (r : Nat) (es : List (Int × Int)) (u : Value), r + es.length ≤ m ∧ v8 = .int .i64 r ∧ Hid (es ++ List.replicate r (nth xs k, 0) = rsteps (nth xs k) m) ∧ wc.cell? ⟨w'.heap.size, 0, none⟩ = some u ∧ wc.frozen? ⟨w'.heap.size, 0, none⟩ = false ∧ Hid (wc.ownsRow (w'.heap.size + 1) 163 2 u (out.length + es.length) (pcells (out ++ es))) ∧ Hid (Below w'.heap.size w' wc))
      case first =>
       by_cases hz : nth xs k = 0
       ·have e5 : (nth xs k == 0) = true := by simpa using hz
        have HZ := Lib.hid hz
        clear hz
        go_wp2_with fail
        refine (pack1_calls _ _ m 11 18 138 u out.length out HT1.out HG.out hbc1 hbf1 HO1.out (by omega) rfl (by omega) (by omega) (by omega) (by omega) (by omega)).mono ?_
        rintro e w2 ⟨u2, rfl, hc2, hf2, ho2, hb2⟩
        have hl1 := reps_len 11 18 138 m (by omega) (by omega)
        have hl2 := reps_len 3 17 10 (left 11 138 m) (by omega) (by omega)
        have HO2 := Lib.hid ho2
        have HB2 := Lib.hid hb2
        clear ho2 hb2 HO1 hbc1 hbf1 e5
        have HT2 := Lib.hid (HT1.out.below HB2.out HG.out)
        go_wp2_with fail
        refine (pack1_calls _ _ (left 11 138 m) 3 17 10 u2 _ _ HT2.out HG.out hc2 hf2 HO2.out (by omega) rfl (by omega) (by omega) (by omega) (by omega) (by omega)).mono ?_
        rintro e w3 ⟨u3, rfl, hc3, hf3, ho3, hb3⟩
        have HO3 := Lib.hid ho3
        have HB3 := Lib.hid hb3
        clear ho3 hb3 HO2 hc2 hf2
        go_wp2_with fail
        go_meet
        case rel =>
         refine ⟨_, reps 11 18 138 m ++ reps 3 17 10 (left 11 138 m), u3, ?_, rfl, ?_, hc3, hf3, ?_, Lib.hid ((HW1.out.trans HB2.out).trans HB3.out)⟩
         ·rw [List.length_append]; omega
         ·rw [HZ.out]; exact Lib.hid (by simp [rsteps, zsteps])
         ·exact Lib.hid (by have := HO3.out; rw [List.length_append, ← Nat.add_assoc, ← List.append_assoc]; exact this)
       ·have e5 : (nth xs k == 0) = false := by simpa using hz
        have HZ := Lib.hid hz
        clear hz
        go_wp2_with (at_builtin; refine app_step rfl (.tmp 49) (.tmp 52) rfl (w'.heap.size + 1) _ _ _ rfl (HO1.out.alloc _) wc.heap.size (nth xs k) 0 rfl (by simp) (by simp) (by omega) (by simp; omega) ?_)
        intro v' w1 h1 hg g' c' hv
        subst hv
        have hcx := box_cell hbc1 (fun k hk => (HO1.out.lt k hk).1) hg
        have hfx := box_frozen hsz1 hbf1 (fun k hk => (HO1.out.lt k hk).1) hg
        obtain ⟨hc2, hf2, ho2, hb2⟩ := box_put HW1.out hbc1 hbf1 (fun k hk => (HO1.out.lt k hk).1) hg h1
        have HO2 := Lib.hid ho2
        have HB2 := Lib.hid hb2
        have HT2 := Lib.hid (HT0.out.below HB2.out HG.out)
        clear ho2 hb2 HO1 hbc1 hbf1 e5 h1 hg HW1
        have hl2 := reps_len 3 16 6 (m - 1) (by omega) (by omega)
        have em : (m : Int) - 1 = ((m - 1 : Nat) : Int) := by omega
        go_wp2_with fail
        clear hcx hfx
        refine (pack1_calls _ _ (m - 1) 3 16 6 _ _ _ HT2.out HG.out hc2 hf2 HO2.out (by omega) rfl (by omega) (by omega) (by omega) (by omega) (by omega)).mono ?_
        rintro e w3 ⟨u3, rfl, hc3, hf3, ho3, hb3⟩
        have HO3 := Lib.hid ho3
        have HB3 := Lib.hid hb3
        clear ho3 hb3 HO2 hc2 hf2 em
        go_wp2_with fail
        go_meet
        case rel =>
         refine ⟨_, (nth xs k, 0) :: reps 3 16 6 (m - 1), u3, ?_, rfl, ?_, hc3, hf3, ?_, Lib.hid (HB2.out.trans HB3.out)⟩
         ·rw [List.length_cons]; omega
         ·exact Lib.hid (by simp [rsteps, vsteps, HZ.out])
         ·exact Lib.hid (by have := HO3.out; rw [List.length_cons, show out.length + ((reps 3 16 6 (m - 1)).length + 1) = out.length + 1 + (reps 3 16 6 (m - 1)).length by omega]; simpa using this)
      case rest =>
       clear HO1 hbc1 hbf1 HW1 HT1 hsz1
       obtain ⟨r, es, u1, hre, rfl, HE, hc1, hf1, HO1, HW1⟩ := hcut
       go_wp2_with fail
       go_loopw [59] (fun v59 wr => ∃ (j : Nat) (u : Value), j ≤ r ∧ v59 = .int .i64 j ∧ wr.cell? ⟨w'.heap.size, 0, none⟩ = some u ∧ wr.frozen? ⟨w'.heap.size, 0, none⟩ = false ∧ Hid (wr.ownsRow (w'.heap.size + 1) 163 2 u (out.length + es.length + j) (pcells (out ++ (es ++ List.replicate j (nth xs k, 0))))) ∧ Hid (Below w'.heap.size w' wr)) (fun v59 _ => r - (intOf v59).toNat)
       case atStart => exact ⟨0, u1, by omega, rfl, hc1, hf1, Lib.hid (by simpa using HO1.out), HW1⟩
       case round =>
        clear HO1 HW1 hc1 hf1
        obtain ⟨j, u2, hj, rfl, hc1, hf1, HO1, HW1⟩ := hrel
        have hsz1 : w'.heap.size < wr.heap.size := World.block_lt_of_cell? _ _ hc1
        by_cases hjr : j < r
        ·go_wp2_with (at_builtin; refine app_step rfl (.tmp 61) (.tmp 64) rfl (w'.heap.size + 1) _ _ _ rfl (HO1.out.alloc _) wr.heap.size (nth xs k) 0 rfl (by simp) (by simp) (by omega) (by simp; omega) ?_)
         intro v' w1 h1 hg g' c' hv
         subst hv
         have hcx := box_cell hc1 (fun k hk => (HO1.out.lt k hk).1) hg
         have hfx := box_frozen hsz1 hf1 (fun k hk => (HO1.out.lt k hk).1) hg
         obtain ⟨hc2, hf2, ho2, hb2⟩ := box_put HW1.out hc1 hf1 (fun k hk => (HO1.out.lt k hk).1) hg h1
         have HO2 := Lib.hid ho2
         have HB2 := Lib.hid hb2
         clear ho2 hb2 HO1 hc1 hf1 h1 hg HW1
         go_wp2_with fail
         go_roundw
         case rel => exact ⟨j + 1, _, by omega, by go_num, hc2, hf2, Lib.hid (by rw [List.replicate_succ']; simpa [Nat.add_assoc] using HO2.out), HB2⟩
         case measure => simp [intOf]; omega
        ·obtain rfl : j = r := by omega
         go_wp2_with fail
         go_roundw
         case rel =>
          have hpk := HR.out.pack
          have hp := HP.out
          have hrl := rsteps_len (nth xs k) m hm1
          rw [hpk, ← List.append_assoc] at hp
          have ho := HO1.out
          rw [HE.out] at ho
          exact ⟨k + m, out ++ rsteps (nth xs k) m, u2, by omega, by go_num, hc1, hf1, Lib.hid (own_as ho rfl), Lib.hid hp, by rw [List.length_append]; omega, HW1, hsz1⟩
         case measure => simp [intOf]; omega
    ·go_wp2_with fail
     obtain rfl : k = n := by omega
     go_ret2
     have e1 : xs.drop k = [] := List.drop_eq_nil_of_le (by have := HL.out; omega)
     have e2 := HP.out
     rw [e1, packF_nil, List.append_nil] at e2
     subst e2
     exact Or.inl ⟨by have := HL.out; omega, HB.out, _, rfl, (HO.out.mono (by have := HSZ.out; omega)), (Dr.below HDR.out).trans (HSZ.out ▸ HW.out)⟩
end Go.Proofs.YtghjlpechjggjaaGreatDoor
namespace Go.Proofs.YtghjlpechjggjaaGreatDoor
open Go.RowKit
theorem concat_calls (w : World) (gb : Nat) (A1 A2 : Option Addr) (n1 n2 c1 c2 : Nat) (xs ys : List Int) (h0 : w.cell? ⟨gb, 0, none⟩ = some (.slice A1 n1 c1)) (h1 : w.cell? ⟨gb, 1, none⟩ = some (.slice A2 n2 c2))
  (hx : RI .i64 w A1 n1 xs) (hy : RI .i64 w A2 n2 ys) (hnx : A1 = none → n1 = 0 ∧ c1 = 0) (hny : A2 = none → n2 = 0 ∧ c2 = 0) (hpx : ∀ ad, A1 = some ad → ∃ b o, ad = ⟨b, o, none⟩) (hpy : ∀ ad, A2 = some ad → ∃ b o, ad = ⟨b, o, none⟩)
  (hn1 : n1 ≤ 1000000000) (hn2 : n2 ≤ 1000000000) :
  Calls Tryz.prog 60 #[.slice (some ⟨gb, 0, none⟩) 2 2] w fun e w' => ∃ v, e = .returned v ∧ w'.ownsRow w.heap.size 3 1 v (n1 + n2) (ints .i64 (xs ++ ys)) ∧ Below w.heap.size w w' := by
 have HX := Lib.hid hx
 have HY := Lib.hid hy
 have NX := Lib.hid hnx
 have NY := Lib.hid hny
 have PX := Lib.hid hpx
 have PY := Lib.hid hpy
 have H0 := Lib.hid h0
 have H1 := Lib.hid h1
 have e1 : decide ((n1 : Int) < 0) = false := by simp
 have e2 : decide ((n1 : Int) + n2 < 0) = false := by simp; omega
 clear hx hy hnx hny hpx hpy
 go_enter Tryz.func60, Tryz.ntmps60
 go_wp2_with fail
 refine wp_loop_rounds 3 ?_
 rw [rounds_succ]
 go_wp2_with fail
 rw [rounds_succ]
 go_wp2_with fail
 rw [rounds_succ]
 go_wp2_with fail
 rw [show ((n1 : Int) + n2) = ((n1 + n2 : Nat) : Int) by omega]
 refine (grow_calls _ (n1 + n2) (by omega)).mono ?_
 rintro _ w1 ⟨v, rfl, ho, hb⟩
 have HO := Lib.hid (ho w.heap.size (Nat.le_refl _))
 have HB := Lib.hid hb
 have hz := hb.size
 have h0 := (Keeps.of_below (S := []) hb).cell (by simp) H0.out
 have h1 := (Keeps.of_below (S := []) hb).cell (by simp) H1.out
 clear ho hb e1 e2
 go_wp2_with fail
 refine wp_loop_rounds 3 ?_
 rw [rounds_succ]
 go_wp2_with (at_builtin; refine app_intsG rfl (.tmp 31) (.tmp 32) rfl w.heap.size _ _ [] rfl HO.out A1 n1 c1 xs rfl (HX.out.keeps (Keeps.of_below (S := []) HB.out) (off_nil _)) NX.out PX.out (by omega) hz ?_)
 intro v2 w2 ho hg
 have HO2 := Lib.hid ho
 have hb2 := HB.out.grown hg (Nat.le_trans (Nat.le_refl _) hz) (fun k hk => own_lo HO.out k hk)
 have HB2 := Lib.hid hb2
 have hz2 := hb2.size
 have h0 := (Keeps.of_below (S := []) hb2).cell (by simp) H0.out
 have h1 := (Keeps.of_below (S := []) hb2).cell (by simp) H1.out
 clear ho hg hb2
 go_wp2_with fail
 rw [rounds_succ]
 go_wp2_with (at_builtin; refine app_intsG rfl (.tmp 31) (.tmp 32) rfl w.heap.size _ _ _ rfl HO2.out A2 n2 c2 ys rfl (HY.out.keeps (Keeps.of_below (S := []) HB2.out) (off_nil _)) NY.out PY.out (by omega) hz2 ?_)
 intro v3 w3 ho hg
 have HO3 := Lib.hid ho
 have hb3 := HB2.out.grown hg hz2 (fun k hk => own_lo HO2.out k hk)
 have HB3 := Lib.hid hb3
 clear ho hg hb3 h0 h1
 go_wp2_with fail
 rw [rounds_succ]
 go_wp2_with fail
 go_ret
 exact ⟨_, rfl, HO3.out, HB3.out⟩
theorem concat_from (w0 w : World) (gb : Nat) (A1 A2 : Option Addr) (n1 n2 c1 c2 : Nat) (xs ys : List Int) (hk : Keeps [] w0 w) (h0 : w.cell? ⟨gb, 0, none⟩ = some (.slice A1 n1 c1)) (h1 : w.cell? ⟨gb, 1, none⟩ = some (.slice A2 n2 c2))
  (hx : RI .i64 w0 A1 n1 xs) (hy : RI .i64 w0 A2 n2 ys) (hnx : A1 = none → n1 = 0 ∧ c1 = 0) (hny : A2 = none → n2 = 0 ∧ c2 = 0) (hpx : ∀ ad, A1 = some ad → ∃ b o, ad = ⟨b, o, none⟩) (hpy : ∀ ad, A2 = some ad → ∃ b o, ad = ⟨b, o, none⟩)
  (hn1 : n1 ≤ 1000000000) (hn2 : n2 ≤ 1000000000) :
  Calls Tryz.prog 60 #[.slice (some ⟨gb, 0, none⟩) 2 2] w fun e w' => ∃ A c, e = .returned (.slice A (n1 + n2) c) ∧ w'.ownsRow w0.heap.size 3 1 (.slice A (n1 + n2) c) (n1 + n2) (ints .i64 (xs ++ ys)) ∧ Keeps [] w0 w' := by
 refine (concat_calls w gb A1 A2 n1 n2 c1 c2 xs ys h0 h1 (hx.keeps hk (off_nil _)) (hy.keeps hk (off_nil _)) hnx hny hpx hpy hn1 hn2).mono ?_
 rintro e w' ⟨v, rfl, ho, hb⟩
 have ho2 := ho.mono hk.size
 have hf : ∃ A c, v = .slice A (n1 + n2) c := by
  rcases ho.2 with ⟨rfl, h0⟩ | ⟨g, cap, cur, rfl, _⟩
  ·exact ⟨none, 0, by rw [h0]⟩
  ·exact ⟨_, _, rfl⟩
 obtain ⟨A, c, rfl⟩ := hf
 exact ⟨A, c, rfl, ho2, hk.trans (Keeps.of_below hb)⟩
end Go.Proofs.YtghjlpechjggjaaGreatDoor
namespace Go.Proofs.YtghjlpechjggjaaGreatDoor
open Go.RowKit
structure Pk where
 w : Int
 a : Option Addr
 n : Nat
 c : Nat
instance : Inhabited Pk := ⟨⟨0, none, 0, 0⟩⟩
def kcells : List Pk → List Value
 | [] => []
 | p :: r => .int .i64 p.w :: .slice p.a p.n p.c :: kcells r
theorem kcells_append (xs ys : List Pk) : kcells (xs ++ ys) = kcells xs ++ kcells ys := by
 induction xs with
 | nil => rfl
 | cons p r ih => simp [kcells, ih]
theorem kcells_length (xs : List Pk) : (kcells xs).length = xs.length * 2 := by
 induction xs with
 | nil => rfl
 | cons p r ih => simp [kcells, ih]; omega
theorem kcells_one (xs : List Pk) : ∀ v ∈ kcells xs, v.oneCell' = true := by
 induction xs with
 | nil => simp [kcells]
 | cons p r ih =>
  intro v hv
  simp only [kcells, List.mem_cons] at hv
  rcases hv with rfl | rfl | h
  ·rfl
  ·rfl
  ·exact ih v h
def kth (xs : List Pk) (j : Nat) : Pk := xs.getD j default
theorem kth_lt {xs : List Pk} {j : Nat} (h : j < xs.length) : kth xs j = xs[j] := by simp [kth, List.getD, h]
theorem kcells_get (xs : List Pk) (R : List Value) : ∀ j, j < xs.length → (kcells xs ++ R)[j * 2]? = some (.int .i64 (kth xs j).w) ∧ (kcells xs ++ R)[j * 2 + 1]? = some (.slice (kth xs j).a (kth xs j).n (kth xs j).c) := by
 induction xs with
 | nil => intro j hj; simp at hj
 | cons p r ih =>
  intro j hj
  match j with
  | 0 => exact ⟨rfl, rfl⟩
  | j + 1 =>
   have := ih j (by simpa using hj)
   rw [show (j + 1) * 2 = j * 2 + 1 + 1 by omega]
   exact this
theorem kcells_set (xs : List Pk) (R : List Value) (p : Pk) : ∀ j, j < xs.length → ((kcells xs ++ R).set (j * 2) (.int .i64 p.w)).set (j * 2 + 1) (.slice p.a p.n p.c) = kcells (xs.set j p) ++ R := by
 induction xs with
 | nil => intro j hj; simp at hj
 | cons q r ih =>
  intro j hj
  match j with
  | 0 => rfl
  | j + 1 =>
   have := ih j (by simpa using hj)
   rw [show (j + 1) * 2 = j * 2 + 1 + 1 by omega]
   simp only [kcells, List.cons_append, List.set_cons_succ, this]
def PB (w : World) (g : Nat) (L : List Pk) (R : List Value) : Prop := Blk w g 154 (kcells L ++ R)
theorem PB.lt {w : World} {g : Nat} {L : List Pk} {R : List Value} (h : PB w g L R) : g < w.heap.size := Blk.lt h
theorem PB.keeps {S : List Nat} {w w' : World} {g : Nat} {L : List Pk} {R : List Value} (h : PB w g L R) (hk : Keeps S w w') (hn : g ∉ S) : PB w' g L R := Blk.keeps h hk hn
theorem PB.cell {w : World} {g : Nat} {L : List Pk} {R : List Value} (h : PB w g L R) {j : Nat} (hj : j < L.length) :
  w.cell? ⟨g, j * 2, none⟩ = some (.int .i64 (kth L j).w) ∧ w.cell? ⟨g, j * 2 + 1, none⟩ = some (.slice (kth L j).a (kth L j).n (kth L j).c) := by
 have := kcells_get L R j hj
 exact ⟨(Blk.cell h _).trans this.1, (Blk.cell h _).trans this.2⟩
theorem PB.free {w : World} {g : Nat} {L : List Pk} {R : List Value} (h : PB w g L R) (j : Nat) : w.frozen? ⟨g, j, none⟩ = false := Blk.frozen h j
theorem PB.set {w : World} {g : Nat} {L : List Pk} {R : List Value} (h : PB w g L R) {j : Nat} (hj : j < L.length) (p : Pk) :
  PB ((w.setCell ⟨g, j * 2, none⟩ (.int .i64 p.w)).setCell ⟨g, j * 2 + 1, none⟩ (.slice p.a p.n p.c)) g (L.set j p) R := by
 have h1 := Blk.set h (j * 2) (.int .i64 p.w)
 have h2 := Blk.set h1 (j * 2 + 1) (.slice p.a p.n p.c)
 rw [kcells_set L R p j hj] at h2
 exact h2
theorem PB.dr {w w' : World} {g : Nat} {L : List Pk} {R : List Value} (h : PB w g L R) (hd : Dr w w') : PB w' g L R := h.keeps (hd.keeps (S := [])) (by simp)
theorem Keeps.put {w w' : World} {g j : Nat} (h : Keeps [g] w w') (u : Value) : Keeps [g] w (w'.setCell ⟨g, j, none⟩ u) := h.setCell (Or.inl (by simp)) u
def pv (p : Pk) : Value := .agg #[.int .i64 p.w, .slice p.a p.n p.c]
theorem lighter_calls (w : World) (x y : Int) (xa ya : Option Addr) (xn xc yn yc : Nat) (hx0 : 0 ≤ x) (hx : x ≤ 100000000000000000) (hy0 : 0 ≤ y) (hy : y ≤ 100000000000000000) :
  Calls Tryz.prog 97 #[.agg #[.int .i64 x, .slice xa xn xc], .agg #[.int .i64 y, .slice ya yn yc]] w fun e w' => e = .returned (.int .i64 (x - y)) ∧ Keeps [] w w' := by
 go_enter Tryz.func97, Tryz.ntmps97
 go_wp2
 go_ret
 exact ⟨rfl, by repeat (first | exact Keeps.refl _ _ | apply Keeps.drewN | apply Keeps.drew | apply Keeps.alloc)⟩
end Go.Proofs.YtghjlpechjggjaaGreatDoor
namespace Go.Proofs.YtghjlpechjggjaaGreatDoor
open Go.RowKit
def swp (L : List Pk) (i j : Nat) : List Pk := (L.set i (kth L j)).set j (kth L i)
theorem swp_length (L : List Pk) (i j : Nat) : (swp L i j).length = L.length := by simp [swp]
def swpN (L : List Pk) (a b : Nat) : Nat → List Pk
 | 0 => L
 | n + 1 => swp (swpN L a b n) (a + n) (b + n)
theorem swpN_length (L : List Pk) (a b n : Nat) : (swpN L a b n).length = L.length := by
 induction n with
 | zero => rfl
 | succ n ih => rw [swpN, swp_length, ih]
theorem set_two (L : List Pk) (i j : Nat) (hi : i < L.length) (hj : j < L.length) (w : World) (g : Nat) (R : List Value) (h : PB w g L R) (hij : i ≠ j) :
  PB ((((w.setCell ⟨g, i * 2, none⟩ (.int .i64 (kth L j).w)).setCell ⟨g, i * 2 + 1, none⟩ (.slice (kth L j).a (kth L j).n (kth L j).c)).setCell ⟨g, j * 2, none⟩ (.int .i64 (kth L i).w)).setCell ⟨g, j * 2 + 1, none⟩ (.slice (kth L i).a (kth L i).n (kth L i).c)) g (swp L i j) R :=
 (h.set hi (kth L j)).set (by simpa using hj) (kth L i)
theorem swapRange_calls (w : World) (g : Nat) (L : List Pk) (R : List Value) (m c a b n : Nat) (fv : Value) (h : PB w g L R) (hm : m = L.length) (hab : a + n ≤ b) (hb : b + n ≤ m) (hsz : m ≤ 1000000) :
  Calls Tryz.prog 175 #[.slice (some ⟨g, 0, none⟩) m c, .int .i64 a, .int .i64 b, .int .i64 n, fv] w fun e w' => e = .returned (.tuple #[]) ∧ PB w' g (swpN L a b n) R ∧ Keeps [g] w w' := by
 have H := Lib.hid h
 have HM := Lib.hid hm
 clear h hm
 go_enter Tryz.func175, Tryz.ntmps175
 go_wp2_with fail
 go_loopw [10] (fun i wr => ∃ k : Nat, k ≤ n ∧ i = .int .i64 k ∧ Hid (PB wr g (swpN L a b k) R) ∧ Hid (Keeps [g] w wr)) (fun i _ => n - (intOf i).toNat)
 case atStart => exact ⟨0, by omega, rfl, H, Lib.hid (Keeps.refl _ _)⟩
 case round =>
  obtain ⟨k, hk, rfl, HB, HK⟩ := hrel
  by_cases hlt : k < n
  ·have hl := swpN_length L a b k
   have HL := Lib.hid hl
   have HS : Hid (swpN L a b (k + 1) = swp (swpN L a b k) (a + k) (b + k)) := rfl
   clear hl
   generalize swpN L a b k = M at *
   obtain ⟨p1, p2⟩ := HB.out.cell (j := a + k) (by have := HL.out; have := HM.out; omega)
   obtain ⟨q1, q2⟩ := HB.out.cell (j := b + k) (by have := HL.out; have := HM.out; omega)
   have f1 := HB.out.free ((a + k) * 2)
   have f2 := HB.out.free ((a + k) * 2 + 1)
   have f3 := HB.out.free ((b + k) * 2)
   have f4 := HB.out.free ((b + k) * 2 + 1)
   have s1 : ((a : Int) + k).toNat = a + k := by omega
   have s2 : ((b : Int) + k).toNat = b + k := by omega
   have s3 : (0 : Int) ≤ (a : Int) + k := by omega
   have s4 : (0 : Int) ≤ (b : Int) + k := by omega
   have s5 : (a : Int) + k < (m : Int) := by omega
   have s6 : (b : Int) + k < (m : Int) := by omega
   go_wp2_with fail
   go_region
   go_wp2_with fail
   go_roundw
   case rel =>
    refine ⟨k + 1, by omega, by go_num, Lib.hid ?_, Lib.hid ?_⟩
    ·rw [HS.out]
     exact (set_two M (a + k) (b + k) (by have := HL.out; have := HM.out; omega) (by have := HL.out; have := HM.out; omega) _ g R HB.out (by omega)).dr (Dr.refl _).drew
    ·exact ((((HK.out.put _).put _).put _).put _).drew
   case measure => simp [intOf]; omega
  ·obtain rfl : k = n := by omega
   go_wp2_with fail
   go_end0
   exact ⟨rfl, HB.out, HK.out⟩
end Go.Proofs.YtghjlpechjggjaaGreatDoor
namespace Go.Proofs.YtghjlpechjggjaaGreatDoor
theorem kext {xs ys : List Pk} (hl : xs.length = ys.length) (h : ∀ j, j < xs.length → kth xs j = kth ys j) : xs = ys := by
 refine List.ext_getElem hl fun j h1 h2 => ?_
 have := h j h1
 rwa [kth_lt h1, kth_lt h2] at this
theorem kth_app (xs ys : List Pk) (j : Nat) : kth (xs ++ ys) j = if j < xs.length then kth xs j else kth ys (j - xs.length) := by
 simp only [kth, List.getD_eq_getElem?_getD, List.getElem?_append]
 split <;> rfl
theorem kth_set (xs : List Pk) (i j : Nat) (p : Pk) (hi : i < xs.length) : kth (xs.set i p) j = if j = i then p else kth xs j := by
 simp only [kth, List.getD_eq_getElem?_getD, List.getElem?_set]
 by_cases h : i = j
 ·subst h; simp [hi]
 ·rw [if_neg h, if_neg (fun e => h e.symm)]
theorem kth_swp (L : List Pk) (i j k : Nat) (hi : i < L.length) (hj : j < L.length) : kth (swp L i j) k = if k = j then kth L i else if k = i then kth L j else kth L k := by
 rw [swp, kth_set _ _ _ _ (by simpa using hj), kth_set _ _ _ _ hi]
theorem kth_swpN (L : List Pk) (a b : Nat) (n : Nat) (hab : a + n ≤ b) (hb : b + n ≤ L.length) (k : Nat) :
  kth (swpN L a b n) k = if a ≤ k ∧ k < a + n then kth L (k - a + b) else if b ≤ k ∧ k < b + n then kth L (k - b + a) else kth L k := by
 induction n generalizing k with
 | zero => rw [if_neg (by omega), if_neg (by omega)]; rfl
 | succ n ih =>
  have h1 := ih (by omega) (by omega)
  have ha : kth (swpN L a b n) (a + n) = kth L (a + n) := by rw [h1, if_neg (by omega), if_neg (by omega)]
  have hb' : kth (swpN L a b n) (b + n) = kth L (b + n) := by rw [h1, if_neg (by omega), if_neg (by omega)]
  rw [swpN, kth_swp _ _ _ _ (by rw [swpN_length]; omega) (by rw [swpN_length]; omega), ha, hb', h1 k]
  repeat' split
  all_goals first | (exfalso; omega) | rfl | (congr 1; omega)
theorem swpN_parts (x u z v y : List Pk) (h : u.length = v.length) : swpN (x ++ (u ++ (z ++ (v ++ y)))) x.length (x.length + u.length + z.length) u.length = x ++ (v ++ (z ++ (u ++ y))) := by
 have hb : x.length + u.length + z.length + u.length ≤ (x ++ (u ++ (z ++ (v ++ y)))).length := by simp only [List.length_append]; omega
 refine kext (by rw [swpN_length]; simp only [List.length_append]; omega) fun j hj => ?_
 rw [kth_swpN _ _ _ _ (by omega) hb]
 simp only [kth_app]
 by_cases c1 : j < x.length
 ·rw [if_neg (by omega), if_neg (by omega), if_pos c1, if_pos c1]
 ·by_cases c2 : j < x.length + u.length
  ·rw [if_pos (by omega), if_neg (by omega), if_neg (by omega), if_neg (by omega), if_pos (by omega), if_neg c1, if_pos (by omega)]
   congr 1; omega
  ·by_cases c3 : j < x.length + u.length + z.length
   ·rw [if_neg (by omega), if_neg (by omega), if_neg c1, if_neg (by omega), if_pos (by omega), if_neg c1, if_neg (by omega), if_pos (by omega)]
    congr 1; omega
   ·by_cases c4 : j < x.length + u.length + z.length + u.length
    ·rw [if_neg (by omega), if_pos (by omega), if_neg (by omega), if_pos (by omega), if_neg c1, if_neg (by omega), if_neg (by omega), if_pos (by omega)]
     congr 1; omega
    ·rw [if_neg (by omega), if_neg (by omega), if_neg c1, if_neg (by omega), if_neg (by omega), if_neg (by omega), if_neg c1, if_neg (by omega), if_neg (by omega), if_neg (by omega)]
     congr 1; omega
end Go.Proofs.YtghjlpechjggjaaGreatDoor
namespace Go.Proofs.YtghjlpechjggjaaGreatDoor
def srt (l : List Pk) : Prop := l.Pairwise (fun p q => p.w ≤ q.w)
def ofW (v : Int) (l : List Pk) : List Pk := l.filter (fun p => decide (p.w = v))
def same (r l : List Pk) : Prop := r.Perm l ∧ ∀ v, ofW v r = ofW v l
theorem same.refl (l : List Pk) : same l l := ⟨List.Perm.refl _, fun _ => rfl⟩
theorem same.trans {a b c : List Pk} (h : same a b) (k : same b c) : same a c := ⟨h.1.trans k.1, fun v => (h.2 v).trans (k.2 v)⟩
theorem same.symm {a b : List Pk} (h : same a b) : same b a := ⟨h.1.symm, fun v => (h.2 v).symm⟩
theorem ofW_app (v : Int) (a b : List Pk) : ofW v (a ++ b) = ofW v a ++ ofW v b := List.filter_append ..
theorem same.app {a b c d : List Pk} (h : same a b) (k : same c d) : same (a ++ c) (b ++ d) := ⟨h.1.append k.1, fun v => by rw [ofW_app, ofW_app, h.2, k.2]⟩
theorem same.len {a b : List Pk} (h : same a b) : a.length = b.length := h.1.length_eq
theorem ofW_nil_of {v : Int} {l : List Pk} (h : ∀ p ∈ l, p.w ≠ v) : ofW v l = [] := by
 unfold ofW
 rw [List.filter_eq_nil_iff]
 intro p hp
 simpa using h p hp
theorem same_swap (u v : List Pk) (h : ∀ p ∈ u, ∀ q ∈ v, p.w ≠ q.w) : same (v ++ u) (u ++ v) := by
 refine ⟨List.perm_append_comm, fun x => ?_⟩
 rw [ofW_app, ofW_app]
 by_cases hx : ∃ p ∈ u, p.w = x
 ·obtain ⟨p, hp, rfl⟩ := hx
  rw [ofW_nil_of (l := v) (fun q hq => fun e => h p hp q hq e.symm)]; simp
 ·rw [ofW_nil_of (l := u) (fun p hp e => hx ⟨p, hp, e⟩)]; simp
def SS (r l : List Pk) : Prop := srt r ∧ same r l
theorem srt_app {a b : List Pk} (ha : srt a) (hb : srt b) (h : ∀ p ∈ a, ∀ q ∈ b, p.w ≤ q.w) : srt (a ++ b) := List.pairwise_append.2 ⟨ha, hb, fun p hp q hq => h p hp q hq⟩
theorem srt_left {a b : List Pk} (h : srt (a ++ b)) : srt a := (List.pairwise_append.1 h).1
theorem srt_right {a b : List Pk} (h : srt (a ++ b)) : srt b := (List.pairwise_append.1 h).2.1
theorem srt_le {a b : List Pk} (h : srt (a ++ b)) : ∀ p ∈ a, ∀ q ∈ b, p.w ≤ q.w := fun p hp q hq => (List.pairwise_append.1 h).2.2 p hp q hq
theorem srt_nil : srt [] := List.Pairwise.nil
theorem srt_one (p : Pk) : srt [p] := List.pairwise_singleton _ _
theorem SS.len {r l : List Pk} (h : SS r l) : r.length = l.length := h.2.len
theorem SS.mem {r l : List Pk} (h : SS r l) {p : Pk} : p ∈ r ↔ p ∈ l := h.2.1.mem_iff
theorem SS.of_same {r l l' : List Pk} (h : SS r l) (k : same l l') : SS r l' := ⟨h.1, h.2.trans k⟩
theorem ss_insert {t1 t2 l : List Pk} {e : Pk} (h : SS (t1 ++ t2) l) (h1 : ∀ p ∈ t1, p.w ≤ e.w) (h2 : ∀ p ∈ t2, e.w < p.w) : SS (t1 ++ e :: t2) (l ++ [e]) := by
 refine ⟨srt_app (srt_left h.1) ?_ ?_, ?_⟩
 ·exact List.pairwise_cons.2 ⟨fun p hp => Int.le_of_lt (h2 p hp), srt_right h.1⟩
 ·intro p hp q hq
  rcases List.mem_cons.1 hq with rfl | hq
  ·exact h1 p hp
  ·exact srt_le h.1 p hp q hq
 ·refine same.trans ?_ (h.2.app (same.refl [e]))
  rw [List.append_assoc]
  refine (same.refl t1).app ?_
  exact same_swap t2 [e] (fun p hp q hq => by rw [List.mem_singleton.1 hq]; have := h2 p hp; omega)
theorem swp_adj (A B : List Pk) (p q : Pk) : swp (A ++ p :: q :: B) A.length (A.length + 1) = A ++ q :: p :: B := by
 have h1 : kth (A ++ p :: q :: B) A.length = p := by rw [kth_app, if_neg (by omega), Nat.sub_self]; rfl
 have h2 : kth (A ++ p :: q :: B) (A.length + 1) = q := by rw [kth_app, if_neg (by omega), show A.length + 1 - A.length = 1 by omega]; rfl
 rw [swp, h1, h2, List.set_append_right _ _ (by omega), Nat.sub_self, List.set_append_right _ _ (by omega), show A.length + 1 - A.length = 1 by omega]
 rfl
theorem swp_adj' (A B : List Pk) (p q : Pk) : swp (A ++ p :: q :: B) (A.length + 1) A.length = A ++ q :: p :: B := by
 have h1 : kth (A ++ p :: q :: B) A.length = p := by rw [kth_app, if_neg (by omega), Nat.sub_self]; rfl
 have h2 : kth (A ++ p :: q :: B) (A.length + 1) = q := by rw [kth_app, if_neg (by omega), show A.length + 1 - A.length = 1 by omega]; rfl
 rw [swp, h1, h2, List.set_append_right _ _ (by omega), show A.length + 1 - A.length = 1 by omega, List.set_append_right _ _ (by omega), Nat.sub_self]
 rfl
end Go.Proofs.YtghjlpechjggjaaGreatDoor
