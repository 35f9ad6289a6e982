import Derived.Test.YtcblibefmclloaaDoorIStrI
import Derived.Test.YtcblibefmclloaaDoorIStrH
import Derived.Test.YtcblibefmclloaaDoorIStrA
import Derived.Deep.RegionWith
import Derived.Laws.BytesArg
import Derived.Test.YtcblibefmclloaaDoorIStrC
import Derived.Test.YtcblibefmclloaaDoorIStrB
import Derived.RegionTactic
import Derived.BigQuiet
import Derived.BigRegion
set_option linter.unusedVariables false
set_option linter.unusedSimpArgs false
namespace Go.Proofs.YtcblibefmclloaaDoor
open Go.RowKit
/-- 's[l:]': where it begins. -/
def cutA (A : Option Addr) (l c : Nat) : Option Addr := if c = l then A else A.map (·.add l)
theorem cutA_nil {A : Option Addr} {l c n : Nat} (h : A = none → n = 0 ∧ c = 0) : cutA A l c = none → n - l = 0 ∧ c - l = 0 := by
  unfold cutA
  intro e
  have : A = none := by
    split at e
    · exact e
    · simpa using e
  have := h this
  omega
theorem cutA_pl {A : Option Addr} {l c : Nat} (h : ∀ ad, A = some ad → ∃ b o, ad = ⟨b, o, none⟩) : ∀ ad, cutA A l c = some ad → ∃ b o, ad = ⟨b, o, none⟩ := by
  intro ad e
  unfold cutA at e
  split at e
  · exact h ad e
  · obtain ⟨a, ha, rfl⟩ := Option.map_eq_some_iff.1 e
    obtain ⟨b, o, rfl⟩ := h a ha
    exact ⟨b, o + l, add_plain2 b o l⟩
theorem cutA_blk {A : Option Addr} {l c : Nat} (h : ∀ ad, A = some ad → ∃ b o, ad = ⟨b, o, none⟩) : ∀ ad, cutA A l c = some ad → ∃ a, A = some a ∧ ad.block = a.block := by
  intro ad e
  unfold cutA at e
  split at e
  · exact ⟨ad, e, rfl⟩
  · obtain ⟨a, ha, rfl⟩ := Option.map_eq_some_iff.1 e
    obtain ⟨b, o, rfl⟩ := h a ha
    exact ⟨_, ha, by rw [add_plain2]⟩
theorem RI.cut {k : IntKind} {w : World} {A : Option Addr} {n c : Nat} {xs : List Int} (h : RI k w A n xs) (hpl : ∀ ad, A = some ad → ∃ b o, ad = ⟨b, o, none⟩) {l : Nat} (hl : l ≤ n) (hc : n ≤ c) : RI k w (cutA A l c) (n - l) (xs.drop l) := by
  have hlen := h.len
  refine ⟨by rw [List.length_drop, hlen], fun hp => ?_, fun b o ha j hj => ?_⟩
  · obtain ⟨b, o, rfl⟩ := h.hd (by omega)
    unfold cutA
    rw [if_neg (by omega)]
    exact ⟨b, o + l, by simp [add_plain2]⟩
  · unfold cutA at ha
    rw [if_neg (by omega)] at ha
    obtain ⟨b', o', rfl⟩ := h.hd (by omega)
    simp [add_plain2] at ha
    obtain ⟨rfl, rfl⟩ := ha
    rw [Nat.add_assoc, h.cell b' o' rfl (l + j) (by omega)]
    simp [nth, List.getD]
theorem slice_from8 (w : World) (A : Option Addr) (n c l : Nat) (li : Int) (hli : li = l) (hl : l ≤ n) :
    (Instr.slice 37 (.slice A n c) (some (.int .i64 li)) none none).run Tryd.prog w = .ok (.slice (cutA A l c) (n - l) (c - l)) w := by
  subst hli
  rw [run_slice_l w 37 A n c (by kernel_rfl) .i64 l (by omega) (by omega)]
  have hs : (sizeOf (Tryd.prog.elem 37)).run Tryd.prog w = .ok 1 w := by kernel_rfl
  rw [hs]
  simp [Result.andThen, sliced, cutA]
theorem bclone_calls (w : World) (A : Option Addr) (n c : Nat) (xs : List Int) (hx : RI .u8 w A n xs) (hnil : A = none → n = 0 ∧ c = 0) (hn : n ≤ 4000000000) :
    Calls Tryd.prog 65 #[.slice A n c] w fun e w' => ∃ v, e = .returned v ∧ w'.ownsRow w.heap.size 5 1 v n (ints .u8 xs) ∧ Below w.heap.size w w' := by
  have HX := Lib.hid hx
  have HN := Lib.hid hnil
  clear hx hnil
  go_enter Tryd.func65, Tryd.ntmps65
  cases A with
  | none =>
    obtain ⟨rfl, rfl⟩ := HN.out rfl
    obtain rfl : xs = [] := List.eq_nil_of_length_eq_zero HX.out.len
    have hq := fun w => Lib.run_eql_slice_nil (P := Tryd.prog) w 37 5 none 0 0 0 0 Tryd.underlying37
    go_wp2_with fail
    go_ret
    exact ⟨_, rfl, World.ownsRow_nil _ _ _ _, Below.refl _ _⟩
  | some ad =>
    have hq := fun w => Lib.run_eql_slice_nil (P := Tryd.prog) w 37 5 (some ad) n c 0 0 Tryd.underlying37
    have HO : Hid ((w.alloc (.cells #[] 5)).ownsRow w.heap.size 5 1 (.slice (some ⟨w.heap.size, 0, none⟩) 0 0) 0 (ints .u8 [])) := Lib.hid (World.ownsRow_lit w #[] 0 (Nat.le_refl _) (by decide) rfl)
    have HR := Lib.hid (HX.out.keeps ((Keeps.refl [] w).alloc (.cells #[] 5)) (off_nil _))
    go_wp2_with (at_builtin; refine app_bytes rfl (.tmp 5) (.tmp 6) rfl w.heap.size _ _ [] rfl (by exact HO.out) (some ad) n c xs rfl (by exact HR.out) (by simp) (by omega) (by simp) ?_)
    intro v1 w1 ho1 hg1
    have HB1 := Lib.hid ((((Below.refl w.heap.size w).alloc (Nat.le_refl _) (.cells #[] 5))).grown hg1 (by simp) (fun k hk => (HO.out.lt k hk).1))
    have HO1 := Lib.hid ho1
    clear ho1 hg1
    go_wp2_with fail
    go_ret
    exact ⟨_, rfl, by simpa using HO1.out, HB1.out⟩
/-- What reading all gives. -/
def ReadI (w : World) (bs : List Int) (most : Nat) (r : IRes) (e : Ending) (w' : World) : Prop :=
  ∃ g gr A c q, e = .returned (.tuple #[.pointer (some ⟨g, 0, none⟩), .int .i64 r.2.2]) ∧ IR w' g gr A c bs q most r.1 ∧ (r.2.2 = 0 → q = r.2.1) ∧ w.heap.size ≤ gr ∧ (∀ a, A = some a → gr < a.block) ∧ Below w.heap.size w w'
set_option maxRecDepth 100000 in
set_option maxHeartbeats 1000000 in
theorem iread_calls (w : World) (A : Option Addr) (n c : Nat) (bs : List Int) (most : Nat) (hT : Tabs w) (hr : RI .u8 w A n bs) (hnil : A = none → n = 0 ∧ c = 0) (hbyte : ∀ j, 0 ≤ nth bs j ∧ nth bs j ≤ 255) (hn : n ≤ 4000000000) (hm : most ≤ 16384) :
    Calls Tryd.prog 64 #[.slice A n c, .int .i64 most] w (ReadI w bs most (inflF bs most)) := by
  have HR := Lib.hid hr
  have HN := Lib.hid hnil
  have HT := Lib.hid hT
  have HBY := Lib.hid hbyte
  have HTS := Lib.hid hT.size
  clear hr hnil hT hbyte
  go_enter Tryd.func64, Tryd.ntmps64
  go_wp2_with fail
  refine (newReader_calls w A n c bs HR.out HN.out HBY.out hn).mono ?_
  rintro _ w1 ⟨gr, A1, c1, rfl, hrd, hgr, hA1, hb1⟩
  have hk1 := Keeps.of_below hb1 (S := [])
  have HK1 := Lib.hid hk1
  have HT1 := Lib.hid (HT.out.keeps hk1 (by simp))
  have HRD := Lib.hid hrd
  have HA1 := Lib.hid hA1
  have hgl := hrd.lt
  clear hrd hA1 hb1 hk1 HR HN HBY
  obtain ⟨g, hg⟩ : ∃ g, g = w1.heap.size := ⟨_, rfl⟩
  obtain ⟨w2, hw2⟩ : ∃ w2, w2 = w1.alloc (.cells #[.pointer (some ⟨gr, 0, none⟩), .slice none 0 0, .int .i64 most] 98) := ⟨_, rfl⟩
  have hk2 : Keeps [] w1 w2 := by rw [hw2]; exact (Keeps.refl [] w1).alloc _
  have hb2 : Blk w2 g 98 [.pointer (some ⟨gr, 0, none⟩), .slice none 0 0, .int .i64 most] := by rw [hw2, hg]; exact blk_new w1 _ _
  have HI : Hid (IR w2 g gr A1 c1 bs 0 most []) := Lib.hid ⟨HRD.out.dr hk2, ⟨_, hb2, World.ownsRow_nil _ _ _ _⟩, by omega, fun a ha => by have := (HA1.out a ha).2; omega, by simp, hm, u8_same hb2 (AllU8.nil _)⟩
  have HT2 := Lib.hid (HT1.out.keeps hk2 (by simp))
  have HK2 := Lib.hid (HK1.out.trans hk2)
  have HGS : Hid (w2.heap.size = g + 1) := Lib.hid (by rw [hw2, hg]; simp)
  have HG : Hid (w.heap.size ≤ gr ∧ gr < g) := Lib.hid ⟨hgr, by omega⟩
  have HAG : Hid (∀ a, A1 = some a → gr < a.block) := Lib.hid (fun a ha => (HA1.out a ha).1)
  have hgt : gtop ≤ gr := by have := HTS.out; omega
  go_upto_region 2 with (fail)
  rw [← hw2, ← hg]
  clear hw2 hg hk2 hb2 HRD HA1 HT1 HK1 hgl hgr
  go_wp2_with fail
  refine (blocks_calls w2 g gr A1 c1 bs 0 most [] HT2.out hgt HI.out).mono ?_
  rintro _ w3 ⟨q, rfl, h3, k3, hq⟩
  rw [show blksF bs most (8 * bs.length + 1) [] 0 = inflF bs most from rfl] at h3 hq ⊢
  have H3 := Lib.hid h3
  have hgg := HG.out
  have hk3 : Keeps [] w w3 := by
    have hs := HK2.out.size
    exact ⟨k3.os.trans HK2.out.os, k3.tape.trans HK2.out.tape, k3.output.trans HK2.out.output, Nat.le_trans HK2.out.size k3.size, fun k hk _ => (k3.same k (by omega) (by omega) (by omega) (.inl (by omega))).trans (HK2.out.block k hk (by simp))⟩
  have HK3 := Lib.hid hk3
  have HQ := Lib.hid hq
  clear h3 k3 hq hk3 HI HK2 hgg
  generalize hir : inflF bs most = ir at *
  obtain ⟨o3, p3, er⟩ := ir
  simp only [] at H3 HQ ⊢
  have HIR := Lib.hid hir
  clear hir
  go_wp2_with fail
  go_ret2
  exact ⟨g, gr, A1, c1, q, rfl, H3.out, HQ.out, HG.out.1, HAG.out, HK3.out.below⟩
set_option maxRecDepth 100000 in
set_option maxHeartbeats 1000000 in
theorem inflateU_calls (w : World) (A : Option Addr) (n c : Nat) (bs : List Int) (most : Int) (hT : Tabs w) (hr : RI .u8 w A n bs) (hnil : A = none → n = 0 ∧ c = 0) (hbyte : ∀ j, 0 ≤ nth bs j ∧ nth bs j ≤ 255) (hn : n ≤ 4000000000) :
    Calls Tryd.prog 31 #[.slice A n c, .int .i64 most] w fun e w' => ∃ v, e = .returned (.tuple #[v, .int .i64 ((inflR bs most).2.1 : Nat), .int .i64 (inflR bs most).2.2]) ∧
      w'.ownsRow w.heap.size 5 1 v (inflR bs most).1.length (ints .u8 (inflR bs most).1) ∧ Below w.heap.size w w' ∧ AllU8 w' v := by
  have HR := Lib.hid hr
  have HN := Lib.hid hnil
  have HT := Lib.hid hT
  have HBY := Lib.hid hbyte
  have HRL := Lib.hid hr.len
  clear hr hnil hT hbyte
  go_enter Tryd.func31, Tryd.ntmps31
  by_cases h0 : most < 0
  · have e0 : decide (most < 0) = true := by simpa using h0
    have HE : Hid (inflR bs most = ([], 0, 1)) := Lib.hid (by unfold inflR; rw [if_pos (.inl h0)])
    clear h0
    go_wp2_with fail
    go_ret3
    rw [HE.out]
    exact ⟨_, rfl, World.ownsRow_nil _ _ _ _, Below.refl _ _, AllU8.nil _⟩
  have e0 : decide (most < 0) = false := by simpa using h0
  by_cases h1 : 16384 < most
  · have e1 : decide (16384 < most) = true := by simpa using h1
    have HE : Hid (inflR bs most = ([], 0, 1)) := Lib.hid (by unfold inflR; rw [if_pos (.inr h1)])
    clear h1
    go_wp2_with fail
    go_ret3
    rw [HE.out]
    exact ⟨_, rfl, World.ownsRow_nil _ _ _ _, Below.refl _ _, AllU8.nil _⟩
  have e1 : decide (16384 < most) = false := by simpa using h1
  obtain ⟨m, rfl⟩ := Int.eq_ofNat_of_zero_le (show 0 ≤ most by omega)
  have hm : m ≤ 16384 := by omega
  have HE : Hid (inflR bs (m : Nat) = if (inflF bs m).2.2 ≠ 0 then ([], 0, (inflF bs m).2.2) else ((inflF bs m).1, ((inflF bs m).2.1 + 7) / 8, 0)) := Lib.hid (by unfold inflR; rw [if_neg (by omega), Int.toNat_natCast])
  change Code.wp _ _ _ _ _
  go_wp2_with fail
  refine (iread_calls w A n c bs m HT.out HR.out HN.out HBY.out hn hm).mono ?_
  rintro _ w1 ⟨g, gr, A1, c1, q, rfl, hi, hq, hgr, -, hb⟩
  have HI := Lib.hid hi
  have HB := Lib.hid hb
  have HPOS := Lib.hid (fun h => inflF_pos bs m h)
  clear hb HR HN HT HBY h0 h1 e0 e1
  generalize inflF bs m = ir at *
  obtain ⟨o3, p3, er⟩ := ir
  simp only [] at HE HPOS hi hq HI ⊢
  by_cases her : er = 0
  · subst her
    obtain rfl := hq rfl
    have HE1 := Lib.hid (HE.out.trans (if_neg (by simp)))
    have hp := HPOS.out rfl
    have hrl := HRL.out
    obtain ⟨vA, hblk, hown⟩ := hi.box
    obtain ⟨A2, c2, rfl, -, -, -⟩ := own_ri hown
    have k0 := hblk.cell 0
    have k1 := hblk.cell 1
    simp only [List.getElem?_cons_zero, List.getElem?_cons_succ] at k0 k1
    have HO := Lib.hid (hown.mono (show w.heap.size ≤ g + 1 by have := hi.lt; omega))
    have HU := Lib.hid (hi.u8v hblk)
    have hcl : ∀ j, Calls Tryd.prog 28 #[.pointer (some ⟨gr, 0, none⟩)] (w1.drewN j) fun e w' => e = .returned (.int .i64 q) ∧ ∃ m, w' = (w1.drewN j).drewN m := fun j => gone_calls (w1.drewN j) gr A1 c1 bs q (hi.rd.dr ((Keeps.refl [] w1).drewN j))
    have HCL := Lib.hid hcl
    have s1 : IntKind.i64.wrap ((q : Int) + 7) = (q : Int) + 7 := IntWalk.i64_in _ (by omega)
    obtain ⟨Q, hQ⟩ : ∃ Q, Q = (q + 7) / 8 := ⟨_, rfl⟩
    rw [← hQ] at HE1
    have s2 : ((q : Int) + 7).tdiv 8 = (Q : Int) := by rw [Int.tdiv_eq_ediv_of_nonneg (by omega)]; omega
    have s3 : IntKind.i64.wrap (Q : Int) = Q := IntWalk.i64_in _ (by omega)
    clear hQ
    clear HE hq hi hblk hown hcl HI HPOS hrl
    go_upto_region 6 with (fail)
    go_quiet (first | (go_at_call 28; exact Calls.quiet_of (HCL.out _)))
    go_wp2_with fail
    go_ret3
    rw [HE1.out]
    exact ⟨_, rfl, own_keeps HO.out ((Keeps.refl [] w1).drewN _) (by simp), HB.out.trans (below_lower ((Keeps.refl [] w1).drewN _).below HB.out.size), HU.out.keeps ((Keeps.refl [] w1).drewN _) (by simp)⟩
  · have HE1 := Lib.hid (HE.out.trans (if_pos her))
    have e2 : (er != 0) = true := by simpa using her
    clear HE hq hi HI HPOS her
    go_wp2_with fail
    go_ret3
    rw [HE1.out]
    exact ⟨_, rfl, World.ownsRow_nil _ _ _ _, HB.out, AllU8.nil _⟩
theorem inflate_calls (w : World) (A : Option Addr) (n c : Nat) (bs : List Int) (most : Int) (hT : Tabs w) (hr : RI .u8 w A n bs) (hnil : A = none → n = 0 ∧ c = 0) (hbyte : ∀ j, 0 ≤ nth bs j ∧ nth bs j ≤ 255) (hn : n ≤ 4000000000) :
    Calls Tryd.prog 31 #[.slice A n c, .int .i64 most] w fun e w' => ∃ v, e = .returned (.tuple #[v, .int .i64 ((inflR bs most).2.1 : Nat), .int .i64 (inflR bs most).2.2]) ∧
      w'.ownsRow w.heap.size 5 1 v (inflR bs most).1.length (ints .u8 (inflR bs most).1) ∧ Below w.heap.size w w' :=
  (inflateU_calls w A n c bs most hT hr hnil hbyte hn).mono fun _ _ ⟨v, h1, h2, h3, _⟩ => ⟨v, h1, h2, h3⟩
end Go.Proofs.YtcblibefmclloaaDoor

set_option linter.unusedVariables false
set_option linter.unusedSimpArgs false
namespace Go.Proofs.YtcblibefmclloaaDoor
open Go.RowKit
/-- A slice's room. -/
def CapOk (A : Option Addr) (n c : Nat) : Prop := n ≤ c ∧ c ≤ maxLen ∧ (0 < c → ∃ b o, A = some ⟨b, o, none⟩)
theorem slice_to8 (w : World) (A : Option Addr) (n c l : Nat) (li : Int) (hli : li = l) (hl : l ≤ n) (hc : CapOk A n c) :
    (Instr.slice 37 (.slice A n c) none (some (.int .i64 li)) none).run Tryd.prog w = .ok (.slice A l c) w := by
  obtain ⟨h1, -, h3⟩ := hc
  subst hli
  rw [run_slice_h w 37 A n c (by kernel_rfl) .i64 l (by omega) (by omega)]
  have hs : (sizeOf (Tryd.prog.elem 37)).run Tryd.prog w = .ok 1 w := by kernel_rfl
  rw [hs]
  by_cases h0 : c = 0
  · subst h0
    simp [Result.andThen, sliced]
  · obtain ⟨b, o, rfl⟩ := h3 (by omega)
    simp [Result.andThen, sliced, add_plain2]
/-- 's[l:h]'. -/
theorem slice_mid8 (w : World) (A : Option Addr) (n c l h : Nat) (li hi : Int) (hli : li = l) (hhi : hi = h) (hl : l ≤ h) (hh : h ≤ n) (hc : CapOk A n c) :
    (Instr.slice 37 (.slice A n c) (some (.int .i64 li)) (some (.int .i64 hi)) none).run Tryd.prog w = .ok (.slice (cutA A l c) (h - l) (c - l)) w := by
  obtain ⟨h1, -, h3⟩ := hc
  subst hli
  subst hhi
  rw [run_slice_lh w 37 A n c (by kernel_rfl) .i64 .i64 l h (by omega) (by omega) (by omega)]
  have hs : (sizeOf (Tryd.prog.elem 37)).run Tryd.prog w = .ok 1 w := by kernel_rfl
  rw [hs]
  simp [Result.andThen, sliced, cutA]
/-- What stands in 's[l:h]'. -/
theorem RI.mid {k : IntKind} {w : World} {A : Option Addr} {n c : Nat} {xs : List Int} (h : RI k w A n xs) (hc : CapOk A n c) {l m : Nat} (hl : l ≤ m) (hm : m ≤ n) : RI k w (cutA A l c) (m - l) ((xs.take m).drop l) := by
  obtain ⟨h1, -, h3⟩ := hc
  have hlen := h.len
  refine ⟨by rw [List.length_drop, List.length_take, hlen]; omega, fun hp => ?_, fun b o ha j hj => ?_⟩
  · obtain ⟨b, o, rfl⟩ := h3 (by omega)
    unfold cutA
    rw [if_neg (by omega)]
    exact ⟨b, o + l, by simp [add_plain2]⟩
  · unfold cutA at ha
    rw [if_neg (by omega)] at ha
    obtain ⟨b', o', rfl⟩ := h3 (by omega)
    simp [add_plain2] at ha
    obtain ⟨rfl, rfl⟩ := ha
    rw [Nat.add_assoc, h.cell b' o' rfl (l + j) (by omega)]
    have e : nth ((xs.take m).drop l) j = nth xs (l + j) := by
      rw [← nth_take xs m (l + j) (by omega)]
      simp [nth, List.getD]
    rw [e]
theorem cut_nil_mid {A : Option Addr} {n c l m : Nat} (hc : CapOk A n c) (hnil : A = none → n = 0 ∧ c = 0) (hl : l ≤ m) (hm : m ≤ n) : cutA A l c = none → m - l = 0 ∧ c - l = 0 := by
  intro e
  have := cutA_nil (l := l) hnil e
  omega
theorem CapOk.mid {A : Option Addr} {n c l m : Nat} (hc : CapOk A n c) (hl : l ≤ m) (hm : m ≤ n) : CapOk (cutA A l c) (m - l) (c - l) := by
  obtain ⟨h1, h2, h3⟩ := hc
  refine ⟨by omega, by omega, fun hp => ?_⟩
  obtain ⟨b, o, rfl⟩ := h3 (by omega)
  unfold cutA
  rw [if_neg (by omega)]
  exact ⟨b, o + l, by simp [add_plain2]⟩
theorem CapOk.to {A : Option Addr} {n c l : Nat} (hc : CapOk A n c) (hl : l ≤ n) : CapOk A l c := ⟨Nat.le_trans hl hc.1, hc.2⟩
theorem own_cap {w : World} {base : Nat} {e : TypeId} {A : Option Addr} {n c : Nat} {k : IntKind} {xs : List Int} (h : w.ownsRow base e 1 (.slice A n c) n (ints k xs)) : CapOk A n c := by
  rcases h.2 with ⟨hv, rfl⟩ | ⟨g, cap, cur, hv, hb, hh, hc, hm, _⟩
  · injection hv with h1 h2 h3; subst h1; subst h3
    exact ⟨Nat.le_refl _, Nat.zero_le _, fun h => by omega⟩
  · injection hv with h1 h2 h3; subst h1; subst h3
    exact ⟨hc, hm, fun _ => ⟨g, 0, rfl⟩⟩
end Go.Proofs.YtcblibefmclloaaDoor

set_option linter.unusedVariables false
set_option linter.unusedSimpArgs false
namespace Go.Proofs.YtcblibefmclloaaDoor
open Go.ChangeShapes Go.WideShapes Go.ChangeAt Go.RowKit
/-- A slice of numbers that came in, its room too. -/
theorem ri_cameC {H : Type} {enc : TypeId × Value → H} {W : World} {k : IntKind} {t e : TypeId} {a0 : Option Addr} {len0 cap0 : Nat} {d : DataW H} {p : List MemPlace}
    (ht : Tryd.prog.underlying t = some (.slice e)) (he : Tryd.prog.underlying e = some (.int k)) (hc : Tryd.prog.cellsOf e = 1)
    (h : DataW.Trod enc Tryd.prog W 0 (fun _ => true) true t (Value.slice a0 len0 cap0) d p) :
    ∃ xs, RI k W a0 len0 xs ∧ len0 ≤ maxLen ∧ (a0 = none → len0 = 0 ∧ cap0 = 0) ∧ (∀ x ∈ xs, (Lit.int k x).wf = true) ∧ CapOk a0 len0 cap0 := by
  obtain ⟨fuel, hf⟩ := h
  rcases open_ints ht he hc hf with ⟨hcs, _⟩ | ⟨x, l, c, zs, hcs, _, hl, hm, hz, _, hcell, hwz⟩
  · simp [Value.cells] at hcs
    obtain ⟨rfl, rfl, rfl⟩ := hcs
    exact ⟨[], ⟨rfl, by omega, by simp⟩, by omega, fun _ => ⟨rfl, rfl⟩, by simp, ⟨Nat.le_refl _, Nat.zero_le _, fun h => by omega⟩⟩
  · simp [Value.cells] at hcs
    obtain ⟨rfl, rfl, rfl⟩ := hcs
    have hz' : zs.length = cap0 := by simpa using hz
    refine ⟨zs.take len0, ⟨by simp; omega, fun hp => ?_, fun b o ha j hj => ?_⟩, by omega, (by simp), fun y hy => hwz y (List.mem_of_mem_take hy), hl, hm, fun hp => ?_⟩
    · obtain ⟨b, o, rfl, _⟩ := ints_at hcell (by omega)
      exact ⟨b, o, rfl⟩
    · obtain rfl := Option.some.inj ha
      rw [nth_take _ _ _ hj, ← add_plain2]
      exact hcell j (by omega)
    · obtain ⟨b, o, rfl, _⟩ := ints_at hcell (by omega)
      exact ⟨b, o, rfl⟩
end Go.Proofs.YtcblibefmclloaaDoor

set_option linter.unusedVariables false
set_option linter.unusedSimpArgs false
namespace Go.Proofs.YtcblibefmclloaaDoor
open Go.RowKit
/-- A stream that has been fed so many bytes. -/
def Strm (w : World) (s most : Nat) (fed : List Int) (fb : Option Nat) : Prop :=
  ∃ (v : Value) (told used : Nat), Blk w s 100 [.int .i64 most, v, .int .i64 told, .int .i64 (inflF fed most).2.2, .int .i64 used] ∧ w.ownsRow (s + 1) 5 1 v fed.length (ints .u8 fed) ∧
    ((inflF fed most).2.2 = 55 ∨ (inflF fed most).2.2 = 0 → told = (inflF fed most).1.length) ∧ ((inflF fed most).2.2 = 0 → used = ((inflF fed most).2.1 + 7) / 8) ∧ (∀ j, 0 ≤ nth fed j ∧ nth fed j ≤ 255) ∧ most ≤ 16384 ∧ v.ownBlock = fb
theorem Strm.lt {w : World} {s most : Nat} {fed : List Int} {fb : Option Nat} (h : Strm w s most fed fb) : s < w.heap.size := by obtain ⟨v, t, u, hb, _⟩ := h; exact hb.lt
theorem Strm.keeps {w w' : World} {s most : Nat} {fed : List Int} {fb : Option Nat} {K : List Nat} (h : Strm w s most fed fb) (hk : Keeps K w w') (hK : ∀ x ∈ K, x < s ∨ w.heap.size ≤ x) : Strm w' s most fed fb := by
  obtain ⟨v, t, u, h1, h2, h3⟩ := h
  have hl := h1.lt
  refine ⟨v, t, u, h1.keeps hk (fun hm => by rcases hK s hm with h | h <;> omega), own_keeps h2 hk (fun x hx hm => ?_), h3⟩
  have a := own_lo h2 x hx
  have b := own_hi h2 x hx
  rcases hK x hm with h | h <;> omega
theorem inflF_nil (most : Nat) : inflF [] most = ([], 0, 55) := by
  unfold inflF
  rw [blksF, if_pos (by simp)]
theorem inew_calls (w : World) (most : Int) : Calls Tryd.prog 37 #[.int .i64 most] w fun e w' =>
    (most < 0 ∨ 16384 < most → e = .returned (.tuple #[.pointer none, .int .i64 1]) ∧ Keeps [] w w') ∧ (∀ m : Nat, most = m → m ≤ 16384 → ∃ s, e = .returned (.tuple #[.pointer (some ⟨s, 0, none⟩), .int .i64 0]) ∧ Strm w' s m [] none ∧ w.heap.size ≤ s ∧ Keeps [] w w') := by
  go_enter Tryd.func37, Tryd.ntmps37
  by_cases h0 : most < 0
  · have e0 : decide (most < 0) = true := by simpa using h0
    have H0 := Lib.hid h0
    clear h0
    go_wp2_with fail
    go_ret2
    exact ⟨fun _ => ⟨rfl, Keeps.refl _ _⟩, fun m hm _ => by have := H0.out; omega⟩
  have e0 : decide (most < 0) = false := by simpa using h0
  by_cases h1 : 16384 < most
  · have e1 : decide (16384 < most) = true := by simpa using h1
    have H1 := Lib.hid h1
    clear h1
    go_wp2_with fail
    go_ret2
    exact ⟨fun _ => ⟨rfl, Keeps.refl _ _⟩, fun m hm _ => by have := H1.out; omega⟩
  have e1 : decide (16384 < most) = false := by simpa using h1
  obtain ⟨m, rfl⟩ := Int.eq_ofNat_of_zero_le (show 0 ≤ most by omega)
  have hm : m ≤ 16384 := by omega
  change Code.wp _ _ _ _ _
  have HS : Hid (Strm (w.alloc (.cells #[.int .i64 m, .slice none 0 0, .int .i64 0, .int .i64 55, .int .i64 0] 100)) w.heap.size m [] none) := Lib.hid (by
    refine ⟨.slice none 0 0, 0, 0, ?_, World.ownsRow_nil _ _ _ _, ?_, ?_, fun j => by simp [nth], hm, rfl⟩
    · rw [inflF_nil]; exact blk_new w _ _
    · rw [inflF_nil]; intro _; rfl
    · rw [inflF_nil]; intro h; simp at h)
  go_wp2_with fail
  go_ret2
  exact ⟨fun h => by omega, fun k hk _ => ⟨_, rfl, by obtain rfl : m = k := by omega
                                                      exact HS.out, Nat.le_refl _, (Keeps.refl [] w).alloc _⟩⟩
theorem done_calls (w : World) (s most : Nat) (fed : List Int) (fb : Option Nat) (h : Strm w s most fed fb) : Calls Tryd.prog 41 #[.pointer (some ⟨s, 0, none⟩)] w fun e w' => e = .returned (.bool (decide ((inflF fed most).2.2 = 0))) ∧ Dr w w' := by
  obtain ⟨v, t, u, hb, -⟩ := h
  have k3 := hb.cell 3
  simp only [List.getElem?_cons_zero, List.getElem?_cons_succ] at k3
  clear hb
  generalize (inflF fed most).2.2 = er at *
  go_enter Tryd.func41, Tryd.ntmps41
  by_cases he : er = 0
  · subst he
    go_wp2_with fail
    go_ret
    exact ⟨rfl, 0, rfl⟩
  · have e1 : (er == 0) = false := by simpa using he
    have e2 : decide (er = 0) = false := by simpa using he
    go_wp2_with fail
    go_ret
    exact ⟨by rw [e2]; rfl, 0, rfl⟩
theorem done_nil (w : World) : Calls Tryd.prog 41 #[.pointer none] w fun e w' => e = .returned (.bool false) ∧ Dr w w' := by
  go_enter Tryd.func41, Tryd.ntmps41
  go_wp2_with fail
  go_ret
  exact ⟨rfl, 0, rfl⟩
theorem close_calls (w : World) (s most : Nat) (fed : List Int) (fb : Option Nat) (h : Strm w s most fed fb) : Calls Tryd.prog 42 #[.pointer (some ⟨s, 0, none⟩)] w fun e w' => e = .returned (.int .i64 (inflF fed most).2.2) ∧ Dr w w' := by
  obtain ⟨v, t, u, hb, -⟩ := h
  have k3 := hb.cell 3
  simp only [List.getElem?_cons_zero, List.getElem?_cons_succ] at k3
  clear hb
  generalize (inflF fed most).2.2 = er at *
  go_enter Tryd.func42, Tryd.ntmps42
  go_wp2_with fail
  go_ret
  exact ⟨rfl, 0, rfl⟩
theorem close_nil (w : World) : Calls Tryd.prog 42 #[.pointer none] w fun e w' => e = .returned (.int .i64 3) ∧ Dr w w' := by
  go_enter Tryd.func42, Tryd.ntmps42
  go_wp2_with fail
  go_ret
  exact ⟨rfl, 0, rfl⟩
theorem rest_nil (w : World) : Calls Tryd.prog 43 #[.pointer none] w fun e w' => e = .returned (.slice none 0 0) ∧ Dr w w' := by
  go_enter Tryd.func43, Tryd.ntmps43
  go_wp2_with fail
  refine (done_nil w).mono ?_
  rintro _ w1 ⟨rfl, hd⟩
  have HD := Lib.hid hd
  clear hd
  go_wp2_with fail
  go_ret
  exact ⟨rfl, HD.out⟩
theorem feed_nil (w : World) (A : Option Addr) (n c : Nat) : Calls Tryd.prog 39 #[.pointer none, .slice A n c] w fun e w' => e = .returned (.tuple #[.slice none 0 0, .int .i64 3]) ∧ Dr w w' := by
  go_enter Tryd.func39, Tryd.ntmps39
  go_wp2_with fail
  go_ret2
  exact ⟨rfl, 0, rfl⟩
/-- What stands behind the end. -/
def restF (fed : List Int) (most : Nat) : List Int := if (inflF fed most).2.2 = 0 then fed.drop (((inflF fed most).2.1 + 7) / 8) else []
set_option maxRecDepth 100000 in
set_option maxHeartbeats 400000 in
theorem rest_calls (w : World) (s most : Nat) (fed : List Int) (fb : Option Nat) (h : Strm w s most fed fb) (hf : fed.length ≤ 4000000000) : Calls Tryd.prog 43 #[.pointer (some ⟨s, 0, none⟩)] w fun e w' => ∃ v, e = .returned v ∧
    w'.ownsRow w.heap.size 5 1 v (restF fed most).length (ints .u8 (restF fed most)) ∧ Keeps [] w w' := by
  have H := Lib.hid h
  clear h
  go_enter Tryd.func43, Tryd.ntmps43
  go_wp2_with fail
  refine (done_calls w s most fed fb H.out).mono ?_
  rintro _ w1 ⟨rfl, hd⟩
  have hk1 := hd.keeps (S := [])
  obtain ⟨v, t, u, hb, hown, -, hu, -⟩ := H.out.keeps hk1 (by simp)
  have hpos := fun h => inflF_pos fed most h
  have HK1 := Lib.hid hk1
  have hsz := hk1.size
  have HRF : Hid (restF fed most = if (inflF fed most).2.2 = 0 then fed.drop (((inflF fed most).2.1 + 7) / 8) else []) := Lib.hid rfl
  clear hd H hk1
  generalize inflF fed most = ir at *
  obtain ⟨o3, p3, er⟩ := ir
  simp only [] at hu hpos HRF hb ⊢
  by_cases her : er = 0
  · subst her
    replace hu := hu rfl
    replace hpos := hpos rfl
    have HR := Lib.hid (HRF.out.trans (if_pos rfl))
    rw [← hu] at HR
    obtain ⟨L, hL⟩ : ∃ L, L = fed.length := ⟨_, rfl⟩
    obtain ⟨A2, c2, rfl, hri, hcap, hnil, hpl, hlt⟩ := own_full hown
    have k1 := hb.cell 1
    have k4 := hb.cell 4
    simp only [List.getElem?_cons_zero, List.getElem?_cons_succ] at k1 k4
    rw [← hL] at k1 hri hcap hnil hpos hf
    have hul : u ≤ L := by omega
    have HRI := Lib.hid (hri.cut hpl hul hcap)
    have HNL := Lib.hid (cutA_nil (l := u) hnil)
    have hsl := fun w => slice_from8 w A2 L c2 u u rfl hul
    have HLL : Hid ((fed.drop u).length = L - u) := Lib.hid (by rw [List.length_drop, hL])
    clear hL hri hnil hpl hlt hown hb hu hpos HRF
    go_upto_region 3 with (fail)
    go_still_tail 9, (by kernel_rfl)
    change wpList _ _ _ _ _ w1.drew
    have hdr := (Keeps.refl [] w1).drew
    have HRId := Lib.hid (HRI.out.keeps hdr (off_nil _))
    have HKd := Lib.hid (HK1.out.trans hdr)
    clear hdr HRI HK1 k1 k4 hsl
    go_wp2_with fail
    refine (bclone_calls w1.drew (cutA A2 u c2) (L - u) (c2 - u) (fed.drop u) HRId.out HNL.out (by omega)).mono ?_
    rintro _ w2 ⟨v2, rfl, ho2, hb2⟩
    have HO2 := Lib.hid ho2
    have HK2 := Lib.hid (HKd.out.trans (Keeps.of_below hb2 (S := [])))
    clear ho2 hb2
    obtain ⟨A3, c3, rfl, -, -, -⟩ := own_ri HO2.out
    go_wp2_with fail
    go_ret
    rw [HR.out, HLL.out]
    exact ⟨_, rfl, HO2.out.mono hsz, HK2.out⟩
  · have HR := Lib.hid (HRF.out.trans (if_neg her))
    have e1 : decide (er = 0) = false := by simpa using her
    clear HRF hu hpos her hb
    go_wp2_with fail
    go_ret
    rw [HR.out]
    exact ⟨_, rfl, World.ownsRow_nil _ _ _ _, HK1.out⟩
end Go.Proofs.YtcblibefmclloaaDoor

set_option linter.unusedVariables false
set_option linter.unusedSimpArgs false
namespace Go.Proofs.YtcblibefmclloaaDoor
open Go.RowKit
/-- What feeding tells. -/
def feedR (r0 r : IRes) : List Int × Int := if r.2.2 = 0 ∨ r.2.2 = 55 then (r.1.drop r0.1.length, 0) else ([], r.2.2)
def FedP (w : World) (s most : Nat) (fed b : List Int) (fb : Option Nat) (e : Ending) (w' : World) : Prop :=
  ∃ v fb', e = .returned (.tuple #[v, .int .i64 (feedR (inflF fed most) (inflF (fed ++ b) most)).2]) ∧ w'.ownsRow w.heap.size 5 1 v (feedR (inflF fed most) (inflF (fed ++ b) most)).1.length (ints .u8 (feedR (inflF fed most) (inflF (fed ++ b) most)).1) ∧
    Strm w' s most (fed ++ b) fb' ∧ Keeps (s :: fb.toList) w w' ∧ (∀ x, fb' = some x → fb = some x ∨ w.heap.size ≤ x) ∧ (∀ x, v.ownBlock = some x → fb' ≠ some x)
theorem nth_byte_append {xs ys : List Int} (h1 : ∀ j, 0 ≤ nth xs j ∧ nth xs j ≤ 255) (h2 : ∀ j, 0 ≤ nth ys j ∧ nth ys j ≤ 255) (j : Nat) : 0 ≤ nth (xs ++ ys) j ∧ nth (xs ++ ys) j ≤ 255 := by
  by_cases h : j < xs.length
  · rw [nth_append_left _ _ _ h]; exact h1 j
  · have := nth_append_right xs ys (j - xs.length)
    rw [show xs.length + (j - xs.length) = j by omega] at this
    rw [this]; exact h2 _
theorem RI.keeps_of {k : IntKind} {w w' : World} {A : Option Addr} {n : Nat} {xs : List Int} {S : List Nat} (h : RI k w A n xs) (hk : Keeps S w w') (ho : ∀ a, A = some a → a.block ∉ S) : RI k w' A n xs := h.keeps hk ho
/-- An append may take a block that is its own, or a new one. -/
theorem own_grown {w w' : World} {base n m size : Nat} {t : TypeId} {v v' : Value} {xs ys : List Value} (h : w.ownsRow base t size v n xs) (h' : w'.ownsRow base t size v' m ys) (hg : w.grownBy w' v.ownBlock) : True := trivial
set_option maxRecDepth 100000 in
set_option maxHeartbeats 2000000 in
theorem feed_calls (w : World) (s most : Nat) (fed : List Int) (fb : Option Nat) (A : Option Addr) (n c : Nat) (b : List Int) (h : Strm w s most fed fb) (hT : Tabs w) (hs : gtop ≤ s) (hr : RI .u8 w A n b) (hnil : A = none → n = 0 ∧ c = 0)
    (hbyte : ∀ j, 0 ≤ nth b j ∧ nth b j ≤ 255) (hsz : fed.length + n ≤ 1000000000) :
    Calls Tryd.prog 39 #[.pointer (some ⟨s, 0, none⟩), .slice A n c] w (FedP w s most fed b fb) := by
  have hslt := h.lt
  obtain ⟨v, t, u, hb, hown, ht, hu, hbf, hm, hfb⟩ := h
  obtain ⟨vA, vc, rfl⟩ := own_formW hown
  have k1 := hb.cell 1
  simp only [List.getElem?_cons_zero, List.getElem?_cons_succ] at k1
  have HB := Lib.hid hb
  have HO := Lib.hid hown
  have HFB := Lib.hid hfb
  have HTO := Lib.hid ht
  have HUS := Lib.hid hu
  have HBY := Lib.hid (nth_byte_append hbf hbyte)
  have HR := Lib.hid hr
  have HBN := Lib.hid hr.len
  have HN := Lib.hid hnil
  have HT := Lib.hid hT
  have HEX := Lib.hid (inflF_ext fed b most)
  have HPS := Lib.hid (fun h => inflF_pos (fed ++ b) most h)
  clear hb hown ht hu hbf hr hnil hbyte hfb hT
  obtain ⟨r0, hr0⟩ : ∃ r0, r0 = inflF fed most := ⟨_, rfl⟩
  obtain ⟨r1, hr1⟩ : ∃ r1, r1 = inflF (fed ++ b) most := ⟨_, rfl⟩
  have HR0 := Lib.hid hr0
  have HR1 := Lib.hid hr1
  rw [← hr0] at HB HTO HUS HEX
  rw [← hr1] at HEX HPS
  clear hr0 hr1
  obtain ⟨o0, p0, e0⟩ := r0
  obtain ⟨o1, p1, e1⟩ := r1
  simp only [] at HB HTO HUS HEX HPS
  obtain ⟨L, hL⟩ : ∃ L, L = fed.length := ⟨_, rfl⟩
  have HL := Lib.hid hL
  rw [← hL] at k1 HO HB HFB hsz
  clear hL
  have HF : ∀ (x : Value) (y : Int) (fb' : Option Nat) (w' : World), Hid (feedR (o0, p0, e0) (o1, p1, e1) = ([], y)) → Strm w' s most (fed ++ b) fb' → Keeps (s :: fb.toList) w w' → (∀ x, fb' = some x → fb = some x ∨ w.heap.size ≤ x) → FedP w s most fed b fb (.returned (.tuple #[.slice none 0 0, .int .i64 y])) w' := fun x y fb' w' hfr hst hk hx => by
    refine ⟨.slice none 0 0, fb', ?_, ?_, hst, hk, hx, fun x hx => by simp [Value.ownBlock] at hx⟩
    · rw [← HR0.out, ← HR1.out, hfr.out]
    · rw [← HR0.out, ← HR1.out, hfr.out]; exact World.ownsRow_nil _ _ _ _
  have HFT0 : ∀ (v : Value) (o : List Int) (fb' : Option Nat) (w' : World), Hid (feedR (o0, p0, e0) (o1, p1, e1) = (o, 0)) → w'.ownsRow w.heap.size 5 1 v o.length (ints .u8 o) → Strm w' s most (fed ++ b) fb' → Keeps (s :: fb.toList) w w' →
      (∀ x, fb' = some x → fb = some x ∨ w.heap.size ≤ x) → (∀ x, v.ownBlock = some x → fb' ≠ some x) → FedP w s most fed b fb (.returned (.tuple #[v, .int .i64 0])) w' := fun v o fb' w' hfr ho hst hk hx hv => by
    refine ⟨v, fb', ?_, ?_, hst, hk, hx, hv⟩
    · rw [← HR0.out, ← HR1.out, hfr.out]
    · rw [← HR0.out, ← HR1.out, hfr.out]; exact ho
  have HFH := Lib.hid HF
  have HFT := Lib.hid HFT0
  clear HF HFT0
  go_enter Tryd.func39, Tryd.ntmps39
  go_wp2_with (at_builtin; refine app_bytesB rfl (.tmp 15) (.tmp 16) rfl (s + 1) _ L fed rfl (by exact HO.out) A n c b rfl (by exact HR.out) HN.out ?c1 ?c2 ?_)
  case c1 => omega
  case c2 => exact hslt
  intro v1 w1 ho1 hg1 hwh1
  have hg0 : ∀ k, (Value.slice vA L vc).ownBlock = some k → s + 1 ≤ k := fun k hk => (HO.out.lt k hk).1
  have kg : Keeps (s :: fb.toList) w w1 := (grown_keepsI hg1).mono (fun x hx => by rw [HFB.out] at hx; exact List.mem_cons_of_mem _ hx)
  have hb1 : Blk w1 s 100 [.int .i64 most, .slice vA L vc, .int .i64 t, .int .i64 e0, .int .i64 u] := (hg1.block s hslt (fun e => by have := hg0 s e.symm; omega)).trans HB.out
  obtain ⟨vB, vd, rfl⟩ : ∃ A c, v1 = .slice A (L + n) c := own_formW ho1
  have hT1 := HT.out.keeps (grown_keepsI hg1) (fun x hx => by have := hg0 x (Option.mem_toList.1 hx); omega)
  have HFB1 : Hid (∀ x, (Value.slice vB (L + n) vd).ownBlock = some x → fb = some x ∨ w.heap.size ≤ x) := Lib.hid (fun x hx => by
    rcases hwh1 with e | e
    · exact .inl (by rw [← HFB.out, ← e]; exact hx)
    · rw [e] at hx; exact .inr (by injection hx with hx; omega))
  clear hwh1
  have f1 := hb1.frozen 1
  have j1 := hb1.cell 1
  simp only [List.getElem?_cons_zero, List.getElem?_cons_succ] at j1
  have ks : Keeps [s] w1 (w1.setCell ⟨s, 1, none⟩ (.slice vB (L + n) vd)) := (Keeps.refl [s] w1).setCell (p := ⟨s, 1, none⟩) (Or.inl (by simp)) _
  have hb2 := hb1.set 1 (.slice vB (L + n) vd)
  simp only [List.set_cons_succ, List.set_cons_zero] at hb2
  have ho2 := ownsRow_setCell_below ho1 (a := ⟨s, 1, none⟩) (Nat.lt_succ_self s) (.slice vB (L + n) vd)
  obtain ⟨w2, hw2⟩ : ∃ w2, w2 = w1.setCell ⟨s, 1, none⟩ (.slice vB (L + n) vd) := ⟨_, rfl⟩
  have HW2 := Lib.hid hw2
  rw [← hw2] at ks hb2 ho2
  have HB2 := Lib.hid hb2
  have HO2 := Lib.hid ho2
  have HK2 := Lib.hid (kg.trans (ks.mono (fun x hx => by rw [List.mem_singleton.1 hx]; exact List.mem_cons_self)))
  have HT2 := Lib.hid (hT1.keeps ks (fun x hx => by rw [List.mem_singleton.1 hx]; exact hs))
  have HBX := Lib.hid hb1
  clear kg hb1 hT1 hb2 ho2 hw2 ho1 hg1 HB HO HT k1 hg0 ks
  go_upto_region 4 with (fail)
  rw [← HW2.out]
  clear f1 j1 HW2 HBX
  have HST : Hid (∀ (t' u' : Nat) (w' : World), Blk w' s 100 [.int .i64 most, .slice vB (L + n) vd, .int .i64 t', .int .i64 e1, .int .i64 u'] → w'.ownsRow (s + 1) 5 1 (.slice vB (L + n) vd) (L + n) (ints .u8 (fed ++ b)) →
      (e1 = 55 ∨ e1 = 0 → t' = o1.length) → (e1 = 0 → u' = (p1 + 7) / 8) → Strm w' s most (fed ++ b) (Value.slice vB (L + n) vd).ownBlock) := Lib.hid (fun t' u' w' hb' ho' ht' hu' => by
    refine ⟨_, t', u', ?_, ?_, ?_, ?_, HBY.out, hm, rfl⟩
    · rw [← HR1.out]; exact hb'
    · rw [List.length_append, ← HL.out, HBN.out]; exact ho'
    · rw [← HR1.out]; exact ht'
    · rw [← HR1.out]; exact hu')
  obtain ⟨z0, z2, z3, z1⟩ : w2.cell? ⟨s, 0, none⟩ = some (.int .i64 most) ∧ w2.cell? ⟨s, 2, none⟩ = some (.int .i64 t) ∧ w2.cell? ⟨s, 3, none⟩ = some (.int .i64 e0) ∧ w2.cell? ⟨s, 1, none⟩ = some (.slice vB (L + n) vd) := by
    have a0 := HB2.out.cell 0
    have a1 := HB2.out.cell 1
    have a2 := HB2.out.cell 2
    have a3 := HB2.out.cell 3
    simp only [List.getElem?_cons_zero, List.getElem?_cons_succ] at a0 a1 a2 a3
    exact ⟨a0, a2, a3, a1⟩
  by_cases h55 : e0 ≠ 55
  · have hsame := HEX.out.1 h55
    injection hsame with q1 q2
    injection q2 with q2 q3
    subst q1; subst q2; subst q3
    have HS2 := Lib.hid (HST.out t u w2 HB2.out HO2.out HTO.out HUS.out)
    by_cases h0 : e1 = 0
    · subst h0
      have HFR : Hid (feedR (o1, p1, 0) (o1, p1, 0) = ([], 0)) := Lib.hid (by unfold feedR; rw [if_pos (.inl rfl)]; simp)
      clear HST HTO HUS HEX HPS h55
      go_wp2_with fail
      go_ret2
      exact HFH.out (.int .i64 0) 0 _ _ HFR HS2.out HK2.out HFB1.out
    · have HFR : Hid (feedR (o1, p1, e1) (o1, p1, e1) = ([], e1)) := Lib.hid (by unfold feedR; rw [if_neg (by rintro (h | h); exact h0 h; exact h55 h)])
      have g0 : (e1 == 0) = false := by simpa using h0
      have g5 : (e1 != 55) = true := by simpa using h55
      clear HST HTO HUS HEX HPS h55 h0
      go_wp2_with fail
      go_quiet (fail)
      go_wp2_with fail
      go_ret2
      exact HFH.out (.int .i64 0) e1 _ _ HFR (HS2.out.keeps ((Keeps.refl [] w2).drewN _) (by simp)) (HK2.out.drewN _) HFB1.out
  obtain rfl : e0 = 55 := Classical.not_not.1 h55
  clear h55
  replace HTO := Lib.hid (HTO.out (.inl rfl))
  have HPRE := Lib.hid (HEX.out.2 rfl)
  clear HUS HEX
  obtain ⟨vB', vd', hv', hri, hcap, hnB, hplB, hltB⟩ := own_full HO2.out
  injection hv' with hv1 hv2 hv3
  subst hv1
  subst hv3
  have HRI := Lib.hid hri
  have HNB := Lib.hid hnB
  clear hv2 hri hcap hnB hplB
  have HLT := Lib.hid hltB
  clear hltB
  go_upto_region 8 with (fail)
  go_cut [6, 7] (fun v6 v7 wc => ∃ (g gr : Nat) (A3 : Option Addr) (c3 q : Nat), v6 = .pointer (some ⟨g, 0, none⟩) ∧ v7 = .int .i64 e1 ∧ Hid (IR wc g gr A3 c3 (fed ++ b) q most o1) ∧ Hid (e1 = 0 → q = p1) ∧ Hid (w2.drew.heap.size ≤ gr) ∧ Hid (∀ a, A3 = some a → gr < a.block) ∧ Hid (Below w2.drew.heap.size w2.drew wc))
  case first =>
    have hdr := (Keeps.refl [] w2).drew
    have HTd := Lib.hid (HT2.out.keeps hdr (by simp))
    have HRd := Lib.hid (HRI.out.keeps hdr (off_nil _))
    have hcl : Calls Tryd.prog 64 #[.slice vB (L + n) vd, .int .i64 most] w2.drew fun e w' => ∃ g gr A c q, e = .returned (.tuple #[.pointer (some ⟨g, 0, none⟩), .int .i64 e1]) ∧ IR w' g gr A c (fed ++ b) q most o1 ∧ (e1 = 0 → q = p1) ∧ w2.drew.heap.size ≤ gr ∧ (∀ a, A = some a → gr < a.block) ∧ Below w2.drew.heap.size w2.drew w' := by
      have := iread_calls w2.drew vB (L + n) vd (fed ++ b) most HTd.out HRd.out HNB.out HBY.out (by omega) hm
      rwa [← HR1.out] at this
    have HCL := Lib.hid hcl
    clear hdr HTd HRd hcl HRI
    go_region_with (first | (go_at_call 64; refine HCL.out.mono ?_; rintro _ w3 ⟨g, gr, A3, c3, q, rfl, hi, hq, hgr, hA3, hb3⟩; have HI := Lib.hid hi; have HQ := Lib.hid hq; have HGR := Lib.hid hgr; have HA3 := Lib.hid hA3; have HB3 := Lib.hid hb3; clear hi hq hgr hA3 hb3))
    all_goals (go_wp2_with fail; go_meet; exact ⟨g, gr, A3, c3, q, rfl, rfl, HI, HQ, HGR, HA3, HB3⟩)
  case rest =>
  obtain ⟨g, gr, A3, c3, q, rfl, rfl, HI0, HQ0, HGR0, HA30, HB30⟩ := hcut
  have hi := HI0.out
  have hq := HQ0.out
  have hgr := HGR0.out
  have hA3 := HA30.out
  have hb3 := HB30.out
  clear HI0 HQ0 HGR0 HA30 HB30
  obtain ⟨w3, hw3⟩ : ∃ w3 : World, w3 = wc := ⟨_, rfl⟩
  rw [← hw3] at hi hb3 ⊢
  clear hw3
  have hdr := (Keeps.refl [] w2).drew
  have HBd := Lib.hid (HB2.out.keeps hdr (by simp))
  have HOd := Lib.hid (own_keeps HO2.out hdr (by simp))
  have HKd := Lib.hid (HK2.out.trans (hdr.mono (by simp)))
  clear hdr HB2 HO2 HT2 HK2 HRI z0 z1 z2 z3
  have hk3 := Keeps.of_below hb3 (S := [])
  have HB3 := Lib.hid (HBd.out.keeps hk3 (by simp))
  have HO3 := Lib.hid (own_keeps HOd.out hk3 (by simp))
  have HK3 := Lib.hid (HKd.out.trans (hk3.mono (by simp)))
  have hss : s < w2.drew.heap.size := HBd.out.lt
  have hsg : s < gr := by omega
  have hgg : gr < g := hi.lt
  have HI := Lib.hid hi
  have HQ := Lib.hid hq
  have HA3 := Lib.hid hA3
  have HW2S : Hid (w.heap.size ≤ w2.drew.heap.size) := Lib.hid HKd.out.size
  have HGR : Hid (w2.drew.heap.size ≤ gr) := Lib.hid hgr
  have HLT2 : Hid (∀ a, vB = some a → a.block < w2.drew.heap.size) := Lib.hid (fun a ha => (HLT.out a ha).2)
  have f3 := HB3.out.frozen 3
  have j3 := HB3.out.cell 3
  simp only [List.getElem?_cons_zero, List.getElem?_cons_succ] at j3
  clear hi hq hgr hA3 hb3 hk3 HBd HOd HKd HLT
  go_upto_region 10 with (fail)
  have ks3 : Keeps [s] w3 (w3.setCell ⟨s, 3, none⟩ (.int .i64 e1)) := (Keeps.refl [s] w3).setCell (p := ⟨s, 3, none⟩) (Or.inl (by simp)) _
  have hb4 := HB3.out.set 3 (.int .i64 e1)
  simp only [List.set_cons_succ, List.set_cons_zero] at hb4
  have ho4 := ownsRow_setCell_below HO3.out (a := ⟨s, 3, none⟩) (Nat.lt_succ_self s) (.int .i64 e1)
  obtain ⟨w4, hw4⟩ : ∃ w4, w4 = w3.setCell ⟨s, 3, none⟩ (.int .i64 e1) := ⟨_, rfl⟩
  rw [← hw4] at ks3 hb4 ho4 ⊢
  clear hw4
  have HB4 := Lib.hid hb4
  have HO4 := Lib.hid ho4
  have HK4 := Lib.hid (HK3.out.trans (ks3.mono (fun x hx => by rw [List.mem_singleton.1 hx]; exact List.mem_cons_self)))
  have hRD : Rdr w4 gr A3 c3 (fed ++ b) q := HI.out.rd.keeps ks3 (by simp; omega) (fun a ha hm => by have := HA3.out a ha; rw [List.mem_singleton.1 hm] at this; omega)
  have HRD := Lib.hid hRD
  obtain ⟨gv, hgblk, hgown⟩ := HI.out.box
  obtain ⟨vG, vcG, rfl, hgri, hgcap, hgnil, hgpl, hglt⟩ := own_full hgown
  have HGB := Lib.hid (hgblk.keeps ks3 (by simp; omega))
  have HGR2 := Lib.hid (hgri.keeps ks3 (fun a ha hm => by have := (hglt a ha).1; rw [List.mem_singleton.1 hm] at this; omega))
  have HGN := Lib.hid hgnil
  have HGP := Lib.hid hgpl
  have HGL := Lib.hid (fun a ha => (hglt a ha).1)
  have HGC := Lib.hid hgcap
  have HW4S : Hid (w2.drew.heap.size ≤ w4.heap.size) := Lib.hid (by have := HGB.out.lt; have := HGR.out; omega)
  clear hb4 ho4 ks3 hRD hgblk hgown hgri hgcap hgnil hgpl hglt HI HB3 HO3 HK3 f3 j3 HA3
  by_cases he0 : e1 = 0
  · subst he0
    obtain rfl := HQ.out rfl
    have hpq := HRD.out.le
    have hpl1 : (fed ++ b).length = L + n := by rw [List.length_append, ← HL.out, HBN.out]
    rw [hpl1] at hpq
    clear hpl1 HQ
    obtain ⟨Q, hQ⟩ : ∃ Q, Q = (q + 7) / 8 := ⟨_, rfl⟩
    have HQ := Lib.hid hQ
    have s2 : ((q : Int) + 7) / 8 = (Q : Int) := by omega
    clear hQ
    have k0 := HGB.out.cell 0
    simp only [List.getElem?_cons_zero] at k0
    go_wp2_with fail
    refine (gone_calls w4 gr A3 c3 (fed ++ b) q HRD.out).mono ?_
    rintro _ w5 ⟨rfl, hd⟩
    have hk5 := hd.keeps (S := [])
    have hb5 := HB4.out.keeps hk5 (by simp)
    have f4 := hb5.frozen 4
    have j4 := hb5.cell 4
    simp only [List.getElem?_cons_zero, List.getElem?_cons_succ] at j4
    have HB5 := Lib.hid hb5
    have HO5 := Lib.hid (own_keeps HO4.out hk5 (by simp))
    have HK5 := Lib.hid (HK4.out.trans (hk5.mono (by simp)))
    have HGB5 := Lib.hid (HGB.out.keeps hk5 (by simp))
    have HGR5 := Lib.hid (HGR2.out.keeps hk5 (off_nil _))
    have HW5S : Hid (w2.drew.heap.size ≤ w5.heap.size) := Lib.hid (Nat.le_trans HW4S.out hk5.size)
    clear hd hk5 hb5 HB4 HO4 HK4 HGB HGR2 HW4S HRD k0
    go_upto_region 14 with (fail)
    clear f4 j4 s2
    have ks5 : Keeps [s] w5 (w5.setCell ⟨s, 4, none⟩ (.int .i64 Q)) := (Keeps.refl [s] w5).setCell (p := ⟨s, 4, none⟩) (Or.inl (by simp)) _
    have hb6 := HB5.out.set 4 (.int .i64 Q)
    simp only [List.set_cons_succ, List.set_cons_zero] at hb6
    have ho6 := ownsRow_setCell_below HO5.out (a := ⟨s, 4, none⟩) (Nat.lt_succ_self s) (.int .i64 Q)
    obtain ⟨w6, hw6⟩ : ∃ w6, w6 = w5.setCell ⟨s, 4, none⟩ (.int .i64 Q) := ⟨_, rfl⟩
    rw [← hw6] at ks5 hb6 ho6 ⊢
    clear hw6
    have HGB6 := Lib.hid (HGB5.out.keeps ks5 (by simp; omega))
    have HGR6 := Lib.hid (HGR5.out.keeps ks5 (fun a ha hm => by have := HGL.out a ha; rw [List.mem_singleton.1 hm] at this; omega))
    have HK6 := Lib.hid (HK5.out.trans (ks5.mono (fun x hx => by rw [List.mem_singleton.1 hx]; exact List.mem_cons_self)))
    have HB6 := Lib.hid hb6
    have HO6 := Lib.hid ho6
    have HW6S : Hid (w2.drew.heap.size ≤ w6.heap.size) := Lib.hid (Nat.le_trans HW5S.out ks5.size)
    clear ks5 hb6 ho6 HB5 HO5 HK5 HGB5 HGR5 HW5S
    obtain ⟨U, hU⟩ : ∃ U : Nat, U = Q := ⟨_, rfl⟩
    have HUQ : Hid ((0 : Int) = 0 → U = (q + 7) / 8) := Lib.hid (fun _ => by rw [hU]; exact HQ.out)
    rw [← hU] at HB6
    clear hU
    have HFR : Hid (feedR (o0, p0, 55) (o1, q, 0) = (o1.drop t, 0)) := Lib.hid (by unfold feedR; rw [if_pos (.inl rfl), HTO.out])
    have HTT : Hid ((0 : Int) = 55 ∨ (0 : Int) = 0 → o1.length = o1.length) := Lib.hid (fun _ => rfl)
    have k1 := HGB6.out.cell 1
    have k2 := HB6.out.cell 2
    simp only [List.getElem?_cons_zero, List.getElem?_cons_succ] at k1 k2
    have htl : t ≤ o1.length := by rw [HTO.out]; exact HPRE.out.length_le
    obtain ⟨M, hM⟩ : ∃ M, M = o1.length := ⟨_, rfl⟩
    have HM := Lib.hid hM
    have hMb : M ≤ 4000000000 := by rw [hM]; have := inflF_le (fed ++ b) most; rw [← HR1.out] at this; simp only [] at this; omega
    rw [← hM] at k1 htl HGR6 HTT
    have HGC' : Hid (M ≤ vcG) := Lib.hid (by rw [hM]; exact HGC.out)
    have HCN := Lib.hid (cutA_nil (l := t) (n := M) (c := vcG) (fun h => by have := HGN.out h; rw [hM]; exact this))
    clear hM
    have HRC := Lib.hid (HGR6.out.cut HGP.out htl HGC'.out)
    have hsl := fun w => slice_from8 w vG M vcG t t rfl htl
    go_still_tail 9, (by kernel_rfl)
    change wpList _ _ _ _ _ w6.drew
    have hdr := (Keeps.refl [] w6).drew
    have HBd := Lib.hid (HB6.out.keeps hdr (by simp))
    have HOd := Lib.hid (own_keeps HO6.out hdr (by simp))
    have HKd := Lib.hid (HK6.out.trans (hdr.mono (by simp)))
    have HRCd := Lib.hid (HRC.out.keeps hdr (off_nil _))
    have HGBd := Lib.hid (HGB6.out.keeps hdr (by simp))
    clear hdr HB6 HO6 HK6 HRC HGB6 HGR6 k1 k2 hsl
    go_wp2_with fail
    refine (bclone_calls w6.drew (cutA vG t vcG) (M - t) (vcG - t) (o1.drop t) HRCd.out HCN.out (by omega)).mono ?_
    rintro _ w7 ⟨v7, rfl, ho7, hb7⟩
    have hk7 := Keeps.of_below hb7 (S := [])
    have hb8 := HBd.out.keeps hk7 (by simp)
    have HB7 := Lib.hid hb8
    have HO7 := Lib.hid (own_keeps HOd.out hk7 (by simp))
    have HK7 := Lib.hid (HKd.out.trans (hk7.mono (by simp)))
    have hg7 := HGBd.out.keeps hk7 (by simp)
    have k1 := hg7.cell 1
    simp only [List.getElem?_cons_zero, List.getElem?_cons_succ] at k1
    rw [← HM.out] at k1
    have HV7 := Lib.hid ho7
    obtain ⟨A7, c7, rfl⟩ := own_formW ho7
    have f2 := hb8.frozen 2
    have j2 := hb8.cell 2
    simp only [List.getElem?_cons_zero, List.getElem?_cons_succ] at j2
    have HVB : Hid (∀ x, (Value.slice A7 (M - t) c7).ownBlock = some x → w6.drew.heap.size ≤ x) := Lib.hid (fun x hx => own_lo HV7.out x hx)
    clear hb8 ho7 hb7 hk7 hg7 HBd HOd HKd HRCd HGBd
    go_wp2_with fail
    go_ret2
    have hb9 := HB7.out.set 2 (.int .i64 M)
    simp only [List.set_cons_succ, List.set_cons_zero] at hb9
    have ho9 := ownsRow_setCell_below HO7.out (a := ⟨s, 2, none⟩) (Nat.lt_succ_self s) (.int .i64 M)
    have hv9 := own_keeps HV7.out (S := [s]) ((Keeps.refl [s] w7).setCell (p := ⟨s, 2, none⟩) (Or.inl (by simp)) (.int .i64 M)) (fun x hx hm => by have := HVB.out x hx; rw [List.mem_singleton.1 hm] at this; have := HW6S.out; have : w6.heap.size = w6.drew.heap.size := rfl; omega)
    refine HFT.out _ _ _ _ HFR ?_ (HST.out M U _ hb9 ho9 (fun _ => HM.out) HUQ.out) (HK7.out.setCell (p := ⟨s, 2, none⟩) (Or.inl (by simp)) _) HFB1.out (fun x hx hx2 => ?_)
    · rw [List.length_drop, ← HM.out]
      exact hv9.mono (by have := HW6S.out; have := HW2S.out; have : w6.heap.size = w6.drew.heap.size := rfl; omega)
    · have a := HVB.out x hx
      have b : w6.heap.size = w6.drew.heap.size := rfl
      have c := HW6S.out
      cases vB with
      | none => simp [Value.ownBlock] at hx2
      | some ad =>
        have d := HLT2.out ad rfl
        have e : ad.block = x := by simpa [Value.ownBlock] using hx2
        omega
  by_cases he55 : e1 ≠ 55
  · have g0 : (e1 != 0) = true := by simpa using he0
    have g5 : (e1 != 55) = true := by simpa using he55
    have HFR : Hid (feedR (o0, p0, 55) (o1, p1, e1) = ([], e1)) := Lib.hid (by unfold feedR; rw [if_neg (by rintro (h | h); exact he0 h; exact he55 h)])
    have HS4 := Lib.hid (HST.out t u w4 HB4.out HO4.out (fun h => by omega) (fun h => by omega))
    clear HST HPS HQ he0 he55 HRD HGB HGR2
    go_wp2_with fail
    go_ret2
    exact HFH.out (.int .i64 0) e1 _ _ HFR HS4.out HK4.out HFB1.out
  · obtain rfl : e1 = 55 := Classical.not_not.1 he55
    clear he55
    obtain ⟨w6, hw6⟩ : ∃ w6, w6 = w4 := ⟨_, rfl⟩
    rw [← hw6] at HB4 HO4 HK4 HGB HGR2 HW4S ⊢
    clear hw6 HRD HQ he0
    have HB6 := HB4
    have HO6 := HO4
    have HK6 := HK4
    have HGB6 := HGB
    have HGR6 := HGR2
    have HW6S := HW4S
    obtain ⟨U, hU⟩ : ∃ U, U = u := ⟨_, rfl⟩
    have HUQ : Hid ((55 : Int) = 0 → U = (p1 + 7) / 8) := Lib.hid (fun h => by simp at h)
    rw [← hU] at HB6
    clear hU HB4 HO4 HK4 HGB HGR2 HW4S
    have HFR : Hid (feedR (o0, p0, 55) (o1, p1, 55) = (o1.drop t, 0)) := Lib.hid (by unfold feedR; rw [if_pos (.inr rfl), HTO.out])
    have HTT : Hid ((55 : Int) = 55 ∨ (55 : Int) = 0 → o1.length = o1.length) := Lib.hid (fun _ => rfl)
    go_upto_region 14 with (fail)
    have k1 := HGB6.out.cell 1
    have k2 := HB6.out.cell 2
    simp only [List.getElem?_cons_zero, List.getElem?_cons_succ] at k1 k2
    have htl : t ≤ o1.length := by rw [HTO.out]; exact HPRE.out.length_le
    obtain ⟨M, hM⟩ : ∃ M, M = o1.length := ⟨_, rfl⟩
    have HM := Lib.hid hM
    have hMb : M ≤ 4000000000 := by rw [hM]; have := inflF_le (fed ++ b) most; rw [← HR1.out] at this; simp only [] at this; omega
    rw [← hM] at k1 htl HGR6 HTT
    have HGC' : Hid (M ≤ vcG) := Lib.hid (by rw [hM]; exact HGC.out)
    have HCN := Lib.hid (cutA_nil (l := t) (n := M) (c := vcG) (fun h => by have := HGN.out h; rw [hM]; exact this))
    clear hM
    have HRC := Lib.hid (HGR6.out.cut HGP.out htl HGC'.out)
    have hsl := fun w => slice_from8 w vG M vcG t t rfl htl
    go_still_tail 9, (by kernel_rfl)
    change wpList _ _ _ _ _ w6.drew
    have hdr := (Keeps.refl [] w6).drew
    have HBd := Lib.hid (HB6.out.keeps hdr (by simp))
    have HOd := Lib.hid (own_keeps HO6.out hdr (by simp))
    have HKd := Lib.hid (HK6.out.trans (hdr.mono (by simp)))
    have HRCd := Lib.hid (HRC.out.keeps hdr (off_nil _))
    have HGBd := Lib.hid (HGB6.out.keeps hdr (by simp))
    clear hdr HB6 HO6 HK6 HRC HGB6 HGR6 k1 k2 hsl
    go_wp2_with fail
    refine (bclone_calls w6.drew (cutA vG t vcG) (M - t) (vcG - t) (o1.drop t) HRCd.out HCN.out (by omega)).mono ?_
    rintro _ w7 ⟨v7, rfl, ho7, hb7⟩
    have hk7 := Keeps.of_below hb7 (S := [])
    have hb8 := HBd.out.keeps hk7 (by simp)
    have HB7 := Lib.hid hb8
    have HO7 := Lib.hid (own_keeps HOd.out hk7 (by simp))
    have HK7 := Lib.hid (HKd.out.trans (hk7.mono (by simp)))
    have hg7 := HGBd.out.keeps hk7 (by simp)
    have k1 := hg7.cell 1
    simp only [List.getElem?_cons_zero, List.getElem?_cons_succ] at k1
    rw [← HM.out] at k1
    have HV7 := Lib.hid ho7
    obtain ⟨A7, c7, rfl⟩ := own_formW ho7
    have f2 := hb8.frozen 2
    have j2 := hb8.cell 2
    simp only [List.getElem?_cons_zero, List.getElem?_cons_succ] at j2
    have HVB : Hid (∀ x, (Value.slice A7 (M - t) c7).ownBlock = some x → w6.drew.heap.size ≤ x) := Lib.hid (fun x hx => own_lo HV7.out x hx)
    clear hb8 ho7 hb7 hk7 hg7 HBd HOd HKd HRCd HGBd
    go_wp2_with fail
    go_ret2
    have hb9 := HB7.out.set 2 (.int .i64 M)
    simp only [List.set_cons_succ, List.set_cons_zero] at hb9
    have ho9 := ownsRow_setCell_below HO7.out (a := ⟨s, 2, none⟩) (Nat.lt_succ_self s) (.int .i64 M)
    have hv9 := own_keeps HV7.out (S := [s]) ((Keeps.refl [s] w7).setCell (p := ⟨s, 2, none⟩) (Or.inl (by simp)) (.int .i64 M)) (fun x hx hm => by have := HVB.out x hx; rw [List.mem_singleton.1 hm] at this; have := HW6S.out; have : w6.heap.size = w6.drew.heap.size := rfl; omega)
    refine HFT.out _ _ _ _ HFR ?_ (HST.out M U _ hb9 ho9 (fun _ => HM.out) HUQ.out) (HK7.out.setCell (p := ⟨s, 2, none⟩) (Or.inl (by simp)) _) HFB1.out (fun x hx hx2 => ?_)
    · rw [List.length_drop, ← HM.out]
      exact hv9.mono (by have := HW6S.out; have := HW2S.out; have : w6.heap.size = w6.drew.heap.size := rfl; omega)
    · have a := HVB.out x hx
      have b : w6.heap.size = w6.drew.heap.size := rfl
      have c := HW6S.out
      cases vB with
      | none => simp [Value.ownBlock] at hx2
      | some ad =>
        have d := HLT2.out ad rfl
        have e : ad.block = x := by simpa [Value.ownBlock] using hx2
        omega
end Go.Proofs.YtcblibefmclloaaDoor

set_option linter.unusedVariables false
set_option linter.unusedSimpArgs false
namespace Go.Proofs.YtcblibefmclloaaDoor
open Go.RowKit
set_option maxHeartbeats 400000 in
theorem keepBytes_calls (w : World) (A B : Option Addr) (n m c d : Nat) (xs ys : List Int) (hx : RI .u8 w A n xs) (hy : RI .u8 w B m ys) (hn : n ≤ 140737488355328) (hm : m ≤ 140737488355328) :
    Calls Tryd.prog 34 #[.slice A n c, .slice B m d] w fun e w' => e = .returned (.bool (xs == ys)) ∧ Dr w w' := by
  have lx := hx.len
  have ly := hy.len
  by_cases hnm : n = m
  · subst hnm
    have t0 : ((n : Int) != (n : Int)) = false := by simp
    go_enter Tryd.func34, Tryd.ntmps34
    go_wp2
    clear t0
    have HX := Lib.hid hx
    have HY := Lib.hid hy
    have LX := Lib.hid lx
    have LY := Lib.hid ly
    clear hx hy lx ly
    go_loopw [5] (fun i wr => ∃ k : Nat, k ≤ n ∧ i = .int .i64 k ∧ Hid (∀ j, j < k → nth xs j = nth ys j) ∧ Hid (Dr w wr)) (fun i _ => n - (intOf i).toNat)
    case atStart => exact ⟨0, by omega, rfl, fun j hj => by omega, Dr.refl _⟩
    case round =>
      obtain ⟨k, hk, rfl, HE, HW⟩ := hrel
      obtain ⟨q, rfl⟩ := HW.out
      clear HW
      by_cases hlt : k < n
      · obtain ⟨a, o, rfl, ha⟩ := HX.out.at hlt
        obtain ⟨b, o', rfl, hb⟩ := HY.out.at hlt
        by_cases hv : nth xs k = nth ys k
        · have t1 : (nth xs k != nth ys k) = false := by simpa using hv
          have HV := Lib.hid hv
          clear hv
          go_wp2
          go_quiet (fail)
          go_wp2
          go_roundw
          case rel => exact ⟨k + 1, by omega, by go_num, eq_snoc HE.out HV.out, ⟨_, rfl⟩⟩
          case measure => simp [intOf]; omega
        · have t1 : (nth xs k != nth ys k) = true := by simpa using hv
          have HV := Lib.hid hv
          clear hv
          go_wp2
          go_quiet (fail)
          go_wp2
          go_ret
          rw [beq_of_ne xs ys k HV.out]
          exact ⟨rfl, Dr.step ⟨_, rfl⟩ _⟩
      · go_wp2
        go_ret
        rw [beq_of_getD xs ys n LX.out LY.out (fun j hj => HE.out j (by omega))]
        exact ⟨rfl, _, rfl⟩
  · have t0 : ((n : Int) != (m : Int)) = true := by simp; omega
    go_enter Tryd.func34, Tryd.ntmps34
    go_wp2
    go_ret
    rw [beq_of_len xs ys (by omega)]
    exact ⟨rfl, 0, rfl⟩
end Go.Proofs.YtcblibefmclloaaDoor

set_option linter.unusedVariables false
set_option linter.unusedSimpArgs false
namespace Go.Proofs.YtcblibefmclloaaDoor
open Go.RowKit
theorem aw_facts : inflR [75, 76, 74, 6, 0] 9 = ([97, 98, 99], 5, 0) ∧ inflR [75, 132, 0, 0] 99 = ([97, 97, 97, 97, 97, 97, 97], 4, 0) ∧ inflR [7] 9 = ([], 0, 50) ∧ inflF [75, 76] 9 = ([97], 0, 55) ∧
    (inflF [75, 76, 74, 6, 0, 255] 9).1 = [97, 98, 99] ∧ (inflF [75, 76, 74, 6, 0, 255] 9).2.2 = 0 ∧ ((inflF [75, 76, 74, 6, 0, 255] 9).2.1 + 7) / 8 = 5 := by decide +kernel
theorem by_all {xs : List Int} (h : xs.all (fun x => decide (0 ≤ x) && decide (x ≤ 255)) = true) (j : Nat) : 0 ≤ nth xs j ∧ nth xs j ≤ 255 := by
  by_cases hj : j < xs.length
  · have := List.all_eq_true.1 h (nth xs j) (by rw [nth_lt hj]; exact List.getElem_mem _)
    simpa using this
  · simp [nth, List.getD, List.getElem?_eq_none (Nat.le_of_not_lt hj)]
theorem conv_str {w : World} {A : Option Addr} {n c : Nat} {xs : List Int} (h : RI .u8 w A n xs) (h1 : 0 < n) (s : ByteArray) (hs : strOfNums xs = s) : (convert 37 9 (.slice A n c)).run Tryd.prog w = .ok (.string s) w := by
  subst hs
  obtain ⟨b, o, rfl⟩ := h.hd h1
  exact run_convert_bytes_arg w 37 5 Tryd.underlying37 Tryd.underlying5 b o n c xs h.len (fun i hi => h.cell b o rfl i hi) 9 Tryd.underlying9
theorem lit_bytes (w : World) (xs : List Int) : RI .u8 (w.alloc (.cells (ints .u8 xs).toArray 5)) (some ⟨w.heap.size, 0, none⟩) xs.length xs := by
  have := Blk.ri (xs := xs) (ys := []) (k := .u8) (by simpa using blk_new w 5 (ints .u8 xs))
  exact this
set_option maxRecDepth 100000 in
set_option maxHeartbeats 2000000 in
theorem awake5_calls (w : World) (hT : Tabs w) : Calls Tryd.prog 36 #[] w fun e w' => e = .returned (.bool true) ∧ Keeps [] w w' := by
  have HT := Lib.hid hT
  have HTS := Lib.hid hT.size
  clear hT
  go_enter Tryd.func36, Tryd.ntmps36
  have k0 : Keeps [] w (w.alloc (.cells (ints .u8 [75, 76, 74, 6, 0]).toArray 5)) := (Keeps.refl [] w).alloc _
  have HK0 := Lib.hid k0
  have HL0 := Lib.hid (lit_bytes w [75, 76, 74, 6, 0])
  clear k0
  go_wp2_with fail
  refine (inflate_calls (w.alloc (.cells (ints .u8 [75, 76, 74, 6, 0]).toArray 5)) _ 5 5 [75, 76, 74, 6, 0] 9 (HT.out.keeps HK0.out (by simp)) HL0.out (by simp) (by_all (by decide)) (by omega)).mono ?_
  rintro _ w1 ⟨v1, rfl, ho1, hb1⟩
  rw [aw_facts.1] at ho1 ⊢
  simp only [] at ho1 ⊢
  obtain ⟨A1, c1, rfl, hr1, -, -⟩ := own_ri ho1
  have HR1 := Lib.hid hr1
  have HK1 := Lib.hid (HK0.out.trans (Keeps.of_below hb1))
  clear ho1 hb1 hr1 HK0 HL0
  have k0 : Keeps [] w1 (w1.alloc (.cells (ints .u8 [75, 132, 0, 0]).toArray 5)) := (Keeps.refl [] w1).alloc _
  have HK1' := Lib.hid (HK1.out.trans k0)
  have HL1 := Lib.hid (lit_bytes w1 [75, 132, 0, 0])
  have HR1' := Lib.hid (HR1.out.keeps k0 (off_nil _))
  clear k0 HR1 HK1
  go_wp2_with fail
  refine (inflate_calls (w1.alloc (.cells (ints .u8 [75, 132, 0, 0]).toArray 5)) _ 4 4 [75, 132, 0, 0] 99 (HT.out.keeps HK1'.out (by simp)) HL1.out (by simp) (by_all (by decide)) (by omega)).mono ?_
  rintro _ w2 ⟨v2, rfl, ho2, hb2⟩
  rw [aw_facts.2.1] at ho2 ⊢
  simp only [] at ho2 ⊢
  obtain ⟨A2, c2, rfl, hr2, -, -⟩ := own_ri ho2
  have k2 := Keeps.of_below hb2 (S := [])
  have k0 : Keeps [] w2 (w2.alloc (.cells (ints .u8 [7]).toArray 5)) := (Keeps.refl [] w2).alloc _
  have HR1 := Lib.hid (HR1'.out.keeps (k2.trans k0) (off_nil _))
  have HR2 := Lib.hid (hr2.keeps k0 (off_nil _))
  have HK2 := Lib.hid ((HK1'.out.trans k2).trans k0)
  have HL2 := Lib.hid (lit_bytes w2 [7])
  clear ho2 hb2 hr2 k0 k2 HK1' HL1 HR1'
  go_wp2_with fail
  refine (inflate_calls (w2.alloc (.cells (ints .u8 [7]).toArray 5)) _ 1 1 [7] 9 (HT.out.keeps HK2.out (by simp)) HL2.out (by simp) (by_all (by decide)) (by omega)).mono ?_
  rintro _ w3 ⟨v3, rfl, ho3, hb3⟩
  rw [aw_facts.2.2.1] at ho3 ⊢
  simp only [] at ho3 ⊢
  obtain ⟨A3, c3, rfl, -, -, -⟩ := own_ri ho3
  have k3 := Keeps.of_below hb3 (S := [])
  have HR13 := Lib.hid (HR1.out.keeps k3 (off_nil _))
  have HR23 := Lib.hid (HR2.out.keeps k3 (off_nil _))
  have HK3 := Lib.hid (HK2.out.trans k3)
  clear ho3 hb3 k3 HR1 HR2 HK2 HL2
  go_wp2_with fail
  refine (inew_calls w3 9).mono ?_
  rintro _ w4 ⟨-, hn⟩
  obtain ⟨s, rfl, hst, hs, k4⟩ := hn 9 rfl (by omega)
  have k0 : Keeps [] w4 (w4.alloc (.cells (ints .u8 [75, 76]).toArray 5)) := (Keeps.refl [] w4).alloc _
  have HR14 := Lib.hid (HR13.out.keeps (k4.trans k0) (off_nil _))
  have HR24 := Lib.hid (HR23.out.keeps (k4.trans k0) (off_nil _))
  have HK4 := Lib.hid ((HK3.out.trans k4).trans k0)
  have HST4 := Lib.hid (hst.keeps k0 (by simp))
  have HSG : Hid (gtop ≤ s) := Lib.hid (by have := HTS.out; have := HK3.out.size; omega)
  have HSW : Hid (w3.heap.size ≤ s) := Lib.hid hs
  have HSO : Hid (w.heap.size ≤ s) := Lib.hid (by have := HK3.out.size; omega)
  have HL4 := Lib.hid (lit_bytes w4 [75, 76])
  have HB1 : Hid (∀ a, A1 = some a → a.block < s) := Lib.hid (fun a ha => by
    obtain ⟨b, o, hd, hc⟩ := HR13.out.at (show 0 < [97, 98, 99].length by decide)
    rw [ha] at hd
    injection hd with hd
    have := World.block_lt_of_cell? _ _ hc
    rw [hd]; exact Nat.lt_of_lt_of_le this hs)
  have HB2 : Hid (∀ a, A2 = some a → a.block < s) := Lib.hid (fun a ha => by
    obtain ⟨b, o, hd, hc⟩ := HR23.out.at (show 0 < [97, 97, 97, 97, 97, 97, 97].length by decide)
    rw [ha] at hd
    injection hd with hd
    have := World.block_lt_of_cell? _ _ hc
    rw [hd]; exact Nat.lt_of_lt_of_le this hs)
  clear hst hs k4 k0 hn HR13 HR23 HK3 HTS
  go_wp2_with fail
  refine (feed_calls (w4.alloc (.cells (ints .u8 [75, 76]).toArray 5)) s 9 [] none _ 2 2 [75, 76] HST4.out (HT.out.keeps HK4.out (by simp)) HSG.out HL4.out (by simp) (by_all (by decide)) (by simp)).mono ?_
  rintro _ w5 ⟨v5, fb, rfl, ho5, hst5, hk5, hfb5, hdis5⟩
  have e1 : feedR (inflF [] 9) (inflF ([] ++ [75, 76]) 9) = ([97], 0) := by rw [inflF_nil, List.nil_append, aw_facts.2.2.2.1]; rfl
  rw [e1] at ho5 ⊢
  rw [List.nil_append] at hst5
  simp only [] at ho5 ⊢
  have HV5 := Lib.hid hdis5
  obtain ⟨A5, c5, rfl, hr5, -, hlo5⟩ := own_ri ho5
  have HFB : Hid (∀ x, fb = some x → w4.heap.size + 1 ≤ x) := Lib.hid (fun x hx => by
    rcases hfb5 x hx with h | h
    · cases h
    · simpa using h)
  have k0 : Keeps [] w5 (w5.alloc (.cells (ints .u8 [74, 6, 0, 255]).toArray 5)) := (Keeps.refl [] w5).alloc _
  have HR15 := Lib.hid ((HR14.out.keeps hk5 (fun a ha hm => by have := HB1.out a ha; simp at hm; omega)).keeps k0 (off_nil _))
  have HR25 := Lib.hid ((HR24.out.keeps hk5 (fun a ha hm => by have := HB2.out a ha; simp at hm; omega)).keeps k0 (off_nil _))
  have HR55 := Lib.hid (hr5.keeps k0 (off_nil _))
  have HK5 := Lib.hid ((HK4.out.then hk5 (fun x hx => by simp at hx; subst hx; exact .inr HSO.out)).trans k0)
  have HST5 := Lib.hid (hst5.keeps k0 (by simp))
  have HL5 := Lib.hid (lit_bytes w5 [74, 6, 0, 255])
  have HW4 : Hid (s < w4.heap.size + 1) := Lib.hid (by have := HST4.out.lt; simpa using this)
  have HD5 : Hid (∀ a, A5 = some a → a.block ≠ s ∧ fb ≠ some a.block) := Lib.hid (fun a ha => ⟨by
    have := (hlo5 a ha).1
    have h2 := HW4.out
    simp at this
    omega, HV5.out a.block (by rw [ha]; rfl)⟩)
  have HF1 : Hid (∀ a, A1 = some a → fb ≠ some a.block) := Lib.hid (fun a ha h => by have := HFB.out _ h; have := HB1.out a ha; have := HW4.out; omega)
  have HF2 : Hid (∀ a, A2 = some a → fb ≠ some a.block) := Lib.hid (fun a ha h => by have := HFB.out _ h; have := HB2.out a ha; have := HW4.out; omega)
  have HSZ : Hid (w.heap.size ≤ w4.heap.size + 1) := Lib.hid (by have := HK4.out.size; simpa using this)
  clear ho5 hr5 hlo5 hst5 hk5 hfb5 hdis5 e1 k0 HR14 HR24 HK4 HST4 HL4 HV5
  go_wp2_with fail
  refine (feed_calls (w5.alloc (.cells (ints .u8 [74, 6, 0, 255]).toArray 5)) s 9 [75, 76] fb _ 4 4 [74, 6, 0, 255] HST5.out (HT.out.keeps HK5.out (by simp)) HSG.out HL5.out (by simp) (by_all (by decide)) (by simp)).mono ?_
  rintro _ w6 ⟨v6, fb6, rfl, ho6, hst6, hk6, -, -⟩
  have e1 : feedR (inflF [75, 76] 9) (inflF ([75, 76] ++ [74, 6, 0, 255]) 9) = ([98, 99], 0) := by
    have h1 : [(75 : Int), 76] ++ [74, 6, 0, 255] = [75, 76, 74, 6, 0, 255] := rfl
    rw [h1]
    unfold feedR
    rw [if_pos (.inl aw_facts.2.2.2.2.2.1), aw_facts.2.2.2.1, aw_facts.2.2.2.2.1]
    rfl
  rw [e1] at ho6 ⊢
  rw [show [(75 : Int), 76] ++ [74, 6, 0, 255] = [75, 76, 74, 6, 0, 255] from rfl] at hst6
  simp only [] at ho6 ⊢
  obtain ⟨A6, c6, rfl, hr6, -, -⟩ := own_ri ho6
  have hno : ∀ {a : Addr}, a.block ≠ s → fb ≠ some a.block → a.block ∉ s :: fb.toList := fun h1 h2 hm => by
    rcases List.mem_cons.1 hm with h | h
    · exact h1 h
    · exact h2 (Option.mem_toList.1 h)
  have HR16 := Lib.hid (HR15.out.keeps hk6 (fun a ha => hno (by have := HB1.out a ha; omega) (HF1.out a ha)))
  have HR26 := Lib.hid (HR25.out.keeps hk6 (fun a ha => hno (by have := HB2.out a ha; omega) (HF2.out a ha)))
  have HR56 := Lib.hid (HR55.out.keeps hk6 (fun a ha => hno (HD5.out a ha).1 (HD5.out a ha).2))
  have HR66 := Lib.hid hr6
  have HK6 := Lib.hid (HK5.out.then hk6 (fun x hx => by
    rcases List.mem_cons.1 hx with h | h
    · subst h; exact .inr HSO.out
    · have := HFB.out x (Option.mem_toList.1 h); have := HSZ.out; exact .inr (by omega)))
  have HST6 := Lib.hid hst6
  have x1 := conv_str (n := 3) (c := c1) HR16.out (by decide) ⟨#[97, 98, 99]⟩ (by decide)
  have x2 := conv_str (n := 7) (c := c2) HR26.out (by decide) ⟨#[97, 97, 97, 97, 97, 97, 97]⟩ (by decide)
  have x5 := conv_str (n := 1) (c := c5) HR56.out (by decide) ⟨#[97]⟩ (by decide)
  have x6 := conv_str (n := 2) (c := c6) HR66.out (by decide) ⟨#[98, 99]⟩ (by decide)
  clear ho6 hst6 hk6 hr6 e1 HR15 HR25 HR55 HK5 HST5 HL5 HF1 HF2 HD5 HSZ HFB HB1 HB2 hno
  go_upto_region 10 with (fail)
  go_wp2_with fail
  refine (done_calls w6 s 9 [75, 76, 74, 6, 0, 255] fb6 HST6.out).mono ?_
  rintro _ w7 ⟨rfl, hd7⟩
  rw [aw_facts.2.2.2.2.2.1]
  have HK7 := Lib.hid (HK6.out.trans (hd7.keeps (S := [])))
  have HST7 := Lib.hid (HST6.out.keeps (hd7.keeps (S := [])) (by simp))
  clear hd7 HK6 HST6 x1 x2 x5 x6
  go_wp2_with fail
  refine (rest_calls w7 s 9 [75, 76, 74, 6, 0, 255] fb6 HST7.out (by simp)).mono ?_
  rintro _ w8 ⟨v8, rfl, ho8, hk8⟩
  have e1 : restF [75, 76, 74, 6, 0, 255] 9 = [255] := by
    unfold restF
    rw [if_pos aw_facts.2.2.2.2.2.1, aw_facts.2.2.2.2.2.2]
    rfl
  rw [e1] at ho8
  obtain ⟨A8, c8, rfl, hr8, -, -⟩ := own_ri ho8
  have k0 : Keeps [] w8 (w8.alloc (.cells (ints .u8 [255]).toArray 5)) := (Keeps.refl [] w8).alloc _
  have HR8 := Lib.hid (hr8.keeps k0 (off_nil _))
  have HK8 := Lib.hid ((HK7.out.trans hk8).trans k0)
  have HST8 := Lib.hid (HST7.out.keeps (hk8.trans k0) (by simp))
  have HL8 := Lib.hid (lit_bytes w8 [255])
  clear ho8 hr8 hk8 k0 HK7 HST7 e1
  go_wp2_with fail
  refine (keepBytes_calls (w8.alloc (.cells (ints .u8 [255]).toArray 5)) _ _ 1 1 c8 1 [255] [255] HR8.out HL8.out (by omega) (by omega)).mono ?_
  rintro _ w9 ⟨rfl, hd9⟩
  rw [beq_self_eq_true]
  have HK9 := Lib.hid (HK8.out.trans (hd9.keeps (S := [])))
  have HST9 := Lib.hid (HST8.out.keeps (hd9.keeps (S := [])) (by simp))
  clear hd9 HK8 HST8
  go_wp2_with fail
  refine (close_calls w9 s 9 [75, 76, 74, 6, 0, 255] fb6 HST9.out).mono ?_
  rintro _ w10 ⟨rfl, hd10⟩
  rw [aw_facts.2.2.2.2.2.1]
  have HK10 := Lib.hid (HK9.out.trans (hd10.keeps (S := [])))
  clear hd10 HK9 HST9
  go_wp2_with fail
  go_ret
  exact ⟨rfl, HK10.out⟩
end Go.Proofs.YtcblibefmclloaaDoor

set_option linter.unusedVariables false
set_option linter.unusedSimpArgs false
namespace Go.Proofs.YtcblibefmclloaaDoor
open Go.RowKit
theorem byte_ofwf {zs : List Int} (h : ∀ x ∈ zs, (Lit.int .u8 x).wf = true) (j : Nat) : 0 ≤ nth zs j ∧ nth zs j ≤ 255 := by
  by_cases hj : j < zs.length
  · have := h (nth zs j) (by rw [nth_lt hj]; exact List.getElem_mem _)
    simp [Lit.wf] at this
    rwa [show IntKind.u8.min = 0 from rfl, show IntKind.u8.max = 255 from rfl] at this
  · simp [nth, List.getD, List.getElem?_eq_none (Nat.le_of_not_lt hj)]
theorem int_ofwf {k : Int} (hk : (Lit.int .i64 k).wf = true) : -9223372036854775808 ≤ k ∧ k ≤ 9223372036854775807 := by
  simp [Lit.wf] at hk
  first
    | exact hk
    | rwa [show IntKind.i64.min = -9223372036854775808 from rfl, show IntKind.i64.max = 9223372036854775807 from rfl] at hk
/-- A row of one's own behind a call that keeps all. -/
theorem ri_below {k : IntKind} {w w' : World} {A : Option Addr} {n : Nat} {xs : List Int} (h : RI k w A n xs) (hb : Below w.heap.size w w') : RI k w' A n xs := h.keeps (Keeps.of_below hb (S := [])) (off_nil _)
end Go.Proofs.YtcblibefmclloaaDoor

set_option linter.unusedVariables false
set_option linter.unusedSimpArgs false
namespace Go.Proofs.YtcblibefmclloaaDoor
open Go.RowKit
/-- Bytes that are lent: two marks behind them. -/
def Lent8 (w : World) (g : Nat) (xs : List Int) : Prop := Blk w g 5 (ints .u8 (xs ++ [165, 90]))
theorem Lent8.ri {w : World} {g : Nat} {xs : List Int} (h : Lent8 w g xs) : RI .u8 w (some ⟨g, 0, none⟩) xs.length xs := Blk.ri h
set_option maxRecDepth 100000 in
set_option maxHeartbeats 1000000 in
theorem lend_calls (w : World) (A : Option Addr) (n c : Nat) (xs : List Int) (hr : RI .u8 w A n xs) (hn : n ≤ 100000000) :
    Calls Tryd.prog 30 #[.slice A n c] w fun e w' => ∃ g, e = .returned (.slice (some ⟨g, 0, none⟩) n (n + 2)) ∧ Lent8 w' g xs ∧ w.heap.size ≤ g ∧ Below w.heap.size w w' := by
  have HX := Lib.hid hr
  have LX := Lib.hid hr.len
  clear hr
  have hmk := fun w => make_ints (P := Tryd.prog) w 37 5 .u8 1 Tryd.underlying37 info_u8 ((n : Int) + 2) (n + 2) (by omega) (by omega) (by omega)
  have hcap : CapOk (some ⟨w.heap.size, 0, none⟩) (n + 2) (n + 2) := ⟨Nat.le_refl _, by unfold maxLen; omega, fun _ => ⟨_, _, rfl⟩⟩
  have hsl := fun w' => slice_to8 w' (some ⟨w.heap.size, 0, none⟩) (n + 2) (n + 2) n n rfl (by omega) hcap
  go_enter Tryd.func30, Tryd.ntmps30
  go_wp2_with (with_reducible refine wpList_copy_splice rfl (.tmp 8) (.tmp 9) _ _ rfl 5 Tryd.underlying37 size_u8b _ _ _ _ _ _ rfl rfl w.heap.size 0 (ints .u8 (List.replicate (n + 2) 0)) 5 ?h1 (ints .u8 xs) ?h2 ?h3 ?h4 ?h5 w.heap.size w ?h6 (Nat.le_refl _) ?_)
  case h1 => first | exact blk_new w _ _ | exact (Array.getElem?_eq_some_iff.1 (blk_new w 5 (ints .u8 (List.replicate (n + 2) 0)))).2
  case h2 => have := LX.out; simp [ints]; omega
  case h3 =>
    intro hp
    obtain ⟨a, o, ha⟩ := HX.out.hd (by have := LX.out; simpa [ints, this] using hp)
    refine ⟨_, ha, fun j v hv => ?_⟩
    have hj : j < n := by have := LX.out; have := (List.getElem?_eq_some_iff.1 hv).1; simp [ints] at this; omega
    have hc := HX.out.cell a o ha j hj
    have e : (ints .u8 xs)[j]? = some (.int .u8 (nth xs j)) := by rw [ints_getElem?]; simp [nth, List.getD, show j < xs.length from by have := LX.out; omega]
    rw [e] at hv
    rw [← Option.some.inj hv, add_plain2]
    exact (Keeps.refl [] w).alloc _ |>.cell (by simp) hc
  case h4 => have := LX.out; simp [ints]; omega
  case h5 => intro v hv; simp only [ints, List.mem_map] at hv; obtain ⟨x, _, rfl⟩ := hv; rfl
  case h6 => exact (Below.refl _ _).alloc (Nat.le_refl _) _
  intro w1 hg1 hb1
  have hB : Blk w1 w.heap.size 5 (splice (ints .u8 (List.replicate (n + 2) 0)) 0 (ints .u8 xs)) := hg1.out
  have hsp : splice (ints .u8 (List.replicate (n + 2) 0)) 0 (ints .u8 xs) = ints .u8 (xs ++ [0, 0]) := by
    have h1 := LX.out
    have h2 : List.replicate (n + 2) (0 : Int) = List.replicate n 0 ++ [0, 0] := by rw [show [(0 : Int), 0] = List.replicate 2 0 from rfl, List.replicate_append_replicate]
    simp [splice, ints, h1]
  rw [hsp] at hB
  have HB := Lib.hid hB
  have HB1 := Lib.hid hb1
  have hln : (xs ++ [(0 : Int), 0]).length = n + 2 := by rw [List.length_append, LX.out]; rfl
  have k1 : w1.cell? ⟨w.heap.size, n, none⟩ = some (.int .u8 (nth (xs ++ [0, 0]) n)) := hB.cellI (j := n) (by omega)
  have k2 : w1.cell? ⟨w.heap.size, n + 1, none⟩ = some (.int .u8 (nth (xs ++ [0, 0]) (n + 1))) := hB.cellI (j := n + 1) (by omega)
  have f1 := hB.frozen n
  have f2 := hB.frozen (n + 1)
  generalize nth (xs ++ [0, 0]) n = y1 at *
  generalize nth (xs ++ [0, 0]) (n + 1) = y2 at *
  clear hg1 hsp hB hmk hb1 hln
  go_wp2
  go_ret
  have hs := (HB.out.set n (.int .u8 165)).set (n + 1) (.int .u8 90)
  rw [set_ints, set_ints] at hs
  have hx : ((xs ++ [(0 : Int), 0]).set n 165).set (n + 1) 90 = xs ++ [165, 90] := by
    have := LX.out
    subst this
    rw [List.set_append_right _ _ (Nat.le_refl _), List.set_append_right _ _ (by omega)]
    simp
  rw [hx] at hs
  exact ⟨_, rfl, hs, Nat.le_refl _, (HB1.out.setCell (p := ⟨w.heap.size, n, none⟩) (Nat.le_refl _) _).setCell (p := ⟨w.heap.size, n + 1, none⟩) (Nat.le_refl _) _⟩
/-- A block of bytes, whatever they are. -/
def Any8 (w : World) (g m : Nat) : Prop := ∃ zs : List Int, zs.length = m ∧ Blk w g 5 (ints .u8 zs)
set_option maxRecDepth 100000 in
set_option maxHeartbeats 2000000 in
theorem back_keep_calls (w : World) (g : Nat) (B : Option Addr) (n c : Nat) (xs : List Int) (h : Lent8 w g xs) (hl : xs.length = n) (hr : RI .u8 w B n xs) (hn : n ≤ 100000000) :
    Calls Tryd.prog 32 #[.slice (some ⟨g, 0, none⟩) n (n + 2), .slice B n c] w fun e w' => e = .returned (.bool true) ∧ Keeps [g] w w' := by
  have HL := Lib.hid h
  have HR := Lib.hid hr
  have HLN := Lib.hid hl
  have hln : (xs ++ [(165 : Int), 90]).length = n + 2 := by rw [List.length_append, hl]; rfl
  have k1 : w.cell? ⟨g, n, none⟩ = some (.int .u8 165) := by
    have := Blk.cellI h (j := n) (by omega)
    rwa [show nth (xs ++ [165, 90]) n = 165 by have := nth_append_right xs [165, 90] 0; rw [Nat.add_zero, hl] at this; rw [this]; rfl] at this
  have k2 : w.cell? ⟨g, n + 1, none⟩ = some (.int .u8 90) := by
    have := Blk.cellI h (j := n + 1) (by omega)
    rwa [show nth (xs ++ [165, 90]) (n + 1) = 90 by have := nth_append_right xs [165, 90] 1; rw [hl] at this; rw [this]; rfl] at this
  have hcap : CapOk (some ⟨g, 0, none⟩) (n + 2) (n + 2) := ⟨Nat.le_refl _, by unfold maxLen; omega, fun _ => ⟨_, _, rfl⟩⟩
  have hsl : ∀ w', (Instr.slice 37 (.slice (some ⟨g, 0, none⟩) n (n + 2)) none (some (.int .i64 ((n : Int) + 2))) none).run Tryd.prog w' = .ok (.slice (some ⟨g, 0, none⟩) (n + 2) (n + 2)) w' := fun w' => by
    rw [run_slice_h w' 37 (some ⟨g, 0, none⟩) n (n + 2) (by kernel_rfl) .i64 ((n : Int) + 2) (by omega) (by omega)]
    have hs : (sizeOf (Tryd.prog.elem 37)).run Tryd.prog w' = .ok 1 w' := by kernel_rfl
    rw [hs]
    simp [Result.andThen, sliced, add_plain2]
    omega
  clear h hr hl hcap
  go_enter Tryd.func32, Tryd.ntmps32
  go_wp2_with fail
  clear k1 k2 hsl hln
  go_loopw [6, 7] (fun ov iv wr => ∃ k : Nat, k ≤ n ∧ iv = .int .i64 k ∧ ov = .bool true ∧ Hid (Dr w wr)) (fun _ iv _ => n - (intOf iv).toNat)
  case atStart => exact ⟨0, by omega, rfl, rfl, Lib.hid (Dr.refl w)⟩
  case round =>
    obtain ⟨k, hk, rfl, rfl, HD⟩ := hrel
    obtain ⟨q, rfl⟩ := HD.out
    clear HD
    by_cases hlt : k < n
    · have e1 : decide (k < n) = true := by simpa using hlt
      obtain ⟨b, o, rfl, hc1⟩ := HR.out.at hlt
      have hc2 := Blk.cellI HL.out (j := k) (by rw [List.length_append, HLN.out]; simp; omega)
      rw [nth_append_left _ _ _ (by rw [HLN.out]; exact hlt)] at hc2
      have t1 : (nth xs k == nth xs k) = true := by simp
      have t2 : k < n + 2 := by omega
      go_wp2
      go_quiet (fail)
      go_wp2
      go_roundw
      case rel => exact ⟨k + 1, by omega, by go_num, rfl, Lib.hid ⟨_, rfl⟩⟩
      case measure => simp [intOf]; omega
    · obtain rfl : k = n := by omega
      have e1 : decide (k < k) = false := by simp
      obtain ⟨wo, hwo⟩ : ∃ wo : World, wo = w.drewN q := ⟨_, rfl⟩
      have HK0 : Hid (Keeps [g] w wo) := Lib.hid (by rw [hwo]; exact (Keeps.refl [g] w).drewN q)
      have HA0 : Hid (Any8 wo g (k + 2)) := Lib.hid ⟨xs ++ [165, 90], by rw [List.length_append, HLN.out]; rfl, by rw [hwo]; exact HL.out⟩
      rw [← hwo]
      clear hwo HL HR
      go_wp2_with fail
      go_loopw [8] (fun iv wr => ∃ i : Nat, i ≤ k + 2 ∧ iv = .int .i64 i ∧ Hid (Any8 wr g (k + 2)) ∧ Hid (Keeps [g] w wr)) (fun iv _ => k + 2 - (intOf iv).toNat)
      case atStart => exact ⟨0, by omega, rfl, HA0, HK0⟩
      case round =>
        clear HA0 HK0
        obtain ⟨i, hi, rfl, HA, HK⟩ := hrel
        obtain ⟨zs, hz, hblk⟩ := HA.out
        by_cases hlt2 : i < k + 2
        · have e2 : decide (i < k + 2) = true := by simpa using hlt2
          have e2' : decide ((i : Int) < (k : Int) + 2) = true := by simp; omega
          have hc := hblk.cellI (j := i) (by omega)
          have f1 := hblk.frozen i
          have HA' : ∀ y, Hid (Any8 (wr.setCell ⟨g, i, none⟩ (.int .u8 y)) g (k + 2)) := fun y => Lib.hid ⟨zs.set i y, by rw [List.length_set]; exact hz, by have := hblk.set i (.int .u8 y); rwa [set_ints] at this⟩
          have HAH := Lib.hid HA'
          clear hz hblk HA HA'
          generalize nth zs i = z at *
          go_wp2_with fail
          go_roundw
          case rel => exact ⟨i + 1, by omega, by go_num, HAH.out _, Lib.hid (HK.out.setCell (p := ⟨g, i, none⟩) (Or.inl (by simp)) _)⟩
          case measure => simp [intOf]; omega
        · obtain rfl : i = k + 2 := by omega
          have e2 : decide (k + 2 < k + 2) = false := by simp
          have e2' : decide (((k + 2 : Nat) : Int) < (k : Int) + 2) = false := by simp
          clear HA hblk hz
          go_wp2_with fail
          go_ret
          exact ⟨rfl, HK.out⟩
set_option maxRecDepth 100000 in
set_option maxHeartbeats 1000000 in
theorem spoil_calls (w : World) (base : Nat) (A : Option Addr) (n c : Nat) (xs : List Int) (hown : w.ownsRow base 5 1 (.slice A n c) n (ints .u8 xs)) (hU : AllU8 w (.slice A n c)) :
    Calls Tryd.prog 35 #[.slice A n c] w fun e w' => e = .returned (.tuple #[]) ∧ Keeps ((Value.slice A n c).ownBlock.toList) w w' := by
  have hcap := own_cap hown
  obtain ⟨h1, h2⟩ := hown
  rcases h2 with ⟨hv, rfl⟩ | ⟨g, cap, cur, hv, hb, hh, hc, hm, hs, ht⟩
  · injection hv with q1 q2 q3
    subst q1
    subst q3
    have hsl := fun w => slice_to8 w none 0 0 0 0 rfl (by omega) hcap
    clear hcap h1 hU
    go_enter Tryd.func35, Tryd.ntmps35
    go_wp2_with fail
    clear hsl
    go_loopg [2] 1 (fun k iv wr => iv = .int .i64 0 ∧ Hid (wr = w))
    case atStart => exact ⟨rfl, Lib.hid rfl⟩
    case round =>
      obtain ⟨rfl, HW⟩ := hrel
      go_wp2_with fail
      go_end0
      exact ⟨rfl, by rw [HW.out]; exact Keeps.refl _ _⟩
  · injection hv with q1 q2 q3
    subst q1
    subst q3
    obtain ⟨cur', hg', hall⟩ := hU g rfl
    have hcc : cur' = cur := by
      rw [hh] at hg'
      injection hg' with hg'
      injection hg' with hg' _ _
      exact hg'.symm
    subst hcc
    have HA0 : Hid (Any8 w g c) := Lib.hid (by
      refine ⟨cur'.toList.map intOf, by simp; omega, ?_⟩
      have e : ints .u8 (cur'.toList.map intOf) = cur'.toList := by
        unfold ints
        rw [List.map_map]
        conv => rhs; rw [← List.map_id cur'.toList]
        refine List.map_congr_left fun u hu => ?_
        obtain ⟨k, rfl⟩ := hall u hu
        rfl
      show w.heap[g]? = _
      rw [e]
      simpa using hh)
    have hml : c ≤ 9223372036854775807 := by unfold maxLen at hm; omega
    have hsl : ∀ w', (Instr.slice 37 (.slice (some ⟨g, 0, none⟩) n c) none (some (.int .i64 (c : Int))) none).run Tryd.prog w' = .ok (.slice (some ⟨g, 0, none⟩) c c) w' := fun w' => by
      rw [run_slice_h w' 37 (some ⟨g, 0, none⟩) n c (by kernel_rfl) .i64 (c : Int) (by omega) (by omega)]
      have hs : (sizeOf (Tryd.prog.elem 37)).run Tryd.prog w' = .ok 1 w' := by kernel_rfl
      rw [hs]
      by_cases h0 : c = 0
      · subst h0
        simp [Result.andThen, sliced]
      · simp [Result.andThen, sliced, add_plain2]
    clear hcap h1 hU hg' hall hh hb ht hs hm
    go_enter Tryd.func35, Tryd.ntmps35
    go_wp2_with fail
    clear hsl
    go_loopw [2] (fun iv wr => ∃ i : Nat, i ≤ c ∧ iv = .int .i64 i ∧ Hid (Any8 wr g c) ∧ Hid (Keeps [g] w wr)) (fun iv _ => c - (intOf iv).toNat)
    case atStart => exact ⟨0, by omega, rfl, HA0, Lib.hid (Keeps.refl _ _)⟩
    case round =>
      clear HA0
      obtain ⟨i, hi, rfl, HA, HK⟩ := hrel
      obtain ⟨zs, hz, hblk⟩ := HA.out
      by_cases hlt2 : i < c
      · have e2 : decide (i < c) = true := by simpa using hlt2
        have hc := hblk.cellI (j := i) (by omega)
        have f1 := hblk.frozen i
        have HA' : ∀ y, Hid (Any8 (wr.setCell ⟨g, i, none⟩ (.int .u8 y)) g c) := fun y => Lib.hid ⟨zs.set i y, by rw [List.length_set]; exact hz, by have := hblk.set i (.int .u8 y); rwa [set_ints] at this⟩
        have HAH := Lib.hid HA'
        clear hz hblk HA HA'
        generalize nth zs i = z at *
        go_wp2_with fail
        go_roundw
        case rel => exact ⟨i + 1, by omega, by go_num, HAH.out _, Lib.hid (HK.out.setCell (p := ⟨g, i, none⟩) (Or.inl (by simp)) _)⟩
        case measure => simp [intOf]; omega
      · obtain rfl : i = c := by omega
        have e2 : decide (i < i) = false := by simp
        clear HA hblk hz
        go_wp2_with fail
        go_end0
        exact ⟨rfl, HK.out⟩
end Go.Proofs.YtcblibefmclloaaDoor

set_option linter.unusedVariables false
set_option linter.unusedSimpArgs false
namespace Go.Proofs.YtcblibefmclloaaDoor
open Go.RowKit
theorem numB_cons (bs : List Int) (p m : Nat) : numB bs p (m + 1) = 2 * numB bs (p + 1) m + bitAt bs p := by
  rw [Nat.add_comm m 1, numB_add bs p 1 m]
  simp [numB]; omega
set_option maxRecDepth 100000 in
set_option maxHeartbeats 1000000 in
theorem number_calls (w : World) (B : Option Addr) (M c : Nat) (bs : List Int) (p n : Nat) (hb : RI .u8 w B M (bitsP bs M)) (hn : n ≤ 32) (hf : p + n ≤ M) (hM : M ≤ 100000000) :
    Calls Tryd.prog 83 #[.slice B M c, .int .i64 p, .int .i64 n] w fun e w' => e = .returned (.int .u32 (numB bs p n)) ∧ Dr w w' := by
  have HB := Lib.hid hb
  clear hb
  go_enter Tryd.func83, Tryd.ntmps83
  go_wp2_with fail
  go_loopw [7, 8] (fun vv iv wr => ∃ K : Nat, K ≤ n ∧ iv = .int .i64 ((K : Int) - 1) ∧ vv = .int .u32 (numB bs (p + K) (n - K)) ∧ Hid (Dr w wr)) (fun _ iv _ => (intOf iv + 1).toNat)
  case atStart => exact ⟨n, by omega, by go_num, by rw [Nat.sub_self]; rfl, Lib.hid ⟨0, rfl⟩⟩
  case round =>
    obtain ⟨K, hK, rfl, rfl, HD⟩ := hrel
    obtain ⟨q, rfl⟩ := HD.out
    clear HD
    by_cases hk : 0 < K
    · obtain ⟨k, rfl⟩ : ∃ k, K = k + 1 := ⟨K - 1, by omega⟩
      have hk1 : ((k + 1 : Nat) : Int) - 1 = k := by omega
      rw [hk1]
      clear hk1
      have e0 : decide (0 ≤ (k : Int)) = true := by simp
      obtain ⟨b, o, rfl, hc⟩ := HB.out.at (j := p + k) (by omega)
      rw [bitsP_nth _ _ _ (by omega)] at hc
      have HN : Hid (numB bs (p + k) (n - k) = 2 * numB bs (p + (k + 1)) (n - (k + 1)) + bitAt bs (p + k)) := Lib.hid (by
        rw [show n - k = (n - (k + 1)) + 1 by omega, numB_cons]; rfl)
      obtain ⟨b0, b1⟩ := bitAt_le bs (p + k)
      obtain ⟨n0, n1⟩ := numB_lt bs (p + k) (n - k)
      have n2 := pow32 (n - k) (by omega)
      obtain ⟨m0, m1⟩ := numB_lt bs (p + (k + 1)) (n - (k + 1))
      rw [HN.out] at n1
      have HN2 := Lib.hid HN.out.symm
      clear n0 HN
      have n3 : 2 * numB bs (p + (k + 1)) (n - (k + 1)) + bitAt bs (p + k) < 4294967296 := by omega
      clear n1 n2 m1
      generalize numB bs (p + (k + 1)) (n - (k + 1)) = v at *
      generalize bitAt bs (p + k) = z at *
      go_wp2_with fail
      go_roundw
      case rel => exact ⟨k, by omega, by go_num, by rw [← HN2.out], Lib.hid ⟨_, rfl⟩⟩
      case measure => simp [intOf]
    · obtain rfl : K = 0 := by omega
      have e0 : decide (0 ≤ ((0 : Nat) : Int) - 1) = false := by simp
      go_wp2_with fail
      go_ret
      exact ⟨rfl, _, rfl⟩
end Go.Proofs.YtcblibefmclloaaDoor

set_option linter.unusedVariables false
set_option linter.unusedSimpArgs false
namespace Go.Proofs.YtcblibefmclloaaDoor
open Go.RowKit
/-- What reading by rows is to give. -/
def Next3 (w : World) (r : Int × Nat × Int) (e : Ending) (w' : World) : Prop :=
  e = .returned (.tuple #[.int .i64 r.1, .int .i64 (r.2.1 : Nat), .int .i64 r.2.2]) ∧ Dr w w'
theorem next3 {w w' : World} {r : Int × Nat × Int} {s e k : Int} {n : Nat} (hr : r = (s, n, e)) (hk : k = n) (h : Dr w w') : Next3 w r (.returned (.tuple #[.int .i64 s, .int .i64 k, .int .i64 e])) w' := by
  subst hr; subst hk; exact ⟨rfl, h⟩
set_option maxRecDepth 100000 in
set_option maxHeartbeats 1000000 in
theorem refNext_calls (w : World) (g n : Nat) (rs : List (List Int)) (B : Option Addr) (m c : Nat) (bl : List Int) (p : Nat) (hB : RB w g n rs) (hb : RI .u8 w B m bl) (hp : p ≤ m) (hm : m ≤ 100000000) (hn : n ≤ 288) (hrow : ∀ j, (rth rs j).length ≤ 15) :
    Calls Tryd.prog 87 #[.slice (some ⟨g, 0, none⟩) n n, .slice B m c, .int .i64 p] w (Next3 w (nextR rs bl p)) := by
  have HB := Lib.hid hB
  have HBL := Lib.hid hb
  have HLL := Lib.hid hb.len
  have HRL := Lib.hid hB.len
  have HRW := Lib.hid hrow
  clear hB hb hrow
  go_enter Tryd.func87, Tryd.ntmps87
  go_wp2_with fail
  go_loopw [9, 10] (fun bv iv wr => ∃ (b : Bool) (i : Nat), i ≤ n ∧ bv = .bool b ∧ iv = .int .i64 i ∧ Hid (nextR rs bl p = nextG rs bl p (n - i) i b) ∧ Hid (Dr w wr)) (fun _ iv _ => n - (intOf iv).toNat)
  case atStart => exact ⟨false, 0, by omega, rfl, rfl, Lib.hid (by rw [Nat.sub_zero]; unfold nextR; rw [HRL.out]), Lib.hid ⟨0, rfl⟩⟩
  case round =>
    obtain ⟨b, i, hi, rfl, rfl, HR, HD⟩ := hrel
    obtain ⟨q, rfl⟩ := HD.out
    clear HD
    by_cases hlt : i < n
    · obtain ⟨A', c', hcr, hri, hra⟩ := HB.out.at hlt
      have e0 : decide ((i : Int) < (n : Int)) = true := by simpa using hlt
      have HST : Hid (nextG rs bl p (n - i) i b = if (rth rs i).length = 0 then nextG rs bl p (n - (i + 1)) (i + 1) b else
          if agrN (rth rs i) bl p = (rth rs i).length then ((i : Int), (rth rs i).length, 0)
          else nextG rs bl p (n - (i + 1)) (i + 1) (b || decide (p + agrN (rth rs i) bl p = bl.length))) := by
        show _ = _
        rw [show n - i = (n - (i + 1)) + 1 by omega, nextG]
      have hk15 := HRW.out i
      obtain ⟨K, hK⟩ : ∃ K, K = (rth rs i).length := ⟨_, rfl⟩
      rw [← hK] at hcr hri hk15
      have HK := Lib.hid hK
      have HRI := Lib.hid hri
      clear hK hri hra
      by_cases hz : K = 0
      · have e1 : ((K : Int) == 0) = true := by simpa using hz
        have HN : Hid (nextR rs bl p = nextG rs bl p (n - (i + 1)) (i + 1) b) := by
          show _ = _
          rw [HR.out, HST.out, if_pos (by rw [← HK.out]; exact hz)]
        clear HST HR
        go_wp2_with fail
        go_roundw
        case rel => exact ⟨b, i + 1, by omega, rfl, by go_num, HN, Lib.hid ⟨_, rfl⟩⟩
        case measure => simp [intOf]; omega
      · have e1 : ((K : Int) == 0) = false := by simpa using hz
        have HN : Hid (nextR rs bl p = if agrN (rth rs i) bl p = K then ((i : Int), K, 0)
          else nextG rs bl p (n - (i + 1)) (i + 1) (b || decide (p + agrN (rth rs i) bl p = bl.length))) := by
          show _ = _
          rw [HR.out, HST.out, if_neg (by rw [← HK.out]; exact hz), HK.out]
        have HAG0 : Hid (agrN (rth rs i) bl p = agr (rth rs i) bl p (K - 0) 0) := by
          show _ = _
          rw [Nat.sub_zero]; unfold agrN; rw [HK.out]
        clear HST HR
        go_wp2_with fail
        go_loopw [11] (fun nv wx => ∃ t : Nat, t ≤ K ∧ nv = .int .i64 t ∧ p + t ≤ m ∧ Hid (agrN (rth rs i) bl p = agr (rth rs i) bl p (K - t) t) ∧ Hid (Dr w wx)) (fun nv _ => K - (intOf nv).toNat)
        case atStart => exact ⟨0, by omega, rfl, by omega, HAG0, Lib.hid ⟨_, rfl⟩⟩
        case round =>
          clear HAG0
          obtain ⟨t, ht, rfl, hpt, HAG, HD⟩ := hrel
          obtain ⟨q2, rfl⟩ := HD.out
          clear HD
          by_cases htk : t < K
          · have e2 : decide ((t : Int) < (K : Int)) = true := by simpa using htk
            have e5 : ((t : Int) == (K : Int)) = false := by simp; omega
            by_cases hpm : p + t < m
            · have e3 : decide ((p : Int) + (t : Int) < (m : Int)) = true := by simp; omega
              have e6 : ((p : Int) + (t : Int) == (m : Int)) = false := by simp; omega
              obtain ⟨rb, ro, rfl, hc1⟩ := HRI.out.at htk
              obtain ⟨bb, bo, rfl, hc2⟩ := HBL.out.at hpm
              by_cases heq : nth (rth rs i) t = nth bl (p + t)
              · have e4 : (nth (rth rs i) t == nth bl (p + t)) = true := by simpa using heq
                have HAG2 : Hid (agrN (rth rs i) bl p = agr (rth rs i) bl p (K - (t + 1)) (t + 1)) := by
                  show _ = _
                  rw [HAG.out, show K - t = (K - (t + 1)) + 1 by omega, agr, if_pos ⟨by rw [← HK.out]; exact htk, by rw [HLL.out]; exact hpm, heq⟩]
                clear HAG
                generalize nth (rth rs i) t = x at *
                generalize nth bl (p + t) = y at *
                go_wp2_with fail
                go_quiet (fail)
                go_wp2_with fail
                go_roundw
                case rel => exact ⟨t + 1, by omega, by go_num, by omega, HAG2, Lib.hid ⟨_, rfl⟩⟩
                case measure => simp [intOf]; omega
              · have e4 : (nth (rth rs i) t == nth bl (p + t)) = false := by simpa using heq
                have HN2 : Hid (nextR rs bl p = nextG rs bl p (n - (i + 1)) (i + 1) b) := by
                  show _ = _
                  have ha : agrN (rth rs i) bl p = t := by rw [HAG.out, show K - t = (K - (t + 1)) + 1 by omega, agr, if_neg (fun h => heq h.2.2)]
                  rw [HN.out, ha, if_neg (by omega), decide_eq_false (by rw [HLL.out]; omega), Bool.or_false]
                clear HAG HN
                generalize nth (rth rs i) t = x at *
                generalize nth bl (p + t) = y at *
                cases b
                · go_wp2_with fail
                  go_quiet (fail)
                  go_wp2_with fail
                  go_roundw
                  case rel => exact ⟨false, i + 1, by omega, rfl, by go_num, HN2, Lib.hid ⟨_, rfl⟩⟩
                  case measure => simp [intOf]; omega
                · go_wp2_with fail
                  go_quiet (fail)
                  go_wp2_with fail
                  go_roundw
                  case rel => exact ⟨true, i + 1, by omega, rfl, by go_num, HN2, Lib.hid ⟨_, rfl⟩⟩
                  case measure => simp [intOf]; omega
            · have e3 : decide ((p : Int) + (t : Int) < (m : Int)) = false := by simp; omega
              have e6 : ((p : Int) + (t : Int) == (m : Int)) = true := by simp; omega
              have HN2 : Hid (nextR rs bl p = nextG rs bl p (n - (i + 1)) (i + 1) true) := by
                show _ = _
                have ha : agrN (rth rs i) bl p = t := by rw [HAG.out, show K - t = (K - (t + 1)) + 1 by omega, agr, if_neg (fun h => by have := h.2.1; rw [HLL.out] at this; omega)]
                rw [HN.out, ha, if_neg (by omega), decide_eq_true (by rw [HLL.out]; omega), Bool.or_true]
              clear HAG HN
              cases b
              · go_wp2_with fail
                go_quiet (fail)
                go_wp2_with fail
                go_roundw
                case rel => exact ⟨true, i + 1, by omega, rfl, by go_num, HN2, Lib.hid ⟨_, rfl⟩⟩
                case measure => simp [intOf]; omega
              · go_wp2_with fail
                go_quiet (fail)
                go_wp2_with fail
                go_roundw
                case rel => exact ⟨true, i + 1, by omega, rfl, by go_num, HN2, Lib.hid ⟨_, rfl⟩⟩
                case measure => simp [intOf]; omega
          · obtain rfl : t = K := by omega
            have e2 : decide ((t : Int) < (t : Int)) = false := by simp
            have e5 : ((t : Int) == (t : Int)) = true := by simp
            have HN2 : Hid (nextR rs bl p = ((i : Int), t, 0)) := by
              show _ = _
              rw [HN.out, HAG.out, Nat.sub_self, agr, if_pos rfl]
            clear HAG HN
            go_wp2_with fail
            go_quiet (fail)
            go_wp2_with fail
            go_ret3
            exact next3 HN2.out rfl ⟨_, rfl⟩
    · obtain rfl : i = n := by omega
      have e0 : decide ((i : Int) < (i : Int)) = false := by simp
      have HN : Hid (nextR rs bl p = (0, 0, if b then 10 else 32)) := by show _ = _; rw [HR.out, Nat.sub_self, nextG]
      cases b
      · go_wp2_with fail
        go_ret3
        exact next3 HN.out rfl ⟨_, rfl⟩
      · go_wp2_with fail
        go_ret3
        exact next3 HN.out rfl ⟨_, rfl⟩
end Go.Proofs.YtcblibefmclloaaDoor
