import Derived.Test.YtghjlpechjggjaaGreatDoorZshB
import Derived.Test.YtghjlpechjggjaaGreatDoorZshF
import Derived.Test.YtghjlpechjggjaaGreatDoorZshG
import Derived.Test.YtghjlpechjggjaaGreatDoorZshA
import Derived.BigQuiet
import Derived.Test.YtghjlpechjggjaaGreatDoorZshC
import Derived.Outline
import Derived.StillTailTactics
import Derived.Deep.LoopGhost
import Derived.WalkMore
import Derived.Test.YtghjlpechjggjaaGreatDoorZshD
import Derived.Test.YtghjlpechjggjaaGreatDoorCards
import Derived.Test.YtghjlpechjggjaaGreatDoorTie
import Derived.ProofKit
import Derived.OpenShut
import Derived.ChangeOld
import Derived.Deep.DeepHandedRow
import Derived.Deep.DeepLaidRun
import Derived.Lib.LaidTab
import Derived.Deep.Slices
import Derived.SizedLaws
import GoSem.PinnedTables
set_option linter.unnecessarySimpa false
set_option linter.unusedVariables false
set_option linter.unusedSimpArgs false
set_option linter.constructorNameAsVariable false
set_option maxRecDepth 100000
set_option maxHeartbeats 60000000
namespace Go.Proofs.YtghjlpechjggjaaGreatDoor
open Go.RowKit
structure IR (w : World) (g gr : Nat) (A : Option Addr) (c : Nat) (bs : List Int) (p most : Nat) (out : List Int) : Prop where
 rd : Rdr w gr A c bs p
 box : ∃ v, Blk w g 178 [.pointer (some ⟨gr, 0, none⟩), v, .int .i64 most] ∧ w.ownsRow (g + 1) 5 1 v out.length (ints .u8 out)
 lt : gr < g
 data : ∀ a, A = some a → a.block < g
 cap : out.length ≤ most
 mx : most ≤ 16384
 u8 : ∀ v, w.cell? ⟨g, 1, none⟩ = some v → AllU8 w v
structure KT (g gr : Nat) (w w' : World) : Prop where
 os : w'.os = w.os
 tape : w'.tape = w.tape
 output : w'.output = w.output
 size : w.heap.size ≤ w'.heap.size
 same : ∀ k, k < w.heap.size → k ≠ g → k ≠ gr → (k < g ∨ ¬ U8 w k) → w'.heap[k]? = w.heap[k]?
theorem KT.refl (g gr : Nat) (w : World) : KT g gr w w := ⟨rfl, rfl, rfl, Nat.le_refl _, fun _ _ _ _ _ => rfl⟩
theorem KT.trans {g gr : Nat} {a b c : World} (h : KT g gr a b) (k : KT g gr b c) : KT g gr a c :=
 ⟨k.os.trans h.os, k.tape.trans h.tape, k.output.trans h.output, Nat.le_trans h.size k.size, fun x hx h1 h2 h3 => by
  have e := h.same x hx h1 h2 h3
  rw [k.same x (by have := h.size; omega) h1 h2 (h3.imp id (fun hn ⟨cur, fr, hc⟩ => hn ⟨cur, fr, by rw [← e]; exact hc⟩)), e]⟩
theorem KT.of_keeps {g gr : Nat} {S : List Nat} {w w' : World} (h : Keeps S w w') (hS : ∀ x ∈ S, x = g ∨ x = gr) : KT g gr w w' :=
 ⟨h.os, h.tape, h.output, h.size, fun k hk h1 h2 _ => h.block k hk (fun hm => by rcases hS k hm with h | h <;> omega)⟩
theorem KT.keeps {g gr : Nat} {w w1 w2 : World} (hk : Keeps [] w w1) (h : KT g gr w1 w2) (hg : w.heap.size ≤ g) (hr : w.heap.size ≤ gr) : Keeps [] w w2 :=
 ⟨h.os.trans hk.os, h.tape.trans hk.tape, h.output.trans hk.output, Nat.le_trans hk.size h.size, fun k hk2 _ =>
  (h.same k (by have := hk.size; omega) (by omega) (by omega) (.inl (by omega))).trans (hk.block k hk2 (by simp))⟩
theorem KT.set {g gr : Nat} {w w' : World} (h : KT g gr w w') (j : Nat) (v : Value) : KT g gr w (w'.setCell ⟨g, j, none⟩ v) :=
 h.trans (KT.of_keeps (S := [g]) ((Keeps.refl [g] w').setCell (p := ⟨g, j, none⟩) (Or.inl (by simp)) v) (fun x hx => .inl (List.mem_singleton.1 hx)))
theorem KT.grown {g gr : Nat} {w w1 w2 : World} {row : Option Nat} (h : KT g gr w w1) (hg : w1.grownBy w2 row) (hr : ∀ k, row = some k → U8 w1 k ∧ g < k) : KT g gr w w2 :=
 h.trans ⟨hg.os, hg.tape, hg.output, hg.size, fun k hk _ _ h3 => hg.block k hk (fun e => by
  obtain ⟨a, b⟩ := hr k e.symm
  rcases h3 with h3 | h3
  ·omega
  ·exact h3 a)⟩
theorem IR.glt {w : World} {g gr c p most : Nat} {A : Option Addr} {bs out : List Int} (h : IR w g gr A c bs p most out) : g < w.heap.size := by
 obtain ⟨v, h1, _⟩ := h.box; exact h1.lt
theorem IR.u8v {w : World} {g gr c p most : Nat} {A : Option Addr} {bs out : List Int} (h : IR w g gr A c bs p most out) {v x y : Value} (hb : Blk w g 178 [x, v, y]) : AllU8 w v := h.u8 v (by have := hb.cell 1; simpa using this)
theorem u8_same {w' : World} {g : Nat} {v x y : Value} (hb : Blk w' g 178 [x, v, y]) (hu : AllU8 w' v) : ∀ u, w'.cell? ⟨g, 1, none⟩ = some u → AllU8 w' u := fun u hc => by
 have h := hb.cell 1
 simp only [List.getElem?_cons_zero, List.getElem?_cons_succ] at h
 rw [h] at hc
 injection hc with hc
 subst hc
 exact hu
theorem IR.keeps {w w' : World} {g gr c p most : Nat} {A : Option Addr} {bs out : List Int} (h : IR w g gr A c bs p most out) (hk : Keeps [] w w') : IR w' g gr A c bs p most out := by
 obtain ⟨v, h1, h2⟩ := h.box
 exact ⟨h.rd.dr hk, ⟨v, h1.keeps hk (by simp), own_keeps h2 hk (by simp)⟩, h.lt, h.data, h.cap, h.mx, u8_same (h1.keeps hk (by simp)) ((h.u8v h1).keeps hk (by simp))⟩
theorem IR.read {w w' : World} {g gr c p q most : Nat} {A : Option Addr} {bs out : List Int} (h : IR w g gr A c bs p most out) (hr : Rdr w' gr A c bs q) (hk : Keeps [gr] w w') : IR w' g gr A c bs q most out := by
 obtain ⟨v, h1, h2⟩ := h.box
 have := h.lt
 exact ⟨hr, ⟨v, h1.keeps hk (by simp; omega), own_keeps h2 hk (fun x hx hm => by have := own_lo h2 x hx; rw [List.mem_singleton.1 hm] at this; omega)⟩, h.lt, h.data, h.cap, h.mx, u8_same (h1.keeps hk (by simp; omega)) ((h.u8v h1).keeps hk (fun x hx hm => by have := own_lo h2 x hx; rw [List.mem_singleton.1 hm] at this; omega))⟩
theorem grown_keepsI {w w' : World} {row : Option Nat} (h : w.grownBy w' row) : Keeps row.toList w w' :=
 ⟨h.os, h.tape, h.output, h.size, fun k hk hm => h.block k hk (fun e => hm (Option.mem_toList.2 e.symm))⟩
theorem own_kt {w w' : World} {g gr base n size : Nat} {t : TypeId} {v : Value} {xs : List Value} (ht : t ≠ 5) (hb : g < base) (hr : gr < base) (h : w.ownsRow base t size v n xs) (hp : KT g gr w w') : w'.ownsRow base t size v n xs := by
 obtain ⟨h1, h2⟩ := h
 refine ⟨h1, ?_⟩
 rcases h2 with h2 | ⟨b, cap, cur, hv, hb2, hh, r⟩
 ·exact Or.inl h2
 ·refine Or.inr ⟨b, cap, cur, hv, hb2, ?_, r⟩
  rw [hp.same b (Array.getElem?_eq_some_iff.1 hh).1 (by omega) (by omega) (.inr fun ⟨c, f, hc⟩ => ?_), hh]
  rw [hh] at hc
  injection hc with hc
  injection hc with _ h2 _
  exact ht h2
theorem blk_kt {w w' : World} {g gr k : Nat} {t : TypeId} {cs : List Value} (ht : t ≠ 5) (hk : k ≠ g) (hr : k ≠ gr) (h : Blk w k t cs) (hp : KT g gr w w') : Blk w' k t cs := by
 refine (hp.same k h.lt hk hr (.inr fun ⟨c, f, hc⟩ => ?_)).trans h
 have h2 : w.heap[k]? = _ := h
 rw [h2] at hc
 injection hc with hc
 injection hc with _ h3 _
 exact ht h3
theorem cell_kt {w w' : World} {g gr : Nat} (hp : KT g gr w w') {a : Addr} {v : Value} (h : w.cell? a = some v) (h1 : a.block < g) (h2 : a.block ≠ gr) : w'.cell? a = some v := by
 have hb := World.block_lt_of_cell? _ _ h
 have e := hp.same a.block hb (by omega) h2 (.inl h1)
 have k : Keeps [g, gr] ({ w with heap := w.heap } : World) w := Keeps.refl _ _
 unfold World.cell? at h ⊢
 rw [e]; exact h
theorem ri_kt {w w' : World} {g gr n : Nat} {k : IntKind} {A : Option Addr} {xs : List Int} (h : RI k w A n xs) (hp : KT g gr w w') (ho : ∀ a, A = some a → a.block < g ∧ a.block ≠ gr) : RI k w' A n xs :=
 ⟨h.len, h.hd, fun b o ha j hj => cell_kt hp (h.cell b o ha j hj) (ho _ ha).1 (ho _ ha).2⟩
theorem tabs_kt {w w' : World} {g gr : Nat} (h : Tabs w) (hp : KT g gr w w') (h3 : gtop ≤ gr) (hg : gr < g) : Tabs w' := by
 have := glt
 exact ⟨ri_kt h.fro hp (by rintro a ⟨⟩; constructor <;> simp only [] <;> omega), ri_kt h.wid hp (by rintro a ⟨⟩; constructor <;> simp only [] <;> omega), ri_kt h.ord hp (by rintro a ⟨⟩; constructor <;> simp only [] <;> omega)⟩
theorem end_calls (w : World) (e o : Int) : Calls Tryz.prog 161 #[.int .i64 e, .int .i64 o] w fun r w' => r = .returned (.int .i64 (endF e o)) ∧ Dr w w' := by
 by_cases h0 : e = 0
 ·subst h0
  go_enter Tryz.func161, Tryz.ntmps161
  go_wp2_with fail
  go_ret
  exact ⟨rfl, 0, rfl⟩
 ·by_cases h1 : e = 10
  ·subst h1
   go_enter Tryz.func161, Tryz.ntmps161
   go_wp2_with fail
   go_ret
   exact ⟨rfl, 0, rfl⟩
  ·have HE : Hid (endF e o = o) := Lib.hid (by unfold endF; rw [if_neg h0, if_neg h1])
   have e0 : (e == 0) = false := by simpa using h0
   have e1 : (e == 10) = false := by simpa using h1
   have e0' : decide (e = 0) = false := by simpa using h0
   have e1' : decide (e = 10) = false := by simpa using h1
   go_enter Tryz.func161, Tryz.ntmps161
   go_wp2_with fail
   go_ret
   rw [HE.out]
   exact ⟨rfl, 0, rfl⟩
def Took (w : World) (g gr : Nat) (A : Option Addr) (c : Nat) (bs : List Int) (p most : Nat) (out : List Int) (n : Nat) (e : Ending) (w' : World) : Prop :=
 (p + n ≤ 8 * bs.length ∧ e = .returned (.tuple #[.int .i64 (numB bs p n), .int .i64 0]) ∧ IR w' g gr A c bs (p + n) most out ∧ KT g gr w w') ∨
 (8 * bs.length < p + n ∧ e = .returned (.tuple #[.int .i64 0, .int .i64 55]) ∧ IR w' g gr A c bs p most out ∧ KT g gr w w')
theorem itake_calls (w : World) (g gr : Nat) (A : Option Addr) (c : Nat) (bs : List Int) (p most : Nat) (out : List Int) (n : Nat) (h : IR w g gr A c bs p most out) (hn : n ≤ 16) :
  Calls Tryz.prog 142 #[.pointer (some ⟨g, 0, none⟩), .int .i64 n] w (Took w g gr A c bs p most out n) := by
 have H := Lib.hid h
 obtain ⟨v, hblk, -⟩ := h.box
 have c0 := hblk.cell 0
 simp only [List.getElem?_cons_zero] at c0
 have hgr := h.lt
 clear hblk h
 go_enter Tryz.func142, Tryz.ntmps142
 by_cases hf : p + n ≤ 8 * bs.length
 ·obtain ⟨n0, n1⟩ := numB_lt bs p n
  have h16 : (2 : Int) ^ n ≤ 65536 := pow16 n hn
  go_wp2_with fail
  refine (take_calls w gr A c bs p n H.out.rd (by omega) hf).mono ?_
  rintro _ w1 ⟨rfl, hr, hk⟩
  have H1 := Lib.hid (H.out.read hr hk)
  have K1 : Hid (KT g gr w w1) := Lib.hid (KT.of_keeps hk (fun x hx => .inr (List.mem_singleton.1 hx)))
  clear hr hk H c0
  have s1 : IntKind.i64.wrap (numB bs p n) = numB bs p n := IntWalk.i64_in _ (by omega)
  have HF := Lib.hid hf
  clear n1 h16
  generalize hx : numB bs p n = x at *
  have HX := Lib.hid hx
  clear hx
  go_wp2_with fail
  refine (end_calls w1 0 0).mono ?_
  rintro _ w2 ⟨rfl, hd⟩
  have H2 := Lib.hid (H1.out.keeps (hd.keeps (S := [])))
  have K2 := Lib.hid (K1.out.trans (KT.of_keeps (hd.keeps (S := [])) (by simp)))
  clear hd H1 K1
  go_wp2_with fail
  go_ret2
  exact .inl ⟨HF.out, by rw [HX.out]; rfl, H2.out, K2.out⟩
 ·have HF : Hid (8 * bs.length < p + n) := Lib.hid (by omega)
  go_wp2_with fail
  refine (take_end w gr A c bs p n H.out.rd (by omega) (by omega)).mono ?_
  rintro _ w1 ⟨rfl, hd⟩
  have H1 := Lib.hid (H.out.keeps (hd.keeps (S := [])))
  have K1 : Hid (KT g gr w w1) := Lib.hid (KT.of_keeps (hd.keeps (S := [])) (by simp))
  clear hd H c0
  go_wp2_with fail
  refine (end_calls w1 10 10).mono ?_
  rintro _ w2 ⟨rfl, hd⟩
  have H2 := Lib.hid (H1.out.keeps (hd.keeps (S := [])))
  have K2 := Lib.hid (K1.out.trans (KT.of_keeps (hd.keeps (S := [])) (by simp)))
  clear hd H1 K1
  go_wp2_with fail
  go_ret2
  exact .inr ⟨HF.out, rfl, H2.out, K2.out⟩
theorem align_calls (w : World) (gr : Nat) (A : Option Addr) (c : Nat) (bs : List Int) (p : Nat) (hr : Rdr w gr A c bs p) :
  Calls Tryz.prog 162 #[.pointer (some ⟨gr, 0, none⟩)] w fun e w' => e = .returned (.int .i64 0) ∧ Rdr w' gr A c bs (alignF p) ∧ Keeps [gr] w w' := by
 have hb := hr.blk
 have h1 := hb.cell 1
 have f1 := hb.frozen 1
 simp only [List.getElem?_cons_succ, List.getElem?_cons_zero] at h1
 have hle := hr.le
 have hsz := hr.size
 have HR := Lib.hid hr
 clear hb hr
 have s1 : IntKind.i64.wrap ((p : Int) + 7) = (p : Int) + 7 := IntWalk.i64_in _ (by omega)
 have s2 : ((p : Int) + 7).tdiv 8 = (((p + 7) / 8 : Nat) : Int) := by rw [Int.tdiv_eq_ediv_of_nonneg (by omega)]; omega
 have s3 : IntKind.i64.wrap ((((p + 7) / 8 : Nat) : Int) * 8) = (((p + 7) / 8 * 8 : Nat) : Int) := by
  rw [IntWalk.i64_in _ (by omega)]; omega
 go_enter Tryz.func162, Tryz.ntmps162
 go_wp2_with fail
 have HA : Hid (alignF p ≤ 8 * bs.length) := Lib.hid (by unfold alignF; omega)
 have HE : Hid (((p : Int) + 7) / 8 * 8 = ((alignF p : Nat) : Int)) := Lib.hid (by unfold alignF; omega)
 go_ret
 rw [HE.out]
 exact ⟨rfl, HR.out.move HA.out, (Keeps.refl [gr] w).setCell (p := ⟨gr, 1, none⟩) (Or.inl (by simp)) _⟩
theorem lay_calls (w : World) (g gr : Nat) (A : Option Addr) (c : Nat) (bs : List Int) (p most : Nat) (out : List Int) (x : Int) (h : IR w g gr A c bs p most out) :
  Calls Tryz.prog 163 #[.pointer (some ⟨g, 0, none⟩), .int .u8 x] w fun e w' =>
   (most ≤ out.length ∧ e = .returned (.int .i64 56) ∧ IR w' g gr A c bs p most out ∧ KT g gr w w') ∨ (out.length < most ∧ e = .returned (.int .i64 0) ∧ IR w' g gr A c bs p most (out ++ [x]) ∧ KT g gr w w') := by
 have H := Lib.hid h
 obtain ⟨v, hblk, hown⟩ := h.box
 obtain ⟨vA, vc, rfl⟩ := own_formW hown
 have c1 := hblk.cell 1
 have c2 := hblk.cell 2
 simp only [List.getElem?_cons_zero, List.getElem?_cons_succ] at c1 c2
 have f1 := hblk.frozen 1
 have hlt := hblk.lt
 have hcap := h.cap
 have hmx := h.mx
 have HU := Lib.hid (h.u8v hblk)
 have HB := Lib.hid hblk
 have HO := Lib.hid hown
 clear hblk hown h
 go_enter Tryz.func163, Tryz.ntmps163
 obtain ⟨L, hL⟩ : ∃ L, L = out.length := ⟨_, rfl⟩
 have HL := Lib.hid hL
 rw [← hL] at HO c1 HB HU hcap ⊢
 clear hL
 by_cases hm : most ≤ L
 ·have e1 : decide (most ≤ L) = true := by simpa using hm
  have e1' : decide ((most : Int) ≤ (L : Int)) = true := by simp; omega
  go_upto_region 1 with (fail)
  go_quiet (fail)
  go_wp2_with fail
  go_ret
  exact .inl ⟨hm, rfl, H.out.keeps ((Keeps.refl [] w).drewN nq), KT.of_keeps ((Keeps.refl [] w).drewN nq) (by simp)⟩
 ·have e1 : decide (most ≤ L) = false := by simpa using hm
  have e1' : decide ((most : Int) ≤ (L : Int)) = false := by simp; omega
  go_upto_region 1 with (fail)
  go_quiet (fail)
  have hkq : Keeps [] w (w.drewN nq) := (Keeps.refl [] w).drewN nq
  obtain ⟨wq, hwq⟩ : ∃ z, z = w.drewN nq := ⟨_, rfl⟩
  rw [← hwq] at hkq ⊢
  clear hwq
  have ka : Keeps [] wq (wq.alloc (.cells #[.int .u8 x] 5)) := (Keeps.refl [] wq).alloc _
  have HOA := Lib.hid (own_keeps HO.out (hkq.trans ka) (by simp))
  have HBA := Lib.hid (HB.out.keeps (hkq.trans ka) (by simp))
  have HQ := Lib.hid (H.out.keeps (hkq.trans ka))
  have HUA := Lib.hid (HU.out.keeps (hkq.trans ka) (by simp))
  have HKA : Hid (KT g gr w (wq.alloc (.cells #[.int .u8 x] 5))) := Lib.hid (KT.of_keeps (hkq.trans ka) (by simp))
  have HRI : Hid (RI .u8 (wq.alloc (.cells #[.int .u8 x] 5)) (some ⟨wq.heap.size, 0, none⟩) 1 [x]) := Lib.hid (Blk.ri (xs := [x]) (ys := []) (k := .u8) (by simpa [ints] using blk_new wq 5 (ints .u8 [x])))
  have c1' := hkq.cell (by simp) c1
  have hltq : g < wq.heap.size := Nat.lt_of_lt_of_le hlt hkq.size
  clear c1 c2 f1 hkq ka HO HB H HU e1
  go_wp2_with (at_builtin; refine app_bytesU rfl (.tmp 19) (.tmp 21) rfl (g + 1) _ _ out rfl (by exact HOA.out) _ 1 1 [x] rfl (by exact HRI.out) (by simp) (by omega) ?c4 ?_)
  case c4 => simp; omega
  intro v1 w1 ho1 hg1 _ hu1
  have HU1 := Lib.hid (hu1 HUA.out)
  clear hu1
  have hg0 : ∀ k, (Value.slice vA L vc).ownBlock = some k → g + 1 ≤ k := fun k hk => (HOA.out.lt k hk).1
  have hblk1 : Blk w1 g 178 [.pointer (some ⟨gr, 0, none⟩), .slice vA L vc, .int .i64 most] := (hg1.block g (Nat.lt_trans hltq (by simp)) (fun e => by have := hg0 g e.symm; omega)).trans HBA.out
  have kg := grown_keepsI hg1
  have HR1 := Lib.hid (HQ.out.rd.keeps kg (fun hm => by have := hg0 gr (Option.mem_toList.1 hm); have := HQ.out.lt; omega) (fun a ha hm => by have := hg0 a.block (Option.mem_toList.1 hm); have := HQ.out.data a ha; omega))
  have K1 := Lib.hid (HKA.out.grown hg1 (fun k hk => ⟨own_u8 HOA.out k hk, hg0 k hk⟩))
  have HO1 := Lib.hid ho1
  have HB1 := Lib.hid hblk1
  obtain ⟨vB, vd, rfl⟩ : ∃ A c, v1 = .slice A (L + 1) c := own_formW ho1
  have c1 := hblk1.cell 1
  simp only [List.getElem?_cons_zero, List.getElem?_cons_succ] at c1
  have f1 := hblk1.frozen 1
  clear HOA HBA HKA HRI c1' kg hg1 ho1 hblk1 hg0
  go_wp2_with fail
  go_ret
  have hs := (HB1.out.set 1 (.slice vB (L + 1) vd))
  simp only [List.set_cons_succ, List.set_cons_zero] at hs
  have ks : Keeps [g] w1 (w1.setCell ⟨g, 1, none⟩ (.slice vB (L + 1) vd)) := (Keeps.refl [g] w1).setCell (p := ⟨g, 1, none⟩) (Or.inl (by simp)) _
  have hgr := HQ.out.lt
  refine .inr ⟨by omega, rfl, ⟨HR1.out.keeps ks (by simp; omega) (fun a ha hm => by have := HQ.out.data a ha; rw [List.mem_singleton.1 hm] at this; omega), ⟨_, hs, ?_⟩, hgr, HQ.out.data, ?_, hmx, u8_same hs (HU1.out.keeps ks (fun x hx hm => by have := own_lo HO1.out x hx; rw [List.mem_singleton.1 hm] at this; omega))⟩, K1.out.set 1 _⟩
  ·rw [List.length_append, List.length_singleton, ← HL.out]
   exact ownsRow_setCell_below HO1.out (a := ⟨g, 1, none⟩) (Nat.lt_succ_self g) _
  ·rw [List.length_append, List.length_singleton, ← HL.out]; omega
end Go.Proofs.YtghjlpechjggjaaGreatDoor
namespace Go.Proofs.YtghjlpechjggjaaGreatDoor
open Go.RowKit
def Part (w : World) (g gr : Nat) (A : Option Addr) (c : Nat) (bs : List Int) (most : Nat) (r : IRes) (e : Ending) (w' : World) : Prop :=
 ∃ q, e = .returned (.int .i64 r.2.2) ∧ IR w' g gr A c bs q most r.1 ∧ KT g gr w w' ∧ (r.2.2 = 0 → q = r.2.1)
theorem part_ok {w w' : World} {g gr c most q : Nat} {A : Option Addr} {bs out : List Int} {r : IRes} (hr : r = (out, q, 0)) (h : IR w' g gr A c bs q most out) (k : KT g gr w w') : Part w g gr A c bs most r (.returned (.int .i64 0)) w' := by
 subst hr; exact ⟨q, rfl, h, k, fun _ => rfl⟩
theorem part_err {w w' : World} {g gr c most q : Nat} {A : Option Addr} {bs out : List Int} {r : IRes} {e : Int} (hr : r = (out, 0, e)) (he : e ≠ 0) (h : IR w' g gr A c bs q most out) (k : KT g gr w w') : Part w g gr A c bs most r (.returned (.int .i64 e)) w' := by
 subst hr; exact ⟨q, rfl, h, k, fun h => absurd h he⟩
theorem xor_16 (m : Int) (h0 : 0 ≤ m) (h1 : m < 65536) : Go.bits .xor .i64 m 65535 = 65535 - m := by
 obtain ⟨k, rfl⟩ := Int.eq_ofNat_of_zero_le h0
 have hk : k < 65536 := by omega
 have hx : k ^^^ 65535 < 2 ^ 62 := Nat.lt_of_lt_of_le (Nat.xor_lt_two_pow (show k < 2 ^ 16 by omega) (by decide : 65535 < 2 ^ 16)) (by decide)
 have e : k ^^^ 65535 = 65535 - k := by
  apply Nat.eq_of_testBit_eq
  intro i
  have h2 := Nat.testBit_two_pow_sub_succ (show k < 2 ^ 16 by omega) i
  rw [show 2 ^ 16 - (k + 1) = 65535 - k by omega] at h2
  rw [Nat.testBit_xor, h2, show (65535 : Nat) = 2 ^ 16 - 1 from rfl, Nat.testBit_two_pow_sub_one]
  by_cases hi : i < 16
  ·simp [hi]
  ·have : k.testBit i = false := Nat.testBit_lt_two_pow (Nat.lt_of_lt_of_le (show k < 2 ^ 16 by omega) (Nat.pow_le_pow_right (by decide) (by omega)))
   simp [hi, this]
 have e2 : Go.bits .xor .i64 (k : Int) ((65535 : Nat) : Int) = ((k ^^^ 65535 : Nat) : Int) := by
  simp only [Go.bits, BitVec.ofInt_natCast, BitVec.toNat_xor, BitVec.toNat_ofNat, show k % 2 ^ IntKind.i64.bits = k from Nat.mod_eq_of_lt (Nat.lt_of_lt_of_le (show k < 2 ^ 16 by omega) (by decide)), show 65535 % 2 ^ IntKind.i64.bits = 65535 from rfl]
  exact IntWalk.i64_in _ (by rw [e]; omega)
 rw [show (65535 : Int) = ((65535 : Nat) : Int) from rfl]
 refine Eq.trans e2 ?_
 rw [e]
 omega
theorem stored_calls (w : World) (g gr : Nat) (A : Option Addr) (c : Nat) (bs : List Int) (p most : Nat) (out : List Int) (h : IR w g gr A c bs p most out) :
  Calls Tryz.prog 143 #[.pointer (some ⟨g, 0, none⟩)] w (Part w g gr A c bs most (storedF bs most out p)) := by
 have H := Lib.hid h
 obtain ⟨v, hblk, -⟩ := h.box
 have c0 := hblk.cell 0
 simp only [List.getElem?_cons_zero] at c0
 clear hblk h
 go_enter Tryz.func143, Tryz.ntmps143
 go_wp2_with fail
 refine (align_calls w gr A c bs p H.out.rd).mono ?_
 rintro _ w1 ⟨rfl, hr, hk⟩
 have H1 := Lib.hid (H.out.read hr hk)
 have K1 : Hid (KT g gr w w1) := Lib.hid (KT.of_keeps hk (fun x hx => .inr (List.mem_singleton.1 hx)))
 clear hr hk H c0
 obtain ⟨a, ha⟩ : ∃ a, a = alignF p := ⟨_, rfl⟩
 have HA := Lib.hid ha
 rw [← ha] at H1
 clear ha
 go_wp2_with fail
 refine (itake_calls w1 g gr A c bs a most out 16 H1.out (by omega)).mono ?_
 rintro _ w2 (⟨hf, rfl, h2, k2⟩ | ⟨hf, rfl, h2, k2⟩)
 rotate_left
 ·have HR : Hid (storedF bs most out p = (out, 0, 55)) := Lib.hid (by unfold storedF; rw [← HA.out, if_pos hf])
  have H2 := Lib.hid h2
  have K2 := Lib.hid (K1.out.trans k2)
  clear h2 k2 H1 K1
  go_wp2_with fail
  go_ret
  exact part_err HR.out (by decide) H2.out K2.out
 have H2 := Lib.hid h2
 have K2 := Lib.hid (K1.out.trans k2)
 clear h2 k2 H1 K1
 obtain ⟨n0, n1⟩ := numB_lt bs a 16
 rw [show (2 : Int) ^ 16 = 65536 from rfl] at n1
 obtain ⟨N, hN⟩ : ∃ N : Nat, numB bs a 16 = N := ⟨(numB bs a 16).toNat, by omega⟩
 have HN := Lib.hid hN
 rw [hN] at n1 ⊢
 clear hN n0
 go_wp2_with fail
 refine (itake_calls w2 g gr A c bs (a + 16) most out 16 H2.out (by omega)).mono ?_
 rintro _ w3 (⟨hf3, rfl, h3, k3⟩ | ⟨hf3, rfl, h3, k3⟩)
 rotate_left
 ·have HR : Hid (storedF bs most out p = (out, 0, 55)) := Lib.hid (by unfold storedF; rw [← HA.out, if_neg (by omega), if_pos (by omega)])
  have H3 := Lib.hid h3
  have K3 := Lib.hid (K2.out.trans k3)
  clear h3 k3 H2 K2
  go_wp2_with fail
  go_ret
  exact part_err HR.out (by decide) H3.out K3.out
 have H3 := Lib.hid h3
 have K3 := Lib.hid (K2.out.trans k3)
 clear h3 k3 H2 K2
 obtain ⟨m0, m1⟩ := numB_lt bs (a + 16) 16
 rw [show (2 : Int) ^ 16 = 65536 from rfl] at m1
 obtain ⟨M, hM⟩ : ∃ M : Nat, numB bs (a + 16) 16 = M := ⟨(numB bs (a + 16) 16).toNat, by omega⟩
 have HM := Lib.hid hM
 rw [hM] at m0 m1 ⊢
 clear hM
 have X := xor_16 M m0 m1
 by_cases hs : (N : Int) = 65535 - (M : Int)
 ·have e1 : ((N : Int) != 65535 - (M : Int)) = false := by simpa using hs
  have HR : Hid (storedF bs most out p = storF bs most N out (a + 32)) := Lib.hid (by
   unfold storedF
   rw [← HA.out, if_neg (by omega), if_neg (by omega), HN.out, HM.out, if_neg (by omega), Int.toNat_natCast])
  clear hs m0 m1
  go_wp2_with fail
  clear X e1
  go_loopw [35] (fun iv wr => ∃ (i q : Nat) (o : List Int), i ≤ N ∧ iv = .int .i64 i ∧ Hid (storF bs most N out (a + 32) = storF bs most (N - i) o q) ∧ Hid (IR wr g gr A c bs q most o) ∧ Hid (KT g gr w wr)) (fun iv _ => N - (intOf iv).toNat)
  case atStart => exact ⟨0, a + 32, out, by omega, rfl, Lib.hid rfl, by rw [show a + 32 = a + 16 + 16 by omega]; exact H3, K3⟩
  case round =>
   clear H3 K3
   obtain ⟨i, q, o, hi, rfl, HS, H, K⟩ := hrel
   by_cases hlt : i < N
   ·have e0 : decide (i < N) = true := by simpa using hlt
    have HS' : Hid (storF bs most (N - i) o q = if 8 * bs.length < q + 8 then (o, 0, 55) else if most ≤ o.length then (o, 0, 56) else storF bs most (N - (i + 1)) (o ++ [numB bs q 8]) (q + 8)) := Lib.hid (by rw [show N - i = (N - (i + 1)) + 1 by omega, storF])
    go_wp2_with fail
    refine (itake_calls wr g gr A c bs q most o 8 H.out (by omega)).mono ?_
    rintro _ w4 (⟨hf4, rfl, h4, k4⟩ | ⟨hf4, rfl, h4, k4⟩)
    ·have H4 := Lib.hid h4
     have K4 := Lib.hid (K.out.trans k4)
     have HF := Lib.hid hf4
     clear h4 k4 H K hf4
     obtain ⟨b0, b1⟩ := numB_lt bs q 8
     rw [show (2 : Int) ^ 8 = 256 from rfl] at b1
     obtain ⟨x, hx⟩ : ∃ x, x = numB bs q 8 := ⟨_, rfl⟩
     rw [← hx] at b0 b1 HS' ⊢
     have HX := Lib.hid hx
     clear hx
     have s1 : IntKind.u8.wrap x = x := by rw [IntKind.wrap_u8]; omega
     go_wp2_with fail
     refine (lay_calls w4 g gr A c bs (q + 8) most o x H4.out).mono ?_
     rintro _ w5 (⟨hm, rfl, h5, k5⟩ | ⟨hm, rfl, h5, k5⟩)
     ·have H5 := Lib.hid h5
      have K5 := Lib.hid (K4.out.trans k5)
      have HE : Hid (storedF bs most out p = (o, 0, 56)) := Lib.hid (by rw [HR.out, HS.out, HS'.out, if_neg (by have := HF.out; omega), if_pos hm])
      clear h5 k5 H4 K4 HS HS' HR
      go_wp2_with fail
      go_ret
      exact part_err HE.out (by decide) H5.out K5.out
     ·have H5 := Lib.hid h5
      have K5 := Lib.hid (K4.out.trans k5)
      have HS2 : Hid (storF bs most N out (a + 32) = storF bs most (N - (i + 1)) (o ++ [x]) (q + 8)) := Lib.hid (by rw [HS.out, HS'.out, if_neg (by have := HF.out; omega), if_neg (by omega)])
      clear h5 k5 H4 K4 HS HS'
      go_wp2_with fail
      go_roundw
      case rel => exact ⟨i + 1, q + 8, o ++ [x], by omega, by go_num, HS2, H5, K5⟩
      case measure => simp [intOf]; omega
    ·have H4 := Lib.hid h4
     have K4 := Lib.hid (K.out.trans k4)
     have HE : Hid (storedF bs most out p = (o, 0, 55)) := Lib.hid (by rw [HR.out, HS.out, HS'.out, if_pos hf4])
     clear h4 k4 H K hf4 HS HS' HR
     go_wp2_with fail
     go_ret
     exact part_err HE.out (by decide) H4.out K4.out
   ·obtain rfl : i = N := by omega
    have e0 : decide (i < i) = false := by simp
    have HE : Hid (storedF bs most out p = (o, q, 0)) := Lib.hid (by rw [HR.out, HS.out, Nat.sub_self, storF])
    clear HS HR
    go_wp2_with fail
    go_ret
    exact part_ok HE.out H.out K.out
 ·have e1 : ((N : Int) != 65535 - (M : Int)) = true := by simpa using hs
  have HR : Hid (storedF bs most out p = (out, 0, 51)) := Lib.hid (by
   unfold storedF
   rw [← HA.out, if_neg (by omega), if_neg (by omega), HN.out, HM.out, if_pos (by omega)])
  clear hs m0 m1
  go_wp2_with fail
  go_ret
  exact part_err HR.out (by decide) H3.out K3.out
end Go.Proofs.YtghjlpechjggjaaGreatDoor
namespace Go.Proofs.YtghjlpechjggjaaGreatDoor
open Go.RowKit
theorem any_iff (l : List Int) : anyUsed l = true ↔ ∃ j, j < l.length ∧ 0 < nth l j := by
 unfold anyUsed
 rw [List.any_eq_true]
 constructor
 ·rintro ⟨x, hx, h⟩
  obtain ⟨j, hj, rfl⟩ := List.getElem_of_mem hx
  exact ⟨j, hj, by rw [nth_lt hj]; simpa using h⟩
 ·rintro ⟨j, hj, h⟩
  exact ⟨l[j], List.getElem_mem _, by rw [nth_lt hj] at h; simpa using h⟩
def MaxP (w : World) (l : List Int) (e : Ending) (w' : World) : Prop := ∃ m : Int, e = .returned (.int .i64 m) ∧ decide (0 < m) = anyUsed l ∧ Dr w w'
theorem max_done {w w' : World} {l : List Int} {m : Int} (h : 0 < m ↔ ∃ j, j < l.length ∧ 0 < nth l j) (hd : Dr w w') : MaxP w l (.returned (.int .i64 m)) w' := by
 refine ⟨m, rfl, ?_, hd⟩
 rw [Bool.eq_iff_iff, any_iff, decide_eq_true_iff]
 exact h
theorem max_calls (w : World) (A : Option Addr) (n c : Nat) (l : List Int) (hl : RI .i64 w A n l) (h1 : 1 ≤ n) (hn : n ≤ 140737488355328) :
  Calls Tryz.prog 177 #[.slice A n c] w (MaxP w l) := by
 have HL := Lib.hid hl
 have HLL := Lib.hid hl.len
 obtain ⟨b, o, rfl, hc0⟩ := hl.at (show 0 < n by omega)
 rw [Nat.add_zero] at hc0
 clear hl
 have e0 : decide (n < 1) = false := by simp; omega
 have e0' : decide ((n : Int) < 1) = false := by simp; omega
 go_enter Tryz.func177, Tryz.ntmps177
 go_wp2_with fail
 clear hc0 e0 e0'
 go_loopw [3, 4] (fun mv iv wr => ∃ (m : Int) (k : Nat), 1 ≤ k ∧ k ≤ n ∧ iv = .int .i64 k ∧ mv = .int .i64 m ∧ Hid (0 < m ↔ ∃ j, j < k ∧ 0 < nth l j) ∧ Hid (Dr w wr)) (fun _ iv _ => n - (intOf iv).toNat)
 case atStart => exact ⟨nth l 0, 1, by omega, by omega, rfl, rfl, Lib.hid ⟨fun h => ⟨0, by omega, h⟩, fun ⟨j, hj, h⟩ => by rwa [show j = 0 by omega] at h⟩, Lib.hid (Dr.refl w)⟩
 case round =>
  obtain ⟨m, k, hk1, hk, rfl, rfl, HM, HD⟩ := hrel
  by_cases hlt : k < n
  ·have e1 : decide (k < n) = true := by simpa using hlt
   have hc := (HL.out.keeps (HD.out.keeps (S := [])) (off_nil _)).cell b o rfl k hlt
   obtain ⟨x, hx⟩ : ∃ x, x = nth l k := ⟨_, rfl⟩
   have HX := Lib.hid hx
   rw [← hx] at hc
   clear hx
   go_wp2_with fail
   go_roundw
   case rel =>
    refine ⟨_, k + 1, by omega, by omega, by go_num, rfl, Lib.hid ?_, HD⟩
    constructor
    ·intro h
     by_cases hm : 0 < m
     ·obtain ⟨j, hj, h2⟩ := HM.out.1 hm
      exact ⟨j, by omega, h2⟩
     ·exact ⟨k, by omega, by rw [← HX.out]; first | omega | (split at h <;> omega)⟩
    ·rintro ⟨j, hj, h2⟩
     by_cases hjk : j = k
     ·subst hjk; rw [← HX.out] at h2; first | omega | (split <;> omega)
     ·have := HM.out.2 ⟨j, by omega, h2⟩; first | omega | (split <;> omega)
   case measure => simp [intOf]; omega
  ·obtain rfl : k = n := by omega
   have e1 : decide (k < k) = false := by simp
   go_wp2_with fail
   go_ret
   exact max_done (by rw [HLL.out]; exact HM.out) HD.out
theorem iused_calls (w : World) (A : Option Addr) (n c : Nat) (l : List Int) (hl : RI .i64 w A n l) (h1 : 1 ≤ n) (hn : n ≤ 140737488355328) :
  Calls Tryz.prog 165 #[.slice A n c] w fun e w' => e = .returned (.bool (anyUsed l)) ∧ Dr w w' := by
 have HL := Lib.hid hl
 clear hl
 go_enter Tryz.func165, Tryz.ntmps165
 go_wp2_with fail
 refine (max_calls w A n c l HL.out h1 hn).mono ?_
 rintro _ w1 ⟨m, rfl, hm, hd⟩
 have HD := Lib.hid hd
 clear hd
 have HM := Lib.hid hm
 clear hm
 go_wp2_with fail
 go_ret
 rw [HM.out]
 exact ⟨rfl, HD.out⟩
def fixGo (k : Nat) : Int := if k < 144 ∨ 279 < k then 8 else if k < 256 then 9 else 7
def fixL (n : Nat) : List Int := (List.range n).map fixGo
theorem fixL_succ (n : Nat) : fixL (n + 1) = fixL n ++ [fixGo n] := by unfold fixL; rw [List.range_succ]; simp
theorem fixL_all : fixL 288 = fixLit := by decide +kernel
theorem fix_info : checkF fixLit = 0 ∧ checkF fixDist = 0 ∧ anyUsed fixDist = true ∧ fixLit.length = 288 ∧ fixDist.length = 32 := by decide +kernel
theorem fixed_calls (w : World) : Calls Tryz.prog 145 #[] w fun e w' => ∃ v1 g2, e = .returned (.tuple #[v1, .slice (some ⟨g2, 0, none⟩) 32 32]) ∧ w'.ownsRow w.heap.size 3 1 v1 288 (ints .i64 fixLit) ∧ Blk w' g2 3 (ints .i64 fixDist) ∧ w.heap.size ≤ g2 ∧ Below w.heap.size w w' := by
 go_enter Tryz.func145, Tryz.ntmps145
 go_wp2_with fail
 go_loopw [0, 3] (fun u i wr => ∃ k : Nat, k ≤ 288 ∧ i = .int .i64 k ∧ Hid (wr.ownsRow w.heap.size 3 1 u k (ints .i64 (fixL k))) ∧ Hid (Below w.heap.size w wr)) (fun _ i _ => 288 - (intOf i).toNat)
 case atStart => exact ⟨0, by omega, rfl, Lib.hid (World.ownsRow_nil _ _ _ _), Below.refl _ _⟩
 case round =>
  obtain ⟨k, hk, rfl, HO, HW⟩ := hrel
  have hsz := HW.out.size
  by_cases hlt : k < 288
  ·have e0 : decide ((k : Int) < 288) = true := by simp; omega
   have fin : ∀ x, fixGo k = x → ∀ (v1 : Value) (w1 : World), w1.ownsRow w.heap.size 3 1 v1 (k + 1) (ints .i64 (fixL k ++ [x])) → w1.ownsRow w.heap.size 3 1 v1 (k + 1) (ints .i64 (fixL (k + 1))) := fun x hx v1 w1 h => by rw [fixL_succ, hx]; exact h
   have HF := Lib.hid fin
   clear fin
   have HRI : ∀ x, Hid (RI .i64 (wr.alloc (.cells #[.int .i64 x] 3)) (some ⟨wr.heap.size, 0, none⟩) 1 [x]) := fun x => Lib.hid (ri_one _ _ _ _)
   have HR8 := HRI 8
   have HR9 := HRI 9
   have HR7 := HRI 7
   clear HRI
   by_cases h144 : k < 144
   ·have e1 : decide ((k : Int) < 144) = true := by simp; omega
    go_wp2_with (at_builtin; refine app_intsG rfl (.tmp 16) (.tmp 17) rfl w.heap.size _ k (fixL k) rfl (HO.out.alloc _) (some ⟨wr.heap.size, 0, none⟩) 1 1 [8] rfl (by exact HR8.out) ?c1 ?c2 (by omega) ?c3 ?_)
    case c1 => simp
    case c2 => intro ad h; exact ⟨_, _, (Option.some.inj h).symm⟩
    case c3 => simp; omega
    intro v' w1 h1 hg
    have HO1 := Lib.hid (HF.out 8 (by unfold fixGo; rw [if_pos (by omega)]) _ _ h1)
    have HB1 := Lib.hid ((HW.out.alloc (by omega) _).grown hg (by simp; omega) (fun k hk => (HO.out.lt k hk).1))
    clear HO HW h1 hg HF
    go_wp2_with fail
    go_roundw
    case rel => exact ⟨k + 1, by omega, by go_num, HO1, HB1⟩
    case measure => simp [intOf]; omega
   ·have e1 : decide ((k : Int) < 144) = false := by simp; omega
    by_cases h279 : 279 < k
    ·have e2 : decide (279 < (k : Int)) = true := by simp; omega
     go_wp2_with (at_builtin; refine app_intsG rfl (.tmp 16) (.tmp 17) rfl w.heap.size _ k (fixL k) rfl (HO.out.alloc _) (some ⟨wr.heap.size, 0, none⟩) 1 1 [8] rfl (by exact HR8.out) ?d1 ?d2 (by omega) ?d3 ?_)
     case d1 => simp
     case d2 => intro ad h; exact ⟨_, _, (Option.some.inj h).symm⟩
     case d3 => simp; omega
     intro v' w1 h1 hg
     have HO1 := Lib.hid (HF.out 8 (by unfold fixGo; rw [if_pos (by omega)]) _ _ h1)
     have HB1 := Lib.hid ((HW.out.alloc (by omega) _).grown hg (by simp; omega) (fun k hk => (HO.out.lt k hk).1))
     clear HO HW h1 hg HF
     go_wp2_with fail
     go_roundw
     case rel => exact ⟨k + 1, by omega, by go_num, HO1, HB1⟩
     case measure => simp [intOf]; omega
    ·have e2 : decide (279 < (k : Int)) = false := by simp; omega
     by_cases h256 : k < 256
     ·have e3 : decide ((k : Int) < 256) = true := by simp; omega
      go_wp2_with (at_builtin; refine app_intsG rfl (.tmp 22) (.tmp 23) rfl w.heap.size _ k (fixL k) rfl (HO.out.alloc _) (some ⟨wr.heap.size, 0, none⟩) 1 1 [9] rfl (by exact HR9.out) ?f1 ?f2 (by omega) ?f3 ?_)
      case f1 => simp
      case f2 => intro ad h; exact ⟨_, _, (Option.some.inj h).symm⟩
      case f3 => simp; omega
      intro v' w1 h1 hg
      have HO1 := Lib.hid (HF.out 9 (by unfold fixGo; rw [if_neg (by omega), if_pos (by omega)]) _ _ h1)
      have HB1 := Lib.hid ((HW.out.alloc (by omega) _).grown hg (by simp; omega) (fun k hk => (HO.out.lt k hk).1))
      clear HO HW h1 hg HF
      go_wp2_with fail
      go_roundw
      case rel => exact ⟨k + 1, by omega, by go_num, HO1, HB1⟩
      case measure => simp [intOf]; omega
     ·have e3 : decide ((k : Int) < 256) = false := by simp; omega
      go_wp2_with (at_builtin; refine app_intsG rfl (.tmp 6) (.tmp 7) rfl w.heap.size _ k (fixL k) rfl (HO.out.alloc _) (some ⟨wr.heap.size, 0, none⟩) 1 1 [7] rfl (by exact HR7.out) ?g1 ?g2 (by omega) ?g3 ?_)
      case g1 => simp
      case g2 => intro ad h; exact ⟨_, _, (Option.some.inj h).symm⟩
      case g3 => simp; omega
      intro v' w1 h1 hg
      have HO1 := Lib.hid (HF.out 7 (by unfold fixGo; rw [if_neg (by omega), if_neg (by omega)]) _ _ h1)
      have HB1 := Lib.hid ((HW.out.alloc (by omega) _).grown hg (by simp; omega) (fun k hk => (HO.out.lt k hk).1))
      clear HO HW h1 hg HF
      go_wp2_with fail
      go_roundw
      case rel => exact ⟨k + 1, by omega, by go_num, HO1, HB1⟩
      case measure => simp [intOf]; omega
  ·obtain rfl : k = 288 := by omega
   have e0 : decide (((288 : Nat) : Int) < 288) = false := by decide
   have HO1 : Hid (wr.ownsRow w.heap.size 3 1 _ 288 (ints .i64 fixLit)) := Lib.hid (by have := HO.out; rwa [fixL_all] at this)
   clear HO
   go_wp2_with fail
   refine (repeat_calls' _ wr.heap.size 1 32 32 5 rfl (by simp) (by omega) (by omega)).mono ?_
   rintro _ w2 ⟨g2, rfl, hb2, hg2, hB2⟩
   have HB2 := Lib.hid hb2
   have hz : wr.heap.size < g2 := by simp at hg2; omega
   have HW2 := Lib.hid ((HW.out.alloc hsz (.cells #[.int .i64 5] 3)).trans (hB2.mono (by simp; omega)))
   have hO2 := own_keeps HO1.out ((Keeps.refl [] wr).alloc (.cells #[.int .i64 5] 3)) (by simp)
   have HO2 := Lib.hid (own_keeps hO2 (Keeps.of_below hB2 (S := [])) (by simp))
   clear hb2 hg2 hB2 hO2 HO1 HW
   go_wp2_with fail
   go_ret2
   exact ⟨_, _, rfl, HO2.out, HB2.out, by omega, HW2.out⟩
end Go.Proofs.YtghjlpechjggjaaGreatDoor
namespace Go.Proofs.YtghjlpechjggjaaGreatDoor
open Go.RowKit
def HeadP (w : World) (g gr : Nat) (A : Option Addr) (c : Nat) (bs : List Int) (most : Nat) (out : List Int) (p : Nat) (h : List Int × List Int × Nat × Int) (e : Ending) (w' : World) : Prop :=
 (codesE h ≠ 0 ∧ ∃ q, e = .returned (.tuple #[.slice none 0 0, .slice none 0 0, .int .i64 (codesE h)]) ∧ IR w' g gr A c bs q most out ∧ KT g gr w w') ∨
 (codesE h = 0 ∧ ∃ v1 v2, e = .returned (.tuple #[v1, v2, .int .i64 0]) ∧ w'.ownsRow w.heap.size 3 1 v1 h.1.length (ints .i64 h.1) ∧ w'.ownsRow w.heap.size 3 1 v2 h.2.1.length (ints .i64 h.2.1) ∧
  IR w' g gr A c bs (p + h.2.2.1) most out ∧ KT g gr w w')
theorem headP_err {w w' : World} {g gr c most p q : Nat} {A : Option Addr} {bs out : List Int} {h : List Int × List Int × Nat × Int} {e : Int} (hh : codesE h = e) (he : e ≠ 0) (hi : IR w' g gr A c bs q most out) (k : KT g gr w w') :
  HeadP w g gr A c bs most out p h (.returned (.tuple #[.slice none 0 0, .slice none 0 0, .int .i64 e])) w' := by
 subst hh; exact .inl ⟨he, q, rfl, hi, k⟩
theorem head_calls (w : World) (g gr : Nat) (A : Option Addr) (c : Nat) (bs : List Int) (p most : Nat) (out : List Int) (hT : Tabs w) (hg : gtop ≤ gr) (h : IR w g gr A c bs p most out) :
  Calls Tryz.prog 146 #[.pointer (some ⟨g, 0, none⟩)] w (HeadP w g gr A c bs most out p (headF bs p)) := by
 have H := Lib.hid h
 have HT := Lib.hid hT
 obtain ⟨v, hblk, -⟩ := h.box
 have hglt := h.glt
 have HA : Hid (∀ a, A = some a → a.block < w.heap.size) := Lib.hid (fun a ha => Nat.lt_trans (h.data a ha) hglt)
 have c0 := hblk.cell 0
 simp only [List.getElem?_cons_zero] at c0
 have HGR := Lib.hid (show gr < w.heap.size from Nat.lt_trans h.lt hglt)
 clear hblk h hT
 have hcR := lensRead_calls w gr A c bs p HT.out hg H.out.rd HA.out
 have hfull := @head_full bs p
 obtain ⟨hd, hhd⟩ : ∃ h, h = headF bs p := ⟨_, rfl⟩
 rw [← hhd] at hcR hfull ⊢
 clear hhd
 obtain ⟨L1, L2, nn, er⟩ := hd
 simp only [] at hcR hfull
 have HF := Lib.hid hfull
 clear hfull
 go_enter Tryz.func146, Tryz.ntmps146
 go_wp2_with fail
 refine hcR.mono ?_
 rintro _ w1 ⟨v1, v2, rfl, ho1, ho2, hr1, hk1⟩
 have H1 := Lib.hid (H.out.read hr1 hk1)
 have K1 : Hid (KT g gr w w1) := Lib.hid (KT.of_keeps hk1 (fun x hx => .inr (List.mem_singleton.1 hx)))
 have HO1 := Lib.hid ho1
 have HO2 := Lib.hid ho2
 clear ho1 ho2 hr1 hk1 H c0 hcR HT HA
 by_cases her : er = 0
 ·subst her
  obtain ⟨hl1, hl2⟩ := HF.out rfl
  have b1 : 257 ≤ L1.length := by rw [hl1]; unfold litF; omega
  have b2 : L1.length ≤ 288 := by rw [hl1]; exact litF_le _ _
  have b3 : 1 ≤ L2.length := by rw [hl2]; unfold distF; omega
  have b4 : L2.length ≤ 32 := by rw [hl2]; exact distF_le _ _
  clear hl1 hl2 HF
  obtain ⟨A1, c1, rfl, hri1, -, -⟩ := own_ri HO1.out
  obtain ⟨A2, c2, rfl, hri2, -, -⟩ := own_ri HO2.out
  have HR1 := Lib.hid hri1
  have HR2 := Lib.hid hri2
  obtain ⟨bb, oo, hAA, hc⟩ := hri1.at (show 256 < L1.length by omega)
  subst hAA
  clear hri1 hri2
  obtain ⟨n1, hn1⟩ : ∃ n, n = L1.length := ⟨_, rfl⟩
  obtain ⟨n2, hn2⟩ : ∃ n, n = L2.length := ⟨_, rfl⟩
  have HN1 := Lib.hid hn1
  have HN2 := Lib.hid hn2
  rw [← hn1] at b1 b2 HO1 HR1 ⊢
  rw [← hn2] at b3 b4 HO2 HR2 ⊢
  clear hn1 hn2
  obtain ⟨x, hx⟩ : ∃ x, x = nth L1 256 := ⟨_, rfl⟩
  rw [← hx] at hc
  have HX := Lib.hid hx
  clear hx
  by_cases hx0 : x = 0
  ·subst hx0
   have HE : Hid (codesE (L1, L2, nn, 0) = 52) := Lib.hid (by unfold codesE; rw [if_neg (by simp), if_pos (by rw [← HX.out])])
   go_wp2_with fail
   go_ret3
   exact headP_err HE.out (by decide) H1.out K1.out
  ·have e1 : (x == 0) = false := by simpa using hx0
   have e1' : decide (x = 0) = false := by simpa using hx0
   have HX0 := Lib.hid hx0
   clear hx0
   go_wp2_with fail
   refine (check_calls w1 _ n1 c1 L1 HR1.out (by omega)).mono ?_
   rintro _ w2 ⟨rfl, hd2⟩
   have hk2 := hd2.keeps (S := [])
   have H2 := Lib.hid (H1.out.keeps hk2)
   have K2 := Lib.hid (K1.out.trans (KT.of_keeps hk2 (by simp)))
   have HR22 := Lib.hid (HR2.out.keeps hk2 (off_nil _))
   have HO12 := Lib.hid (own_keeps HO1.out hk2 (by simp))
   have HO22 := Lib.hid (own_keeps HO2.out hk2 (by simp))
   clear hd2 hk2 H1 K1 HR1 HR2 HO1 HO2 hc
   by_cases hc1 : checkF L1 = 0
   ·have HC1 := Lib.hid hc1
    rw [hc1]
    clear hc1
    go_wp2_with fail
    refine (iused_calls w2 _ n2 c2 L2 HR22.out b3 (by omega)).mono ?_
    rintro _ w3 ⟨rfl, hd3⟩
    have hk3 := hd3.keeps (S := [])
    have H3 := Lib.hid (H2.out.keeps hk3)
    have K3 := Lib.hid (K2.out.trans (KT.of_keeps hk3 (by simp)))
    have HR23 := Lib.hid (HR22.out.keeps hk3 (off_nil _))
    have HO13 := Lib.hid (own_keeps HO12.out hk3 (by simp))
    have HO23 := Lib.hid (own_keeps HO22.out hk3 (by simp))
    clear hd3 hk3 H2 K2 HR22 HO12 HO22
    by_cases hu : anyUsed L2 = true
    ·have HU := Lib.hid hu
     rw [hu]
     clear hu
     go_wp2_with fail
     refine (check_calls w3 _ n2 c2 L2 HR23.out (by omega)).mono ?_
     rintro _ w4 ⟨rfl, hd4⟩
     have hk4 := hd4.keeps (S := [])
     have H4 := Lib.hid (H3.out.keeps hk4)
     have K4 := Lib.hid (K3.out.trans (KT.of_keeps hk4 (by simp)))
     have HO14 := Lib.hid (own_keeps HO13.out hk4 (by simp))
     have HO24 := Lib.hid (own_keeps HO23.out hk4 (by simp))
     clear hd4 hk4 H3 K3 HR23 HO13 HO23
     by_cases hc2 : checkF L2 = 0
     ·have HE : Hid (codesE (L1, L2, nn, 0) = 0) := Lib.hid (by unfold codesE; rw [if_neg (by simp), if_neg (by rw [← HX.out]; exact HX0.out), if_neg (by rw [HC1.out]; simp), if_neg (by rintro ⟨_, h⟩; exact h hc2)])
      rw [hc2]
      clear hc2
      go_wp2_with fail
      go_ret3
      exact .inr ⟨HE.out, _, _, rfl, by rw [← HN1.out]; exact HO14.out, by rw [← HN2.out]; exact HO24.out, H4.out, K4.out⟩
     ·have HE : Hid (codesE (L1, L2, nn, 0) = 52) := Lib.hid (by unfold codesE; rw [if_neg (by simp), if_neg (by rw [← HX.out]; exact HX0.out), if_neg (by rw [HC1.out]; simp), if_pos ⟨HU.out, hc2⟩])
      have e2 : (checkF L2 != 0) = true := by simpa using hc2
      generalize checkF L2 = y at *
      clear hc2
      go_wp2_with fail
      go_ret3
      exact headP_err HE.out (by decide) H4.out K4.out
    ·have hu : anyUsed L2 = false := by simpa using hu
     have HE : Hid (codesE (L1, L2, nn, 0) = 0) := Lib.hid (by unfold codesE; rw [if_neg (by simp), if_neg (by rw [← HX.out]; exact HX0.out), if_neg (by rw [HC1.out]; simp), if_neg (by rintro ⟨h, _⟩; rw [hu] at h; cases h)])
     rw [hu]
     clear hu
     go_wp2_with fail
     go_ret3
     exact .inr ⟨HE.out, _, _, rfl, by rw [← HN1.out]; exact HO13.out, by rw [← HN2.out]; exact HO23.out, H3.out, K3.out⟩
   ·have HE : Hid (codesE (L1, L2, nn, 0) = 52) := Lib.hid (by unfold codesE; rw [if_neg (by simp), if_neg (by rw [← HX.out]; exact HX0.out), if_pos hc1])
    have e2 : (checkF L1 != 0) = true := by simpa using hc1
    generalize checkF L1 = y at *
    clear hc1
    go_wp2_with fail
    go_ret3
    exact headP_err HE.out (by decide) H2.out K2.out
 ·have HE : Hid (codesE (L1, L2, nn, er) = endF er 52) := Lib.hid (by unfold codesE; rw [if_pos her])
  have HN : Hid (endF er 52 ≠ 0) := Lib.hid (fun h => her (endF_zero (by decide) h))
  have e1 : (er != 0) = true := by simpa using her
  clear her HF
  go_wp2_with fail
  refine (end_calls w1 er 52).mono ?_
  rintro _ w2 ⟨rfl, hd⟩
  have H2 := Lib.hid (H1.out.keeps (hd.keeps (S := [])))
  have K2 := Lib.hid (K1.out.trans (KT.of_keeps (hd.keeps (S := [])) (by simp)))
  clear hd H1 K1
  generalize endF er 52 = y at *
  go_wp2_with fail
  go_ret3
  exact headP_err HE.out HN.out H2.out K2.out
end Go.Proofs.YtghjlpechjggjaaGreatDoor
namespace Go.Proofs.YtghjlpechjggjaaGreatDoor
open Go.RowKit
def DistD (w : World) (g : Nat) (dist : List Int) (D : Option Addr) : Prop :=
 dist.length ≤ 288 ∧ ((anyUsed dist = false ∧ D = none) ∨ (anyUsed dist = true ∧ ∃ dg, D = some ⟨dg, 0, none⟩ ∧ g < dg ∧ Dec w dg dist))
theorem dec_kt {w w' : World} {g gr dg : Nat} {l : List Int} (h : Dec w dg l) (hp : KT g gr w w') (hg : g < dg) (hr : gr < g) : Dec w' dg l := by
 obtain ⟨v, ⟨a1, a2, a3, h1⟩, h2⟩ := h
 exact ⟨v, ⟨a1, a2, a3, blk_kt (by decide) (by omega) (by omega) h1 hp⟩, own_kt (by decide) (by omega) (by omega) h2 hp⟩
theorem DistD.kt {w w' : World} {g gr : Nat} {dist : List Int} {D : Option Addr} (h : DistD w g dist D) (hp : KT g gr w w') (hr : gr < g) : DistD w' g dist D := by
 obtain ⟨h0, h⟩ := h
 refine ⟨h0, ?_⟩
 rcases h with h | ⟨h1, dg, h2, h3, h4⟩
 ·exact .inl h
 ·exact .inr ⟨h1, dg, h2, h3, dec_kt h4 hp h3 hr⟩
theorem itake_calls' (w : World) (g gr : Nat) (A : Option Addr) (c : Nat) (bs : List Int) (p most : Nat) (out : List Int) (n : Nat) (ni : Int) (hni : ni = n) (h : IR w g gr A c bs p most out) (hn : n ≤ 16) :
  Calls Tryz.prog 142 #[.pointer (some ⟨g, 0, none⟩), .int .i64 ni] w (Took w g gr A c bs p most out n) := by
 subst hni; exact itake_calls w g gr A c bs p most out n h hn
theorem IR.cells {w : World} {g gr c p most : Nat} {A : Option Addr} {bs out : List Int} (h : IR w g gr A c bs p most out) : w.cell? ⟨g, 0, none⟩ = some (.pointer (some ⟨gr, 0, none⟩)) ∧
  ∃ v vc, w.cell? ⟨g, 1, none⟩ = some (.slice v out.length vc) ∧ RI .u8 w v out.length out := by
 obtain ⟨v, hblk, hown⟩ := h.box
 obtain ⟨vA, vc, rfl, hri, _, _⟩ := own_ri hown
 have c0 := hblk.cell 0
 have c1 := hblk.cell 1
 simp only [List.getElem?_cons_zero, List.getElem?_cons_succ] at c0 c1
 exact ⟨c0, vA, vc, c1, hri⟩
theorem copies_calls (w : World) (g gr : Nat) (A : Option Addr) (c : Nat) (bs : List Int) (p most : Nat) (out dist : List Int) (s : Nat) (D : Option Addr) (h : IR w g gr A c bs p most out) (hD : DistD w g dist D) (hs : 257 ≤ s) (hs2 : s ≤ 100000) :
  Calls Tryz.prog 167 #[.pointer (some ⟨g, 0, none⟩), .int .i64 s, .pointer D] w (Part w g gr A c bs most (copyF dist bs most s out p)) := by
 have H := Lib.hid h
 have HD := Lib.hid hD
 have hgr := h.lt
 obtain ⟨c0, -⟩ := h.cells
 clear h hD
 go_enter Tryz.func167, Tryz.ntmps167
 by_cases h1 : 285 < s
 ·have e1 : decide (285 < s) = true := by simpa using h1
  have e1' : decide ((285 : Int) < (s : Int)) = true := by simp; omega
  have HR : Hid (copyF dist bs most s out p = (out, 0, 53)) := Lib.hid (by unfold copyF; rw [if_pos h1])
  go_wp2_with fail
  go_ret
  exact part_err HR.out (by decide) H.out (KT.refl _ _ _)
 have e1 : decide (285 < s) = false := by simp; omega
 have e1' : decide ((285 : Int) < (s : Int)) = false := by simp; omega
 have HS := Lib.hid h1
 go_upto_block 0 with (fail)
 go_cut [7] (fun v7 wc => ∃ N : Nat, N ≤ 1000 ∧ v7 = .int .i64 N ∧ Hid (N = lenBase s + (numB bs p (lenK s)).toNat) ∧ Hid (p + lenK s ≤ 8 * bs.length) ∧ Hid (IR wc g gr A c bs (p + lenK s) most out) ∧ Hid (KT g gr w wc))
 case first =>
  have hle := H.out.rd.le
  by_cases h2 : s = 285
  ·subst h2
   have e2 : (((285 : Nat) : Int) == 285) = true := by decide
   go_wp2_with fail
   go_meet
   exact ⟨258, by omega, rfl, Lib.hid (by simp [lenBase, lenK, numB]), Lib.hid (by simp [lenK]; omega), by simpa [lenK] using H, Lib.hid (KT.refl _ _ _)⟩
  have e2 : ((s : Int) == 285) = false := by simp; omega
  by_cases h3 : 264 < s
  ·have e3 : decide (264 < s) = true := by simpa using h3
   have e3' : decide ((264 : Int) < (s : Int)) = true := by simp; omega
   obtain ⟨k, hk⟩ : ∃ k : Nat, k = lenK s := ⟨_, rfl⟩
   have hk5 : k ≤ 5 := by rw [hk]; unfold lenK; split <;> omega
   have HKK := Lib.hid hk
   have s1 : ((s : Int) - 261) / 4 = (k : Int) := by rw [hk]; unfold lenK; rw [if_neg (by omega)]; omega
   obtain ⟨r, hr⟩ : ∃ r : Nat, ((s : Int) - 261) % 4 = (r : Int) := ⟨(s - 261) % 4, by omega⟩
   have hr4 : r < 4 := by omega
   have HRR : Hid (lenBase s = 3 + (4 + r) * 2 ^ k) := Lib.hid (by unfold lenBase; rw [if_neg (by omega), if_neg h2, ← hk, show (s - 261) % 4 = r by omega])
   clear hk
   go_wp2_with fail
   refine (itake_calls' w g gr A c bs p most out k _ (by first | rfl | omega) H.out (by omega)).mono ?_
   rintro _ w1 (⟨hf, rfl, h1, k1⟩ | ⟨hf, rfl, h1, k1⟩)
   ·have HI := Lib.hid h1
    have K1 := Lib.hid k1
    have HF := Lib.hid hf
    clear h1 k1 H hf c0
    obtain ⟨n0, n1⟩ := numB_lt bs p k
    have p32 : (2 : Int) ^ k ≤ 32 := by
     have : (2 : Nat) ^ k ≤ 2 ^ 5 := Nat.pow_le_pow_right (by decide) hk5
     exact_mod_cast this
    obtain ⟨x, hx⟩ : ∃ x : Nat, numB bs p k = x := ⟨(numB bs p k).toNat, by omega⟩
    have HX := Lib.hid hx
    rw [hx] at n1 ⊢
    clear hx n0
    have t1 : (4 + (r : Int)) * 2 ^ k ≤ 7 * 32 := Int.mul_le_mul (by omega) p32 (by have := pow_cast k; omega) (by omega)
    have t0 : 0 ≤ (4 + (r : Int)) * 2 ^ k := Int.mul_nonneg (by omega) (by have := pow_cast k; omega)
    have s3 : IntKind.i64.wrap ((4 + (r : Int)) * 2 ^ k) = (4 + (r : Int)) * 2 ^ k := IntWalk.i64_in _ (by omega)
    obtain ⟨y, hy⟩ : ∃ y : Nat, (4 + (r : Int)) * 2 ^ k = y := ⟨((4 + (r : Int)) * 2 ^ k).toNat, by omega⟩
    have HY := Lib.hid hy
    rw [hy] at s3 t0 t1
    go_wp2_with fail
    go_meet
    refine ⟨3 + y + x, by omega, by go_num, Lib.hid ?_, Lib.hid (by rw [← HKK.out]; exact HF.out), by rw [← HKK.out]; exact HI, K1⟩
    rw [HRR.out, ← HKK.out, HX.out]
    have := HY.out
    have e : (((4 + r) * 2 ^ k : Nat) : Int) = y := by push_cast; exact this
    have : (4 + r) * 2 ^ k = y := by exact_mod_cast e
    omega
   ·have HI := Lib.hid h1
    have K1 := Lib.hid k1
    have HR : Hid (copyF dist bs most s out p = (out, 0, 55)) := Lib.hid (by unfold copyF; rw [if_neg HS.out, ← HKK.out, if_pos hf])
    clear h1 k1 H hf c0
    go_wp2_with fail
    go_ret
    exact part_err HR.out (by decide) HI.out K1.out
  ·have e3 : decide (264 < s) = false := by simpa using h3
   have e3' : decide ((264 : Int) < (s : Int)) = false := by simp; omega
   have hk : lenK s = 0 := by unfold lenK; rw [if_pos (by omega)]
   have hb : lenBase s = s - 254 := by unfold lenBase; rw [if_pos (by omega)]
   have HKK := Lib.hid hk
   have HB := Lib.hid hb
   clear hk hb
   go_wp2_with fail
   go_meet
   exact ⟨s - 254, by omega, by go_num, Lib.hid (by rw [HB.out, HKK.out, numB]; rfl), Lib.hid (by rw [HKK.out]; exact hle), by rw [HKK.out]; exact H, Lib.hid (KT.refl _ _ _)⟩
 case rest =>
  obtain ⟨N, hN, rfl, HN, HQ, H1, K1⟩ := hcut
  clear H c0
  obtain ⟨q, hq⟩ : ∃ q, q = p + lenK s := ⟨_, rfl⟩
  rw [← hq] at HQ H1
  have HQE := Lib.hid hq
  clear hq
  have HD1 := Lib.hid (HD.out.kt K1.out hgr)
  have hD1 := HD1.out
  clear HD
  obtain ⟨hdl, ⟨hu, hDn⟩ | ⟨hu, dg, hDs, hgd, hdec⟩⟩ := hD1
  ·subst hDn
   have HR : Hid (copyF dist bs most s out p = (out, 0, 53)) := Lib.hid (by unfold copyF; rw [if_neg HS.out, if_neg (by have := HQ.out; have := HQE.out; omega), if_pos hu])
   clear hu
   go_wp2_with fail
   go_ret
   exact part_err HR.out (by decide) H1.out K1.out
  subst hDs
  have HU := Lib.hid hu
  have HDC := Lib.hid hdec
  clear hu hdec HD1
  obtain ⟨c0, -⟩ := H1.out.cells
  go_wp2_with fail
  refine (nextN_calls wc dg gr dist A c bs q (HDC.out.apart (by omega)) H1.out.rd hdl).mono ?_
  rintro _ w2 ⟨rfl, hr2, hk2⟩
  have H2 := Lib.hid (H1.out.read hr2 hk2)
  have K2 := Lib.hid (K1.out.trans (KT.of_keeps hk2 (fun x hx => .inr (List.mem_singleton.1 hx))))
  have hbd := dec_bd dist bs q HQ.out
  clear hr2 hk2 H1 K1 c0 HDC
  have HC : Hid (copyF dist bs most s out p = if (decF dist bs q).2.1 ≠ 0 then (out, 0, endF (decF dist bs q).2.1 53)
   else if 29 < (decF dist bs q).1 then (out, 0, 53)
   else if 8 * bs.length < q + (decF dist bs q).2.2 + distK (decF dist bs q).1.toNat then (out, 0, 55)
   else if (out.length : Int) < distBase (decF dist bs q).1.toNat + numB bs (q + (decF dist bs q).2.2) (distK (decF dist bs q).1.toNat) then (out, 0, 54)
   else if (layN ((distBase (decF dist bs q).1.toNat : Int) + numB bs (q + (decF dist bs q).2.2) (distK (decF dist bs q).1.toNat)).toNat most N out).2 ≠ 0 then
    ((layN ((distBase (decF dist bs q).1.toNat : Int) + numB bs (q + (decF dist bs q).2.2) (distK (decF dist bs q).1.toNat)).toNat most N out).1, 0, 56)
   else ((layN ((distBase (decF dist bs q).1.toNat : Int) + numB bs (q + (decF dist bs q).2.2) (distK (decF dist bs q).1.toNat)).toNat most N out).1, q + (decF dist bs q).2.2 + distK (decF dist bs q).1.toNat, 0)) := Lib.hid (by
    have h1 := HQ.out
    have h2 := HQE.out
    have h3 := HN.out
    subst h2
    subst h3
    unfold copyF
    rw [if_neg HS.out, if_neg (by omega), if_neg (by rw [HU.out]; simp)])
  generalize decF dist bs q = dr at *
  obtain ⟨sy, er, nn⟩ := dr
  simp only [] at H2 hbd HC ⊢
  rcases hbd with ⟨rfl, d, rfl, hdl2, hq2⟩ | ⟨her, rfl, rfl⟩
  rotate_left
  ·have HR : Hid (copyF dist bs most s out p = (out, 0, endF er 53)) := Lib.hid (by rw [HC.out, if_pos her])
   have HNE : Hid (endF er 53 ≠ 0) := Lib.hid (fun h => her (endF_zero (by decide) h))
   have e5 : (er != 0) = true := by simpa using her
   clear her HC
   go_wp2_with fail
   refine (end_calls w2 er 53).mono ?_
   rintro _ w3 ⟨rfl, hd⟩
   have H3 := Lib.hid (H2.out.keeps (hd.keeps (S := [])))
   have K3 := Lib.hid (K2.out.trans (KT.of_keeps (hd.keeps (S := [])) (by simp)))
   clear hd H2 K2
   generalize endF er 53 = y at *
   go_wp2_with fail
   go_ret
   exact part_err HR.out HNE.out H3.out K3.out
  rw [Int.toNat_natCast] at HC
  by_cases hd29 : 29 < d
  ·have HR : Hid (copyF dist bs most s out p = (out, 0, 53)) := Lib.hid (by rw [HC.out, if_neg (by simp), if_pos (by omega)])
   have e5 : decide (29 < d) = true := by simpa using hd29
   have e5' : decide ((29 : Int) < (d : Int)) = true := by simp; omega
   clear HC
   go_wp2_with fail
   go_ret
   exact part_err HR.out (by decide) H2.out K2.out
  have e5 : decide (29 < d) = false := by simpa using hd29
  have e5' : decide ((29 : Int) < (d : Int)) = false := by simp; omega
  have HC2 := Lib.hid (HC.out.trans (by rw [if_neg (by simp), if_neg (by omega)]))
  clear HC
  obtain ⟨q2, hq2e⟩ : ∃ x, x = q + nn := ⟨_, rfl⟩
  rw [← hq2e] at HC2 H2 hq2
  have HQ2 := Lib.hid hq2e
  clear hq2e
  go_upto_if 71 with (fail)
  go_cut [13] (fun v13 wc2 => ∃ F : Nat, 1 ≤ F ∧ F ≤ 40000 ∧ v13 = .int .i64 F ∧ Hid ((F : Int) = distBase d + numB bs q2 (distK d)) ∧ Hid (q2 + distK d ≤ 8 * bs.length) ∧ Hid (IR wc2 g gr A c bs (q2 + distK d) most out) ∧ Hid (KT g gr w wc2))
  case first =>
   have hd29' : d ≤ 29 := by omega
   by_cases h3 : 3 < d
   ·have e3 : decide (3 < d) = true := by simpa using h3
    have e3' : decide ((3 : Int) < (d : Int)) = true := by simp; omega
    obtain ⟨k, hk⟩ : ∃ k : Nat, k = distK d := ⟨_, rfl⟩
    have hk13 : k ≤ 13 := by rw [hk]; unfold distK; split <;> omega
    have HKK := Lib.hid hk
    have s1 : (d : Int) / 2 - 1 = (k : Int) := by rw [hk]; unfold distK; rw [if_neg (by omega)]; omega
    obtain ⟨r, hr⟩ : ∃ r : Nat, (d : Int) % 2 = (r : Int) := ⟨d % 2, by omega⟩
    have hr4 : r < 2 := by omega
    have HRR : Hid (distBase d = 1 + (2 + r) * 2 ^ k) := Lib.hid (by unfold distBase; rw [if_neg (by omega), ← hk, show d % 2 = r by omega])
    have HR55 : Hid (8 * bs.length < q2 + k → copyF dist bs most s out p = (out, 0, 55)) := Lib.hid (fun h => by rw [HC2.out, if_pos (by rw [← hk]; exact h)])
    clear hk HC2
    go_wp2_with fail
    refine (itake_calls' w2 g gr A c bs q2 most out k _ (by first | rfl | omega) H2.out (by omega)).mono ?_
    rintro _ w3 (⟨hf, rfl, h1, k1⟩ | ⟨hf, rfl, h1, k1⟩)
    ·have HI := Lib.hid h1
     have K3 := Lib.hid (K2.out.trans k1)
     have HF := Lib.hid hf
     clear h1 k1 H2 K2 hf HR55
     obtain ⟨n0, n1⟩ := numB_lt bs q2 k
     have p13 : (2 : Int) ^ k ≤ 8192 := by
      have : (2 : Nat) ^ k ≤ 2 ^ 13 := Nat.pow_le_pow_right (by decide) hk13
      exact_mod_cast this
     obtain ⟨x, hx⟩ : ∃ x : Nat, numB bs q2 k = x := ⟨(numB bs q2 k).toNat, by omega⟩
     have HX := Lib.hid hx
     rw [hx] at n1 ⊢
     clear hx n0
     have t1 : (2 + (r : Int)) * 2 ^ k ≤ 3 * 8192 := Int.mul_le_mul (by omega) p13 (by have := pow_cast k; omega) (by omega)
     have t0 : 0 ≤ (2 + (r : Int)) * 2 ^ k := Int.mul_nonneg (by omega) (by have := pow_cast k; omega)
     have s3 : IntKind.i64.wrap ((2 + (r : Int)) * 2 ^ k) = (2 + (r : Int)) * 2 ^ k := IntWalk.i64_in _ (by omega)
     obtain ⟨y, hy⟩ : ∃ y : Nat, (2 + (r : Int)) * 2 ^ k = y := ⟨((2 + (r : Int)) * 2 ^ k).toNat, by omega⟩
     have HY := Lib.hid hy
     rw [hy] at s3 t0 t1
     go_wp2_with fail
     go_meet
     refine ⟨1 + y + x, by omega, by omega, by go_num, Lib.hid ?_, Lib.hid (by rw [← HKK.out]; exact HF.out), by rw [← HKK.out]; exact HI, K3⟩
     rw [HRR.out, ← HKK.out, HX.out]
     have := HY.out
     push_cast
     omega
    ·have HI := Lib.hid h1
     have K3 := Lib.hid (K2.out.trans k1)
     have HR := Lib.hid (HR55.out hf)
     clear h1 k1 H2 K2 hf HR55
     go_wp2_with fail
     go_ret
     exact part_err HR.out (by decide) HI.out K3.out
   ·have e3 : decide (3 < d) = false := by simpa using h3
    have e3' : decide ((3 : Int) < (d : Int)) = false := by simp; omega
    have hk : distK d = 0 := by unfold distK; rw [if_pos (by omega)]
    have hb : distBase d = d + 1 := by unfold distBase; rw [if_pos (by omega)]
    have HKK := Lib.hid hk
    have HB := Lib.hid hb
    clear hk hb
    go_wp2_with fail
    go_meet
    exact ⟨d + 1, by omega, by omega, by go_num, Lib.hid (by rw [HB.out, HKK.out, numB]; simp), Lib.hid (by rw [HKK.out]; exact hq2), by rw [HKK.out]; exact H2, K2⟩
  case rest =>
   obtain ⟨F, hF1, hF2, rfl, HF, HQ3, H3, K3⟩ := hcut
   clear H2 K2
   obtain ⟨q3, hq3⟩ : ∃ x, x = q2 + distK d := ⟨_, rfl⟩
   have HC3 : Hid (copyF dist bs most s out p = if out.length < F then (out, 0, 54) else if (layN F most N out).2 ≠ 0 then ((layN F most N out).1, 0, 56) else ((layN F most N out).1, q3, 0)) := Lib.hid (by
    rw [HC2.out, if_neg (by have := HQ3.out; omega), ← HF.out, hq3, Int.toNat_natCast]
    by_cases h : out.length < F
    ·rw [if_pos h, if_pos (by omega)]
    ·rw [if_neg h, if_neg (by omega)])
   rw [← hq3] at H3
   clear hq3 HC2 HF HQ3
   obtain ⟨-, A3, c3, hc1, -⟩ := H3.out.cells
   obtain ⟨Lo, hLo⟩ : ∃ L, L = out.length := ⟨_, rfl⟩
   have HLo := Lib.hid hLo
   rw [← hLo] at hc1 HC3
   clear hLo
   by_cases hfar : Lo < F
   ·have e6 : decide (Lo < F) = true := by simpa using hfar
    have e6' : decide ((Lo : Int) < (F : Int)) = true := by simp; omega
    have HR : Hid (copyF dist bs most s out p = (out, 0, 54)) := Lib.hid (by rw [HC3.out, if_pos hfar])
    clear HC3
    go_wp2_with fail
    go_ret
    exact part_err HR.out (by decide) H3.out K3.out
   have e6 : decide (Lo < F) = false := by simpa using hfar
   have e6' : decide ((Lo : Int) < (F : Int)) = false := by simp; omega
   have HC4 : Hid (copyF dist bs most s out p = if (layN F most N out).2 ≠ 0 then ((layN F most N out).1, 0, 56) else ((layN F most N out).1, q3, 0)) := Lib.hid (by rw [HC3.out, if_neg hfar])
   have HFL : Hid (F ≤ out.length) := Lib.hid (by have := HLo.out; omega)
   clear HC3
   go_wp2_with fail
   clear hc1 e6 e6' hfar HLo
   go_loopw [100] (fun iv wr => ∃ (i : Nat) (o : List Int), i ≤ N ∧ iv = .int .i64 i ∧ Hid (layN F most N out = layN F most (N - i) o) ∧ Hid (F ≤ o.length) ∧ Hid (IR wr g gr A c bs q3 most o) ∧ Hid (KT g gr w wr)) (fun iv _ => N - (intOf iv).toNat)
   case atStart => exact ⟨0, out, by omega, rfl, Lib.hid rfl, HFL, H3, K3⟩
   case round =>
    clear H3 K3 HFL
    obtain ⟨i, o, hi, rfl, HS2, HFL, H, K⟩ := hrel
    by_cases hlt : i < N
    ·have e0 : decide (i < N) = true := by simpa using hlt
     have HL' : Hid (layN F most (N - i) o = if most ≤ o.length then (o, 56) else layN F most (N - (i + 1)) (o ++ [nth o (o.length - F)])) := Lib.hid (by rw [show N - i = (N - (i + 1)) + 1 by omega, layN])
     obtain ⟨-, A4, c4, hc1, hri⟩ := H.out.cells
     have hfl := HFL.out
     obtain ⟨Lo, hLo⟩ : ∃ L, L = o.length := ⟨_, rfl⟩
     have HLo := Lib.hid hLo
     rw [← hLo] at hc1 hri hfl
     have hLb : Lo ≤ 16384 := by have := H.out.cap; have := H.out.mx; omega
     clear hLo
     obtain ⟨b4, o4, hA4, hcc⟩ := hri.at (show Lo - F < Lo by omega)
     subst hA4
     obtain ⟨x, hx⟩ : ∃ x, x = nth o (Lo - F) := ⟨_, rfl⟩
     rw [← hx] at hcc
     have HX : Hid (x = nth o (o.length - F)) := Lib.hid (by rw [hx, HLo.out])
     clear hx hri
     have s1 : IntKind.i64.wrap ((Lo : Int) - (F : Int)) = (Lo : Int) - (F : Int) := IntWalk.i64_in _ (by omega)
     have s2 : (0 : Int) ≤ (Lo : Int) - (F : Int) := by omega
     have s3 : (Lo : Int) - (F : Int) < (Lo : Int) := by omega
     have s4 : ((Lo : Int) - (F : Int)).toNat = Lo - F := by omega
     go_wp2_with fail
     go_still_tail 14, (by kernel_rfl)
     change wpList _ _ _ _ _ wr.drew
     have hdr := (Keeps.refl [] wr).drew
     have Hd := Lib.hid (H.out.keeps hdr)
     have Kd := Lib.hid (K.out.trans (KT.of_keeps hdr (by simp)))
     clear hdr H K hc1 hcc s1 s2 s3 s4
     go_wp2_with fail
     refine (lay_calls wr.drew g gr A c bs q3 most o x Hd.out).mono ?_
     rintro _ w5 (⟨hm, rfl, h5, k5⟩ | ⟨hm, rfl, h5, k5⟩)
     ·have H5 := Lib.hid h5
      have K5 := Lib.hid (Kd.out.trans k5)
      have HE : Hid (copyF dist bs most s out p = (o, 0, 56)) := Lib.hid (by rw [HC4.out, HS2.out, HL'.out, if_pos hm]; rfl)
      clear h5 k5 Hd Kd HS2 HL' HC4
      go_wp2_with fail
      go_ret
      exact part_err HE.out (by decide) H5.out K5.out
     ·have H5 := Lib.hid h5
      have K5 := Lib.hid (Kd.out.trans k5)
      have HS3 : Hid (layN F most N out = layN F most (N - (i + 1)) (o ++ [x])) := Lib.hid (by rw [HS2.out, HL'.out, if_neg (by omega), HX.out])
      clear h5 k5 Hd Kd HS2 HL'
      go_wp2_with fail
      go_roundw
      case rel => exact ⟨i + 1, o ++ [x], by omega, by go_num, HS3, Lib.hid (by have := HFL.out; rw [List.length_append]; omega), H5, K5⟩
      case measure => simp [intOf]; omega
    ·obtain rfl : i = N := by omega
     have e0 : decide (i < i) = false := by simp
     have HE : Hid (copyF dist bs most s out p = (o, q3, 0)) := Lib.hid (by rw [HC4.out, HS2.out, Nat.sub_self, layN, if_neg (by simp)])
     clear HS2 HC4
     go_wp2_with fail
     go_ret
     exact part_ok HE.out H.out K.out
end Go.Proofs.YtghjlpechjggjaaGreatDoor
namespace Go.Proofs.YtghjlpechjggjaaGreatDoor
open Go.RowKit
theorem KT.below {g gr : Nat} {w w' : World} (h : Below w.heap.size w w') : KT g gr w w' := KT.of_keeps (Keeps.of_below h (S := [])) (by simp)
theorem symbols_calls (w : World) (g gr : Nat) (A : Option Addr) (c : Nat) (bs : List Int) (p most : Nat) (out lit dist : List Int) (A1 A2 : Option Addr) (n1 n2 c1 c2 : Nat) (h : IR w g gr A c bs p most out)
  (hl : RI .i64 w A1 n1 lit) (hd : RI .i64 w A2 n2 dist) (hn1 : n1 ≤ 288) (hn2 : 1 ≤ n2) (hn3 : n2 ≤ 288) (hc1 : checkF lit = 0) (hc2 : anyUsed dist = true → checkF dist = 0) :
  Calls Tryz.prog 144 #[.pointer (some ⟨g, 0, none⟩), .slice A1 n1 c1, .slice A2 n2 c2] w (Part w g gr A c bs most (symF lit dist bs most (8 * bs.length + 1) out p)) := by
 have H := Lib.hid h
 have HL := Lib.hid hl
 have HDI := Lib.hid hd
 have HC1 := Lib.hid hc1
 have HC2 := Lib.hid hc2
 have hgr := h.lt
 have HN1 := Lib.hid hl.len
 have HN2 := Lib.hid hd.len
 clear h hl hd hc1 hc2
 go_enter Tryz.func144, Tryz.ntmps144
 go_wp2_with fail
 go_step3
 go_wp2_with fail
 refine (new_calls w A1 n1 c1 lit HL.out (by omega)).mono ?_
 rintro _ w1 ⟨hb, hm⟩
 rw [if_pos HC1.out] at hm
 obtain ⟨dl, rfl, hdl, hdlg⟩ := hm
 have hg1 := H.out.glt
 have hk1 := Keeps.of_below hb (S := [])
 have H1 := Lib.hid (H.out.keeps hk1)
 have K1 : Hid (KT g gr w w1) := Lib.hid (KT.below hb)
 have HDL := Lib.hid hdl
 have HD1 := Lib.hid (HDI.out.keeps hk1 (off_nil _))
 have hgdl : g < dl := by omega
 clear hb hk1 H HL HDI hdl hdlg hg1
 go_wp2_with fail
 refine (iused_calls w1 A2 n2 c2 dist HD1.out hn2 (by omega)).mono ?_
 rintro _ w2 ⟨rfl, hd2⟩
 have hk2 := hd2.keeps (S := [])
 have H2 := Lib.hid (H1.out.keeps hk2)
 have K2 := Lib.hid (K1.out.trans (KT.of_keeps hk2 (by simp)))
 have HDL2 := Lib.hid (dec_kt HDL.out (KT.of_keeps (g := g) (gr := gr) hk2 (by simp)) hgdl hgr)
 have HD2 := Lib.hid (HD1.out.keeps hk2 (off_nil _))
 clear hd2 hk2 H1 K1 HDL HD1
 obtain ⟨u, hu⟩ : ∃ u, u = anyUsed dist := ⟨_, rfl⟩
 have HU := Lib.hid hu
 rw [← hu]
 clear hu
 go_upto_if 18 with (fail)
 go_cut [9] (fun v9 wc => ∃ D : Option Addr, v9 = .pointer D ∧ Hid (DistD wc g dist D) ∧ Hid (IR wc g gr A c bs p most out) ∧ Hid (KT g gr w wc) ∧ Hid (Dec wc dl lit))
 case first =>
  cases u with
  | false =>
   go_wp2_with fail
   go_meet
   exact ⟨none, rfl, Lib.hid ⟨by rw [HN2.out]; exact hn3, .inl ⟨HU.out.symm, rfl⟩⟩, H2, K2, HDL2⟩
  | true =>
   go_wp2_with fail
   refine (new_calls w2 A2 n2 c2 dist HD2.out (by omega)).mono ?_
   rintro _ w3 ⟨hb, hm⟩
   rw [if_pos (HC2.out HU.out.symm)] at hm
   obtain ⟨dd, rfl, hdd, hddg⟩ := hm
   have hg2 := H2.out.glt
   have hk3 := Keeps.of_below hb (S := [])
   have H3 := Lib.hid (H2.out.keeps hk3)
   have K3 := Lib.hid (K2.out.trans (KT.below hb))
   have HDD := Lib.hid hdd
   have HDL3 := Lib.hid (dec_kt HDL2.out (KT.below (g := g) (gr := gr) hb) hgdl hgr)
   clear hb hk3 H2 K2 HDL2 HD2 hdd
   go_wp2_with fail
   go_meet
   exact ⟨some ⟨dd, 0, none⟩, rfl, Lib.hid ⟨by rw [HN2.out]; exact hn3, .inr ⟨HU.out.symm, dd, rfl, by omega, HDD.out⟩⟩, H3, K3, HDL3⟩
 case rest =>
  obtain ⟨D, rfl, HDD, H3, K3, HDL3⟩ := hcut
  clear H2 K2 HDL2 HD2 HU HC2
  go_wp2_with fail
  go_step3
  go_wp2_with fail
  go_loopg [11] (8 * bs.length + 1) (fun k v11 wr => ∃ (q : Nat) (o : List Int), 8 * bs.length - q < k ∧ Hid (q ≤ 8 * bs.length) ∧ Hid (symF lit dist bs most (8 * bs.length + 1) out p = symF lit dist bs most k o q) ∧ Hid (IR wr g gr A c bs q most o) ∧ Hid (DistD wr g dist D) ∧ Hid (Dec wr dl lit) ∧ Hid (KT g gr w wr))
  case atStart => exact ⟨p, out, by omega, Lib.hid H3.out.rd.le, Lib.hid rfl, H3, HDD, HDL3, K3⟩
  case round =>
   clear HDD H3 K3 HDL3
   obtain ⟨q, o, hk, HQ, HS, H, HDD, HDL, K⟩ := hrel
   obtain ⟨f, rfl⟩ : ∃ f, gk = f + 1 := ⟨gk - 1, by omega⟩
   obtain ⟨c0, -⟩ := H.out.cells
   go_wp2_with fail
   refine (nextN_calls wr dl gr lit A c bs q (HDL.out.apart (by omega)) H.out.rd (by rw [HN1.out]; exact hn1)).mono ?_
   rintro _ w2 ⟨rfl, hr2, hk2⟩
   have hkt := KT.of_keeps (g := g) (gr := gr) hk2 (fun x hx => .inr (List.mem_singleton.1 hx))
   have H2 := Lib.hid (H.out.read hr2 hk2)
   have K2 := Lib.hid (K.out.trans hkt)
   have HDD2 := Lib.hid (HDD.out.kt hkt hgr)
   have HDL2 := Lib.hid (dec_kt HDL.out hkt hgdl hgr)
   have hbd := dec_bd lit bs q HQ.out
   have hadv := dec_adv lit bs q HQ.out
   have HS2 : Hid (symF lit dist bs most (8 * bs.length + 1) out p = if (decF lit bs q).2.1 ≠ 0 then (o, 0, endF (decF lit bs q).2.1 53)
    else if (decF lit bs q).1 = 256 then (o, q + (decF lit bs q).2.2, 0)
    else if (decF lit bs q).1 < 256 then
     if most ≤ o.length then (o, 0, 56) else symF lit dist bs most f (o ++ [(decF lit bs q).1]) (q + (decF lit bs q).2.2)
    else if (copyF dist bs most (decF lit bs q).1.toNat o (q + (decF lit bs q).2.2)).2.2 ≠ 0 then copyF dist bs most (decF lit bs q).1.toNat o (q + (decF lit bs q).2.2)
    else symF lit dist bs most f (copyF dist bs most (decF lit bs q).1.toNat o (q + (decF lit bs q).2.2)).1 (copyF dist bs most (decF lit bs q).1.toNat o (q + (decF lit bs q).2.2)).2.1) := Lib.hid (by rw [HS.out, symF])
   clear hr2 hk2 hkt H K c0 HDD HDL HS
   generalize decF lit bs q = dr at *
   obtain ⟨sy, er, nn⟩ := dr
   simp only [] at H2 hbd hadv HS2 ⊢
   rcases hbd with ⟨rfl, d, rfl, hdl2, hq2⟩ | ⟨her, rfl, rfl⟩
   rotate_left
   ·have HR : Hid (symF lit dist bs most (8 * bs.length + 1) out p = (o, 0, endF er 53)) := Lib.hid (by rw [HS2.out, if_pos her])
    have HNE : Hid (endF er 53 ≠ 0) := Lib.hid (fun h => her (endF_zero (by decide) h))
    have e5 : (er != 0) = true := by simpa using her
    clear her HS2 hadv
    go_wp2_with fail
    refine (end_calls w2 er 53).mono ?_
    rintro _ w3 ⟨rfl, hd⟩
    have H3 := Lib.hid (H2.out.keeps (hd.keeps (S := [])))
    have K3 := Lib.hid (K2.out.trans (KT.of_keeps (hd.keeps (S := [])) (by simp)))
    clear hd H2 K2
    generalize endF er 53 = y at *
    go_wp2_with fail
    rw [Exit.noGoto_ret]
    go_ret
    exact part_err HR.out HNE.out H3.out K3.out
   obtain ⟨hn1', -, -, -⟩ := hadv rfl
   rw [Int.toNat_natCast] at HS2
   have hdl3 : d < 288 := by rw [HN1.out] at hdl2; omega
   have HQ2 : Hid (q + nn ≤ 8 * bs.length) := Lib.hid hq2
   clear hadv hdl2 hq2
   by_cases h256 : d = 256
   ·subst h256
    have HR : Hid (symF lit dist bs most (8 * bs.length + 1) out p = (o, q + nn, 0)) := Lib.hid (by rw [HS2.out, if_neg (by simp), if_pos (by decide)])
    have e6 : (((256 : Nat) : Int) == 256) = true := by decide
    clear HS2
    go_wp2_with fail
    rw [Exit.noGoto_ret]
    go_ret
    exact part_ok HR.out H2.out K2.out
   have e6 : ((d : Int) == 256) = false := by simp; omega
   by_cases hlt : d < 256
   ·have e7 : decide (d < 256) = true := by simpa using hlt
    have e7' : decide ((d : Int) < 256) = true := by simp; omega
    have s1 : IntKind.u8.wrap (d : Int) = d := by rw [IntKind.wrap_u8]; omega
    have HS3 := Lib.hid (HS2.out.trans (by rw [if_neg (by simp), if_neg (by omega), if_pos (by omega)]))
    clear HS2
    go_wp2_with fail
    refine (lay_calls w2 g gr A c bs (q + nn) most o d H2.out).mono ?_
    rintro _ w3 (⟨hm, rfl, h3, k3⟩ | ⟨hm, rfl, h3, k3⟩)
    ·have H3 := Lib.hid h3
     have K3 := Lib.hid (K2.out.trans k3)
     have HE : Hid (symF lit dist bs most (8 * bs.length + 1) out p = (o, 0, 56)) := Lib.hid (by rw [HS3.out, if_pos hm])
     clear h3 k3 H2 K2 HS3
     go_wp2_with fail
     rw [Exit.noGoto_ret]
     go_ret
     exact part_err HE.out (by decide) H3.out K3.out
    ·have H3 := Lib.hid h3
     have K3 := Lib.hid (K2.out.trans k3)
     have HE : Hid (symF lit dist bs most (8 * bs.length + 1) out p = symF lit dist bs most f (o ++ [(d : Int)]) (q + nn)) := Lib.hid (by rw [HS3.out, if_neg (by omega)])
     have HDD3 := Lib.hid (HDD2.out.kt k3 hgr)
     have HDL3 := Lib.hid (dec_kt HDL2.out k3 hgdl hgr)
     clear h3 k3 H2 K2 HS3 HDD2 HDL2
     go_wp2_with fail
     go_roundg f
     case measure => omega
     case rel => exact ⟨q + nn, o ++ [(d : Int)], by have := HQ2.out; omega, HQ2, HE, H3, HDD3, HDL3, K3⟩
   ·have e7 : decide (d < 256) = false := by simpa using hlt
    have e7' : decide ((d : Int) < 256) = false := by simp; omega
    have HS3 := Lib.hid (HS2.out.trans (by rw [if_neg (by simp), if_neg (by omega), if_neg (by omega)]))
    clear HS2
    go_wp2_with fail
    refine (copies_calls w2 g gr A c bs (q + nn) most o dist d D H2.out HDD2.out (by omega) (by omega)).mono ?_
    rintro _ w3 ⟨q3, rfl, h3, k3, hq3⟩
    have HP := Lib.hid (copyF_pos dist bs most d o (q + nn) HQ2.out)
    have H3 := Lib.hid h3
    have K3 := Lib.hid (K2.out.trans k3)
    have HDD3 := Lib.hid (HDD2.out.kt k3 hgr)
    have HDL3 := Lib.hid (dec_kt HDL2.out k3 hgdl hgr)
    have HQ3 := Lib.hid hq3
    clear h3 k3 H2 K2 HDD2 HDL2 hq3
    generalize copyF dist bs most d o (q + nn) = cr at *
    obtain ⟨o3, p3, er⟩ := cr
    simp only [] at HP H3 HQ3 HS3 ⊢
    by_cases her : er = 0
    ·subst her
     obtain ⟨a1, a2⟩ := HP.out rfl
     obtain rfl := HQ3.out rfl
     have HE : Hid (symF lit dist bs most (8 * bs.length + 1) out p = symF lit dist bs most f o3 q3) := Lib.hid (by rw [HS3.out, if_neg (by simp)])
     clear HS3 HP HQ3
     go_wp2_with fail
     go_roundg f
     case measure => omega
     case rel => exact ⟨q3, o3, by have := HQ2.out; omega, Lib.hid a2, HE, H3, HDD3, HDL3, K3⟩
    ·have e8 : (er != 0) = true := by simpa using her
     have HE : Hid (symF lit dist bs most (8 * bs.length + 1) out p = (o3, p3, er)) := Lib.hid (by rw [HS3.out, if_pos her])
     have HER := Lib.hid her
     clear HS3 HP HQ3 her
     go_wp2_with fail
     rw [Exit.noGoto_ret]
     go_ret
     exact ⟨q3, by rw [HE.out]; rfl, by rw [HE.out]; exact H3.out, K3.out, fun h => by rw [HE.out] at h; exact absurd h HER.out⟩
end Go.Proofs.YtghjlpechjggjaaGreatDoor
namespace Go.Proofs.YtghjlpechjggjaaGreatDoor
open Go.RowKit
theorem blocks_calls (w : World) (g gr : Nat) (A : Option Addr) (c : Nat) (bs : List Int) (p most : Nat) (out : List Int) (hT : Tabs w) (hg : gtop ≤ gr) (h : IR w g gr A c bs p most out) :
  Calls Tryz.prog 128 #[.pointer (some ⟨g, 0, none⟩)] w (Part w g gr A c bs most (blksF bs most (8 * bs.length + 1) out p)) := by
 have H := Lib.hid h
 have HT := Lib.hid hT
 have hgr := h.lt
 clear h hT
 go_enter Tryz.func128, Tryz.ntmps128
 go_wp2_with fail
 go_step3
 go_wp2_with fail
 go_step3
 go_wp2_with fail
 go_loopg [9] (8 * bs.length + 1) (fun k v9 wr => ∃ (q : Nat) (o : List Int), 8 * bs.length - q < k ∧ Hid (q ≤ 8 * bs.length) ∧ Hid (blksF bs most (8 * bs.length + 1) out p = blksF bs most k o q) ∧ Hid (IR wr g gr A c bs q most o) ∧ Hid (KT g gr w wr))
 case atStart => exact ⟨p, out, by omega, Lib.hid H.out.rd.le, Lib.hid rfl, H, Lib.hid (KT.refl _ _ _)⟩
 case round =>
  clear H
  obtain ⟨q, o, hk, HQ, HS, H, K⟩ := hrel
  obtain ⟨f, rfl⟩ : ∃ f, gk = f + 1 := ⟨gk - 1, by omega⟩
  have HS2 : Hid (blksF bs most (8 * bs.length + 1) out p = if 8 * bs.length < q + 1 then (o, 0, 55)
   else if 8 * bs.length < q + 3 then (o, 0, 55)
   else if (blockF bs most (numB bs (q + 1) 2) o (q + 3)).2.2 ≠ 0 then blockF bs most (numB bs (q + 1) 2) o (q + 3)
   else if numB bs q 1 = 0 then blksF bs most f (blockF bs most (numB bs (q + 1) 2) o (q + 3)).1 (blockF bs most (numB bs (q + 1) 2) o (q + 3)).2.1
   else blockF bs most (numB bs (q + 1) 2) o (q + 3)) := Lib.hid (by rw [HS.out, blksF])
  clear HS
  go_wp2_with fail
  refine (itake_calls wr g gr A c bs q most o 1 H.out (by omega)).mono ?_
  rintro _ w1 (⟨hf, rfl, h1, k1⟩ | ⟨hf, rfl, h1, k1⟩)
  rotate_left
  ·have H1 := Lib.hid h1
   have K1 := Lib.hid (K.out.trans k1)
   have HE : Hid (blksF bs most (8 * bs.length + 1) out p = (o, 0, 55)) := Lib.hid (by rw [HS2.out, if_pos hf])
   clear h1 k1 H K HS2
   go_wp2_with fail
   rw [Exit.noGoto_ret]
   go_ret
   exact part_err HE.out (by decide) H1.out K1.out
  have H1 := Lib.hid h1
  have K1 := Lib.hid (K.out.trans k1)
  clear h1 k1 H K
  obtain ⟨l0, l1⟩ := numB_lt bs q 1
  rw [show (2 : Int) ^ 1 = 2 from rfl] at l1
  obtain ⟨la, hla⟩ : ∃ la, la = numB bs q 1 := ⟨_, rfl⟩
  rw [← hla] at l0 l1 HS2 ⊢
  clear hla
  go_wp2_with fail
  refine (itake_calls w1 g gr A c bs (q + 1) most o 2 H1.out (by omega)).mono ?_
  rintro _ w2 (⟨hf2, rfl, h2, k2⟩ | ⟨hf2, rfl, h2, k2⟩)
  rotate_left
  ·have H2 := Lib.hid h2
   have K2 := Lib.hid (K1.out.trans k2)
   have HE : Hid (blksF bs most (8 * bs.length + 1) out p = (o, 0, 55)) := Lib.hid (by rw [HS2.out, if_neg (by omega), if_pos (by omega)])
   clear h2 k2 H1 K1 HS2
   go_wp2_with fail
   rw [Exit.noGoto_ret]
   go_ret
   exact part_err HE.out (by decide) H2.out K2.out
  have H2 := Lib.hid h2
  have K2 := Lib.hid (K1.out.trans k2)
  have HT2 := Lib.hid (tabs_kt HT.out K2.out hg hgr)
  clear h2 k2 H1 K1
  obtain ⟨n0, n1⟩ := numB_lt bs (q + 1) 2
  rw [show (2 : Int) ^ 2 = 4 from rfl] at n1
  obtain ⟨ki, hki⟩ : ∃ ki, ki = numB bs (q + 1) 2 := ⟨_, rfl⟩
  rw [← hki] at n0 n1 HS2 ⊢
  clear hki
  have HS3 := Lib.hid (HS2.out.trans (by rw [if_neg (by omega), if_neg (by omega)]))
  have HQ3 : Hid (q + 3 ≤ 8 * bs.length) := Lib.hid (by omega)
  clear HS2
  go_upto_block 2 with (fail)
  have HB : Hid (blockF bs most ki o (q + 3) = if ki = 0 then storedF bs most o (q + 3)
   else if ki = 1 then symF fixLit fixDist bs most (8 * bs.length + 1) o (q + 3)
   else if ki = 2 then
    if codesE (headF bs (q + 3)) ≠ 0 then (o, 0, codesE (headF bs (q + 3)))
    else symF (headF bs (q + 3)).1 (headF bs (q + 3)).2.1 bs most (8 * bs.length + 1) o (q + 3 + (headF bs (q + 3)).2.2.1)
   else (o, 0, 50)) := Lib.hid rfl
  obtain ⟨br, hbr⟩ : ∃ br, br = blockF bs most ki o (q + 3) := ⟨_, rfl⟩
  have HP : Hid (br.2.2 = 0 → q + 3 ≤ br.2.1 ∧ br.2.1 ≤ 8 * bs.length) := Lib.hid (fun h => by rw [hbr] at h ⊢; exact blockF_pos bs most ki o (q + 3) HQ3.out h)
  rw [← hbr] at HB HS3
  clear hbr
  go_cut [4] (fun v4 wc => ∃ q', v4 = .int .i64 br.2.2 ∧ Hid (br.2.2 = 0 → q' = br.2.1) ∧ Hid (IR wc g gr A c bs q' most br.1) ∧ Hid (KT g gr w wc))
  case first =>
   clear HS3 HP
   by_cases h0 : ki = 0
   ·subst h0
    have HB0 := Lib.hid (HB.out.trans (if_pos rfl))
    clear HB
    go_wp2_with fail
    refine (stored_calls w2 g gr A c bs (q + 1 + 2) most o H2.out).mono ?_
    rintro _ w3 ⟨q', rfl, h3, k3, hq3⟩
    have H3 := Lib.hid h3
    have K3 := Lib.hid (K2.out.trans k3)
    have HQ' := Lib.hid hq3
    clear h3 k3 hq3 H2 K2
    rw [show q + 1 + 2 = q + 3 by omega, ← HB0.out] at H3 HQ' ⊢
    generalize br.2.2 = er at *
    go_wp2_with fail
    go_meet
    exact ⟨q', rfl, HQ', H3, K3⟩
   have e0 : (ki == 0) = false := by simpa using h0
   have e0' : decide (ki = 0) = false := by simpa using h0
   by_cases h1 : ki = 1
   ·subst h1
    have HB0 := Lib.hid (HB.out.trans ((if_neg (by decide)).trans (if_pos rfl)))
    clear HB
    go_wp2_with fail
    refine (fixed_calls w2).mono ?_
    rintro _ w3 ⟨v1, g2, rfl, ho1, hb2, hg2, hw3⟩
    have hk3 := Keeps.of_below hw3 (S := [])
    have H3 := Lib.hid (H2.out.keeps hk3)
    have K3 := Lib.hid (K2.out.trans (KT.below hw3))
    obtain ⟨A1, c1, rfl, hri1, -, -⟩ := own_ri ho1
    have hri2 : RI .i64 w3 (some ⟨g2, 0, none⟩) 32 fixDist := by
     have := Blk.ri (xs := fixDist) (ys := []) (k := .i64) (by simpa using hb2)
     rwa [fix_info.2.2.2.2] at this
    have HR1 := Lib.hid hri1
    have HR2 := Lib.hid hri2
    clear ho1 hb2 hg2 hw3 hk3 hri1 hri2 H2 K2
    go_wp2_with fail
    refine (symbols_calls w3 g gr A c bs (q + 1 + 2) most o fixLit fixDist A1 (some ⟨g2, 0, none⟩) 288 32 c1 32 H3.out HR1.out HR2.out (by omega) (by omega) (by omega) fix_info.1 (fun _ => fix_info.2.1)).mono ?_
    rintro _ w4 ⟨q', rfl, h4, k4, hq4⟩
    have H4 := Lib.hid h4
    have K4 := Lib.hid (K3.out.trans k4)
    have HQ' := Lib.hid hq4
    clear h4 k4 hq4 H3 K3 HR1 HR2
    rw [show q + 1 + 2 = q + 3 by omega, ← HB0.out] at H4 HQ' ⊢
    generalize br.2.2 = er at *
    go_wp2_with fail
    go_meet
    exact ⟨q', rfl, HQ', H4, K4⟩
   have e1 : (ki == 1) = false := by simpa using h1
   have e1' : decide (ki = 1) = false := by simpa using h1
   by_cases h2 : ki = 2
   ·subst h2
    have HB0 := Lib.hid (HB.out.trans ((if_neg (by decide)).trans ((if_neg (by decide)).trans (if_pos rfl))))
    clear HB
    go_wp2_with fail
    refine (head_calls w2 g gr A c bs (q + 1 + 2) most o HT2.out hg H2.out).mono ?_
    have hfull := @head_full bs (q + 1 + 2)
    rw [show q + 1 + 2 = q + 3 by omega] at hfull ⊢
    have hl1 := litF_le bs (q + 3)
    have hl2 := distF_le bs (q + 3)
    have hl3 : 1 ≤ distF bs (q + 3) := by unfold distF; omega
    rintro _ w3 (⟨hne, q', rfl, h3, k3⟩ | ⟨heq, v1, v2, rfl, ho1, ho2, h3, k3⟩)
    ·have H3 := Lib.hid h3
     have K3 := Lib.hid (K2.out.trans k3)
     have HB1 := Lib.hid (HB0.out.trans (if_pos hne))
     have HNE : Hid (br.2.2 ≠ 0) := Lib.hid (by rw [HB1.out]; exact hne)
     have e2 : (codesE (headF bs (q + 3)) == 0) = false := by simpa using hne
     have hbe : codesE (headF bs (q + 3)) = br.2.2 := by rw [HB1.out]
     have hbo : o = br.1 := by rw [HB1.out]
     rw [hbo] at H3
     rw [hbe] at e2 ⊢
     clear h3 k3 H2 K2 HB0 HB1 hne hbe hbo hfull
     generalize br.2.2 = er at *
     go_wp2_with fail
     go_meet
     exact ⟨q', rfl, Lib.hid (fun h => absurd h HNE.out), H3, K3⟩
    ·have HB1 := Lib.hid (HB0.out.trans (if_neg (by rw [heq]; simp)))
     obtain ⟨hz, hck1, hck2⟩ := codesE_ok heq
     obtain ⟨hf1, hf2⟩ := hfull hz
     have H3 := Lib.hid h3
     have K3 := Lib.hid (K2.out.trans k3)
     obtain ⟨A1, c1, rfl, hri1, -, -⟩ := own_ri ho1
     obtain ⟨A2, c2, rfl, hri2, -, -⟩ := own_ri ho2
     have HR1 := Lib.hid hri1
     have HR2 := Lib.hid hri2
     have HCK1 := Lib.hid hck1
     have HCK2 := Lib.hid hck2
     have b1 : (headF bs (q + 3)).1.length ≤ 288 := by omega
     have b2 : 1 ≤ (headF bs (q + 3)).2.1.length := by omega
     have b3 : (headF bs (q + 3)).2.1.length ≤ 288 := by omega
     clear h3 k3 H2 K2 HB0 ho1 ho2 hri1 hri2 hfull hck1 hck2 hz heq hf1 hf2
     generalize headF bs (q + 3) = hd at *
     obtain ⟨L1, L2, nn, er0⟩ := hd
     simp only [] at H3 HR1 HR2 HCK1 HCK2 b1 b2 b3 HB1 ⊢
     obtain ⟨n1, hn1⟩ : ∃ n, n = L1.length := ⟨_, rfl⟩
     obtain ⟨n2, hn2⟩ : ∃ n, n = L2.length := ⟨_, rfl⟩
     rw [← hn1] at b1 HR1 ⊢
     rw [← hn2] at b2 b3 HR2 ⊢
     clear hn1 hn2
     go_wp2_with fail
     refine (symbols_calls w3 g gr A c bs (q + 3 + nn) most o L1 L2 A1 A2 n1 n2 c1 c2 H3.out HR1.out HR2.out b1 b2 b3 HCK1.out HCK2.out).mono ?_
     rintro _ w4 ⟨q', rfl, h4, k4, hq4⟩
     have H4 := Lib.hid h4
     have K4 := Lib.hid (K3.out.trans k4)
     have HQ' := Lib.hid hq4
     clear h4 k4 hq4 H3 K3 HR1 HR2
     rw [← HB1.out] at H4 HQ' ⊢
     generalize br.2.2 = er at *
     go_wp2_with fail
     go_meet
     exact ⟨q', rfl, HQ', H4, K4⟩
   ·obtain rfl : ki = 3 := by omega
    have HB0 := Lib.hid (HB.out.trans ((if_neg (by decide)).trans ((if_neg (by decide)).trans (if_neg (by decide)))))
    have hbo : o = br.1 := by rw [HB0.out]
    have hbe : (50 : Int) = br.2.2 := by rw [HB0.out]
    have HBE := Lib.hid hbe
    rw [hbo] at H2
    clear HB hbo hbe
    go_wp2_with fail
    go_meet
    exact ⟨_, by rw [← HBE.out], Lib.hid (fun h => by have := HBE.out; omega), H2, K2⟩
  case rest =>
   obtain ⟨q', rfl, HQ', H3, K3⟩ := hcut
   clear H2 K2 HB
   obtain ⟨o3, p3, er⟩ := br
   simp only [] at HQ' H3 HP HS3 ⊢
   by_cases her : er = 0
   ·subst her
    obtain ⟨a1, a2⟩ := HP.out rfl
    obtain rfl := HQ'.out rfl
    have HS4 : Hid (blksF bs most (8 * bs.length + 1) out p = if la = 0 then blksF bs most f o3 q' else (o3, q', 0)) := Lib.hid (by rw [HS3.out, if_neg (by simp)])
    clear HS3 HP HQ'
    by_cases hla : la = 0
    ·subst hla
     have HE := Lib.hid (HS4.out.trans (if_pos rfl))
     clear HS4
     go_wp2_with fail
     go_roundg f
     case measure => omega
     case rel => exact ⟨q', o3, by omega, Lib.hid a2, HE, H3, K3⟩
    ·have e5 : (la == 0) = false := by simpa using hla
     have HE := Lib.hid (HS4.out.trans (if_neg hla))
     clear HS4 hla
     go_wp2_with fail
     rw [Exit.noGoto_ret]
     go_ret
     exact part_ok HE.out H3.out K3.out
   ·have e5 : (er != 0) = true := by simpa using her
    have HE : Hid (blksF bs most (8 * bs.length + 1) out p = (o3, p3, er)) := Lib.hid (by rw [HS3.out, if_pos her])
    have HER := Lib.hid her
    clear HS3 HP HQ' her
    go_wp2_with fail
    rw [Exit.noGoto_ret]
    go_ret
    exact ⟨q', by rw [HE.out]; rfl, by rw [HE.out]; exact H3.out, K3.out, fun h => by rw [HE.out] at h; exact absurd h HER.out⟩
end Go.Proofs.YtghjlpechjggjaaGreatDoor
namespace Go.Proofs.YtghjlpechjggjaaGreatDoor
open Go.RowKit
def ReadI (w : World) (bs : List Int) (most : Nat) (r : IRes) (e : Ending) (w' : World) : Prop :=
 ∃ g gr A c q, e = .returned (.tuple #[.pointer (some ⟨g, 0, none⟩), .int .i64 r.2.2]) ∧ IR w' g gr A c bs q most r.1 ∧ (r.2.2 = 0 → q = r.2.1) ∧ w.heap.size ≤ gr ∧ (∀ a, A = some a → gr < a.block) ∧ Below w.heap.size w w'
theorem iread_calls (w : World) (A : Option Addr) (n c : Nat) (bs : List Int) (most : Nat) (hT : Tabs w) (hr : RI .u8 w A n bs) (hnil : A = none → n = 0 ∧ c = 0) (hbyte : ∀ j, 0 ≤ nth bs j ∧ nth bs j ≤ 255) (hn : n ≤ 4000000000) (hm : most ≤ 16384) :
  Calls Tryz.prog 106 #[.slice A n c, .int .i64 most] w (ReadI w bs most (inflF bs most)) := by
 have HR := Lib.hid hr
 have HN := Lib.hid hnil
 have HT := Lib.hid hT
 have HBY := Lib.hid hbyte
 have HTS := Lib.hid hT.size
 clear hr hnil hT hbyte
 go_enter Tryz.func106, Tryz.ntmps106
 go_wp2_with fail
 refine (newReader_calls w A n c bs HR.out HN.out HBY.out hn).mono ?_
 rintro _ w1 ⟨gr, A1, c1, rfl, hrd, hgr, hA1, hb1⟩
 have hk1 := Keeps.of_below hb1 (S := [])
 have HK1 := Lib.hid hk1
 have HT1 := Lib.hid (HT.out.keeps hk1 (by simp))
 have HRD := Lib.hid hrd
 have HA1 := Lib.hid hA1
 have hgl := hrd.lt
 clear hrd hA1 hb1 hk1 HR HN HBY
 obtain ⟨g, hg⟩ : ∃ g, g = w1.heap.size := ⟨_, rfl⟩
 obtain ⟨w2, hw2⟩ : ∃ w2, w2 = w1.alloc (.cells #[.pointer (some ⟨gr, 0, none⟩), .slice none 0 0, .int .i64 most] 178) := ⟨_, rfl⟩
 have hk2 : Keeps [] w1 w2 := by rw [hw2]; exact (Keeps.refl [] w1).alloc _
 have hb2 : Blk w2 g 178 [.pointer (some ⟨gr, 0, none⟩), .slice none 0 0, .int .i64 most] := by rw [hw2, hg]; exact blk_new w1 _ _
 have HI : Hid (IR w2 g gr A1 c1 bs 0 most []) := Lib.hid ⟨HRD.out.dr hk2, ⟨_, hb2, World.ownsRow_nil _ _ _ _⟩, by omega, fun a ha => by have := (HA1.out a ha).2; omega, by simp, hm, u8_same hb2 (AllU8.nil _)⟩
 have HT2 := Lib.hid (HT1.out.keeps hk2 (by simp))
 have HK2 := Lib.hid (HK1.out.trans hk2)
 have HGS : Hid (w2.heap.size = g + 1) := Lib.hid (by rw [hw2, hg]; simp)
 have HG : Hid (w.heap.size ≤ gr ∧ gr < g) := Lib.hid ⟨hgr, by omega⟩
 have HAG : Hid (∀ a, A1 = some a → gr < a.block) := Lib.hid (fun a ha => (HA1.out a ha).1)
 have hgt : gtop ≤ gr := by have := HTS.out; omega
 go_upto_region 2 with (fail)
 rw [← hw2, ← hg]
 clear hw2 hg hk2 hb2 HRD HA1 HT1 HK1 hgl hgr
 go_wp2_with fail
 refine (blocks_calls w2 g gr A1 c1 bs 0 most [] HT2.out hgt HI.out).mono ?_
 rintro _ w3 ⟨q, rfl, h3, k3, hq⟩
 rw [show blksF bs most (8 * bs.length + 1) [] 0 = inflF bs most from rfl] at h3 hq ⊢
 have H3 := Lib.hid h3
 have hgg := HG.out
 have hk3 : Keeps [] w w3 := by
  have hs := HK2.out.size
  exact ⟨k3.os.trans HK2.out.os, k3.tape.trans HK2.out.tape, k3.output.trans HK2.out.output, Nat.le_trans HK2.out.size k3.size, fun k hk _ => (k3.same k (by omega) (by omega) (by omega) (.inl (by omega))).trans (HK2.out.block k hk (by simp))⟩
 have HK3 := Lib.hid hk3
 have HQ := Lib.hid hq
 clear h3 k3 hq hk3 HI HK2 hgg
 generalize hir : inflF bs most = ir at *
 obtain ⟨o3, p3, er⟩ := ir
 simp only [] at H3 HQ ⊢
 have HIR := Lib.hid hir
 clear hir
 go_wp2_with fail
 go_ret2
 exact ⟨g, gr, A1, c1, q, rfl, H3.out, HQ.out, HG.out.1, HAG.out, HK3.out.below⟩
theorem inflateU_calls (w : World) (A : Option Addr) (n c : Nat) (bs : List Int) (most : Int) (hT : Tabs w) (hr : RI .u8 w A n bs) (hnil : A = none → n = 0 ∧ c = 0) (hbyte : ∀ j, 0 ≤ nth bs j ∧ nth bs j ≤ 255) (hn : n ≤ 4000000000) :
  Calls Tryz.prog 77 #[.slice A n c, .int .i64 most] w fun e w' => ∃ v, e = .returned (.tuple #[v, .int .i64 ((inflR bs most).2.1 : Nat), .int .i64 (inflR bs most).2.2]) ∧
   w'.ownsRow w.heap.size 5 1 v (inflR bs most).1.length (ints .u8 (inflR bs most).1) ∧ Below w.heap.size w w' ∧ AllU8 w' v := by
 have HR := Lib.hid hr
 have HN := Lib.hid hnil
 have HT := Lib.hid hT
 have HBY := Lib.hid hbyte
 have HRL := Lib.hid hr.len
 clear hr hnil hT hbyte
 go_enter Tryz.func77, Tryz.ntmps77
 by_cases h0 : most < 0
 ·have e0 : decide (most < 0) = true := by simpa using h0
  have HE : Hid (inflR bs most = ([], 0, 1)) := Lib.hid (by unfold inflR; rw [if_pos (.inl h0)])
  clear h0
  go_wp2_with fail
  go_ret3
  rw [HE.out]
  exact ⟨_, rfl, World.ownsRow_nil _ _ _ _, Below.refl _ _, AllU8.nil _⟩
 have e0 : decide (most < 0) = false := by simpa using h0
 by_cases h1 : 16384 < most
 ·have e1 : decide (16384 < most) = true := by simpa using h1
  have HE : Hid (inflR bs most = ([], 0, 1)) := Lib.hid (by unfold inflR; rw [if_pos (.inr h1)])
  clear h1
  go_wp2_with fail
  go_ret3
  rw [HE.out]
  exact ⟨_, rfl, World.ownsRow_nil _ _ _ _, Below.refl _ _, AllU8.nil _⟩
 have e1 : decide (16384 < most) = false := by simpa using h1
 obtain ⟨m, rfl⟩ := Int.eq_ofNat_of_zero_le (show 0 ≤ most by omega)
 have hm : m ≤ 16384 := by omega
 have HE : Hid (inflR bs (m : Nat) = if (inflF bs m).2.2 ≠ 0 then ([], 0, (inflF bs m).2.2) else ((inflF bs m).1, ((inflF bs m).2.1 + 7) / 8, 0)) := Lib.hid (by unfold inflR; rw [if_neg (by omega), Int.toNat_natCast])
 change Code.wp _ _ _ _ _
 go_wp2_with fail
 refine (iread_calls w A n c bs m HT.out HR.out HN.out HBY.out hn hm).mono ?_
 rintro _ w1 ⟨g, gr, A1, c1, q, rfl, hi, hq, hgr, -, hb⟩
 have HI := Lib.hid hi
 have HB := Lib.hid hb
 have HPOS := Lib.hid (fun h => inflF_pos bs m h)
 clear hb HR HN HT HBY h0 h1 e0 e1
 generalize inflF bs m = ir at *
 obtain ⟨o3, p3, er⟩ := ir
 simp only [] at HE HPOS hi hq HI ⊢
 by_cases her : er = 0
 ·subst her
  obtain rfl := hq rfl
  have HE1 := Lib.hid (HE.out.trans (if_neg (by simp)))
  have hp := HPOS.out rfl
  have hrl := HRL.out
  obtain ⟨vA, hblk, hown⟩ := hi.box
  obtain ⟨A2, c2, rfl, -, -, -⟩ := own_ri hown
  have k0 := hblk.cell 0
  have k1 := hblk.cell 1
  simp only [List.getElem?_cons_zero, List.getElem?_cons_succ] at k0 k1
  have HO := Lib.hid (hown.mono (show w.heap.size ≤ g + 1 by have := hi.lt; omega))
  have HU := Lib.hid (hi.u8v hblk)
  have hcl : ∀ j, Calls Tryz.prog 107 #[.pointer (some ⟨gr, 0, none⟩)] (w1.drewN j) fun e w' => e = .returned (.int .i64 q) ∧ ∃ m, w' = (w1.drewN j).drewN m := fun j => gone_calls (w1.drewN j) gr A1 c1 bs q (hi.rd.dr ((Keeps.refl [] w1).drewN j))
  have HCL := Lib.hid hcl
  have s1 : IntKind.i64.wrap ((q : Int) + 7) = (q : Int) + 7 := IntWalk.i64_in _ (by omega)
  obtain ⟨Q, hQ⟩ : ∃ Q, Q = (q + 7) / 8 := ⟨_, rfl⟩
  rw [← hQ] at HE1
  have s2 : ((q : Int) + 7).tdiv 8 = (Q : Int) := by rw [Int.tdiv_eq_ediv_of_nonneg (by omega)]; omega
  have s3 : IntKind.i64.wrap (Q : Int) = Q := IntWalk.i64_in _ (by omega)
  clear hQ
  clear HE hq hi hblk hown hcl HI HPOS hrl
  go_upto_region 6 with (fail)
  go_quiet (first | (go_at_call 107; exact Calls.quiet_of (HCL.out _)))
  go_wp2_with fail
  go_ret3
  rw [HE1.out]
  exact ⟨_, rfl, own_keeps HO.out ((Keeps.refl [] w1).drewN _) (by simp), HB.out.trans (below_lower ((Keeps.refl [] w1).drewN _).below HB.out.size), HU.out.keeps ((Keeps.refl [] w1).drewN _) (by simp)⟩
 ·have HE1 := Lib.hid (HE.out.trans (if_pos her))
  have e2 : (er != 0) = true := by simpa using her
  clear HE hq hi HI HPOS her
  go_wp2_with fail
  go_ret3
  rw [HE1.out]
  exact ⟨_, rfl, World.ownsRow_nil _ _ _ _, HB.out, AllU8.nil _⟩
theorem inflate_calls (w : World) (A : Option Addr) (n c : Nat) (bs : List Int) (most : Int) (hT : Tabs w) (hr : RI .u8 w A n bs) (hnil : A = none → n = 0 ∧ c = 0) (hbyte : ∀ j, 0 ≤ nth bs j ∧ nth bs j ≤ 255) (hn : n ≤ 4000000000) :
  Calls Tryz.prog 77 #[.slice A n c, .int .i64 most] w fun e w' => ∃ v, e = .returned (.tuple #[v, .int .i64 ((inflR bs most).2.1 : Nat), .int .i64 (inflR bs most).2.2]) ∧
   w'.ownsRow w.heap.size 5 1 v (inflR bs most).1.length (ints .u8 (inflR bs most).1) ∧ Below w.heap.size w w' :=
 (inflateU_calls w A n c bs most hT hr hnil hbyte hn).mono fun _ _ ⟨v, h1, h2, h3, _⟩ => ⟨v, h1, h2, h3⟩
end Go.Proofs.YtghjlpechjggjaaGreatDoor
namespace Go.Proofs.YtghjlpechjggjaaGreatDoor
def ZU8 (l : List Int) : Prop := ∀ x ∈ l, 0 ≤ x ∧ x ≤ 255
theorem ZU8.nil : ZU8 [] := fun _ h => by cases h
theorem ZU8.snoc {l : List Int} (h : ZU8 l) {x : Int} (hx : 0 ≤ x ∧ x ≤ 255) : ZU8 (l ++ [x]) := fun y hy => by
 rcases List.mem_append.1 hy with hy | hy
 ·exact h y hy
 ·rw [List.mem_singleton] at hy; subst hy; exact hx
theorem ZU8.nth {l : List Int} (h : ZU8 l) (j : Nat) : 0 ≤ nth l j ∧ nth l j ≤ 255 := by
 by_cases hj : j < l.length
 ·rw [nth_lt hj]; exact h _ (List.getElem_mem _)
 ·unfold Go.Proofs.YtghjlpechjggjaaGreatDoor.nth
  rw [List.getD, List.getElem?_eq_none (by omega)]
  simp
theorem storF_u8 (bs : List Int) (most : Nat) : ∀ n out p, ZU8 out → ZU8 (storF bs most n out p).1
 | 0, out, p, h => h
 | n + 1, out, p, h => by
  rw [storF]
  split; · exact h
  split; · exact h
  have := numB_lt bs p 8
  exact storF_u8 bs most n _ _ (h.snoc (by omega))
theorem layN_u8 (far most : Nat) : ∀ n out, ZU8 out → ZU8 (layN far most n out).1
 | 0, out, h => h
 | n + 1, out, h => by
  rw [layN]
  split; · exact h
  exact layN_u8 far most n _ (h.snoc (h.nth _))
theorem copyF_u8 (dist bs : List Int) (most s : Nat) (out : List Int) (p : Nat) (h : ZU8 out) : ZU8 (copyF dist bs most s out p).1 := by
 unfold copyF
 split; · exact h
 split; · exact h
 split; · exact h
 split; · exact h
 split; · exact h
 split; · exact h
 split; · exact h
 split
 ·exact layN_u8 _ _ _ _ h
 ·exact layN_u8 _ _ _ _ h
theorem decF_nn (l bs : List Int) (p : Nat) (h : (decF l bs p).2.1 = 0) : 0 ≤ (decF l bs p).1 := by
 by_cases hp : p ≤ 8 * bs.length
 ·exact (dec_adv l bs p hp h).2.2.1
 ·exfalso
  unfold decF at h
  cases hn : longN l 16 with
  | zero => rw [hn, decGo] at h; simp at h
  | succ f => rw [hn, decGo, if_neg (by omega)] at h; simp at h
theorem symF_u8 (lit dist bs : List Int) (most : Nat) : ∀ f out p, ZU8 out → ZU8 (symF lit dist bs most f out p).1
 | 0, out, p, h => h
 | f + 1, out, p, h => by
  rw [symF]
  split; · exact h
  rename_i h0
  split; · exact h
  rename_i h256
  split
  ·rename_i hlt
   split; · exact h
   have := decF_nn lit bs p (Classical.not_not.1 h0)
   exact symF_u8 lit dist bs most f _ _ (h.snoc (by omega))
  ·split
   ·exact copyF_u8 _ _ _ _ _ _ h
   ·exact symF_u8 lit dist bs most f _ _ (copyF_u8 _ _ _ _ _ _ h)
theorem storedF_u8 (bs : List Int) (most : Nat) (out : List Int) (p : Nat) (h : ZU8 out) : ZU8 (storedF bs most out p).1 := by
 unfold storedF
 split; · exact h
 split; · exact h
 split; · exact h
 exact storF_u8 _ _ _ _ _ h
theorem blockF_u8 (bs : List Int) (most : Nat) (kind : Int) (out : List Int) (p : Nat) (h : ZU8 out) : ZU8 (blockF bs most kind out p).1 := by
 unfold blockF
 split; · exact storedF_u8 _ _ _ _ h
 split; · exact symF_u8 _ _ _ _ _ _ _ h
 split
 ·split; · exact h
  exact symF_u8 _ _ _ _ _ _ _ h
 ·exact h
theorem blksF_u8 (bs : List Int) (most : Nat) : ∀ f out p, ZU8 out → ZU8 (blksF bs most f out p).1
 | 0, out, p, h => h
 | f + 1, out, p, h => by
  rw [blksF]
  split; · exact h
  split; · exact h
  split; · exact blockF_u8 _ _ _ _ _ h
  split
  ·exact blksF_u8 bs most f _ _ (blockF_u8 _ _ _ _ _ h)
  ·exact blockF_u8 _ _ _ _ _ h
theorem inflR_u8 (bs : List Int) (most : Int) : ZU8 (inflR bs most).1 := by
 unfold inflR
 split; · exact ZU8.nil
 split; · exact ZU8.nil
 exact blksF_u8 _ _ _ _ _ ZU8.nil
end Go.Proofs.YtghjlpechjggjaaGreatDoor
namespace Go.Proofs.YtghjlpechjggjaaGreatDoor
open Go.RowKit
theorem same2_calls (w : World) (A B : Option Addr) (n m c d : Nat) (xs ys : List Int) (hx : RI .u8 w A n xs) (hy : RI .u8 w B m ys) (hn : n ≤ 140737488355328) (hm : m ≤ 140737488355328) :
  Calls Tryz.prog 16 #[.slice A n c, .slice B m d] w fun e w' => e = .returned (.bool (xs == ys)) ∧ Dr w w' := by
 have lx := hx.len
 have ly := hy.len
 by_cases hnm : n = m
 ·subst hnm
  have t0 : ((n : Int) != (n : Int)) = false := by simp
  go_enter Tryz.func16, Tryz.ntmps16
  go_wp2
  clear t0
  have HX := Lib.hid hx
  have HY := Lib.hid hy
  have LX := Lib.hid lx
  have LY := Lib.hid ly
  clear hx hy lx ly
  go_loopw [5] (fun i wr => ∃ k : Nat, k ≤ n ∧ i = .int .i64 k ∧ Hid (∀ j, j < k → nth xs j = nth ys j) ∧ Hid (Dr w wr)) (fun i _ => n - (intOf i).toNat)
  case atStart => exact ⟨0, by omega, rfl, fun j hj => by omega, Dr.refl _⟩
  case round =>
   obtain ⟨k, hk, rfl, HE, HW⟩ := hrel
   obtain ⟨q, rfl⟩ := HW.out
   clear HW
   by_cases hlt : k < n
   ·obtain ⟨a, o, rfl, ha⟩ := HX.out.at hlt
    obtain ⟨b, o', rfl, hb⟩ := HY.out.at hlt
    by_cases hv : nth xs k = nth ys k
    ·have t1 : (nth xs k != nth ys k) = false := by simpa using hv
     have HV := Lib.hid hv
     clear hv
     go_wp2
     go_quiet (fail)
     go_wp2
     go_roundw
     case rel => exact ⟨k + 1, by omega, by go_num, eq_snoc HE.out HV.out, ⟨_, rfl⟩⟩
     case measure => simp [intOf]; omega
    ·have t1 : (nth xs k != nth ys k) = true := by simpa using hv
     have HV := Lib.hid hv
     clear hv
     go_wp2
     go_quiet (fail)
     go_wp2
     go_ret
     rw [beq_of_ne xs ys k HV.out]
     exact ⟨rfl, Dr.step ⟨_, rfl⟩ _⟩
   ·go_wp2
    go_ret
    rw [beq_of_getD xs ys n LX.out LY.out (fun j hj => HE.out j (by omega))]
    exact ⟨rfl, _, rfl⟩
 ·have t0 : ((n : Int) != (m : Int)) = true := by simp; omega
  go_enter Tryz.func16, Tryz.ntmps16
  go_wp2
  go_ret
  rw [beq_of_len xs ys (by omega)]
  exact ⟨rfl, 0, rfl⟩
theorem put2_calls (w : World) (A : Option Addr) (n c : Nat) (xs : List Int) (hx : RI .u8 w A n xs) (hn : n ≤ 1000000000) (v : Int) (h0 : 0 ≤ v) (h1 : v < 18446744073709551616) (k : Nat) (hk : k ≤ 8) :
  Calls Tryz.prog 71 #[.slice A n c, .int .u64 v, .int .i64 k] w fun e w' => ∃ v', e = .returned v' ∧ w'.ownsRow w.heap.size 5 1 v' (n + k) (ints .u8 (xs ++ zleB v k)) ∧ Below w.heap.size w w' := by
 have HX := Lib.hid hx
 have LX : Hid (xs.length = n) := Lib.hid hx.len
 clear hx
 have s0 : IntKind.i64.wrap ((n : Int) + (k : Int)) = (n : Int) + (k : Int) := IntWalk.i64_in _ (by omega)
 have hmk := fun w => make_ints (P := Tryz.prog) w 26 5 .u8 1 Tryz.underlying26 (by kernel_rfl) ((n : Int) + (k : Int)) (n + k) (by omega) (by omega) (by omega)
 go_enter Tryz.func71, Tryz.ntmps71
 go_wp2_with (with_reducible refine wpList_copy_splice rfl (.tmp 14) (.tmp 15) _ _ rfl 5 Tryz.underlying26 size_u8 _ _ _ _ _ _ rfl rfl w.heap.size 0 (ints .u8 (List.replicate (n + k) 0)) 5 ?h1 (ints .u8 xs) ?h2 ?h3 ?h4 ?h5 w.heap.size w ?h6 (Nat.le_refl _) ?_)
 case h1 => exact blk_new w _ _
 case h2 => have := LX.out; simp [ints]; omega
 case h3 =>
  intro hp
  obtain ⟨a, o, ha⟩ := HX.out.hd (by have := LX.out; simpa [ints, this] using hp)
  refine ⟨_, ha, fun j v hv => ?_⟩
  have hj : j < n := by have := LX.out; have := (List.getElem?_eq_some_iff.1 hv).1; simp [ints] at this; omega
  have hc := HX.out.cell a o ha j hj
  have e : (ints .u8 xs)[j]? = some (.int .u8 (nth xs j)) := by rw [ints_getElem?]; simp [nth, List.getD, show j < xs.length from by have := LX.out; omega]
  rw [e] at hv
  rw [← Option.some.inj hv, add_plain2]
  exact (Keeps.refl [] w).alloc _ |>.cell (by simp) hc
 case h4 => have := LX.out; simp [ints]; omega
 case h5 => intro v hv; simp only [ints, List.mem_map] at hv; obtain ⟨x, _, rfl⟩ := hv; rfl
 case h6 => exact (Below.refl _ _).alloc (Nat.le_refl _) _
 intro w1 hg1 hb1
 have hB : Blk w1 w.heap.size 5 (splice (ints .u8 (List.replicate (n + k) 0)) 0 (ints .u8 xs)) := hg1.out
 have hsp : splice (ints .u8 (List.replicate (n + k) 0)) 0 (ints .u8 xs) = ints .u8 (xs ++ List.replicate k 0) := by
  have := LX.out
  simp [splice, ints, this]
 rw [hsp] at hB
 have HB0 := Lib.hid hB
 have HB1 := Lib.hid hb1
 clear hg1 hsp hB hb1 hmk
 obtain ⟨g, hg⟩ : ∃ z, z = w.heap.size := ⟨_, rfl⟩
 rw [← hg] at HB0 ⊢
 have HG := Lib.hid hg
 clear hg
 go_wp2_with fail
 go_loopw [8] (fun iv wr => ∃ (i : Nat), i ≤ k ∧ iv = .int .i64 i ∧ Hid (Blk wr g 5 (ints .u8 (xs ++ (zleB v i ++ List.replicate (k - i) 0)))) ∧ Hid (Below w.heap.size w wr)) (fun iv _ => k - (intOf iv).toNat)
 case atStart => exact ⟨0, by omega, rfl, Lib.hid (by simpa [zleB] using HB0.out), HB1⟩
 case round =>
  clear HB0 HB1
  obtain ⟨i, hi, rfl, HO, HB⟩ := hrel
  by_cases hlt : i < k
  ·have e0 : decide (i < k) = true := by simpa using hlt
   have c0 := HO.out.cell (n + i)
   have hz : (ints .u8 (xs ++ (zleB v i ++ List.replicate (k - i) 0)))[n + i]? = some (.int .u8 0) := by
    rw [ints_getElem?, List.getElem?_append_right (by have := LX.out; omega), List.getElem?_append_right (by rw [zleB_len]; have := LX.out; omega), zleB_len]
    simp [List.getElem?_replicate, LX.out]; omega
   rw [hz] at c0
   have f0 := HO.out.frozen (n + i)
   clear hz
   have s1 : IntKind.i64.wrap ((n : Int) + (i : Int)) = ((n + i : Nat) : Int) := by rw [IntWalk.i64_in _ (by omega)]; omega
   have s2 : IntKind.i64.wrap (8 * (i : Int)) = 8 * (i : Int) := IntWalk.i64_in _ (by omega)
   have hbl : Blk (wr.setCell ⟨g, n + i, none⟩ (.int .u8 (v / 2 ^ (8 * i) % 256))) g 5 (ints .u8 (xs ++ (zleB v (i + 1) ++ List.replicate (k - (i + 1)) 0))) := by
    have hs := HO.out.set (n + i) (.int .u8 (v / 2 ^ (8 * i) % 256))
    have e : (ints .u8 (xs ++ (zleB v i ++ List.replicate (k - i) 0))).set (n + i) (.int .u8 (v / 2 ^ (8 * i) % 256)) = ints .u8 (xs ++ (zleB v (i + 1) ++ List.replicate (k - (i + 1)) 0)) := by
     rw [show v / 2 ^ (8 * i) % 256 = v / 256 ^ i % 256 by rw [Int.pow_mul]; rfl]
     unfold ints
     rw [← List.map_set, List.set_append_right _ _ (by have := LX.out; omega), List.set_append_right _ _ (by rw [zleB_len]; have := LX.out; omega), zleB_len, zleB_succ, show n + i - xs.length - i = 0 by have := LX.out; omega,
      show k - i = (k - (i + 1)) + 1 by omega, List.replicate_succ, List.set_cons_zero, List.append_assoc]
     rfl
    rw [e] at hs
    exact hs
   have HO2 := Lib.hid hbl
   have HB2 := Lib.hid (HB.out.setCell (p := ⟨g, n + i, none⟩) (by have := HG.out; simp; omega) (.int .u8 (v / 2 ^ (8 * i) % 256)))
   clear hbl
   go_wp2_with fail
   go_roundw
   case rel => exact ⟨i + 1, by omega, by go_num, HO2, HB2⟩
   case measure => simp [intOf]; omega
  ·obtain rfl : i = k := by omega
   have e0 : decide (i < i) = false := by simp
   go_wp2_with fail
   go_ret
   refine ⟨_, rfl, ?_, HB.out⟩
   have hb := HO.out
   rw [Nat.sub_self, List.replicate_zero, List.append_nil] at hb
   rw [← HG.out]
   exact blk_own (xs := xs ++ zleB v i) (ys := []) (by rw [List.append_nil]; exact hb) (by first | exact Nat.le_refl _ | omega) (by rw [List.length_append, zleB_len, LX.out]) (by simp) (by omega)
theorem bitN_snoc : ∀ n r, bitN (n + 1) r = bit1 (bitN n r)
 | 0, _ => rfl
 | n + 1, r => bitN_snoc n (bit1 r)
theorem more2_calls (w : World) (A : Option Addr) (n c : Nat) (xs : List Int) (hx : RI .u8 w A n xs) (hb : ∀ x ∈ xs, 0 ≤ x ∧ x ≤ 255) (hn : n ≤ 1000000000) :
  Calls Tryz.prog 70 #[.int .u32 0, .slice A n c] w fun e w' => e = .returned (.int .u32 ((crcF xs : Nat) : Int)) ∧ w' = w := by
 have HX := Lib.hid hx
 have HB := Lib.hid hb
 have HL : Hid (xs.length = n) := Lib.hid hx.len
 clear hx hb
 have n0 : bits .xor .u32 IntKind.u32.max 0 = 4294967295 := by decide +kernel
 go_enter Tryz.func70, Tryz.ntmps70
 go_wp2_with fail
 go_loopw [5, 6] (fun rv iv wr => ∃ (i r : Nat), i ≤ n ∧ r < 4294967296 ∧ rv = .int .u32 (r : Int) ∧ iv = .int .i64 i ∧ Hid (r = crcGo 4294967295 (xs.take i)) ∧ wr = w) (fun _ iv _ => n - (intOf iv).toNat)
 case atStart => exact ⟨0, 4294967295, by omega, by omega, by simp, rfl, Lib.hid (by rw [List.take_zero, crcGo_nil]), rfl⟩
 case round =>
  obtain ⟨i, r, hi, hr, rfl, rfl, HR, rfl⟩ := hrel
  by_cases hlt : i < n
  ·have e0 : decide (i < n) = true := by simpa using hlt
   obtain ⟨b, o, rfl, hc⟩ := HX.out.at hlt
   have hbx := HB.out (nth xs i) (by rw [nth_lt (by rw [HL.out]; exact hlt)]; exact List.getElem_mem _)
   obtain ⟨x, hxx⟩ : ∃ x : Nat, nth xs i = (x : Int) := ⟨(nth xs i).toNat, by omega⟩
   have hstep : crcGo 4294967295 (xs.take (i + 1)) = bitN 8 (r ^^^ x) := by
    rw [List.take_succ_eq_append_getElem (by rw [HL.out]; exact hlt), crcGo_append, ← HR.out, ← nth_lt (by rw [HL.out]; exact hlt), hxx]; rfl
   rw [hxx] at hc hbx
   have c1 : bits .xor .u32 (r : Int) (x : Int) = ((r ^^^ x : Nat) : Int) := u32_xor_nat r x hr (by omega)
   have hr1 : r ^^^ x < 4294967296 := xor_lt hr (by omega)
   generalize r ^^^ x = r1 at *
   have HST := Lib.hid hstep.symm
   have hx8 : x < 256 := by omega
   clear hstep HR hbx hxx
   go_wp2_with fail
   go_loopw [5, 7] (fun rv kv wq => ∃ (k q : Nat), k ≤ 8 ∧ q < 4294967296 ∧ rv = .int .u32 (q : Int) ∧ kv = .int .i64 k ∧ Hid (q = bitN k r1) ∧ wq = wr) (fun _ kv _ => 8 - (intOf kv).toNat)
   case atStart => exact ⟨0, r1, by omega, hr1, rfl, rfl, Lib.hid rfl, rfl⟩
   case round =>
    obtain ⟨k, q, hk, hq, rfl, rfl, HQ, rfl⟩ := hrel
    by_cases hk8 : k < 8
    ·have e1 : decide ((k : Int) < 8) = true := by simp; omega
     have e1' : decide (k < 8) = true := by simpa using hk8
     have a1 : bits .and .u32 (q : Int) 1 = ((q % 2 : Nat) : Int) := by
      have := u32_and_nat q 1 hq (by decide)
      rw [show q &&& 1 = q % 2 from Nat.and_two_pow_sub_one_eq_mod q 1] at this
      exact this
     have d1 : (q : Int) / 2 = ((q / 2 : Nat) : Int) := by omega
     have HN : Hid (bit1 q = bitN (k + 1) r1) := Lib.hid (by rw [bitN_snoc, ← HQ.out])
     by_cases h2 : q % 2 = 1
     ·have b1 : bit1 q = q / 2 ^^^ crcP := by unfold bit1; rw [if_pos h2]
      have x1 : bits .xor .u32 ((q / 2 : Nat) : Int) 3988292384 = ((bit1 q : Nat) : Int) := by rw [b1]; exact u32_xor_nat (q / 2) 3988292384 (by omega) (by decide)
      have hb1 := bit1_lt hq
      have t1 : (((q % 2 : Nat) : Int) == 1) = true := by rw [h2]; rfl
      clear b1 h2
      generalize bit1 q = q' at *
      generalize hq2 : q / 2 = qh at *
      generalize hqm : q % 2 = qm at *
      have t1' : ((qm : Int) == 1) = true := t1
      clear hq2 hqm
      go_wp2_with fail
      go_roundw
      case rel => exact ⟨k + 1, q', by omega, hb1, rfl, by go_num, HN, by trivial⟩
      case measure => simp [intOf]; omega
     ·have b1 : bit1 q = q / 2 := by unfold bit1; rw [if_neg h2]
      have hm0 : q % 2 = 0 := by omega
      have t1 : (((q % 2 : Nat) : Int) == 1) = false := by rw [hm0]; rfl
      have hb1 := bit1_lt hq
      rw [← b1] at d1
      clear b1 h2 hm0
      generalize bit1 q = q' at *
      generalize hqm : q % 2 = qm at *
      clear hqm
      go_wp2_with fail
      go_roundw
      case rel => exact ⟨k + 1, q', by omega, hb1, rfl, by go_num, HN, by trivial⟩
      case measure => simp [intOf]; omega
    ·obtain rfl : k = 8 := by omega
     have e1 : decide (((8 : Nat) : Int) < 8) = false := by decide
     have HQ2 : Hid (q = crcGo 4294967295 (xs.take (i + 1))) := Lib.hid (by rw [HQ.out, HST.out])
     clear HQ HST hc
     go_wp2_with fail
     go_roundw
     case rel => exact ⟨i + 1, q, by omega, hq, rfl, by go_num, HQ2, by trivial⟩
     case measure => simp [intOf]; omega
  ·obtain rfl : i = n := by omega
   have e0 : decide (i < i) = false := by simp
   have hre : bits .xor .u32 IntKind.u32.max (r : Int) = ((crcF xs : Nat) : Int) := by
    rw [show IntKind.u32.max = 4294967295 from rfl]
    have h1 := u32_xor_nat 4294967295 r (by decide) hr
    have h2 : xs.take i = xs := List.take_of_length_le (by rw [HL.out]; omega)
    have h3 := HR.out
    rw [h2] at h3
    unfold crcF
    rw [← h3]
    exact h1
   go_wp2_with fail
   go_ret
   exact ⟨rfl, rfl⟩
theorem sum2_calls (w : World) (A : Option Addr) (n c : Nat) (xs : List Int) (hx : RI .u8 w A n xs) (hb : ∀ x ∈ xs, 0 ≤ x ∧ x ≤ 255) (hn : n ≤ 1000000000) :
  Calls Tryz.prog 45 #[.slice A n c] w fun e w' => e = .returned (.int .u32 ((crcF xs : Nat) : Int)) ∧ w' = w := by
 have HC := Lib.hid (more2_calls w A n c xs hx hb hn)
 clear hx hb
 go_enter Tryz.func45, Tryz.ntmps45
 go_wp2_with fail
 refine HC.out.mono ?_
 rintro _ w' ⟨rfl, rfl⟩
 go_wp2_with fail
 go_ret
 exact ⟨rfl, rfl⟩
end Go.Proofs.YtghjlpechjggjaaGreatDoor
namespace Go.Proofs.YtghjlpechjggjaaGreatDoor
open Go.ChangeShapes Go.WideShapes Go.ChangeAt Go.RowKit
theorem own : ownKnob Tryz.prog.godebug = none := by kernel_rfl
abbrev theLaid : List (String × DataW Unit) := [("haversack/lens.order", Rows.laid_haversack_lens_order), ("haversack/lens.wide", Rows.laid_haversack_lens_wide), ("haversack/lens.from", Rows.laid_haversack_lens_from)]
theorem cellsArr : Tryz.prog.cellsOf 164 = 19 := by kernel_rfl
theorem cellsInt : Tryz.prog.cellsOf 3 = 1 := by kernel_rfl
theorem gFrom : Tryz.prog.globalNamed "haversack/lens.from" = some 4 := by kernel_rfl
theorem gWide : Tryz.prog.globalNamed "haversack/lens.wide" = some 2 := by kernel_rfl
theorem gOrder : Tryz.prog.globalNamed "haversack/lens.order" = some 1 := by kernel_rfl
theorem tFrom : (Tryz.prog.globals[4]?).map (·.type) = some 164 := by kernel_rfl
theorem tWide : (Tryz.prog.globals[2]?).map (·.type) = some 164 := by kernel_rfl
theorem tOrder : (Tryz.prog.globals[1]?).map (·.type) = some 164 := by kernel_rfl
theorem ri_of_tab {W : World} {g : Nat} {zs : List Int} (hl : zs.length = 19) (h : ∀ i, i < zs.length → W.cell? ⟨g, i, none⟩ = some (.int .i64 (zs.getD i 0))) : RI .i64 W (some ⟨g, 0, none⟩) 19 zs :=
 ⟨hl, fun _ => ⟨_, _, rfl⟩, fun b o ha j hj => by
  injection ha with ha; injection ha with h1 h2 h3; subst h1; subst h2
  rw [Nat.zero_add]; exact h j (by omega)⟩
theorem tabs_of {W : World} (h : laidMet Tryz.prog theLaid W) : Tabs W := by
 have h1 : laidMet Tryz.prog [("haversack/lens.from", Lib.tabData .i64 fromL)] W := laidMet.filter (fun x => x.1 == "haversack/lens.from") h
 have h2 : laidMet Tryz.prog [("haversack/lens.wide", Lib.tabData .i64 wideL)] W := laidMet.filter (fun x => x.1 == "haversack/lens.wide") h
 have h3 : laidMet Tryz.prog [("haversack/lens.order", Lib.tabData .i64 orderL)] W := laidMet.filter (fun x => x.1 == "haversack/lens.order") h
 have t1 := Lib.tabIs_of_head (rest := []) gFrom tFrom Tryz.underlying164 Tryz.underlying3 cellsInt cellsArr h1
 have t2 := Lib.tabIs_of_head (rest := []) gWide tWide Tryz.underlying164 Tryz.underlying3 cellsInt cellsArr h2
 have t3 := Lib.tabIs_of_head (rest := []) gOrder tOrder Tryz.underlying164 Tryz.underlying3 cellsInt cellsArr h3
 exact ⟨ri_of_tab rfl (t1.cell gFrom), ri_of_tab rfl (t2.cell gWide), ri_of_tab rfl (t3.cell gOrder)⟩
def setTab (zs : List Int) : Obj → Obj
 | .cells _ t frozen => .cells (ints .i64 zs).toArray t frozen
 | o => o
noncomputable def laidWorld (os : Os) : World :=
 { World.holding Tryz.prog os ⟨#[], #[], []⟩ with heap := (((World.holding Tryz.prog os ⟨#[], #[], []⟩).heap.modify 4 (setTab fromL)).modify 2 (setTab wideL)).modify 1 (setTab orderL) }
end Go.Proofs.YtghjlpechjggjaaGreatDoor
namespace Go.Proofs.YtghjlpechjggjaaGreatDoor
open Go.ChangeShapes Go.WideShapes Go.ChangeAt Go.RowKit
end Go.Proofs.YtghjlpechjggjaaGreatDoor
namespace Go.Proofs.YtghjlpechjggjaaGreatDoor
open Go.ChangeShapes Go.WideShapes Go.ChangeAt Go.RowKit
end Go.Proofs.YtghjlpechjggjaaGreatDoor
namespace Go.Proofs.YtghjlpechjggjaaGreatDoor
open Go.ChangeShapes Go.WideShapes Go.ChangeAt Go.RowKit
theorem cellsU32 : Tryz.prog.cellsOf 49 = 1 := by kernel_rfl
theorem cellsArrU : Tryz.prog.cellsOf 129 = 16 := by kernel_rfl
theorem gSteps : Tryz.prog.globalNamed "haversack/little.steps" = some 0 := by kernel_rfl
theorem tSteps : (Tryz.prog.globals[0]?).map (·.type) = some 129 := by kernel_rfl
theorem tabz_of {W : World} (h : laidMet Tryz.prog theLaid W) (h4 : laidMet Tryz.prog [("haversack/little.steps", Rows.laid_haversack_little_steps)] W) : Tabz W := by
 have h1 : laidMet Tryz.prog [("haversack/little.steps", Lib.tabData .u32 stepsL)] W := h4
 have t4 := Lib.tabIs_of_head (rest := []) gSteps tSteps Tryz.underlying129 Tryz.underlying49 cellsU32 cellsArrU h1
 refine ⟨tabs_of h, rfl, fun _ => ⟨_, _, rfl⟩, fun b o ha j hj => ?_⟩
 injection ha with ha; injection ha with q1 q2 q3; subst q1; subst q2
 rw [Nat.zero_add]
 exact t4.cell gSteps j hj
def setTabK (k : IntKind) (zs : List Int) : Obj → Obj
 | .cells _ t frozen => .cells (ints k zs).toArray t frozen
 | o => o
def rangesL : List Int := [128, 191, 160, 191, 128, 159, 144, 191, 128, 143] ++ List.replicate 22 0
noncomputable def laidWorldZ (os : Os) : World :=
 { laidWorld os with heap := (((laidWorld os).heap.modify 0 (setTabK .u32 stepsL)).modify 6 (setTabK .u8 rangesL)).modify 5 (setTabK .u8 (Go.Pinned.utf8FirstZ.map Int.ofNat)) }
theorem laid_metZ (os : Os) (args : Array Value) : laidMet Tryz.prog Rows.zipNamesRow.laid ((laidWorldZ os).forCall (fun _ _ => 0) ⟨#[], args, []⟩).memory :=
 laidMet_of_run3 16 (by kernel_rfl) (by kernel_rfl) (by kernel_rfl)
theorem weights_all {H : Type} {P : Program} {e : TypeId} {d : DataW H} : ∀ {l : List (DataW H)}, d ∈ l → ∀ {x}, x ∈ d.weights P e → x ∈ DataW.weightsAll P e l
 | y :: l, h, x, hx => by
  rw [DataW.weightsAll, List.mem_append]
  rcases List.mem_cons.1 h with rfl | h
  ·exact .inl hx
  ·exact .inr (weights_all h hx)
theorem entries_came {H : Type} {enc : TypeId × Value → H} {W : World} {a0 : Option Addr} {len0 cap0 : Nat} {d : DataW H} {p : List MemPlace}
  (h : DataW.Trod enc Tryz.prog W 0 (fun _ => true) true 24 (Value.slice a0 len0 cap0) d p) (hwt : ∀ x ∈ d.weights Tryz.prog 24, x ≤ reachBytes) :
  ∃ xs : List EN, RW 2 ecells W a0 len0 xs ∧ len0 ≤ 8796093022208 ∧ (∀ e ∈ xs, e.1.size ≤ 140737488351232 ∧ e.2.size ≤ 140737488351232) ∧ (a0 = none → len0 = 0 ∧ cap0 = 0) := by
 obtain ⟨fuel, hf⟩ := h
 rcases Go.Deep.open_slice Tryz.underlying24 hf with ⟨hcs, _⟩ | ⟨a, len, cap, m, n, D, Pl, hcs, _, hl, hm, hmm, hxd, hcell⟩
 ·simp [Value.cells] at hcs
  obtain ⟨rfl, rfl, rfl⟩ := hcs
  exact ⟨[], ⟨rfl, by omega, by simp⟩, by omega, by simp, fun _ => ⟨rfl, rfl⟩⟩
 ·simp [Value.cells] at hcs
  obtain ⟨rfl, rfl, rfl⟩ := hcs
  have hm' : m = cap0 := by simpa using hmm
  have ce : Tryz.prog.cellsOf 34 = 2 := by kernel_rfl
  have c0 : Tryz.prog.cellsOf 9 = 1 := by kernel_rfl
  have be : Tryz.prog.bytesOf 34 = 32 := by kernel_rfl
  injection hxd with hd hpp
  subst hd
  have hwl : len0 ≤ 8796093022208 := by
   have := hwt ((((List.range len0).map D).length + ((List.range (m - len0)).map fun j => D (len0 + j)).length) * Tryz.prog.bytesOf 34) (by simp [DataW.weights, Tryz.underlying24])
   rw [be] at this
   simp [reachBytes] at this
   omega
  have hwd : ∀ i, i < len0 → ∀ x ∈ (D i).weights Tryz.prog 34, x ≤ reachBytes := fun i hi x hx => by
   refine hwt x ?_
   simp only [DataW.weights, Tryz.underlying24, List.mem_cons, List.mem_append]
   exact .inr (.inl (weights_all (List.mem_map.2 ⟨i, List.mem_range.2 hi, rfl⟩) hx))
  have each : ∀ i, i < len0 → ∃ q : EN, (W.cell? (a.add (i * 2)) = some (.string q.1) ∧ W.cell? (a.add (i * 2 + 1)) = some (.string q.2)) ∧ q.1.size ≤ 140737488351232 ∧ q.2.size ≤ 140737488351232 := by
   intro i hi
   obtain ⟨cs', h1, h2⟩ := hcell i (by omega)
   rw [ce] at h1
   obtain ⟨_, hlen, hc⟩ := World.cells?_some h1
   obtain ⟨xs, k, hk, hxy, hxx, hxl, hf⟩ := DataW.trod_struct Tryz.underlying34 h2
   match xs, hxl, cs', hlen with
   | [y0, y1], _, [v0, v1], _ =>
    have g0 := hf 0 _ rfl
    have g1 := hf 1 _ rfl
    simp [c0] at g0 g1
    have e0 := hc 0 (by omega)
    have e1 := hc 1 (by omega)
    rw [Go.Deep.add_add] at e0 e1
    obtain ⟨s0, q0, z0, w0⟩ := DataW.trod_string Tryz.underlying9 g0
    obtain ⟨s1, q1, z1, w1⟩ := DataW.trod_string Tryz.underlying9 g1
    injection q0 with q0; injection q1 with q1
    subst q0 q1
    have hwi := hwd i hi
    injection hxy with hD _
    rw [hD, z0, z1] at hwi
    have k0 := hwi s0.data.toList.length (by simp [DataW.weights, DataW.weightsEach, Tryz.underlying34])
    have k1 := hwi s1.data.toList.length (by simp [DataW.weights, DataW.weightsEach, Tryz.underlying34])
    simp only [reachBytes, Array.length_toList] at k0 k1
    exact ⟨(s0, s1), ⟨by simpa using e0, by simpa using e1⟩, k0, k1⟩
  let f : Nat → EN := fun i => if h : i < len0 then Classical.choose (each i h) else (⟨#[]⟩, ⟨#[]⟩)
  have hfs : ∀ i, i < len0 → (W.cell? (a.add (i * 2)) = some (.string (f i).1) ∧ W.cell? (a.add (i * 2 + 1)) = some (.string (f i).2)) ∧ (f i).1.size ≤ 140737488351232 ∧ (f i).2.size ≤ 140737488351232 := by
   intro i hi
   simp only [f, hi, dite_true]
   exact Classical.choose_spec (each i hi)
  refine ⟨(List.range len0).map f, ⟨by simp, fun hp => ?_, fun b o ha j hj i hi => ?_⟩, by omega, fun t ht => ?_, by simp⟩
  ·obtain ⟨b, off, spot⟩ := a
   have hspot : spot = none := by simpa [Addr.add] using World.cell?_spot (hfs 0 hp).1.1
   subst hspot
   exact ⟨_, _, rfl⟩
  ·obtain rfl := Option.some.inj ha
   have hj' : j < len0 := by simpa using hj
   have hp : ((List.range len0).map f)[j] = f j := by simp
   rw [hp, Nat.add_assoc, ← add_plain2]
   obtain rfl | rfl : i = 0 ∨ i = 1 := by omega
   ·exact (hfs j hj').1.1
   ·exact (hfs j hj').1.2
  ·obtain ⟨i, hi, rfl⟩ := List.mem_map.1 ht
   exact (hfs i (List.mem_range.1 hi)).2
end Go.Proofs.YtghjlpechjggjaaGreatDoor
namespace Go.Proofs.YtghjlpechjggjaaGreatDoor
open Go.RowKit
def flatF (ps : List (Int × Nat)) : List Int := ps.flatMap fun p => [p.1, (p.2 : Int)]
def laidP (ps : List (Int × Nat)) : List Int := ps.flatMap fun p => zleB p.1 p.2
theorem flatF_len (ps : List (Int × Nat)) : (flatF ps).length = ps.length * 2 := by
 induction ps with
 | nil => rfl
 | cons p ps ih => rw [flatF, List.flatMap_cons, List.length_append, show ps.flatMap (fun p => [p.1, (p.2 : Int)]) = flatF ps from rfl, ih, List.length_cons]; simp; omega
theorem flatF_get : ∀ (ps : List (Int × Nat)) (j : Nat) (hj : j < ps.length), nth (flatF ps) (j * 2) = ps[j].1 ∧ nth (flatF ps) (j * 2 + 1) = (ps[j].2 : Int)
 | [], j, hj => by simp at hj
 | p :: ps, 0, hj => by unfold flatF nth; simp
 | p :: ps, j + 1, hj => by
  have ih := flatF_get ps j (by simpa using hj)
  have e : ∀ i, nth (flatF (p :: ps)) (i + 2) = nth (flatF ps) i := fun i => by unfold flatF nth; simp [List.getD]
  rw [show (j + 1) * 2 = j * 2 + 2 by omega, e, show j * 2 + 2 + 1 = j * 2 + 1 + 2 by omega, e]
  exact ih
theorem laidP_snoc (ps : List (Int × Nat)) (p : Int × Nat) : laidP (ps ++ [p]) = laidP ps ++ zleB p.1 p.2 := by simp [laidP]
theorem laid8_calls (w : World) (A : Option Addr) (n c : Nat) (xs : List Int) (hx : RI .u8 w A n xs) (hn : n ≤ 900000000) (B : Option Addr) (m d : Nat) (ps : List (Int × Nat)) (hp : RI .i64 w B m (flatF ps)) (h0 : 0 < ps.length) (h1 : ps.length ≤ 1000)
  (hv : ∀ p ∈ ps, 0 ≤ p.1 ∧ p.1 < 18446744073709551616 ∧ p.2 ≤ 8) :
  Calls Tryz.prog 46 #[.slice A n c, .slice B m d] w fun e w' => ∃ v', e = .returned v' ∧ w'.ownsRow w.heap.size 5 1 v' (n + (laidP ps).length) (ints .u8 (xs ++ laidP ps)) ∧ Below w.heap.size w w' := by
 have HX := Lib.hid hx
 have HP := Lib.hid hp
 have HV := Lib.hid hv
 have hm : m = ps.length * 2 := by rw [← hp.len, flatF_len]
 have HM := Lib.hid hm
 have hm1 : m ≤ 2000 := by omega
 clear hx hp hv hm
 go_enter Tryz.func46, Tryz.ntmps46
 go_wp2_with fail
 go_loopw [0, 5] (fun bv iv wr => ∃ (j n1 : Nat) (A1 : Option Addr) (c1 : Nat), j ≤ ps.length ∧ iv = .int .i64 ((j * 2 : Nat) : Int) ∧ bv = .slice A1 n1 c1 ∧ Hid (n1 = n + (laidP (ps.take j)).length) ∧ n1 ≤ n + j * 8 ∧ Hid (RI .u8 wr A1 n1 (xs ++ laidP (ps.take j))) ∧ Hid (0 < j → wr.ownsRow w.heap.size 5 1 (.slice A1 n1 c1) n1 (ints .u8 (xs ++ laidP (ps.take j)))) ∧ Hid (Below w.heap.size w wr)) (fun _ iv _ => m + 1 - (intOf iv).toNat)
 case atStart => exact ⟨0, n, A, c, by omega, rfl, rfl, Lib.hid (by simp [laidP]), by omega, Lib.hid (by simpa [laidP] using HX.out), Lib.hid (by omega), Lib.hid (Below.refl _ _)⟩
 case round =>
  obtain ⟨j, n1, A1, c1, hj, rfl, rfl, HN1, hn1, HR, HO, HB⟩ := hrel
  by_cases hlt : j < ps.length
  ·obtain ⟨g0, g1⟩ := flatF_get ps j hlt
   have hmm := HM.out
   obtain ⟨b, o, rfl, hc0⟩ := (HP.out.keeps (Keeps.of_below HB.out (S := [])) (off_nil _)).at (j := j * 2) (by omega)
   obtain ⟨b', o', hbo, hc1⟩ := (HP.out.keeps (Keeps.of_below HB.out (S := [])) (off_nil _)).at (j := j * 2 + 1) (by omega)
   injection hbo with hbo; injection hbo with e1 e2 e3; subst e1; subst e2
   rw [g0] at hc0
   rw [g1] at hc1
   obtain ⟨q0, q1, q2⟩ := HV.out ps[j] (List.getElem_mem _)
   have HTK : Hid (laidP (ps.take (j + 1)) = laidP (ps.take j) ++ zleB ps[j].1 ps[j].2) := Lib.hid (by rw [List.take_succ_eq_append_getElem hlt, laidP_snoc])
   generalize ps[j] = p at *
   obtain ⟨v, k⟩ := p
   dsimp only at hc0 hc1 q0 q1 q2 HTK
   obtain ⟨J, hJ⟩ : ∃ z, z = j * 2 := ⟨_, rfl⟩
   rw [← hJ] at hc0 hc1 ⊢
   have hJm : J + 1 < m := by omega
   have s1 : IntKind.i64.wrap ((J : Int) + 1) = ((J + 1 : Nat) : Int) := by rw [IntWalk.i64_in _ (by omega)]; omega
   have s2 : IntKind.i64.wrap ((J : Int) + 2) = ((J + 2 : Nat) : Int) := by rw [IntWalk.i64_in _ (by omega)]; omega
   have s3 : IntKind.u64.wrap v = v := IntWalk.u64_in _ (by omega)
   have e0 : decide (((J + 1 : Nat) : Int) < (m : Int)) = true := decide_eq_true (by omega)
   have e0' : decide (J + 1 < m) = true := decide_eq_true hJm
   have HJ := Lib.hid hJ
   have hw := HB.out.size
   clear g0 g1 hJ hmm
   go_upto_region 4 with (fail)
   refine quiet_tail 11 (by kernel_rfl) (by kernel_rfl) ?_
   simp only [List.take_succ_cons, List.take_zero, List.drop_succ_cons, List.drop_zero]
   repeat (go_big_quiet_step (fail))
   refine wpQuiet_nil ?_
   go_wp2_with fail
   refine (put2_calls wr.drew A1 n1 c1 _ (HR.out.keeps (Keeps.refl [] wr).drew (off_nil _)) (by omega) v q0 q1 k q2).mono ?_
   rintro _ w2 ⟨v2, rfl, ho2, hb2⟩
   obtain ⟨A2, c2, hv2, hr2⟩ := own_parts ho2
   subst hv2
   rw [List.append_assoc, ← HTK.out] at ho2 hr2
   have HO2 := Lib.hid (zown_lower ho2 (show w.heap.size ≤ wr.drew.heap.size from hw))
   have HR2 := Lib.hid hr2
   have hb2' : Below w.heap.size wr w2 := keeps_below ((Keeps.refl [] wr).drew.trans (Keeps.of_below hb2)) hw (by simp)
   have HB2 := Lib.hid (HB.out.trans hb2')
   have HN2 : Hid (n1 + k = n + (laidP (ps.take (j + 1))).length) := Lib.hid (by rw [HTK.out, List.length_append, zleB_len, HN1.out]; omega)
   clear ho2 hr2 hb2 hb2' HR HO HB HN1 hc0 hc1 s1 s3
   go_wp2_with fail
   go_roundw
   case rel => exact ⟨j + 1, n1 + k, A2, c2, by omega, by have := HJ.out; rw [show (j + 1) * 2 = J + 2 by omega]; first | rfl | go_num, rfl, HN2, by omega, HR2, Lib.hid (fun _ => HO2.out), HB2⟩
   case measure => have := HJ.out; simp [intOf]; omega
  ·have hjp : j = ps.length := by omega
   have hmm := HM.out
   have hj2 : j * 2 = m := by omega
   rw [hj2]
   have s1 : IntKind.i64.wrap ((m : Int) + 1) = ((m + 1 : Nat) : Int) := by rw [IntWalk.i64_in _ (by omega)]; omega
   have e0 : decide (((m + 1 : Nat) : Int) < (m : Int)) = false := decide_eq_false (by omega)
   have e0' : decide (m + 1 < m) = false := decide_eq_false (by omega)
   have HOF : Hid (wr.ownsRow w.heap.size 5 1 (.slice A1 n1 c1) (n + (laidP ps).length) (ints .u8 (xs ++ laidP ps))) := Lib.hid (by
    have h := HO.out (by omega)
    rw [HN1.out, hjp, List.take_length] at h
    have e := HN1.out
    rw [hjp, List.take_length] at e
    rw [e]; exact h)
   clear hjp hj2 hmm
   go_wp2_with fail
   go_ret
   exact ⟨_, rfl, HOF.out, HB.out⟩
end Go.Proofs.YtghjlpechjggjaaGreatDoor
