import Derived.Test.YtkpabdjniiepkaaGreatDoorDflH
import Derived.Test.YtkpabdjniiepkaaGreatDoorDflB
import Derived.RangeFuncNested
import Derived.RangeFuncLeaves
import Derived.Laws.Tables
import Derived.Test.YtkpabdjniiepkaaGreatDoorDflG
import Derived.TacticsInMore
import Derived.OwnWalkIn
import Derived.Test.YtkpabdjniiepkaaGreatDoorDflC
import Derived.Shelf.Abstract
import Derived.LoopIn
import Derived.RegionTactic
import Derived.BigQuiet
import Derived.BigRegion
import Derived.StillTailTactics
set_option linter.unusedVariables false
set_option linter.unusedSimpArgs false
namespace Go.Proofs.YtkpabdjniiepkaaGreatDoor
open Go.RowKit
set_option maxRecDepth 100000 in
set_option maxHeartbeats 2000000 in
theorem match_calls (w : World) (g b : Nat) (A : Option Addr) (n c : Nat) (xs : List Int) (k i : Nat) (h : FB w g b A n c xs k) (hk : k ≤ i) (hi : i ≤ n) :
    Calls Tryz.prog 41 #[.pointer (some ⟨g, 0, none⟩), .int .i64 i] w fun e w' => e = .returned (.tuple #[.int .i64 (mF xs i).1, .int .i64 (mF xs i).2]) ∧ ∃ k', k ≤ k' ∧ k' ≤ i ∧ FB w' g b A n c xs k' ∧ Keeps [g, b] w w' := by
  have hB := h.bound
  have H := Lib.hid h
  have hlen : xs.length = n := h.ri.len
  obtain ⟨pr, last, hraw, -, -⟩ := h.raw
  have c0 := hraw.cells.1
  clear hraw h
  have w3 : IntKind.i64.wrap ((i : Int) + 3) = (i : Int) + 3 := IntWalk.i64_in _ (by omega)
  by_cases hs : i + 3 ≤ n
  rotate_left
  · have x1 : decide ((n : Int) < (i : Int) + 3) = true := by simp; omega
    rw [mF_short xs i (by omega) (by omega)]
    go_enter Tryz.func41, Tryz.ntmps41
    go_wp2_with fail
    go_step3
    go_wp2_with fail
    rw [Exit.noGoto_ret]
    go_ret2
    exact ⟨rfl, k, Nat.le_refl _, hk, H.out, Keeps.refl _ _⟩
  have x1 : decide ((n : Int) < (i : Int) + 3) = false := by simp; omega
  go_enter Tryz.func41, Tryz.ntmps41
  go_wp2_with fail
  go_step3
  go_wp2_with fail
  refine (know_calls w g b A n c xs k i H.out hk hs).mono ?_
  rintro _ w1 ⟨rfl, h1, hk1⟩
  have H1 := Lib.hid h1
  have HK1 := Lib.hid hk1
  obtain ⟨pr1, last1, hr1, hl1, hp1⟩ := h1.raw
  have HR1 := Lib.hid hr1
  have HL1 := Lib.hid hl1
  have HP1 := Lib.hid hp1
  clear h1 hk1 hr1 hl1 hp1 c0 H x1
  obtain ⟨E, hE⟩ : ∃ E : Nat, (if (n : Int) - (i : Int) < 258 then (n : Int) - (i : Int) else 258) = (E : Int) := ⟨min 258 (n - i), by split <;> omega⟩
  have hE2 : E = min 258 (n - i) := by split at hE <;> omega
  have HE := Lib.hid hE2
  have hq := fun m => hash_calls (w1.drewN m) g b A n c xs i i (H1.out.keeps (S := []) ((Keeps.refl [] w1).drewN m) (by simp) (by simp) (off_nil _)) hs
  have hlt := hashF_lt xs i
  obtain ⟨q, hqq⟩ : ∃ q, q = hashF xs i := ⟨_, rfl⟩
  rw [← hqq] at hq hlt
  have HQ := Lib.hid hq
  have HQQ := Lib.hid hqq
  obtain ⟨c0, c1, c2, c3, c4, f1, f2⟩ := HR1.out.cells
  replace c3 := c3 q hlt
  rw [HL1.out q hlt] at c3
  obtain ⟨p0, hp0⟩ : ∃ p0, p0 = lastF (hashF xs) q i := ⟨_, rfl⟩
  rw [← hp0] at c3
  have HP0 := Lib.hid hp0
  have hp0i : p0 ≤ i := by rw [hp0]; exact (lastF_spec _ _ _).1
  clear hE2 hq hqq c4 hp0
  have wp : IntKind.i64.wrap ((p0 : Int) - 1) = (p0 : Int) - 1 := IntWalk.i64_in _ (by omega)
  go_wp2_with fail
  go_step3
  go_upto_region 5 with (fail)
  clear hE
  go_quiet (first | (go_at_call 65; exact Calls.quiet_of (HQ.out _)))
  go_wp2_with fail
  have hb0 : bestF xs i (i - p0) = (0, 0) := by
    rw [HP0.out, HQQ.out, best_chain (hashF_marks xs) i i (Nat.le_refl _), Nat.sub_self]; rfl
  have hh0 : p0 ≠ 0 → hashF xs (p0 - 1) = q := by rw [HP0.out]; exact (lastF_spec (hashF xs) q i).2.2
  have HB0 := Lib.hid hb0
  have HH0 := Lib.hid hh0
  clear hb0 hh0 c0 c1 c2 c3 f1 f2 wp
  go_loopw [4, 5, 7] (fun lv dv av wr => ∃ p l d : Nat, p ≤ i ∧ av = .int .i64 ((p : Int) - 1) ∧ lv = .int .i64 l ∧ dv = .int .i64 d ∧ Hid (bestF xs i (i - p) = (l, d)) ∧ Hid (p ≠ 0 → hashF xs (p - 1) = q) ∧ Hid (Keeps [] w1 wr)) (fun _ _ av _ => (intOf av + 1).toNat)
  case atStart => exact ⟨p0, 0, 0, hp0i, rfl, rfl, rfl, HB0, HH0, Lib.hid (by repeat (first | exact Keeps.refl _ _ | apply Keeps.drewN | apply Keeps.drew))⟩
  case round =>
    clear HB0 HH0 HP0 hp0i
    obtain ⟨p, l, d, hp, rfl, rfl, rfl, HBF, HH, HK⟩ := hrel
    by_cases hp1 : p = 0
    · subst hp1
      have x2 : decide ((0 : Int) ≤ ((0 : Nat) : Int) - 1) = false := by decide
      have HM : Hid (mF xs i = (l, d)) := Lib.hid HBF.out
      go_wp2_with fail
      rw [Exit.noGoto_ret]
      go_ret2
      exact ⟨by rw [HM.out]; rfl, i, hk, Nat.le_refl _, H1.out.keeps HK.out (by simp) (by simp) (off_nil _), HK1.out.trans (HK.out.mono (fun x hx => by cases hx))⟩
    · obtain ⟨t, rfl⟩ : ∃ t, p = t + 1 := ⟨p - 1, by omega⟩
      have ht : (((t + 1 : Nat) : Int) - 1) = (t : Int) := by omega
      rw [ht]
      have x3 : decide ((32768 : Int) < (i : Int) - t) = false := by simp; omega
      obtain ⟨c0, c1, c2, -, c4, f1, f2⟩ := (HR1.out.keeps HK.out (by simp) (by simp)).cells
      have hHK0 : Hid (∀ j, j < 0 → i + j < xs.length ∧ nth xs (i + j) = nth xs (i + j - (i - t))) := Lib.hid (fun j hj => by omega)
      go_wp2_with fail
      go_loopw [4, 5, 8, 52] (fun lv dv _ kv wi => ∃ kk : Nat, kk ≤ E ∧ kv = .int .i64 kk ∧ lv = .int .i64 l ∧ dv = .int .i64 d ∧ Hid (∀ j, j < kk → i + j < xs.length ∧ nth xs (i + j) = nth xs (i + j - (i - t))) ∧ Hid (Keeps [] w1 wi)) (fun _ _ _ kv _ => E - (intOf kv).toNat)
      case atStart => exact ⟨0, by omega, rfl, rfl, rfl, hHK0, HK⟩
      case round =>
        clear hHK0 HK c0 c1 c2 c4 f1 f2
        obtain ⟨kk, hkk, rfl, rfl, rfl, HEQ, HK⟩ := hrel
        obtain ⟨c0, c1, c2, -, c4, f1, f2⟩ := (HR1.out.keeps HK.out (by simp) (by simp)).cells
        by_cases hlt2 : kk < E
        · have he := HE.out
          have hri := H1.out.ri.keeps HK.out (off_nil _)
          obtain ⟨bb, o, hA, k1⟩ := hri.at (show i + kk < n by omega)
          have k2 := hri.cell bb o hA (t + kk) (by omega)
          have s1 : ((i : Int) + kk).toNat = i + kk := by omega
          have s2 : ((t : Int) + kk).toNat = t + kk := by omega
          have s3 : (0 : Int) ≤ (i : Int) + kk := by omega
          have s4 : (0 : Int) ≤ (t : Int) + kk := by omega
          have s5 : (i : Int) + kk < (n : Int) := by omega
          have s6 : (t : Int) + kk < (n : Int) := by omega
          have w4 : IntKind.i64.wrap ((i : Int) + kk) = (i : Int) + kk := IntWalk.i64_in _ (by omega)
          have w5 : IntKind.i64.wrap ((t : Int) + kk) = (t : Int) + kk := IntWalk.i64_in _ (by omega)
          have x4 : decide ((kk : Int) < (E : Int)) = true := by simp; omega
          obtain ⟨x, hx⟩ : ∃ x, x = nth xs (i + kk) := ⟨_, rfl⟩
          obtain ⟨y, hy⟩ : ∃ y, y = nth xs (t + kk) := ⟨_, rfl⟩
          rw [← hx] at k1
          rw [← hy] at k2
          have HX := Lib.hid hx
          have HY := Lib.hid hy
          subst hA
          have k3 := c4 t (by omega)
          rw [HP1.out t (by omega)] at k3
          have hht : hashF xs t = q := HH.out (by omega)
          rw [hht] at k3
          obtain ⟨p2, hp2⟩ : ∃ p2, p2 = lastF (hashF xs) q t := ⟨_, rfl⟩
          rw [← hp2] at k3
          have hp2t : p2 ≤ t := by rw [hp2]; exact (lastF_spec _ _ _).1
          have HP2 := Lib.hid hp2
          have HHT := Lib.hid hht
          have wp2 : IntKind.i64.wrap ((p2 : Int) - 1) = (p2 : Int) - 1 := IntWalk.i64_in _ (by omega)
          have wk : IntKind.i64.wrap ((kk : Int) + 1) = (kk : Int) + 1 := IntWalk.i64_in _ (by omega)
          have wd : IntKind.i64.wrap ((i : Int) - t) = (i : Int) - t := IntWalk.i64_in _ (by omega)
          have hnext : Hid (bestF xs i (i - p2) = bestF xs i (i - t)) := Lib.hid (by rw [HP2.out, HQQ.out]; exact best_chain (hashF_marks xs) i t (by omega))
          have hprev : Hid (p2 ≠ 0 → hashF xs (p2 - 1) = q) := Lib.hid (by rw [HP2.out]; exact (lastF_spec (hashF xs) q t).2.2)
          have hstep : Hid (bestF xs i (i - t) = updF (l, d) (clF xs i (i - t)) (i - t)) := Lib.hid (by
            rw [show i - t = (i - (t + 1)) + 1 by omega, bestF, HBF.out])
          clear he hri hx hy c4 hp2 hht
          by_cases hxy : y = x
          · have x5 : (y != x) = false := by simpa using hxy
            go_upto_region 12 with (fail)
            go_quiet (fail)
            go_wp2_with fail
            go_roundw
            case rel =>
              refine ⟨kk + 1, by omega, by go_num, rfl, rfl, Lib.hid (fun j hj => ?_), Lib.hid (HK.out.trans (by repeat (first | exact Keeps.refl _ _ | apply Keeps.drewN | apply Keeps.drew)))⟩
              rcases Nat.lt_or_ge j kk with h1 | h1
              · exact HEQ.out j h1
              · obtain rfl : j = kk := by omega
                exact ⟨by omega, by rw [show i + j - (i - t) = t + j by omega, ← HX.out, ← HY.out, hxy]⟩
            case measure => simp [intOf]; omega
          · have x5 : (y != x) = true := by simpa using hxy
            have hcl : clF xs i (i - t) = kk := clF_of xs i (i - t) kk HEQ.out (by have := HE.out; omega) (.inr (.inr (by rw [show i + kk - (i - t) = t + kk by omega, ← HX.out, ← HY.out]; exact fun e => hxy e.symm)))
            rw [hcl] at hstep
            have HCL := Lib.hid hcl
            clear hcl
            by_cases h3 : 3 ≤ kk
            · have x6 : decide ((3 : Int) ≤ (kk : Int)) = true := by simp; omega
              by_cases hlk : l < kk
              · have x7 : decide ((l : Int) < (kk : Int)) = true := by simp; omega
                go_upto_region 12 with (fail)
                go_quiet (fail)
                go_wp2_with fail
                go_roundw
                case rel => exact ⟨p2, kk, i - t, by omega, rfl, rfl, by go_num, Lib.hid (by rw [hnext.out, hstep.out, updF, if_pos ⟨h3, hlk⟩]), hprev, Lib.hid (HK.out.trans (by repeat (first | exact Keeps.refl _ _ | apply Keeps.drewN | apply Keeps.drew)))⟩
                case measure => simp [intOf]; omega
              · have x7 : decide ((l : Int) < (kk : Int)) = false := by simp; omega
                go_upto_region 12 with (fail)
                go_quiet (fail)
                go_wp2_with fail
                go_roundw
                case rel => exact ⟨p2, l, d, by omega, rfl, rfl, rfl, Lib.hid (by rw [hnext.out, hstep.out, updF, if_neg (by rintro ⟨a1, a2⟩; omega)]), hprev, Lib.hid (HK.out.trans (by repeat (first | exact Keeps.refl _ _ | apply Keeps.drewN | apply Keeps.drew)))⟩
                case measure => simp [intOf]; omega
            · have x6 : decide ((3 : Int) ≤ (kk : Int)) = false := by simp; omega
              go_upto_region 12 with (fail)
              go_quiet (fail)
              go_wp2_with fail
              go_roundw
              case rel => exact ⟨p2, l, d, by omega, rfl, rfl, rfl, Lib.hid (by rw [hnext.out, hstep.out, updF, if_neg (by rintro ⟨a1, a2⟩; omega)]), hprev, Lib.hid (HK.out.trans (by repeat (first | exact Keeps.refl _ _ | apply Keeps.drewN | apply Keeps.drew)))⟩
              case measure => simp [intOf]; omega
        · obtain rfl : kk = E := by omega
          have x4 : decide ((kk : Int) < (kk : Int)) = false := by simp
          have wd : IntKind.i64.wrap ((i : Int) - t) = (i : Int) - t := IntWalk.i64_in _ (by omega)
          have he := HE.out
          have hcl : clF xs i (i - t) = kk := clF_of xs i (i - t) kk HEQ.out (by omega) (by omega)
          have hstep : bestF xs i (i - t) = updF (l, d) kk (i - t) := by rw [show i - t = (i - (t + 1)) + 1 by omega, bestF, HBF.out, ← show i - t = (i - (t + 1)) + 1 by omega, hcl]
          by_cases hlk : l < kk
          · have x7 : decide ((l : Int) < (kk : Int)) = true := by simp; omega
            have hb : bestF xs i (i - t) = (kk, i - t) := by rw [hstep, updF, if_pos ⟨by omega, hlk⟩]
            have hm : mF xs i = (kk, i - t) := by rw [← hb]; exact mF_full xs i (i - t) (by omega) (by omega) (by rw [hb, hlen]; exact he)
            have HM := Lib.hid hm
            clear c4 he hcl hstep hb hm
            go_wp2_with fail
            rw [Exit.noGoto_ret]
            go_ret2
            exact ⟨by rw [HM.out, show ((i : Int) - t) = ((i - t : Nat) : Int) by omega]; rfl, i, hk, Nat.le_refl _, H1.out.keeps HK.out (by simp) (by simp) (off_nil _), HK1.out.trans (HK.out.mono (fun x hx => by cases hx))⟩
          · have x7 : decide ((l : Int) < (kk : Int)) = false := by simp; omega
            have hb : bestF xs i (i - t) = (l, d) := by rw [hstep, updF, if_neg (by rintro ⟨a1, a2⟩; omega)]
            have hl2 : l = kk := by
              rcases best_spec xs i (i - (t + 1)) with h1 | ⟨h1, h2, h3, h4⟩
              · rw [HBF.out] at h1; injection h1 with h1 _; omega
              · rw [HBF.out] at h4
                have := clF_le xs i d
                have := clF_end xs i d (by omega)
                simp only [] at h4
                omega
            have hm : mF xs i = (l, d) := by rw [← hb]; exact mF_full xs i (i - t) (by omega) (by omega) (by rw [hb, hlen, ← he]; exact hl2)
            have HM := Lib.hid hm
            have HL2 := Lib.hid hl2
            clear c4 he hcl hstep hb hm hl2
            go_wp2_with fail
            rw [Exit.noGoto_ret]
            go_ret2
            exact ⟨by rw [HM.out]; rfl, i, hk, Nat.le_refl _, H1.out.keeps HK.out (by simp) (by simp) (off_nil _), HK1.out.trans (HK.out.mono (fun x hx => by cases hx))⟩
end Go.Proofs.YtkpabdjniiepkaaGreatDoor

set_option linter.unusedVariables false
set_option linter.unusedSimpArgs false
/-! A range over a function whose iterator has two blocks of its own, laid first: what the two sides owe each other. -/
namespace Go.Proofs.YtkpabdjniiepkaaGreatDoor
open Go.RowKit
/-- These blocks lie as they lay. -/
structure KeepsOn (C : Nat → Prop) (W W' : World) : Prop where
  size : W.heap.size ≤ W'.heap.size
  block : ∀ k, k < W.heap.size → C k → W'.heap[k]? = W.heap[k]?
theorem KeepsOn.trans {C : Nat → Prop} {A B D : World} (h : KeepsOn C A B) (k : KeepsOn C B D) : KeepsOn C A D :=
  ⟨Nat.le_trans h.size k.size, fun i hi hc => (k.block i (Nat.lt_of_lt_of_le hi h.size) hc).trans (h.block i hi hc)⟩
theorem KeepsOn.mono {C C' : Nat → Prop} {A B : World} (h : KeepsOn C A B) (hc : ∀ k, C' k → C k) : KeepsOn C' A B := ⟨h.size, fun i hi h' => h.block i hi (hc i h')⟩
theorem KeepsOn.of {C : Nat → Prop} {S : List Nat} {A B : World} (h : Keeps S A B) (hc : ∀ k, C k → k ∉ S) : KeepsOn C A B := ⟨h.size, fun i hi h' => h.block i hi (hc i h')⟩
theorem keeps_put (W : World) (l : Nat) (o : Obj) : Keeps [l] W (W.putObj l o) :=
  ⟨rfl, rfl, rfl, by simp, fun k hk hn => World.putObj_heap_other (by simpa using hn)⟩
/-- What an iterator gives: these, one after the other, to whatever rounds keep its blocks. -/
def Iter {α : Type} (P : Program) (gf : Nat) (lb : Array Value) (encs : α → Array Value) (toks : List α) (C : Nat → Prop) (w0 : World) : Prop :=
  ∀ (l : Nat) (J : List α → World → Prop) (W : World), Keeps [] w0 W → W.heap.size = w0.heap.size + 2 → (∀ s W1 W2, J s W1 → Keeps [w0.heap.size + 2, w0.heap.size + 3] W1 W2 → J s W2) →
    (∀ pre x W1, J pre W1 → pre.length < toks.length → w0.heap.size + 4 ≤ W1.heap.size → YieldAt Fence.wide 0 P l (encs x) W1 fun e W' => e = .returned (.bool true) ∧ J (pre ++ [x]) W' ∧ KeepsOn C W1 W') →
    J [] W → CallsIn Fence.wide 0 P gf (#[.func (.yield l) #[] #[]] ++ lb) W fun e W' => (∃ v, e = .returned v) ∧ J toks W'
def endPost {α : Type} (C : Nat → Prop) (I : List α → World → Prop) (xs : List α) (W : World) : Exit → Act → World → Prop
  | .normal, _, W' => I xs W' ∧ KeepsOn C W W'
  | _, _, _ => False
set_option maxHeartbeats 1000000 in
theorem range_law {P : Program} {α : Type} {g : Operand} {ps : Array Tmp} {assign body : Code} {Q : Exit → Act → World → Prop} {a : Act} {w : World} {gf : Nat} {lb : Array Value}
    (hg : a.eval g = .func (.func gf) #[] lb) (eg : ∀ args w, (callFunc gf args).run P w = .ok (.enter gf args) w)
    {encs : α → Array Value} {toks : List α} {C : Nat → Prop} (hC : ∀ k, C k → k ≠ w.heap.size + 1) (hseq : Iter P gf lb encs toks C w) (hps : ∀ x, (encs x).size = ps.size)
    (I : List α → World → Prop) (hI : ∀ s W1 W2, I s W1 → Keeps [w.heap.size, w.heap.size + 1, w.heap.size + 2, w.heap.size + 3] W1 W2 → I s W2) (h0 : I [] w)
    (Ax : α → World → Act → World → Prop) (hAx : ∀ x W a' W1, Ax x W a' W1 → Keeps [] W W1)
    (hassign : ∀ (l : Nat) (pre : List α) (x : α) (W : World) (K : Act → World → Prop), I pre W → w.heap.size + 4 ≤ W.heap.size → (∀ a' W1, Ax x W a' W1 → K a' W1) →
      assign.wpIn (Fence.wide.inRound l) 0 P (Exit.then K (fun _ _ _ => False)) { tmps := (ps.zip (encs x)).foldl (fun t (p, v) => t.setIfInBounds p v) a.tmps, defers := [] } W)
    (hbody : ∀ (pre : List α) (x : α) (W : World) (a' : Act) (W1 W2 : World), I pre W → pre.length < toks.length → w.heap.size + 4 ≤ W.heap.size → Ax x W a' W1 → Keeps [w.heap.size + 1] W1 W2 →
      body.wpIn (Fence.wide.inRound (w.heap.size + 1)) 0 P (endPost (fun k => C k ∨ k = w.heap.size ∨ k = w.heap.size + 1) I (pre ++ [x]) W2) a' W2)
    (hdone : ∀ (W : World), I toks W → W.heap[w.heap.size]? = some (.deferred (some [])) → Q .normal { a with defers := { target := .collected w.heap.size, args := #[] } :: a.defers } W) :
    (Code.rangeFunc g ps assign body).wpIn Fence.wide 0 P Q a w := by
  refine wpIn_rangeFunc ?_
  intro fn hfn
  obtain ⟨D, hD⟩ : ∃ D, D = w.heap.size := ⟨_, rfl⟩
  obtain ⟨rec, hrec⟩ : ∃ rec : LoopState → Option Code → Loop, rec = fun st pe => { state := st, pending := pe, fn, tmps := a.tmps, params := ps, assign, body, defers := w.heap.size } := ⟨_, rfl⟩
  obtain ⟨W1, hW1⟩ : ∃ W1, (w.alloc (.deferred (some []))).alloc (.loop (rec .ready none)) = W1 := ⟨_, rfl⟩
  have hk1 : Keeps [] w W1 := by rw [← hW1]; exact ((Keeps.refl [] w).alloc _).alloc _
  have hs1 : W1.heap.size = w.heap.size + 2 := by rw [← hW1]; simp
  have hL1 : W1.heap[w.heap.size + 1]? = some (.loop (rec .ready none)) := by
    rw [← hW1]; have := World.alloc_heap_new (w.alloc (.deferred (some []))) (.loop (rec .ready none)); rwa [World.size_alloc] at this
  have hK1 : W1.heap[w.heap.size]? = some (.deferred (some [])) := by
    rw [← hW1]; exact (Below.heap_alloc _ _ _ (by simp)).trans (World.alloc_heap_new w _)
  refine ⟨w.heap.size + 1, [{ target := .collected w.heap.size, args := #[] }], W1, { target := .fn (.func gf) lb, args := #[.func (.yield (w.heap.size + 1)) #[] #[]] }, W1, gf,
    #[.func (.yield (w.heap.size + 1)) #[] #[]] ++ lb, W1, ?_, ?_, fun _ _ => trivial, ?_, fun h => by simp [Fence.wide] at h, ?_⟩
  · rw [← hW1, hrec]; exact run_enterLoop_outer _ _ _ _ _
  · simp only [resolve, hg]
    simp [go_sem]
  · simp [invoke, go_sem, eg]
  refine (hseq (w.heap.size + 1)
    (fun pre W => I pre W ∧ W.heap[w.heap.size + 1]? = some (.loop (rec .ready none)) ∧ W.heap[w.heap.size]? = some (.deferred (some [])))
    W1 hk1 hs1
    (fun s A B hs hk => ⟨hI s A B hs.1 (hk.mono (fun x hx => by simp at hx ⊢; omega)), hk.heap hs.2.1 (by simp), hk.heap hs.2.2 (by simp)⟩)
    ?_ ⟨hI [] w W1 h0 (hk1.mono (fun x hx => by cases hx)), hL1, hK1⟩).mono ?_
  · rintro pre x W ⟨hi, hl, hk⟩ hpl hsz
    have hy := run_yield (P := P) (args := encs x) hl (by rw [hrec]; exact hps x)
    rw [hrec] at hy
    refine ⟨fn, _, assign, body, hy, roundIn_of_wpIn hfn (hassign _ pre x W _ hi hsz (fun a' W2 hax => ?_))⟩
    have hkx := hAx x W a' W2 hax
    have hl2 := hkx.heap hl (by simp)
    have hd2 := hkx.heap hk (by simp)
    refine ⟨_, run_beginRound hl2 (by rw [hrec]), ?_⟩
    obtain ⟨W3, hW3⟩ : ∃ W3, W2.putObj (w.heap.size + 1) (.loop { rec .ready none with state := .busy }) = W3 := ⟨_, rfl⟩
    rw [hW3]
    have hk3 : Keeps [w.heap.size + 1] W2 W3 := by rw [← hW3]; exact keeps_put _ _ _
    have hl3 : W3.heap[w.heap.size + 1]? = some (.loop { rec .ready none with state := .busy }) := by rw [← hW3]; exact World.putObj_heap_same (Array.getElem?_eq_some_iff.1 hl2).1
    have hd3 := hk3.heap hd2 (by simp)
    refine wpIn_mono (hbody pre x W a' W2 W3 hi hpl hsz hax hk3) ?_
    rintro e a3 W4 hp
    cases e with
    | normal =>
      obtain ⟨hi4, hk4⟩ := hp
      have hl4 := (hk4.block _ (Array.getElem?_eq_some_iff.1 hl3).1 (.inr (.inr rfl))).trans hl3
      have hd4 := (hk4.block _ (Array.getElem?_eq_some_iff.1 hd3).1 (.inr (.inl rfl))).trans hd3
      have hr := run_endRound (P := P) none hl4
      rw [hrec] at hr
      refine ⟨_, _, hr, rfl, ⟨hI _ _ _ hi4 ((keeps_put W4 (w.heap.size + 1) _).mono (fun x hx => by simp at hx ⊢; omega)), ?_, ?_⟩, ?_⟩
      · rw [World.putObj_heap_same (Array.getElem?_eq_some_iff.1 hl4).1, hrec]; rfl
      · exact (World.putObj_heap_other (by omega)).trans hd4
      · refine KeepsOn.trans (KeepsOn.of hkx (fun _ _ => by simp)) (KeepsOn.trans (KeepsOn.of hk3 (fun k hc => by simpa using hC k hc)) (KeepsOn.trans (hk4.mono (fun k hc => .inl hc)) (KeepsOn.of (keeps_put W4 (w.heap.size + 1) _) (fun k hc => by simpa using hC k hc))))
    | _ => exact hp.elim
  · rintro e W2 ⟨⟨v, rfl⟩, hi, hl, hk⟩
    exact ⟨none, _, by have := run_endLoop (P := P) hl (by rw [hrec]; simp); rw [hrec] at this; exact this, hdone _ (hI _ _ _ hi ((keeps_put W2 (w.heap.size + 1) _).mono (fun x hx => by simp at hx ⊢; omega))) ((World.putObj_heap_other (by omega)).trans hk)⟩
end Go.Proofs.YtkpabdjniiepkaaGreatDoor

set_option linter.unusedVariables false
set_option linter.unusedSimpArgs false
namespace Go.Proofs.YtkpabdjniiepkaaGreatDoor
open Go.RowKit
set_option maxRecDepth 100000 in
theorem built_finder (A : Option Addr) (n c b : Nat) : Tryz.prog.built 87 [(0, .slice A n c), (2, .slice (some ⟨b, 0, none⟩) n n)] = some (fcells A n c (List.replicate 4096 0) b 0).toArray := by kernel_rfl
set_option maxRecDepth 100000 in
theorem zero_finder (A : Option Addr) (n c b : Nat) : (Tryz.zeroCells87.setIfInBounds 0 (.slice A n c)).setIfInBounds 4097 (.slice (some ⟨b, 0, none⟩) n n) = (fcells A n c (List.replicate 4096 0) b 0).toArray := by kernel_rfl
theorem nth_rep0 (m v : Nat) (h : v < m) : nth (List.replicate m (0 : Int)) v = 0 := by
  simp [nth, List.getD, List.getElem?_replicate, h]
/-- A new finder. -/
theorem FB.start {w : World} {g b : Nat} {A : Option Addr} {n c : Nat} {xs : List Int} (h1 : Blk w g 87 (fcells A n c (List.replicate 4096 0) b 0)) (h2 : Blk w b 3 (ints .i64 (List.replicate n 0))) (hr : RI .u8 w A n xs) (hc : CapOk A n c) (ho : Off [g, b] A) (hne : g ≠ b) (hb : ∀ j, 0 ≤ nth xs j ∧ nth xs j ≤ 255) (hn : n ≤ 16384) : FB w g b A n c xs 0 :=
  ⟨⟨List.replicate n 0, List.replicate 4096 0, ⟨h1, h2, List.length_replicate, List.length_replicate, hne⟩, fun v hv => by rw [nth_rep0 _ _ hv]; rfl, fun j hj => by omega⟩, hr, hc, ho, hb, hn, Nat.zero_le _⟩
theorem KeepsOn.heap {C : Nat → Prop} {W W' : World} (h : KeepsOn C W W') {g : Nat} {o : Obj} (hg : W.heap[g]? = some o) (hc : C g) : W'.heap[g]? = some o := (h.block g (Array.getElem?_eq_some_iff.1 hg).1 hc).trans hg
theorem KeepsOn.cell {C : Nat → Prop} {W W' : World} (h : KeepsOn C W W') {p : Addr} {v : Value} (hv : W.cell? p = some v) (hc : C p.block) : W'.cell? p = some v := by
  have hlt : p.block < W.heap.size := by
    rcases Nat.lt_or_ge p.block W.heap.size with h1 | h1
    · exact h1
    · exfalso
      have : W.heap[p.block]? = none := Array.getElem?_eq_none h1
      simp [World.cell?, this] at hv
  have e := h.block _ hlt hc
  rw [← hv]
  simp only [World.cell?, e]
theorem FB.keepsOn {w w' : World} {g b : Nat} {A : Option Addr} {n c : Nat} {xs : List Int} {k : Nat} {C : Nat → Prop} (h : FB w g b A n c xs k) (hk : KeepsOn C w w') (hg : C g) (hb : C b) (hA : ∀ a, A = some a → C a.block) : FB w' g b A n c xs k := by
  obtain ⟨pr, last, p1, p2, p3⟩ := h.raw
  exact ⟨⟨pr, last, ⟨hk.heap p1.blk hg, hk.heap p1.row hb, p1.lenP, p1.lenL, p1.ne⟩, p2, p3⟩, ⟨h.ri.len, h.ri.hd, fun bb o ha j hj => hk.cell (h.ri.cell bb o ha j hj) (show C bb from hA _ ha)⟩, h.cap, h.off, h.byte, h.bound, h.known⟩
/-- The tokens, one step on. -/
theorem find_at {xs : List Int} {i : Nat} (h : i < xs.length) : findF xs xs.length i = if (mF xs i).1 = 0 ∨ (mF xs i).1 < (mF xs (i + 1)).1 then (nth xs i, 0, 0) :: findF xs xs.length (i + 1) else (0, ((mF xs i).1 : Int), ((mF xs i).2 : Int)) :: findF xs xs.length (i + (mF xs i).1) := by
  obtain ⟨f, hf⟩ : ∃ f, xs.length = f + 1 := ⟨xs.length - 1, by omega⟩
  have e : findF xs xs.length i = findF xs (f + 1) i := by rw [hf]
  rw [e, findF, if_pos h]
  split
  · rw [find_more xs f xs.length (i + 1) (by omega) (by omega)]
  · next hc =>
    have : 1 ≤ (mF xs i).1 := by omega
    rw [find_more xs f xs.length (i + (mF xs i).1) (by omega) (by omega)]
end Go.Proofs.YtkpabdjniiepkaaGreatDoor

set_option linter.unusedVariables false
set_option linter.unusedSimpArgs false
namespace Go.Proofs.YtkpabdjniiepkaaGreatDoor
open Go.RowKit
set_option maxRecDepth 100000 in
set_option maxHeartbeats 2000000 in
theorem all1_iter (w0 : World) (Bo : Nat) (A : Option Addr) (n c : Nat) (xs : List Int) (hr : RI .u8 w0 A n xs) (hc : CapOk A n c) (hb : ∀ j, 0 ≤ nth xs j ∧ nth xs j ≤ 255) (hn : n ≤ 16384) (hB : w0.cell? ⟨Bo, 0, none⟩ = some (.slice A n c)) (hA : ∀ a, A = some a → a.block < w0.heap.size) (hBo : Bo < w0.heap.size) :
    Iter Tryz.prog 40 #[.pointer (some ⟨Bo, 0, none⟩)] (fun t => #[tokV t]) (tokensF xs) (fun k => k = w0.heap.size + 2 ∨ k = w0.heap.size + 3 ∨ k = Bo ∨ ∃ a, A = some a ∧ k = a.block) w0 := by
  intro l J W hW hWs hJ hY h0
  refine callsIn_wide.2 ?_
  have hlen : xs.length = n := hr.len
  have c0 := hW.cell (p := ⟨Bo, 0, none⟩) (by simp) hB
  have HR := Lib.hid (hr.keeps hW (off_nil _))
  have HJ := Lib.hid hJ
  have HY := Lib.hid hY
  have H0 := Lib.hid h0
  have x1 : decide ((16384 : Int) < (n : Int)) = false := by simp; omega
  clear hr hJ hY h0 hB
  go_enter Tryz.func40, Tryz.ntmps40
  go_wp2_with fail
  have hmk := fun w => make_ints (P := Tryz.prog) w 23 3 .i64 8 Tryz.underlying23 info_int (n : Int) n rfl (by omega) (by omega)
  have hbd := fun (w : World) (b : Nat) => run_build (P := Tryz.prog) w 87 #[(0, .slice A n c), (2, .slice (some ⟨b, 0, none⟩) n n)] _ (built_finder A n c b)
  have c0a : (W.alloc (.cells (ints .i64 (List.replicate n 0)).toArray 3)).cell? ⟨Bo, 0, none⟩ = some (.slice A n c) := ((Keeps.refl [] W).alloc _).cell (by simp) c0
  go_region
  clear hmk hbd c0a
  obtain ⟨m, hm⟩ : ∃ m, m = w0.heap.size + 2 := ⟨_, rfl⟩
  rw [← hm]
  obtain ⟨W2, hW2⟩ : ∃ W2, W2 = (((W.alloc (.cells (ints .i64 (List.replicate n 0)).toArray 3)).alloc (.cells ((Tryz.zeroCells87.setIfInBounds 0 (.slice A n c)).setIfInBounds 4097 (.slice (some ⟨m, 0, none⟩) n n)) 87)).drew) := ⟨_, rfl⟩
  rw [← hW2]
  have hk2 : Keeps [] W W2 := by rw [hW2]; exact (((Keeps.refl [] W).alloc _).alloc _).drew
  have hs2 : W2.heap.size = m + 2 := by rw [hW2]; simp [hWs, hm]
  have hbb : Blk W2 m 3 (ints .i64 (List.replicate n 0)) := by
    have h1 := blk_new W 3 (ints .i64 (List.replicate n 0))
    rw [hWs, ← hm] at h1
    rw [hW2]
    exact h1.keeps (S := []) (((Keeps.refl [] _).alloc _).drew) (by simp)
  have hgg : Blk W2 (m + 1) 87 (fcells A n c (List.replicate 4096 0) m 0) := by
    have h1 := blk_new (W.alloc (.cells (ints .i64 (List.replicate n 0)).toArray 3)) 87 (fcells A n c (List.replicate 4096 0) m 0)
    rw [World.size_alloc, hWs, ← hm] at h1
    rw [hW2, zero_finder]
    exact h1.keeps (S := []) ((Keeps.refl [] _).drew) (by simp)
  have hfb : FB W2 (m + 1) m A n c xs 0 := FB.start hgg hbb (HR.out.keeps hk2 (off_nil _)) hc (fun a ha hx => by have := hA a ha; simp at hx; omega) (by omega) hb hn
  have c2 := hk2.cell (p := ⟨Bo, 0, none⟩) (by simp) c0
  have hj2 := HJ.out [] W W2 H0.out (hk2.mono (fun x hx => by cases hx))
  rw [← hm, show w0.heap.size + 3 = m + 1 by omega] at HJ
  rw [show w0.heap.size + 4 = m + 2 by omega] at HY
  have hfind : [] ++ findF xs xs.length 0 = tokensF xs := rfl
  have HF0 := Lib.hid hfb
  have HJ0 := Lib.hid hj2
  have HT0 := Lib.hid hfind
  have HSZ0 : Hid (m + 2 ≤ W2.heap.size) := Lib.hid (by omega)
  have HM0 := Lib.hid hm
  clear hm hW2 hk2 hs2 hbb hgg hfb hj2 hfind c0 HR H0 hW hWs x1
  go_wp2_with fail
  go_loopw [4] (fun iv wr => ∃ (i k : Nat) (pre : List Tok), i ≤ n ∧ k ≤ i ∧ iv = .int .i64 i ∧ wr.cell? ⟨Bo, 0, none⟩ = some (.slice A n c) ∧ Hid (pre ++ findF xs xs.length i = tokensF xs) ∧ Hid (J pre wr) ∧ Hid (FB wr (m + 1) m A n c xs k) ∧ Hid (m + 2 ≤ wr.heap.size)) (fun iv _ => n - (intOf iv).toNat)
  case atStart => exact ⟨0, 0, [], by omega, by omega, rfl, c2, HT0, HJ0, HF0, HSZ0⟩
  case round =>
    clear HT0 HJ0 HF0 HSZ0 c2
    obtain ⟨i, k, pre, hi, hk, rfl, c2, HT, HJP, HF, HSZ⟩ := hrel
    by_cases hlt : i < n
    · have x2 : decide ((i : Int) < (n : Int)) = true := by simp; omega
      obtain ⟨bb, o, hAA, k1⟩ := HF.out.ri.at (show i < n by omega)
      subst hAA
      have s1 : ((i : Int)).toNat = i := by omega
      have hBm : Bo < m := by have := HM0.out; omega
      have hbbm : bb < m := by have := HM0.out; have := hA _ rfl; simp at this; omega
      go_wp2_with fail
      obtain ⟨x, hx⟩ : ∃ x, x = nth xs i := ⟨_, rfl⟩
      rw [← hx]
      obtain ⟨tb, htb⟩ : ∃ tb, tb = wr.heap.size := ⟨_, rfl⟩
      rw [← htb]
      obtain ⟨w3, hw3⟩ : ∃ w3, w3 = wr.alloc (.cells #[.int .u8 x, .int .i64 0, .int .i64 0] 41) := ⟨_, rfl⟩
      rw [← hw3]
      have hk3 : Keeps [] wr w3 := by rw [hw3]; exact (Keeps.refl [] wr).alloc _
      have hb3 : Blk w3 tb 41 (tcells (x, 0, 0)) := by rw [hw3, htb]; exact blk_new wr _ (tcells (x, 0, 0))
      have hs3 : m + 2 ≤ w3.heap.size := Nat.le_trans HSZ.out hk3.size
      have htm : m + 2 ≤ tb := by rw [htb]; exact HSZ.out
      have HF3 := Lib.hid (HF.out.keeps hk3 (by simp) (by simp) (off_nil _))
      have HTB : Hid (wr.heap.size ≤ tb) := Lib.hid (by omega)
      have HX := Lib.hid hx
      have HK3 := Lib.hid hk3
      have HB3 := Lib.hid hb3
      clear hx hw3 hk3 hb3 HF k1 htb
      refine (match_calls w3 (m + 1) m _ n c xs k i HF3.out hk (by omega)).mono ?_
      rintro _ w4 ⟨rfl, k', hk1, hk2, h4, hkp4⟩
      have c4 := hkp4.cell (p := ⟨Bo, 0, none⟩) (by simp; omega) (HK3.out.cell (p := ⟨Bo, 0, none⟩) (by simp) c2)
      have HB4 := Lib.hid (HB3.out.keeps hkp4 (by simp; omega))
      have HJ4 := Lib.hid (HJ.out pre wr w4 HJP.out ((HK3.out.mono (fun x hx => by cases hx)).trans (hkp4.mono (fun x hx => by simp at hx ⊢; omega))))
      have HKR4 := Lib.hid ((HK3.out.mono (S' := [m, m + 1]) (fun x hx => by cases hx)).trans (hkp4.mono (S' := [m, m + 1]) (fun x hx => by simp at hx ⊢; omega)))
      have HF4 := Lib.hid h4
      have HS4 : Hid (m + 2 ≤ w4.heap.size) := Lib.hid (Nat.le_trans hs3 hkp4.size)
      have HFA := Lib.hid (find_at (xs := xs) (i := i) (by omega))
      have HTS := Lib.hid HT.out
      have HPL : Hid (pre.length < (tokensF xs).length) := Lib.hid (by rw [← HTS.out, List.length_append, find_at (xs := xs) (i := i) (by omega)]; split <;> simp)
      clear h4 hkp4 HF3 HB3 HK3 c2 hs3 HSZ HT
      have hsp := mF_spec xs i
      generalize hmm : mF xs i = mm at *
      obtain ⟨ln, ds⟩ := mm
      simp only [] at HFA hsp ⊢
      have HMM := Lib.hid hmm
      have HSP := Lib.hid hsp
      clear hmm hsp
      by_cases hz : ln = 0
      · subst hz
        have x3 : decide ((0 : Int) < ((0 : Nat) : Int)) = false := by decide
        obtain ⟨fn, tmps, assign, body, hy, hR⟩ := HY.out pre (x, 0, 0) w4 HJ4.out HPL.out HS4.out
        have HRR := Lib.hid hR
        clear hR
        obtain ⟨t0, t1, t2⟩ : w4.cell? ⟨tb, 0, none⟩ = some (.int .u8 x) ∧ w4.cell? ⟨tb, 1, none⟩ = some (.int .i64 0) ∧ w4.cell? ⟨tb, 2, none⟩ = some (.int .i64 0) := ⟨HB4.out.cell 0, HB4.out.cell 1, HB4.out.cell 2⟩
        go_upto_region 11 with (fail)
        dsimp only [tokV] at hy
        refine (wpIn_wide (n := 0)).1 ?_
        gi_wp2
        refine ⟨rfl, HRR.out.mono ?_⟩
        rintro _ W5 ⟨rfl, hJ5, hk5⟩
        have c5 := hk5.cell (p := ⟨Bo, 0, none⟩) c4 (.inr (.inr (.inl rfl)))
        have HJ5 := Lib.hid hJ5
        have HF5 := Lib.hid (HF4.out.keepsOn hk5 (.inr (.inl (by have := HM0.out; omega))) (.inl HM0.out) (fun a ha => .inr (.inr (.inr ⟨a, ha, rfl⟩))))
        have HS5 : Hid (m + 2 ≤ W5.heap.size) := Lib.hid (Nat.le_trans HS4.out hk5.size)
        clear hJ5 hk5 hy HRR c4 HB4 HF4 HS4 HJ4
        have w1 : IntKind.i64.wrap ((i : Int) + 1) = (i : Int) + 1 := IntWalk.i64_in _ (by omega)
        gi_wp2
        go_wp2_with fail
        go_roundw
        case rel =>
          refine ⟨i + 1, k', pre ++ [(x, 0, 0)], by omega, by omega, by go_num, c5, Lib.hid ?_, HJ5, HF5, HS5⟩
          rw [if_pos (.inl (by simp)), ← HX.out] at HFA
          rw [← HTS.out, HFA.out, List.append_assoc]; rfl
        case measure => simp [intOf]; omega
      · have x3 : decide ((0 : Int) < (ln : Int)) = true := by simp; omega
        obtain ⟨q1, q2, q3, q4⟩ := HSP.out.resolve_left (fun e => hz (congrArg Prod.fst e))
        have hend := clF_end xs i ds (by omega)
        rw [q4, hlen] at hend
        have HQ4 := Lib.hid q4
        clear q4
        have w1 : IntKind.i64.wrap ((i : Int) + 1) = (i : Int) + 1 := IntWalk.i64_in _ (by omega)
        have wl : IntKind.i64.wrap ((i : Int) + ln) = (i : Int) + ln := IntWalk.i64_in _ (by omega)
        go_wp2_with fail
        have hcall := match_calls w4 (m + 1) m _ n c xs k' (i + 1) HF4.out (by omega) (by omega)
        rw [show (((i + 1 : Nat) : Int)) = (i : Int) + 1 by omega] at hcall
        refine hcall.mono ?_
        clear hcall
        rintro _ w6 ⟨rfl, k6, hk61, hk62, h6, hkp6⟩
        have c6 := hkp6.cell (p := ⟨Bo, 0, none⟩) (by simp; omega) c4
        have hB6 := HB4.out.keeps hkp6 (by simp; omega)
        have HJ6a := Lib.hid (HJ.out pre w4 w6 HJ4.out (hkp6.mono (fun x hx => by simp at hx ⊢; omega)))
        have HKR6 := Lib.hid (HKR4.out.trans (hkp6.mono (S' := [m, m + 1]) (fun x hx => by simp at hx ⊢; omega)))
        have HF6a := Lib.hid h6
        have HS6a : Hid (m + 2 ≤ w6.heap.size) := Lib.hid (Nat.le_trans HS4.out hkp6.size)
        have HB6a := Lib.hid hB6
        clear h6 hkp6 hB6 c4 HF4 HB4 HS4 HJ4
        generalize (mF xs (i + 1)).1 = l2 at *
        generalize (mF xs (i + 1)).2 = d2 at *
        by_cases hl2 : l2 ≤ ln
        · have x4 : decide ((l2 : Int) ≤ (ln : Int)) = true := by simp; omega
          obtain ⟨t0, t1, t2⟩ : w6.cell? ⟨tb, 0, none⟩ = some (.int .u8 x) ∧ w6.cell? ⟨tb, 1, none⟩ = some (.int .i64 0) ∧ w6.cell? ⟨tb, 2, none⟩ = some (.int .i64 0) := ⟨HB6a.out.cell 0, HB6a.out.cell 1, HB6a.out.cell 2⟩
          have fz := HB6a.out.frozen
          go_upto_region 11 with (fail)
          obtain ⟨W6, hW6⟩ : ∃ W6, W6 = (((w6.setCell ⟨tb, 0, none⟩ (.int .u8 0)).setCell ⟨tb, 1, none⟩ (.int .i64 ln)).setCell ⟨tb, 2, none⟩ (.int .i64 ds)) := ⟨_, rfl⟩
          rw [← hW6]
          have hk6 : Keeps [tb] w6 W6 := by rw [hW6]; exact (((Keeps.refl [tb] w6).setCell (p := ⟨tb, 0, none⟩) (.inl (by simp)) _).setCell (p := ⟨tb, 1, none⟩) (.inl (by simp)) _).setCell (p := ⟨tb, 2, none⟩) (.inl (by simp)) _
          have hkr : Keeps [m, m + 1] wr W6 := by rw [hW6]; exact (((HKR6.out).setCell (p := ⟨tb, 0, none⟩) (.inr HTB.out) _).setCell (p := ⟨tb, 1, none⟩) (.inr HTB.out) _).setCell (p := ⟨tb, 2, none⟩) (.inr HTB.out) _
          have hb6 : Blk W6 tb 41 (tcells (0, ln, ds)) := by rw [hW6]; exact ((HB6a.out.set 0 _).set 1 _).set 2 _
          have HB6 := Lib.hid hb6
          have HJ6 := Lib.hid (HJ.out pre wr W6 HJP.out hkr)
          have HF6 := Lib.hid (HF6a.out.keeps hk6 (by simp; omega) (by simp; omega) (fun a ha => by injection ha with ha; subst ha; simp; omega))
          have HS6 : Hid (m + 2 ≤ W6.heap.size) := Lib.hid (Nat.le_trans HS6a.out hk6.size)
          replace c6 := hk6.cell (p := ⟨Bo, 0, none⟩) (by simp; omega) c6
          clear hW6 hk6 hkr hb6 HB6a HJ6a HF6a HS6a t0 t1 t2 fz HKR6 HJP
          obtain ⟨fn, tmps, assign, body, hy, hR⟩ := HY.out pre (0, (ln : Int), (ds : Int)) W6 HJ6.out HPL.out HS6.out
          have HRR := Lib.hid hR
          clear hR
          obtain ⟨t0, t1, t2⟩ : W6.cell? ⟨tb, 0, none⟩ = some (.int .u8 0) ∧ W6.cell? ⟨tb, 1, none⟩ = some (.int .i64 ln) ∧ W6.cell? ⟨tb, 2, none⟩ = some (.int .i64 ds) := ⟨HB6.out.cell 0, HB6.out.cell 1, HB6.out.cell 2⟩
          dsimp only [tokV] at hy
          refine (wpIn_wide (n := 0)).1 ?_
          gi_wp2
          refine ⟨rfl, HRR.out.mono ?_⟩
          rintro _ W7 ⟨rfl, hJ7, hk7⟩
          have c7 := hk7.cell (p := ⟨Bo, 0, none⟩) c6 (.inr (.inr (.inl rfl)))
          have HJ7 := Lib.hid hJ7
          have HF7 := Lib.hid (HF6.out.keepsOn hk7 (.inr (.inl (by have := HM0.out; omega))) (.inl HM0.out) (fun a ha => .inr (.inr (.inr ⟨a, ha, rfl⟩))))
          have HS7 : Hid (m + 2 ≤ W7.heap.size) := Lib.hid (Nat.le_trans HS6.out hk7.size)
          clear hJ7 hk7 hy HRR c6 HB6 HF6 HS6 HJ6
          gi_wp2
          go_wp2_with fail
          go_roundw
          case rel =>
            refine ⟨i + ln, k6, pre ++ [(0, (ln : Int), (ds : Int))], by omega, by omega, by go_num, c7, Lib.hid ?_, HJ7, HF7, HS7⟩
            have hfa := HFA.out
            rw [if_neg (by rintro (h1 | h1) <;> omega)] at hfa
            rw [← HTS.out, hfa, List.append_assoc]; rfl
          case measure => simp [intOf]; omega
        · have x4 : decide ((l2 : Int) ≤ (ln : Int)) = false := by simp; omega
          have HB6 := HB6a
          have HF6 := HF6a
          have HJ6 := HJ6a
          have HS6 := HS6a
          clear HB6a HF6a HJ6a HS6a
          obtain ⟨fn, tmps, assign, body, hy, hR⟩ := HY.out pre (x, 0, 0) w6 HJ6.out HPL.out HS6.out
          have HRR := Lib.hid hR
          clear hR
          obtain ⟨t0, t1, t2⟩ : w6.cell? ⟨tb, 0, none⟩ = some (.int .u8 x) ∧ w6.cell? ⟨tb, 1, none⟩ = some (.int .i64 0) ∧ w6.cell? ⟨tb, 2, none⟩ = some (.int .i64 0) := ⟨HB6.out.cell 0, HB6.out.cell 1, HB6.out.cell 2⟩
          go_upto_region 11 with (fail)
          dsimp only [tokV] at hy
          refine (wpIn_wide (n := 0)).1 ?_
          gi_wp2
          refine ⟨rfl, HRR.out.mono ?_⟩
          rintro _ W7 ⟨rfl, hJ7, hk7⟩
          have c7 := hk7.cell (p := ⟨Bo, 0, none⟩) c6 (.inr (.inr (.inl rfl)))
          have HJ7 := Lib.hid hJ7
          have HF7 := Lib.hid (HF6.out.keepsOn hk7 (.inr (.inl (by have := HM0.out; omega))) (.inl HM0.out) (fun a ha => .inr (.inr (.inr ⟨a, ha, rfl⟩))))
          have HS7 : Hid (m + 2 ≤ W7.heap.size) := Lib.hid (Nat.le_trans HS6.out hk7.size)
          clear hJ7 hk7 hy HRR c6 HB6 HF6 HS6 HJ6
          gi_wp2
          go_wp2_with fail
          go_roundw
          case rel =>
            refine ⟨i + 1, k6, pre ++ [(x, 0, 0)], by omega, by omega, by go_num, c7, Lib.hid ?_, HJ7, HF7, HS7⟩
            have hfa := HFA.out
            rw [if_pos (.inr (by omega)), ← HX.out] at hfa
            rw [← HTS.out, hfa, List.append_assoc]; rfl
          case measure => simp [intOf]; omega
    · obtain rfl : i = n := by omega
      have x2 : decide ((i : Int) < (i : Int)) = false := by simp
      go_wp2_with fail
      go_end0
      refine ⟨⟨_, rfl⟩, ?_⟩
      have := HT.out
      have e : findF xs xs.length i = [] := by
        cases hxl : xs.length with
        | zero => rfl
        | succ f => rw [findF, if_neg (by omega)]
      rw [e, List.append_nil] at this
      rw [← this]; exact HJP.out
end Go.Proofs.YtkpabdjniiepkaaGreatDoor

set_option linter.unusedVariables false
set_option linter.unusedSimpArgs false
namespace Go.Proofs.YtkpabdjniiepkaaGreatDoor
open Go.RowKit
set_option maxRecDepth 100000 in
set_option maxHeartbeats 1000000 in
theorem all_calls (w : World) (A : Option Addr) (n c : Nat) (xs : List Int) (hr : RI .u8 w A n xs) (hnil : A = none → n = 0 ∧ c = 0) (hn : n ≤ 100000000) :
    Calls Tryz.prog 25 #[.slice A n c] w fun e w' => ∃ (Bo : Nat) (A' : Option Addr) (c' : Nat), e = .returned (.func (.func 40) #[] #[.pointer (some ⟨Bo, 0, none⟩)]) ∧ w'.cell? ⟨Bo, 0, none⟩ = some (.slice A' n c') ∧
      w'.ownsRow w.heap.size 5 1 (.slice A' n c') n (ints .u8 xs) ∧ w.heap.size ≤ Bo ∧ Bo < w'.heap.size ∧ Below w.heap.size w w' := by
  have HR := Lib.hid hr
  have HN := Lib.hid hnil
  have hmf : ∀ (fn : Fn) (first cap : Array Value) (w : World), (Instr.makeFunc fn first cap).run Tryz.prog w = .ok (.func fn first cap) w := fun _ _ _ _ => rfl
  clear hr hnil
  go_enter Tryz.func25, Tryz.ntmps25
  go_wp2_with (at_builtin; refine app_bytesB rfl (.const (.slice none 0 0)) (.tmp 4) rfl w.heap.size _ _ [] rfl (World.ownsRow_nil _ _ _ _) A n c xs rfl (by exact HR.out) HN.out ?c1 (Nat.le_refl _) ?_)
  case c1 => omega
  intro v' w1 hown hgrow hwhere
  obtain ⟨A', c', rfl⟩ := own_formW hown
  have hb : Below w.heap.size w w1 := (Below.refl _ w).grown hgrow (Nat.le_refl _) (fun k hk => by simp [Value.ownBlock] at hk)
  have HO := Lib.hid hown
  have HB := Lib.hid hb
  clear hown hgrow hwhere hb
  go_wp2_with fail
  go_ret
  refine ⟨w1.heap.size, A', c', rfl, ?_, HO.out.alloc _, HB.out.size, by simp, HB.out.trans (((Below.refl w1.heap.size w1).alloc (Nat.le_refl _) _).mono HB.out.size)⟩
  have := blk_new w1 22 [.slice A' n c']
  exact this.cell 0
end Go.Proofs.YtkpabdjniiepkaaGreatDoor

set_option linter.unusedVariables false
set_option linter.unusedSimpArgs false
namespace Go.Proofs.YtkpabdjniiepkaaGreatDoor
open Go.RowKit Go.Shelf
attribute [local go_sem] Oper.semAt_some
theorem info_tok : (Tryz.prog.info? 41).map (fun i => (i.zero, i.size, i.bytes)) = some (some (.agg #[.int .u8 0, .int .i64 0, .int .i64 0]), 3, 24) := by kernel_rfl
theorem tcells_one (p : Tok) : ∀ u ∈ tcells p, u.oneCell' = true := by
  intro u hu
  simp [tcells] at hu
  rcases hu with rfl | rfl | rfl <;> rfl
/-- 's = append(s, t)' of one token, inside a round. -/
theorem app_tokIn {F : Fence} {k : Nat} {ops : Array Oper} {rest : List Oper} {o : Oper} {a : Act} {Q : Exit → Act → World → Prop} {w : World} (hgd : o.guard = none) (s x : Operand)
    (ho : o.op = .call { callee := .builtin .append, args := #[s, x], argTypes := #[35, 35] })
    (base : Nat) (v : Value) (n : Nat) (L : List Tok) (hs : a.eval s = v) (hown : w.ownsRow base 41 3 v n (L.flatMap tcells))
    (b : Nat) (p : Tok) (hx : a.eval x = .slice (some ⟨b, 0, none⟩) 1 1) (h0 : w.cell? ⟨b, 0, none⟩ = some (.int .u8 p.1)) (h1 : w.cell? ⟨b, 1, none⟩ = some (.int .i64 p.2.1)) (h2 : w.cell? ⟨b, 2, none⟩ = some (.int .i64 p.2.2))
    (hn : n ≤ 1000000000) (hbase : base ≤ w.heap.size)
    (h : ∀ v' w', w'.ownsRow base 41 3 v' (n + 1) ((L ++ [p]).flatMap tcells) → w.grownBy w' v.ownBlock → wpListIn F k Tryz.prog ops Q rest (a.put o.dst v') w') : wpListIn F k Tryz.prog ops Q (o :: rest) a w := by
  obtain ⟨i0, hi, hz0, hz1, hz2⟩ := info_parts info_tok
  refine wpListIn_append_own w hgd s x 35 ho base 41 i0 (.agg #[.int .u8 0, .int .i64 0, .int .i64 0]) 3 24 Tryz.underlying35 hi hz0 hz1 hz2 rfl (by decide) v n (L.flatMap tcells) hs hown ⟨b, 0, none⟩ 1 1 (tcells p) hx rfl ?_ (tcells_one p) (by unfold maxLen; omega) (by omega) hbase ?_
  · intro j u hu
    match j, hu with
    | 0, hu => simp [tcells] at hu; subst hu; rw [add_plain]; exact h0
    | 1, hu => simp [tcells] at hu; subst hu; rw [add_plain]; exact h1
    | 2, hu => simp [tcells] at hu; subst hu; rw [add_plain]; exact h2
    | j + 3, hu => simp [tcells] at hu
  · intro v' w' h2 h3 _
    rw [List.flatMap_append, List.flatMap_singleton] at h
    exact h v' w' h2 h3
theorem own_off {w : World} {base n : Nat} {A : Option Addr} {c : Nat} {xs : List Int} (h : w.ownsRow base 5 1 (.slice A n c) n (ints .u8 xs)) : ∀ a, A = some a → a.block < w.heap.size := by
  obtain ⟨A5, c5, h1, -, h3, h4⟩ := own_ri h
  injection h1 with q1 q2 q3
  subst q1
  exact fun a ha => (h4 a ha).2.1
theorem own_ge {w : World} {base size n : Nat} {e : TypeId} {v : Value} {xs : List Value} (h : w.ownsRow base e size v n xs) : ∀ g, v.ownBlock = some g → base ≤ g := by
  intro g hg
  rcases h.2 with h2 | ⟨g2, cap, cur, hv, hb, -⟩
  · rw [h2.1] at hg; simp [Value.ownBlock] at hg
  · rw [hv] at hg
    simp [Value.ownBlock] at hg
    omega
theorem own_lower {w : World} {base b2 size n : Nat} {e : TypeId} {v : Value} {xs : List Value} (h : w.ownsRow base e size v n xs) (hb2 : b2 ≤ base) : w.ownsRow b2 e size v n xs := by
  refine ⟨h.1, ?_⟩
  rcases h.2 with h2 | ⟨g2, cap, cur, hv, hb, hh⟩
  · exact .inl h2
  · exact .inr ⟨g2, cap, cur, hv, Nat.le_trans hb2 hb, hh⟩
theorem keeps_below {S : List Nat} {W1 W2 : World} {n0 : Nat} (h : Keeps S W1 W2) (hn : n0 ≤ W1.heap.size) (hS : ∀ x ∈ S, n0 ≤ x) : Below n0 W1 W2 :=
  ⟨h.os, h.tape, h.output, h.size, fun k hk => h.block k (by omega) (fun hm => by have := hS k hm; omega)⟩
set_option maxRecDepth 100000 in
set_option maxHeartbeats 1000000 in
theorem find_calls (w : World) (A : Option Addr) (n c : Nat) (xs : List Int) (hr : RI .u8 w A n xs) (hnil : A = none → n = 0 ∧ c = 0) (hn : n ≤ 16384) (hb : ∀ j, 0 ≤ nth xs j ∧ nth xs j ≤ 255) :
    Calls Tryz.prog 11 #[.slice A n c] w fun e w' => ∃ v, e = .returned v ∧ w'.ownsRow w.heap.size 41 3 v (tokensF xs).length ((tokensF xs).flatMap tcells) ∧ Below w.heap.size w w' := by
  have HR := Lib.hid hr
  have HN := Lib.hid hnil
  clear hr hnil
  refine (callsIn_wide (n := 0)).1 (callsIn_of_wp_marks Tryz.func11 rfl trivial ?_ rfl)
  simp only [Tryz.ntmps11, List.size_toArray, List.length_cons, List.length_nil, Nat.reduceAdd, Nat.reduceSub, Array.replicate_succ, Array.replicate_zero, List.push_toArray, List.append_toArray, List.nil_append, List.cons_append]
  gi_wp2
  refine ⟨trivial, rfl, ((callsIn_wide (n := 0)).2 (all_calls _ A n c xs (HR.out.keeps ((Keeps.refl [] w).alloc _) (off_nil _)) HN.out (by omega))).mono ?_⟩
  rintro _ w2 ⟨Bo, A', c', rfl, hBo, hown, hge, hlt, hbel⟩
  have hbox : w2.heap[w.heap.size]? = some (.cells #[.slice none 0 0] 35 (0, 0)) := by
    have h1 := blk_new w 35 [.slice none 0 0]
    exact (hbel.block _ (by simp)).trans h1
  have hb2 : Below w.heap.size w w2 := ((Below.refl w.heap.size w).alloc (Nat.le_refl _) _).trans (hbel.mono (by simp))
  have HBO := Lib.hid hBo
  have HOW := Lib.hid hown
  have HGE := Lib.hid hge
  have HLT := Lib.hid hlt
  have HBX := Lib.hid hbox
  have HB2 := Lib.hid hb2
  clear hBo hown hge hlt hbel hbox hb2
  gi_wp2
  obtain ⟨ri', -⟩ : RI .u8 w2 A' n xs ∧ True := by
    obtain ⟨A5, c5, h1, h2, -, -⟩ := own_ri HOW.out
    injection h1 with q1 q2 q3
    subst q1
    exact ⟨h2, trivial⟩
  refine range_law (gf := 40) (lb := #[.pointer (some ⟨Bo, 0, none⟩)]) rfl (enters_of Tryz.func40 (by kernel_rfl) rfl) ?hC
    (all1_iter w2 Bo A' n c' xs ri' (own_cap HOW.out) hb hn HBO.out ?hA HLT.out) (fun _ => rfl)
    (fun pre W => (∃ v, W.heap[w.heap.size]? = some (.cells #[v] 35 (0, 0)) ∧ W.ownsRow (w2.heap.size + 4) 41 3 v pre.length (pre.flatMap tcells)) ∧ Below w.heap.size w W)
    ?hI ?h0 (fun x W a' W1 => W1 = W.alloc (.cells (tcells x).toArray 41) ∧ a' = { tmps := #[.slice A n c, undef, .slice none 0 0, .pointer (some ⟨w.heap.size, 0, none⟩), .pointer (some ⟨W.heap.size, 0, none⟩), .slice A n c, .func (.func 40) #[] #[.pointer (some ⟨Bo, 0, none⟩)], tokV x, undef, undef, undef, undef, undef], defers := [] }) ?hAx ?assign ?body ?done
  case hC =>
    have h1 := HLT.out
    rintro k (h | h | h | ⟨a, ha, h⟩)
    · omega
    · omega
    · omega
    · have := (own_off HOW.out) a ha
      omega
  case hA => exact fun a ha => (own_off HOW.out) a ha
  case h0 => exact ⟨⟨_, HBX.out, World.ownsRow_nil _ _ _ _⟩, HB2.out⟩
  case hAx => rintro x W a' W1 ⟨rfl, -⟩; exact (Keeps.refl [] W).alloc _
  case hI =>
    have hsz := HB2.out.size
    have hlt2 := HGE.out
    have hlt3 := HLT.out
    simp at hlt2
    rintro s W1 W2 ⟨⟨v, hv, ho⟩, hB⟩ hk
    refine ⟨⟨v, hk.heap hv (by simp; omega), own_keeps ho hk (fun g hg hm => by have := own_ge ho g hg; simp at hm; omega)⟩, hB.trans (keeps_below hk hB.size (fun x hx => by simp at hx; omega))⟩
  case assign =>
    intro l pre x W K hi hsz hK
    have HK := Lib.hid hK
    clear hK
    dsimp only [tokV]
    gi_wp2
    exact HK.out _ _ ⟨rfl, rfl⟩
  case done =>
    rintro W ⟨⟨v, hv, ho⟩, hB⟩ hD
    have hc : W.cell? ⟨w.heap.size, 0, none⟩ = some v := by simp [World.cell?, hv]
    have HO := Lib.hid ho
    have HBW := Lib.hid hB
    clear hv ho hB
    gi_wp2
    refine ⟨by simp, .inl ⟨_, _, rfl, run_takeDeferred hD, ?_⟩⟩
    exact ⟨_, results_tmp rfl _ _ _, v, rfl, own_lower (own_keeps HO.out (keeps_put W w2.heap.size _) (fun g hg hm => by have := own_ge HO.out g hg; simp at hm; omega)) (by have := HB2.out.size; omega),
      HBW.out.trans (keeps_below (keeps_put W w2.heap.size _) HBW.out.size (fun x hx => by simp at hx; have := HB2.out.size; omega))⟩
  case body =>
    rintro pre x W a' W1 W2 ⟨⟨v, hv, ho⟩, hB⟩ hpl hsz ⟨rfl, rfl⟩ hk2
    have hbs := HB2.out.size
    have hc : W2.cell? ⟨w.heap.size, 0, none⟩ = some v := by
      have h1 : (W.alloc (.cells (tcells x).toArray 41)).heap[w.heap.size]? = some (.cells #[v] 35 (0, 0)) := ((Keeps.refl [] W).alloc _).heap hv (by simp)
      have h2 := hk2.heap h1 (by simp; omega)
      simp [World.cell?, h2]
    have hx : Blk W2 W.heap.size 41 (tcells x) := (blk_new W _ (tcells x)).keeps hk2 (by simp; omega)
    have t0 := hx.cell 0
    have t1 := hx.cell 1
    have t2 := hx.cell 2
    simp only [tcells, List.getElem?_cons_zero, List.getElem?_cons_succ] at t0 t1 t2
    have hne : ∀ g, v.ownBlock = some g → w2.heap.size + 4 ≤ g := own_ge ho
    have hw2 : W2.heap[w.heap.size]? = some (.cells #[v] 35 (0, 0)) := by
      have h1 : (W.alloc (.cells (tcells x).toArray 41)).heap[w.heap.size]? = some (.cells #[v] 35 (0, 0)) := ((Keeps.refl [] W).alloc _).heap hv (by simp)
      exact hk2.heap h1 (by simp; omega)
    have hfz : W2.frozen? ⟨w.heap.size, 0, none⟩ = false := by simp [World.frozen?, hw2]
    have HW2 := Lib.hid hw2
    have hlen : pre.length + 1 ≤ 16384 := by
      have h1 := find_len xs xs.length 0
      have h2 := ri'.len
      unfold tokensF at hpl
      omega
    have HO := Lib.hid (own_keeps (ho.alloc (.cells (tcells x).toArray 41)) hk2 (fun g hg hm => by have := hne g hg; simp at hm; omega))
    have hks : W.heap.size < W2.heap.size := by have h1 := hk2.size; simp at h1; omega
    have HKS := Lib.hid hks
    have HBW := Lib.hid hB
    have HNE := Lib.hid hne
    have HK2 := Lib.hid hk2
    have hbx : w.heap.size < W2.heap.size := by omega
    have HBX2 := Lib.hid hbx
    clear hv ho hB hx hk2 hne ri' hks hw2
    gi_wp2_with (gi_at_builtin; refine app_tokIn rfl (.tmp 8) (.tmp 10) rfl (w2.heap.size + 4) v pre.length pre ?_ (by exact HO.out.alloc _) W2.heap.size x ?_ (by simp) (by simp) (by simp) (by omega) ?_ ?_)
    · rfl
    · rfl
    · have h1 := HKS.out; simp; omega
    · intro v' w' h1 hg
      obtain ⟨A9, c9, rfl⟩ := own_formW h1
      have hbl : w'.heap[w.heap.size]? = W2.heap[w.heap.size]? := (hg.block _ (by simp; omega) (fun e => by have := HNE.out _ e.symm; omega)).trans (Go.Deep.blk_alloc_lt _ _ _ hbx)
      have hc' : w'.cell? ⟨w.heap.size, 0, none⟩ = some v := (World.cell?_of_block (a := ⟨w.heap.size, 0, none⟩) hbl).trans hc
      have hf' : w'.frozen? ⟨w.heap.size, 0, none⟩ = false := (World.frozen?_of_block (a := ⟨w.heap.size, 0, none⟩) hbl).trans hfz
      have HH := Lib.hid (hbl.trans HW2.out)
      have H1 := Lib.hid h1
      have HG := Lib.hid hg
      clear h1 hg hbl t0 t1 t2 hc hfz
      gi_wp2_with fail
      refine ⟨⟨⟨.slice A9 (pre.length + 1) c9, ?_, ?_⟩, ?_⟩, ?_⟩
      · have h1 : Blk w' w.heap.size 35 [v] := HH.out
        exact Blk.set h1 0 _
      · rw [List.length_append, List.flatMap_append, List.flatMap_singleton]
        exact ownsRow_setCell_below H1.out (show w.heap.size < w2.heap.size + 4 by omega) _
      · have hk : Keeps [w2.heap.size + 1] W W2 := ((Keeps.refl [] W).alloc (.cells (tcells x).toArray 41)).mono (fun _ h => by cases h) |>.trans HK2.out
        have hb1 := HBW.out.trans (keeps_below hk HBW.out.size (fun z hz => by simp at hz; omega))
        exact ((hb1.alloc hb1.size _).grown HG.out (by have := hb1.size; simp; omega) (fun g hg => by have := HNE.out g hg; omega)).setCell (p := ⟨w.heap.size, 0, none⟩) (Nat.le_refl _) _
      · refine ⟨?_, fun k hk hc => ?_⟩
        · have := HG.out.size; simp at this; simp [World.setCell]; omega
        · have hge := HGE.out
          simp at hge
          have hlo : k < w2.heap.size + 4 := by
            have hlt := HLT.out
            rcases hc with (h | h | h | ⟨a, ha, h⟩) | h | h
            · omega
            · omega
            · omega
            · have := (own_off HOW.out) a ha; omega
            · omega
            · omega
          have hkw : k ≠ w.heap.size := by
            rcases hc with (h | h | h | ⟨a, ha, h⟩) | h | h
            · omega
            · omega
            · omega
            · obtain ⟨A5, c5, q1, -, q3, q4⟩ := own_ri HOW.out
              injection q1 with q5 q6 q7
              subst q5
              have := (q4 a ha).1
              simp at this
              omega
            · have := (Array.getElem?_eq_some_iff.1 HBX.out).1; omega
            · omega
          exact (Go.Deep.blk_setCell_other _ _ _ _ hkw).trans ((HG.out.block k (by simp; omega) (fun e => by have := HNE.out _ e.symm; omega)).trans (Go.Deep.blk_alloc_lt _ _ _ hk))
end Go.Proofs.YtkpabdjniiepkaaGreatDoor

set_option linter.unusedVariables false
set_option linter.unusedSimpArgs false
namespace Go.Proofs.YtkpabdjniiepkaaGreatDoor
open Go.RowKit
theorem Keeps.under {S : List Nat} {w w1 w2 : World} {B : Nat} (h : Keeps S w w1) (hb : Below B w1 w2) (hB : w.heap.size ≤ B) : Keeps S w w2 :=
  ⟨hb.os.trans h.os, hb.tape.trans h.tape, hb.output.trans h.output, Nat.le_trans h.size hb.size, fun k hk hs => (hb.block k (by omega)).trans (h.block k hk hs)⟩
theorem own_full {w : World} {base : Nat} {e : TypeId} {v : Value} {n : Nat} {k : IntKind} {xs : List Int} (h : w.ownsRow base e 1 v n (ints k xs)) :
    ∃ A c, v = .slice A n c ∧ RI k w A n xs ∧ n ≤ c ∧ (A = none → n = 0 ∧ c = 0) ∧ (∀ ad, A = some ad → ∃ b o, ad = ⟨b, o, none⟩) ∧ (∀ a, A = some a → base ≤ a.block ∧ a.block < w.heap.size) := by
  obtain ⟨A, c, rfl, h1, h2, h3⟩ := own_ri h
  refine ⟨A, c, rfl, h1, h2, ?_, ?_, fun a ha => ⟨(h3 a ha).1, (h3 a ha).2.1⟩⟩
  · rintro rfl
    rcases h.2 with ⟨h4, h5⟩ | ⟨g, cap, cur, h4, _⟩
    · injection h4 with _ _ h6
      exact ⟨h5, h6⟩
    · injection h4 with h6; cases h6
  · rintro ad rfl
    rcases h.2 with ⟨h4, h5⟩ | ⟨g, cap, cur, h4, _⟩
    · injection h4 with h6; cases h6
    · injection h4 with h6; injection h6 with h7; exact ⟨g, 0, h7⟩
end Go.Proofs.YtkpabdjniiepkaaGreatDoor

set_option linter.unusedVariables false
set_option linter.unusedSimpArgs false
namespace Go.Proofs.YtkpabdjniiepkaaGreatDoor
open Go.RowKit
theorem numB_cons (bs : List Int) (p m : Nat) : numB bs p (m + 1) = 2 * numB bs (p + 1) m + bitAt bs p := by
  rw [Nat.add_comm m 1, numB_add bs p 1 m]
  simp [numB]; omega
set_option maxRecDepth 100000 in
set_option maxHeartbeats 1000000 in
theorem number_calls (w : World) (B : Option Addr) (M c : Nat) (bs : List Int) (p n : Nat) (hb : RI .u8 w B M (bitsP bs M)) (hn : n ≤ 32) (hf : p + n ≤ M) (hM : M ≤ 100000000) :
    Calls Tryz.prog 77 #[.slice B M c, .int .i64 p, .int .i64 n] w fun e w' => e = .returned (.int .u32 (numB bs p n)) ∧ Dr w w' := by
  have HB := Lib.hid hb
  clear hb
  go_enter Tryz.func77, Tryz.ntmps77
  go_wp2_with fail
  go_loopw [7, 8] (fun vv iv wr => ∃ K : Nat, K ≤ n ∧ iv = .int .i64 ((K : Int) - 1) ∧ vv = .int .u32 (numB bs (p + K) (n - K)) ∧ Hid (Dr w wr)) (fun _ iv _ => (intOf iv + 1).toNat)
  case atStart => exact ⟨n, by omega, by go_num, by rw [Nat.sub_self]; rfl, Lib.hid ⟨0, rfl⟩⟩
  case round =>
    obtain ⟨K, hK, rfl, rfl, HD⟩ := hrel
    obtain ⟨q, rfl⟩ := HD.out
    clear HD
    by_cases hk : 0 < K
    · obtain ⟨k, rfl⟩ : ∃ k, K = k + 1 := ⟨K - 1, by omega⟩
      have hk1 : ((k + 1 : Nat) : Int) - 1 = k := by omega
      rw [hk1]
      clear hk1
      have e0 : decide (0 ≤ (k : Int)) = true := by simp
      obtain ⟨b, o, rfl, hc⟩ := HB.out.at (j := p + k) (by omega)
      rw [bitsP_nth _ _ _ (by omega)] at hc
      have HN : Hid (numB bs (p + k) (n - k) = 2 * numB bs (p + (k + 1)) (n - (k + 1)) + bitAt bs (p + k)) := Lib.hid (by
        rw [show n - k = (n - (k + 1)) + 1 by omega, numB_cons]; rfl)
      obtain ⟨b0, b1⟩ := bitAt_le bs (p + k)
      obtain ⟨n0, n1⟩ := numB_lt bs (p + k) (n - k)
      have n2 := pow32 (n - k) (by omega)
      obtain ⟨m0, m1⟩ := numB_lt bs (p + (k + 1)) (n - (k + 1))
      rw [HN.out] at n1
      have HN2 := Lib.hid HN.out.symm
      clear n0 HN
      have n3 : 2 * numB bs (p + (k + 1)) (n - (k + 1)) + bitAt bs (p + k) < 4294967296 := by omega
      clear n1 n2 m1
      generalize numB bs (p + (k + 1)) (n - (k + 1)) = v at *
      generalize bitAt bs (p + k) = z at *
      go_wp2_with fail
      go_roundw
      case rel => exact ⟨k, by omega, by go_num, by rw [← HN2.out], Lib.hid ⟨_, rfl⟩⟩
      case measure => simp [intOf]
    · obtain rfl : K = 0 := by omega
      have e0 : decide (0 ≤ ((0 : Nat) : Int) - 1) = false := by simp
      go_wp2_with fail
      go_ret
      exact ⟨rfl, _, rfl⟩
end Go.Proofs.YtkpabdjniiepkaaGreatDoor

set_option linter.unusedVariables false
set_option linter.unusedSimpArgs false
namespace Go.Proofs.YtkpabdjniiepkaaGreatDoor
open Go.RowKit
/-- What reading by rows is to give. -/
def Next3 (w : World) (r : Int × Nat × Int) (e : Ending) (w' : World) : Prop :=
  e = .returned (.tuple #[.int .i64 r.1, .int .i64 (r.2.1 : Nat), .int .i64 r.2.2]) ∧ Dr w w'
theorem next3 {w w' : World} {r : Int × Nat × Int} {s e k : Int} {n : Nat} (hr : r = (s, n, e)) (hk : k = n) (h : Dr w w') : Next3 w r (.returned (.tuple #[.int .i64 s, .int .i64 k, .int .i64 e])) w' := by
  subst hr; subst hk; exact ⟨rfl, h⟩
set_option maxRecDepth 100000 in
set_option maxHeartbeats 1000000 in
theorem refNext_calls (w : World) (g n : Nat) (rs : List (List Int)) (B : Option Addr) (m c : Nat) (bl : List Int) (p : Nat) (hB : RB w g n rs) (hb : RI .u8 w B m bl) (hp : p ≤ m) (hm : m ≤ 100000000) (hn : n ≤ 288) (hrow : ∀ j, (rth rs j).length ≤ 15) :
    Calls Tryz.prog 100 #[.slice (some ⟨g, 0, none⟩) n n, .slice B m c, .int .i64 p] w (Next3 w (nextR rs bl p)) := by
  have HB := Lib.hid hB
  have HBL := Lib.hid hb
  have HLL := Lib.hid hb.len
  have HRL := Lib.hid hB.len
  have HRW := Lib.hid hrow
  clear hB hb hrow
  go_enter Tryz.func100, Tryz.ntmps100
  go_wp2_with fail
  go_loopw [9, 10] (fun bv iv wr => ∃ (b : Bool) (i : Nat), i ≤ n ∧ bv = .bool b ∧ iv = .int .i64 i ∧ Hid (nextR rs bl p = nextG rs bl p (n - i) i b) ∧ Hid (Dr w wr)) (fun _ iv _ => n - (intOf iv).toNat)
  case atStart => exact ⟨false, 0, by omega, rfl, rfl, Lib.hid (by rw [Nat.sub_zero]; unfold nextR; rw [HRL.out]), Lib.hid ⟨0, rfl⟩⟩
  case round =>
    obtain ⟨b, i, hi, rfl, rfl, HR, HD⟩ := hrel
    obtain ⟨q, rfl⟩ := HD.out
    clear HD
    by_cases hlt : i < n
    · obtain ⟨A', c', hcr, hri, hra⟩ := HB.out.at hlt
      have e0 : decide ((i : Int) < (n : Int)) = true := by simpa using hlt
      have HST : Hid (nextG rs bl p (n - i) i b = if (rth rs i).length = 0 then nextG rs bl p (n - (i + 1)) (i + 1) b else
          if agrN (rth rs i) bl p = (rth rs i).length then ((i : Int), (rth rs i).length, 0)
          else nextG rs bl p (n - (i + 1)) (i + 1) (b || decide (p + agrN (rth rs i) bl p = bl.length))) := by
        show _ = _
        rw [show n - i = (n - (i + 1)) + 1 by omega, nextG]
      have hk15 := HRW.out i
      obtain ⟨K, hK⟩ : ∃ K, K = (rth rs i).length := ⟨_, rfl⟩
      rw [← hK] at hcr hri hk15
      have HK := Lib.hid hK
      have HRI := Lib.hid hri
      clear hK hri hra
      by_cases hz : K = 0
      · have e1 : ((K : Int) == 0) = true := by simpa using hz
        have HN : Hid (nextR rs bl p = nextG rs bl p (n - (i + 1)) (i + 1) b) := by
          show _ = _
          rw [HR.out, HST.out, if_pos (by rw [← HK.out]; exact hz)]
        clear HST HR
        go_wp2_with fail
        go_roundw
        case rel => exact ⟨b, i + 1, by omega, rfl, by go_num, HN, Lib.hid ⟨_, rfl⟩⟩
        case measure => simp [intOf]; omega
      · have e1 : ((K : Int) == 0) = false := by simpa using hz
        have HN : Hid (nextR rs bl p = if agrN (rth rs i) bl p = K then ((i : Int), K, 0)
          else nextG rs bl p (n - (i + 1)) (i + 1) (b || decide (p + agrN (rth rs i) bl p = bl.length))) := by
          show _ = _
          rw [HR.out, HST.out, if_neg (by rw [← HK.out]; exact hz), HK.out]
        have HAG0 : Hid (agrN (rth rs i) bl p = agr (rth rs i) bl p (K - 0) 0) := by
          show _ = _
          rw [Nat.sub_zero]; unfold agrN; rw [HK.out]
        clear HST HR
        go_wp2_with fail
        go_loopw [11] (fun nv wx => ∃ t : Nat, t ≤ K ∧ nv = .int .i64 t ∧ p + t ≤ m ∧ Hid (agrN (rth rs i) bl p = agr (rth rs i) bl p (K - t) t) ∧ Hid (Dr w wx)) (fun nv _ => K - (intOf nv).toNat)
        case atStart => exact ⟨0, by omega, rfl, by omega, HAG0, Lib.hid ⟨_, rfl⟩⟩
        case round =>
          clear HAG0
          obtain ⟨t, ht, rfl, hpt, HAG, HD⟩ := hrel
          obtain ⟨q2, rfl⟩ := HD.out
          clear HD
          by_cases htk : t < K
          · have e2 : decide ((t : Int) < (K : Int)) = true := by simpa using htk
            have e5 : ((t : Int) == (K : Int)) = false := by simp; omega
            by_cases hpm : p + t < m
            · have e3 : decide ((p : Int) + (t : Int) < (m : Int)) = true := by simp; omega
              have e6 : ((p : Int) + (t : Int) == (m : Int)) = false := by simp; omega
              obtain ⟨rb, ro, rfl, hc1⟩ := HRI.out.at htk
              obtain ⟨bb, bo, rfl, hc2⟩ := HBL.out.at hpm
              by_cases heq : nth (rth rs i) t = nth bl (p + t)
              · have e4 : (nth (rth rs i) t == nth bl (p + t)) = true := by simpa using heq
                have HAG2 : Hid (agrN (rth rs i) bl p = agr (rth rs i) bl p (K - (t + 1)) (t + 1)) := by
                  show _ = _
                  rw [HAG.out, show K - t = (K - (t + 1)) + 1 by omega, agr, if_pos ⟨by rw [← HK.out]; exact htk, by rw [HLL.out]; exact hpm, heq⟩]
                clear HAG
                generalize nth (rth rs i) t = x at *
                generalize nth bl (p + t) = y at *
                go_wp2_with fail
                go_quiet (fail)
                go_wp2_with fail
                go_roundw
                case rel => exact ⟨t + 1, by omega, by go_num, by omega, HAG2, Lib.hid ⟨_, rfl⟩⟩
                case measure => simp [intOf]; omega
              · have e4 : (nth (rth rs i) t == nth bl (p + t)) = false := by simpa using heq
                have HN2 : Hid (nextR rs bl p = nextG rs bl p (n - (i + 1)) (i + 1) b) := by
                  show _ = _
                  have ha : agrN (rth rs i) bl p = t := by rw [HAG.out, show K - t = (K - (t + 1)) + 1 by omega, agr, if_neg (fun h => heq h.2.2)]
                  rw [HN.out, ha, if_neg (by omega), decide_eq_false (by rw [HLL.out]; omega), Bool.or_false]
                clear HAG HN
                generalize nth (rth rs i) t = x at *
                generalize nth bl (p + t) = y at *
                cases b
                · go_wp2_with fail
                  go_quiet (fail)
                  go_wp2_with fail
                  go_roundw
                  case rel => exact ⟨false, i + 1, by omega, rfl, by go_num, HN2, Lib.hid ⟨_, rfl⟩⟩
                  case measure => simp [intOf]; omega
                · go_wp2_with fail
                  go_quiet (fail)
                  go_wp2_with fail
                  go_roundw
                  case rel => exact ⟨true, i + 1, by omega, rfl, by go_num, HN2, Lib.hid ⟨_, rfl⟩⟩
                  case measure => simp [intOf]; omega
            · have e3 : decide ((p : Int) + (t : Int) < (m : Int)) = false := by simp; omega
              have e6 : ((p : Int) + (t : Int) == (m : Int)) = true := by simp; omega
              have HN2 : Hid (nextR rs bl p = nextG rs bl p (n - (i + 1)) (i + 1) true) := by
                show _ = _
                have ha : agrN (rth rs i) bl p = t := by rw [HAG.out, show K - t = (K - (t + 1)) + 1 by omega, agr, if_neg (fun h => by have := h.2.1; rw [HLL.out] at this; omega)]
                rw [HN.out, ha, if_neg (by omega), decide_eq_true (by rw [HLL.out]; omega), Bool.or_true]
              clear HAG HN
              cases b
              · go_wp2_with fail
                go_quiet (fail)
                go_wp2_with fail
                go_roundw
                case rel => exact ⟨true, i + 1, by omega, rfl, by go_num, HN2, Lib.hid ⟨_, rfl⟩⟩
                case measure => simp [intOf]; omega
              · go_wp2_with fail
                go_quiet (fail)
                go_wp2_with fail
                go_roundw
                case rel => exact ⟨true, i + 1, by omega, rfl, by go_num, HN2, Lib.hid ⟨_, rfl⟩⟩
                case measure => simp [intOf]; omega
          · obtain rfl : t = K := by omega
            have e2 : decide ((t : Int) < (t : Int)) = false := by simp
            have e5 : ((t : Int) == (t : Int)) = true := by simp
            have HN2 : Hid (nextR rs bl p = ((i : Int), t, 0)) := by
              show _ = _
              rw [HN.out, HAG.out, Nat.sub_self, agr, if_pos rfl]
            clear HAG HN
            go_wp2_with fail
            go_quiet (fail)
            go_wp2_with fail
            go_ret3
            exact next3 HN2.out rfl ⟨_, rfl⟩
    · obtain rfl : i = n := by omega
      have e0 : decide ((i : Int) < (i : Int)) = false := by simp
      have HN : Hid (nextR rs bl p = (0, 0, if b then 10 else 32)) := by show _ = _; rw [HR.out, Nat.sub_self, nextG]
      cases b
      · go_wp2_with fail
        go_ret3
        exact next3 HN.out rfl ⟨_, rfl⟩
      · go_wp2_with fail
        go_ret3
        exact next3 HN.out rfl ⟨_, rfl⟩
end Go.Proofs.YtkpabdjniiepkaaGreatDoor

set_option linter.unusedVariables false
set_option linter.unusedSimpArgs false
namespace Go.Proofs.YtkpabdjniiepkaaGreatDoor
open Go.RowKit
theorem grown_keepsR {w w' : World} {row : Option Nat} (h : w.grownBy w' row) : Keeps row.toList w w' :=
  ⟨h.os, h.tape, h.output, h.size, fun k hk hm => h.block k hk (fun e => hm (Option.mem_toList.2 e.symm))⟩
theorem own_formR {w : World} {base : Nat} {e : TypeId} {size n : Nat} {v : Value} {xs : List Value} (h : w.ownsRow base e size v n xs) : ∃ A c, v = .slice A n c := by
  rcases h.2 with ⟨rfl, rfl⟩ | ⟨g, cap, cur, rfl, _⟩
  · exact ⟨_, _, rfl⟩
  · exact ⟨_, _, rfl⟩
/-- The reference's reading under way. -/
structure RD (w : World) (g : Nat) (B : Option Addr) (M c : Nat) (bs : List Int) (p : Nat) (out : List Int) (most : Nat) (e : Int) (ob : Option Nat) : Prop where
  box : ∃ v, Blk w g 78 [.slice B M c, .int .i64 p, v, .int .i64 most, .int .i64 e] ∧ w.ownsRow (g + 1) 5 1 v out.length (ints .u8 out) ∧ v.ownBlock = ob
  ri : RI .u8 w B M (bitsP bs M)
  lo : ∀ a, B = some a → a.block < g
  len : M = 8 * bs.length
  le : p ≤ M
  cap : out.length ≤ most
  mx : most ≤ 16384
  sz : M ≤ 100000000
/-- What may have turned: the reading, the row that it lays. -/
structure FR (g : Nat) (ob ob' : Option Nat) (w w' : World) : Prop where
  keeps : Keeps (g :: ob.toList) w w'
  row : ∀ x, ob' = some x → ob = some x ∨ w.heap.size ≤ x
theorem FR.refl (g : Nat) (ob : Option Nat) (w : World) : FR g ob ob w w := ⟨Keeps.refl _ _, fun _ h => .inl h⟩
theorem FR.trans {g : Nat} {o1 o2 o3 : Option Nat} {a b c : World} (h : FR g o1 o2 a b) (k : FR g o2 o3 b c) : FR g o1 o3 a c :=
  ⟨h.keeps.then k.keeps (fun x hx => by
    rcases List.mem_cons.1 hx with e | e
    · exact .inl (by rw [e]; exact List.mem_cons_self)
    · rcases h.row x (Option.mem_toList.1 e) with r | r
      · exact .inl (List.mem_cons_of_mem _ (Option.mem_toList.2 r))
      · exact .inr r), fun x hx => by
    rcases k.row x hx with r | r
    · exact h.row x r
    · exact .inr (Nat.le_trans h.keeps.size r)⟩
theorem FR.of_keeps {g : Nat} {ob : Option Nat} {w w' : World} (h : Keeps [g] w w') : FR g ob ob w w' :=
  ⟨h.mono (fun x hx => by rw [List.mem_singleton.1 hx]; exact List.mem_cons_self), fun _ h => .inl h⟩
theorem FR.of_nil {g : Nat} {ob : Option Nat} {w w' : World} (h : Keeps [] w w') : FR g ob ob w w' := FR.of_keeps (h.mono (by simp))
theorem FR.new {g : Nat} {ob : Option Nat} {w0 w w' : World} {o : Option Nat} (hk : Keeps [] w0 w) (h : FR g o ob w w') (hg : w0.heap.size ≤ g) (ho : ∀ x, o = some x → w0.heap.size ≤ x) : Keeps [] w0 w' :=
  hk.then h.keeps (fun x hx => by
    rcases List.mem_cons.1 hx with e | e
    · exact .inr (by omega)
    · exact .inr (ho x (Option.mem_toList.1 e)))
theorem RD.lt {w : World} {g M c p most : Nat} {B : Option Addr} {bs out : List Int} {e : Int} {ob : Option Nat} (h : RD w g B M c bs p out most e ob) : g < w.heap.size := by obtain ⟨v, h1, _⟩ := h.box; exact h1.lt
theorem RD.oblo {w : World} {g M c p most : Nat} {B : Option Addr} {bs out : List Int} {e : Int} {ob : Option Nat} (h : RD w g B M c bs p out most e ob) : ∀ x, ob = some x → g < x ∧ x < w.heap.size := by
  obtain ⟨v, h1, h2, h3⟩ := h.box
  intro x hx
  rw [← h3] at hx
  exact ⟨own_lo h2 x hx, own_hi h2 x hx⟩
theorem RD.keeps {w w' : World} {g M c p most : Nat} {B : Option Addr} {bs out : List Int} {e : Int} {ob : Option Nat} (h : RD w g B M c bs p out most e ob) (hk : Keeps [] w w') : RD w' g B M c bs p out most e ob := by
  obtain ⟨v, h1, h2, h3⟩ := h.box
  exact ⟨⟨v, h1.keeps hk (by simp), own_keeps h2 hk (by simp), h3⟩, h.ri.keeps hk (off_nil _), h.lo, h.len, h.le, h.cap, h.mx, h.sz⟩
theorem RD.cells {w : World} {g M c p most : Nat} {B : Option Addr} {bs out : List Int} {e : Int} {ob : Option Nat} (h : RD w g B M c bs p out most e ob) :
    w.cell? ⟨g, 0, none⟩ = some (.slice B M c) ∧ w.cell? ⟨g, 1, none⟩ = some (.int .i64 p) ∧ w.cell? ⟨g, 3, none⟩ = some (.int .i64 most) ∧ w.cell? ⟨g, 4, none⟩ = some (.int .i64 e) ∧
    ∃ v vc, w.cell? ⟨g, 2, none⟩ = some (.slice v out.length vc) ∧ RI .u8 w v out.length out := by
  obtain ⟨v, hb, ho, -⟩ := h.box
  obtain ⟨vA, vc, rfl, hri, -, -⟩ := own_ri ho
  have c0 := hb.cell 0
  have c1 := hb.cell 1
  have c2 := hb.cell 2
  have c3 := hb.cell 3
  have c4 := hb.cell 4
  simp only [List.getElem?_cons_zero, List.getElem?_cons_succ] at c0 c1 c2 c3 c4
  exact ⟨c0, c1, c3, c4, vA, vc, c2, hri⟩
theorem RD.free {w : World} {g M c p most : Nat} {B : Option Addr} {bs out : List Int} {e : Int} {ob : Option Nat} (h : RD w g B M c bs p out most e ob) (j : Nat) : w.frozen? ⟨g, j, none⟩ = false := by
  obtain ⟨v, hb, -⟩ := h.box; exact hb.frozen j
/-- The place is set. -/
theorem RD.place {w : World} {g M c p most : Nat} {B : Option Addr} {bs out : List Int} {e : Int} {ob : Option Nat} (h : RD w g B M c bs p out most e ob) {q : Nat} (hq : q ≤ M) : RD (w.setCell ⟨g, 1, none⟩ (.int .i64 q)) g B M c bs q out most e ob := by
  obtain ⟨v, h1, h2, h3⟩ := h.box
  have hb := h1.set 1 (.int .i64 q)
  simp only [List.set_cons_succ, List.set_cons_zero] at hb
  exact ⟨⟨v, hb, ownsRow_setCell_below h2 (a := ⟨g, 1, none⟩) (Nat.lt_succ_self g) _, h3⟩, h.ri.keeps ((Keeps.refl [g] w).setCell (Or.inl (by simp)) _) (fun a ha hm => by have := h.lo a ha; rw [List.mem_singleton.1 hm] at this; omega), h.lo, h.len, hq, h.cap, h.mx, h.sz⟩
/-- What is wrong is set. -/
theorem RD.wrong {w : World} {g M c p most : Nat} {B : Option Addr} {bs out : List Int} {e : Int} {ob : Option Nat} (h : RD w g B M c bs p out most e ob) (e' : Int) : RD (w.setCell ⟨g, 4, none⟩ (.int .i64 e')) g B M c bs p out most e' ob := by
  obtain ⟨v, h1, h2, h3⟩ := h.box
  have hb := h1.set 4 (.int .i64 e')
  simp only [List.set_cons_succ, List.set_cons_zero] at hb
  exact ⟨⟨v, hb, ownsRow_setCell_below h2 (a := ⟨g, 4, none⟩) (Nat.lt_succ_self g) _, h3⟩, h.ri.keeps ((Keeps.refl [g] w).setCell (Or.inl (by simp)) _) (fun a ha hm => by have := h.lo a ha; rw [List.mem_singleton.1 hm] at this; omega), h.lo, h.len, h.le, h.cap, h.mx, h.sz⟩
theorem keepsCell (w : World) (g j : Nat) (v : Value) : Keeps [g] w (w.setCell ⟨g, j, none⟩ v) := (Keeps.refl [g] w).setCell (p := ⟨g, j, none⟩) (Or.inl (by simp)) v
/-- What taking bits answers. -/
def RTook (w : World) (g : Nat) (B : Option Addr) (M c : Nat) (bs : List Int) (p : Nat) (out : List Int) (most : Nat) (e : Int) (ob : Option Nat) (n : Nat) (r : Ending) (w' : World) : Prop :=
  ∃ (v : Int) (p' : Nat) (e' : Int), r = .returned (.int .i64 v) ∧ RD w' g B M c bs p' out most e' ob ∧ Keeps [g] w w' ∧ 0 ≤ v ∧ v < 2 ^ n ∧ p ≤ p' ∧
    ((e = 0 ∧ p + n ≤ M ∧ e' = 0 ∧ v = numB bs p n ∧ p' = p + n) ∨ (e = 0 ∧ M < p + n ∧ e' = 55 ∧ v = 0 ∧ p' = p) ∨ (e ≠ 0 ∧ e' = e ∧ v = 0 ∧ p' = p))
set_option maxRecDepth 100000 in
set_option maxHeartbeats 1000000 in
theorem rtake_calls (w : World) (g : Nat) (B : Option Addr) (M c : Nat) (bs : List Int) (p : Nat) (out : List Int) (most : Nat) (e : Int) (ob : Option Nat) (n : Nat) (ni : Int) (hni : ni = n) (h : RD w g B M c bs p out most e ob) (hn : n ≤ 16) :
    Calls Tryz.prog 53 #[.pointer (some ⟨g, 0, none⟩), .int .i64 ni] w (RTook w g B M c bs p out most e ob n) := by
  subst hni
  have H := Lib.hid h
  obtain ⟨c0, c1, -, c4, -⟩ := h.cells
  have hle := h.le
  have hsz := h.sz
  have hp2 := pow_cast n
  clear h
  go_enter Tryz.func53, Tryz.ntmps53
  by_cases he : e ≠ 0
  · have e1 : (e != 0) = true := by simpa using he
    have HE := Lib.hid he
    clear he
    go_wp2_with fail
    go_ret
    exact ⟨0, p, e, rfl, H.out, Keeps.refl _ _, by omega, hp2, Nat.le_refl _, .inr (.inr ⟨HE.out, rfl, rfl, rfl⟩)⟩
  obtain rfl : e = 0 := Classical.not_not.1 he
  clear he
  have s1 : IntKind.i64.wrap ((M : Int) - (p : Int)) = (M : Int) - (p : Int) := IntWalk.i64_in _ (by omega)
  by_cases hf : M < p + n
  · have e3 : decide ((M : Int) - (p : Int) < (n : Int)) = true := by simp; omega
    have f4 := H.out.free 4
    go_wp2_with fail
    go_quiet (fail)
    go_wp2_with fail
    go_ret
    exact ⟨0, p, 55, rfl, (H.out.keeps ((Keeps.refl [] w).drewN _)).wrong 55, ((Keeps.refl [g] w).drewN _).trans (keepsCell _ g 4 _), by omega, hp2, Nat.le_refl _, .inr (.inl ⟨rfl, hf, rfl, rfl, rfl⟩)⟩
  · have e3 : decide ((M : Int) - (p : Int) < (n : Int)) = false := by simp; omega
    go_wp2_with fail
    go_quiet (fail)
    go_wp2_with fail
    obtain ⟨w1, hw1⟩ : ∃ w1 : World, w1 = w.drewN nq := ⟨_, rfl⟩
    have hk1 : Keeps [] w w1 := by rw [hw1]; exact (Keeps.refl [] w).drewN _
    rw [← hw1]
    clear hw1 c0 c1 c4
    have H1 := Lib.hid (H.out.keeps hk1)
    obtain ⟨c0, c1, -, c4, -⟩ := H1.out.cells
    go_still_tail 9, (by kernel_rfl)
    change wpList _ _ _ _ _ w1.drew
    have hk2 := (Keeps.refl [] w1).drew
    have H2 := Lib.hid (H1.out.keeps hk2)
    have HK2 := Lib.hid (hk1.trans hk2)
    clear hk1 hk2 H H1 c0 c1 c4
    go_wp2_with fail
    refine (number_calls _ B M c bs p n H2.out.ri (by omega) (by omega) hsz).mono ?_
    rintro _ w3 ⟨rfl, hd3⟩
    have H3 := Lib.hid (H2.out.keeps (hd3.keeps (S := [])))
    have HK3 := Lib.hid (HK2.out.trans (hd3.keeps (S := [])))
    obtain ⟨-, c1, -, -, -⟩ := H3.out.cells
    have f1 := H3.out.free 1
    obtain ⟨n0, n1⟩ := numB_lt bs p n
    have n2 := pow16 n hn
    obtain ⟨x, hx⟩ : ∃ x, x = numB bs p n := ⟨_, rfl⟩
    have HX := Lib.hid hx
    have n3 : x ≤ 65536 := by omega
    rw [← hx] at n0 n1 ⊢
    have HN1 := Lib.hid n1
    have e5 : IntKind.i64.wrap x = x := IntWalk.i64_in _ (by omega)
    have e6 : IntKind.i64.wrap ((p : Int) + n) = (p : Int) + n := IntWalk.i64_in _ (by omega)
    clear hd3 H2 HK2 hx n1 n2 hp2
    go_wp2_with fail
    go_ret
    have hpl := H3.out.place (show p + n ≤ M by omega)
    rw [show ((p + n : Nat) : Int) = (p : Int) + n by omega] at hpl
    exact ⟨x, p + n, 0, rfl, hpl, (HK3.out.mono (by simp)).trans (keepsCell _ g 1 _), n0, HN1.out, by omega, .inl ⟨rfl, by omega, rfl, HX.out, rfl⟩⟩
end Go.Proofs.YtkpabdjniiepkaaGreatDoor

set_option linter.unusedVariables false
set_option linter.unusedSimpArgs false
namespace Go.Proofs.YtkpabdjniiepkaaGreatDoor
open Go.RowKit
/-- What a part of the reference's reading gives. -/
def RPart (w : World) (g : Nat) (B : Option Addr) (M c : Nat) (bs : List Int) (most : Nat) (ob : Option Nat) (r : IRes) (e : Ending) (w' : World) : Prop :=
  ∃ q ob', e = .returned (.tuple #[]) ∧ RD w' g B M c bs q r.1 most r.2.2 ob' ∧ FR g ob ob' w w' ∧ (r.2.2 = 0 → q = r.2.1)
theorem rpart_ok {w w' : World} {g M c most q : Nat} {B : Option Addr} {bs out : List Int} {ob ob' : Option Nat} {r : IRes} (hr : r = (out, q, 0)) (h : RD w' g B M c bs q out most 0 ob') (k : FR g ob ob' w w') : RPart w g B M c bs most ob r (.returned (.tuple #[])) w' := by
  subst hr; exact ⟨q, ob', rfl, h, k, fun _ => rfl⟩
theorem rpart_err {w w' : World} {g M c most q : Nat} {B : Option Addr} {bs out : List Int} {ob ob' : Option Nat} {r : IRes} {e : Int} (hr : r = (out, 0, e)) (he : e ≠ 0) (h : RD w' g B M c bs q out most e ob') (k : FR g ob ob' w w') : RPart w g B M c bs most ob r (.returned (.tuple #[])) w' := by
  subst hr; exact ⟨q, ob', rfl, h, k, fun h => absurd h he⟩
/-- What laying a byte gives. -/
def RLay (w : World) (g : Nat) (B : Option Addr) (M c : Nat) (bs : List Int) (p : Nat) (out : List Int) (most : Nat) (e : Int) (ob : Option Nat) (x : Int) (r : Ending) (w' : World) : Prop :=
  r = .returned (.tuple #[]) ∧
      ((e ≠ 0 ∧ RD w' g B M c bs p out most e ob ∧ FR g ob ob w w') ∨ (e = 0 ∧ most ≤ out.length ∧ RD w' g B M c bs p out most 56 ob ∧ FR g ob ob w w') ∨
       (e = 0 ∧ out.length < most ∧ ∃ ob', RD w' g B M c bs p (out ++ [x]) most 0 ob' ∧ FR g ob ob' w w'))
set_option maxRecDepth 100000 in
set_option maxHeartbeats 1000000 in
theorem rlay_calls (w : World) (g : Nat) (B : Option Addr) (M c : Nat) (bs : List Int) (p : Nat) (out : List Int) (most : Nat) (e : Int) (ob : Option Nat) (x : Int) (h : RD w g B M c bs p out most e ob) :
    Calls Tryz.prog 78 #[.pointer (some ⟨g, 0, none⟩), .int .u8 x] w (RLay w g B M c bs p out most e ob x) := by
  have H := Lib.hid h
  obtain ⟨-, -, c3, c4, -⟩ := h.cells
  have hcap := h.cap
  have hmx := h.mx
  obtain ⟨v, hblk, hown, hob⟩ := h.box
  obtain ⟨vA, vc, rfl⟩ := own_formR hown
  have c2 := hblk.cell 2
  simp only [List.getElem?_cons_zero, List.getElem?_cons_succ] at c2
  have f2 := hblk.frozen 2
  have hlt := hblk.lt
  have HO := Lib.hid hown
  have HB := Lib.hid hblk
  have HOB := Lib.hid hob
  clear h hblk hown hob
  obtain ⟨L, hL⟩ : ∃ L, L = out.length := ⟨_, rfl⟩
  have HL := Lib.hid hL
  rw [← hL] at HO c2 HB HOB hcap
  clear hL
  go_enter Tryz.func78, Tryz.ntmps78
  by_cases he : e ≠ 0
  · have e1 : (e != 0) = true := by simpa using he
    have HE := Lib.hid he
    clear he
    go_wp2_with fail
    exact bodyPost_ret (v := .tuple #[]) (results_none rfl _ _ _) rfl ⟨rfl, .inl ⟨HE.out, H.out, FR.refl _ _ _⟩⟩
  obtain rfl : e = 0 := Classical.not_not.1 he
  clear he
  by_cases hm : most ≤ L
  · have e1 : decide (most ≤ L) = true := by simpa using hm
    have e1' : decide ((most : Int) ≤ (L : Int)) = true := by simp; omega
    have f4 := H.out.free 4
    go_wp2_with fail
    go_quiet (fail)
    have HM2 := Lib.hid hm
    clear hm
    go_wp2_with fail
    exact bodyPost_ret (v := .tuple #[]) (results_none rfl _ _ _) rfl ⟨rfl, .inr (.inl ⟨rfl, by rw [← HL.out]; exact HM2.out, (H.out.keeps ((Keeps.refl [] w).drewN _)).wrong 56, FR.of_keeps (((Keeps.refl [g] w).drewN _).trans (keepsCell _ g 4 _))⟩)⟩
  · have e1 : decide (most ≤ L) = false := by simpa using hm
    have e1' : decide ((most : Int) ≤ (L : Int)) = false := by simp; omega
    go_wp2_with fail
    go_quiet (fail)
    have hkq : Keeps [] w (w.drewN nq) := (Keeps.refl [] w).drewN nq
    obtain ⟨wq, hwq⟩ : ∃ z, z = w.drewN nq := ⟨_, rfl⟩
    rw [← hwq] at hkq ⊢
    clear hwq
    have ka : Keeps [] wq (wq.alloc (.cells #[.int .u8 x] 5)) := (Keeps.refl [] wq).alloc _
    have HOA := Lib.hid (own_keeps HO.out (hkq.trans ka) (by simp))
    have HBA := Lib.hid (HB.out.keeps (hkq.trans ka) (by simp))
    have HQ := Lib.hid (H.out.keeps (hkq.trans ka))
    have HKA := Lib.hid (hkq.trans ka)
    have HRI : Hid (RI .u8 (wq.alloc (.cells #[.int .u8 x] 5)) (some ⟨wq.heap.size, 0, none⟩) 1 [x]) := Lib.hid (Blk.ri (xs := [x]) (ys := []) (k := .u8) (by simpa [ints] using blk_new wq 5 (ints .u8 [x])))
    have c2' := hkq.cell (by simp) c2
    have hltq : g < wq.heap.size := Nat.lt_of_lt_of_le hlt hkq.size
    clear c2 c3 c4 f2 hkq ka HO HB H e1
    go_wp2_with (at_builtin; refine app_bytesB rfl (.tmp 26) (.tmp 28) rfl (g + 1) _ _ out rfl (by exact HOA.out) _ 1 1 [x] rfl (by exact HRI.out) (by simp) (by omega) ?c4 ?_)
    case c4 => simp; omega
    intro v1 w1 ho1 hg1 hwh
    have hg0 : ∀ k, (Value.slice vA L vc).ownBlock = some k → g + 1 ≤ k := fun k hk => own_lo HOA.out k hk
    have hblk1 : Blk w1 g 78 [.slice B M c, .int .i64 p, .slice vA L vc, .int .i64 most, .int .i64 0] := (hg1.block g (Nat.lt_trans hltq (by simp)) (fun e => by have := hg0 g e.symm; omega)).trans HBA.out
    have kg := grown_keepsR hg1
    have HRI1 := Lib.hid (HQ.out.ri.keeps kg (fun a ha hm => by have := hg0 a.block (Option.mem_toList.1 hm); have := HQ.out.lo a ha; omega))
    have HK1 : Hid (Keeps (g :: ob.toList) w w1) := Lib.hid ((HKA.out.mono (by simp)).trans (kg.mono (fun y hy => by rw [HOB.out] at hy; exact List.mem_cons_of_mem _ hy)))
    obtain ⟨vB, vd, rfl⟩ : ∃ A c, v1 = .slice A (L + 1) c := own_formR ho1
    have HO1 := Lib.hid ho1
    have HROW : Hid (∀ y, (Value.slice vB (L + 1) vd).ownBlock = some y → ob = some y ∨ w.heap.size ≤ y) := Lib.hid (fun y hy => by
      rcases hwh with e | e
      · exact .inl (by rw [← HOB.out, ← e]; exact hy)
      · rw [e] at hy
        injection hy with hy
        have hz := HKA.out.size
        exact .inr (by rw [← hy]; simpa using hz))
    have HB1 := Lib.hid hblk1
    have c2 := hblk1.cell 2
    simp only [List.getElem?_cons_zero, List.getElem?_cons_succ] at c2
    have f2 := hblk1.frozen 2
    clear HOA HBA HKA HRI c2' kg hg1 ho1 hblk1 hg0 hwh
    go_wp2_with fail
    go_end0
    have hs := (HB1.out.set 2 (.slice vB (L + 1) vd))
    simp only [List.set_cons_succ, List.set_cons_zero] at hs
    have ks := keepsCell w1 g 2 (.slice vB (L + 1) vd)
    refine ⟨rfl, .inr (.inr ⟨rfl, by have := HL.out; omega, (Value.slice vB (L + 1) vd).ownBlock, ⟨⟨_, hs, ?_, rfl⟩, HRI1.out.keeps ks (fun a ha hm => by have := HQ.out.lo a ha; rw [List.mem_singleton.1 hm] at this; omega), HQ.out.lo, HQ.out.len, HQ.out.le, ?_, hmx, HQ.out.sz⟩, ⟨HK1.out.trans (ks.mono (fun y hy => by rw [List.mem_singleton.1 hy]; exact List.mem_cons_self)), HROW.out⟩⟩)⟩
    · rw [List.length_append, List.length_singleton, ← HL.out]
      exact ownsRow_setCell_below HO1.out (a := ⟨g, 2, none⟩) (Nat.lt_succ_self g) _
    · rw [List.length_append, List.length_singleton, ← HL.out]; omega
/-! Rows in memory, all of them below a block. -/
def RBT (w : World) (g top n : Nat) (rs : List (List Int)) : Prop :=
  rs.length = n ∧ g < top ∧ top ≤ w.heap.size ∧ ∃ vs : List Value, vs.length = n ∧ Blk w g 22 vs ∧ ∀ j v, vs[j]? = some v → w.ownsRow (g + 1) 5 1 v (rth rs j).length (ints .u8 (rth rs j)) ∧ ∀ x, v.ownBlock = some x → x < top
theorem RB.top {w : World} {g n : Nat} {rs : List (List Int)} (h : RB w g n rs) : RBT w g w.heap.size n rs := by
  have hl := h.lt
  obtain ⟨h0, vs, h1, h2, h3⟩ := h
  exact ⟨h0, hl, Nat.le_refl _, vs, h1, h2, fun j v hv => ⟨h3 j v hv, own_hi (h3 j v hv)⟩⟩
theorem RBT.rb {w : World} {g top n : Nat} {rs : List (List Int)} (h : RBT w g top n rs) : RB w g n rs := by
  obtain ⟨h0, -, -, vs, h1, h2, h3⟩ := h
  exact ⟨h0, vs, h1, h2, fun j v hv => (h3 j v hv).1⟩
theorem RBT.keeps {w w' : World} {g top n : Nat} {rs : List (List Int)} {S : List Nat} (h : RBT w g top n rs) (hk : Keeps S w w') (hS : ∀ x ∈ S, x < g ∨ top ≤ x) : RBT w' g top n rs := by
  obtain ⟨h0, hg, ht, vs, h1, h2, h3⟩ := h
  refine ⟨h0, hg, Nat.le_trans ht hk.size, vs, h1, h2.keeps hk (fun hm => by rcases hS g hm with h | h <;> omega), fun j v hv => ⟨own_keeps (h3 j v hv).1 hk fun x hx hm => ?_, (h3 j v hv).2⟩⟩
  have a := own_lo (h3 j v hv).1 x hx
  have b := (h3 j v hv).2 x hx
  rcases hS x hm with h | h <;> omega
/-- The row that is laid is none of the rows. -/
def Apart (g2 top : Nat) (ob : Option Nat) : Prop := ∀ x, ob = some x → x < g2 ∨ top ≤ x
theorem RBT.fr {w w' : World} {g g2 top n : Nat} {rs : List (List Int)} {o1 o2 : Option Nat} (h : RBT w g2 top n rs) (hf : FR g o1 o2 w w') (hg : g < g2) (ha : Apart g2 top o1) : RBT w' g2 top n rs ∧ Apart g2 top o2 := by
  have ht := h.2.2.1
  refine ⟨h.keeps hf.keeps (fun x hx => ?_), fun x hx => ?_⟩
  · rcases List.mem_cons.1 hx with e | e
    · exact .inl (by omega)
    · exact ha x (Option.mem_toList.1 e)
  · rcases hf.row x hx with r | r
    · exact ha x r
    · exact .inr (by omega)
/-- What reading a symbol answers. -/
def RSym (w : World) (g : Nat) (B : Option Addr) (M c : Nat) (bs : List Int) (p : Nat) (out : List Int) (most : Nat) (ob : Option Nat) (d : Int × Int × Nat) (wr : Int) (r : Ending) (w' : World) : Prop :=
  r = .returned (.int .i64 d.1) ∧ RD w' g B M c bs (p + d.2.2) out most (endF d.2.1 wr) ob ∧ Keeps [g] w w'
theorem dec_err (l bs : List Int) (p : Nat) (hp : p ≤ 8 * bs.length) : (decF l bs p).2.1 = 0 ∨ decF l bs p = (0, 10, 0) ∨ decF l bs p = (0, 32, 0) := by
  have hs := dec_spec l bs p (longN l 16) 0 (by omega) (by omega) (fun m hm => by
    obtain rfl : m = 0 := by omega
    simp [xv, lowF, lenCnt_zero])
  rw [show decGo l bs p (longN l 16) 0 (xv bs p 0) = decF l bs p from rfl] at hs
  rcases hs with ⟨j, m, hj, _, _, _, _, hend, _, hr⟩ | ⟨k, _, _, _, hr⟩ | ⟨_, _, hr⟩
  · rw [hr]; exact .inl rfl
  · exact .inr (.inl hr)
  · exact .inr (.inr hr)
set_option maxRecDepth 100000 in
set_option maxHeartbeats 1000000 in
theorem rsym_bad (w : World) (g : Nat) (B : Option Addr) (M c : Nat) (bs : List Int) (p : Nat) (out : List Int) (most : Nat) (e : Int) (ob : Option Nat) (v : Value) (wr : Int) (h : RD w g B M c bs p out most e ob) (he : e ≠ 0) :
    Calls Tryz.prog 81 #[.pointer (some ⟨g, 0, none⟩), v, .int .i64 wr] w fun r w' => r = .returned (.int .i64 0) ∧ RD w' g B M c bs p out most e ob ∧ Keeps [] w w' := by
  have H := Lib.hid h
  obtain ⟨-, -, -, c4, -⟩ := h.cells
  clear h
  have e1 : (e != 0) = true := by simpa using he
  clear he
  go_enter Tryz.func81, Tryz.ntmps81
  go_wp2_with fail
  go_ret
  exact ⟨rfl, H.out, Keeps.refl _ _⟩
set_option maxRecDepth 100000 in
set_option maxHeartbeats 1000000 in
theorem rsym_calls (w : World) (g : Nat) (B : Option Addr) (M c : Nat) (bs : List Int) (p : Nat) (out : List Int) (most : Nat) (ob : Option Nat) (g2 top n : Nat) (l : List Int) (wr : Int) (h : RD w g B M c bs p out most 0 ob) (hr : RBT w g2 top n (rowsF l))
    (hc : checkF l = 0) (hn : n ≤ 288) :
    Calls Tryz.prog 81 #[.pointer (some ⟨g, 0, none⟩), .slice (some ⟨g2, 0, none⟩) n n, .int .i64 wr] w (RSym w g B M c bs p out most ob (decF l bs p) wr) := by
  have H := Lib.hid h
  obtain ⟨c0, c1, -, c4, -⟩ := h.cells
  have hle := h.le
  have hM := h.len
  have hsz := h.sz
  have HRB := Lib.hid hr.rb
  have hns := next_same hc bs p (by omega)
  rw [← hM] at hns
  have HNS := Lib.hid hns
  have hrl : ∀ j, (rth (rowsF l) j).length ≤ 15 := fun j => by
    by_cases hj : j < l.length
    · by_cases h0 : 0 < (rth (rowsF l) j).length
      · obtain ⟨m, h1, h15, h2, h3⟩ := row_len (check_ok hc).2 j hj h0
        rw [h3, msbF_len]; exact h15
      · omega
    · have hl2 : (rowsF l).length ≤ j := by rw [show (rowsF l).length = l.length by simp [rowsF]]; omega
      simp [rth, List.getD, List.getElem?_eq_none hl2]
  have HRL := Lib.hid hrl
  have hde := dec_err l bs p (by omega)
  have hbd := dec_bd l bs p (by omega)
  have hcl : ∀ q, Calls Tryz.prog 100 #[.slice (some ⟨g2, 0, none⟩) n n, .slice B M c, .int .i64 p] (w.drewN q) fun e w' => e = .returned (.tuple #[.int .i64 (decF l bs p).1, .int .i64 ((decF l bs p).2.2 : Nat), .int .i64 (decF l bs p).2.1]) ∧ ∃ m, w' = (w.drewN q).drewN m := fun q => by
    have hh := refNext_calls (w.drewN q) g2 n (rowsF l) B M c (bitsP bs M) p (HRB.out.keeps ((Keeps.refl [] w).drewN q) (by simp)) (H.out.ri.keeps ((Keeps.refl [] w).drewN q) (off_nil _)) hle hsz hn HRL.out
    rw [HNS.out] at hh
    exact hh
  have HCL := Lib.hid hcl
  have HM := Lib.hid hM
  have HPM := Lib.hid (show ∀ k, p + k ≤ 8 * bs.length → p + k ≤ M from fun k h => by omega)
  clear h hr hns hrl hcl HNS HRL HRB hM
  generalize decF l bs p = d at *
  obtain ⟨sy, er, k⟩ := d
  simp only [] at hde hbd HCL
  go_enter Tryz.func81, Tryz.ntmps81
  go_upto_region 3 with (fail)
  go_quiet (first | (go_at_call 100; exact Calls.quiet_of (HCL.out _)))
  obtain ⟨w1, hw1⟩ : ∃ w1 : World, w1 = w.drewN nq := ⟨_, rfl⟩
  have hk1 : Keeps [] w w1 := by rw [hw1]; exact (Keeps.refl [] w).drewN _
  rw [← hw1]
  clear hw1 c0 c1 c4 HCL
  have H1 := Lib.hid (H.out.keeps hk1)
  have HK1 := Lib.hid hk1
  obtain ⟨-, c1, -, c4, -⟩ := H1.out.cells
  have f1 := H1.out.free 1
  have f4 := H1.out.free 4
  clear hk1 H
  rcases hde with rfl | hd | hd
  · obtain ⟨-, j, rfl, hj, hpk⟩ | ⟨h0, -⟩ := hbd
    · have HPK : Hid (p + k ≤ M) := Lib.hid (HPM.out k hpk)
      have hpk2 := HPK.out
      have e6 : IntKind.i64.wrap ((p : Int) + k) = (p : Int) + k := IntWalk.i64_in _ (by omega)
      clear hpk
      go_wp2_with fail
      go_ret
      have hpl := H1.out.place HPK.out
      rw [show ((p + k : Nat) : Int) = (p : Int) + k by omega] at hpl
      exact ⟨rfl, hpl, (HK1.out.mono (by simp)).trans (keepsCell _ g 1 _)⟩
    · exact absurd rfl h0
  · injection hd with q1 q2
    injection q2 with q2 q3
    subst q1; subst q2; subst q3
    have HW := Lib.hid (H1.out.wrong 55)
    obtain ⟨-, d1, -, -, -⟩ := HW.out.cells
    have g1 := HW.out.free 1
    clear hbd
    go_wp2_with fail
    go_ret
    have hpl := HW.out.place (q := p + 0) (by omega)
    refine ⟨rfl, ?_, ((HK1.out.mono (by simp)).trans (keepsCell _ g 4 _)).trans (keepsCell _ g 1 _)⟩
    rw [show ((p + 0 : Nat) : Int) = (p : Int) by omega] at hpl
    exact hpl
  · injection hd with q1 q2
    injection q2 with q2 q3
    subst q1; subst q2; subst q3
    have HW := Lib.hid (H1.out.wrong wr)
    obtain ⟨-, d1, -, -, -⟩ := HW.out.cells
    have g1 := HW.out.free 1
    clear hbd
    go_wp2_with fail
    go_ret
    have hpl := HW.out.place (q := p + 0) (by omega)
    refine ⟨rfl, ?_, ((HK1.out.mono (by simp)).trans (keepsCell _ g 4 _)).trans (keepsCell _ g 1 _)⟩
    rw [show ((p + 0 : Nat) : Int) = (p : Int) by omega] at hpl
    exact hpl
end Go.Proofs.YtkpabdjniiepkaaGreatDoor
