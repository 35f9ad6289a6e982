import Derived.Test.YtcblibefmclloaaDoorIStrC
import Derived.Test.YtcblibefmclloaaDoorIStrA
import Derived.Test.YtcblibefmclloaaDoorIStrH
import Derived.Test.YtcblibefmclloaaDoorIStrG
import Derived.Outline
import Derived.StillTailTactics
import Derived.Deep.LoopGhost
import Derived.WalkMore
set_option linter.unusedVariables false
set_option linter.unusedSimpArgs false
namespace Go.Proofs.YtcblibefmclloaaDoor
open Go.RowKit
theorem any_iff (l : List Int) : anyUsed l = true ↔ ∃ j, j < l.length ∧ 0 < nth l j := by
  unfold anyUsed
  rw [List.any_eq_true]
  constructor
  · rintro ⟨x, hx, h⟩
    obtain ⟨j, hj, rfl⟩ := List.getElem_of_mem hx
    exact ⟨j, hj, by rw [nth_lt hj]; simpa using h⟩
  · rintro ⟨j, hj, h⟩
    exact ⟨l[j], List.getElem_mem _, by rw [nth_lt hj] at h; simpa using h⟩
/-- The greatest of some numbers: is it above 0? -/
def MaxP (w : World) (l : List Int) (e : Ending) (w' : World) : Prop := ∃ m : Int, e = .returned (.int .i64 m) ∧ decide (0 < m) = anyUsed l ∧ Dr w w'
theorem max_done {w w' : World} {l : List Int} {m : Int} (h : 0 < m ↔ ∃ j, j < l.length ∧ 0 < nth l j) (hd : Dr w w') : MaxP w l (.returned (.int .i64 m)) w' := by
  refine ⟨m, rfl, ?_, hd⟩
  rw [Bool.eq_iff_iff, any_iff, decide_eq_true_iff]
  exact h
set_option maxRecDepth 100000 in
set_option maxHeartbeats 400000 in
theorem max_calls (w : World) (A : Option Addr) (n c : Nat) (l : List Int) (hl : RI .i64 w A n l) (h1 : 1 ≤ n) (hn : n ≤ 140737488355328) :
    Calls Tryd.prog 125 #[.slice A n c] w (MaxP w l) := by
  have HL := Lib.hid hl
  have HLL := Lib.hid hl.len
  obtain ⟨b, o, rfl, hc0⟩ := hl.at (show 0 < n by omega)
  rw [Nat.add_zero] at hc0
  clear hl
  have e0 : decide (n < 1) = false := by simp; omega
  have e0' : decide ((n : Int) < 1) = false := by simp; omega
  go_enter Tryd.func125, Tryd.ntmps125
  go_wp2_with fail
  clear hc0 e0 e0'
  go_loopw [3, 4] (fun mv iv wr => ∃ (m : Int) (k : Nat), 1 ≤ k ∧ k ≤ n ∧ iv = .int .i64 k ∧ mv = .int .i64 m ∧ Hid (0 < m ↔ ∃ j, j < k ∧ 0 < nth l j) ∧ Hid (Dr w wr)) (fun _ iv _ => n - (intOf iv).toNat)
  case atStart => exact ⟨nth l 0, 1, by omega, by omega, rfl, rfl, Lib.hid ⟨fun h => ⟨0, by omega, h⟩, fun ⟨j, hj, h⟩ => by rwa [show j = 0 by omega] at h⟩, Lib.hid (Dr.refl w)⟩
  case round =>
    obtain ⟨m, k, hk1, hk, rfl, rfl, HM, HD⟩ := hrel
    by_cases hlt : k < n
    · have e1 : decide (k < n) = true := by simpa using hlt
      have hc := (HL.out.keeps (HD.out.keeps (S := [])) (off_nil _)).cell b o rfl k hlt
      obtain ⟨x, hx⟩ : ∃ x, x = nth l k := ⟨_, rfl⟩
      have HX := Lib.hid hx
      rw [← hx] at hc
      clear hx
      go_wp2_with fail
      go_roundw
      case rel =>
        refine ⟨_, k + 1, by omega, by omega, by go_num, rfl, Lib.hid ?_, HD⟩
        constructor
        · intro h
          by_cases hm : 0 < m
          · obtain ⟨j, hj, h2⟩ := HM.out.1 hm
            exact ⟨j, by omega, h2⟩
          · exact ⟨k, by omega, by rw [← HX.out]; first | omega | (split at h <;> omega)⟩
        · rintro ⟨j, hj, h2⟩
          by_cases hjk : j = k
          · subst hjk; rw [← HX.out] at h2; first | omega | (split <;> omega)
          · have := HM.out.2 ⟨j, by omega, h2⟩; first | omega | (split <;> omega)
      case measure => simp [intOf]; omega
    · obtain rfl : k = n := by omega
      have e1 : decide (k < k) = false := by simp
      go_wp2_with fail
      go_ret
      exact max_done (by rw [HLL.out]; exact HM.out) HD.out
set_option maxRecDepth 100000 in
theorem iused_calls (w : World) (A : Option Addr) (n c : Nat) (l : List Int) (hl : RI .i64 w A n l) (h1 : 1 ≤ n) (hn : n ≤ 140737488355328) :
    Calls Tryd.prog 118 #[.slice A n c] w fun e w' => e = .returned (.bool (anyUsed l)) ∧ Dr w w' := by
  have HL := Lib.hid hl
  clear hl
  go_enter Tryd.func118, Tryd.ntmps118
  go_wp2_with fail
  refine (max_calls w A n c l HL.out h1 hn).mono ?_
  rintro _ w1 ⟨m, rfl, hm, hd⟩
  have HD := Lib.hid hd
  clear hd
  have HM := Lib.hid hm
  clear hm
  go_wp2_with fail
  go_ret
  rw [HM.out]
  exact ⟨rfl, HD.out⟩
/-! The lists of kind 1. -/
def fixGo (k : Nat) : Int := if k < 144 ∨ 279 < k then 8 else if k < 256 then 9 else 7
def fixL (n : Nat) : List Int := (List.range n).map fixGo
theorem fixL_succ (n : Nat) : fixL (n + 1) = fixL n ++ [fixGo n] := by unfold fixL; rw [List.range_succ]; simp
theorem fixL_len (n : Nat) : (fixL n).length = n := by simp [fixL]
theorem fixL_all : fixL 288 = fixLit := by decide +kernel
theorem fix_info : checkF fixLit = 0 ∧ checkF fixDist = 0 ∧ anyUsed fixDist = true ∧ fixLit.length = 288 ∧ fixDist.length = 32 := by decide +kernel
set_option maxRecDepth 100000 in
set_option maxHeartbeats 1000000 in
theorem fixed_calls (w : World) : Calls Tryd.prog 108 #[] w fun e w' => ∃ v1 g2, e = .returned (.tuple #[v1, .slice (some ⟨g2, 0, none⟩) 32 32]) ∧ w'.ownsRow w.heap.size 3 1 v1 288 (ints .i64 fixLit) ∧ Blk w' g2 3 (ints .i64 fixDist) ∧ w.heap.size ≤ g2 ∧ Below w.heap.size w w' := by
  go_enter Tryd.func108, Tryd.ntmps108
  go_wp2_with fail
  go_loopw [0, 3] (fun u i wr => ∃ k : Nat, k ≤ 288 ∧ i = .int .i64 k ∧ Hid (wr.ownsRow w.heap.size 3 1 u k (ints .i64 (fixL k))) ∧ Hid (Below w.heap.size w wr)) (fun _ i _ => 288 - (intOf i).toNat)
  case atStart => exact ⟨0, by omega, rfl, Lib.hid (World.ownsRow_nil _ _ _ _), Below.refl _ _⟩
  case round =>
    obtain ⟨k, hk, rfl, HO, HW⟩ := hrel
    have hsz := HW.out.size
    by_cases hlt : k < 288
    · have e0 : decide ((k : Int) < 288) = true := by simp; omega
      have fin : ∀ x, fixGo k = x → ∀ (v1 : Value) (w1 : World), w1.ownsRow w.heap.size 3 1 v1 (k + 1) (ints .i64 (fixL k ++ [x])) → w1.ownsRow w.heap.size 3 1 v1 (k + 1) (ints .i64 (fixL (k + 1))) := fun x hx v1 w1 h => by rw [fixL_succ, hx]; exact h
      have HF := Lib.hid fin
      clear fin
      have HRI : ∀ x, Hid (RI .i64 (wr.alloc (.cells #[.int .i64 x] 3)) (some ⟨wr.heap.size, 0, none⟩) 1 [x]) := fun x => Lib.hid (ri_one _ _ _ _)
      have HR8 := HRI 8
      have HR9 := HRI 9
      have HR7 := HRI 7
      clear HRI
      by_cases h144 : k < 144
      · have e1 : decide ((k : Int) < 144) = true := by simp; omega
        go_wp2_with (at_builtin; refine app_intsG rfl (.tmp 16) (.tmp 17) rfl w.heap.size _ k (fixL k) rfl (HO.out.alloc _) (some ⟨wr.heap.size, 0, none⟩) 1 1 [8] rfl (by exact HR8.out) ?c1 ?c2 (by omega) ?c3 ?_)
        case c1 => simp
        case c2 => intro ad h; exact ⟨_, _, (Option.some.inj h).symm⟩
        case c3 => simp; omega
        intro v' w1 h1 hg
        have HO1 := Lib.hid (HF.out 8 (by unfold fixGo; rw [if_pos (by omega)]) _ _ h1)
        have HB1 := Lib.hid ((HW.out.alloc (by omega) _).grown hg (by simp; omega) (fun k hk => (HO.out.lt k hk).1))
        clear HO HW h1 hg HF
        go_wp2_with fail
        go_roundw
        case rel => exact ⟨k + 1, by omega, by go_num, HO1, HB1⟩
        case measure => simp [intOf]; omega
      · have e1 : decide ((k : Int) < 144) = false := by simp; omega
        by_cases h279 : 279 < k
        · have e2 : decide (279 < (k : Int)) = true := by simp; omega
          go_wp2_with (at_builtin; refine app_intsG rfl (.tmp 16) (.tmp 17) rfl w.heap.size _ k (fixL k) rfl (HO.out.alloc _) (some ⟨wr.heap.size, 0, none⟩) 1 1 [8] rfl (by exact HR8.out) ?d1 ?d2 (by omega) ?d3 ?_)
          case d1 => simp
          case d2 => intro ad h; exact ⟨_, _, (Option.some.inj h).symm⟩
          case d3 => simp; omega
          intro v' w1 h1 hg
          have HO1 := Lib.hid (HF.out 8 (by unfold fixGo; rw [if_pos (by omega)]) _ _ h1)
          have HB1 := Lib.hid ((HW.out.alloc (by omega) _).grown hg (by simp; omega) (fun k hk => (HO.out.lt k hk).1))
          clear HO HW h1 hg HF
          go_wp2_with fail
          go_roundw
          case rel => exact ⟨k + 1, by omega, by go_num, HO1, HB1⟩
          case measure => simp [intOf]; omega
        · have e2 : decide (279 < (k : Int)) = false := by simp; omega
          by_cases h256 : k < 256
          · have e3 : decide ((k : Int) < 256) = true := by simp; omega
            go_wp2_with (at_builtin; refine app_intsG rfl (.tmp 22) (.tmp 23) rfl w.heap.size _ k (fixL k) rfl (HO.out.alloc _) (some ⟨wr.heap.size, 0, none⟩) 1 1 [9] rfl (by exact HR9.out) ?f1 ?f2 (by omega) ?f3 ?_)
            case f1 => simp
            case f2 => intro ad h; exact ⟨_, _, (Option.some.inj h).symm⟩
            case f3 => simp; omega
            intro v' w1 h1 hg
            have HO1 := Lib.hid (HF.out 9 (by unfold fixGo; rw [if_neg (by omega), if_pos (by omega)]) _ _ h1)
            have HB1 := Lib.hid ((HW.out.alloc (by omega) _).grown hg (by simp; omega) (fun k hk => (HO.out.lt k hk).1))
            clear HO HW h1 hg HF
            go_wp2_with fail
            go_roundw
            case rel => exact ⟨k + 1, by omega, by go_num, HO1, HB1⟩
            case measure => simp [intOf]; omega
          · have e3 : decide ((k : Int) < 256) = false := by simp; omega
            go_wp2_with (at_builtin; refine app_intsG rfl (.tmp 6) (.tmp 7) rfl w.heap.size _ k (fixL k) rfl (HO.out.alloc _) (some ⟨wr.heap.size, 0, none⟩) 1 1 [7] rfl (by exact HR7.out) ?g1 ?g2 (by omega) ?g3 ?_)
            case g1 => simp
            case g2 => intro ad h; exact ⟨_, _, (Option.some.inj h).symm⟩
            case g3 => simp; omega
            intro v' w1 h1 hg
            have HO1 := Lib.hid (HF.out 7 (by unfold fixGo; rw [if_neg (by omega), if_neg (by omega)]) _ _ h1)
            have HB1 := Lib.hid ((HW.out.alloc (by omega) _).grown hg (by simp; omega) (fun k hk => (HO.out.lt k hk).1))
            clear HO HW h1 hg HF
            go_wp2_with fail
            go_roundw
            case rel => exact ⟨k + 1, by omega, by go_num, HO1, HB1⟩
            case measure => simp [intOf]; omega
    · obtain rfl : k = 288 := by omega
      have e0 : decide (((288 : Nat) : Int) < 288) = false := by decide
      have HO1 : Hid (wr.ownsRow w.heap.size 3 1 _ 288 (ints .i64 fixLit)) := Lib.hid (by have := HO.out; rwa [fixL_all] at this)
      clear HO
      go_wp2_with fail
      refine (repeat_calls' _ wr.heap.size 1 32 32 5 rfl (by simp) (by omega) (by omega)).mono ?_
      rintro _ w2 ⟨g2, rfl, hb2, hg2, hB2⟩
      have HB2 := Lib.hid hb2
      have hz : wr.heap.size < g2 := by simp at hg2; omega
      have HW2 := Lib.hid ((HW.out.alloc hsz (.cells #[.int .i64 5] 3)).trans (hB2.mono (by simp; omega)))
      have hO2 := own_keeps HO1.out ((Keeps.refl [] wr).alloc (.cells #[.int .i64 5] 3)) (by simp)
      have HO2 := Lib.hid (own_keeps hO2 (Keeps.of_below hB2 (S := [])) (by simp))
      clear hb2 hg2 hB2 hO2 HO1 HW
      go_wp2_with fail
      go_ret2
      exact ⟨_, _, rfl, HO2.out, HB2.out, by omega, HW2.out⟩
end Go.Proofs.YtcblibefmclloaaDoor

set_option linter.unusedVariables false
set_option linter.unusedSimpArgs false
/-! Plain: what stands behind the bytes does not matter to what is inflated. -/
namespace Go.Proofs.YtcblibefmclloaaDoor
theorem bitAt_pre (bs m : List Int) (i : Nat) (h : i < 8 * bs.length) : bitAt (bs ++ m) i = bitAt bs i := by
  unfold bitAt; rw [nth_append_left _ _ _ (by omega)]
theorem numB_pre (bs m : List Int) (p : Nat) : ∀ n, p + n ≤ 8 * bs.length → numB (bs ++ m) p n = numB bs p n
  | 0, _ => rfl
  | n + 1, h => by rw [numB, numB, numB_pre bs m p n (by omega), bitAt_pre _ _ _ (by omega)]
theorem len_pre (bs m : List Int) : 8 * bs.length ≤ 8 * (bs ++ m).length := by rw [List.length_append]; omega
theorem decGo_pre (l bs m : List Int) (p : Nat) : ∀ f n x, (decGo l bs p f n x).2.1 ≠ 10 → decGo l (bs ++ m) p f n x = decGo l bs p f n x
  | 0, n, x, _ => rfl
  | f + 1, n, x, h => by
    have hl := len_pre bs m
    rw [decGo] at h
    by_cases h1 : p + n + 1 ≤ 8 * bs.length
    · rw [if_pos h1] at h
      rw [decGo, decGo, if_pos h1, if_pos (by omega), bitAt_pre _ _ _ (by omega)]
      split
      · rfl
      · next h2 => rw [if_neg h2] at h; exact decGo_pre l bs m p f _ _ h
    · rw [if_neg h1] at h; exact absurd rfl h
theorem decGo_cut (l bs m : List Int) (p : Nat) : ∀ f n x, (decGo l (bs ++ m) p f n x).2.1 = 0 → n < (decGo l (bs ++ m) p f n x).2.2 ∧ (p + (decGo l (bs ++ m) p f n x).2.2 ≤ 8 * bs.length → decGo l bs p f n x = decGo l (bs ++ m) p f n x)
  | 0, n, x, h => by simp [decGo] at h
  | f + 1, n, x, h => by
    rw [decGo] at h ⊢
    by_cases h1 : p + n + 1 ≤ 8 * (bs ++ m).length
    · rw [if_pos h1] at h ⊢
      split
      · next h2 =>
        refine ⟨Nat.lt_succ_self n, fun hp => ?_⟩
        have hp : p + (n + 1) ≤ 8 * bs.length := hp
        rw [decGo, if_pos (by omega), ← bitAt_pre bs m _ (by omega), if_pos h2]
      · next h2 =>
        rw [if_neg h2] at h
        obtain ⟨a, b⟩ := decGo_cut l bs m p f _ _ h
        refine ⟨by omega, fun hp => ?_⟩
        rw [decGo, if_pos (by omega), ← bitAt_pre bs m _ (by omega), if_neg h2]; exact b hp
    · rw [if_neg h1] at h; simp at h
theorem decF_pre (l bs m : List Int) (p : Nat) (h : (decF l bs p).2.1 ≠ 10) : decF l (bs ++ m) p = decF l bs p := decGo_pre l bs m p _ _ _ h
theorem decF_cut (l bs m : List Int) (p : Nat) (h : (decF l (bs ++ m) p).2.1 = 0) (hp : p + (decF l (bs ++ m) p).2.2 ≤ 8 * bs.length) : decF l bs p = decF l (bs ++ m) p := (decGo_cut l bs m p _ _ _ h).2 hp
theorem end55 {e o : Int} (ho : o ≠ 55) (h : endF e o = 55) : e = 10 := by
  unfold endF at h
  split at h
  · cases h
  split at h
  · assumption
  · exact absurd h ho
/-! What is laid only grows. -/
theorem storF_grow (bs : List Int) (most : Nat) : ∀ n out p, out <+: (storF bs most n out p).1
  | 0, out, p => List.prefix_refl _
  | n + 1, out, p => by
    rw [storF]
    split
    · exact List.prefix_refl _
    split
    · exact List.prefix_refl _
    · exact (List.prefix_append _ _).trans (storF_grow bs most n _ _)
theorem storedF_grow (bs : List Int) (most : Nat) (out : List Int) (p : Nat) : out <+: (storedF bs most out p).1 := by
  unfold storedF
  split
  · exact List.prefix_refl _
  split
  · exact List.prefix_refl _
  split
  · exact List.prefix_refl _
  · exact storF_grow _ _ _ _ _
theorem layN_grow (far most : Nat) : ∀ n out, out <+: (layN far most n out).1
  | 0, out => List.prefix_refl _
  | n + 1, out => by
    rw [layN]
    split
    · exact List.prefix_refl _
    · exact (List.prefix_append _ _).trans (layN_grow far most n _)
theorem copyF_grow (dist bs : List Int) (most s : Nat) (out : List Int) (p : Nat) : out <+: (copyF dist bs most s out p).1 := by
  unfold copyF
  repeat' split
  all_goals first | exact List.prefix_refl _ | exact layN_grow _ _ _ _
theorem symF_grow (lit dist bs : List Int) (most : Nat) : ∀ f out p, out <+: (symF lit dist bs most f out p).1
  | 0, out, p => List.prefix_refl _
  | f + 1, out, p => by
    rw [symF]
    split
    · exact List.prefix_refl _
    split
    · exact List.prefix_refl _
    split
    · split
      · exact List.prefix_refl _
      · exact (List.prefix_append _ _).trans (symF_grow lit dist bs most f _ _)
    split
    · exact copyF_grow _ _ _ _ _ _
    · exact (copyF_grow _ _ _ _ _ _).trans (symF_grow lit dist bs most f _ _)
theorem blockF_grow (bs : List Int) (most : Nat) (kind : Int) (out : List Int) (p : Nat) : out <+: (blockF bs most kind out p).1 := by
  unfold blockF
  split
  · exact storedF_grow _ _ _ _
  split
  · exact symF_grow _ _ _ _ _ _ _
  split
  · split
    · exact List.prefix_refl _
    · exact symF_grow _ _ _ _ _ _ _
  · exact List.prefix_refl _
theorem blksF_grow (bs : List Int) (most : Nat) : ∀ f out p, out <+: (blksF bs most f out p).1
  | 0, out, p => List.prefix_refl _
  | f + 1, out, p => by
    rw [blksF]
    split
    · exact List.prefix_refl _
    split
    · exact List.prefix_refl _
    split
    · exact blockF_grow _ _ _ _ _
    split
    · exact (blockF_grow _ _ _ _ _).trans (blksF_grow bs most f _ _)
    · exact blockF_grow _ _ _ _ _
/-! With more bytes behind. -/
def Ext (r r' : IRes) : Prop := (r.2.2 ≠ 55 → r' = r) ∧ (r.2.2 = 55 → r.1 <+: r'.1)
theorem Ext.same {r r' : IRes} (h : r' = r) : Ext r r' := ⟨fun _ => h, fun _ => by rw [h]; exact List.prefix_refl _⟩
theorem Ext.fin {out : List Int} {r' : IRes} (h : out <+: r'.1) : Ext (out, 0, 55) r' := ⟨fun h => absurd rfl h, fun _ => h⟩
theorem storF_ext (bs m : List Int) (most : Nat) : ∀ n out p, Ext (storF bs most n out p) (storF (bs ++ m) most n out p)
  | 0, out, p => Ext.same rfl
  | n + 1, out, p => by
    have hl := len_pre bs m
    by_cases h1 : 8 * bs.length < p + 8
    · rw [storF, if_pos h1]; exact Ext.fin (storF_grow _ _ _ _ _)
    · rw [storF, storF, if_neg h1, if_neg (show ¬ 8 * (bs ++ m).length < p + 8 by omega), numB_pre _ _ _ _ (by omega)]
      split
      · exact Ext.same rfl
      · exact storF_ext bs m most n _ _
theorem storedF_ext (bs m : List Int) (most : Nat) (out : List Int) (p : Nat) : Ext (storedF bs most out p) (storedF (bs ++ m) most out p) := by
  have hl := len_pre bs m
  by_cases h1 : 8 * bs.length < alignF p + 16
  · rw [show storedF bs most out p = (out, 0, 55) by unfold storedF; rw [if_pos h1]]; exact Ext.fin (storedF_grow _ _ _ _)
  by_cases h2 : 8 * bs.length < alignF p + 32
  · rw [show storedF bs most out p = (out, 0, 55) by unfold storedF; rw [if_neg h1, if_pos h2]]; exact Ext.fin (storedF_grow _ _ _ _)
  unfold storedF
  rw [if_neg h1, if_neg h2, if_neg (show ¬ 8 * (bs ++ m).length < alignF p + 16 by omega), if_neg (show ¬ 8 * (bs ++ m).length < alignF p + 32 by omega), numB_pre bs m (alignF p) 16 (by omega), numB_pre bs m (alignF p + 16) 16 (by omega)]
  split
  · exact Ext.same rfl
  · exact storF_ext _ _ _ _ _ _
theorem copyF_ext (dist bs m : List Int) (most s : Nat) (out : List Int) (p : Nat) : Ext (copyF dist bs most s out p) (copyF dist (bs ++ m) most s out p) := by
  have hl := len_pre bs m
  by_cases h1 : 285 < s
  · unfold copyF; rw [if_pos h1, if_pos h1]; exact Ext.same rfl
  by_cases h2 : 8 * bs.length < p + lenK s
  · rw [show copyF dist bs most s out p = (out, 0, 55) by unfold copyF; rw [if_neg h1, if_pos h2]]; exact Ext.fin (copyF_grow _ _ _ _ _ _)
  by_cases h3 : anyUsed dist = false
  · unfold copyF; rw [if_neg h1, if_neg h2, if_pos h3, if_neg h1, if_neg (by omega), if_pos h3]; exact Ext.same rfl
  by_cases h4 : (decF dist bs (p + lenK s)).2.1 = 10
  · rw [show copyF dist bs most s out p = (out, 0, 55) by unfold copyF; rw [if_neg h1, if_neg h2, if_neg h3, if_pos (by rw [h4]; decide), h4]; rfl]; exact Ext.fin (copyF_grow _ _ _ _ _ _)
  have hd := decF_pre dist bs m (p + lenK s) h4
  by_cases h5 : (decF dist bs (p + lenK s)).2.1 ≠ 0
  · unfold copyF; rw [hd, if_neg h1, if_neg h2, if_neg h3, if_pos h5, if_neg h1, if_neg (by omega), if_neg h3, if_pos h5]; exact Ext.same rfl
  by_cases h6 : 29 < (decF dist bs (p + lenK s)).1
  · unfold copyF; rw [hd, if_neg h1, if_neg h2, if_neg h3, if_neg h5, if_pos h6, if_neg h1, if_neg (by omega), if_neg h3, if_neg h5, if_pos h6]; exact Ext.same rfl
  by_cases h7 : 8 * bs.length < p + lenK s + (decF dist bs (p + lenK s)).2.2 + distK (decF dist bs (p + lenK s)).1.toNat
  · rw [show copyF dist bs most s out p = (out, 0, 55) by unfold copyF; rw [if_neg h1, if_neg h2, if_neg h3, if_neg h5, if_neg h6, if_pos h7]]; exact Ext.fin (copyF_grow _ _ _ _ _ _)
  refine Ext.same ?_
  unfold copyF
  rw [hd, if_neg h1, if_neg (show ¬ 8 * (bs ++ m).length < p + lenK s by omega), if_neg h3, if_neg h5, if_neg h6, if_neg (show ¬ 8 * (bs ++ m).length < p + lenK s + (decF dist bs (p + lenK s)).2.2 + distK (decF dist bs (p + lenK s)).1.toNat by omega), if_neg h1, if_neg h2, if_neg h3, if_neg h5, if_neg h6, if_neg h7,
    numB_pre bs m p (lenK s) (by omega), numB_pre bs m _ (distK (decF dist bs (p + lenK s)).1.toNat) (by omega)]
theorem symF_ext (lit dist bs m : List Int) (most : Nat) : ∀ f f' out p, p ≤ 8 * bs.length → 8 * bs.length - p < f → 8 * (bs ++ m).length - p < f' → Ext (symF lit dist bs most f out p) (symF lit dist (bs ++ m) most f' out p)
  | 0, f', out, p, _, h, _ => by omega
  | f + 1, 0, out, p, _, _, h => by omega
  | f + 1, f' + 1, out, p, hp, hf, hf' => by
    have hl := len_pre bs m
    by_cases h4 : (decF lit bs p).2.1 = 10
    · rw [show symF lit dist bs most (f + 1) out p = (out, 0, 55) by rw [symF, if_pos (by rw [h4]; decide), h4]; rfl]; exact Ext.fin (symF_grow _ _ _ _ _ _ _)
    have hd := decF_pre lit bs m p h4
    rw [symF, symF, hd]
    by_cases h5 : (decF lit bs p).2.1 ≠ 0
    · rw [if_pos h5, if_pos h5]; exact Ext.same rfl
    rw [if_neg h5, if_neg h5]
    obtain ⟨a1, a2, -⟩ := dec_adv lit bs p hp (by omega)
    by_cases h6 : (decF lit bs p).1 = 256
    · rw [if_pos h6, if_pos h6]; exact Ext.same rfl
    rw [if_neg h6, if_neg h6]
    by_cases h7 : (decF lit bs p).1 < 256
    · rw [if_pos h7, if_pos h7]
      split
      · exact Ext.same rfl
      · exact symF_ext lit dist bs m most f f' _ _ a2 (by omega) (by omega)
    rw [if_neg h7, if_neg h7]
    have hc := copyF_ext dist bs m most (decF lit bs p).1.toNat out (p + (decF lit bs p).2.2)
    by_cases h8 : (copyF dist bs most (decF lit bs p).1.toNat out (p + (decF lit bs p).2.2)).2.2 = 55
    · rw [if_pos (show (copyF dist bs most (decF lit bs p).1.toNat out (p + (decF lit bs p).2.2)).2.2 ≠ 0 by rw [h8]; decide)]
      refine ⟨fun h => absurd h8 h, fun _ => ?_⟩
      split
      · exact hc.2 h8
      · exact (hc.2 h8).trans (symF_grow _ _ _ _ _ _ _)
    rw [hc.1 h8]
    split
    · exact Ext.same rfl
    · next h9 =>
      obtain ⟨b1, b2⟩ := copyF_pos dist bs most (decF lit bs p).1.toNat out _ a2 (by omega)
      exact symF_ext lit dist bs m most f f' _ _ b2 (by omega) (by omega)
/-! Heads. -/
theorem cL_pre (bs m : List Int) (p : Nat) : ∀ k, p + 3 * k ≤ 8 * bs.length → cL (bs ++ m) p k = cL bs p k
  | 0, _ => rfl
  | k + 1, h => by rw [cL, cL, cL_pre bs m p k (by omega), numB_pre _ _ _ _ (by omega)]
theorem stepsF_pre (codes bs m : List Int) (N : Int) : ∀ f l q, (stepsF codes bs N f l q).2.2 ≠ 10 → stepsF codes (bs ++ m) N f l q = stepsF codes bs N f l q
  | 0, l, q, _ => rfl
  | f + 1, l, q, h => by
    have hl := len_pre bs m
    by_cases h1 : N ≤ l.length
    · rw [stepsF, if_pos h1, stepsF, if_pos h1]
    rw [stepsF, if_neg h1] at h
    rw [stepsF, if_neg h1, stepsF, if_neg h1]
    by_cases h2 : (decF codes bs q).2.1 ≠ 0
    · rw [if_pos h2] at h
      rw [decF_pre codes bs m q h, if_pos h2, if_pos h2]
    rw [if_neg h2] at h
    rw [decF_pre codes bs m q (by omega), if_neg h2]
    by_cases h3 : 8 * bs.length < q + (decF codes bs q).2.2 + wN (decF codes bs q).1
    · rw [if_pos h3] at h; exact absurd rfl h
    rw [if_neg h3] at h
    rw [if_neg h3, if_neg (by omega), if_neg h2, numB_pre _ _ _ _ (by omega)]
    split at h
    · rfl
    · next l' ha => exact stepsF_pre codes bs m N f l' _ h
theorem stepsF_cut (codes bs m : List Int) (N : Int) : ∀ f l q, (stepsF codes (bs ++ m) N f l q).2.2 = 0 → q ≤ (stepsF codes (bs ++ m) N f l q).2.1 ∧ ((stepsF codes (bs ++ m) N f l q).2.1 ≤ 8 * bs.length → stepsF codes bs N f l q = stepsF codes (bs ++ m) N f l q)
  | 0, l, q, _ => ⟨Nat.le_refl _, fun _ => rfl⟩
  | f + 1, l, q, h => by
    by_cases h1 : N ≤ l.length
    · rw [stepsF, if_pos h1, stepsF, if_pos h1]; exact ⟨Nat.le_refl _, fun _ => rfl⟩
    rw [stepsF, if_neg h1] at h
    rw [stepsF, if_neg h1, stepsF, if_neg h1]
    by_cases h2 : (decF codes (bs ++ m) q).2.1 ≠ 0
    · rw [if_pos h2] at h; exact absurd h h2
    rw [if_neg h2] at h ⊢
    by_cases h3 : 8 * (bs ++ m).length < q + (decF codes (bs ++ m) q).2.2 + wN (decF codes (bs ++ m) q).1
    · rw [if_pos h3] at h; simp at h
    rw [if_neg h3] at h ⊢
    split at h
    · simp at h
    · next l' ha =>
      obtain ⟨a, b⟩ := stepsF_cut codes bs m N f l' _ h
      refine ⟨by omega, fun hp => ?_⟩
      have hd := decF_cut codes bs m q (by omega) (by omega)
      rw [hd, if_neg h2, if_neg (by omega), ← numB_pre bs m _ _ (by omega), ha]
      exact b hp
theorem headF_pre (bs m : List Int) (p : Nat) (h : (headF bs p).2.2.2 ≠ 10) : headF (bs ++ m) p = headF bs p := by
  have hl := len_pre bs m
  unfold headF at h
  by_cases h1 : 8 * bs.length < p + 14
  · rw [if_pos h1] at h; exact absurd rfl h
  rw [if_neg h1] at h
  have n1 := numB_pre bs m p 5 (by omega)
  have n2 := numB_pre bs m (p + 5) 5 (by omega)
  have em : manyF (bs ++ m) p = manyF bs p := by unfold manyF; rw [numB_pre _ _ _ _ (by omega)]
  have el : litF (bs ++ m) p = litF bs p := by unfold litF; rw [n1]
  have ed : distF (bs ++ m) p = distF bs p := by unfold distF; rw [n2]
  unfold headF
  rw [if_neg h1, if_neg (show ¬ 8 * (bs ++ m).length < p + 14 by omega), n1, n2, em]
  by_cases h2 : 29 < numB bs p 5 ∨ 29 < numB bs (p + 5) 5
  · rw [if_pos h2, if_pos h2]
  rw [if_neg h2] at h
  rw [if_neg h2, if_neg h2]
  by_cases h3 : 8 * bs.length < p + 14 + 3 * manyF bs p
  · rw [if_pos h3] at h; exact absurd rfl h
  rw [if_neg h3] at h
  rw [if_neg h3, if_neg (by omega)]
  have ec : codesH (bs ++ m) p = codesH bs p := by unfold codesH; rw [em, cL_pre _ _ _ _ (by omega)]
  rw [ec]
  by_cases h4 : checkF (codesH bs p) ≠ 0
  · rw [if_pos h4, if_pos h4]
  rw [if_neg h4] at h
  rw [if_neg h4, if_neg h4]
  have er : (readR bs p).2.2 ≠ 10 → readR (bs ++ m) p = readR bs p := fun hr => by
    unfold readR; rw [ec, el, ed, em]; exact stepsF_pre _ _ _ _ _ _ _ hr
  by_cases h5 : (readR bs p).2.2 ≠ 0
  · rw [if_pos h5] at h
    rw [er h, if_pos h5, if_pos h5]
  · rw [er (by omega), el]
theorem headF_cut (bs m : List Int) (p : Nat) (h : (headF (bs ++ m) p).2.2.2 = 0) (hp : p + (headF (bs ++ m) p).2.2.1 ≤ 8 * bs.length) : headF bs p = headF (bs ++ m) p := by
  have hl := len_pre bs m
  unfold headF at h hp
  by_cases h1 : 8 * (bs ++ m).length < p + 14
  · rw [if_pos h1] at h; simp at h
  rw [if_neg h1] at h hp
  by_cases h2 : 29 < numB (bs ++ m) p 5 ∨ 29 < numB (bs ++ m) (p + 5) 5
  · rw [if_pos h2] at h; simp at h
  rw [if_neg h2] at h hp
  by_cases h3 : 8 * (bs ++ m).length < p + 14 + 3 * manyF (bs ++ m) p
  · rw [if_pos h3] at h; simp at h
  rw [if_neg h3] at h hp
  by_cases h4 : checkF (codesH (bs ++ m) p) ≠ 0
  · rw [if_pos h4] at h; exact absurd h h4
  rw [if_neg h4] at h hp
  by_cases h5 : (readR (bs ++ m) p).2.2 ≠ 0
  · rw [if_pos h5] at h; exact absurd h h5
  rw [if_neg h5] at h hp
  obtain ⟨a, b⟩ := stepsF_cut (codesH (bs ++ m) p) bs m ((litF (bs ++ m) p + distF (bs ++ m) p : Nat) : Int) (litF (bs ++ m) p + distF (bs ++ m) p) [] (p + 14 + 3 * manyF (bs ++ m) p) (by
    have : (readR (bs ++ m) p).2.2 = 0 := by omega
    exact this)
  change _ ≤ (readR (bs ++ m) p).2.1 at a
  change (readR (bs ++ m) p).2.1 ≤ _ → _ = readR (bs ++ m) p at b
  simp only [] at hp
  have hq : (readR (bs ++ m) p).2.1 ≤ 8 * bs.length := by omega
  have n1 := numB_pre bs m p 5 (by omega)
  have n2 := numB_pre bs m (p + 5) 5 (by omega)
  have em : manyF (bs ++ m) p = manyF bs p := by unfold manyF; rw [numB_pre _ _ _ _ (by omega)]
  have el : litF (bs ++ m) p = litF bs p := by unfold litF; rw [n1]
  have ed : distF (bs ++ m) p = distF bs p := by unfold distF; rw [n2]
  have ec : codesH (bs ++ m) p = codesH bs p := by unfold codesH; rw [em, cL_pre _ _ _ _ (by omega)]
  have er : readR bs p = readR (bs ++ m) p := by rw [← b hq, ec, el, ed, em]; rfl
  refine (headF_pre bs m p ?_).symm
  unfold headF
  rw [if_neg (by omega), ← n1, ← n2, if_neg h2, ← em, if_neg (by omega), ← ec, if_neg h4, er, if_neg h5]
  exact (by decide : (0 : Int) ≠ 10)
theorem headF_adv (bs : List Int) (p : Nat) (h : (headF bs p).2.2.2 = 0) : p + (headF bs p).2.2.1 ≤ 8 * bs.length := by
  have hm : ∀ f l q, q ≤ 8 * bs.length → (stepsF (codesH bs p) bs ((litF bs p + distF bs p : Nat) : Int) f l q).2.2 = 0 → (stepsF (codesH bs p) bs ((litF bs p + distF bs p : Nat) : Int) f l q).2.1 ≤ 8 * bs.length := by
    intro f
    induction f with
    | zero => intro l q hq _; exact hq
    | succ f ih =>
      intro l q hq h
      rw [stepsF] at h ⊢
      split
      · exact hq
      next h1 =>
      rw [if_neg h1] at h
      split
      · exact hq
      next h2 =>
      rw [if_neg h2] at h
      split
      · exact hq
      next h3 =>
      rw [if_neg h3] at h
      split
      · exact hq
      · next l' ha => rw [ha] at h; exact ih l' _ (by omega) h
  unfold headF at h ⊢
  split
  · next h1 => rw [if_pos h1] at h; simp at h
  next h1 =>
  rw [if_neg h1] at h
  split
  · next h2 => rw [if_pos h2] at h; simp at h
  next h2 =>
  rw [if_neg h2] at h
  split
  · next h3 => rw [if_pos h3] at h; simp at h
  next h3 =>
  rw [if_neg h3] at h
  split
  · next h4 => rw [if_pos h4] at h; exact absurd h h4
  next h4 =>
  rw [if_neg h4] at h
  split
  · next h5 => rw [if_pos h5] at h; exact absurd h h5
  · next h5 =>
    have := hm (litF bs p + distF bs p) [] (p + 14 + 3 * manyF bs p) (by omega) (by have : (readR bs p).2.2 = 0 := by omega
                                                                                    exact this)
    change (readR bs p).2.1 ≤ _ at this
    simp only []
    omega
/-! Blocks. -/
theorem codesE_zero {h : List Int × List Int × Nat × Int} (he : codesE h = 0) : h.2.2.2 = 0 := by
  unfold codesE at he
  split at he
  · next h1 => exact endF_zero (by decide) he
  · omega
theorem codesE_55 {h : List Int × List Int × Nat × Int} (he : codesE h = 55) : h.2.2.2 = 10 := by
  unfold codesE at he
  split at he
  · exact end55 (by decide) he
  · repeat' split at he
    all_goals simp at he
theorem blockF_pos (bs : List Int) (most : Nat) (kind : Int) (out : List Int) (p : Nat) (hp : p ≤ 8 * bs.length) (h : (blockF bs most kind out p).2.2 = 0) : p ≤ (blockF bs most kind out p).2.1 ∧ (blockF bs most kind out p).2.1 ≤ 8 * bs.length := by
  unfold blockF at h ⊢
  split
  · next h1 => rw [if_pos h1] at h; exact storedF_pos _ _ _ _ h
  next h1 =>
  rw [if_neg h1] at h
  split
  · next h2 => rw [if_pos h2] at h; exact symF_pos _ _ _ _ _ _ _ hp h
  next h2 =>
  rw [if_neg h2] at h
  split
  · next h3 =>
    rw [if_pos h3] at h
    split
    · next h4 => rw [if_pos h4] at h; exact absurd h h4
    · next h4 =>
      rw [if_neg h4] at h
      have ha := headF_adv bs p (codesE_zero (by omega))
      have := symF_pos _ _ _ _ _ _ _ ha h
      omega
  · next h3 => rw [if_neg h3] at h; simp at h
theorem blockF_ext (bs m : List Int) (most : Nat) (kind : Int) (out : List Int) (p : Nat) (hp : p ≤ 8 * bs.length) : Ext (blockF bs most kind out p) (blockF (bs ++ m) most kind out p) := by
  unfold blockF
  split
  · exact storedF_ext _ _ _ _ _
  split
  · exact symF_ext _ _ _ _ _ _ _ _ _ hp (by omega) (by omega)
  split
  · by_cases h1 : (headF bs p).2.2.2 = 10
    · have he : codesE (headF bs p) = 55 := by unfold codesE; rw [if_pos (by rw [h1]; decide), h1]; rfl
      rw [if_pos (by rw [he]; decide), he]
      refine Ext.fin ?_
      split
      · exact List.prefix_refl _
      · exact symF_grow _ _ _ _ _ _ _
    · rw [headF_pre bs m p h1]
      split
      · exact Ext.same rfl
      · next h2 =>
        have ha := headF_adv bs p (codesE_zero (by omega))
        exact symF_ext _ _ _ _ _ _ _ _ _ ha (by omega) (by omega)
  · exact Ext.same rfl
theorem blksF_ext (bs m : List Int) (most : Nat) : ∀ f f' out p, p ≤ 8 * bs.length → 8 * bs.length - p < f → 8 * (bs ++ m).length - p < f' → Ext (blksF bs most f out p) (blksF (bs ++ m) most f' out p)
  | 0, f', out, p, _, h, _ => by omega
  | f + 1, 0, out, p, _, _, h => by omega
  | f + 1, f' + 1, out, p, hp, hf, hf' => by
    have hl := len_pre bs m
    by_cases h1 : 8 * bs.length < p + 1
    · rw [blksF, if_pos h1]; exact Ext.fin (blksF_grow _ _ _ _ _)
    by_cases h2 : 8 * bs.length < p + 3
    · rw [blksF, if_neg h1, if_pos h2]; exact Ext.fin (blksF_grow _ _ _ _ _)
    rw [blksF, blksF, if_neg h1, if_neg h2, if_neg (show ¬ 8 * (bs ++ m).length < p + 1 by omega), if_neg (show ¬ 8 * (bs ++ m).length < p + 3 by omega), numB_pre bs m (p + 1) 2 (by omega), numB_pre bs m p 1 (by omega)]
    have hb := blockF_ext bs m most (numB bs (p + 1) 2) out (p + 3) (by omega)
    by_cases h8 : (blockF bs most (numB bs (p + 1) 2) out (p + 3)).2.2 = 55
    · rw [if_pos (show (blockF bs most (numB bs (p + 1) 2) out (p + 3)).2.2 ≠ 0 by rw [h8]; decide)]
      refine ⟨fun h => absurd h8 h, fun _ => ?_⟩
      split
      · exact hb.2 h8
      split
      · exact (hb.2 h8).trans (blksF_grow _ _ _ _ _)
      · exact hb.2 h8
    rw [hb.1 h8]
    split
    · exact Ext.same rfl
    · next h9 =>
      obtain ⟨b1, b2⟩ := blockF_pos bs most (numB bs (p + 1) 2) out (p + 3) (by omega) (by omega)
      split
      · exact blksF_ext bs m most f f' _ _ b2 (by omega) (by omega)
      · exact Ext.same rfl
theorem inflF_ext (bs m : List Int) (most : Nat) : Ext (inflF bs most) (inflF (bs ++ m) most) := blksF_ext bs m most _ _ _ _ (by omega) (by omega) (by omega)
theorem blksF_pos (bs : List Int) (most : Nat) : ∀ f out p, p ≤ 8 * bs.length → (blksF bs most f out p).2.2 = 0 → p ≤ (blksF bs most f out p).2.1 ∧ (blksF bs most f out p).2.1 ≤ 8 * bs.length
  | 0, out, p, hp, h => by simp [blksF] at h
  | f + 1, out, p, hp, h => by
    rw [blksF] at h ⊢
    split
    · next h1 => rw [if_pos h1] at h; simp at h
    next h1 =>
    rw [if_neg h1] at h
    split
    · next h2 => rw [if_pos h2] at h; simp at h
    next h2 =>
    rw [if_neg h2] at h
    split
    · next h3 => rw [if_pos h3] at h; exact absurd h h3
    next h3 =>
    rw [if_neg h3] at h
    obtain ⟨b1, b2⟩ := blockF_pos bs most (numB bs (p + 1) 2) out (p + 3) (by omega) (by omega)
    split
    · next h4 =>
      rw [if_pos h4] at h
      have := blksF_pos bs most f _ _ b2 h
      omega
    · omega
theorem inflF_pos (bs : List Int) (most : Nat) (h : (inflF bs most).2.2 = 0) : (inflF bs most).2.1 ≤ 8 * bs.length := (blksF_pos bs most _ _ _ (Nat.zero_le _) h).2
end Go.Proofs.YtcblibefmclloaaDoor

set_option linter.unusedVariables false
set_option linter.unusedSimpArgs false
namespace Go.Proofs.YtcblibefmclloaaDoor
open Go.RowKit
theorem stepsF_full (codes bs : List Int) (N : Int) : ∀ f l q, N ≤ ((l.length + f : Nat) : Int) → (stepsF codes bs N f l q).2.2 = 0 → N ≤ (stepsF codes bs N f l q).1.length
  | 0, l, q, hf, h => by simpa [stepsF] using hf
  | f + 1, l, q, hf, h => by
    rw [stepsF] at h ⊢
    split
    · assumption
    next h1 =>
    rw [if_neg h1] at h
    split
    · next h2 => rw [if_pos h2] at h; exact absurd h h2
    next h2 =>
    rw [if_neg h2] at h
    split
    · next h3 => rw [if_pos h3] at h; simp at h
    next h3 =>
    rw [if_neg h3] at h
    split
    · next ha => rw [ha] at h; simp at h
    · next l' ha =>
      rw [ha] at h
      have := (addF_grows ha).1
      exact stepsF_full codes bs N f l' _ (by omega) h
theorem head_full {bs : List Int} {p : Nat} (h : (headF bs p).2.2.2 = 0) : (headF bs p).1.length = litF bs p ∧ (headF bs p).2.1.length = distF bs p := by
  unfold headF at h ⊢
  split
  · next h1 => rw [if_pos h1] at h; simp at h
  next h1 =>
  rw [if_neg h1] at h
  split
  · next h2 => rw [if_pos h2] at h; simp at h
  next h2 =>
  rw [if_neg h2] at h
  split
  · next h3 => rw [if_pos h3] at h; simp at h
  next h3 =>
  rw [if_neg h3] at h
  split
  · next h4 => rw [if_pos h4] at h; exact absurd h h4
  next h4 =>
  rw [if_neg h4] at h
  split
  · next h5 => rw [if_pos h5] at h; exact absurd h h5
  · next h5 =>
    have hf := stepsF_full (codesH bs p) bs ((litF bs p + distF bs p : Nat) : Int) (litF bs p + distF bs p) [] (p + 14 + 3 * manyF bs p) (by simp) (by
      have : (readR bs p).2.2 = 0 := by omega
      exact this)
    have hl := stepsF_len (codesH bs p) bs ((litF bs p + distF bs p : Nat) : Int) (Int.natCast_nonneg _) (litF bs p + distF bs p) [] (p + 14 + 3 * manyF bs p) (by simp; omega)
    change _ ≤ ((readR bs p).1.length : Int) at hf
    change ((readR bs p).1.length : Int) ≤ _ at hl
    simp only [List.length_take, List.length_drop]
    omega
/-- What reading the lists of kind 2 gives. -/
def HeadP (w : World) (g gr : Nat) (A : Option Addr) (c : Nat) (bs : List Int) (most : Nat) (out : List Int) (p : Nat) (h : List Int × List Int × Nat × Int) (e : Ending) (w' : World) : Prop :=
  (codesE h ≠ 0 ∧ ∃ q, e = .returned (.tuple #[.slice none 0 0, .slice none 0 0, .int .i64 (codesE h)]) ∧ IR w' g gr A c bs q most out ∧ KT g gr w w') ∨
  (codesE h = 0 ∧ ∃ v1 v2, e = .returned (.tuple #[v1, v2, .int .i64 0]) ∧ w'.ownsRow w.heap.size 3 1 v1 h.1.length (ints .i64 h.1) ∧ w'.ownsRow w.heap.size 3 1 v2 h.2.1.length (ints .i64 h.2.1) ∧
    IR w' g gr A c bs (p + h.2.2.1) most out ∧ KT g gr w w')
theorem headP_err {w w' : World} {g gr c most p q : Nat} {A : Option Addr} {bs out : List Int} {h : List Int × List Int × Nat × Int} {e : Int} (hh : codesE h = e) (he : e ≠ 0) (hi : IR w' g gr A c bs q most out) (k : KT g gr w w') :
    HeadP w g gr A c bs most out p h (.returned (.tuple #[.slice none 0 0, .slice none 0 0, .int .i64 e])) w' := by
  subst hh; exact .inl ⟨he, q, rfl, hi, k⟩
set_option maxRecDepth 100000 in
set_option maxHeartbeats 1000000 in
theorem head_calls (w : World) (g gr : Nat) (A : Option Addr) (c : Nat) (bs : List Int) (p most : Nat) (out : List Int) (hT : Tabs w) (hg : gtop ≤ gr) (h : IR w g gr A c bs p most out) :
    Calls Tryd.prog 109 #[.pointer (some ⟨g, 0, none⟩)] w (HeadP w g gr A c bs most out p (headF bs p)) := by
  have H := Lib.hid h
  have HT := Lib.hid hT
  obtain ⟨v, hblk, -⟩ := h.box
  have hglt := h.glt
  have HA : Hid (∀ a, A = some a → a.block < w.heap.size) := Lib.hid (fun a ha => Nat.lt_trans (h.data a ha) hglt)
  have c0 := hblk.cell 0
  simp only [List.getElem?_cons_zero] at c0
  have HGR := Lib.hid (show gr < w.heap.size from Nat.lt_trans h.lt hglt)
  clear hblk h hT
  have hcR := lensRead_calls w gr A c bs p HT.out hg H.out.rd HA.out
  have hfull := @head_full bs p
  obtain ⟨hd, hhd⟩ : ∃ h, h = headF bs p := ⟨_, rfl⟩
  rw [← hhd] at hcR hfull ⊢
  clear hhd
  obtain ⟨L1, L2, nn, er⟩ := hd
  simp only [] at hcR hfull
  have HF := Lib.hid hfull
  clear hfull
  go_enter Tryd.func109, Tryd.ntmps109
  go_wp2_with fail
  refine hcR.mono ?_
  rintro _ w1 ⟨v1, v2, rfl, ho1, ho2, hr1, hk1⟩
  have H1 := Lib.hid (H.out.read hr1 hk1)
  have K1 : Hid (KT g gr w w1) := Lib.hid (KT.of_keeps hk1 (fun x hx => .inr (List.mem_singleton.1 hx)))
  have HO1 := Lib.hid ho1
  have HO2 := Lib.hid ho2
  clear ho1 ho2 hr1 hk1 H c0 hcR HT HA
  by_cases her : er = 0
  · subst her
    obtain ⟨hl1, hl2⟩ := HF.out rfl
    have b1 : 257 ≤ L1.length := by rw [hl1]; unfold litF; omega
    have b2 : L1.length ≤ 288 := by rw [hl1]; exact litF_le _ _
    have b3 : 1 ≤ L2.length := by rw [hl2]; unfold distF; omega
    have b4 : L2.length ≤ 32 := by rw [hl2]; exact distF_le _ _
    clear hl1 hl2 HF
    obtain ⟨A1, c1, rfl, hri1, -, -⟩ := own_ri HO1.out
    obtain ⟨A2, c2, rfl, hri2, -, -⟩ := own_ri HO2.out
    have HR1 := Lib.hid hri1
    have HR2 := Lib.hid hri2
    obtain ⟨bb, oo, hAA, hc⟩ := hri1.at (show 256 < L1.length by omega)
    subst hAA
    clear hri1 hri2
    obtain ⟨n1, hn1⟩ : ∃ n, n = L1.length := ⟨_, rfl⟩
    obtain ⟨n2, hn2⟩ : ∃ n, n = L2.length := ⟨_, rfl⟩
    have HN1 := Lib.hid hn1
    have HN2 := Lib.hid hn2
    rw [← hn1] at b1 b2 HO1 HR1 ⊢
    rw [← hn2] at b3 b4 HO2 HR2 ⊢
    clear hn1 hn2
    obtain ⟨x, hx⟩ : ∃ x, x = nth L1 256 := ⟨_, rfl⟩
    rw [← hx] at hc
    have HX := Lib.hid hx
    clear hx
    by_cases hx0 : x = 0
    · subst hx0
      have HE : Hid (codesE (L1, L2, nn, 0) = 52) := Lib.hid (by unfold codesE; rw [if_neg (by simp), if_pos (by rw [← HX.out])])
      go_wp2_with fail
      go_ret3
      exact headP_err HE.out (by decide) H1.out K1.out
    · have e1 : (x == 0) = false := by simpa using hx0
      have e1' : decide (x = 0) = false := by simpa using hx0
      have HX0 := Lib.hid hx0
      clear hx0
      go_wp2_with fail
      refine (check_calls w1 _ n1 c1 L1 HR1.out (by omega)).mono ?_
      rintro _ w2 ⟨rfl, hd2⟩
      have hk2 := hd2.keeps (S := [])
      have H2 := Lib.hid (H1.out.keeps hk2)
      have K2 := Lib.hid (K1.out.trans (KT.of_keeps hk2 (by simp)))
      have HR22 := Lib.hid (HR2.out.keeps hk2 (off_nil _))
      have HO12 := Lib.hid (own_keeps HO1.out hk2 (by simp))
      have HO22 := Lib.hid (own_keeps HO2.out hk2 (by simp))
      clear hd2 hk2 H1 K1 HR1 HR2 HO1 HO2 hc
      by_cases hc1 : checkF L1 = 0
      · have HC1 := Lib.hid hc1
        rw [hc1]
        clear hc1
        go_wp2_with fail
        refine (iused_calls w2 _ n2 c2 L2 HR22.out b3 (by omega)).mono ?_
        rintro _ w3 ⟨rfl, hd3⟩
        have hk3 := hd3.keeps (S := [])
        have H3 := Lib.hid (H2.out.keeps hk3)
        have K3 := Lib.hid (K2.out.trans (KT.of_keeps hk3 (by simp)))
        have HR23 := Lib.hid (HR22.out.keeps hk3 (off_nil _))
        have HO13 := Lib.hid (own_keeps HO12.out hk3 (by simp))
        have HO23 := Lib.hid (own_keeps HO22.out hk3 (by simp))
        clear hd3 hk3 H2 K2 HR22 HO12 HO22
        by_cases hu : anyUsed L2 = true
        · have HU := Lib.hid hu
          rw [hu]
          clear hu
          go_wp2_with fail
          refine (check_calls w3 _ n2 c2 L2 HR23.out (by omega)).mono ?_
          rintro _ w4 ⟨rfl, hd4⟩
          have hk4 := hd4.keeps (S := [])
          have H4 := Lib.hid (H3.out.keeps hk4)
          have K4 := Lib.hid (K3.out.trans (KT.of_keeps hk4 (by simp)))
          have HO14 := Lib.hid (own_keeps HO13.out hk4 (by simp))
          have HO24 := Lib.hid (own_keeps HO23.out hk4 (by simp))
          clear hd4 hk4 H3 K3 HR23 HO13 HO23
          by_cases hc2 : checkF L2 = 0
          · have HE : Hid (codesE (L1, L2, nn, 0) = 0) := Lib.hid (by unfold codesE; rw [if_neg (by simp), if_neg (by rw [← HX.out]; exact HX0.out), if_neg (by rw [HC1.out]; simp), if_neg (by rintro ⟨_, h⟩; exact h hc2)])
            rw [hc2]
            clear hc2
            go_wp2_with fail
            go_ret3
            exact .inr ⟨HE.out, _, _, rfl, by rw [← HN1.out]; exact HO14.out, by rw [← HN2.out]; exact HO24.out, H4.out, K4.out⟩
          · have HE : Hid (codesE (L1, L2, nn, 0) = 52) := Lib.hid (by unfold codesE; rw [if_neg (by simp), if_neg (by rw [← HX.out]; exact HX0.out), if_neg (by rw [HC1.out]; simp), if_pos ⟨HU.out, hc2⟩])
            have e2 : (checkF L2 != 0) = true := by simpa using hc2
            generalize checkF L2 = y at *
            clear hc2
            go_wp2_with fail
            go_ret3
            exact headP_err HE.out (by decide) H4.out K4.out
        · have hu : anyUsed L2 = false := by simpa using hu
          have HE : Hid (codesE (L1, L2, nn, 0) = 0) := Lib.hid (by unfold codesE; rw [if_neg (by simp), if_neg (by rw [← HX.out]; exact HX0.out), if_neg (by rw [HC1.out]; simp), if_neg (by rintro ⟨h, _⟩; rw [hu] at h; cases h)])
          rw [hu]
          clear hu
          go_wp2_with fail
          go_ret3
          exact .inr ⟨HE.out, _, _, rfl, by rw [← HN1.out]; exact HO13.out, by rw [← HN2.out]; exact HO23.out, H3.out, K3.out⟩
      · have HE : Hid (codesE (L1, L2, nn, 0) = 52) := Lib.hid (by unfold codesE; rw [if_neg (by simp), if_neg (by rw [← HX.out]; exact HX0.out), if_pos hc1])
        have e2 : (checkF L1 != 0) = true := by simpa using hc1
        generalize checkF L1 = y at *
        clear hc1
        go_wp2_with fail
        go_ret3
        exact headP_err HE.out (by decide) H2.out K2.out
  · have HE : Hid (codesE (L1, L2, nn, er) = endF er 52) := Lib.hid (by unfold codesE; rw [if_pos her])
    have HN : Hid (endF er 52 ≠ 0) := Lib.hid (fun h => her (endF_zero (by decide) h))
    have e1 : (er != 0) = true := by simpa using her
    clear her HF
    go_wp2_with fail
    refine (end_calls w1 er 52).mono ?_
    rintro _ w2 ⟨rfl, hd⟩
    have H2 := Lib.hid (H1.out.keeps (hd.keeps (S := [])))
    have K2 := Lib.hid (K1.out.trans (KT.of_keeps (hd.keeps (S := [])) (by simp)))
    clear hd H1 K1
    generalize endF er 52 = y at *
    go_wp2_with fail
    go_ret3
    exact headP_err HE.out HN.out H2.out K2.out
end Go.Proofs.YtcblibefmclloaaDoor

set_option linter.unusedVariables false
set_option linter.unusedSimpArgs false
namespace Go.Proofs.YtcblibefmclloaaDoor
open Go.RowKit
/-- A block's second decoder: there is one, if some distance is used. -/
def DistD (w : World) (g : Nat) (dist : List Int) (D : Option Addr) : Prop :=
  dist.length ≤ 288 ∧ ((anyUsed dist = false ∧ D = none) ∨ (anyUsed dist = true ∧ ∃ dg, D = some ⟨dg, 0, none⟩ ∧ g < dg ∧ Dec w dg dist))
theorem dec_kt {w w' : World} {g gr dg : Nat} {l : List Int} (h : Dec w dg l) (hp : KT g gr w w') (hg : g < dg) (hr : gr < g) : Dec w' dg l := by
  obtain ⟨v, ⟨a1, a2, a3, h1⟩, h2⟩ := h
  exact ⟨v, ⟨a1, a2, a3, blk_kt (by decide) (by omega) (by omega) h1 hp⟩, own_kt (by decide) (by omega) (by omega) h2 hp⟩
theorem DistD.kt {w w' : World} {g gr : Nat} {dist : List Int} {D : Option Addr} (h : DistD w g dist D) (hp : KT g gr w w') (hr : gr < g) : DistD w' g dist D := by
  obtain ⟨h0, h⟩ := h
  refine ⟨h0, ?_⟩
  rcases h with h | ⟨h1, dg, h2, h3, h4⟩
  · exact .inl h
  · exact .inr ⟨h1, dg, h2, h3, dec_kt h4 hp h3 hr⟩
theorem itake_calls' (w : World) (g gr : Nat) (A : Option Addr) (c : Nat) (bs : List Int) (p most : Nat) (out : List Int) (n : Nat) (ni : Int) (hni : ni = n) (h : IR w g gr A c bs p most out) (hn : n ≤ 16) :
    Calls Tryd.prog 105 #[.pointer (some ⟨g, 0, none⟩), .int .i64 ni] w (Took w g gr A c bs p most out n) := by
  subst hni; exact itake_calls w g gr A c bs p most out n h hn
theorem IR.cells {w : World} {g gr c p most : Nat} {A : Option Addr} {bs out : List Int} (h : IR w g gr A c bs p most out) : w.cell? ⟨g, 0, none⟩ = some (.pointer (some ⟨gr, 0, none⟩)) ∧
    ∃ v vc, w.cell? ⟨g, 1, none⟩ = some (.slice v out.length vc) ∧ RI .u8 w v out.length out := by
  obtain ⟨v, hblk, hown⟩ := h.box
  obtain ⟨vA, vc, rfl, hri, _, _⟩ := own_ri hown
  have c0 := hblk.cell 0
  have c1 := hblk.cell 1
  simp only [List.getElem?_cons_zero, List.getElem?_cons_succ] at c0 c1
  exact ⟨c0, vA, vc, c1, hri⟩
set_option maxRecDepth 100000 in
set_option maxHeartbeats 2000000 in
theorem copies_calls (w : World) (g gr : Nat) (A : Option Addr) (c : Nat) (bs : List Int) (p most : Nat) (out dist : List Int) (s : Nat) (D : Option Addr) (h : IR w g gr A c bs p most out) (hD : DistD w g dist D) (hs : 257 ≤ s) (hs2 : s ≤ 100000) :
    Calls Tryd.prog 119 #[.pointer (some ⟨g, 0, none⟩), .int .i64 s, .pointer D] w (Part w g gr A c bs most (copyF dist bs most s out p)) := by
  have H := Lib.hid h
  have HD := Lib.hid hD
  have hgr := h.lt
  obtain ⟨c0, -⟩ := h.cells
  clear h hD
  go_enter Tryd.func119, Tryd.ntmps119
  by_cases h1 : 285 < s
  · have e1 : decide (285 < s) = true := by simpa using h1
    have e1' : decide ((285 : Int) < (s : Int)) = true := by simp; omega
    have HR : Hid (copyF dist bs most s out p = (out, 0, 53)) := Lib.hid (by unfold copyF; rw [if_pos h1])
    go_wp2_with fail
    go_ret
    exact part_err HR.out (by decide) H.out (KT.refl _ _ _)
  have e1 : decide (285 < s) = false := by simp; omega
  have e1' : decide ((285 : Int) < (s : Int)) = false := by simp; omega
  have HS := Lib.hid h1
  go_upto_block 0 with (fail)
  go_cut [7] (fun v7 wc => ∃ N : Nat, N ≤ 1000 ∧ v7 = .int .i64 N ∧ Hid (N = lenBase s + (numB bs p (lenK s)).toNat) ∧ Hid (p + lenK s ≤ 8 * bs.length) ∧ Hid (IR wc g gr A c bs (p + lenK s) most out) ∧ Hid (KT g gr w wc))
  case first =>
    have hle := H.out.rd.le
    by_cases h2 : s = 285
    · subst h2
      have e2 : (((285 : Nat) : Int) == 285) = true := by decide
      go_wp2_with fail
      go_meet
      exact ⟨258, by omega, rfl, Lib.hid (by simp [lenBase, lenK, numB]), Lib.hid (by simp [lenK]; omega), by simpa [lenK] using H, Lib.hid (KT.refl _ _ _)⟩
    have e2 : ((s : Int) == 285) = false := by simp; omega
    by_cases h3 : 264 < s
    · have e3 : decide (264 < s) = true := by simpa using h3
      have e3' : decide ((264 : Int) < (s : Int)) = true := by simp; omega
      obtain ⟨k, hk⟩ : ∃ k : Nat, k = lenK s := ⟨_, rfl⟩
      have hk5 : k ≤ 5 := by rw [hk]; unfold lenK; split <;> omega
      have HKK := Lib.hid hk
      have s1 : ((s : Int) - 261) / 4 = (k : Int) := by rw [hk]; unfold lenK; rw [if_neg (by omega)]; omega
      obtain ⟨r, hr⟩ : ∃ r : Nat, ((s : Int) - 261) % 4 = (r : Int) := ⟨(s - 261) % 4, by omega⟩
      have hr4 : r < 4 := by omega
      have HRR : Hid (lenBase s = 3 + (4 + r) * 2 ^ k) := Lib.hid (by unfold lenBase; rw [if_neg (by omega), if_neg h2, ← hk, show (s - 261) % 4 = r by omega])
      clear hk
      go_wp2_with fail
      refine (itake_calls' w g gr A c bs p most out k _ (by first | rfl | omega) H.out (by omega)).mono ?_
      rintro _ w1 (⟨hf, rfl, h1, k1⟩ | ⟨hf, rfl, h1, k1⟩)
      · have HI := Lib.hid h1
        have K1 := Lib.hid k1
        have HF := Lib.hid hf
        clear h1 k1 H hf c0
        obtain ⟨n0, n1⟩ := numB_lt bs p k
        have p32 : (2 : Int) ^ k ≤ 32 := by
          have : (2 : Nat) ^ k ≤ 2 ^ 5 := Nat.pow_le_pow_right (by decide) hk5
          exact_mod_cast this
        obtain ⟨x, hx⟩ : ∃ x : Nat, numB bs p k = x := ⟨(numB bs p k).toNat, by omega⟩
        have HX := Lib.hid hx
        rw [hx] at n1 ⊢
        clear hx n0
        have t1 : (4 + (r : Int)) * 2 ^ k ≤ 7 * 32 := Int.mul_le_mul (by omega) p32 (by have := pow_cast k; omega) (by omega)
        have t0 : 0 ≤ (4 + (r : Int)) * 2 ^ k := Int.mul_nonneg (by omega) (by have := pow_cast k; omega)
        have s3 : IntKind.i64.wrap ((4 + (r : Int)) * 2 ^ k) = (4 + (r : Int)) * 2 ^ k := IntWalk.i64_in _ (by omega)
        obtain ⟨y, hy⟩ : ∃ y : Nat, (4 + (r : Int)) * 2 ^ k = y := ⟨((4 + (r : Int)) * 2 ^ k).toNat, by omega⟩
        have HY := Lib.hid hy
        rw [hy] at s3 t0 t1
        go_wp2_with fail
        go_meet
        refine ⟨3 + y + x, by omega, by go_num, Lib.hid ?_, Lib.hid (by rw [← HKK.out]; exact HF.out), by rw [← HKK.out]; exact HI, K1⟩
        rw [HRR.out, ← HKK.out, HX.out]
        have := HY.out
        have e : (((4 + r) * 2 ^ k : Nat) : Int) = y := by push_cast; exact this
        have : (4 + r) * 2 ^ k = y := by exact_mod_cast e
        omega
      · have HI := Lib.hid h1
        have K1 := Lib.hid k1
        have HR : Hid (copyF dist bs most s out p = (out, 0, 55)) := Lib.hid (by unfold copyF; rw [if_neg HS.out, ← HKK.out, if_pos hf])
        clear h1 k1 H hf c0
        go_wp2_with fail
        go_ret
        exact part_err HR.out (by decide) HI.out K1.out
    · have e3 : decide (264 < s) = false := by simpa using h3
      have e3' : decide ((264 : Int) < (s : Int)) = false := by simp; omega
      have hk : lenK s = 0 := by unfold lenK; rw [if_pos (by omega)]
      have hb : lenBase s = s - 254 := by unfold lenBase; rw [if_pos (by omega)]
      have HKK := Lib.hid hk
      have HB := Lib.hid hb
      clear hk hb
      go_wp2_with fail
      go_meet
      exact ⟨s - 254, by omega, by go_num, Lib.hid (by rw [HB.out, HKK.out, numB]; rfl), Lib.hid (by rw [HKK.out]; exact hle), by rw [HKK.out]; exact H, Lib.hid (KT.refl _ _ _)⟩
  case rest =>
    obtain ⟨N, hN, rfl, HN, HQ, H1, K1⟩ := hcut
    clear H c0
    obtain ⟨q, hq⟩ : ∃ q, q = p + lenK s := ⟨_, rfl⟩
    rw [← hq] at HQ H1
    have HQE := Lib.hid hq
    clear hq
    have HD1 := Lib.hid (HD.out.kt K1.out hgr)
    have hD1 := HD1.out
    clear HD
    obtain ⟨hdl, ⟨hu, hDn⟩ | ⟨hu, dg, hDs, hgd, hdec⟩⟩ := hD1
    · subst hDn
      have HR : Hid (copyF dist bs most s out p = (out, 0, 53)) := Lib.hid (by unfold copyF; rw [if_neg HS.out, if_neg (by have := HQ.out; have := HQE.out; omega), if_pos hu])
      clear hu
      go_wp2_with fail
      go_ret
      exact part_err HR.out (by decide) H1.out K1.out
    subst hDs
    have HU := Lib.hid hu
    have HDC := Lib.hid hdec
    clear hu hdec HD1
    obtain ⟨c0, -⟩ := H1.out.cells
    go_wp2_with fail
    refine (nextN_calls wc dg gr dist A c bs q (HDC.out.apart (by omega)) H1.out.rd hdl).mono ?_
    rintro _ w2 ⟨rfl, hr2, hk2⟩
    have H2 := Lib.hid (H1.out.read hr2 hk2)
    have K2 := Lib.hid (K1.out.trans (KT.of_keeps hk2 (fun x hx => .inr (List.mem_singleton.1 hx))))
    have hbd := dec_bd dist bs q HQ.out
    clear hr2 hk2 H1 K1 c0 HDC
    have HC : Hid (copyF dist bs most s out p = if (decF dist bs q).2.1 ≠ 0 then (out, 0, endF (decF dist bs q).2.1 53)
      else if 29 < (decF dist bs q).1 then (out, 0, 53)
      else if 8 * bs.length < q + (decF dist bs q).2.2 + distK (decF dist bs q).1.toNat then (out, 0, 55)
      else if (out.length : Int) < distBase (decF dist bs q).1.toNat + numB bs (q + (decF dist bs q).2.2) (distK (decF dist bs q).1.toNat) then (out, 0, 54)
      else if (layN ((distBase (decF dist bs q).1.toNat : Int) + numB bs (q + (decF dist bs q).2.2) (distK (decF dist bs q).1.toNat)).toNat most N out).2 ≠ 0 then
        ((layN ((distBase (decF dist bs q).1.toNat : Int) + numB bs (q + (decF dist bs q).2.2) (distK (decF dist bs q).1.toNat)).toNat most N out).1, 0, 56)
      else ((layN ((distBase (decF dist bs q).1.toNat : Int) + numB bs (q + (decF dist bs q).2.2) (distK (decF dist bs q).1.toNat)).toNat most N out).1, q + (decF dist bs q).2.2 + distK (decF dist bs q).1.toNat, 0)) := Lib.hid (by
        have h1 := HQ.out
        have h2 := HQE.out
        have h3 := HN.out
        subst h2
        subst h3
        unfold copyF
        rw [if_neg HS.out, if_neg (by omega), if_neg (by rw [HU.out]; simp)])
    generalize decF dist bs q = dr at *
    obtain ⟨sy, er, nn⟩ := dr
    simp only [] at H2 hbd HC ⊢
    rcases hbd with ⟨rfl, d, rfl, hdl2, hq2⟩ | ⟨her, rfl, rfl⟩
    rotate_left
    · have HR : Hid (copyF dist bs most s out p = (out, 0, endF er 53)) := Lib.hid (by rw [HC.out, if_pos her])
      have HNE : Hid (endF er 53 ≠ 0) := Lib.hid (fun h => her (endF_zero (by decide) h))
      have e5 : (er != 0) = true := by simpa using her
      clear her HC
      go_wp2_with fail
      refine (end_calls w2 er 53).mono ?_
      rintro _ w3 ⟨rfl, hd⟩
      have H3 := Lib.hid (H2.out.keeps (hd.keeps (S := [])))
      have K3 := Lib.hid (K2.out.trans (KT.of_keeps (hd.keeps (S := [])) (by simp)))
      clear hd H2 K2
      generalize endF er 53 = y at *
      go_wp2_with fail
      go_ret
      exact part_err HR.out HNE.out H3.out K3.out
    rw [Int.toNat_natCast] at HC
    by_cases hd29 : 29 < d
    · have HR : Hid (copyF dist bs most s out p = (out, 0, 53)) := Lib.hid (by rw [HC.out, if_neg (by simp), if_pos (by omega)])
      have e5 : decide (29 < d) = true := by simpa using hd29
      have e5' : decide ((29 : Int) < (d : Int)) = true := by simp; omega
      clear HC
      go_wp2_with fail
      go_ret
      exact part_err HR.out (by decide) H2.out K2.out
    have e5 : decide (29 < d) = false := by simpa using hd29
    have e5' : decide ((29 : Int) < (d : Int)) = false := by simp; omega
    have HC2 := Lib.hid (HC.out.trans (by rw [if_neg (by simp), if_neg (by omega)]))
    clear HC
    obtain ⟨q2, hq2e⟩ : ∃ x, x = q + nn := ⟨_, rfl⟩
    rw [← hq2e] at HC2 H2 hq2
    have HQ2 := Lib.hid hq2e
    clear hq2e
    go_upto_if 71 with (fail)
    go_cut [13] (fun v13 wc2 => ∃ F : Nat, 1 ≤ F ∧ F ≤ 40000 ∧ v13 = .int .i64 F ∧ Hid ((F : Int) = distBase d + numB bs q2 (distK d)) ∧ Hid (q2 + distK d ≤ 8 * bs.length) ∧ Hid (IR wc2 g gr A c bs (q2 + distK d) most out) ∧ Hid (KT g gr w wc2))
    case first =>
      have hd29' : d ≤ 29 := by omega
      by_cases h3 : 3 < d
      · have e3 : decide (3 < d) = true := by simpa using h3
        have e3' : decide ((3 : Int) < (d : Int)) = true := by simp; omega
        obtain ⟨k, hk⟩ : ∃ k : Nat, k = distK d := ⟨_, rfl⟩
        have hk13 : k ≤ 13 := by rw [hk]; unfold distK; split <;> omega
        have HKK := Lib.hid hk
        have s1 : (d : Int) / 2 - 1 = (k : Int) := by rw [hk]; unfold distK; rw [if_neg (by omega)]; omega
        obtain ⟨r, hr⟩ : ∃ r : Nat, (d : Int) % 2 = (r : Int) := ⟨d % 2, by omega⟩
        have hr4 : r < 2 := by omega
        have HRR : Hid (distBase d = 1 + (2 + r) * 2 ^ k) := Lib.hid (by unfold distBase; rw [if_neg (by omega), ← hk, show d % 2 = r by omega])
        have HR55 : Hid (8 * bs.length < q2 + k → copyF dist bs most s out p = (out, 0, 55)) := Lib.hid (fun h => by rw [HC2.out, if_pos (by rw [← hk]; exact h)])
        clear hk HC2
        go_wp2_with fail
        refine (itake_calls' w2 g gr A c bs q2 most out k _ (by first | rfl | omega) H2.out (by omega)).mono ?_
        rintro _ w3 (⟨hf, rfl, h1, k1⟩ | ⟨hf, rfl, h1, k1⟩)
        · have HI := Lib.hid h1
          have K3 := Lib.hid (K2.out.trans k1)
          have HF := Lib.hid hf
          clear h1 k1 H2 K2 hf HR55
          obtain ⟨n0, n1⟩ := numB_lt bs q2 k
          have p13 : (2 : Int) ^ k ≤ 8192 := by
            have : (2 : Nat) ^ k ≤ 2 ^ 13 := Nat.pow_le_pow_right (by decide) hk13
            exact_mod_cast this
          obtain ⟨x, hx⟩ : ∃ x : Nat, numB bs q2 k = x := ⟨(numB bs q2 k).toNat, by omega⟩
          have HX := Lib.hid hx
          rw [hx] at n1 ⊢
          clear hx n0
          have t1 : (2 + (r : Int)) * 2 ^ k ≤ 3 * 8192 := Int.mul_le_mul (by omega) p13 (by have := pow_cast k; omega) (by omega)
          have t0 : 0 ≤ (2 + (r : Int)) * 2 ^ k := Int.mul_nonneg (by omega) (by have := pow_cast k; omega)
          have s3 : IntKind.i64.wrap ((2 + (r : Int)) * 2 ^ k) = (2 + (r : Int)) * 2 ^ k := IntWalk.i64_in _ (by omega)
          obtain ⟨y, hy⟩ : ∃ y : Nat, (2 + (r : Int)) * 2 ^ k = y := ⟨((2 + (r : Int)) * 2 ^ k).toNat, by omega⟩
          have HY := Lib.hid hy
          rw [hy] at s3 t0 t1
          go_wp2_with fail
          go_meet
          refine ⟨1 + y + x, by omega, by omega, by go_num, Lib.hid ?_, Lib.hid (by rw [← HKK.out]; exact HF.out), by rw [← HKK.out]; exact HI, K3⟩
          rw [HRR.out, ← HKK.out, HX.out]
          have := HY.out
          push_cast
          omega
        · have HI := Lib.hid h1
          have K3 := Lib.hid (K2.out.trans k1)
          have HR := Lib.hid (HR55.out hf)
          clear h1 k1 H2 K2 hf HR55
          go_wp2_with fail
          go_ret
          exact part_err HR.out (by decide) HI.out K3.out
      · have e3 : decide (3 < d) = false := by simpa using h3
        have e3' : decide ((3 : Int) < (d : Int)) = false := by simp; omega
        have hk : distK d = 0 := by unfold distK; rw [if_pos (by omega)]
        have hb : distBase d = d + 1 := by unfold distBase; rw [if_pos (by omega)]
        have HKK := Lib.hid hk
        have HB := Lib.hid hb
        clear hk hb
        go_wp2_with fail
        go_meet
        exact ⟨d + 1, by omega, by omega, by go_num, Lib.hid (by rw [HB.out, HKK.out, numB]; simp), Lib.hid (by rw [HKK.out]; exact hq2), by rw [HKK.out]; exact H2, K2⟩
    case rest =>
      obtain ⟨F, hF1, hF2, rfl, HF, HQ3, H3, K3⟩ := hcut
      clear H2 K2
      obtain ⟨q3, hq3⟩ : ∃ x, x = q2 + distK d := ⟨_, rfl⟩
      have HC3 : Hid (copyF dist bs most s out p = if out.length < F then (out, 0, 54) else if (layN F most N out).2 ≠ 0 then ((layN F most N out).1, 0, 56) else ((layN F most N out).1, q3, 0)) := Lib.hid (by
        rw [HC2.out, if_neg (by have := HQ3.out; omega), ← HF.out, hq3, Int.toNat_natCast]
        by_cases h : out.length < F
        · rw [if_pos h, if_pos (by omega)]
        · rw [if_neg h, if_neg (by omega)])
      rw [← hq3] at H3
      clear hq3 HC2 HF HQ3
      obtain ⟨-, A3, c3, hc1, -⟩ := H3.out.cells
      obtain ⟨Lo, hLo⟩ : ∃ L, L = out.length := ⟨_, rfl⟩
      have HLo := Lib.hid hLo
      rw [← hLo] at hc1 HC3
      clear hLo
      by_cases hfar : Lo < F
      · have e6 : decide (Lo < F) = true := by simpa using hfar
        have e6' : decide ((Lo : Int) < (F : Int)) = true := by simp; omega
        have HR : Hid (copyF dist bs most s out p = (out, 0, 54)) := Lib.hid (by rw [HC3.out, if_pos hfar])
        clear HC3
        go_wp2_with fail
        go_ret
        exact part_err HR.out (by decide) H3.out K3.out
      have e6 : decide (Lo < F) = false := by simpa using hfar
      have e6' : decide ((Lo : Int) < (F : Int)) = false := by simp; omega
      have HC4 : Hid (copyF dist bs most s out p = if (layN F most N out).2 ≠ 0 then ((layN F most N out).1, 0, 56) else ((layN F most N out).1, q3, 0)) := Lib.hid (by rw [HC3.out, if_neg hfar])
      have HFL : Hid (F ≤ out.length) := Lib.hid (by have := HLo.out; omega)
      clear HC3
      go_wp2_with fail
      clear hc1 e6 e6' hfar HLo
      go_loopw [100] (fun iv wr => ∃ (i : Nat) (o : List Int), i ≤ N ∧ iv = .int .i64 i ∧ Hid (layN F most N out = layN F most (N - i) o) ∧ Hid (F ≤ o.length) ∧ Hid (IR wr g gr A c bs q3 most o) ∧ Hid (KT g gr w wr)) (fun iv _ => N - (intOf iv).toNat)
      case atStart => exact ⟨0, out, by omega, rfl, Lib.hid rfl, HFL, H3, K3⟩
      case round =>
        clear H3 K3 HFL
        obtain ⟨i, o, hi, rfl, HS2, HFL, H, K⟩ := hrel
        by_cases hlt : i < N
        · have e0 : decide (i < N) = true := by simpa using hlt
          have HL' : Hid (layN F most (N - i) o = if most ≤ o.length then (o, 56) else layN F most (N - (i + 1)) (o ++ [nth o (o.length - F)])) := Lib.hid (by rw [show N - i = (N - (i + 1)) + 1 by omega, layN])
          obtain ⟨-, A4, c4, hc1, hri⟩ := H.out.cells
          have hfl := HFL.out
          obtain ⟨Lo, hLo⟩ : ∃ L, L = o.length := ⟨_, rfl⟩
          have HLo := Lib.hid hLo
          rw [← hLo] at hc1 hri hfl
          have hLb : Lo ≤ 16384 := by have := H.out.cap; have := H.out.mx; omega
          clear hLo
          obtain ⟨b4, o4, hA4, hcc⟩ := hri.at (show Lo - F < Lo by omega)
          subst hA4
          obtain ⟨x, hx⟩ : ∃ x, x = nth o (Lo - F) := ⟨_, rfl⟩
          rw [← hx] at hcc
          have HX : Hid (x = nth o (o.length - F)) := Lib.hid (by rw [hx, HLo.out])
          clear hx hri
          have s1 : IntKind.i64.wrap ((Lo : Int) - (F : Int)) = (Lo : Int) - (F : Int) := IntWalk.i64_in _ (by omega)
          have s2 : (0 : Int) ≤ (Lo : Int) - (F : Int) := by omega
          have s3 : (Lo : Int) - (F : Int) < (Lo : Int) := by omega
          have s4 : ((Lo : Int) - (F : Int)).toNat = Lo - F := by omega
          go_wp2_with fail
          go_still_tail 14, (by kernel_rfl)
          change wpList _ _ _ _ _ wr.drew
          have hdr := (Keeps.refl [] wr).drew
          have Hd := Lib.hid (H.out.keeps hdr)
          have Kd := Lib.hid (K.out.trans (KT.of_keeps hdr (by simp)))
          clear hdr H K hc1 hcc s1 s2 s3 s4
          go_wp2_with fail
          refine (lay_calls wr.drew g gr A c bs q3 most o x Hd.out).mono ?_
          rintro _ w5 (⟨hm, rfl, h5, k5⟩ | ⟨hm, rfl, h5, k5⟩)
          · have H5 := Lib.hid h5
            have K5 := Lib.hid (Kd.out.trans k5)
            have HE : Hid (copyF dist bs most s out p = (o, 0, 56)) := Lib.hid (by rw [HC4.out, HS2.out, HL'.out, if_pos hm]; rfl)
            clear h5 k5 Hd Kd HS2 HL' HC4
            go_wp2_with fail
            go_ret
            exact part_err HE.out (by decide) H5.out K5.out
          · have H5 := Lib.hid h5
            have K5 := Lib.hid (Kd.out.trans k5)
            have HS3 : Hid (layN F most N out = layN F most (N - (i + 1)) (o ++ [x])) := Lib.hid (by rw [HS2.out, HL'.out, if_neg (by omega), HX.out])
            clear h5 k5 Hd Kd HS2 HL'
            go_wp2_with fail
            go_roundw
            case rel => exact ⟨i + 1, o ++ [x], by omega, by go_num, HS3, Lib.hid (by have := HFL.out; rw [List.length_append]; omega), H5, K5⟩
            case measure => simp [intOf]; omega
        · obtain rfl : i = N := by omega
          have e0 : decide (i < i) = false := by simp
          have HE : Hid (copyF dist bs most s out p = (o, q3, 0)) := Lib.hid (by rw [HC4.out, HS2.out, Nat.sub_self, layN, if_neg (by simp)])
          clear HS2 HC4
          go_wp2_with fail
          go_ret
          exact part_ok HE.out H.out K.out
end Go.Proofs.YtcblibefmclloaaDoor

set_option linter.unusedVariables false
set_option linter.unusedSimpArgs false
namespace Go.Proofs.YtcblibefmclloaaDoor
open Go.RowKit
theorem KT.below {g gr : Nat} {w w' : World} (h : Below w.heap.size w w') : KT g gr w w' := KT.of_keeps (Keeps.of_below h (S := [])) (by simp)
set_option maxRecDepth 100000 in
set_option maxHeartbeats 2000000 in
theorem symbols_calls (w : World) (g gr : Nat) (A : Option Addr) (c : Nat) (bs : List Int) (p most : Nat) (out lit dist : List Int) (A1 A2 : Option Addr) (n1 n2 c1 c2 : Nat) (h : IR w g gr A c bs p most out)
    (hl : RI .i64 w A1 n1 lit) (hd : RI .i64 w A2 n2 dist) (hn1 : n1 ≤ 288) (hn2 : 1 ≤ n2) (hn3 : n2 ≤ 288) (hc1 : checkF lit = 0) (hc2 : anyUsed dist = true → checkF dist = 0) :
    Calls Tryd.prog 107 #[.pointer (some ⟨g, 0, none⟩), .slice A1 n1 c1, .slice A2 n2 c2] w (Part w g gr A c bs most (symF lit dist bs most (8 * bs.length + 1) out p)) := by
  have H := Lib.hid h
  have HL := Lib.hid hl
  have HDI := Lib.hid hd
  have HC1 := Lib.hid hc1
  have HC2 := Lib.hid hc2
  have hgr := h.lt
  have HN1 := Lib.hid hl.len
  have HN2 := Lib.hid hd.len
  clear h hl hd hc1 hc2
  go_enter Tryd.func107, Tryd.ntmps107
  go_wp2_with fail
  go_step3
  go_wp2_with fail
  refine (new_calls w A1 n1 c1 lit HL.out (by omega)).mono ?_
  rintro _ w1 ⟨hb, hm⟩
  rw [if_pos HC1.out] at hm
  obtain ⟨dl, rfl, hdl, hdlg⟩ := hm
  have hg1 := H.out.glt
  have hk1 := Keeps.of_below hb (S := [])
  have H1 := Lib.hid (H.out.keeps hk1)
  have K1 : Hid (KT g gr w w1) := Lib.hid (KT.below hb)
  have HDL := Lib.hid hdl
  have HD1 := Lib.hid (HDI.out.keeps hk1 (off_nil _))
  have hgdl : g < dl := by omega
  clear hb hk1 H HL HDI hdl hdlg hg1
  go_wp2_with fail
  refine (iused_calls w1 A2 n2 c2 dist HD1.out hn2 (by omega)).mono ?_
  rintro _ w2 ⟨rfl, hd2⟩
  have hk2 := hd2.keeps (S := [])
  have H2 := Lib.hid (H1.out.keeps hk2)
  have K2 := Lib.hid (K1.out.trans (KT.of_keeps hk2 (by simp)))
  have HDL2 := Lib.hid (dec_kt HDL.out (KT.of_keeps (g := g) (gr := gr) hk2 (by simp)) hgdl hgr)
  have HD2 := Lib.hid (HD1.out.keeps hk2 (off_nil _))
  clear hd2 hk2 H1 K1 HDL HD1
  obtain ⟨u, hu⟩ : ∃ u, u = anyUsed dist := ⟨_, rfl⟩
  have HU := Lib.hid hu
  rw [← hu]
  clear hu
  go_upto_if 18 with (fail)
  go_cut [9] (fun v9 wc => ∃ D : Option Addr, v9 = .pointer D ∧ Hid (DistD wc g dist D) ∧ Hid (IR wc g gr A c bs p most out) ∧ Hid (KT g gr w wc) ∧ Hid (Dec wc dl lit))
  case first =>
    cases u with
    | false =>
      go_wp2_with fail
      go_meet
      exact ⟨none, rfl, Lib.hid ⟨by rw [HN2.out]; exact hn3, .inl ⟨HU.out.symm, rfl⟩⟩, H2, K2, HDL2⟩
    | true =>
      go_wp2_with fail
      refine (new_calls w2 A2 n2 c2 dist HD2.out (by omega)).mono ?_
      rintro _ w3 ⟨hb, hm⟩
      rw [if_pos (HC2.out HU.out.symm)] at hm
      obtain ⟨dd, rfl, hdd, hddg⟩ := hm
      have hg2 := H2.out.glt
      have hk3 := Keeps.of_below hb (S := [])
      have H3 := Lib.hid (H2.out.keeps hk3)
      have K3 := Lib.hid (K2.out.trans (KT.below hb))
      have HDD := Lib.hid hdd
      have HDL3 := Lib.hid (dec_kt HDL2.out (KT.below (g := g) (gr := gr) hb) hgdl hgr)
      clear hb hk3 H2 K2 HDL2 HD2 hdd
      go_wp2_with fail
      go_meet
      exact ⟨some ⟨dd, 0, none⟩, rfl, Lib.hid ⟨by rw [HN2.out]; exact hn3, .inr ⟨HU.out.symm, dd, rfl, by omega, HDD.out⟩⟩, H3, K3, HDL3⟩
  case rest =>
    obtain ⟨D, rfl, HDD, H3, K3, HDL3⟩ := hcut
    clear H2 K2 HDL2 HD2 HU HC2
    go_wp2_with fail
    go_step3
    go_wp2_with fail
    go_loopg [11] (8 * bs.length + 1) (fun k v11 wr => ∃ (q : Nat) (o : List Int), 8 * bs.length - q < k ∧ Hid (q ≤ 8 * bs.length) ∧ Hid (symF lit dist bs most (8 * bs.length + 1) out p = symF lit dist bs most k o q) ∧ Hid (IR wr g gr A c bs q most o) ∧ Hid (DistD wr g dist D) ∧ Hid (Dec wr dl lit) ∧ Hid (KT g gr w wr))
    case atStart => exact ⟨p, out, by omega, Lib.hid H3.out.rd.le, Lib.hid rfl, H3, HDD, HDL3, K3⟩
    case round =>
      clear HDD H3 K3 HDL3
      obtain ⟨q, o, hk, HQ, HS, H, HDD, HDL, K⟩ := hrel
      obtain ⟨f, rfl⟩ : ∃ f, gk = f + 1 := ⟨gk - 1, by omega⟩
      obtain ⟨c0, -⟩ := H.out.cells
      go_wp2_with fail
      refine (nextN_calls wr dl gr lit A c bs q (HDL.out.apart (by omega)) H.out.rd (by rw [HN1.out]; exact hn1)).mono ?_
      rintro _ w2 ⟨rfl, hr2, hk2⟩
      have hkt := KT.of_keeps (g := g) (gr := gr) hk2 (fun x hx => .inr (List.mem_singleton.1 hx))
      have H2 := Lib.hid (H.out.read hr2 hk2)
      have K2 := Lib.hid (K.out.trans hkt)
      have HDD2 := Lib.hid (HDD.out.kt hkt hgr)
      have HDL2 := Lib.hid (dec_kt HDL.out hkt hgdl hgr)
      have hbd := dec_bd lit bs q HQ.out
      have hadv := dec_adv lit bs q HQ.out
      have HS2 : Hid (symF lit dist bs most (8 * bs.length + 1) out p = if (decF lit bs q).2.1 ≠ 0 then (o, 0, endF (decF lit bs q).2.1 53)
        else if (decF lit bs q).1 = 256 then (o, q + (decF lit bs q).2.2, 0)
        else if (decF lit bs q).1 < 256 then
          if most ≤ o.length then (o, 0, 56) else symF lit dist bs most f (o ++ [(decF lit bs q).1]) (q + (decF lit bs q).2.2)
        else if (copyF dist bs most (decF lit bs q).1.toNat o (q + (decF lit bs q).2.2)).2.2 ≠ 0 then copyF dist bs most (decF lit bs q).1.toNat o (q + (decF lit bs q).2.2)
        else symF lit dist bs most f (copyF dist bs most (decF lit bs q).1.toNat o (q + (decF lit bs q).2.2)).1 (copyF dist bs most (decF lit bs q).1.toNat o (q + (decF lit bs q).2.2)).2.1) := Lib.hid (by rw [HS.out, symF])
      clear hr2 hk2 hkt H K c0 HDD HDL HS
      generalize decF lit bs q = dr at *
      obtain ⟨sy, er, nn⟩ := dr
      simp only [] at H2 hbd hadv HS2 ⊢
      rcases hbd with ⟨rfl, d, rfl, hdl2, hq2⟩ | ⟨her, rfl, rfl⟩
      rotate_left
      · have HR : Hid (symF lit dist bs most (8 * bs.length + 1) out p = (o, 0, endF er 53)) := Lib.hid (by rw [HS2.out, if_pos her])
        have HNE : Hid (endF er 53 ≠ 0) := Lib.hid (fun h => her (endF_zero (by decide) h))
        have e5 : (er != 0) = true := by simpa using her
        clear her HS2 hadv
        go_wp2_with fail
        refine (end_calls w2 er 53).mono ?_
        rintro _ w3 ⟨rfl, hd⟩
        have H3 := Lib.hid (H2.out.keeps (hd.keeps (S := [])))
        have K3 := Lib.hid (K2.out.trans (KT.of_keeps (hd.keeps (S := [])) (by simp)))
        clear hd H2 K2
        generalize endF er 53 = y at *
        go_wp2_with fail
        rw [Exit.noGoto_ret]
        go_ret
        exact part_err HR.out HNE.out H3.out K3.out
      obtain ⟨hn1', -, -, -⟩ := hadv rfl
      rw [Int.toNat_natCast] at HS2
      have hdl3 : d < 288 := by rw [HN1.out] at hdl2; omega
      have HQ2 : Hid (q + nn ≤ 8 * bs.length) := Lib.hid hq2
      clear hadv hdl2 hq2
      by_cases h256 : d = 256
      · subst h256
        have HR : Hid (symF lit dist bs most (8 * bs.length + 1) out p = (o, q + nn, 0)) := Lib.hid (by rw [HS2.out, if_neg (by simp), if_pos (by decide)])
        have e6 : (((256 : Nat) : Int) == 256) = true := by decide
        clear HS2
        go_wp2_with fail
        rw [Exit.noGoto_ret]
        go_ret
        exact part_ok HR.out H2.out K2.out
      have e6 : ((d : Int) == 256) = false := by simp; omega
      by_cases hlt : d < 256
      · have e7 : decide (d < 256) = true := by simpa using hlt
        have e7' : decide ((d : Int) < 256) = true := by simp; omega
        have s1 : IntKind.u8.wrap (d : Int) = d := by rw [IntKind.wrap_u8]; omega
        have HS3 := Lib.hid (HS2.out.trans (by rw [if_neg (by simp), if_neg (by omega), if_pos (by omega)]))
        clear HS2
        go_wp2_with fail
        refine (lay_calls w2 g gr A c bs (q + nn) most o d H2.out).mono ?_
        rintro _ w3 (⟨hm, rfl, h3, k3⟩ | ⟨hm, rfl, h3, k3⟩)
        · have H3 := Lib.hid h3
          have K3 := Lib.hid (K2.out.trans k3)
          have HE : Hid (symF lit dist bs most (8 * bs.length + 1) out p = (o, 0, 56)) := Lib.hid (by rw [HS3.out, if_pos hm])
          clear h3 k3 H2 K2 HS3
          go_wp2_with fail
          rw [Exit.noGoto_ret]
          go_ret
          exact part_err HE.out (by decide) H3.out K3.out
        · have H3 := Lib.hid h3
          have K3 := Lib.hid (K2.out.trans k3)
          have HE : Hid (symF lit dist bs most (8 * bs.length + 1) out p = symF lit dist bs most f (o ++ [(d : Int)]) (q + nn)) := Lib.hid (by rw [HS3.out, if_neg (by omega)])
          have HDD3 := Lib.hid (HDD2.out.kt k3 hgr)
          have HDL3 := Lib.hid (dec_kt HDL2.out k3 hgdl hgr)
          clear h3 k3 H2 K2 HS3 HDD2 HDL2
          go_wp2_with fail
          go_roundg f
          case measure => omega
          case rel => exact ⟨q + nn, o ++ [(d : Int)], by have := HQ2.out; omega, HQ2, HE, H3, HDD3, HDL3, K3⟩
      · have e7 : decide (d < 256) = false := by simpa using hlt
        have e7' : decide ((d : Int) < 256) = false := by simp; omega
        have HS3 := Lib.hid (HS2.out.trans (by rw [if_neg (by simp), if_neg (by omega), if_neg (by omega)]))
        clear HS2
        go_wp2_with fail
        refine (copies_calls w2 g gr A c bs (q + nn) most o dist d D H2.out HDD2.out (by omega) (by omega)).mono ?_
        rintro _ w3 ⟨q3, rfl, h3, k3, hq3⟩
        have HP := Lib.hid (copyF_pos dist bs most d o (q + nn) HQ2.out)
        have H3 := Lib.hid h3
        have K3 := Lib.hid (K2.out.trans k3)
        have HDD3 := Lib.hid (HDD2.out.kt k3 hgr)
        have HDL3 := Lib.hid (dec_kt HDL2.out k3 hgdl hgr)
        have HQ3 := Lib.hid hq3
        clear h3 k3 H2 K2 HDD2 HDL2 hq3
        generalize copyF dist bs most d o (q + nn) = cr at *
        obtain ⟨o3, p3, er⟩ := cr
        simp only [] at HP H3 HQ3 HS3 ⊢
        by_cases her : er = 0
        · subst her
          obtain ⟨a1, a2⟩ := HP.out rfl
          obtain rfl := HQ3.out rfl
          have HE : Hid (symF lit dist bs most (8 * bs.length + 1) out p = symF lit dist bs most f o3 q3) := Lib.hid (by rw [HS3.out, if_neg (by simp)])
          clear HS3 HP HQ3
          go_wp2_with fail
          go_roundg f
          case measure => omega
          case rel => exact ⟨q3, o3, by have := HQ2.out; omega, Lib.hid a2, HE, H3, HDD3, HDL3, K3⟩
        · have e8 : (er != 0) = true := by simpa using her
          have HE : Hid (symF lit dist bs most (8 * bs.length + 1) out p = (o3, p3, er)) := Lib.hid (by rw [HS3.out, if_pos her])
          have HER := Lib.hid her
          clear HS3 HP HQ3 her
          go_wp2_with fail
          rw [Exit.noGoto_ret]
          go_ret
          exact ⟨q3, by rw [HE.out]; rfl, by rw [HE.out]; exact H3.out, K3.out, fun h => by rw [HE.out] at h; exact absurd h HER.out⟩
end Go.Proofs.YtcblibefmclloaaDoor

set_option linter.unusedVariables false
set_option linter.unusedSimpArgs false
namespace Go.Proofs.YtcblibefmclloaaDoor
open Go.RowKit
theorem codesE_ok {h : List Int × List Int × Nat × Int} (he : codesE h = 0) : h.2.2.2 = 0 ∧ checkF h.1 = 0 ∧ (anyUsed h.2.1 = true → checkF h.2.1 = 0) := by
  have h0 := codesE_zero he
  unfold codesE at he
  rw [if_neg (by rw [h0]; simp)] at he
  split at he
  · simp at he
  split at he
  · simp at he
  next h2 =>
  split at he
  · simp at he
  next h3 =>
  exact ⟨h0, by omega, fun hu => Classical.byContradiction fun hn => h3 ⟨hu, hn⟩⟩
set_option maxRecDepth 100000 in
set_option maxHeartbeats 2000000 in
theorem blocks_calls (w : World) (g gr : Nat) (A : Option Addr) (c : Nat) (bs : List Int) (p most : Nat) (out : List Int) (hT : Tabs w) (hg : gtop ≤ gr) (h : IR w g gr A c bs p most out) :
    Calls Tryd.prog 88 #[.pointer (some ⟨g, 0, none⟩)] w (Part w g gr A c bs most (blksF bs most (8 * bs.length + 1) out p)) := by
  have H := Lib.hid h
  have HT := Lib.hid hT
  have hgr := h.lt
  clear h hT
  go_enter Tryd.func88, Tryd.ntmps88
  go_wp2_with fail
  go_step3
  go_wp2_with fail
  go_step3
  go_wp2_with fail
  go_loopg [9] (8 * bs.length + 1) (fun k v9 wr => ∃ (q : Nat) (o : List Int), 8 * bs.length - q < k ∧ Hid (q ≤ 8 * bs.length) ∧ Hid (blksF bs most (8 * bs.length + 1) out p = blksF bs most k o q) ∧ Hid (IR wr g gr A c bs q most o) ∧ Hid (KT g gr w wr))
  case atStart => exact ⟨p, out, by omega, Lib.hid H.out.rd.le, Lib.hid rfl, H, Lib.hid (KT.refl _ _ _)⟩
  case round =>
    clear H
    obtain ⟨q, o, hk, HQ, HS, H, K⟩ := hrel
    obtain ⟨f, rfl⟩ : ∃ f, gk = f + 1 := ⟨gk - 1, by omega⟩
    have HS2 : Hid (blksF bs most (8 * bs.length + 1) out p = if 8 * bs.length < q + 1 then (o, 0, 55)
      else if 8 * bs.length < q + 3 then (o, 0, 55)
      else if (blockF bs most (numB bs (q + 1) 2) o (q + 3)).2.2 ≠ 0 then blockF bs most (numB bs (q + 1) 2) o (q + 3)
      else if numB bs q 1 = 0 then blksF bs most f (blockF bs most (numB bs (q + 1) 2) o (q + 3)).1 (blockF bs most (numB bs (q + 1) 2) o (q + 3)).2.1
      else blockF bs most (numB bs (q + 1) 2) o (q + 3)) := Lib.hid (by rw [HS.out, blksF])
    clear HS
    go_wp2_with fail
    refine (itake_calls wr g gr A c bs q most o 1 H.out (by omega)).mono ?_
    rintro _ w1 (⟨hf, rfl, h1, k1⟩ | ⟨hf, rfl, h1, k1⟩)
    rotate_left
    · have H1 := Lib.hid h1
      have K1 := Lib.hid (K.out.trans k1)
      have HE : Hid (blksF bs most (8 * bs.length + 1) out p = (o, 0, 55)) := Lib.hid (by rw [HS2.out, if_pos hf])
      clear h1 k1 H K HS2
      go_wp2_with fail
      rw [Exit.noGoto_ret]
      go_ret
      exact part_err HE.out (by decide) H1.out K1.out
    have H1 := Lib.hid h1
    have K1 := Lib.hid (K.out.trans k1)
    clear h1 k1 H K
    obtain ⟨l0, l1⟩ := numB_lt bs q 1
    rw [show (2 : Int) ^ 1 = 2 from rfl] at l1
    obtain ⟨la, hla⟩ : ∃ la, la = numB bs q 1 := ⟨_, rfl⟩
    rw [← hla] at l0 l1 HS2 ⊢
    clear hla
    go_wp2_with fail
    refine (itake_calls w1 g gr A c bs (q + 1) most o 2 H1.out (by omega)).mono ?_
    rintro _ w2 (⟨hf2, rfl, h2, k2⟩ | ⟨hf2, rfl, h2, k2⟩)
    rotate_left
    · have H2 := Lib.hid h2
      have K2 := Lib.hid (K1.out.trans k2)
      have HE : Hid (blksF bs most (8 * bs.length + 1) out p = (o, 0, 55)) := Lib.hid (by rw [HS2.out, if_neg (by omega), if_pos (by omega)])
      clear h2 k2 H1 K1 HS2
      go_wp2_with fail
      rw [Exit.noGoto_ret]
      go_ret
      exact part_err HE.out (by decide) H2.out K2.out
    have H2 := Lib.hid h2
    have K2 := Lib.hid (K1.out.trans k2)
    have HT2 := Lib.hid (tabs_kt HT.out K2.out hg hgr)
    clear h2 k2 H1 K1
    obtain ⟨n0, n1⟩ := numB_lt bs (q + 1) 2
    rw [show (2 : Int) ^ 2 = 4 from rfl] at n1
    obtain ⟨ki, hki⟩ : ∃ ki, ki = numB bs (q + 1) 2 := ⟨_, rfl⟩
    rw [← hki] at n0 n1 HS2 ⊢
    clear hki
    have HS3 := Lib.hid (HS2.out.trans (by rw [if_neg (by omega), if_neg (by omega)]))
    have HQ3 : Hid (q + 3 ≤ 8 * bs.length) := Lib.hid (by omega)
    clear HS2
    go_upto_block 2 with (fail)
    have HB : Hid (blockF bs most ki o (q + 3) = if ki = 0 then storedF bs most o (q + 3)
      else if ki = 1 then symF fixLit fixDist bs most (8 * bs.length + 1) o (q + 3)
      else if ki = 2 then
        if codesE (headF bs (q + 3)) ≠ 0 then (o, 0, codesE (headF bs (q + 3)))
        else symF (headF bs (q + 3)).1 (headF bs (q + 3)).2.1 bs most (8 * bs.length + 1) o (q + 3 + (headF bs (q + 3)).2.2.1)
      else (o, 0, 50)) := Lib.hid rfl
    obtain ⟨br, hbr⟩ : ∃ br, br = blockF bs most ki o (q + 3) := ⟨_, rfl⟩
    have HP : Hid (br.2.2 = 0 → q + 3 ≤ br.2.1 ∧ br.2.1 ≤ 8 * bs.length) := Lib.hid (fun h => by rw [hbr] at h ⊢; exact blockF_pos bs most ki o (q + 3) HQ3.out h)
    rw [← hbr] at HB HS3
    clear hbr
    go_cut [4] (fun v4 wc => ∃ q', v4 = .int .i64 br.2.2 ∧ Hid (br.2.2 = 0 → q' = br.2.1) ∧ Hid (IR wc g gr A c bs q' most br.1) ∧ Hid (KT g gr w wc))
    case first =>
      clear HS3 HP
      by_cases h0 : ki = 0
      · subst h0
        have HB0 := Lib.hid (HB.out.trans (if_pos rfl))
        clear HB
        go_wp2_with fail
        refine (stored_calls w2 g gr A c bs (q + 1 + 2) most o H2.out).mono ?_
        rintro _ w3 ⟨q', rfl, h3, k3, hq3⟩
        have H3 := Lib.hid h3
        have K3 := Lib.hid (K2.out.trans k3)
        have HQ' := Lib.hid hq3
        clear h3 k3 hq3 H2 K2
        rw [show q + 1 + 2 = q + 3 by omega, ← HB0.out] at H3 HQ' ⊢
        generalize br.2.2 = er at *
        go_wp2_with fail
        go_meet
        exact ⟨q', rfl, HQ', H3, K3⟩
      have e0 : (ki == 0) = false := by simpa using h0
      have e0' : decide (ki = 0) = false := by simpa using h0
      by_cases h1 : ki = 1
      · subst h1
        have HB0 := Lib.hid (HB.out.trans ((if_neg (by decide)).trans (if_pos rfl)))
        clear HB
        go_wp2_with fail
        refine (fixed_calls w2).mono ?_
        rintro _ w3 ⟨v1, g2, rfl, ho1, hb2, hg2, hw3⟩
        have hk3 := Keeps.of_below hw3 (S := [])
        have H3 := Lib.hid (H2.out.keeps hk3)
        have K3 := Lib.hid (K2.out.trans (KT.below hw3))
        obtain ⟨A1, c1, rfl, hri1, -, -⟩ := own_ri ho1
        have hri2 : RI .i64 w3 (some ⟨g2, 0, none⟩) 32 fixDist := by
          have := Blk.ri (xs := fixDist) (ys := []) (k := .i64) (by simpa using hb2)
          rwa [fix_info.2.2.2.2] at this
        have HR1 := Lib.hid hri1
        have HR2 := Lib.hid hri2
        clear ho1 hb2 hg2 hw3 hk3 hri1 hri2 H2 K2
        go_wp2_with fail
        refine (symbols_calls w3 g gr A c bs (q + 1 + 2) most o fixLit fixDist A1 (some ⟨g2, 0, none⟩) 288 32 c1 32 H3.out HR1.out HR2.out (by omega) (by omega) (by omega) fix_info.1 (fun _ => fix_info.2.1)).mono ?_
        rintro _ w4 ⟨q', rfl, h4, k4, hq4⟩
        have H4 := Lib.hid h4
        have K4 := Lib.hid (K3.out.trans k4)
        have HQ' := Lib.hid hq4
        clear h4 k4 hq4 H3 K3 HR1 HR2
        rw [show q + 1 + 2 = q + 3 by omega, ← HB0.out] at H4 HQ' ⊢
        generalize br.2.2 = er at *
        go_wp2_with fail
        go_meet
        exact ⟨q', rfl, HQ', H4, K4⟩
      have e1 : (ki == 1) = false := by simpa using h1
      have e1' : decide (ki = 1) = false := by simpa using h1
      by_cases h2 : ki = 2
      · subst h2
        have HB0 := Lib.hid (HB.out.trans ((if_neg (by decide)).trans ((if_neg (by decide)).trans (if_pos rfl))))
        clear HB
        go_wp2_with fail
        refine (head_calls w2 g gr A c bs (q + 1 + 2) most o HT2.out hg H2.out).mono ?_
        have hfull := @head_full bs (q + 1 + 2)
        rw [show q + 1 + 2 = q + 3 by omega] at hfull ⊢
        have hl1 := litF_le bs (q + 3)
        have hl2 := distF_le bs (q + 3)
        have hl3 : 1 ≤ distF bs (q + 3) := by unfold distF; omega
        rintro _ w3 (⟨hne, q', rfl, h3, k3⟩ | ⟨heq, v1, v2, rfl, ho1, ho2, h3, k3⟩)
        · have H3 := Lib.hid h3
          have K3 := Lib.hid (K2.out.trans k3)
          have HB1 := Lib.hid (HB0.out.trans (if_pos hne))
          have HNE : Hid (br.2.2 ≠ 0) := Lib.hid (by rw [HB1.out]; exact hne)
          have e2 : (codesE (headF bs (q + 3)) == 0) = false := by simpa using hne
          have hbe : codesE (headF bs (q + 3)) = br.2.2 := by rw [HB1.out]
          have hbo : o = br.1 := by rw [HB1.out]
          rw [hbo] at H3
          rw [hbe] at e2 ⊢
          clear h3 k3 H2 K2 HB0 HB1 hne hbe hbo hfull
          generalize br.2.2 = er at *
          go_wp2_with fail
          go_meet
          exact ⟨q', rfl, Lib.hid (fun h => absurd h HNE.out), H3, K3⟩
        · have HB1 := Lib.hid (HB0.out.trans (if_neg (by rw [heq]; simp)))
          obtain ⟨hz, hck1, hck2⟩ := codesE_ok heq
          obtain ⟨hf1, hf2⟩ := hfull hz
          have H3 := Lib.hid h3
          have K3 := Lib.hid (K2.out.trans k3)
          obtain ⟨A1, c1, rfl, hri1, -, -⟩ := own_ri ho1
          obtain ⟨A2, c2, rfl, hri2, -, -⟩ := own_ri ho2
          have HR1 := Lib.hid hri1
          have HR2 := Lib.hid hri2
          have HCK1 := Lib.hid hck1
          have HCK2 := Lib.hid hck2
          have b1 : (headF bs (q + 3)).1.length ≤ 288 := by omega
          have b2 : 1 ≤ (headF bs (q + 3)).2.1.length := by omega
          have b3 : (headF bs (q + 3)).2.1.length ≤ 288 := by omega
          clear h3 k3 H2 K2 HB0 ho1 ho2 hri1 hri2 hfull hck1 hck2 hz heq hf1 hf2
          generalize headF bs (q + 3) = hd at *
          obtain ⟨L1, L2, nn, er0⟩ := hd
          simp only [] at H3 HR1 HR2 HCK1 HCK2 b1 b2 b3 HB1 ⊢
          obtain ⟨n1, hn1⟩ : ∃ n, n = L1.length := ⟨_, rfl⟩
          obtain ⟨n2, hn2⟩ : ∃ n, n = L2.length := ⟨_, rfl⟩
          rw [← hn1] at b1 HR1 ⊢
          rw [← hn2] at b2 b3 HR2 ⊢
          clear hn1 hn2
          go_wp2_with fail
          refine (symbols_calls w3 g gr A c bs (q + 3 + nn) most o L1 L2 A1 A2 n1 n2 c1 c2 H3.out HR1.out HR2.out b1 b2 b3 HCK1.out HCK2.out).mono ?_
          rintro _ w4 ⟨q', rfl, h4, k4, hq4⟩
          have H4 := Lib.hid h4
          have K4 := Lib.hid (K3.out.trans k4)
          have HQ' := Lib.hid hq4
          clear h4 k4 hq4 H3 K3 HR1 HR2
          rw [← HB1.out] at H4 HQ' ⊢
          generalize br.2.2 = er at *
          go_wp2_with fail
          go_meet
          exact ⟨q', rfl, HQ', H4, K4⟩
      · obtain rfl : ki = 3 := by omega
        have HB0 := Lib.hid (HB.out.trans ((if_neg (by decide)).trans ((if_neg (by decide)).trans (if_neg (by decide)))))
        have hbo : o = br.1 := by rw [HB0.out]
        have hbe : (50 : Int) = br.2.2 := by rw [HB0.out]
        have HBE := Lib.hid hbe
        rw [hbo] at H2
        clear HB hbo hbe
        go_wp2_with fail
        go_meet
        exact ⟨_, by rw [← HBE.out], Lib.hid (fun h => by have := HBE.out; omega), H2, K2⟩
    case rest =>
      obtain ⟨q', rfl, HQ', H3, K3⟩ := hcut
      clear H2 K2 HB
      obtain ⟨o3, p3, er⟩ := br
      simp only [] at HQ' H3 HP HS3 ⊢
      by_cases her : er = 0
      · subst her
        obtain ⟨a1, a2⟩ := HP.out rfl
        obtain rfl := HQ'.out rfl
        have HS4 : Hid (blksF bs most (8 * bs.length + 1) out p = if la = 0 then blksF bs most f o3 q' else (o3, q', 0)) := Lib.hid (by rw [HS3.out, if_neg (by simp)])
        clear HS3 HP HQ'
        by_cases hla : la = 0
        · subst hla
          have HE := Lib.hid (HS4.out.trans (if_pos rfl))
          clear HS4
          go_wp2_with fail
          go_roundg f
          case measure => omega
          case rel => exact ⟨q', o3, by omega, Lib.hid a2, HE, H3, K3⟩
        · have e5 : (la == 0) = false := by simpa using hla
          have HE := Lib.hid (HS4.out.trans (if_neg hla))
          clear HS4 hla
          go_wp2_with fail
          rw [Exit.noGoto_ret]
          go_ret
          exact part_ok HE.out H3.out K3.out
      · have e5 : (er != 0) = true := by simpa using her
        have HE : Hid (blksF bs most (8 * bs.length + 1) out p = (o3, p3, er)) := Lib.hid (by rw [HS3.out, if_pos her])
        have HER := Lib.hid her
        clear HS3 HP HQ' her
        go_wp2_with fail
        rw [Exit.noGoto_ret]
        go_ret
        exact ⟨q', by rw [HE.out]; rfl, by rw [HE.out]; exact H3.out, K3.out, fun h => by rw [HE.out] at h; exact absurd h HER.out⟩
end Go.Proofs.YtcblibefmclloaaDoor

set_option linter.unusedVariables false
set_option linter.unusedSimpArgs false
/-! Plain: what is inflated needs no more bytes than it takes; a limit that is not met does not matter. -/
namespace Go.Proofs.YtcblibefmclloaaDoor
theorem storF_cut (bs m : List Int) (most : Nat) : ∀ n out p, (storF (bs ++ m) most n out p).2.2 = 0 → p ≤ 8 * bs.length → (storF (bs ++ m) most n out p).2.1 ≤ 8 * bs.length → storF bs most n out p = storF (bs ++ m) most n out p
  | 0, out, p, _, _, _ => rfl
  | n + 1, out, p, h, hp, hq => by
    have hl := len_pre bs m
    rw [storF] at h hq
    by_cases h1 : 8 * (bs ++ m).length < p + 8
    · rw [if_pos h1] at h; simp at h
    rw [if_neg h1] at h hq
    by_cases h2 : most ≤ out.length
    · rw [if_pos h2] at h; simp at h
    rw [if_neg h2] at h hq
    have := storF_pos (bs ++ m) most n _ (p + 8) (by omega) h
    rw [storF, storF, if_neg h1, if_neg (show ¬ 8 * bs.length < p + 8 by omega), if_neg h2, if_neg h2, ← numB_pre bs m p 8 (by omega)]
    exact storF_cut bs m most n _ _ h (by omega) hq
theorem storedF_cut (bs m : List Int) (most : Nat) (out : List Int) (p : Nat) (h : (storedF (bs ++ m) most out p).2.2 = 0) (hq : (storedF (bs ++ m) most out p).2.1 ≤ 8 * bs.length) : storedF bs most out p = storedF (bs ++ m) most out p := by
  have hl := len_pre bs m
  unfold storedF at h hq
  by_cases h1 : 8 * (bs ++ m).length < alignF p + 16
  · rw [if_pos h1] at h; simp at h
  rw [if_neg h1] at h hq
  by_cases h2 : 8 * (bs ++ m).length < alignF p + 32
  · rw [if_pos h2] at h; simp at h
  rw [if_neg h2] at h hq
  by_cases h3 : numB (bs ++ m) (alignF p) 16 + numB (bs ++ m) (alignF p + 16) 16 ≠ 65535
  · rw [if_pos h3] at h; simp at h
  rw [if_neg h3] at h hq
  have := storF_pos (bs ++ m) most _ _ (alignF p + 32) (by omega) h
  unfold storedF
  rw [if_neg h1, if_neg h2, if_neg h3, if_neg (by omega), if_neg (by omega), ← numB_pre bs m (alignF p) 16 (by omega), ← numB_pre bs m (alignF p + 16) 16 (by omega), if_neg h3]
  exact storF_cut bs m most _ _ _ h (by omega) hq
theorem copyF_cut (dist bs m : List Int) (most s : Nat) (out : List Int) (p : Nat) (h : (copyF dist (bs ++ m) most s out p).2.2 = 0) (hq : (copyF dist (bs ++ m) most s out p).2.1 ≤ 8 * bs.length) : copyF dist bs most s out p = copyF dist (bs ++ m) most s out p := by
  have hl := len_pre bs m
  unfold copyF at h hq
  by_cases h1 : 285 < s
  · rw [if_pos h1] at h; simp at h
  rw [if_neg h1] at h hq
  by_cases h2 : 8 * (bs ++ m).length < p + lenK s
  · rw [if_pos h2] at h; simp at h
  rw [if_neg h2] at h hq
  by_cases h3 : anyUsed dist = false
  · rw [if_pos h3] at h; simp at h
  rw [if_neg h3] at h hq
  by_cases h4 : (decF dist (bs ++ m) (p + lenK s)).2.1 ≠ 0
  · rw [if_pos h4] at h; exact absurd (endF_zero (by decide) h) h4
  rw [if_neg h4] at h hq
  by_cases h5 : 29 < (decF dist (bs ++ m) (p + lenK s)).1
  · rw [if_pos h5] at h; simp at h
  rw [if_neg h5] at h hq
  by_cases h6 : 8 * (bs ++ m).length < p + lenK s + (decF dist (bs ++ m) (p + lenK s)).2.2 + distK (decF dist (bs ++ m) (p + lenK s)).1.toNat
  · rw [if_pos h6] at h; simp at h
  rw [if_neg h6] at h hq
  have hk : p + lenK s + (decF dist (bs ++ m) (p + lenK s)).2.2 + distK (decF dist (bs ++ m) (p + lenK s)).1.toNat ≤ 8 * bs.length := by
    split at h
    · simp at h
    next h7 =>
    rw [if_neg h7] at hq
    split at h
    · simp at h
    next h8 =>
    rw [if_neg h8] at hq
    exact hq
  have hd := decF_cut dist bs m (p + lenK s) (by omega) (by omega)
  unfold copyF
  rw [hd, if_neg h1, if_neg h2, if_neg h3, if_neg h4, if_neg h5, if_neg h6, if_neg h1, if_neg (show ¬ 8 * bs.length < p + lenK s by omega), if_neg h3, if_neg h4, if_neg h5,
    if_neg (show ¬ 8 * bs.length < p + lenK s + (decF dist (bs ++ m) (p + lenK s)).2.2 + distK (decF dist (bs ++ m) (p + lenK s)).1.toNat by omega),
    numB_pre bs m p (lenK s) (by omega), numB_pre bs m _ (distK (decF dist (bs ++ m) (p + lenK s)).1.toNat) (by omega)]
theorem symF_cut (lit dist bs m : List Int) (most : Nat) : ∀ f f' out p, p ≤ 8 * bs.length → 8 * bs.length - p < f → 8 * (bs ++ m).length - p < f' → (symF lit dist (bs ++ m) most f' out p).2.2 = 0 → (symF lit dist (bs ++ m) most f' out p).2.1 ≤ 8 * bs.length →
    symF lit dist bs most f out p = symF lit dist (bs ++ m) most f' out p
  | 0, f', out, p, _, h, _, _, _ => by omega
  | f + 1, 0, out, p, _, _, h, _, _ => by omega
  | f + 1, f' + 1, out, p, hp, hf, hf', h, hq => by
    have hl := len_pre bs m
    rw [symF] at h hq
    by_cases h1 : (decF lit (bs ++ m) p).2.1 ≠ 0
    · rw [if_pos h1] at h; exact absurd (endF_zero (by decide) h) h1
    rw [if_neg h1] at h hq
    obtain ⟨a1, a2, -⟩ := dec_adv lit (bs ++ m) p (by omega) (by omega)
    have key : p + (decF lit (bs ++ m) p).2.2 ≤ 8 * bs.length → decF lit bs p = decF lit (bs ++ m) p := fun hk => decF_cut lit bs m p (by omega) hk
    by_cases h2 : (decF lit (bs ++ m) p).1 = 256
    · rw [if_pos h2] at h hq
      rw [symF, symF, key hq, if_neg h1, if_neg h1, if_pos h2, if_pos h2]
    rw [if_neg h2] at h hq
    by_cases h3 : (decF lit (bs ++ m) p).1 < 256
    · rw [if_pos h3] at h hq
      by_cases h4 : most ≤ out.length
      · rw [if_pos h4] at h; simp at h
      rw [if_neg h4] at h hq
      have := symF_pos lit dist (bs ++ m) most f' _ _ a2 h
      rw [symF, symF, key (by omega), if_neg h1, if_neg h1, if_neg h2, if_neg h2, if_pos h3, if_pos h3, if_neg h4, if_neg h4]
      exact symF_cut lit dist bs m most f f' _ _ (by omega) (by omega) (by omega) h hq
    rw [if_neg h3] at h hq
    by_cases h5 : (copyF dist (bs ++ m) most (decF lit (bs ++ m) p).1.toNat out (p + (decF lit (bs ++ m) p).2.2)).2.2 ≠ 0
    · rw [if_pos h5] at h; exact absurd h h5
    rw [if_neg h5] at h hq
    obtain ⟨b1, b2⟩ := copyF_pos dist (bs ++ m) most (decF lit (bs ++ m) p).1.toNat out _ a2 (by omega)
    have := symF_pos lit dist (bs ++ m) most f' _ _ b2 h
    have hc := copyF_cut dist bs m most (decF lit (bs ++ m) p).1.toNat out (p + (decF lit (bs ++ m) p).2.2) (by omega) (by omega)
    rw [symF, symF, key (by omega), if_neg h1, if_neg h1, if_neg h2, if_neg h2, if_neg h3, if_neg h3, hc, if_neg h5, if_neg h5]
    exact symF_cut lit dist bs m most f f' _ _ (by omega) (by omega) (by omega) h hq
theorem blockF_cut (bs m : List Int) (most : Nat) (kind : Int) (out : List Int) (p : Nat) (hp : p ≤ 8 * bs.length) (h : (blockF (bs ++ m) most kind out p).2.2 = 0) (hq : (blockF (bs ++ m) most kind out p).2.1 ≤ 8 * bs.length) :
    blockF bs most kind out p = blockF (bs ++ m) most kind out p := by
  have hl := len_pre bs m
  unfold blockF at h hq
  by_cases h1 : kind = 0
  · rw [if_pos h1] at h hq
    unfold blockF
    rw [if_pos h1, if_pos h1]; exact storedF_cut bs m most out p h hq
  rw [if_neg h1] at h hq
  by_cases h2 : kind = 1
  · rw [if_pos h2] at h hq
    unfold blockF
    rw [if_neg h1, if_neg h1, if_pos h2, if_pos h2]; exact symF_cut _ _ bs m most _ _ out p hp (by omega) (by omega) h hq
  rw [if_neg h2] at h hq
  by_cases h3 : kind = 2
  · rw [if_pos h3] at h hq
    by_cases h4 : codesE (headF (bs ++ m) p) ≠ 0
    · rw [if_pos h4] at h; exact absurd h h4
    rw [if_neg h4] at h hq
    have ha := headF_adv (bs ++ m) p (codesE_zero (by omega))
    have := symF_pos _ _ _ _ _ _ _ ha h
    have hc := headF_cut bs m p (codesE_zero (by omega)) (by omega)
    unfold blockF
    rw [if_neg h1, if_neg h1, if_neg h2, if_neg h2, if_pos h3, if_pos h3, hc, if_neg h4, if_neg h4]
    exact symF_cut _ _ bs m most _ _ out _ (by omega) (by omega) (by omega) h hq
  · rw [if_neg h3] at h; simp at h
theorem blksF_cut (bs m : List Int) (most : Nat) : ∀ f f' out p, p ≤ 8 * bs.length → 8 * bs.length - p < f → 8 * (bs ++ m).length - p < f' → (blksF (bs ++ m) most f' out p).2.2 = 0 → (blksF (bs ++ m) most f' out p).2.1 ≤ 8 * bs.length →
    blksF bs most f out p = blksF (bs ++ m) most f' out p
  | 0, f', out, p, _, h, _, _, _ => by omega
  | f + 1, 0, out, p, _, _, h, _, _ => by omega
  | f + 1, f' + 1, out, p, hp, hf, hf', h, hq => by
    have hl := len_pre bs m
    rw [blksF] at h hq
    by_cases h1 : 8 * (bs ++ m).length < p + 1
    · rw [if_pos h1] at h; simp at h
    rw [if_neg h1] at h hq
    by_cases h2 : 8 * (bs ++ m).length < p + 3
    · rw [if_pos h2] at h; simp at h
    rw [if_neg h2] at h hq
    by_cases h3 : (blockF (bs ++ m) most (numB (bs ++ m) (p + 1) 2) out (p + 3)).2.2 ≠ 0
    · rw [if_pos h3] at h; exact absurd h h3
    rw [if_neg h3] at h hq
    obtain ⟨b1, b2⟩ := blockF_pos (bs ++ m) most (numB (bs ++ m) (p + 1) 2) out (p + 3) (by omega) (by omega)
    have hk : (blockF (bs ++ m) most (numB (bs ++ m) (p + 1) 2) out (p + 3)).2.1 ≤ 8 * bs.length := by
      split at h
      · next h4 =>
        rw [if_pos h4] at hq
        have := blksF_pos (bs ++ m) most f' _ _ b2 h
        omega
      · next h4 => rw [if_neg h4] at hq; exact hq
    have hb := blockF_cut bs m most (numB (bs ++ m) (p + 1) 2) out (p + 3) (by omega) (by omega) hk
    rw [blksF, blksF, if_neg h1, if_neg h2, if_neg (show ¬ 8 * bs.length < p + 1 by omega), if_neg (show ¬ 8 * bs.length < p + 3 by omega), ← numB_pre bs m (p + 1) 2 (by omega), ← numB_pre bs m p 1 (by omega), hb, if_neg h3, if_neg h3]
    by_cases h4 : numB (bs ++ m) p 1 = 0
    · rw [if_pos h4] at h hq
      rw [if_pos h4, if_pos h4]
      exact blksF_cut bs m most f f' _ _ hk (by omega) (by omega) h hq
    · rw [if_neg h4, if_neg h4]
theorem inflF_cut (bs m : List Int) (most : Nat) (h : (inflF (bs ++ m) most).2.2 = 0) (hq : (inflF (bs ++ m) most).2.1 ≤ 8 * bs.length) : inflF bs most = inflF (bs ++ m) most :=
  blksF_cut bs m most _ _ _ _ (Nat.zero_le _) (by omega) (by omega) h hq
/-! Limits. -/
theorem grow_lt {out r : List Int} {x : Int} {M : Nat} (h : out ++ [x] <+: r) (hM : r.length ≤ M) : ¬ M ≤ out.length := by
  have := h.length_le
  rw [List.length_append, List.length_singleton] at this
  omega
theorem storF_most (bs : List Int) (most M : Nat) : ∀ n out p, (storF bs most n out p).2.2 = 0 → (storF bs most n out p).1.length ≤ M → storF bs M n out p = storF bs most n out p
  | 0, out, p, _, _ => rfl
  | n + 1, out, p, h, hM => by
    rw [storF] at h hM
    rw [storF, storF]
    split
    · rfl
    next h1 =>
    rw [if_neg h1] at h hM
    by_cases h2 : most ≤ out.length
    · rw [if_pos h2] at h; simp at h
    rw [if_neg h2] at h hM
    rw [if_neg h2, if_neg (grow_lt (storF_grow _ _ _ _ _) hM)]
    exact storF_most bs most M n _ _ h hM
theorem layN_most (far most M : Nat) : ∀ n out, (layN far most n out).2 = 0 → (layN far most n out).1.length ≤ M → layN far M n out = layN far most n out
  | 0, out, _, _ => rfl
  | n + 1, out, h, hM => by
    rw [layN] at h hM
    rw [layN, layN]
    by_cases h2 : most ≤ out.length
    · rw [if_pos h2] at h; simp at h
    rw [if_neg h2] at h hM
    rw [if_neg h2, if_neg (grow_lt (layN_grow _ _ _ _) hM)]
    exact layN_most far most M n _ h hM
theorem copyF_most (dist bs : List Int) (most M s : Nat) (out : List Int) (p : Nat) (h : (copyF dist bs most s out p).2.2 = 0) (hM : (copyF dist bs most s out p).1.length ≤ M) : copyF dist bs M s out p = copyF dist bs most s out p := by
  unfold copyF at h hM
  by_cases h1 : 285 < s
  · rw [if_pos h1] at h; simp at h
  rw [if_neg h1] at h hM
  by_cases h2 : 8 * bs.length < p + lenK s
  · rw [if_pos h2] at h; simp at h
  rw [if_neg h2] at h hM
  by_cases h3 : anyUsed dist = false
  · rw [if_pos h3] at h; simp at h
  rw [if_neg h3] at h hM
  by_cases h4 : (decF dist bs (p + lenK s)).2.1 ≠ 0
  · rw [if_pos h4] at h; exact absurd (endF_zero (by decide) h) h4
  rw [if_neg h4] at h hM
  by_cases h5 : 29 < (decF dist bs (p + lenK s)).1
  · rw [if_pos h5] at h; simp at h
  rw [if_neg h5] at h hM
  by_cases h6 : 8 * bs.length < p + lenK s + (decF dist bs (p + lenK s)).2.2 + distK (decF dist bs (p + lenK s)).1.toNat
  · rw [if_pos h6] at h; simp at h
  rw [if_neg h6] at h hM
  unfold copyF
  rw [if_neg h1, if_neg h2, if_neg h3, if_neg h4, if_neg h5, if_neg h6, if_neg h1, if_neg h2, if_neg h3, if_neg h4, if_neg h5, if_neg h6]
  split
  · rfl
  next h7 =>
  rw [if_neg h7] at h hM
  generalize ((distBase (decF dist bs (p + lenK s)).1.toNat : Int) + numB bs (p + lenK s + (decF dist bs (p + lenK s)).2.2) (distK (decF dist bs (p + lenK s)).1.toNat)).toNat = far at *
  generalize lenBase s + (numB bs p (lenK s)).toNat = n at *
  by_cases h8 : (layN far most n out).2 ≠ 0
  · rw [if_pos h8] at h; simp at h
  rw [if_neg h8] at hM
  rw [layN_most far most M n out (by omega) hM]
theorem symF_most (lit dist bs : List Int) (most M : Nat) : ∀ f out p, (symF lit dist bs most f out p).2.2 = 0 → (symF lit dist bs most f out p).1.length ≤ M → symF lit dist bs M f out p = symF lit dist bs most f out p
  | 0, out, p, _, _ => rfl
  | f + 1, out, p, h, hM => by
    rw [symF] at h hM
    by_cases h1 : (decF lit bs p).2.1 ≠ 0
    · rw [if_pos h1] at h; exact absurd (endF_zero (by decide) h) h1
    rw [if_neg h1] at h hM
    by_cases h2 : (decF lit bs p).1 = 256
    · rw [symF, symF, if_neg h1, if_neg h1, if_pos h2, if_pos h2]
    rw [if_neg h2] at h hM
    by_cases h3 : (decF lit bs p).1 < 256
    · rw [if_pos h3] at h hM
      by_cases h4 : most ≤ out.length
      · rw [if_pos h4] at h; simp at h
      rw [if_neg h4] at h hM
      rw [symF, symF, if_neg h1, if_neg h1, if_neg h2, if_neg h2, if_pos h3, if_pos h3, if_neg h4, if_neg (grow_lt (symF_grow _ _ _ _ _ _ _) hM)]
      exact symF_most lit dist bs most M f _ _ h hM
    rw [if_neg h3] at h hM
    by_cases h5 : (copyF dist bs most (decF lit bs p).1.toNat out (p + (decF lit bs p).2.2)).2.2 ≠ 0
    · rw [if_pos h5] at h; exact absurd h h5
    rw [if_neg h5] at h hM
    have hg := (symF_grow lit dist bs most f (copyF dist bs most (decF lit bs p).1.toNat out (p + (decF lit bs p).2.2)).1 (copyF dist bs most (decF lit bs p).1.toNat out (p + (decF lit bs p).2.2)).2.1).length_le
    have hc := copyF_most dist bs most M (decF lit bs p).1.toNat out (p + (decF lit bs p).2.2) (by omega) (by omega)
    rw [symF, symF, if_neg h1, if_neg h1, if_neg h2, if_neg h2, if_neg h3, if_neg h3, hc, if_neg h5, if_neg h5]
    exact symF_most lit dist bs most M f _ _ h hM
theorem blockF_most (bs : List Int) (most M : Nat) (kind : Int) (out : List Int) (p : Nat) (h : (blockF bs most kind out p).2.2 = 0) (hM : (blockF bs most kind out p).1.length ≤ M) : blockF bs M kind out p = blockF bs most kind out p := by
  unfold blockF at h hM
  by_cases h1 : kind = 0
  · rw [if_pos h1] at h hM
    unfold blockF
    rw [if_pos h1, if_pos h1]
    unfold storedF at h hM ⊢
    split
    · rfl
    next g1 =>
    rw [if_neg g1] at h hM
    split
    · rfl
    next g2 =>
    rw [if_neg g2] at h hM
    split
    · rfl
    next g3 =>
    rw [if_neg g3] at h hM
    exact storF_most bs most M _ _ _ h hM
  rw [if_neg h1] at h hM
  by_cases h2 : kind = 1
  · rw [if_pos h2] at h hM
    unfold blockF
    rw [if_neg h1, if_neg h1, if_pos h2, if_pos h2]; exact symF_most _ _ bs most M _ out p h hM
  rw [if_neg h2] at h hM
  by_cases h3 : kind = 2
  · rw [if_pos h3] at h hM
    by_cases h4 : codesE (headF bs p) ≠ 0
    · rw [if_pos h4] at h; exact absurd h h4
    rw [if_neg h4] at h hM
    unfold blockF
    rw [if_neg h1, if_neg h1, if_neg h2, if_neg h2, if_pos h3, if_pos h3, if_neg h4, if_neg h4]
    exact symF_most _ _ bs most M _ out _ h hM
  · rw [if_neg h3] at h; simp at h
theorem blksF_most (bs : List Int) (most M : Nat) : ∀ f out p, (blksF bs most f out p).2.2 = 0 → (blksF bs most f out p).1.length ≤ M → blksF bs M f out p = blksF bs most f out p
  | 0, out, p, _, _ => rfl
  | f + 1, out, p, h, hM => by
    rw [blksF] at h hM
    by_cases h1 : 8 * bs.length < p + 1
    · rw [if_pos h1] at h; simp at h
    rw [if_neg h1] at h hM
    by_cases h2 : 8 * bs.length < p + 3
    · rw [if_pos h2] at h; simp at h
    rw [if_neg h2] at h hM
    by_cases h3 : (blockF bs most (numB bs (p + 1) 2) out (p + 3)).2.2 ≠ 0
    · rw [if_pos h3] at h; exact absurd h h3
    rw [if_neg h3] at h hM
    have hk : (blockF bs most (numB bs (p + 1) 2) out (p + 3)).1.length ≤ M := by
      split at hM
      · exact Nat.le_trans (blksF_grow bs most f _ _).length_le hM
      · exact hM
    have hb := blockF_most bs most M (numB bs (p + 1) 2) out (p + 3) (by omega) hk
    rw [blksF, blksF, if_neg h1, if_neg h1, if_neg h2, if_neg h2, hb, if_neg h3, if_neg h3]
    by_cases h4 : numB bs p 1 = 0
    · rw [if_pos h4] at h hM
      rw [if_pos h4, if_pos h4]
      exact blksF_most bs most M f _ _ h hM
    · rw [if_neg h4, if_neg h4]
theorem inflF_most (bs : List Int) (most M : Nat) (h : (inflF bs most).2.2 = 0) (hM : (inflF bs most).1.length ≤ M) : inflF bs M = inflF bs most := blksF_most bs most M _ _ _ h hM
/-! No more is laid than may be. -/
theorem storF_le (bs : List Int) (most : Nat) : ∀ n out p, out.length ≤ most → (storF bs most n out p).1.length ≤ most
  | 0, out, p, h => h
  | n + 1, out, p, h => by
    rw [storF]
    split
    · exact h
    split
    · exact h
    · exact storF_le bs most n _ _ (by rw [List.length_append, List.length_singleton]; omega)
theorem layN_le (far most : Nat) : ∀ n out, out.length ≤ most → (layN far most n out).1.length ≤ most
  | 0, out, h => h
  | n + 1, out, h => by
    rw [layN]
    split
    · exact h
    · exact layN_le far most n _ (by rw [List.length_append, List.length_singleton]; omega)
theorem copyF_le (dist bs : List Int) (most s : Nat) (out : List Int) (p : Nat) (h : out.length ≤ most) : (copyF dist bs most s out p).1.length ≤ most := by
  unfold copyF
  repeat' split
  all_goals first | exact h | exact layN_le _ _ _ _ h
theorem symF_le (lit dist bs : List Int) (most : Nat) : ∀ f out p, out.length ≤ most → (symF lit dist bs most f out p).1.length ≤ most
  | 0, out, p, h => h
  | f + 1, out, p, h => by
    rw [symF]
    split
    · exact h
    split
    · exact h
    split
    · split
      · exact h
      · exact symF_le lit dist bs most f _ _ (by rw [List.length_append, List.length_singleton]; omega)
    split
    · exact copyF_le _ _ _ _ _ _ h
    · exact symF_le lit dist bs most f _ _ (copyF_le _ _ _ _ _ _ h)
theorem blockF_le (bs : List Int) (most : Nat) (kind : Int) (out : List Int) (p : Nat) (h : out.length ≤ most) : (blockF bs most kind out p).1.length ≤ most := by
  unfold blockF
  split
  · unfold storedF
    repeat' split
    all_goals first | exact h | exact storF_le _ _ _ _ _ h
  split
  · exact symF_le _ _ _ _ _ _ _ h
  split
  · split
    · exact h
    · exact symF_le _ _ _ _ _ _ _ h
  · exact h
theorem blksF_le (bs : List Int) (most : Nat) : ∀ f out p, out.length ≤ most → (blksF bs most f out p).1.length ≤ most
  | 0, out, p, h => h
  | f + 1, out, p, h => by
    rw [blksF]
    split
    · exact h
    split
    · exact h
    split
    · exact blockF_le _ _ _ _ _ h
    split
    · exact blksF_le bs most f _ _ (blockF_le _ _ _ _ _ h)
    · exact blockF_le _ _ _ _ _ h
theorem inflF_le (bs : List Int) (most : Nat) : (inflF bs most).1.length ≤ most := blksF_le _ _ _ _ _ (Nat.zero_le _)
/-! What the laws ask of it. -/
theorem inflR_ok {bs : List Int} {most : Int} (h : (inflR bs most).2.2 = 0) : 0 ≤ most ∧ most ≤ 16384 ∧ (inflF bs most.toNat).2.2 = 0 ∧ inflR bs most = ((inflF bs most.toNat).1, ((inflF bs most.toNat).2.1 + 7) / 8, 0) := by
  unfold inflR at h ⊢
  split
  · next h1 => rw [if_pos h1] at h; simp at h
  next h1 =>
  rw [if_neg h1] at h
  split
  · next h2 => rw [if_pos h2] at h; exact absurd h h2
  · next h2 => exact ⟨by omega, by omega, by omega, rfl⟩
theorem inflR_of {bs : List Int} {most : Int} (h0 : 0 ≤ most) (h1 : most ≤ 16384) (h : (inflF bs most.toNat).2.2 = 0) : inflR bs most = ((inflF bs most.toNat).1, ((inflF bs most.toNat).2.1 + 7) / 8, 0) := by
  unfold inflR; rw [if_neg (by omega), if_neg (by omega)]
theorem inflR_bad {bs : List Int} {most : Int} (h : (inflR bs most).2.2 ≠ 0) : (inflR bs most).1 = [] ∧ (inflR bs most).2.1 = 0 := by
  unfold inflR at h ⊢
  split
  · exact ⟨rfl, rfl⟩
  next h1 =>
  rw [if_neg h1] at h
  split
  · exact ⟨rfl, rfl⟩
  · next h2 => rw [if_neg h2] at h; exact absurd rfl h
theorem inflR_behind {bs m : List Int} {most : Int} (h : (inflR bs most).2.2 = 0) : inflR (bs ++ m) most = inflR bs most := by
  obtain ⟨h0, h1, h2, h3⟩ := inflR_ok h
  have he := (inflF_ext bs m most.toNat).1 (by rw [h2]; decide)
  rw [h3, inflR_of h0 h1 (by rw [he]; exact h2), he]
theorem inflR_le {bs : List Int} {most : Int} (h : (inflR bs most).2.2 = 0) : (inflR bs most).2.1 ≤ bs.length ∧ ((inflR bs most).1.length : Int) ≤ most := by
  obtain ⟨h0, h1, h2, h3⟩ := inflR_ok h
  have := inflF_pos bs most.toNat h2
  have := inflF_le bs most.toNat
  rw [h3]
  simp only []
  omega
theorem inflR_just {bs : List Int} {most : Int} (h : (inflR bs most).2.2 = 0) : inflR (bs.take (inflR bs most).2.1) ((inflR bs most).1.length : Int) = inflR bs most := by
  obtain ⟨h0, h1, h2, h3⟩ := inflR_ok h
  have h4 := inflF_pos bs most.toNat h2
  have h5 := inflF_le bs most.toNat
  rw [h3]
  simp only []
  have hs : bs = bs.take (((inflF bs most.toNat).2.1 + 7) / 8) ++ bs.drop (((inflF bs most.toNat).2.1 + 7) / 8) := (List.take_append_drop _ _).symm
  have hl : (bs.take (((inflF bs most.toNat).2.1 + 7) / 8)).length = ((inflF bs most.toNat).2.1 + 7) / 8 := by rw [List.length_take]; omega
  have hc : inflF (bs.take (((inflF bs most.toNat).2.1 + 7) / 8)) most.toNat = inflF bs most.toNat := by
    have := inflF_cut (bs.take (((inflF bs most.toNat).2.1 + 7) / 8)) (bs.drop (((inflF bs most.toNat).2.1 + 7) / 8)) most.toNat (by rw [← hs]; exact h2) (by rw [← hs, hl]; omega)
    rwa [← hs] at this
  have hm : inflF (bs.take (((inflF bs most.toNat).2.1 + 7) / 8)) (inflF bs most.toNat).1.length = inflF bs most.toNat := by
    rw [inflF_most (bs.take (((inflF bs most.toNat).2.1 + 7) / 8)) most.toNat _ (by rw [hc]; exact h2) (by rw [hc]; exact Nat.le_refl _), hc]
  rw [inflR_of (by omega) (by omega) (by rw [Int.toNat_natCast, hm]; exact h2), Int.toNat_natCast, hm]
theorem inflR_more {bs : List Int} {most more : Int} (h : (inflR bs most).2.2 = 0) (h1 : most ≤ more) (h2 : more ≤ 16384) : inflR bs more = inflR bs most := by
  obtain ⟨h0, h3, h4, h5⟩ := inflR_ok h
  have h6 := inflF_le bs most.toNat
  have hm := inflF_most bs most.toNat more.toNat h4 (by omega)
  rw [h5, inflR_of (by omega) h2 (by rw [hm]; exact h4), hm]
end Go.Proofs.YtcblibefmclloaaDoor
