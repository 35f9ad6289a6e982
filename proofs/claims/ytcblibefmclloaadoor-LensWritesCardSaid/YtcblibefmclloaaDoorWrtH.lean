import Derived.Test.YtcblibefmclloaaDoorWrtA
import Derived.Test.YtcblibefmclloaaDoorWrtC
import Derived.Test.YtcblibefmclloaaDoorWrtG
import Derived.Laws.AppendOwnNone
import Derived.Laws.OwnMore
import Derived.Lib.SliceRun
import Derived.Test.YtcblibefmclloaaDoorWrtB
import Derived.Deep.RegionWith
import Derived.StillTailTactics
import Derived.RegionTactic
import Derived.BigQuiet
import Derived.BigRegion
set_option linter.unusedVariables false
set_option linter.unusedSimpArgs false
namespace Go.Proofs.YtcblibefmclloaaDoor
open Go.RowKit
def saidV : Option (Int × Nat) → Value
  | some (v, k) => .tuple #[.int .i64 v, .int .i64 k, .bool true]
  | none => .tuple #[.int .i64 0, .int .i64 0, .bool false]
theorem saidV_none {r : Option (Int × Nat)} (h : r = none) : Ending.returned (.tuple #[.int .i64 0, .int .i64 0, .bool false]) = .returned (saidV r) := by rw [h]; rfl
theorem saidV_some {r : Option (Int × Nat)} {v ki : Int} {k : Nat} (h : r = some (v, k)) (hk : ki = k) : Ending.returned (.tuple #[.int .i64 v, .int .i64 ki, .bool true]) = .returned (saidV r) := by rw [h, hk]; rfl
set_option maxRecDepth 100000 in
set_option maxHeartbeats 1000000 in
theorem says_none (w : World) (len c : Nat) (A : Option Addr) (l : List Int) (sym extra : Int)
    (hs : sym < 0 ∨ 18 < sym ∨ (0 ≤ sym ∧ sym ≤ 15 ∧ (extra == 0) = false) ∨ (sym = 16 ∧ extra < 0) ∨ (sym = 16 ∧ 0 ≤ extra ∧ 3 < extra) ∨ (sym = 17 ∧ extra < 0) ∨ (sym = 17 ∧ 0 ≤ extra ∧ 7 < extra) ∨ (sym = 18 ∧ extra < 0) ∨ (sym = 18 ∧ 0 ≤ extra ∧ 127 < extra)) :
    Calls Tryd.prog 78 #[.agg #[.int .i64 sym, .int .i64 extra], .slice A len c] w fun e w' => e = .returned (saidV (sayF l sym extra)) ∧ Keeps [] w w' := by
  have hr : sayF l sym extra = none := by
    rcases hs with h | h | ⟨h1, h2, h3⟩ | ⟨rfl, h⟩ | ⟨rfl, _, h⟩ | ⟨rfl, h⟩ | ⟨rfl, _, h⟩ | ⟨rfl, h⟩ | ⟨rfl, _, h⟩
    · exact sayF_lit_none (by omega) (Or.inl h)
    · exact sayF_big h
    · exact sayF_lit_none h2 (Or.inr (by simpa using h3))
    · exact sayF_16_none (Or.inl h)
    · exact sayF_16_none (Or.inr (Or.inl h))
    · exact sayF_17_none (Or.inl h)
    · exact sayF_17_none (Or.inr h)
    · exact sayF_18_none (Or.inl h)
    · exact sayF_18_none (Or.inr h)
  have HRR := Lib.hid hr
  clear hr
  rcases hs with h | h | ⟨h1, h2, h3⟩ | ⟨rfl, h⟩ | ⟨rfl, h0, h⟩ | ⟨rfl, h⟩ | ⟨rfl, h0, h⟩ | ⟨rfl, h⟩ | ⟨rfl, h0, h⟩
  case' inl =>
    have e1 : (sym == 16) = false := by simp; omega
    have e2 : (sym == 17) = false := by simp; omega
    have e3 : (sym == 18) = false := by simp; omega
  case' inr.inl =>
    have e1 : (sym == 16) = false := by simp; omega
    have e2 : (sym == 17) = false := by simp; omega
    have e3 : (sym == 18) = false := by simp; omega
  case' inr.inr.inl =>
    have e1 : (sym == 16) = false := by simp; omega
    have e2 : (sym == 17) = false := by simp; omega
    have e3 : (sym == 18) = false := by simp; omega
  all_goals
    go_enter Tryd.func78, Tryd.ntmps78
    go_wp2
    go_ret3
    exact ⟨saidV_none HRR.out, by repeat (first | exact Keeps.refl _ _ | apply Keeps.drewN | apply Keeps.drew | apply Keeps.alloc)⟩
set_option maxRecDepth 100000 in
set_option maxHeartbeats 1000000 in
theorem says_none16 (w : World) (c : Nat) (A : Option Addr) (extra : Int) (h0 : 0 ≤ extra) (h3 : extra ≤ 3) :
    Calls Tryd.prog 78 #[.agg #[.int .i64 16, .int .i64 extra], .slice A 0 c] w fun e w' => e = .returned (saidV (sayF [] 16 extra)) ∧ Keeps [] w w' := by
  have HRR := Lib.hid (sayF_16_none (l := []) (extra := extra) (Or.inr (Or.inr rfl)))
  go_enter Tryd.func78, Tryd.ntmps78
  go_wp2
  go_ret3
  exact ⟨saidV_none HRR.out, by repeat (first | exact Keeps.refl _ _ | apply Keeps.drewN | apply Keeps.drew | apply Keeps.alloc)⟩
set_option maxRecDepth 100000 in
set_option maxHeartbeats 1000000 in
theorem says_lit (w : World) (len c : Nat) (A : Option Addr) (l : List Int) (sym : Int) (h0 : 0 ≤ sym) (h15 : sym ≤ 15) :
    Calls Tryd.prog 78 #[.agg #[.int .i64 sym, .int .i64 0], .slice A len c] w fun e w' => e = .returned (saidV (sayF l sym 0)) ∧ Keeps [] w w' := by
  have HRR := Lib.hid (sayF_lit (l := l) h0 h15)
  go_enter Tryd.func78, Tryd.ntmps78
  go_wp2
  go_ret3
  exact ⟨saidV_some HRR.out rfl, by repeat (first | exact Keeps.refl _ _ | apply Keeps.drewN | apply Keeps.drew | apply Keeps.alloc)⟩
set_option maxRecDepth 100000 in
set_option maxHeartbeats 1000000 in
theorem says_16 (w : World) (len c : Nat) (A : Option Addr) (l : List Int) (extra : Int) (hl : RI .i64 w A len l) (hp : 0 < len) (hn : len ≤ 1000000) (h0 : 0 ≤ extra) (h3 : extra ≤ 3) :
    Calls Tryd.prog 78 #[.agg #[.int .i64 16, .int .i64 extra], .slice A len c] w fun e w' => e = .returned (saidV (sayF l 16 extra)) ∧ Keeps [] w w' := by
  have hll := hl.len
  have HRR := Lib.hid (sayF_16 (l := l) h0 h3 (by rintro rfl; simp at hll; omega))
  obtain ⟨b, o, rfl, hlast⟩ := hl.at (show len - 1 < len by omega)
  have hlast' := fun ob => ((Keeps.refl [] w).alloc ob).cell (by simp) hlast
  have HE : Hid (nth l (len - 1) = l.getD (l.length - 1) 0) := by rw [hll]; rfl
  have e2 : IntKind.i64.wrap ((len : Int) - 1) = (len : Int) - 1 := IntWalk.i64_in _ (by omega)
  have e3 : IntKind.i64.wrap (extra + 3) = extra + 3 := IntWalk.i64_in _ (by omega)
  have e7 : (0 : Int) ≤ (len : Int) - 1 := by omega
  have e8 : ((len : Int) - 1).toNat = len - 1 := by omega
  clear hlast hl hll
  go_enter Tryd.func78, Tryd.ntmps78
  go_wp2
  go_quiet (fail)
  go_wp2
  go_ret3
  rw [HE.out]
  exact ⟨saidV_some HRR.out (by omega), by repeat (first | exact Keeps.refl _ _ | apply Keeps.drewN | apply Keeps.drew | apply Keeps.alloc)⟩
set_option maxRecDepth 100000 in
set_option maxHeartbeats 1000000 in
theorem says_17 (w : World) (len c : Nat) (A : Option Addr) (l : List Int) (extra : Int) (h0 : 0 ≤ extra) (h3 : extra ≤ 7) :
    Calls Tryd.prog 78 #[.agg #[.int .i64 17, .int .i64 extra], .slice A len c] w fun e w' => e = .returned (saidV (sayF l 17 extra)) ∧ Keeps [] w w' := by
  have HRR := Lib.hid (sayF_17 (l := l) h0 h3)
  have e3 : IntKind.i64.wrap (extra + 3) = extra + 3 := IntWalk.i64_in _ (by omega)
  go_enter Tryd.func78, Tryd.ntmps78
  go_wp2
  go_quiet (fail)
  go_wp2
  go_ret3
  exact ⟨saidV_some HRR.out (by omega), by repeat (first | exact Keeps.refl _ _ | apply Keeps.drewN | apply Keeps.drew | apply Keeps.alloc)⟩
set_option maxRecDepth 100000 in
set_option maxHeartbeats 1000000 in
theorem says_18 (w : World) (len c : Nat) (A : Option Addr) (l : List Int) (extra : Int) (h0 : 0 ≤ extra) (h3 : extra ≤ 127) :
    Calls Tryd.prog 78 #[.agg #[.int .i64 18, .int .i64 extra], .slice A len c] w fun e w' => e = .returned (saidV (sayF l 18 extra)) ∧ Keeps [] w w' := by
  have HRR := Lib.hid (sayF_18 (l := l) h0 h3)
  have e3 : IntKind.i64.wrap (extra + 11) = extra + 11 := IntWalk.i64_in _ (by omega)
  go_enter Tryd.func78, Tryd.ntmps78
  go_wp2
  go_quiet (fail)
  go_wp2
  go_ret3
  exact ⟨saidV_some HRR.out (by omega), by repeat (first | exact Keeps.refl _ _ | apply Keeps.drewN | apply Keeps.drew | apply Keeps.alloc)⟩
theorem says_calls (w : World) (len c : Nat) (A : Option Addr) (l : List Int) (sym extra : Int) (hl : RI .i64 w A len l) (hn : len ≤ 1000000) :
    Calls Tryd.prog 78 #[.agg #[.int .i64 sym, .int .i64 extra], .slice A len c] w fun e w' => e = .returned (saidV (sayF l sym extra)) ∧ Keeps [] w w' := by
  by_cases hs : sym < 0 ∨ 18 < sym ∨ (0 ≤ sym ∧ sym ≤ 15 ∧ (extra == 0) = false) ∨ (sym = 16 ∧ extra < 0) ∨ (sym = 16 ∧ 0 ≤ extra ∧ 3 < extra) ∨ (sym = 17 ∧ extra < 0) ∨ (sym = 17 ∧ 0 ≤ extra ∧ 7 < extra) ∨ (sym = 18 ∧ extra < 0) ∨ (sym = 18 ∧ 0 ≤ extra ∧ 127 < extra)
  · exact says_none w len c A l sym extra hs
  · rcases (by omega : 0 ≤ sym ∧ sym ≤ 15 ∨ sym = 16 ∨ sym = 17 ∨ sym = 18) with ⟨h0, h1⟩ | rfl | rfl | rfl
    · have hx : extra = 0 := by
        by_cases h : extra = 0
        · exact h
        · exact absurd (Or.inr (Or.inr (Or.inl ⟨h0, h1, by simpa using h⟩))) hs
      subst hx
      exact says_lit w len c A l sym h0 h1
    · by_cases hp : 0 < len
      · exact says_16 w len c A l extra hl hp hn (by omega) (by omega)
      · obtain rfl : len = 0 := by omega
        obtain rfl : l = [] := List.eq_nil_of_length_eq_zero hl.len
        exact says_none16 w c A extra (by omega) (by omega)
    · exact says_17 w len c A l extra (by omega) (by omega)
    · exact says_18 w len c A l extra (by omega) (by omega)
end Go.Proofs.YtcblibefmclloaaDoor

set_option linter.unusedVariables false
set_option linter.unusedSimpArgs false
namespace Go.Proofs.YtcblibefmclloaaDoor
open Go.RowKit
/-- 's = append(s, ys...)' of numbers, whatever slice the source is. -/
theorem app_any {ops : Array Oper} {rest : List Oper} {o : Oper} {a : Act} {Q : Exit → Act → World → Prop} {w : World} (hgd : o.guard = none) (s x : Operand)
    (ho : o.op = .call { callee := .builtin .append, args := #[s, x], argTypes := #[22, 22] })
    (base : Nat) (v : Value) (n : Nat) (xs : List Int) (hs : a.eval s = v) (hown : w.ownsRow base 3 1 v n (ints .i64 xs))
    (A : Option Addr) (m c : Nat) (ys : List Int) (hx : a.eval x = .slice A m c) (hy : RI .i64 w A m ys) (hnil : A = none → m = 0 ∧ c = 0) (hpl : ∀ ad, A = some ad → ∃ b o, ad = ⟨b, o, none⟩)
    (hn : n + m ≤ 1000000) (hbase : base ≤ w.heap.size)
    (h : ∀ v' w', w'.ownsRow base 3 1 v' (n + m) (ints .i64 (xs ++ ys)) → w.grownBy w' v.ownBlock → wpList Tryd.prog ops Q rest (a.put o.dst v') w') : wpList Tryd.prog ops Q (o :: rest) a w := by
  obtain ⟨i0, hi, hz0, hz1, hz2⟩ := info_parts info_int
  cases A with
  | none =>
    obtain ⟨rfl, rfl⟩ := hnil rfl
    obtain rfl : ys = [] := List.eq_nil_of_length_eq_zero hy.len
    refine wpList_append_own_none hgd s x 22 ho base 3 i0 1 Tryd.underlying22 hi v n (ints .i64 xs) hs hown hx ?_
    exact h v w (by simpa using hown) ⟨rfl, rfl, rfl, Nat.le_refl _, fun _ _ _ => rfl⟩
  | some ad =>
    obtain ⟨b, of, rfl⟩ := hpl ad rfl
    refine wpList_append_own _ hgd s x 22 ho base 3 i0 (.int .i64 0) 1 8 Tryd.underlying22 hi hz0 hz1 hz2 rfl (by decide) v n (ints .i64 xs) hs hown ⟨b, of, none⟩ m c (ints .i64 ys) hx (by simp [ints, hy.len]) ?_ (ints_one _ _) (by unfold maxLen; omega) (by omega) hbase ?_
    · intro j u hu
      have hj : j < m := by have := (List.getElem?_eq_some_iff.1 hu).1; have := hy.len; simp [ints] at *; omega
      rw [add_plain2]
      have hc := hy.cell b of rfl j hj
      rw [hc, ← hu, ints_getElem?]
      simp [nth, List.getD, show j < ys.length by have := hy.len; omega]
    · intro v' w' h2 h3 _
      have e : ints .i64 (xs ++ ys) = ints .i64 xs ++ ints .i64 ys := by simp [ints]
      rw [e] at h
      exact h v' w' h2 h3
/-- What adding a step answers by the document. -/
def WithV (w : World) (r : Option (List Int)) (e : Ending) (w' : World) : Prop :=
  match r with
  | some l => ∃ v, e = .returned (.tuple #[v, .int .i64 0]) ∧ w'.ownsRow w.heap.size 3 1 v l.length (ints .i64 l) ∧ Below w.heap.size w w'
  | none => e = .returned (.tuple #[.slice none 0 0, .int .i64 41]) ∧ Below w.heap.size w w'
theorem new_ri (w : World) (t : TypeId) (v : Int) : RI .i64 (w.alloc (.cells #[.int .i64 v] t)) (some ⟨w.heap.size, 0, none⟩) 1 [v] := by
  have h : Blk (w.alloc (.cells (ints .i64 [v]).toArray t (0, 0))) w.heap.size t (ints .i64 ([v] ++ [])) := blk_new w t _
  exact h.ri
set_option maxRecDepth 100000 in
set_option maxHeartbeats 1000000 in
theorem with_calls (w : World) (len c : Nat) (A : Option Addr) (l : List Int) (sym extra n : Int) (hl : RI .i64 w A len l) (hn : len ≤ 1000) (hnil : A = none → len = 0 ∧ c = 0) (hpl : ∀ ad, A = some ad → ∃ b o, ad = ⟨b, o, none⟩) :
    Calls Tryd.prog 57 #[.slice A len c, .agg #[.int .i64 sym, .int .i64 extra], .int .i64 n] w (WithV w (addF l sym extra n)) := by
  have HL := Lib.hid hl
  have HNIL := Lib.hid hnil
  have HPL := Lib.hid hpl
  clear hl hnil hpl
  go_enter Tryd.func57, Tryd.ntmps57
  go_wp2_with fail
  refine (says_calls _ _ _ _ l _ _ (HL.out.keeps ((Keeps.refl _ _).alloc _) (off_nil _)) (by omega)).mono ?_
  rintro e w1 ⟨rfl, hk⟩
  have HK := Lib.hid ((Keeps.refl [] w).alloc _ |>.trans hk)
  clear hk
  cases hs : sayF l sym extra with
  | none =>
    have HR := Lib.hid (addF_none (n := n) hs)
    rw [saidV]
    clear hs
    go_wp2_with fail
    go_ret2
    rw [HR.out]
    exact ⟨rfl, HK.out.below⟩
  | some p =>
    obtain ⟨v, k⟩ := p
    have hkp := sayF_pos hs
    have HS := Lib.hid hs
    rw [saidV]
    clear hs
    by_cases hm : n < (len : Int) + (k : Int)
    · have HR := Lib.hid (addF_many (n := n) HS.out (by have := HL.out.len; omega))
      go_wp2_with fail
      go_ret2
      rw [HR.out]
      exact ⟨rfl, HK.out.below⟩
    · have HR := Lib.hid (addF_some (n := n) HS.out (by have := HL.out.len; omega))
      have hsz := HK.out.size
      go_wp2_with (at_builtin; refine app_any rfl (.tmp 30) (.tmp 31) rfl w.heap.size _ _ [] rfl (World.ownsRow_nil _ _ _ _) A len c l rfl (HL.out.keeps HK.out (off_nil _)) HNIL.out HPL.out (by omega) hsz ?_)
      intro v1 w2 h1 hg1
      have H1 := Lib.hid h1
      have HB1 := Lib.hid (HK.out.below.grown hg1 hsz (fun k hk => by simp [Value.ownBlock] at hk))
      clear h1 hg1
      go_wp2_with fail
      go_loopw [11, 12] (fun u i wr => ∃ j : Nat, j ≤ k ∧ i = .int .i64 j ∧ Hid (wr.ownsRow w.heap.size 3 1 u (len + j) (ints .i64 (l ++ List.replicate j v))) ∧ Hid (Below w.heap.size w wr)) (fun _ i _ => k - (intOf i).toNat)
      case atStart => exact ⟨0, by omega, rfl, Lib.hid (by simpa using H1.out), HB1⟩
      case round =>
        clear H1 HB1
        obtain ⟨j, hj, rfl, HO, HW⟩ := hrel
        have hsz2 := HW.out.size
        by_cases hlt : j < k
        · go_wp2_with (at_builtin; refine app_ints rfl (.tmp 38) (.tmp 40) rfl w.heap.size _ _ _ rfl (HO.out.alloc _) wr.heap.size 1 1 [v] rfl (new_ri _ _ _) (by omega) (by simp; omega) ?_)
          intro v1 w2 h1 hg1
          have H1 := Lib.hid h1
          have HB1 := Lib.hid ((HW.out.alloc (by omega) _).grown hg1 (by simp; omega) (fun k hk => (HO.out.lt k hk).1))
          clear h1 hg1 HO HW
          go_wp2_with fail
          go_roundw
          case rel => exact ⟨j + 1, by omega, by go_num, Lib.hid (by rw [List.replicate_succ']; simpa [Nat.add_assoc] using H1.out), HB1⟩
          case measure => simp [intOf]; omega
        · obtain rfl : j = k := by omega
          go_wp2_with fail
          go_ret2
          rw [HR.out]
          refine ⟨_, rfl, ?_, HW.out⟩
          rw [show (l ++ List.replicate j v).length = len + j by have := HL.out.len; simp; omega]
          exact HO.out
end Go.Proofs.YtcblibefmclloaaDoor

set_option linter.unusedVariables false
set_option linter.unusedSimpArgs false
namespace Go.Proofs.YtcblibefmclloaaDoor
open Go.RowKit
def sLen : Value → Nat
  | .slice _ n _ => n
  | _ => 0
set_option maxRecDepth 100000 in
set_option maxHeartbeats 400000 in
theorem cloneI_calls (w : World) (A : Option Addr) (n c : Nat) (xs : List Int) (hx : RI .i64 w A n xs) (hnil : A = none → n = 0 ∧ c = 0) (hpl : ∀ ad, A = some ad → ∃ b o, ad = ⟨b, o, none⟩) (hn : n ≤ 100000) :
    Calls Tryd.prog 82 #[.slice A n c] w fun e w' => ∃ v, e = .returned v ∧ w'.ownsRow w.heap.size 3 1 v n (ints .i64 xs) ∧ Below w.heap.size w w' := by
  have HX := Lib.hid hx
  have HP := Lib.hid hpl
  clear hx hpl
  go_enter Tryd.func82, Tryd.ntmps82
  cases A with
  | none =>
    obtain ⟨rfl, rfl⟩ := hnil rfl
    obtain rfl : xs = [] := List.eq_nil_of_length_eq_zero HX.out.len
    have hq := fun w => Lib.run_eql_slice_nil (P := Tryd.prog) w 22 3 none 0 0 0 0 Tryd.underlying22
    go_wp2_with fail
    go_ret
    exact ⟨_, rfl, World.ownsRow_nil _ _ _ _, Below.refl _ _⟩
  | some ad =>
    obtain ⟨b, o, rfl⟩ := HP.out ad rfl
    have hq := fun w => Lib.run_eql_slice_nil (P := Tryd.prog) w 22 3 (some ⟨b, o, none⟩) n c 0 0 Tryd.underlying22
    have HO : Hid ((w.alloc (.cells #[] 3)).ownsRow w.heap.size 3 1 (.slice (some ⟨w.heap.size, 0, none⟩) 0 0) 0 (ints .i64 [])) := Lib.hid (World.ownsRow_lit w #[] 0 (Nat.le_refl _) (by decide) rfl)
    have HR := Lib.hid (HX.out.keeps ((Keeps.refl [] w).alloc (.cells #[] 3)) (off_nil _))
    go_wp2_with (at_builtin; refine app_any rfl (.tmp 5) (.tmp 6) rfl w.heap.size _ _ [] rfl (by exact HO.out) (some ⟨b, o, none⟩) n c xs rfl (by exact HR.out) (by simp) (by intro ad h; exact ⟨_, _, (Option.some.inj h).symm⟩) (by omega) (by simp) ?_)
    intro v1 w1 ho1 hg1
    have HB1 := Lib.hid ((((Below.refl w.heap.size w).alloc (Nat.le_refl _) (.cells #[] 3))).grown hg1 (by simp) (fun k hk => (HO.out.lt k hk).1))
    have HO1 := Lib.hid ho1
    clear ho1 hg1
    go_wp2_with fail
    go_ret
    exact ⟨_, rfl, by simpa using HO1.out, HB1.out⟩
end Go.Proofs.YtcblibefmclloaaDoor

set_option linter.unusedVariables false
set_option linter.unusedSimpArgs false
namespace Go.Proofs.YtcblibefmclloaaDoor
open Go.RowKit
theorem own_full {w : World} {base : Nat} {e : TypeId} {v : Value} {n : Nat} {k : IntKind} {xs : List Int} (h : w.ownsRow base e 1 v n (ints k xs)) :
    ∃ A c, v = .slice A n c ∧ RI k w A n xs ∧ n ≤ c ∧ (A = none → n = 0 ∧ c = 0) ∧ (∀ ad, A = some ad → ∃ b o, ad = ⟨b, o, none⟩) ∧ (∀ a, A = some a → base ≤ a.block ∧ a.block < w.heap.size) := by
  obtain ⟨A, c, rfl, h1, h2, h3⟩ := own_ri h
  refine ⟨A, c, rfl, h1, h2, ?_, ?_, fun a ha => ⟨(h3 a ha).1, (h3 a ha).2.1⟩⟩
  · rintro rfl
    rcases h.2 with ⟨h4, h5⟩ | ⟨g, cap, cur, h4, _⟩
    · injection h4 with _ _ h6
      exact ⟨h5, h6⟩
    · injection h4 with h6; cases h6
  · rintro ad rfl
    rcases h.2 with ⟨h4, h5⟩ | ⟨g, cap, cur, h4, _⟩
    · injection h4 with h6; cases h6
    · injection h4 with h6; injection h6 with h7; exact ⟨g, 0, h7⟩
set_option maxRecDepth 100000 in
set_option maxHeartbeats 1000000 in
theorem refUnpack_calls (w : World) (A : Option Addr) (m c : Nat) (xs : List (Int × Int)) (n : Int) (hx : RP w A m xs) (hm : m ≤ 140737488355328) :
    Calls Tryd.prog 22 #[.slice A m c, .int .i64 n] w (Unpacked w (unpackF xs n)) := by
  have HX := Lib.hid hx
  clear hx
  by_cases h0 : n < 0
  · have e1 : decide (n < 0) = true := by simpa using h0
    go_enter Tryd.func22, Tryd.ntmps22
    go_wp2_with fail
    go_ret2
    exact unpacked_nil _ _ _ _ (unpackF_arg (Or.inl h0)) (Below.refl _ _)
  · have e1 : decide (n < 0) = false := by simpa using h0
    by_cases h1 : 316 < n
    · have e2 : decide (316 < n) = true := by simpa using h1
      go_enter Tryd.func22, Tryd.ntmps22
      go_wp2_with fail
      go_ret2
      exact unpacked_nil _ _ _ _ (unpackF_arg (Or.inr h1)) (Below.refl _ _)
    · have e2 : decide (316 < n) = false := by simpa using h1
      go_enter Tryd.func22, Tryd.ntmps22
      go_wp2_with fail
      clear e1 e2
      go_loopw [6, 7] (fun u i wr => ∃ (k : Nat) (l : List Int), k ≤ m ∧ i = .int .i64 k ∧ (l.length : Int) ≤ n ∧ Hid (wr.ownsRow w.heap.size 3 1 u l.length (ints .i64 l)) ∧ Hid (unpackTo [] xs n = unpackTo l (xs.drop k) n) ∧ Hid (Below w.heap.size w wr)) (fun _ i _ => m - (intOf i).toNat)
      case atStart => exact ⟨0, [], by omega, rfl, by simp; omega, Lib.hid (World.ownsRow_nil _ _ _ _), Lib.hid (by simp), Lib.hid (Below.refl _ _)⟩
      case round =>
        obtain ⟨k, l, hk, rfl, hl, HO, HP, HW⟩ := hrel
        by_cases hlt : k < m
        · obtain ⟨b, o, rfl⟩ := HX.out.hd (by omega)
          obtain ⟨c1, c2⟩ := HX.out.cell b o rfl k hlt
          have hd := pth_drop (show k < xs.length by have := HX.out.len; omega)
          have c1' := (Keeps.of_below (S := []) HW.out).cell (by simp) c1
          have c2' := (Keeps.of_below (S := []) HW.out).cell (by simp) c2
          have HD := Lib.hid hd
          clear c1 c2 hd
          have hsz := HW.out.size
          obtain ⟨A1, cc, rfl, hri, hcap, hnil, hpl, hblk⟩ := own_full HO.out
          have HRI := Lib.hid hri
          have HN := Lib.hid hnil
          have HPL := Lib.hid hpl
          clear hri hblk hcap hnil hpl
          go_wp2_with fail
          refine (with_calls _ _ _ _ l _ _ n HRI.out (by omega) HN.out HPL.out).mono ?_
          intro e w2 ha
          have hp := HP.out
          rw [HD.out] at hp
          cases hadd : addF l (pth xs k).1 (pth xs k).2 n with
          | none =>
            rw [hadd] at ha
            obtain ⟨rfl, hb⟩ := ha
            rw [unpackTo_stop hadd] at hp
            have HP2 := Lib.hid hp
            have HB := Lib.hid (HW.out.trans (hb.mono hsz))
            clear hp hb hadd
            go_wp2_with fail
            go_ret2
            exact unpacked_nil _ _ _ _ (unpackF_none (by omega) (by omega) HP2.out) HB.out
          | some l' =>
            rw [hadd] at ha
            obtain ⟨v', rfl, ho, hb⟩ := ha
            rw [unpackTo_cons hadd] at hp
            have hlen := addF_len hadd
            have HP2 := Lib.hid hp
            have HB := Lib.hid (HW.out.trans (hb.mono hsz))
            have HO2 := Lib.hid (ho.mono hsz)
            clear hp hb hadd ho
            go_wp2_with fail
            go_roundw
            case rel => exact ⟨k + 1, l', by omega, by go_num, hlen.2, HO2, HP2, HB⟩
            case measure => simp [intOf]; omega
        · obtain rfl : k = m := by omega
          have hp := HP.out
          rw [List.drop_eq_nil_of_le (by have := HX.out.len; omega), unpackTo] at hp
          have HP2 := Lib.hid hp
          clear hp
          obtain ⟨A1, cc, rfl, hri, hcap, hblk⟩ := own_ri HO.out
          clear hri hcap hblk
          by_cases hfew : (l.length : Int) < n
          · have e5 : decide ((l.length : Int) < n) = true := by simpa using hfew
            go_wp2_with fail
            go_ret2
            exact unpacked_nil _ _ _ _ (unpackF_few (by omega) (by omega) HP2.out hfew) HW.out
          · have e5 : decide ((l.length : Int) < n) = false := by simpa using hfew
            go_wp2_with fail
            go_ret2
            rw [unpackF_ok (by omega) (by omega) HP2.out (by omega)]
            exact ⟨_, rfl, HO.out, HW.out⟩
end Go.Proofs.YtcblibefmclloaaDoor

set_option linter.unusedVariables false
set_option linter.unusedSimpArgs false
namespace Go.Proofs.YtcblibefmclloaaDoor
open Go.RowKit
/-- Reading bits, whatever has gone wrong before. -/
def TookP (w : World) (rb eb g : Nat) (A : Option Addr) (c q n : Nat) (e : Int) (bs : List Int) (r : Ending) (w' : World) : Prop :=
  ∃ (v : Int) (q' : Nat) (e' : Int), r = .returned (.int .i64 v) ∧ Hd w' rb eb g A c bs q' e' ∧ Keeps [g, eb] w w' ∧ 0 ≤ v ∧ v < 256 ∧ q ≤ q' ∧
    ((e = 0 ∧ q + n ≤ 8 * bs.length ∧ e' = 0 ∧ v = numB bs q n ∧ q' = q + n) ∨ ((e ≠ 0 ∨ 8 * bs.length < q + n) ∧ e' = 10))
theorem read1_any (w : World) (rb eb g : Nat) (A : Option Addr) (c q n : Nat) (e : Int) (bs : List Int) (h : Hd w rb eb g A c bs q e) (he : e = 0 ∨ e = 10) (hn : n ≤ 8) :
    Calls Tryd.prog 79 #[.int .i64 n, .pointer (some ⟨rb, 0, none⟩), .pointer (some ⟨eb, 0, none⟩)] w (TookP w rb eb g A c q n e bs) := by
  obtain ⟨n0, n1⟩ := numB_lt bs q n
  have n2 := pow_le8 n hn
  by_cases hf : q + n ≤ 8 * bs.length
  · refine (read1_ok w rb eb g A c bs q n e h (by omega) hf).mono ?_
    rintro r w' ⟨rfl, h1, h2⟩
    refine ⟨_, _, _, rfl, h1, h2, n0, by omega, by omega, ?_⟩
    rcases he with rfl | rfl
    · exact .inl ⟨rfl, hf, rfl, rfl, rfl⟩
    · exact .inr ⟨.inl (by decide), rfl⟩
  · refine (read1_end w rb eb g A c bs q n e h (by omega) (by omega)).mono ?_
    rintro r w' ⟨rfl, h1, h2⟩
    refine ⟨_, _, _, rfl, h1, h2, by omega, by omega, Nat.le_refl _, .inr ⟨.inr (by omega), ?_⟩⟩
    rcases he with rfl | rfl <;> rfl
theorem Keeps.under {S : List Nat} {w w1 w2 : World} {B : Nat} (h : Keeps S w w1) (hb : Below B w1 w2) (hB : w.heap.size ≤ B) : Keeps S w w2 :=
  ⟨hb.os.trans h.os, hb.tape.trans h.tape, hb.output.trans h.output, Nat.le_trans h.size hb.size, fun k hk hs => (hb.block k (by omega)).trans (h.block k hk hs)⟩
theorem Rdr.below {w w' : World} {B g : Nat} {A : Option Addr} {c : Nat} {bs : List Int} {p : Nat} (h : Rdr w g A c bs p) (hb : Below B w w') (hg : g < B) (ha : ∀ a, A = some a → a.block < B) : Rdr w' g A c bs p :=
  ⟨(hb.block g hg).trans h.blk, h.ri.below hb ha, h.off, h.le, h.byte, h.size⟩
theorem codes_moreP {T q q' i p o : Nat} {E E' v : Int} {bs cs : List Int}
    (hcL : cL bs (p + 14) (i + 1) = (cL bs (p + 14) i).set o (numB bs (p + 14 + 3 * i) 3))
    (hI : (p + 14 + 3 * i ≤ T ∧ E = 0 ∧ q = p + 14 + 3 * i ∧ cs = cL bs (p + 14) i) ∨ (T < p + 14 + 3 * i ∧ E = 10))
    (hc : (E = 0 ∧ q + 3 ≤ T ∧ E' = 0 ∧ v = numB bs q 3 ∧ q' = q + 3) ∨ ((E ≠ 0 ∨ T < q + 3) ∧ E' = 10)) :
    (E' = 0 ∨ E' = 10) ∧ ((p + 14 + 3 * (i + 1) ≤ T ∧ E' = 0 ∧ q' = p + 14 + 3 * (i + 1) ∧ cs.set o v = cL bs (p + 14) (i + 1)) ∨ (T < p + 14 + 3 * (i + 1) ∧ E' = 10)) := by
  refine ⟨by omega, ?_⟩
  rcases hI with ⟨a1, rfl, rfl, rfl⟩ | ⟨a1, rfl⟩
  · rcases hc with ⟨_, b1, rfl, rfl, rfl⟩ | ⟨b1, rfl⟩
    · exact .inl ⟨by omega, rfl, by omega, hcL.symm⟩
    · exact .inr ⟨by omega, rfl⟩
  · rcases hc with ⟨b0, _⟩ | ⟨_, rfl⟩
    · exact absurd b0 (by decide)
    · exact .inr ⟨by omega, rfl⟩
theorem keeps_ge {g eb : Nat} {w w1 w2 : World} (h : Keeps [g] w w1) (hk : Keeps [g, eb] w1 w2) (he : w.heap.size ≤ eb) : Keeps [g] w w2 := h.then hk (fun x hx => by
  rcases List.mem_cons.1 hx with rfl | hx
  · exact Or.inl (by simp)
  · rw [List.mem_singleton.1 hx]; exact Or.inr he)
/-- What the head's inner reading is to give. -/
def ReadP (w : World) (g : Nat) (A : Option Addr) (c : Nat) (bs : List Int) (p : Nat) (h : List Int × List Int × Nat × Int) (e : Ending) (w' : World) : Prop :=
  ∃ (v1 v2 : Value) (q : Nat), e = .returned (.tuple #[v1, v2, .int .i64 h.2.2.2]) ∧ w'.ownsRow w.heap.size 3 1 v1 h.1.length (ints .i64 h.1) ∧ w'.ownsRow w.heap.size 3 1 v2 h.2.1.length (ints .i64 h.2.1) ∧
    Rdr w' g A c bs q ∧ p ≤ q ∧ (h.2.2.2 = 0 → q = p + h.2.2.1) ∧ Keeps [g] w w'
theorem readP_err {w w' : World} {g : Nat} {A : Option Addr} {c : Nat} {bs : List Int} {p q : Nat} {h : List Int × List Int × Nat × Int} {e : Int} (hh : h = ([], [], 0, e)) (he : e ≠ 0) (hr : Rdr w' g A c bs q) (hp : p ≤ q) (hk : Keeps [g] w w') :
    ReadP w g A c bs p h (.returned (.tuple #[.slice none 0 0, .slice none 0 0, .int .i64 e])) w' := by
  subst hh
  exact ⟨_, _, q, rfl, World.ownsRow_nil _ _ _ _, World.ownsRow_nil _ _ _ _, hr, hp, fun h => absurd h he, hk⟩
set_option maxRecDepth 100000 in
set_option maxHeartbeats 4000000 in
theorem read_calls (w : World) (g : Nat) (A : Option Addr) (c : Nat) (bs : List Int) (p : Nat) (hT : Tabs w) (hg : gtop ≤ g) (hr : Rdr w g A c bs p) (ha : ∀ a, A = some a → a.block < w.heap.size) :
    Calls Tryd.prog 58 #[.pointer (some ⟨g, 0, none⟩)] w (ReadP w g A c bs p (headF bs p)) := by
  have hglt := hr.lt
  have hple := hr.le
  have hsz := hr.size
  obtain ⟨rb, hrb⟩ : ∃ x, x = w.heap.size := ⟨_, rfl⟩
  obtain ⟨eb, heb⟩ : ∃ x, x = w.heap.size + 1 := ⟨_, rfl⟩
  obtain ⟨w0, hw0⟩ : ∃ w0, w0 = (w.alloc (.cells #[.pointer (some ⟨g, 0, none⟩)] 38)).alloc (.cells #[.int .i64 0] 26) := ⟨_, rfl⟩
  have k1 : Keeps [] w w0 := by rw [hw0]; exact ((Keeps.refl [] w).alloc _).alloc _
  have H0 : Hid (Hd w0 rb eb g A c bs p 0) := by
    rw [hrb, heb, hw0]
    exact Lib.hid ⟨by rw [← hw0]; exact hr.dr k1, ⟨by simp, by simp⟩, ⟨by simp, by simp⟩, by omega, by omega, ha⟩
  have K0 := Lib.hid (k1.mono (by simp) : Keeps [g] w w0)
  have HT := Lib.hid hT
  have HRB : Hid (w.heap.size ≤ rb) := Lib.hid (by omega)
  have HEB : Hid (w.heap.size ≤ eb) := Lib.hid (by omega)
  have HA := Lib.hid ha
  have hre : rb < eb := by omega
  have hgr : g < rb := by omega
  clear hr ha hT k1
  go_enter Tryd.func58, Tryd.ntmps58
  go_wp2_with fail
  change Calls _ _ #[.int .i64 5, .pointer (some ⟨w.heap.size, 0, none⟩), .pointer (some ⟨w.heap.size + 1, 0, none⟩)] ((w.alloc (.cells #[.pointer (some ⟨g, 0, none⟩)] 38)).alloc (.cells #[.int .i64 0] 26)) _
  rw [← hw0, ← heb, ← hrb]
  clear hw0 hrb heb
  refine (read1_any _ _ _ _ _ _ p 5 0 bs H0.out (.inl rfl) (by omega)).mono ?_
  rintro _ w1 ⟨v1, q1, E1, rfl, hh1, hk1, v10, v11, hq1, hc1⟩
  have H1 := Lib.hid hh1
  have K1 := Lib.hid (K0.out.then hk1 (fun x hx => by
    rcases List.mem_cons.1 hx with rfl | hx
    · exact Or.inl (by simp)
    · rw [List.mem_singleton.1 hx]; exact Or.inr HEB.out))
  have hE1 : E1 = 0 ∨ E1 = 10 := by omega
  clear hh1 hk1 H0 K0
  go_wp2_with fail
  refine (read1_any _ _ _ _ _ _ q1 5 E1 bs H1.out hE1 (by omega)).mono ?_
  rintro _ w2 ⟨v2, q2, E2, rfl, hh1, hk1, v20, v21, hq2, hc2⟩
  have H2 := Lib.hid hh1
  have K2 := Lib.hid (K1.out.then hk1 (fun x hx => by
    rcases List.mem_cons.1 hx with rfl | hx
    · exact Or.inl (by simp)
    · rw [List.mem_singleton.1 hx]; exact Or.inr HEB.out))
  have hE2 : E2 = 0 ∨ E2 = 10 := by omega
  clear hh1 hk1 H1 K1
  go_wp2_with fail
  refine (read1_any _ _ _ _ _ _ q2 4 E2 bs H2.out hE2 (by omega)).mono ?_
  rintro _ w3 ⟨v3, q3, E3, rfl, hh1, hk1, v30, v31, hq3, hc3⟩
  have H3 := Lib.hid hh1
  have K3 := Lib.hid (K2.out.then hk1 (fun x hx => by
    rcases List.mem_cons.1 hx with rfl | hx
    · exact Or.inl (by simp)
    · rw [List.mem_singleton.1 hx]; exact Or.inr HEB.out))
  have hpq : p ≤ q3 := by omega
  have HC : Hid ((p + 14 ≤ 8 * bs.length ∧ E3 = 0 ∧ v1 = numB bs p 5 ∧ v2 = numB bs (p + 5) 5 ∧ v3 = numB bs (p + 10) 4 ∧ q3 = p + 14) ∨ (8 * bs.length < p + 14 ∧ E3 = 10)) := by
    rcases hc1 with ⟨_, a1, rfl, rfl, rfl⟩ | ⟨a1, rfl⟩
    · rcases hc2 with ⟨_, a2, rfl, rfl, rfl⟩ | ⟨a2, rfl⟩
      · rcases hc3 with ⟨_, a3, rfl, rfl, rfl⟩ | ⟨a3, rfl⟩
        · exact Lib.hid (.inl ⟨by omega, rfl, rfl, rfl, rfl, rfl⟩)
        · exact Lib.hid (.inr ⟨by omega, rfl⟩)
      · exact Lib.hid (.inr ⟨by omega, by omega⟩)
    · exact Lib.hid (.inr ⟨by omega, by omega⟩)
  clear hh1 hk1 H2 K2 hc1 hc2 hc3 hE1 hE2 hq1 hq2 hq3
  have ce := H3.out.bxe.cell
  have fe := H3.out.bxe.free
  rcases HC.out with ⟨hfit, rfl, hv1, hv2, hv3, rfl⟩ | ⟨hend, rfl⟩
  · clear HC
    have HV1 := Lib.hid hv1
    have HV2 := Lib.hid hv2
    have HV3 := Lib.hid hv3
    clear hv1 hv2 hv3
    by_cases hb1 : 286 < 257 + v1
    · have HRES : Hid (headF bs p = ([], [], 0, 40)) := Lib.hid (by unfold headF; rw [if_neg (by omega), if_pos (by left; have := HV1.out; omega)])
      have e1 : decide (286 < 257 + v1) = true := by simpa using hb1
      go_wp2_with fail
      have H4 := H3.out.set 40
      have c4 := H4.bxe.cell
      exact bodyPost_ret (v := .tuple #[.slice none 0 0, .slice none 0 0, .int .i64 40]) (by simp [results, Tryd.results58, go_sem, c4]) rfl (readP_err HRES.out (by first | decide | assumption) H4.rd hpq (K3.out.setCell (p := ⟨eb, 0, none⟩) (Or.inr HEB.out) _))
    have e1 : decide (286 < 257 + v1) = false := by simpa using hb1
    by_cases hb2 : 30 < 1 + v2
    · have HRES : Hid (headF bs p = ([], [], 0, 40)) := Lib.hid (by unfold headF; rw [if_neg (by omega), if_pos (by right; have := HV2.out; omega)])
      have e2 : decide (30 < 1 + v2) = true := by simpa using hb2
      go_wp2_with fail
      have H4 := H3.out.set 40
      have c4 := H4.bxe.cell
      exact bodyPost_ret (v := .tuple #[.slice none 0 0, .slice none 0 0, .int .i64 40]) (by simp [results, Tryd.results58, go_sem, c4]) rfl (readP_err HRES.out (by first | decide | assumption) H4.rd hpq (K3.out.setCell (p := ⟨eb, 0, none⟩) (Or.inr HEB.out) _))
    have e2 : decide (30 < 1 + v2) = false := by simpa using hb2
    have HNB : Hid (¬ (29 < numB bs p 5 ∨ 29 < numB bs (p + 5) 5)) := Lib.hid (by have := HV1.out; have := HV2.out; omega)
    obtain ⟨mn, hmn⟩ : ∃ mn, mn = manyF bs p := ⟨_, rfl⟩
    have hmn2 : 4 + v3 = (mn : Int) := by rw [hmn]; unfold manyF; rw [← HV3.out]; omega
    have hmn3 : mn ≤ 19 := by rw [hmn]; exact manyF_le bs p
    have HMN := Lib.hid hmn
    obtain ⟨lit, hlit⟩ : ∃ x, x = litF bs p := ⟨_, rfl⟩
    obtain ⟨dist, hdist⟩ : ∃ x, x = distF bs p := ⟨_, rfl⟩
    have hl2 : 257 + v1 = (lit : Int) := by rw [hlit]; unfold litF; rw [← HV1.out]; omega
    have hd2 : 1 + v2 = (dist : Int) := by rw [hdist]; unfold distF; rw [← HV2.out]; omega
    have hlb : lit ≤ 286 := by omega
    have hdb : dist ≤ 30 := by omega
    have hd1 : 1 ≤ dist := by omega
    have HLI := Lib.hid hlit
    have HDI := Lib.hid hdist
    clear hmn hlit hdist HV1 HV2 HV3
    have e1' : decide (286 < (lit : Int)) = false := by simp; omega
    have e2' : decide (30 < (dist : Int)) = false := by simp; omega
    clear e1 e2 v10 v11 v20 v21 hb1 hb2
    have hmk := fun w => make_ints (P := Tryd.prog) w 22 3 .i64 8 Tryd.underlying22 info_int 19 19 rfl (by omega) (by omega)
    obtain ⟨gc, hgc⟩ : ∃ x, x = w3.heap.size := ⟨_, rfl⟩
    obtain ⟨w4, hw4⟩ : ∃ x, x = w3.alloc (.cells (ints .i64 (List.replicate 19 0)).toArray 3) := ⟨_, rfl⟩
    have hk4 : Keeps [] w3 w4 := by rw [hw4]; exact (Keeps.refl [] w3).alloc _
    have HC4 : Hid (Blk w4 gc 3 (ints .i64 (cL bs (p + 14) 0))) := by rw [hw4, hgc]; exact Lib.hid (blk_new w3 _ _)
    have H4 := Lib.hid (H3.out.keeps hk4 (by simp) (by simp) (by simp) (off_nil _))
    have K4 := Lib.hid (K3.out.trans (hk4.mono (by simp)))
    have hgce : eb < gc := by have := H3.out.bxe.lt; omega
    have hgcg : gc ≠ g := by omega
    have HGC : Hid (w.heap.size ≤ gc) := Lib.hid (by have := HEB.out; omega)
    clear hk4 H3 K3
    have hsl := fun w => slice_arr w 1 mn hmn3
    go_upto_region 10 with (fail)
    change Code.wp _ _ _ _ (w3.alloc (.cells (ints .i64 (List.replicate 19 0)).toArray 3))
    rw [← hw4, ← hgc]
    clear hw4 hgc hmk
    go_wp2_with fail
    go_loopw [43] (fun iv wr => ∃ (i q : Nat) (E : Int) (cs : List Int), i ≤ mn ∧ iv = .int .i64 i ∧ cs.length = 19 ∧ p ≤ q ∧ (E = 0 ∨ E = 10) ∧ Hid ((p + 14 + 3 * i ≤ 8 * bs.length ∧ E = 0 ∧ q = p + 14 + 3 * i ∧ cs = cL bs (p + 14) i) ∨ (8 * bs.length < p + 14 + 3 * i ∧ E = 10)) ∧
      Hid (Blk wr gc 3 (ints .i64 cs)) ∧ Hid (Hd wr rb eb g A c bs q E) ∧ Hid (Keeps [g] w wr)) (fun iv _ => mn - (intOf iv).toNat)
    case atStart => exact ⟨0, p + 14, 0, cL bs (p + 14) 0, by omega, rfl, cL_len _ _ _, by omega, .inl rfl, Lib.hid (.inl ⟨by omega, rfl, rfl, rfl⟩), HC4, H4, K4⟩
    case round =>
      clear HC4 H4 K4
      obtain ⟨i, q, E, cs, hi, rfl, hcl, hq, hE, HI, HC, H, HK⟩ := hrel
      by_cases hlt : i < mn
      · have e0 : decide (i < mn) = true := by simpa using hlt
        obtain ⟨o0, o1⟩ := order_lt i (by omega)
        have ho := (HT.out.keeps HK.out (fun x hx => by rw [List.mem_singleton.1 hx]; exact hg)).ord.cell _ _ rfl i (by omega)
        rw [Nat.zero_add] at ho
        have HCL : Hid (cL bs (p + 14) (i + 1) = (cL bs (p + 14) i).set (nth orderL i).toNat (numB bs (p + 14 + 3 * i) 3)) := Lib.hid rfl
        obtain ⟨o, hoo⟩ : ∃ o : Nat, nth orderL i = o := ⟨(nth orderL i).toNat, by omega⟩
        rw [hoo] at ho o1 HCL
        rw [Int.toNat_natCast] at HCL
        have ho19 : o < 19 := by omega
        clear hoo o0 o1
        go_wp2_with fail
        refine (read1_any _ _ _ _ _ _ q 3 E bs H.out hE (by omega)).mono ?_
        rintro _ w5 ⟨v, q', E', rfl, hh5, hk5, hv0, hv1, hq', hc'⟩
        have hb5 := HC.out.keeps hk5 (by simp; omega)
        have hc5 := hb5.cell o
        rw [show (ints .i64 cs)[o]? = some (.int .i64 (nth cs o)) by rw [ints_getElem?]; simp [nth, List.getD, show o < cs.length by omega]] at hc5
        have hf5 := hb5.frozen o
        obtain ⟨hE', hI'⟩ := codes_moreP HCL.out HI.out hc'
        have HI' := Lib.hid hI'
        have ks : Keeps [gc] w5 (w5.setCell ⟨gc, o, none⟩ (.int .i64 v)) := (Keeps.refl [gc] w5).setCell (p := ⟨gc, o, none⟩) (Or.inl (by simp)) _
        have HC' : Hid (Blk (w5.setCell ⟨gc, o, none⟩ (.int .i64 v)) gc 3 (ints .i64 (cs.set o v))) := Lib.hid (by
          have := hb5.set o (.int .i64 v)
          rwa [show (ints .i64 cs).set o (.int .i64 v) = ints .i64 (cs.set o v) by simp [ints, List.map_set]] at this)
        have H' := Lib.hid (hh5.keeps ks (by simpa using Ne.symm hgcg) (by simp; omega) (by simp; omega) (fun a ha hm => by have := HA.out a ha; rw [List.mem_singleton.1 hm] at this; have := HGC.out; omega))
        have HK' := Lib.hid ((keeps_ge HK.out hk5 HEB.out).setCell (p := ⟨gc, o, none⟩) (Or.inr HGC.out) (.int .i64 v))
        clear hh5 hk5 hb5 hI' hc' ks HC H HK HI HCL ho
        go_wp2_with fail
        go_roundw
        case rel => exact ⟨i + 1, q', E', cs.set o v, by omega, by go_num, by rw [List.length_set]; exact hcl, by omega, hE', HI', HC', H', HK'⟩
        case measure => simp [intOf]; omega
      · obtain rfl : i = mn := by omega
        have e0 : decide (i < i) = false := by simp
        have ce := H.out.bxe.cell
        have fe := H.out.bxe.free
        rcases HI.out with ⟨hf3, rfl, rfl, rfl⟩ | ⟨hend, rfl⟩
        · clear HI
          obtain ⟨cd, hcd⟩ : ∃ cd, cd = cL bs (p + 14) i := ⟨_, rfl⟩
          have hcl' : cd.length = 19 := by rw [hcd]; exact cL_len _ _ _
          have HCD : Hid (cd = codesH bs p) := Lib.hid (by rw [hcd]; unfold codesH; rw [← HMN.out])
          rw [← hcd] at HC
          have HCR : Hid (RI .i64 wr (some ⟨gc, 0, none⟩) 19 cd) := Lib.hid (by
            have := Blk.ri (xs := cd) (ys := []) (by rw [List.append_nil]; exact HC.out)
            rwa [hcl'] at this)
          have HF3 : Hid (¬ (8 * bs.length < p + 14 + 3 * manyF bs p)) := Lib.hid (by rw [← HMN.out]; omega)
          have HQ : Hid (p + 14 + 3 * i = p + 14 + 3 * manyF bs p) := Lib.hid (by rw [← HMN.out])
          have HF1 : Hid (¬ 8 * bs.length < p + 14) := Lib.hid (by omega)
          clear hcd HC hcl
          obtain ⟨wc, hwc⟩ : ∃ x : World, x = wr := ⟨_, rfl⟩
          rw [← hwc] at H HK HCR ce fe ⊢
          clear hwc
          go_wp2_with fail
          refine (new_calls wc _ _ _ cd HCR.out (by omega)).mono ?_
          rintro e w6 ⟨hb6, hmade⟩
          have hk6 := Keeps.of_below hb6 (S := [])
          have H6 := Lib.hid (H.out.keeps hk6 (by simp) (by simp) (by simp) (off_nil _))
          have K6 := Lib.hid (HK.out.trans (hk6.mono (by simp)))
          have c6 := H6.out.bxe.cell
          have f6 := H6.out.bxe.free
          have hgd : g < wc.heap.size := H.out.rd.lt
          have hebd : eb < wc.heap.size := H.out.bxe.lt
          clear ce fe H HK HCR hb6 hk6
          by_cases hck : checkF cd = 0
          · rw [if_pos hck] at hmade
            obtain ⟨gd, rfl, hd, hgd2⟩ := hmade
            have HCK := Lib.hid hck
            obtain ⟨w7, hw7⟩ : ∃ x, x = w6.setCell ⟨eb, 0, none⟩ (.int .i64 0) := ⟨_, rfl⟩
            have hk7 : Keeps [eb] w6 w7 := by rw [hw7]; exact (Keeps.refl [eb] w6).setCell (p := ⟨eb, 0, none⟩) (Or.inl (by simp)) _
            have H7 : Hid (Hd w7 rb eb g A c bs (p + 14 + 3 * i) 0) := by rw [hw7]; exact Lib.hid (H6.out.set 0)
            have K7 : Hid (Keeps [g] w w7) := by rw [hw7]; exact Lib.hid (K6.out.setCell (p := ⟨eb, 0, none⟩) (Or.inr HEB.out) _)
            have D7 := Lib.hid (Dec.apart (gr := g) (show Dec w7 gd cd from DSt.keeps hd hk7 (fun x hx => by rw [List.mem_singleton.1 hx]; exact Or.inl (by omega))) (by omega))
            have T7 := Lib.hid (HT.out.keeps K7.out (fun x hx => by rw [List.mem_singleton.1 hx]; exact hg))
            obtain ⟨b0, hb0⟩ : ∃ x, x = w7.heap.size := ⟨_, rfl⟩
            have c7 := H7.out.bxe.cell
            obtain ⟨N, hN⟩ : ∃ N, N = lit + dist := ⟨_, rfl⟩
            have HRR0 : Hid (readR bs p = stepsF cd bs N N [] (p + 14 + 3 * i)) := Lib.hid (by
              unfold readR
              rw [← HCD.out, HQ.out, hN, HLI.out, HDI.out])
            have hNb : N ≤ 316 := by omega
            have hN3 : IntKind.i64.wrap ((lit : Int) + (dist : Int)) = (N : Int) := by rw [show (lit : Int) + (dist : Int) = (N : Int) by omega]; exact IntWalk.i64_in _ (by omega)
            have hLN : lit < N := by omega
            have HE1 : Hid (∀ e, (readR bs p).2.2 = e → e ≠ 0 → headF bs p = ([], [], 0, e)) := Lib.hid (fun e h he => head_err HF1.out HNB.out HF3.out (by rw [← HCD.out]; exact HCK.out) h he)
            have HE2 : Hid (∀ l q, readR bs p = (l, q, 0) → headF bs p = (l.take lit, l.drop lit, q - p, 0)) := Lib.hid (fun l q h => by rw [HLI.out]; exact head_ok HF1.out HNB.out HF3.out (by rw [← HCD.out]; exact HCK.out) h)
            have hpi : p ≤ p + 14 + 3 * i := by omega
            have hb0w : w.heap.size ≤ b0 := by rw [hb0]; exact K7.out.size
            have hb0g : g < b0 := by omega
            have hb0e : eb < b0 := by rw [hb0]; exact H7.out.bxe.lt
            have HW7 : Hid (Keeps [g] w7 w7) := Lib.hid (Keeps.refl _ _)
            clear hN hck hd hk7 e1' e2' hl2 hd2 hmn2 HF3 HQ HCD HLI HDI HNB HMN H6 K6 HF1
            go_wp2_with fail
            rw [← hw7]
            clear hw7
            go_loopw [13] (fun lv wr => ∃ (f q len cc : Nat) (l : List Int) (AL : Option Addr), lv = .slice AL len cc ∧ len ≤ N ∧ N ≤ len + f ∧ p ≤ q ∧ Hid (readR bs p = stepsF cd bs N f l q) ∧ Hid (wr.ownsRow b0 3 1 (.slice AL len cc) len (ints .i64 l)) ∧
              Hid (Rdr wr g A c bs q) ∧ Hid (Keeps [g] w7 wr)) (fun lv _ => N - sLen lv)
            case atStart => exact ⟨N, p + 14 + 3 * i, 0, 0, [], none, rfl, by omega, by omega, hpi, HRR0, Lib.hid (World.ownsRow_nil _ _ _ _), Lib.hid H7.out.rd, HW7⟩
            case round =>
              clear HRR0 HW7
              obtain ⟨f, q, len, cc, l, AL, rfl, hlen, hf, hpq', HRD, HLO, HR, HK⟩ := hrel
              have HLEN : Hid (l.length = len) := Lib.hid (by have := HLO.out.1; simpa [ints] using this)
              by_cases hlt2 : len < N
              · have e4 : decide ((len : Int) < (N : Int)) = true := by simp; omega
                obtain ⟨f', rfl⟩ : ∃ f', f = f' + 1 := ⟨f - 1, by omega⟩
                have HUN : Hid (readR bs p = if (decF cd bs q).2.1 ≠ 0 then ([], q, (decF cd bs q).2.1)
                    else if 8 * bs.length < q + (decF cd bs q).2.2 + wN (decF cd bs q).1 then ([], q, 10)
                    else match addF l (decF cd bs q).1 (numB bs (q + (decF cd bs q).2.2) (wN (decF cd bs q).1)) N with
                      | none => ([], q, 41)
                      | some l' => stepsF cd bs N f' l' (q + (decF cd bs q).2.2 + wN (decF cd bs q).1)) := Lib.hid (by
                  rw [HRD.out, stepsF, if_neg (by rw [HLEN.out]; omega)]
                  rfl)
                have hqT := HR.out.le
                clear HRD
                obtain ⟨wl, hwl⟩ : ∃ x : World, x = wr := ⟨_, rfl⟩
                rw [← hwl] at HLO HR HK ⊢
                clear hwl
                have kr := (H7.out.bxr.keeps HK.out (by simp; omega)).cell
                go_wp2_with fail
                refine (nextN_calls wl gd g cd A c bs q (D7.out.keeps HK.out (fun x hx => List.mem_singleton.1 hx)) HR.out (by omega)).mono ?_
                rintro _ w8 ⟨rfl, hr8, hk8⟩
                have HK8 := Lib.hid (HK.out.trans hk8)
                have HLO8 := Lib.hid (own_keeps HLO.out hk8 (fun x hx hm => by have := (HLO.out.lt x hx).1; rw [List.mem_singleton.1 hm] at this; omega))
                have HR8 := Lib.hid hr8
                have HBD := Lib.hid (dec_bd cd bs q hqT)
                clear hr8 hk8 HR HK HLO kr
                generalize decF cd bs q = d at *
                obtain ⟨sy0, er, k⟩ := d
                have HR8' : Hid (Rdr w8 g A c bs (q + k)) := HR8
                simp only [] at HBD HUN
                have b8 := H7.out.bxe.keeps HK8.out (by simp; omega)
                have ce8 := b8.cell
                have fe8 := b8.free
                have hse : ∀ (W : World) (e : Int), Keeps [eb] W (W.setCell ⟨eb, 0, none⟩ (.int .i64 e)) := fun W e => (Keeps.refl [eb] W).setCell (p := ⟨eb, 0, none⟩) (Or.inl (by simp)) _
                have hoE : Off [eb] A := fun a ha hm => by have := HA.out a ha; rw [List.mem_singleton.1 hm] at this; have := HEB.out; omega
                have hge : g ∉ [eb] := by simp; omega
                by_cases her : er = 0
                · subst her
                  obtain ⟨j, rfl, hj, hpk⟩ : ∃ j : Nat, sy0 = j ∧ j < 19 ∧ q + k ≤ 8 * bs.length := by
                    rcases HBD.out with ⟨_, j, h1, h2, h3⟩ | ⟨h, _⟩
                    · exact ⟨j, h1, by omega, h3⟩
                    · exact absurd rfl h
                  clear HBD HR8
                  have kr := (H7.out.bxr.keeps HK8.out (by simp; omega)).cell
                  have kw := (T7.out.keeps HK8.out (fun x hx => by rw [List.mem_singleton.1 hx]; exact hg)).wid.cell _ _ rfl j (by omega)
                  rw [Nat.zero_add, wN_tab j hj] at kw
                  have hw7 := wN_le (j : Int)
                  obtain ⟨W, hW⟩ : ∃ W, W = wN (j : Int) := ⟨_, rfl⟩
                  rw [← hW] at kw hw7 HUN
                  have s1 : (j : Int) < 19 := by omega
                  have s2 : (0 : Int) ≤ (j : Int) := by omega
                  have s3 : IntKind.i64.wrap (j : Int) = (j : Int) := IntWalk.i64_in _ (by omega)
                  clear hW
                  by_cases hov : 8 * bs.length < q + k + W
                  · have HRES := Lib.hid (HE1.out 10 (by rw [HUN.out, if_neg (by simp), if_pos hov]) (by decide))
                    clear HUN
                    go_wp2_with fail
                    go_region_with (first | (go_at_call 49; refine (take_end _ g A c bs (q + k) W (HR8'.out.dr (Keeps.refl [] w8).drew) (by omega) (by omega)).mono ?_; rintro _ w9 ⟨rfl, hd9⟩))
                    all_goals (
                      have HK9 := HK8.out.trans (((Keeps.refl [g] w8).drew).trans (hd9.keeps (S := [g])))
                      have HR9 := (HR8'.out.dr (Keeps.refl [] w8).drew).dr (hd9.keeps (S := []))
                      have b9 := H7.out.bxe.keeps HK9 (by simp; omega)
                      have ce9 := b9.cell
                      have fe9 := b9.free
                      go_wp2_with fail
                      have c4 := (b9.set (.int .i64 10)).cell
                      exact bodyPost_ret (v := .tuple #[.slice none 0 0, .slice none 0 0, .int .i64 10]) (by simp [results, Tryd.results58, go_sem, c4]) rfl (readP_err HRES.out (by decide) (HR9.keeps (hse _ _) hge hoE) (by omega) ((K7.out.trans HK9).setCell (p := ⟨eb, 0, none⟩) (Or.inr HEB.out) _)))
                  · have HUN2 : Hid (readR bs p = match addF l (j : Int) (numB bs (q + k) W) N with
                      | none => ([], q, 41)
                      | some l' => stepsF cd bs N f' l' (q + k + W)) := Lib.hid (by rw [HUN.out, if_neg (by simp), if_neg hov])
                    clear HUN
                    obtain ⟨n0, n1⟩ := numB_lt bs (q + k) W
                    have n2 := pow_le8 W (by omega)
                    have hex : Hid (numB bs (q + k) W = numB bs (q + k) W) := Lib.hid rfl
                    have e5 : IntKind.i64.wrap (numB bs (q + k) W) = numB bs (q + k) W := IntWalk.i64_in _ (by omega)
                    go_wp2_with fail
                    go_region_with (first | (go_at_call 49; refine (take_calls _ g A c bs (q + k) W (HR8'.out.dr (Keeps.refl [] w8).drew) (by omega) (by omega)).mono ?_; rintro _ w9 ⟨rfl, hr9, hk9⟩))
                    all_goals (
                      have HK9 := Lib.hid (HK8.out.trans (((Keeps.refl [g] w8).drew).trans hk9))
                      have HR9 := Lib.hid hr9
                      have HLO9 := Lib.hid (own_keeps HLO8.out (((Keeps.refl [g] w8).drew).trans hk9) (fun x hx hm => by have := (HLO8.out.lt x hx).1; rw [List.mem_singleton.1 hm] at this; omega))
                      have HT9 := Lib.hid (T7.out.keeps HK9.out (fun x hx => by rw [List.mem_singleton.1 hx]; exact hg))
                      have hb9 : b0 ≤ w9.heap.size := by rw [hb0]; exact HK9.out.size
                      clear hr9 hk9 HK8 HLO8 HR8' kr kw ce8 fe8 b8 hov
                      generalize numB bs (q + k) W = ex at *
                      generalize hqq : q + k + W = q2 at *
                      have hpq2 : p ≤ q2 := by omega
                      go_wp2_with fail
                      refine (add_calls w9 b0 len _ l j ex N hb9 HT9.out HLO9.out (by omega)).mono ?_
                      intro e w10 hv
                      have hw70 : w7.heap.size ≤ b0 := by omega
                      have hAb : ∀ a, A = some a → a.block < b0 := fun a ha => by have := HA.out a ha; omega
                      cases haf : addF l (j : Int) ex N with
                      | none =>
                        rw [haf] at hv
                        obtain ⟨rfl, hb10⟩ := hv
                        have HRES := Lib.hid (HE1.out 41 (by rw [HUN2.out, haf]) (by decide))
                        have HK10 := HK9.out.under hb10 hw70
                        have HR10 := HR9.out.below hb10 hb0g hAb
                        have b10 := H7.out.bxe.keeps HK10 (by simp; omega)
                        have ce10 := b10.cell
                        have fe10 := b10.free
                        go_wp2_with fail
                        have c4 := (b10.set (.int .i64 41)).cell
                        exact bodyPost_ret (v := .tuple #[.slice none 0 0, .slice none 0 0, .int .i64 41]) (by simp [results, Tryd.results58, go_sem, c4]) rfl (readP_err HRES.out (by decide) (HR10.keeps (hse _ _) hge hoE) (by omega) ((K7.out.trans HK10).setCell (p := ⟨eb, 0, none⟩) (Or.inr HEB.out) _))
                      | some l' =>
                        rw [haf] at hv
                        obtain ⟨v10, rfl, ho10, hb10⟩ := hv
                        obtain ⟨g1, g2, -⟩ := addF_grows haf
                        obtain ⟨A10, c10, rfl⟩ := own_form' ho10
                        have HRD10 : Hid (readR bs p = stepsF cd bs N f' l' q2) := Lib.hid (by rw [HUN2.out, haf])
                        have HK10 := Lib.hid (HK9.out.under hb10 hw70)
                        have HR10 := Lib.hid (HR9.out.below hb10 hb0g hAb)
                        have HLO10 := Lib.hid ho10
                        have hlen' := HLEN.out
                        clear ho10 hb10 HK9 HR9 HLO9 HT9 HUN2
                        go_wp2_with fail
                        go_roundw
                        case rel => exact ⟨f', q2, l'.length, c10, l', A10, rfl, by omega, by omega, hpq2, HRD10, HLO10, HR10, HK10⟩
                        case measure => simp [sLen]; omega)
                · have HRES := Lib.hid (HE1.out er (by rw [HUN.out, if_pos her]) her)
                  have e5 : (er != 0) = true := by simpa using her
                  clear HUN HBD
                  go_wp2_with fail
                  have c4 := (b8.set (.int .i64 er)).cell
                  exact bodyPost_ret (v := .tuple #[.slice none 0 0, .slice none 0 0, .int .i64 er]) (by simp [results, Tryd.results58, go_sem, c4]) rfl (readP_err HRES.out her (HR8'.out.keeps (hse _ _) hge hoE) (by omega) ((K7.out.trans HK8.out).setCell (p := ⟨eb, 0, none⟩) (Or.inr HEB.out) _))
              · obtain rfl : len = N := by omega
                have e4 : decide ((len : Int) < (len : Int)) = false := by simp
                have HRES := Lib.hid (HE2.out l q (by rw [HRD.out, stepsF_done _ _ _ _ _ _ (by rw [HLEN.out]; omega)]))
                obtain ⟨A9, c9, hv9, hri9, hcap9, -, -, hbk9⟩ := own_full HLO.out
                injection hv9 with hv1 hv2 hv3
                subst hv1
                subst hv3
                obtain ⟨ab, ao, rfl⟩ := hri9.hd (by omega)
                have hr0 := hri9.keeps (Keeps.refl [] wr).drew (off_nil _)
                have hr1 : RI .i64 wr.drew (some ⟨ab, ao, none⟩) lit (l.take lit) := hr0.take (by omega)
                have hl2' : (l.drop lit).length = len - lit := by rw [List.length_drop, HLEN.out]
                have hr2 : RI .i64 wr.drew (some ⟨ab, ao + lit, none⟩) (len - lit) (l.drop lit) := ⟨hl2', fun _ => ⟨_, _, rfl⟩, fun b' o' ha j hj => by
                  injection ha with ha; injection ha with h1 h2 h3; subst h1; subst h2
                  have := hr0.cell ab ao rfl (lit + j) (by omega)
                  rw [show ao + lit + j = ao + (lit + j) by omega, this]
                  simp [nth, List.getD]⟩
                have HR1 := Lib.hid hr1
                have HR2 := Lib.hid hr2
                have t2 : (0 : Int) ≤ (lit : Int) := by omega
                have t3 : (lit : Int) ≤ (len : Int) := by omega
                have t4 : (lit : Int) ≤ (cc : Int) := by omega
                have t5 : lit ≤ len := by omega
                have t6 : lit ≤ cc := by omega
                have t7 : ¬ cc = lit := by omega
                have t8 : ¬ lit = cc := by omega
                have hwlt : w7.heap.size ≤ wr.heap.size := HK.out.size
                have b8 := H7.out.bxe.keeps HK.out (by simp; omega)
                have HB8 := Lib.hid b8
                clear HRD hri9 hv2 hr0 hr1 hr2 b8
                go_wp2_with fail
                go_region_with (first
                  | (go_at_call_of 82 (some (Addr.mk ab ao none)); refine (cloneI_calls _ _ _ _ (l.take lit) (by first | exact HR1.out | exact HR1.out.keeps (Keeps.of_below hbB) (off_nil _)) (by simp) (by intro ad h; exact ⟨_, _, (Option.some.inj h).symm⟩) (by omega)).mono ?_; rintro _ wA ⟨vA, rfl, hoA, hbA⟩; have bxA : Box wA eb (.int .i64 0) := (by first | exact HB8.out.keeps ((Keeps.refl [] wr).drew.trans (Keeps.of_below hbA)) (by simp) | exact bxB.keeps (Keeps.of_below (S := []) hbA) (by simp)); have ceA := bxA.cell; have feA := bxA.free)
                  | (go_at_call_of 82 (some (Addr.mk ab (ao + lit) none)); refine (cloneI_calls _ _ _ _ (l.drop lit) (by first | exact HR2.out | exact HR2.out.keeps (Keeps.of_below hbA) (off_nil _)) (by simp) (by intro ad h; exact ⟨_, _, (Option.some.inj h).symm⟩) (by omega)).mono ?_; rintro _ wB ⟨vB, rfl, hoB, hbB⟩; have bxB : Box wB eb (.int .i64 0) := (by first | exact HB8.out.keeps ((Keeps.refl [] wr).drew.trans (Keeps.of_below hbB)) (by simp) | exact bxA.keeps (Keeps.of_below (S := []) hbB) (by simp)); have ceB := bxB.cell; have feB := bxB.free))
                all_goals (
                  have kA : Keeps [] wr wA := (Keeps.refl [] wr).drew.trans (Keeps.of_below hbA)
                  have kB : Keeps [] wA wB := Keeps.of_below hbB
                  have hwr : wr.heap.size ≤ wA.heap.size := kA.size
                  have hebw : eb < wr.heap.size := by omega
                  have kS : Keeps [eb] wB (wB.setCell ⟨eb, 0, none⟩ (.int .i64 0)) := (Keeps.refl [eb] wB).setCell (p := ⟨eb, 0, none⟩) (Or.inl (by simp)) _
                  have oA := own_keeps (own_keeps hoA kB (by simp)) kS (fun x hx hm => by
                    have h1 := (hoA.lt x hx).1
                    rw [List.mem_singleton.1 hm] at h1
                    have h2 : wr.heap.size ≤ eb := h1
                    omega)
                  have oB := own_keeps hoB kS (fun x hx hm => by
                    have h1 := (hoB.lt x hx).1
                    rw [List.mem_singleton.1 hm] at h1
                    omega)
                  have hR := (((HR.out.dr kA).dr kB).keeps kS (by simp; omega) (fun a ha hm => by have := HA.out a ha; rw [List.mem_singleton.1 hm] at this; have := HEB.out; omega))
                  have hKK : Keeps [g] w (wB.setCell ⟨eb, 0, none⟩ (.int .i64 0)) := (((K7.out.trans HK.out).trans (kA.mono (by simp))).trans (kB.mono (by simp))).setCell (p := ⟨eb, 0, none⟩) (Or.inr HEB.out) _
                  have hww : w.heap.size ≤ wr.heap.size := by omega
                  have c4 := (bxB.set (.int .i64 0)).cell
                  have hl1 : (l.take lit).length = lit := by rw [List.length_take, HLEN.out]; omega
                  go_wp2_with fail
                  refine bodyPost_ret (v := .tuple #[vA, vB, .int .i64 0]) (by simp [results, Tryd.results58, go_sem, c4]) rfl ?_
                  rw [HRES.out]
                  exact ⟨vA, vB, q, rfl, by rw [hl1]; exact oA.mono hww, by rw [hl2']; exact oB.mono (by omega), hR, hpq', fun _ => by simp only []; omega, hKK⟩)
          · rw [if_neg hck] at hmade
            subst hmade
            have HRES : Hid (headF bs p = ([], [], 0, checkF cd)) := Lib.hid (by unfold headF; rw [if_neg HF1.out, if_neg HNB.out, if_neg HF3.out, ← HCD.out, if_pos hck])
            have e3 : (checkF cd != 0) = true := by simpa using hck
            generalize checkF cd = er at *
            go_wp2_with fail
            go_region
            go_wp2_with fail
            have H8 := (((H6.out.set er).set er).keeps (Keeps.refl [] _).drew (by simp) (by simp) (by simp) (off_nil _))
            have c4 := H8.bxe.cell
            exact bodyPost_ret (v := .tuple #[.slice none 0 0, .slice none 0 0, .int .i64 er]) (by simp [results, Tryd.results58, go_sem, c4]) rfl (readP_err HRES.out hck H8.rd (by omega) ((K6.out.setCell (p := ⟨eb, 0, none⟩) (Or.inr HEB.out) _).setCell (p := ⟨eb, 0, none⟩) (Or.inr HEB.out) _).drew)

        · have HRES : Hid (headF bs p = ([], [], 0, 10)) := Lib.hid (by unfold headF; rw [if_neg (by omega), if_neg HNB.out, ← HMN.out, if_pos hend])
          clear HI
          go_wp2_with fail
          go_region
          go_wp2_with fail
          have H5 := (H.out.set 10).keeps (Keeps.refl [] _).drew (by simp) (by simp) (by simp) (off_nil _)
          have c4 := H5.bxe.cell
          exact bodyPost_ret (v := .tuple #[.slice none 0 0, .slice none 0 0, .int .i64 10]) (by simp [results, Tryd.results58, go_sem, c4]) rfl (readP_err HRES.out (by first | decide | assumption) H5.rd hq (HK.out.setCell (p := ⟨eb, 0, none⟩) (Or.inr HEB.out) _).drew)
  · have HRES : Hid (headF bs p = ([], [], 0, 10)) := Lib.hid (by unfold headF; rw [if_pos hend])
    clear HC
    go_wp2_with fail
    go_region
    go_wp2_with fail
    have H4 := (H3.out.set 10).keeps (Keeps.refl [] _).drew (by simp) (by simp) (by simp) (off_nil _)
    have c4 := H4.bxe.cell
    exact bodyPost_ret (v := .tuple #[.slice none 0 0, .slice none 0 0, .int .i64 10]) (by simp [results, Tryd.results58, go_sem, c4]) rfl (readP_err HRES.out (by first | decide | assumption) H4.rd hpq (K3.out.setCell (p := ⟨eb, 0, none⟩) (Or.inr HEB.out) _).drew)
end Go.Proofs.YtcblibefmclloaaDoor

set_option linter.unusedVariables false
set_option linter.unusedSimpArgs false
namespace Go.Proofs.YtcblibefmclloaaDoor
open Go.RowKit
theorem headF_n {bs : List Int} {p : Nat} (h : (headF bs p).2.2.2 ≠ 0) : (headF bs p).2.2.1 = 0 := by
  unfold headF at h ⊢
  split
  · rfl
  split
  · rfl
  split
  · rfl
  split
  · rfl
  split
  · rfl
  · next h1 h2 h3 h4 h5 =>
    rw [if_neg h1, if_neg h2, if_neg h3, if_neg h4, if_neg h5] at h
    exact absurd rfl h
theorem stepsF_len (codes bs : List Int) (N : Int) (hN : 0 ≤ N) : ∀ f l q, (l.length : Int) ≤ N → ((stepsF codes bs N f l q).1.length : Int) ≤ N
  | 0, l, q, h => h
  | f + 1, l, q, h => by
    rw [stepsF]
    split
    · exact h
    split
    · simpa using hN
    split
    · simpa using hN
    split
    · simpa using hN
    · next l' haf => exact stepsF_len codes bs N hN f l' _ (addF_grows haf).2.1
theorem litF_le (bs : List Int) (p : Nat) : litF bs p ≤ 288 := by
  have := numB_lt bs p 5
  unfold litF
  have e : (2 : Int) ^ 5 = 32 := rfl
  omega
theorem distF_le (bs : List Int) (p : Nat) : distF bs p ≤ 32 := by
  have := numB_lt bs (p + 5) 5
  unfold distF
  have e : (2 : Int) ^ 5 = 32 := rfl
  omega
theorem headF_len (bs : List Int) (p : Nat) : (headF bs p).1.length ≤ 320 ∧ (headF bs p).2.1.length ≤ 320 := by
  have h := stepsF_len (codesH bs p) bs ((litF bs p + distF bs p : Nat) : Int) (Int.natCast_nonneg _) (litF bs p + distF bs p) [] (p + 14 + 3 * manyF bs p) (by simp; omega)
  have hr : ((readR bs p).1.length : Int) ≤ ((litF bs p + distF bs p : Nat) : Int) := h
  have h1 := litF_le bs p
  have h2 := distF_le bs p
  unfold headF
  split
  · simp
  split
  · simp
  split
  · simp
  split
  · simp
  split
  · simp
  · simp only [List.length_take, List.length_drop]; omega
theorem headF_n_le (bs : List Int) (p : Nat) (hp : p ≤ 8 * bs.length) : True := trivial
set_option maxRecDepth 100000 in
set_option maxHeartbeats 1000000 in
theorem lensRead_calls (w : World) (g : Nat) (A : Option Addr) (c : Nat) (bs : List Int) (p : Nat) (hT : Tabs w) (hg : gtop ≤ g) (hr : Rdr w g A c bs p) (ha : ∀ a, A = some a → a.block < w.heap.size) :
    Calls Tryd.prog 25 #[.pointer (some ⟨g, 0, none⟩)] w fun e w' => ∃ v1 v2, e = .returned (.tuple #[v1, v2, .int .i64 (headF bs p).2.2.2]) ∧ w'.ownsRow w.heap.size 3 1 v1 (headF bs p).1.length (ints .i64 (headF bs p).1) ∧
      w'.ownsRow w.heap.size 3 1 v2 (headF bs p).2.1.length (ints .i64 (headF bs p).2.1) ∧ Rdr w' g A c bs (p + (headF bs p).2.2.1) ∧ Keeps [g] w w' := by
  have HR := Lib.hid hr
  have HT := Lib.hid hT
  have hsz := hr.size
  clear hr hT
  go_enter Tryd.func25, Tryd.ntmps25
  go_wp2_with fail
  refine (gone_calls _ _ _ _ _ _ HR.out).mono ?_
  rintro r w1 ⟨rfl, hd⟩
  have hk1 := hd.keeps (S := [])
  have H1 := Lib.hid (HR.out.dr hk1)
  have T1 := Lib.hid (HT.out.keeps hk1 (by simp))
  have K1 := Lib.hid (hd.keeps (S := [g]))
  have HA1 : Hid (∀ a, A = some a → a.block < w1.heap.size) := Lib.hid (fun a h => Nat.lt_of_lt_of_le (ha a h) hk1.size)
  have S1 : Hid (w.heap.size ≤ w1.heap.size) := Lib.hid hk1.size
  clear hd HR HT ha hk1
  go_wp2_with fail
  refine (read_calls _ _ _ _ _ _ T1.out hg H1.out HA1.out).mono ?_
  rintro _ w2 ⟨v1, v2, q, rfl, ho1, ho2, hr2, hpq, hq, hk2⟩
  have HO1 := Lib.hid (ho1.mono S1.out)
  have HO2 := Lib.hid (ho2.mono S1.out)
  have H2 := Lib.hid hr2
  have K2 := Lib.hid (K1.out.trans hk2)
  have HGW : Hid (g < w1.heap.size) := Lib.hid H1.out.lt
  have HOW1 := Lib.hid ho1
  have HOW2 := Lib.hid ho2
  have hqT := hr2.le
  clear ho1 ho2 hr2 hk2 H1 K1 T1 HA1
  by_cases her : (headF bs p).2.2.2 = 0
  · have HQ := Lib.hid (hq her)
    have e1 : ((headF bs p).2.2.2 != 0) = false := by simp [her]
    have HER := Lib.hid her
    clear hq
    obtain ⟨A1, c1, rfl⟩ := own_form' HO1.out
    obtain ⟨A2, c2, rfl⟩ := own_form' HO2.out
    go_wp2_with fail
    go_ret3
    exact ⟨_, _, by first | rfl | (rw [HER.out]; rfl), HO1.out, HO2.out, by rw [← HQ.out]; exact H2.out, K2.out⟩
  · have HN := Lib.hid (headF_n her)
    have e1 : ((headF bs p).2.2.2 != 0) = true := by simpa using her
    obtain ⟨A1, c1, rfl⟩ := own_form' HO1.out
    obtain ⟨A2, c2, rfl⟩ := own_form' HO2.out
    clear hq
    generalize hE : (headF bs p).2.2.2 = er at *
    go_wp2_with fail
    refine (gone_calls _ _ _ _ _ _ H2.out).mono ?_
    rintro r w3 ⟨rfl, hd⟩
    have H3 := Lib.hid (H2.out.dr hd.keeps)
    have K3 := Lib.hid (K2.out.trans (hd.keeps (S := [g])))
    have O1 := Lib.hid (own_keeps HOW1.out (hd.keeps (S := [])) (by simp))
    have O2 := Lib.hid (own_keeps HOW2.out (hd.keeps (S := [])) (by simp))
    have e2 : IntKind.i64.wrap ((q : Int) - (p : Int)) = ((q - p : Nat) : Int) := by rw [show (q : Int) - (p : Int) = ((q - p : Nat) : Int) by omega]; exact IntWalk.i64_in _ (by omega)
    clear hd H2 K2 HO1 HO2 HOW1 HOW2
    go_wp2_with fail
    refine (back_calls' _ _ _ _ _ q (q - p) _ (by first | rfl | omega) H3.out (by omega)).mono ?_
    rintro r w4 ⟨rfl, h4, k4⟩
    have H4 := Lib.hid h4
    have K4 := Lib.hid (K3.out.trans k4)
    have P1 := Lib.hid (own_keeps O1.out k4 (fun x hx hm => by have := (O1.out.lt x hx).1; rw [List.mem_singleton.1 hm] at this; have := HGW.out; omega))
    have P2 := Lib.hid (own_keeps O2.out k4 (fun x hx hm => by have := (O2.out.lt x hx).1; rw [List.mem_singleton.1 hm] at this; have := HGW.out; omega))
    clear h4 k4 H3 K3 O1 O2
    go_wp2_with fail
    go_ret3
    refine ⟨_, _, by rw [hE]; rfl, P1.out.mono S1.out, P2.out.mono S1.out, ?_, K4.out⟩
    rw [HN.out]
    have := H4.out
    rwa [show q - (q - p) = p + 0 by omega] at this
end Go.Proofs.YtcblibefmclloaaDoor

set_option linter.unusedVariables false
set_option linter.unusedSimpArgs false
namespace Go.Proofs.YtcblibefmclloaaDoor
open Go.RowKit
theorem headB_small {lit dist : List Int} (h : MayW lit dist) : (headB lit dist).length ≤ 5000 := by
  have h1 := h.len; have h2 := h.lit1; have h3 := h.dist1; omega
/-- What a writing leaves, whatever it answers. -/
theorem wrote_form {w w' : World} {g : Nat} {bl lit dist : List Int} {e : Ending} (h : Wrote w g bl lit dist e w') (hw : Wtr w g bl) :
    ∃ (E : Int) (X : List Int), e = .returned (.int .i64 E) ∧ Wtr w' g (bl ++ X) ∧ X.length ≤ 5000 ∧ Below g w w' ∧ PT g w w' ∧ ((E = 0 ∧ MayW lit dist ∧ X = headB lit dist) ∨ (E = 1 ∧ ¬ MayW lit dist ∧ X = [])) := by
  rcases h with ⟨hm, he, h1, h2, h3⟩ | ⟨hm, he, hb⟩
  · exact ⟨0, _, he, h1, headB_small hm, h2, h3, .inl ⟨rfl, hm, rfl⟩⟩
  · have hk := Keeps.of_below hb (S := [])
    exact ⟨1, [], he, by rw [List.append_nil]; exact hw.keeps hk (by simp), by simp, below_lower hb (Nat.le_of_lt hw.lt), PT.of_keeps hk, .inr ⟨rfl, hm, rfl⟩⟩
theorem wb_byte {xs bl : List Int} (h : WB xs bl) : ∀ j, 0 ≤ nth xs j ∧ nth xs j ≤ 255 := h.byte
set_option maxRecDepth 100000 in
set_option maxHeartbeats 4000000 in
theorem lensRound_walk (w : World) (A1 : Option Addr) (n1 c1 : Nat) (lit : List Int) (A2 : Option Addr) (n2 c2 : Nat) (dist : List Int) (A3 : Option Addr) (n3 c3 : Nat) (other : List Int) (v : Int) (hT : Tabs w)
    (h1 : RI .i64 w A1 n1 lit) (hm1 : n1 ≤ maxLen) (hnil1 : A1 = none → n1 = 0 ∧ c1 = 0) (hwf1 : ∀ x ∈ lit, (Lit.int .i64 x).wf = true)
    (h2 : RI .i64 w A2 n2 dist) (hm2 : n2 ≤ maxLen) (hnil2 : A2 = none → n2 = 0 ∧ c2 = 0) (hwf2 : ∀ x ∈ dist, (Lit.int .i64 x).wf = true)
    (h3 : RI .i64 w A3 n3 other) (hm3 : n3 ≤ maxLen) (hnil3 : A3 = none → n3 = 0 ∧ c3 = 0) (hwf3 : ∀ x ∈ other, (Lit.int .i64 x).wf = true)
    (hv : (Lit.int .u32 v).wf = true) :
    Calls Tryd.prog 13 #[.slice A1 n1 c1, .slice A2 n2 c2, .slice A3 n3 c3, .int .u32 v] w fun e w' => e = .returned (.bool true) ∧ Keeps [] w w' := by
  have hv0 : 0 ≤ v ∧ v < 4294967296 := by
    simp [Lit.wf] at hv
    have : IntKind.u32.max = 4294967295 := rfl
    have : IntKind.u32.min = 0 := rfl
    omega
  obtain ⟨hv0, hv1⟩ := hv0
  have HT := Lib.hid hT
  have H1 := Lib.hid h1
  have H2 := Lib.hid h2
  have H3 := Lib.hid h3
  clear hT h1 hnil1 hwf1 h2 hnil2 hwf2 h3 hnil3 hwf3 hv hm1 hm2 hm3
  go_enter Tryd.func13, Tryd.ntmps13
  by_cases b1 : 1048576 < n1
  · have e1 : decide (1048576 < n1) = true := by simpa using b1
    have e1' : decide ((1048576 : Int) < (n1 : Int)) = true := by simp; omega
    go_wp2_with fail
    refine (awake_calls _ HT.out).mono ?_
    rintro e w' ⟨rfl, hk⟩
    have HK := Lib.hid hk
    clear hk
    go_wp2_with fail
    go_ret
    exact ⟨rfl, HK.out⟩
  have e1 : decide (1048576 < n1) = false := by simpa using b1
  have e1' : decide ((1048576 : Int) < (n1 : Int)) = false := by simp; omega
  by_cases b2 : 1048576 < n2
  · have e2 : decide (1048576 < n2) = true := by simpa using b2
    have e2' : decide ((1048576 : Int) < (n2 : Int)) = true := by simp; omega
    go_wp2_with fail
    refine (awake_calls _ HT.out).mono ?_
    rintro e w' ⟨rfl, hk⟩
    have HK := Lib.hid hk
    clear hk
    go_wp2_with fail
    go_ret
    exact ⟨rfl, HK.out⟩
  have e2 : decide (1048576 < n2) = false := by simpa using b2
  have e2' : decide ((1048576 : Int) < (n2 : Int)) = false := by simp; omega
  by_cases b3 : 1048576 < n3
  · have e3 : decide (1048576 < n3) = true := by simpa using b3
    have e3' : decide ((1048576 : Int) < (n3 : Int)) = true := by simp; omega
    go_wp2_with fail
    refine (awake_calls _ HT.out).mono ?_
    rintro e w' ⟨rfl, hk⟩
    have HK := Lib.hid hk
    clear hk
    go_wp2_with fail
    go_ret
    exact ⟨rfl, HK.out⟩
  have e3 : decide (1048576 < n3) = false := by simpa using b3
  have e3' : decide ((1048576 : Int) < (n3 : Int)) = false := by simp; omega
  obtain ⟨g, hg⟩ : ∃ x, x = w.heap.size := ⟨_, rfl⟩
  go_wp2_with fail
  refine (newWriter_calls _).mono ?_
  rintro _ w1 ⟨rfl, hw1, hb1⟩
  rw [← hg] at hw1 hb1 ⊢
  have HW1 := Lib.hid hw1
  have HB1 := Lib.hid hb1
  have hgt : gtop ≤ g := by rw [hg]; exact HT.out.size
  have HG := Lib.hid hg
  have K1 := Lib.hid (Keeps.of_below (by rw [← hg]; exact hb1) (S := []) : Keeps [] w w1)
  clear hw1 hb1 e1 e1' e2 e2' e3 e3' hg
  go_wp2_with fail
  refine (write_calls w1 g [] A1 A2 n1 n2 c1 c2 lit dist (HT.out.keeps K1.out (by simp)) hgt HW1.out (by simp) (H1.out.keeps K1.out (off_nil _)) (H2.out.keeps K1.out (off_nil _))).mono ?_
  intro e w2 hwr
  obtain ⟨E1, X1, rfl, hw2, hx1, hb2, hp2, hE1⟩ := wrote_form hwr HW1.out
  rw [List.nil_append] at hw2
  have HW2 := Lib.hid hw2
  have HB2 := Lib.hid (HB1.out.trans hb2)
  have HE1 := Lib.hid hE1
  have HX1 := Lib.hid hx1
  have K2 := Lib.hid (Keeps.of_below (by rw [← HG.out]; exact HB2.out) (S := []) : Keeps [] w w2)
  clear hwr hw2 hx1 hb2 hp2 hE1 HW1 HB1 K1
  go_wp2_with fail
  refine (write_calls w2 g X1 A1 A3 n1 n3 c1 c3 lit other (HT.out.keeps K2.out (by simp)) hgt HW2.out (by have := HX1.out; omega) (H1.out.keeps K2.out (off_nil _)) (H3.out.keeps K2.out (off_nil _))).mono ?_
  intro e w3 hwr
  obtain ⟨E2, X2, rfl, hw3, hx2, hb3, hp3, hE2⟩ := wrote_form hwr HW2.out
  have HW3 := Lib.hid hw3
  have HB3 := Lib.hid (HB2.out.trans hb3)
  have HE2 := Lib.hid hE2
  have HX2 := Lib.hid hx2
  clear hwr hw3 hx2 hb3 hp3 hE2 HW2 HB2 K2
  go_wp2_with fail
  refine (put_calls w3 g (X1 ++ X2) v 32 HW3.out hv0 hv1 (by omega) (Int.ediv_eq_zero_of_lt hv0 (by exact hv1)) (by have := HX1.out; have := HX2.out; rw [List.length_append]; omega)).mono ?_
  rintro _ w4 ⟨rfl, hw4, hb4, hp4⟩
  have HW4 := Lib.hid hw4
  have HB4 := Lib.hid (HB3.out.trans hb4)
  have K4 := Lib.hid (Keeps.of_below (by rw [← HG.out]; exact HB4.out) (S := []) : Keeps [] w w4)
  clear hw4 hb4 hp4 HW3 HB3
  by_cases hz1 : E1 = 0
  · subst hz1
    by_cases hz2 : E2 = 0
    · subst hz2
      have hX1 : MayW lit dist ∧ X1 = headB lit dist := by
        rcases HE1.out with ⟨_, a, b⟩ | ⟨a, _⟩
        · exact ⟨a, b⟩
        · exact absurd a (by decide)
      have hX2 : MayW lit other ∧ X2 = headB lit other := by
        rcases HE2.out with ⟨_, a, b⟩ | ⟨a, _⟩
        · exact ⟨a, b⟩
        · exact absurd a (by decide)
      have HM1 := Lib.hid hX1.1
      have HM2 := Lib.hid hX2.1
      have HXE1 := Lib.hid hX1.2
      have HXE2 := Lib.hid hX2.2
      clear hX1 hX2 HE1 HE2
      go_wp2_with fail
      refine (bytes_calls w4 g _ HW4.out (by have := HX1.out; have := HX2.out; simp only [List.length_append, vbits_len]; omega)).mono ?_
      rintro _ w5 ⟨n, xs, rfl, hr5, hwb, hb5⟩
      have HWB := Lib.hid hwb
      have hlw := hwb.len
      simp only [List.length_append, vbits_len] at hlw
      have hx1 := HX1.out
      have hx2 := HX2.out
      have hxl : xs.length ≤ 1300 := by omega
      have hA1 : At xs 0 (headB lit dist) := by
        have := at_wb (pre := []) (bl := X1) (post := X2 ++ vbits v 32) (by simpa only [List.nil_append, List.append_assoc] using hwb)
        rw [← HXE1.out]; exact this
      have hA2 : At xs X1.length (headB lit other) := by
        have := at_wb (pre := X1) (bl := X2) (post := vbits v 32) (by simpa only [List.append_assoc] using hwb)
        rw [← HXE2.out]; exact this
      have hA3 : At xs (X1.length + X2.length) (vbits v 32) := by
        have := at_wb (pre := X1 ++ X2) (bl := vbits v 32) (post := []) (by simpa only [List.append_assoc, List.append_nil] using hwb)
        rwa [List.length_append] at this
      have HF1 : Hid (headF xs 0 = (lit, dist, X1.length, 0)) := Lib.hid (by rw [HXE1.out]; exact HM1.out.read (by rw [← HXE1.out]; omega) hA1)
      have HF2 : Hid (headF xs X1.length = (lit, other, X2.length, 0)) := Lib.hid (by rw [HXE2.out]; exact HM2.out.read (by rw [← HXE2.out]; omega) hA2)
      have HF3 : Hid (numB xs (X1.length + X2.length) 32 = v) := Lib.hid (numB_of hA3 hv0 hv1)
      have HTL : Hid (X1.length + X2.length + 32 ≤ 8 * xs.length) := Lib.hid (by omega)
      have HR5 := Lib.hid hr5
      have K5 := Lib.hid (K4.out.trans (Keeps.of_below hb5 (S := [])))
      have hnx : n ≤ 1300 := by have := hr5.len; omega
      clear hwb hr5 hb5 HW4 HB4 K4 hlw hA1 hA2 hA3 HXE1 HXE2 hx1 hx2 hxl
      go_wp2_with fail
      refine (newReader_calls w5 _ n n xs HR5.out nofun HWB.out.byte (by omega)).mono ?_
      rintro _ w6 ⟨g2, A', c', rfl, hrd, hg2, ha', hb6⟩
      have HRD := Lib.hid hrd
      have K6 := Lib.hid (K5.out.trans (Keeps.of_below hb6 (S := [])))
      have T6 := Lib.hid (HT.out.keeps K6.out (by simp))
      have HG2 : Hid (w.heap.size ≤ g2) := Lib.hid (Nat.le_trans K5.out.size hg2)
      have hgt2 : gtop ≤ g2 := Nat.le_trans HT.out.size HG2.out
      have HA6 : Hid (∀ a, A' = some a → a.block < w6.heap.size) := Lib.hid (fun a h => (ha' a h).2)
      clear hrd hg2 ha' hb6 HR5 K5 HWB
      go_wp2_with fail
      have hcR := lensRead_calls w6 g2 A' c' xs 0 T6.out hgt2 HRD.out HA6.out
      rw [HF1.out] at hcR
      refine hcR.mono ?_
      rintro _ w7 ⟨v1, v2, rfl, ho1, ho2, hr7, hk7⟩
      simp only [Nat.zero_add] at ho1 ho2 hr7
      have HO1 := Lib.hid ho1
      have HO2 := Lib.hid ho2
      have HR7 := Lib.hid hr7
      have K7 := Lib.hid (K6.out.then hk7 (fun x hx => Or.inr (by rw [List.mem_singleton.1 hx]; exact HG2.out)))
      have T7 := Lib.hid (HT.out.keeps K7.out (by simp))
      have HA7 : Hid (∀ a, A' = some a → a.block < w7.heap.size) := Lib.hid (fun a h => Nat.lt_of_lt_of_le (HA6.out a h) hk7.size)
      have hg26 : g2 < w6.heap.size := HRD.out.lt
      clear ho1 ho2 hr7 hk7 HRD K6 T6 HA6 hcR HF1
      go_wp2_with fail
      have hcR := lensRead_calls w7 g2 A' c' xs X1.length T7.out hgt2 HR7.out HA7.out
      rw [HF2.out] at hcR
      refine hcR.mono ?_
      rintro _ w8 ⟨v3, v4, rfl, ho3, ho4, hr8, hk8⟩
      simp only [] at ho3 ho4 hr8
      have HO3 := Lib.hid ho3
      have HO4 := Lib.hid ho4
      have HO1' := Lib.hid (own_keeps HO1.out hk8 (fun x hx hm => by have := (HO1.out.lt x hx).1; rw [List.mem_singleton.1 hm] at this; omega))
      have HO2' := Lib.hid (own_keeps HO2.out hk8 (fun x hx hm => by have := (HO2.out.lt x hx).1; rw [List.mem_singleton.1 hm] at this; omega))
      have HR8 := Lib.hid hr8
      have K8 := Lib.hid (K7.out.then hk8 (fun x hx => Or.inr (by rw [List.mem_singleton.1 hx]; exact HG2.out)))
      have hg27 : g2 < w7.heap.size := HR7.out.lt
      clear ho3 ho4 hr8 hk8 HR7 K7 T7 HA7 hcR HF2 HO1 HO2
      go_wp2_with fail
      have hcT := take_calls w8 g2 A' c' xs (X1.length + X2.length) 32 HR8.out (by omega) HTL.out
      rw [HF3.out] at hcT
      refine hcT.mono ?_
      rintro _ w9 ⟨rfl, hr9, hk9⟩
      have K9 := Lib.hid (K8.out.then hk9 (fun x hx => Or.inr (by rw [List.mem_singleton.1 hx]; exact HG2.out)))
      have hoff : ∀ (b : Nat) (hb : g2 < b) {v : Value} {k : Nat} {ys : List Value}, w8.ownsRow b 3 1 v k ys → w9.ownsRow b 3 1 v k ys := fun b hb v k ys h =>
        own_keeps h hk9 (fun x hx hm => by have := (h.lt x hx).1; rw [List.mem_singleton.1 hm] at this; omega)
      obtain ⟨B1, q1, rfl, hi1, -⟩ := own_full (hoff _ hg26 HO1'.out)
      obtain ⟨B2, q2, rfl, hi2, -⟩ := own_full (hoff _ hg26 HO2'.out)
      obtain ⟨B3, q3, rfl, hi3, -⟩ := own_full (hoff _ hg27 HO3.out)
      obtain ⟨B4, q4, rfl, hi4, -⟩ := own_full (hoff _ hg27 HO4.out)
      have I1 := Lib.hid hi1
      have I2 := Lib.hid hi2
      have I3 := Lib.hid hi3
      have I4 := Lib.hid hi4
      have hl1 : lit.length ≤ 286 := HM1.out.lit1
      have hl2 : dist.length ≤ 30 := HM1.out.dist1
      have hl3 : other.length ≤ 30 := HM2.out.dist1
      clear hr9 hk9 hoff hi1 hi2 hi3 hi4 HR8 K8 HO1' HO2' HO3 HO4 hcT HF3
      go_wp2_with fail
      refine (awake_calls _ (HT.out.keeps K9.out (by simp))).mono ?_
      rintro _ w10 ⟨rfl, hk10⟩
      have J1 := Lib.hid (I1.out.keeps hk10 (off_nil _))
      have J2 := Lib.hid (I2.out.keeps hk10 (off_nil _))
      have J3 := Lib.hid (I3.out.keeps hk10 (off_nil _))
      have J4 := Lib.hid (I4.out.keeps hk10 (off_nil _))
      have K10 := Lib.hid (K9.out.trans hk10)
      clear hk10 I1 I2 I3 I4 K9
      go_wp2_with fail
      refine (ints_calls _ _ _ _ _ _ _ lit lit J1.out (H1.out.keeps K10.out (off_nil _)) (by omega) (by omega)).mono ?_
      rintro _ w11 ⟨rfl, hd⟩
      rw [beq_self_eq_true]
      have hk := hd.keeps (S := [])
      have I2 := Lib.hid (J2.out.keeps hk (off_nil _))
      have I3 := Lib.hid (J3.out.keeps hk (off_nil _))
      have I4 := Lib.hid (J4.out.keeps hk (off_nil _))
      have K11 := Lib.hid (K10.out.trans hk)
      clear hd hk J1 J2 J3 J4 K10
      go_wp2_with fail
      refine (ints_calls _ _ _ _ _ _ _ dist dist I2.out (H2.out.keeps K11.out (off_nil _)) (by omega) (by omega)).mono ?_
      rintro _ w12 ⟨rfl, hd⟩
      rw [beq_self_eq_true]
      have hk := hd.keeps (S := [])
      have J3 := Lib.hid (I3.out.keeps hk (off_nil _))
      have J4 := Lib.hid (I4.out.keeps hk (off_nil _))
      have K12 := Lib.hid (K11.out.trans hk)
      clear hd hk I2 I3 I4 K11
      go_wp2_with fail
      refine (ints_calls _ _ _ _ _ _ _ lit lit J3.out (H1.out.keeps K12.out (off_nil _)) (by omega) (by omega)).mono ?_
      rintro _ w13 ⟨rfl, hd⟩
      rw [beq_self_eq_true]
      have hk := hd.keeps (S := [])
      have I4 := Lib.hid (J4.out.keeps hk (off_nil _))
      have K13 := Lib.hid (K12.out.trans hk)
      clear hd hk J3 J4 K12
      go_wp2_with fail
      refine (ints_calls _ _ _ _ _ _ _ other other I4.out (H3.out.keeps K13.out (off_nil _)) (by omega) (by omega)).mono ?_
      rintro _ w14 ⟨rfl, hd⟩
      rw [beq_self_eq_true]
      have K14 := Lib.hid (K13.out.trans (hd.keeps (S := [])))
      clear hd I4 K13
      go_wp2_with fail
      go_ret
      exact ⟨rfl, K14.out⟩
    · have f1 : (E2 != 0) = true := by simpa using hz2
      have f2 : decide (E2 = 0) = false := by simpa using hz2
      go_wp2_with fail
      refine (awake_calls _ (HT.out.keeps K4.out (by simp))).mono ?_
      rintro e w' ⟨rfl, hk⟩
      have HK := Lib.hid (K4.out.trans hk)
      clear hk
      go_wp2_with fail
      go_ret
      exact ⟨rfl, HK.out⟩
  · have f1 : (E1 != 0) = true := by simpa using hz1
    have f2 : decide (E1 = 0) = false := by simpa using hz1
    go_wp2_with fail
    refine (awake_calls _ (HT.out.keeps K4.out (by simp))).mono ?_
    rintro e w' ⟨rfl, hk⟩
    have HK := Lib.hid (K4.out.trans hk)
    clear hk
    go_wp2_with fail
    go_ret
    exact ⟨rfl, HK.out⟩
end Go.Proofs.YtcblibefmclloaaDoor

set_option linter.unusedVariables false
set_option linter.unusedSimpArgs false
namespace Go.Proofs.YtcblibefmclloaaDoor
open Go.RowKit

set_option maxRecDepth 100000 in
set_option maxHeartbeats 400000 in
theorem lent_calls (w : World) (A : Option Addr) (n c : Nat) (xs : List Int) (hx : RI .i64 w A n xs) (hn : n ≤ 1048576) :
    Calls Tryd.prog 16 #[.slice A n c] w fun e w' => ∃ g, e = .returned (.slice (some ⟨g, 0, none⟩) n (n + 1)) ∧ Blk w' g 3 (ints .i64 (xs ++ [-77])) ∧ w.heap.size ≤ g ∧ Keeps [] w w' := by
  have lx := hx.len
  have HX := Lib.hid hx
  have LX := Lib.hid lx
  clear hx lx
  have hmk := fun w => make_ints (P := Tryd.prog) w 22 3 .i64 8 Tryd.underlying22 info_int ((n : Int) + 1) (n + 1) (by omega) (by omega) (by omega)
  go_enter Tryd.func16, Tryd.ntmps16
  go_wp2_with (with_reducible refine wpList_copy_splice rfl (.tmp 8) (.tmp 9) _ _ rfl 3 Tryd.underlying22 size_int _ _ _ _ _ _ rfl rfl w.heap.size 0 (ints .i64 (List.replicate (n + 1) 0)) 3 ?h1 (ints .i64 xs) ?h2 ?h3 ?h4 ?h5 w.heap.size w ?h6 (Nat.le_refl _) ?_)
  case h1 => exact blk_new w _ _
  case h2 => have := LX.out; simp [ints]; omega
  case h3 =>
    intro hp
    obtain ⟨a, o, ha⟩ := HX.out.hd (by have := LX.out; simpa [ints, this] using hp)
    refine ⟨_, ha, fun j v hv => ?_⟩
    have hj : j < n := by have := LX.out; have := (List.getElem?_eq_some_iff.1 hv).1; simp [ints] at this; omega
    have hc := HX.out.cell a o ha j hj
    have e : (ints .i64 xs)[j]? = some (.int .i64 (nth xs j)) := by rw [ints_getElem?]; simp [nth, List.getD, show j < xs.length from by have := LX.out; omega]
    rw [e] at hv
    rw [← Option.some.inj hv, add_plain2]
    exact (Keeps.refl [] w).alloc _ |>.cell (by simp) hc
  case h4 => have := LX.out; simp [ints]; omega
  case h5 => intro v hv; simp only [ints, List.mem_map] at hv; obtain ⟨x, _, rfl⟩ := hv; rfl
  case h6 => exact (Below.refl _ _).alloc (Nat.le_refl _) _
  intro w1 hg1 hb1
  have hB : Blk w1 w.heap.size 3 (splice (ints .i64 (List.replicate (n + 1) 0)) 0 (ints .i64 xs)) := hg1.out
  have hsp : splice (ints .i64 (List.replicate (n + 1) 0)) 0 (ints .i64 xs) = ints .i64 (xs ++ [0]) := by
    have := LX.out
    simp [splice, ints, this]
  rw [hsp] at hB
  clear hg1 hsp
  have hc1 : w1.cell? ⟨w.heap.size, n, none⟩ = some (.int .i64 0) := by
    rw [hB.cell, ints_getElem?]; have := LX.out; simp [this]
  have hf1 := hB.frozen n
  have hB2 := hB.set n (.int .i64 (-77))
  have hz : (ints .i64 (xs ++ [0])).set n (.int .i64 (-77)) = ints .i64 (xs ++ [-77]) := by
    have := LX.out
    simp [ints, List.set_append, this]
  rw [hz] at hB2
  have HB2 := Lib.hid hB2
  have HB1 := Lib.hid hb1
  clear hB hz hmk hB2 hb1
  go_wp2
  go_ret
  exact ⟨_, rfl, HB2.out, Nat.le_refl _, (Keeps.of_below HB1.out).setCell (Or.inr (Nat.le_refl _)) _⟩
end Go.Proofs.YtcblibefmclloaaDoor

set_option linter.unusedVariables false
set_option linter.unusedSimpArgs false
namespace Go.Proofs.YtcblibefmclloaaDoor
open Go.RowKit

set_option maxRecDepth 100000 in
set_option maxHeartbeats 400000 in
theorem kept_calls (w : World) (g : Nat) (A : Option Addr) (n c : Nat) (xs : List Int) (hx : RI .i64 w A n xs) (hB : Blk w g 3 (ints .i64 (xs ++ [-77]))) (hn : n ≤ 1048576) :
    Calls Tryd.prog 20 #[.slice (some ⟨g, 0, none⟩) n (n + 1), .slice A n c] w fun e w' => e = .returned (.bool true) ∧ Dr w w' := by
  have lx := hx.len
  have hr : RI .i64 w (some ⟨g, 0, none⟩) n xs := by have := hB.ri; rwa [lx] at this
  have hc1 : w.cell? ⟨g, n, none⟩ = some (.int .i64 (-77)) := by rw [hB.cell, ints_getElem?]; simp [lx]
  have HX := Lib.hid hx
  have HR := Lib.hid hr
  clear hx hr lx hB
  have hn2 : n ≤ 140737488355328 := by omega
  go_enter Tryd.func20, Tryd.ntmps20
  go_wp2_with fail
  refine (ints_calls w _ _ n n _ _ xs xs HR.out HX.out hn2 hn2).mono ?_
  rintro e w' ⟨rfl, q, rfl⟩
  rw [beq_self_eq_true]
  go_wp2
  go_ret
  exact ⟨rfl, _, rfl⟩
end Go.Proofs.YtcblibefmclloaaDoor

set_option linter.unusedVariables false
set_option linter.unusedSimpArgs false
namespace Go.Proofs.YtcblibefmclloaaDoor
open Go.RowKit
theorem numB_cons (bs : List Int) (p m : Nat) : numB bs p (m + 1) = 2 * numB bs (p + 1) m + bitAt bs p := by
  rw [Nat.add_comm m 1, numB_add bs p 1 m]
  simp [numB]; omega
set_option maxRecDepth 100000 in
set_option maxHeartbeats 1000000 in
theorem number_calls (w : World) (B : Option Addr) (M c : Nat) (bs : List Int) (p n : Nat) (hb : RI .u8 w B M (bitsP bs M)) (hn : n ≤ 32) (hf : p + n ≤ M) (hM : M ≤ 100000000) :
    Calls Tryd.prog 83 #[.slice B M c, .int .i64 p, .int .i64 n] w fun e w' => e = .returned (.int .u32 (numB bs p n)) ∧ Dr w w' := by
  have HB := Lib.hid hb
  clear hb
  go_enter Tryd.func83, Tryd.ntmps83
  go_wp2_with fail
  go_loopw [7, 8] (fun vv iv wr => ∃ K : Nat, K ≤ n ∧ iv = .int .i64 ((K : Int) - 1) ∧ vv = .int .u32 (numB bs (p + K) (n - K)) ∧ Hid (Dr w wr)) (fun _ iv _ => (intOf iv + 1).toNat)
  case atStart => exact ⟨n, by omega, by go_num, by rw [Nat.sub_self]; rfl, Lib.hid ⟨0, rfl⟩⟩
  case round =>
    obtain ⟨K, hK, rfl, rfl, HD⟩ := hrel
    obtain ⟨q, rfl⟩ := HD.out
    clear HD
    by_cases hk : 0 < K
    · obtain ⟨k, rfl⟩ : ∃ k, K = k + 1 := ⟨K - 1, by omega⟩
      have hk1 : ((k + 1 : Nat) : Int) - 1 = k := by omega
      rw [hk1]
      clear hk1
      have e0 : decide (0 ≤ (k : Int)) = true := by simp
      obtain ⟨b, o, rfl, hc⟩ := HB.out.at (j := p + k) (by omega)
      rw [bitsP_nth _ _ _ (by omega)] at hc
      have HN : Hid (numB bs (p + k) (n - k) = 2 * numB bs (p + (k + 1)) (n - (k + 1)) + bitAt bs (p + k)) := Lib.hid (by
        rw [show n - k = (n - (k + 1)) + 1 by omega, numB_cons]; rfl)
      obtain ⟨b0, b1⟩ := bitAt_le bs (p + k)
      obtain ⟨n0, n1⟩ := numB_lt bs (p + k) (n - k)
      have n2 := pow32 (n - k) (by omega)
      obtain ⟨m0, m1⟩ := numB_lt bs (p + (k + 1)) (n - (k + 1))
      rw [HN.out] at n1
      have HN2 := Lib.hid HN.out.symm
      clear n0 HN
      have n3 : 2 * numB bs (p + (k + 1)) (n - (k + 1)) + bitAt bs (p + k) < 4294967296 := by omega
      clear n1 n2 m1
      generalize numB bs (p + (k + 1)) (n - (k + 1)) = v at *
      generalize bitAt bs (p + k) = z at *
      go_wp2_with fail
      go_roundw
      case rel => exact ⟨k, by omega, by go_num, by rw [← HN2.out], Lib.hid ⟨_, rfl⟩⟩
      case measure => simp [intOf]
    · obtain rfl : K = 0 := by omega
      have e0 : decide (0 ≤ ((0 : Nat) : Int) - 1) = false := by simp
      go_wp2_with fail
      go_ret
      exact ⟨rfl, _, rfl⟩
end Go.Proofs.YtcblibefmclloaaDoor

set_option linter.unusedVariables false
set_option linter.unusedSimpArgs false
namespace Go.Proofs.YtcblibefmclloaaDoor
open Go.RowKit
/-- The reference's head under way. -/
def HB (w : World) (gh : Nat) (B : Option Addr) (M c at' : Nat) (E : Int) : Prop := Blk w gh 86 [.slice B M c, .int .i64 at', .int .i64 E]
theorem HB.keeps {S : List Nat} {w w' : World} {gh : Nat} {B : Option Addr} {M c a : Nat} {E : Int} (h : HB w gh B M c a E) (hk : Keeps S w w') (hg : gh ∉ S) : HB w' gh B M c a E := Blk.keeps h hk hg
set_option maxRecDepth 100000 in
set_option maxHeartbeats 1000000 in
theorem htake_bad (w : World) (gh : Nat) (B : Option Addr) (M c p n : Nat) (E : Int) (hb : HB w gh B M c p E) (hE : E ≠ 0) :
    Calls Tryd.prog 60 #[.pointer (some ⟨gh, 0, none⟩), .int .i64 n] w fun e w' => e = .returned (.int .i64 0) ∧ HB w' gh B M c p E ∧ Keeps [] w w' := by
  have h2 := Blk.cell hb 2
  simp only [List.getElem?_cons_zero, List.getElem?_cons_succ] at h2
  have e1 : (E != 0) = true := by simpa using hE
  have e2 : (E == 0) = false := by simpa using hE
  have HH := Lib.hid hb
  clear hb
  go_enter Tryd.func60, Tryd.ntmps60
  go_wp2_with fail
  go_quiet (fail)
  go_wp2_with fail
  go_ret
  exact ⟨rfl, HB.keeps HH.out ((Keeps.refl [] w).drewN _) (by simp), (Keeps.refl [] w).drewN _⟩
set_option maxRecDepth 100000 in
set_option maxHeartbeats 1000000 in
theorem htake_end (w : World) (gh : Nat) (B : Option Addr) (M c p n : Nat) (hb : HB w gh B M c p 0) (hf : M < p + n) (hn : n ≤ 32) (hp : p ≤ M) (hM : M ≤ 100000000) :
    Calls Tryd.prog 60 #[.pointer (some ⟨gh, 0, none⟩), .int .i64 n] w fun e w' => e = .returned (.int .i64 0) ∧ HB w' gh B M c p 10 ∧ Keeps [gh] w w' := by
  have h0 := Blk.cell hb 0
  have h1 := Blk.cell hb 1
  have h2 := Blk.cell hb 2
  simp only [List.getElem?_cons_zero, List.getElem?_cons_succ] at h0 h1 h2
  have f2 := Blk.frozen hb 2
  have e3 : decide ((M : Int) - (p : Int) < (n : Int)) = true := by simp; omega
  have s1 : IntKind.i64.wrap ((M : Int) - (p : Int)) = (M : Int) - (p : Int) := IntWalk.i64_in _ (by omega)
  have HH := Lib.hid hb
  clear hb
  go_enter Tryd.func60, Tryd.ntmps60
  go_wp2_with fail
  go_quiet (fail)
  go_wp2_with fail
  go_ret
  refine ⟨rfl, ?_, ((Keeps.refl [gh] w).drewN _).setCell (Or.inl (by simp)) _⟩
  exact Blk.set (Blk.keeps HH.out ((Keeps.refl [] w).drewN _) (by simp)) 2 (.int .i64 10)
set_option maxRecDepth 100000 in
set_option maxHeartbeats 1000000 in
theorem htake_ok (w : World) (gh : Nat) (B : Option Addr) (M c p n : Nat) (bs : List Int) (hb : HB w gh B M c p 0) (hr : RI .u8 w B M (bitsP bs M)) (hf : p + n ≤ M) (hn : n ≤ 31) (hM : M ≤ 100000000) :
    Calls Tryd.prog 60 #[.pointer (some ⟨gh, 0, none⟩), .int .i64 n] w fun e w' => e = .returned (.int .i64 (numB bs p n)) ∧ HB w' gh B M c (p + n) 0 ∧ Keeps [gh] w w' := by
  have h0 := Blk.cell hb 0
  have h1 := Blk.cell hb 1
  have h2 := Blk.cell hb 2
  simp only [List.getElem?_cons_zero, List.getElem?_cons_succ] at h0 h1 h2
  have e3 : decide ((M : Int) - (p : Int) < (n : Int)) = false := by simp; omega
  have s1 : IntKind.i64.wrap ((M : Int) - (p : Int)) = (M : Int) - (p : Int) := IntWalk.i64_in _ (by omega)
  have HH := Lib.hid hb
  have HR := Lib.hid hr
  clear hb hr
  go_enter Tryd.func60, Tryd.ntmps60
  go_wp2_with fail
  go_quiet (fail)
  go_wp2_with fail
  obtain ⟨w1, hw1⟩ : ∃ w1 : World, w1 = w.drewN nq := ⟨_, rfl⟩
  have hk1 : Keeps [] w w1 := by rw [hw1]; exact (Keeps.refl [] w).drewN _
  rw [← hw1]
  clear hw1
  have HH1 := Lib.hid (HB.keeps HH.out hk1 (by simp))
  have HR1 := Lib.hid (HR.out.keeps hk1 (off_nil _))
  have h0 := Blk.cell HH1.out 0
  have h1 := Blk.cell HH1.out 1
  simp only [List.getElem?_cons_zero, List.getElem?_cons_succ] at h0 h1
  go_still_tail 9, (by kernel_rfl)
  change wpList _ _ _ _ _ w1.drew
  have hk2 := (Keeps.refl [] w1).drew
  have HH2 := Lib.hid (HB.keeps HH1.out hk2 (by simp))
  have HR2 := Lib.hid (HR1.out.keeps hk2 (off_nil _))
  have HK2 := Lib.hid (hk1.trans hk2)
  clear hk1 hk2 h0 h1 HH HR HH1 HR1
  go_wp2_with fail
  refine (number_calls _ _ _ _ bs p n HR2.out (by omega) hf hM).mono ?_
  rintro _ w3 ⟨rfl, hd3⟩
  have HH3 := Lib.hid (HB.keeps HH2.out (hd3.keeps (S := [])) (by simp))
  have HK3 := Lib.hid (HK2.out.trans (hd3.keeps (S := [])))
  have g1 := Blk.cell HH3.out 1
  simp only [List.getElem?_cons_zero, List.getElem?_cons_succ] at g1
  have f1 := Blk.frozen HH3.out 1
  obtain ⟨n0, n1⟩ := numB_lt bs p n
  have n2 := pow32 n (by omega)
  have e5 : IntKind.i64.wrap (numB bs p n) = numB bs p n := IntWalk.i64_in _ (by omega)
  have e6 : IntKind.i64.wrap ((p : Int) + n) = (p : Int) + n := IntWalk.i64_in _ (by omega)
  clear hd3 HH2 HK2 HR2
  go_wp2_with fail
  go_ret
  refine ⟨rfl, ?_, (HK3.out.mono (by simp)).setCell (Or.inl (by simp)) _⟩
  exact Blk.set HH3.out 1 (.int .i64 ((p + n : Nat) : Int))
end Go.Proofs.YtcblibefmclloaaDoor
