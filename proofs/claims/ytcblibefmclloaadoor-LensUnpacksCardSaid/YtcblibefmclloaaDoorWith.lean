import Derived.Test.YtcblibefmclloaaDoorSays
import Derived.Test.YtcblibefmclloaaDoorAdd
import Derived.Laws.AppendOwnNone
set_option linter.unusedVariables false
set_option linter.unusedSimpArgs false
namespace Go.Proofs.YtcblibefmclloaaDoor
open Go.RowKit
/-- 's = append(s, ys...)' of numbers, whatever slice the source is. -/
theorem app_any {ops : Array Oper} {rest : List Oper} {o : Oper} {a : Act} {Q : Exit → Act → World → Prop} {w : World} (hgd : o.guard = none) (s x : Operand)
    (ho : o.op = .call { callee := .builtin .append, args := #[s, x], argTypes := #[22, 22] })
    (base : Nat) (v : Value) (n : Nat) (xs : List Int) (hs : a.eval s = v) (hown : w.ownsRow base 3 1 v n (ints .i64 xs))
    (A : Option Addr) (m c : Nat) (ys : List Int) (hx : a.eval x = .slice A m c) (hy : RI .i64 w A m ys) (hnil : A = none → m = 0 ∧ c = 0) (hpl : ∀ ad, A = some ad → ∃ b o, ad = ⟨b, o, none⟩)
    (hn : n + m ≤ 1000000) (hbase : base ≤ w.heap.size)
    (h : ∀ v' w', w'.ownsRow base 3 1 v' (n + m) (ints .i64 (xs ++ ys)) → w.grownBy w' v.ownBlock → wpList Tryd.prog ops Q rest (a.put o.dst v') w') : wpList Tryd.prog ops Q (o :: rest) a w := by
  obtain ⟨i0, hi, hz0, hz1, hz2⟩ := info_parts info_int
  cases A with
  | none =>
    obtain ⟨rfl, rfl⟩ := hnil rfl
    obtain rfl : ys = [] := List.eq_nil_of_length_eq_zero hy.len
    refine wpList_append_own_none hgd s x 22 ho base 3 i0 1 Tryd.underlying22 hi v n (ints .i64 xs) hs hown hx ?_
    exact h v w (by simpa using hown) ⟨rfl, rfl, rfl, Nat.le_refl _, fun _ _ _ => rfl⟩
  | some ad =>
    obtain ⟨b, of, rfl⟩ := hpl ad rfl
    refine wpList_append_own _ hgd s x 22 ho base 3 i0 (.int .i64 0) 1 8 Tryd.underlying22 hi hz0 hz1 hz2 rfl (by decide) v n (ints .i64 xs) hs hown ⟨b, of, none⟩ m c (ints .i64 ys) hx (by simp [ints, hy.len]) ?_ (ints_one _ _) (by unfold maxLen; omega) (by omega) hbase ?_
    · intro j u hu
      have hj : j < m := by have := (List.getElem?_eq_some_iff.1 hu).1; have := hy.len; simp [ints] at *; omega
      rw [add_plain2]
      have hc := hy.cell b of rfl j hj
      rw [hc, ← hu, ints_getElem?]
      simp [nth, List.getD, show j < ys.length by have := hy.len; omega]
    · intro v' w' h2 h3 _
      have e : ints .i64 (xs ++ ys) = ints .i64 xs ++ ints .i64 ys := by simp [ints]
      rw [e] at h
      exact h v' w' h2 h3
/-- What adding a step answers by the document. -/
def WithV (w : World) (r : Option (List Int)) (e : Ending) (w' : World) : Prop :=
  match r with
  | some l => ∃ v, e = .returned (.tuple #[v, .int .i64 0]) ∧ w'.ownsRow w.heap.size 3 1 v l.length (ints .i64 l) ∧ Below w.heap.size w w'
  | none => e = .returned (.tuple #[.slice none 0 0, .int .i64 41]) ∧ Below w.heap.size w w'
theorem new_ri (w : World) (t : TypeId) (v : Int) : RI .i64 (w.alloc (.cells #[.int .i64 v] t)) (some ⟨w.heap.size, 0, none⟩) 1 [v] := by
  have h : Blk (w.alloc (.cells (ints .i64 [v]).toArray t (0, 0))) w.heap.size t (ints .i64 ([v] ++ [])) := blk_new w t _
  exact h.ri
set_option maxRecDepth 100000 in
set_option maxHeartbeats 1000000 in
theorem with_calls (w : World) (len c : Nat) (A : Option Addr) (l : List Int) (sym extra n : Int) (hl : RI .i64 w A len l) (hn : len ≤ 1000) (hnil : A = none → len = 0 ∧ c = 0) (hpl : ∀ ad, A = some ad → ∃ b o, ad = ⟨b, o, none⟩) :
    Calls Tryd.prog 57 #[.slice A len c, .agg #[.int .i64 sym, .int .i64 extra], .int .i64 n] w (WithV w (addF l sym extra n)) := by
  have HL := Lib.hid hl
  have HNIL := Lib.hid hnil
  have HPL := Lib.hid hpl
  clear hl hnil hpl
  go_enter Tryd.func57, Tryd.ntmps57
  go_wp2_with fail
  refine (says_calls _ _ _ _ l _ _ (HL.out.keeps ((Keeps.refl _ _).alloc _) (off_nil _)) (by omega)).mono ?_
  rintro e w1 ⟨rfl, hk⟩
  have HK := Lib.hid ((Keeps.refl [] w).alloc _ |>.trans hk)
  clear hk
  cases hs : sayF l sym extra with
  | none =>
    have HR := Lib.hid (addF_none (n := n) hs)
    rw [saidV]
    clear hs
    go_wp2_with fail
    go_ret2
    rw [HR.out]
    exact ⟨rfl, HK.out.below⟩
  | some p =>
    obtain ⟨v, k⟩ := p
    have hkp := sayF_pos hs
    have HS := Lib.hid hs
    rw [saidV]
    clear hs
    by_cases hm : n < (len : Int) + (k : Int)
    · have HR := Lib.hid (addF_many (n := n) HS.out (by have := HL.out.len; omega))
      go_wp2_with fail
      go_ret2
      rw [HR.out]
      exact ⟨rfl, HK.out.below⟩
    · have HR := Lib.hid (addF_some (n := n) HS.out (by have := HL.out.len; omega))
      have hsz := HK.out.size
      go_wp2_with (at_builtin; refine app_any rfl (.tmp 30) (.tmp 31) rfl w.heap.size _ _ [] rfl (World.ownsRow_nil _ _ _ _) A len c l rfl (HL.out.keeps HK.out (off_nil _)) HNIL.out HPL.out (by omega) hsz ?_)
      intro v1 w2 h1 hg1
      have H1 := Lib.hid h1
      have HB1 := Lib.hid (HK.out.below.grown hg1 hsz (fun k hk => by simp [Value.ownBlock] at hk))
      clear h1 hg1
      go_wp2_with fail
      go_loopw [11, 12] (fun u i wr => ∃ j : Nat, j ≤ k ∧ i = .int .i64 j ∧ Hid (wr.ownsRow w.heap.size 3 1 u (len + j) (ints .i64 (l ++ List.replicate j v))) ∧ Hid (Below w.heap.size w wr)) (fun _ i _ => k - (intOf i).toNat)
      case atStart => exact ⟨0, by omega, rfl, Lib.hid (by simpa using H1.out), HB1⟩
      case round =>
        clear H1 HB1
        obtain ⟨j, hj, rfl, HO, HW⟩ := hrel
        have hsz2 := HW.out.size
        by_cases hlt : j < k
        · go_wp2_with (at_builtin; refine app_ints rfl (.tmp 38) (.tmp 40) rfl w.heap.size _ _ _ rfl (HO.out.alloc _) wr.heap.size 1 1 [v] rfl (new_ri _ _ _) (by omega) (by simp; omega) ?_)
          intro v1 w2 h1 hg1
          have H1 := Lib.hid h1
          have HB1 := Lib.hid ((HW.out.alloc (by omega) _).grown hg1 (by simp; omega) (fun k hk => (HO.out.lt k hk).1))
          clear h1 hg1 HO HW
          go_wp2_with fail
          go_roundw
          case rel => exact ⟨j + 1, by omega, by go_num, Lib.hid (by rw [List.replicate_succ']; simpa [Nat.add_assoc] using H1.out), HB1⟩
          case measure => simp [intOf]; omega
        · obtain rfl : j = k := by omega
          go_wp2_with fail
          go_ret2
          rw [HR.out]
          refine ⟨_, rfl, ?_, HW.out⟩
          rw [show (l ++ List.replicate j v).length = len + j by have := HL.out.len; simp; omega]
          exact HO.out
end Go.Proofs.YtcblibefmclloaaDoor
