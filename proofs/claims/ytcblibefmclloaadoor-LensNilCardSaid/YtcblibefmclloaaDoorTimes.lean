import Derived.Test.YtcblibefmclloaaDoorLengths
import Derived.OwnWalk
set_option linter.unusedVariables false
set_option linter.unusedSimpArgs false
namespace Go.Proofs.YtcblibefmclloaaDoor
open Go.RowKit
/-- The cells of pairs. -/
def pcells : List (Int × Int) → List Value
  | [] => []
  | p :: r => .int .i64 p.1 :: .int .i64 p.2 :: pcells r
theorem pcells_append (xs ys : List (Int × Int)) : pcells (xs ++ ys) = pcells xs ++ pcells ys := by
  induction xs with
  | nil => rfl
  | cons p r ih => simp [pcells, ih]
theorem pcells_length (xs : List (Int × Int)) : (pcells xs).length = xs.length * 2 := by
  induction xs with
  | nil => rfl
  | cons p r ih => simp [pcells, ih]; omega
theorem pcells_one (xs : List (Int × Int)) : ∀ v ∈ pcells xs, v.oneCell' = true := by
  induction xs with
  | nil => simp [pcells]
  | cons p r ih => intro v hv; simp only [pcells, List.mem_cons] at hv; rcases hv with rfl | rfl | h; rfl; rfl; exact ih v h
theorem pcells_get (xs : List (Int × Int)) : ∀ j, j < xs.length → (pcells xs)[j * 2]? = some (.int .i64 (pth xs j).1) ∧ (pcells xs)[j * 2 + 1]? = some (.int .i64 (pth xs j).2) := by
  induction xs with
  | nil => intro j hj; simp at hj
  | cons p r ih =>
    intro j hj
    cases j with
    | zero => exact ⟨rfl, rfl⟩
    | succ j =>
      have := ih j (by simpa using hj)
      have e : (j + 1) * 2 = j * 2 + 1 + 1 := by omega
      rw [e]
      simpa [pcells, pth] using this
theorem info_step : (Tryd.prog.info? 31).map (fun i => (i.zero, i.size, i.bytes)) = some (some (.agg #[.int .i64 0, .int .i64 0]), 2, 16) := by kernel_rfl
/-- 's = append(s, Step{a, b})' on a row of one's own. -/
theorem app_step {ops : Array Oper} {rest : List Oper} {o : Oper} {a : Act} {Q : Exit → Act → World → Prop} {w : World} (hgd : o.guard = none) (s x : Operand)
    (ho : o.op = .call { callee := .builtin .append, args := #[s, x], argTypes := #[25, 25] })
    (base : Nat) (v : Value) (n : Nat) (xs : List (Int × Int)) (hs : a.eval s = v) (hown : w.ownsRow base 31 2 v n (pcells xs))
    (g : Nat) (p q : Int) (hx : a.eval x = .slice (some ⟨g, 0, none⟩) 1 1) (h0 : w.cell? ⟨g, 0, none⟩ = some (.int .i64 p)) (h1 : w.cell? ⟨g, 1, none⟩ = some (.int .i64 q))
    (hn : n ≤ 1000000) (hbase : base ≤ w.heap.size)
    (h : ∀ v' w', w'.ownsRow base 31 2 v' (n + 1) (pcells (xs ++ [(p, q)])) → w.grownBy w' v.ownBlock → (∃ g' c', v' = .slice (some ⟨g', 0, none⟩) (n + 1) c') → wpList Tryd.prog ops Q rest (a.put o.dst v') w') : wpList Tryd.prog ops Q (o :: rest) a w := by
  obtain ⟨i0, hi, hz0, hz1, hz2⟩ := info_parts info_step
  refine wpList_append_own _ hgd s x 25 ho base 31 i0 (.agg #[.int .i64 0, .int .i64 0]) 2 16 Tryd.underlying25 hi hz0 hz1 hz2 rfl (by decide) v n (pcells xs) hs hown ⟨g, 0, none⟩ 1 1 [.int .i64 p, .int .i64 q] hx rfl ?_ ?_ (by unfold maxLen; omega) (by omega) hbase ?_
  · intro j u hu
    rw [add_plain]
    match j, hu with
    | 0, hu => simp at hu; subst hu; exact h0
    | 1, hu => simp at hu; subst hu; exact h1
    | j + 2, hu => simp at hu
  · intro u hu
    simp at hu
    rcases hu with rfl | rfl <;> rfl
  · intro v' w' h2 h3 _
    rw [pcells_append] at h
    refine h v' w' h2 h3 ?_
    rcases h2.2 with ⟨_, h⟩ | ⟨g', c', _, h, _⟩
    · omega
    · exact ⟨g', c', h⟩
set_option maxRecDepth 100000 in
set_option maxHeartbeats 400000 in
theorem times_calls (w : World) (base n : Nat) (v : Value) (xs : List (Int × Int)) (m sym : Int) (hown : w.ownsRow base 31 2 v n (pcells xs)) (hb : base ≤ w.heap.size) (hn : n ≤ 100000) (hm : m ≤ 100000) :
    Calls Tryd.prog 55 #[v, .int .i64 m, .int .i64 sym] w fun e w' => ∃ v', e = .returned v' ∧ w'.ownsRow base 31 2 v' (n + m.toNat) (pcells (xs ++ List.replicate m.toNat (sym, 0))) ∧ Below base w w' := by
  have HO := Lib.hid hown
  clear hown
  go_enter Tryd.func55, Tryd.ntmps55
  go_wp2_with fail
  go_loopw [0, 7] (fun u i wr => ∃ k : Nat, k ≤ m.toNat ∧ i = .int .i64 k ∧ Hid (wr.ownsRow base 31 2 u (n + k) (pcells (xs ++ List.replicate k (sym, 0)))) ∧ Hid (Below base w wr)) (fun _ i _ => m.toNat - (intOf i).toNat)
  case atStart => exact ⟨0, by omega, rfl, Lib.hid (by simpa using HO.out), Below.refl _ _⟩
  case round =>
    clear HO
    obtain ⟨k, hk, rfl, HO, HW⟩ := hrel
    have hsz := HW.out.size
    by_cases hlt : (k : Int) < m
    · go_wp2_with (at_builtin; refine app_step rfl (.tmp 13) (.tmp 16) rfl base _ _ _ rfl (HO.out.alloc _) wr.heap.size sym 0 rfl (by simp) (by simp) (by omega) (by simp; omega) ?_)
      intro v' w1 h1 hg g' c' hv
      subst hv
      have HO1 := Lib.hid h1
      have HB1 := Lib.hid ((HW.out.alloc (by omega) _).grown hg (by simp; omega) (fun k hk => (HO.out.lt k hk).1))
      clear HO HW h1 hg
      go_wp2_with fail
      go_roundw
      case rel => exact ⟨k + 1, by omega, by go_num, Lib.hid (by rw [List.replicate_succ']; exact HO1.out), HB1⟩
      case measure => simp [intOf]; omega
    · go_wp2_with fail
      go_ret
      obtain rfl : k = m.toNat := by omega
      exact ⟨_, rfl, HO.out, HW.out⟩
end Go.Proofs.YtcblibefmclloaaDoor
