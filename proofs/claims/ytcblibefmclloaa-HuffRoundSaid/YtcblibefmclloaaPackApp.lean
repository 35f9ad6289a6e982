/- Rows of packs that grow. -/
import Derived.Test.YtcblibefmclloaaMStable
import Derived.Test.YtcblibefmclloaaGrow
import Derived.Lib.SliceRun
import Derived.Deep.AppendLies
import Derived.Deep.RegionHeld3
set_option linter.unusedVariables false
set_option linter.unusedSimpArgs false
namespace Go.Proofs.Ytcblibefmclloaa
open Go.RowKit
theorem info_pack : (Try.prog.info? 64).map (fun i => (i.zero, i.size, i.bytes)) = some (some (.agg #[.int .i64 0, .slice none 0 0]), 2, 32) := by kernel_rfl
/-- 's = append(s, p)' of one pack, which lies in a block of its own. -/
theorem app_pack {ops : Array Oper} {rest : List Oper} {o : Oper} {a : Act} {Q : Exit → Act → World → Prop} {w : World} (hgd : o.guard = none) (s x : Operand)
    (ho : o.op = .call { callee := .builtin .append, args := #[s, x], argTypes := #[62, 62] })
    (base : Nat) (v : Value) (n : Nat) (L : List Pk) (hs : a.eval s = v) (hown : w.ownsRow base 64 2 v n (kcells L))
    (b : Nat) (p : Pk) (hx : a.eval x = .slice (some ⟨b, 0, none⟩) 1 1) (h0 : w.cell? ⟨b, 0, none⟩ = some (.int .i64 p.w)) (h1 : w.cell? ⟨b, 1, none⟩ = some (.slice p.a p.n p.c))
    (hn : n ≤ 1000000000) (hbase : base ≤ w.heap.size)
    (h : ∀ v' w', w'.ownsRow base 64 2 v' (n + 1) (kcells (L ++ [p])) → w.grownBy w' v.ownBlock → wpList Try.prog ops Q rest (a.put o.dst v') w') : wpList Try.prog ops Q (o :: rest) a w := by
  obtain ⟨i0, hi, hz0, hz1, hz2⟩ := info_parts info_pack
  refine wpList_append_own _ hgd s x 62 ho base 64 i0 (.agg #[.int .i64 0, .slice none 0 0]) 2 32 Try.underlying62 hi hz0 hz1 hz2 rfl (by decide) v n (kcells L) hs hown ⟨b, 0, none⟩ 1 1 (kcells [p]) hx rfl ?_ (kcells_one _) (by unfold maxLen; omega) (by omega) hbase ?_
  · intro j u hu
    match j, hu with
    | 0, hu => simp [kcells] at hu; subst hu; rw [add_plain]; exact h0
    | 1, hu => simp [kcells] at hu; subst hu; rw [add_plain]; exact h1
    | j + 2, hu => simp [kcells] at hu
  · intro v' w' h2 h3 _
    rw [kcells_append] at h
    exact h v' w' h2 h3
theorem step_pack {ops : Array Oper} {o : Oper} {a : Act} {K : Act → World → Prop} {Q : Exit → Act → World → Prop} {E : Prop} {w : World} (hgd : o.guard = none) (s x : Operand)
    (ho : o.op = .call { callee := .builtin .append, args := #[s, x], argTypes := #[62, 62] })
    (base : Nat) (v : Value) (n : Nat) (L : List Pk) (hs : a.eval s = v) (hown : w.ownsRow base 64 2 v n (kcells L))
    (b : Nat) (p : Pk) (hx : a.eval x = .slice (some ⟨b, 0, none⟩) 1 1) (h0 : w.cell? ⟨b, 0, none⟩ = some (.int .i64 p.w)) (h1 : w.cell? ⟨b, 1, none⟩ = some (.slice p.a p.n p.c))
    (hn : n ≤ 1000000000) (hbase : base ≤ w.heap.size)
    (h : ∀ g' c' w', w'.ownsRow base 64 2 (.slice (some ⟨g', 0, none⟩) (n + 1) c') (n + 1) (kcells (L ++ [p])) → w.grownBy w' v.ownBlock → K (a.put o.dst (.slice (some ⟨g', 0, none⟩) (n + 1) c')) w') :
    if Region.wanted o (yielded ops a.tmps) = true then Oper.wp Try.prog o a w K Q else E := by
  obtain ⟨i0, hi, hz0, hz1, hz2⟩ := info_parts info_pack
  refine step_append_lies _ hgd s x 62 ho base 64 i0 (.agg #[.int .i64 0, .slice none 0 0]) 2 32 Try.underlying62 hi hz0 hz1 hz2 rfl (by decide) v n (kcells L) hs hown ⟨b, 0, none⟩ 1 1 (kcells [p]) hx rfl ?_ (kcells_one _) (by omega) (by unfold maxLen; omega) (by omega) hbase _ rfl ?_
  · intro j u hu
    match j, hu with
    | 0, hu => simp [kcells] at hu; subst hu; rw [add_plain]; exact h0
    | 1, hu => simp [kcells] at hu; subst hu; rw [add_plain]; exact h1
    | j + 2, hu => simp [kcells] at hu
  · intro g' cap w' h2 h3 _ _
    rw [kcells_append] at h
    exact h g' cap w' h2 h3
theorem kcells_at (L : List Pk) (j : Nat) (u : Value) (h : (kcells L)[j]? = some u) : (j % 2 = 0 ∧ u = .int .i64 (kth L (j / 2)).w ∨ j % 2 = 1 ∧ u = .slice (kth L (j / 2)).a (kth L (j / 2)).n (kth L (j / 2)).c) ∧ j / 2 < L.length := by
  have hj := (List.getElem?_eq_some_iff.1 h).1
  rw [kcells_length] at hj
  have hp := kcells_get L [] (j / 2) (by omega)
  rw [List.append_nil] at hp
  refine ⟨?_, by omega⟩
  rcases (by omega : j % 2 = 0 ∨ j % 2 = 1) with e | e
  · left
    rw [show j = j / 2 * 2 by omega, hp.1] at h
    exact ⟨e, (Option.some.inj h).symm⟩
  · right
    rw [show j = j / 2 * 2 + 1 by omega, hp.2] at h
    exact ⟨e, (Option.some.inj h).symm⟩
/-- What a row holds can be read. -/
theorem own_cells {w : World} {base : Nat} {e : TypeId} {size n : Nat} {v : Value} {xs : List Value} (h : w.ownsRow base e size v n xs) (hp : 0 < n) (hsz : 0 < size) :
    ∃ g c, v = .slice (some ⟨g, 0, none⟩) n c ∧ g < w.heap.size ∧ base ≤ g ∧ ∀ j u, xs[j]? = some u → w.cell? ⟨g, j, none⟩ = some u := by
  rcases h.2 with ⟨rfl, h2⟩ | ⟨g, cap, cur, rfl, hb, hh, hc, hm, hs, ht⟩
  · omega
  · refine ⟨g, cap, rfl, (Array.getElem?_eq_some_iff.1 hh).1, hb, fun j u hu => ?_⟩
    have hj := (List.getElem?_eq_some_iff.1 hu).1
    have hl := h.1
    have e1 : cur.toList[j]? = xs[j]? := by rw [← ht, List.getElem?_take, if_pos (by omega)]
    unfold World.cell?
    simp only [hh]
    rw [← Array.getElem?_toList, e1, hu]; rfl
/-- A row of packs as a block, what is spare behind them. -/
theorem own_pb {w : World} {base n : Nat} {v : Value} {L : List Pk} (h : w.ownsRow base 64 2 v n (kcells L)) (hp : 0 < n) :
    ∃ g c R, v = .slice (some ⟨g, 0, none⟩) n c ∧ L.length = n ∧ base ≤ g ∧ PB w g L R ∧ ∀ w' L', PB w' g L' R → L'.length = L.length → w'.ownsRow base 64 2 v n (kcells L') := by
  have hl := h.1
  rw [kcells_length] at hl
  rcases h.2 with ⟨rfl, h2⟩ | ⟨g, cap, cur, rfl, hb, hh, hc, hm, hs, ht⟩
  · omega
  · refine ⟨g, cap, cur.toList.drop (n * 2), rfl, by omega, hb, ?_, fun w' L' h' hl' => ?_⟩
    · show w.heap[g]? = some (.cells (kcells L ++ cur.toList.drop (n * 2)).toArray _ (0, 0))
      rw [← ht, List.take_append_drop, Array.toArray_toList]; exact hh
    · refine ⟨by rw [kcells_length, hl']; omega, .inr ⟨g, cap, _, rfl, hb, h', hc, hm, ?_, ?_⟩⟩
      · have e1 : L'.length = n := by omega
        simp only [List.size_toArray, List.length_append, kcells_length, List.length_drop, Array.length_toList]; omega
      · rw [List.toList_toArray, List.take_left' (by rw [kcells_length]; omega)]
set_option maxRecDepth 100000 in
set_option maxHeartbeats 1000000 in
/-- slices.Clone of packs. -/
theorem clone_calls (w : World) (base : Nat) (v : Value) (n : Nat) (L : List Pk) (ho : w.ownsRow base 64 2 v n (kcells L)) (hp : 0 < n) (hn : n ≤ 1000000000) :
    Calls Try.prog 35 #[v] w fun e w' => ∃ v', e = .returned v' ∧ w'.ownsRow w.heap.size 64 2 v' n (kcells L) ∧ Below w.heap.size w w' := by
  obtain ⟨g, c, rfl, hg, hbg, hcells⟩ := own_cells ho hp (by decide)
  have hl : (kcells L).length = n * 2 := ho.1
  have HC := Lib.hid hcells
  have HL := Lib.hid hl
  clear ho hcells hl
  obtain ⟨i0, hi, hz0, hz1, hz2⟩ := info_parts info_pack
  have HI := Lib.hid hi
  have HZ0 := Lib.hid hz0
  have HZ1 := Lib.hid hz1
  have HZ2 := Lib.hid hz2
  clear hi hz0 hz1 hz2
  have o0 : Hid (∀ w' : World, w'.heap[w.heap.size]? = some (.cells #[] 64 (0, 0)) → w'.ownsRow w.heap.size 64 2 (.slice (some ⟨w.heap.size, 0, none⟩) 0 0) 0 []) := fun w' h => ⟨rfl, .inr ⟨_, 0, #[], rfl, Nat.le_refl _, h, Nat.le_refl _, by unfold maxLen; omega, rfl, rfl⟩⟩
  have hq := fun w => Lib.run_eql_slice_nil (P := Try.prog) w 62 64 (some ⟨g, 0, none⟩) n c 0 0 Try.underlying62
  go_enter Try.func35, Try.ntmps35
  go_wp2_with (at_builtin; refine wpList_append_own _ rfl (.tmp 5) (.tmp 6) 62 rfl w.heap.size 64 i0 (.agg #[.int .i64 0, .slice none 0 0]) 2 32 Try.underlying62 HI.out HZ0.out HZ1.out HZ2.out rfl (by decide) _ 0 [] rfl (o0.out _ ?c1) ⟨g, 0, none⟩ n c (kcells L) rfl HL.out ?c2 (kcells_one _) (by unfold maxLen; omega) (by omega) (by simp) ?_)
  case c1 => exact blk_new w _ []
  case c2 =>
    intro j u hu
    rw [add_plain]
    exact ((Keeps.refl [] w).alloc _).cell (by simp) (HC.out j u hu)
  intro v' w' h2 h3 _
  have H2 := Lib.hid h2
  have H3 := Lib.hid h3
  clear h2 h3
  go_wp2_with fail
  go_ret
  refine ⟨_, rfl, H2.out, ?_⟩
  exact ((Below.refl _ _).alloc (Nat.le_refl _) _).grown H3.out (by simp) (fun k hk => by simp [Value.ownBlock] at hk; omega)
end Go.Proofs.Ytcblibefmclloaa
