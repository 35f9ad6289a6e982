import Derived.Test.YtcblibefmclloaaDoorReadsB
import Derived.Deep.RegionLaw
import Derived.Test.YtcblibefmclloaaDoorReadsA
import Derived.Test.YtcblibefmclloaaDoorReadsE
import Derived.Deep.Onto
import Derived.Laws.AppendOwnNone
import Derived.Laws.OwnMore
import Derived.Lib.SliceRun
import Derived.Test.YtcblibefmclloaaDoorReadsD
import Derived.Deep.RegionWith
set_option linter.unusedVariables false
set_option linter.unusedSimpArgs false
namespace Go.Proofs.YtcblibefmclloaaDoor
open Go.RowKit
set_option maxRecDepth 100000 in
set_option maxHeartbeats 1000000 in
theorem mul64_calls (w : World) (m : Nat) (hm : m ≤ 1000000) :
    Calls Tryd.prog 114 #[.int .u64 1, .int .u64 m] w fun e w' => e = .returned (.tuple #[.int .u64 0, .int .u64 m]) ∧ w = w' := by
  have e1 : Go.bits .and .u64 1 4294967295 = 1 := by rw [u64_mask32 _ (by omega) (by omega)]; rfl
  have e2 : Go.bits .and .u64 0 4294967295 = 0 := by rw [u64_mask32 _ (by omega) (by omega)]; rfl
  have e3 : Go.bits .and .u64 (m : Int) 4294967295 = m := by rw [u64_mask32 _ (by omega) (by omega)]; omega
  have e4 : IntKind.u64.wrap (m : Int) = m := wraps_u64 _ (by omega) (by omega)
  have e5 : (m : Int) / 4294967296 = 0 := by omega
  have e6 : IntKind.u64.wrap 0 = 0 := rfl
  go_enter Tryd.func114, Tryd.ntmps114
  go_wp2
  go_ret2
  exact ⟨rfl, rfl⟩
set_option maxRecDepth 100000 in
set_option maxHeartbeats 1000000 in
theorem mul_calls (w : World) (m : Nat) (hm : m ≤ 1000000) :
    Calls Tryd.prog 104 #[.int .u64 1, .int .u64 m] w fun e w' => e = .returned (.tuple #[.int .u64 0, .int .u64 m]) ∧ w = w' := by
  go_enter Tryd.func104, Tryd.ntmps104
  go_wp2_with fail
  refine (mul64_calls _ _ hm).mono ?_
  rintro e w' ⟨rfl, rfl⟩
  go_wp2_with fail
  go_ret2
  exact ⟨rfl, rfl⟩
end Go.Proofs.YtcblibefmclloaaDoor

set_option linter.unusedVariables false
set_option linter.unusedSimpArgs false
namespace Go.Proofs.YtcblibefmclloaaDoor
open Go.RowKit
theorem ints_one (k : IntKind) (xs : List Int) : ∀ v ∈ ints k xs, v.oneCell' = true := by
  intro u hu; simp only [ints, List.mem_map] at hu; obtain ⟨x, _, rfl⟩ := hu; rfl
theorem rep_src {w : World} {g t k m : Nat} {v : Int} (h : Blk w g t (ints .i64 (List.replicate k v ++ List.replicate m 0))) (j : Nat) (hj : j ≤ k) :
    ∀ i u, (ints .i64 (List.replicate j v))[i]? = some u → w.cell? ((⟨g, 0, none⟩ : Addr).add i) = some u := by
  intro i u hu
  have hi : i < j := by have := (List.getElem?_eq_some_iff.1 hu).1; simpa [ints] using this
  rw [add_plain, h.cell]
  rw [ints_getElem?] at hu ⊢
  rw [List.getElem?_append_left (by simp; omega)]
  simpa [hi, show i < k by omega] using hu
theorem rep_fit {k m q : Nat} {v : Int} (h2 : q ≤ m - k) (h : k < m) : k + (ints .i64 (List.replicate q v)).length ≤ (ints .i64 (List.replicate k v ++ List.replicate (m - k) 0)).length := by
  simp [ints]; omega
theorem rep_splice {k m q : Nat} {v : Int} (h2 : q ≤ m - k) (h : k < m) : splice (ints .i64 (List.replicate k v ++ List.replicate (m - k) 0)) k (ints .i64 (List.replicate q v)) = ints .i64 (List.replicate (k + q) v ++ List.replicate (m - (k + q)) 0) := by
  have e1 : List.replicate (k + q) v = List.replicate k v ++ List.replicate q v := by simp
  rw [e1]
  simp only [splice, ints, List.map_append, List.map_replicate, List.length_replicate, List.append_assoc]
  rw [List.take_append_of_le_length (by simp), List.drop_append]
  simp
  omega
set_option maxRecDepth 100000 in
set_option maxHeartbeats 1000000 in
theorem repeat_calls (w : World) (b c m : Nat) (v : Int) (hc : w.cell? ⟨b, 0, none⟩ = some (.int .i64 v)) (hm1 : 1 ≤ m) (hm : m ≤ 1000000) :
    Calls Tryd.prog 77 #[.slice (some ⟨b, 0, none⟩) 1 c, .int .i64 m] w fun e w' => ∃ g, e = .returned (.slice (some ⟨g, 0, none⟩) m m) ∧ Blk w' g 3 (ints .i64 (List.replicate m v)) ∧ w.heap.size ≤ g ∧ Below w.heap.size w w' := by
  have hbl : b < w.heap.size := World.block_lt_of_cell? _ _ hc
  have e0 : IntKind.u64.wrap (m : Int) = m := wraps_u64 _ (by omega) (by omega)
  have e1 : IntKind.u64.wrap 1 = 1 := rfl
  have e2 : decide ((0 : Int) < 0) = false := rfl
  have e4 : decide ((m : Int) < 0) = false := by simp
  have hmk := fun w => make_ints (P := Tryd.prog) w 22 3 .i64 8 Tryd.underlying22 info_int (m : Int) m rfl (by omega) (by omega)
  go_enter Tryd.func77, Tryd.ntmps77
  go_wp2_with fail
  refine (mul_calls _ _ hm).mono ?_
  rintro e w' ⟨rfl, rfl⟩
  have e3 : decide ((9223372036854775807 : Int) < (m : Int)) = false := by simp; omega
  go_wp2_with (with_reducible refine wpList_copy_splice rfl (.tmp 31) (.tmp 32) _ _ rfl 3 Tryd.underlying22 size_int _ _ _ _ _ _ rfl rfl w.heap.size 0 (ints .i64 (List.replicate m 0)) 3 ?h1 (ints .i64 [v]) ?h2 ?h3 ?h4 ?h5 w.heap.size w ?h6 (Nat.le_refl _) ?_)
  case h1 => exact blk_new w _ _
  case h2 => exact (Nat.min_eq_left hm1).symm
  case h3 =>
    intro _ j u hu
    match j, hu with
    | 0, hu =>
      simp [ints] at hu
      subst hu
      exact hc
    | j + 1, hu => simp [ints] at hu
  case h4 => simp [ints]; omega
  case h5 => intro u hu; simp only [ints, List.mem_map] at hu; obtain ⟨x, _, rfl⟩ := hu; rfl
  case h6 => exact (Below.refl _ _).alloc (Nat.le_refl _) _
  intro w1 hg1 hb1
  have hB : Blk w1 w.heap.size 3 (splice (ints .i64 (List.replicate m 0)) 0 (ints .i64 [v])) := hg1.out
  have hsp : splice (ints .i64 (List.replicate m 0)) 0 (ints .i64 [v]) = ints .i64 (List.replicate 1 v ++ List.replicate (m - 1) 0) := by
    simp [splice, ints]
  rw [hsp] at hB
  clear hg1 hsp hmk hc
  have HB := Lib.hid hB
  have HW := Lib.hid hb1
  clear hB hb1 e0 e1 e2 e3 e4
  go_wp2_with fail
  go_loopw [8] (fun v8 wr => ∃ k : Nat, 1 ≤ k ∧ k ≤ m ∧ v8 = .int .i64 k ∧ Hid (Blk wr w.heap.size 3 (ints .i64 (List.replicate k v ++ List.replicate (m - k) 0))) ∧ Hid (Below w.heap.size w wr)) (fun v8 _ => m - (intOf v8).toNat)
  case atStart => exact ⟨1, by omega, by omega, by go_num, HB, HW⟩
  case round =>
    clear HB HW
    obtain ⟨k, hk1, hk, rfl, HB, HW⟩ := hrel
    by_cases hlt : k < m
    · go_wp2_with fail
      have HLT := Lib.hid hlt
      obtain ⟨q, hq⟩ : ∃ q, q = Nat.min k (m - k) := ⟨_, rfl⟩
      have hq1 : 1 ≤ q := by rw [hq]; exact Nat.le_min.2 ⟨hk1, by omega⟩
      have hq2 : q ≤ m - k := by rw [hq]; exact Nat.min_le_right _ _
      have hq3 : q ≤ k := by rw [hq]; exact Nat.min_le_left _ _
      have HQ := Lib.hid hq
      clear hq
      have hlen : (ints .i64 (List.replicate q v)).length = q := by simp [ints]
      have HLEN := Lib.hid hlen
      have e2 : IntKind.i64.wrap ((k : Int) + (q : Int)) = (k : Int) + (q : Int) := IntWalk.i64_in _ (by omega)
      have e9 : ¬ m = k := by omega
      have HN := Lib.hid e9
      go_region_law (refine step_copy_splice rfl (.tmp 41) (.tmp 44) _ _ rfl 3 Tryd.underlying22 size_int (some ⟨w.heap.size, k, none⟩) (some ⟨w.heap.size, 0, none⟩) (m - k) (m - k) k m (by simp [Act.eval, Act.put, HN.out]) (by simp [Act.eval, Act.put]) w.heap.size k (ints .i64 (List.replicate k v ++ List.replicate (m - k) 0)) 3 (by exact HB.out) (ints .i64 (List.replicate q v)) (by exact HLEN.out.trans HQ.out) (fun _ => ⟨rfl, _, rfl, by exact rep_src HB.out _ hq3⟩) (by exact rep_fit hq2 HLT.out) (by exact ints_one _ _) w.heap.size w (by exact HW.out.drew) (Nat.le_refl _) ?_; intro w4 hg4 hb4)
      all_goals
        have hB4 : Blk w4 w.heap.size 3 (splice (ints .i64 (List.replicate k v ++ List.replicate (m - k) 0)) k (ints .i64 (List.replicate q v))) := hg4.out
        rw [rep_splice hq2 HLT.out] at hB4
        have HB4 := Lib.hid hB4
        have HW4 := Lib.hid hb4
        clear hB4 hb4 hg4 HB HW e9 hlen e2
        go_wp2_with fail
        go_roundw
        case rel => exact ⟨.int .i64 ((k : Int) + q), _, _, _, _, _, _, _, _, _, _, _, _, _, ⟨k + q, by omega, by omega, by go_num, HB4, HW4⟩, rfl⟩
        case measure =>
          show m - (intOf (.int .i64 ((k : Int) + q))).toNat < m - (intOf (.int .i64 (k : Int))).toNat
          simp [intOf]; omega
    · go_wp2_with fail
      obtain rfl : k = m := by omega
      go_ret
      exact ⟨_, rfl, by simpa using HB.out, Nat.le_refl _, HW.out⟩
theorem repeat_calls' (w : World) (b c m : Nat) (mi v : Int) (hmi : mi = m) (hc : w.cell? ⟨b, 0, none⟩ = some (.int .i64 v)) (hm1 : 1 ≤ m) (hm : m ≤ 1000000) :
    Calls Tryd.prog 77 #[.slice (some ⟨b, 0, none⟩) 1 c, .int .i64 mi] w fun e w' => ∃ g, e = .returned (.slice (some ⟨g, 0, none⟩) m m) ∧ Blk w' g 3 (ints .i64 (List.replicate m v)) ∧ w.heap.size ≤ g ∧ Below w.heap.size w w' := by
  subst hmi
  exact repeat_calls w b c m v hc hm1 hm
end Go.Proofs.YtcblibefmclloaaDoor

set_option linter.unusedVariables false
set_option linter.unusedSimpArgs false
namespace Go.Proofs.YtcblibefmclloaaDoor
open Go.RowKit
/-- 's = append(s, ys...)' of numbers, on a row of one's own. -/
theorem app_ints {ops : Array Oper} {rest : List Oper} {o : Oper} {a : Act} {Q : Exit → Act → World → Prop} {w : World} (hgd : o.guard = none) (s x : Operand)
    (ho : o.op = .call { callee := .builtin .append, args := #[s, x], argTypes := #[22, 22] })
    (base : Nat) (v : Value) (n : Nat) (xs : List Int) (hs : a.eval s = v) (hown : w.ownsRow base 3 1 v n (ints .i64 xs))
    (g m c : Nat) (ys : List Int) (hx : a.eval x = .slice (some ⟨g, 0, none⟩) m c) (hy : RI .i64 w (some ⟨g, 0, none⟩) m ys)
    (hn : n + m ≤ 1000000) (hbase : base ≤ w.heap.size)
    (h : ∀ v' w', w'.ownsRow base 3 1 v' (n + m) (ints .i64 (xs ++ ys)) → w.grownBy w' v.ownBlock → wpList Tryd.prog ops Q rest (a.put o.dst v') w') : wpList Tryd.prog ops Q (o :: rest) a w := by
  obtain ⟨i0, hi, hz0, hz1, hz2⟩ := info_parts info_int
  refine wpList_append_own _ hgd s x 22 ho base 3 i0 (.int .i64 0) 1 8 Tryd.underlying22 hi hz0 hz1 hz2 rfl (by decide) v n (ints .i64 xs) hs hown ⟨g, 0, none⟩ m c (ints .i64 ys) hx (by simp [ints, hy.len]) ?_ (ints_one _ _) (by unfold maxLen; omega) (by omega) hbase ?_
  · intro j u hu
    have hj : j < m := by have := (List.getElem?_eq_some_iff.1 hu).1; have := hy.len; simp [ints] at *; omega
    rw [add_plain]
    have hc := hy.cell g 0 rfl j hj
    rw [Nat.zero_add] at hc
    rw [hc, ← hu, ints_getElem?]
    simp [nth, List.getD, show j < ys.length by have := hy.len; omega]
  · intro v' w' h2 h3 _
    have e : ints .i64 (xs ++ ys) = ints .i64 xs ++ ints .i64 ys := by simp [ints]
    rw [e] at h
    exact h v' w' h2 h3
/-- What adding a step answers. -/
def Added (w : World) (base : Nat) (r : Option (List Int)) (e : Ending) (w' : World) : Prop :=
  match r with
  | some l => ∃ v, e = .returned (.tuple #[v, .bool true]) ∧ w'.ownsRow base 3 1 v l.length (ints .i64 l) ∧ Below base w w'
  | none => e = .returned (.tuple #[.slice none 0 0, .bool false]) ∧ Below base w w'
set_option maxRecDepth 100000 in
set_option maxHeartbeats 1000000 in
theorem add_bad (w : World) (base len c : Nat) (A : Option Addr) (l : List Int) (sym extra n : Int) (hb : base ≤ w.heap.size) (hs : sym < 0 ∨ 18 < sym) :
    Calls Tryd.prog 56 #[.slice A len c, .agg #[.int .i64 sym, .int .i64 extra], .int .i64 n] w (Added w base (addF l sym extra n)) := by
  have hr : addF l sym extra n = none := addF_none (by rcases hs with h | h; exact sayF_lit_none (by omega) (Or.inl h); exact sayF_big h)
  rw [hr]
  clear hr
  rcases hs with h | h
  · have e1 : decide (sym < 0) = true := by simpa using h
    go_enter Tryd.func56, Tryd.ntmps56
    go_wp2_with fail
    go_quiet (fail)
    go_wp2_with fail
    go_ret2
    exact ⟨rfl, (((Keeps.refl [] w).alloc _).drewN _).below.mono hb⟩
  · have e1 : decide (sym < 0) = false := by simp; omega
    have e2 : decide (19 ≤ sym) = true := by simp; omega
    go_enter Tryd.func56, Tryd.ntmps56
    go_wp2_with fail
    go_quiet (fail)
    go_wp2_with fail
    go_ret2
    exact ⟨rfl, (((Keeps.refl [] w).alloc _).drewN _).below.mono hb⟩
set_option maxRecDepth 100000 in
set_option maxHeartbeats 1000000 in
theorem add_neg (w : World) (base len c : Nat) (A : Option Addr) (l : List Int) (sym extra n : Int) (hb : base ≤ w.heap.size) (h0 : 0 ≤ sym) (h18 : sym ≤ 18) (hs : extra < 0) :
    Calls Tryd.prog 56 #[.slice A len c, .agg #[.int .i64 sym, .int .i64 extra], .int .i64 n] w (Added w base (addF l sym extra n)) := by
  have hr : addF l sym extra n = none := addF_none (by
    rcases (by omega : sym ≤ 15 ∨ sym = 16 ∨ sym = 17 ∨ sym = 18) with h | rfl | rfl | rfl
    · exact sayF_lit_none (by omega) (Or.inr (by omega))
    · exact sayF_16_none (Or.inl hs)
    · exact sayF_17_none (Or.inl hs)
    · exact sayF_18_none (Or.inl hs))
  rw [hr]
  clear hr
  have e1 : decide (sym < 0) = false := by simp; omega
  have e2 : decide (19 ≤ sym) = false := by simp; omega
  have e3 : decide (extra < 0) = true := by simpa using hs
  go_enter Tryd.func56, Tryd.ntmps56
  go_wp2_with fail
  go_quiet (fail)
  go_wp2_with fail
  go_ret2
  exact ⟨rfl, (((Keeps.refl [] w).alloc _).drewN _).below.mono hb⟩
/-- Of literal lengths: no more is said. -/
theorem wide0 (s : Nat) (h : s ≤ 15) : nth wideL s = 0 := by
  rcases (by omega : s = 0 ∨ s = 1 ∨ s = 2 ∨ s = 3 ∨ s = 4 ∨ s = 5 ∨ s = 6 ∨ s = 7 ∨ s = 8 ∨ s = 9 ∨ s = 10 ∨ s = 11 ∨ s = 12 ∨ s = 13 ∨ s = 14 ∨ s = 15) with rfl | rfl | rfl | rfl | rfl | rfl | rfl | rfl | rfl | rfl | rfl | rfl | rfl | rfl | rfl | rfl <;> rfl
set_option maxRecDepth 100000 in
set_option maxHeartbeats 1000000 in
theorem add_over (w : World) (base len c : Nat) (A : Option Addr) (l : List Int) (s : Nat) (extra n : Int) (hb : base ≤ w.heap.size) (ht : Tabs w) (h0 : 0 ≤ extra)
    (hs : s ≤ 15 ∧ 1 ≤ extra ∨ s = 16 ∧ 4 ≤ extra ∨ s = 17 ∧ 8 ≤ extra ∨ s = 18 ∧ 128 ≤ extra) :
    Calls Tryd.prog 56 #[.slice A len c, .agg #[.int .i64 s, .int .i64 extra], .int .i64 n] w (Added w base (addF l s extra n)) := by
  have e1 : decide ((s : Int) < 0) = false := by simp
  have e2 : decide (19 ≤ (s : Int)) = false := by simp; omega
  have e3 : decide (extra < 0) = false := by simp; omega
  have hl : (s : Int) < 19 := by omega
  have hc := ht.wid.cell _ _ rfl s (by omega)
  rw [Nat.zero_add] at hc
  clear ht
  rcases hs with ⟨h, hs⟩ | ⟨rfl, hs⟩ | ⟨rfl, hs⟩ | ⟨rfl, hs⟩
  · have hr : addF l s extra n = none := addF_none (sayF_lit_none (by omega) (Or.inr (by omega)))
    rw [hr]
    clear hr
    rw [wide0 s h] at hc
    have hc' := fun o => ((Keeps.refl [] w).alloc o).cell (by simp) hc
    clear hc
    have e4 : decide (1 ≤ extra) = true := by simpa using hs
    go_enter Tryd.func56, Tryd.ntmps56
    go_wp2_with fail
    go_quiet (fail)
    go_wp2_with fail
    go_ret2
    exact ⟨rfl, (((Keeps.refl [] w).alloc _).drewN _).below.mono hb⟩
  · have hr : addF l ((16 : Nat) : Int) extra n = none := addF_none (sayF_16_none (Or.inr (Or.inl (by omega))))
    rw [hr]
    clear hr
    rw [show nth wideL 16 = 2 from rfl] at hc
    have hc' := fun o => ((Keeps.refl [] w).alloc o).cell (by simp) hc
    clear hc
    have e4 : decide (4 ≤ extra) = true := by simpa using hs
    go_enter Tryd.func56, Tryd.ntmps56
    go_wp2_with fail
    go_quiet (fail)
    go_wp2_with fail
    go_ret2
    exact ⟨rfl, (((Keeps.refl [] w).alloc _).drewN _).below.mono hb⟩
  · have hr : addF l ((17 : Nat) : Int) extra n = none := addF_none (sayF_17_none (Or.inr (by omega)))
    rw [hr]
    clear hr
    rw [show nth wideL 17 = 3 from rfl] at hc
    have hc' := fun o => ((Keeps.refl [] w).alloc o).cell (by simp) hc
    clear hc
    have e4 : decide (8 ≤ extra) = true := by simpa using hs
    go_enter Tryd.func56, Tryd.ntmps56
    go_wp2_with fail
    go_quiet (fail)
    go_wp2_with fail
    go_ret2
    exact ⟨rfl, (((Keeps.refl [] w).alloc _).drewN _).below.mono hb⟩
  · have hr : addF l ((18 : Nat) : Int) extra n = none := addF_none (sayF_18_none (Or.inr (by omega)))
    rw [hr]
    clear hr
    rw [show nth wideL 18 = 7 from rfl] at hc
    have hc' := fun o => ((Keeps.refl [] w).alloc o).cell (by simp) hc
    clear hc
    have e4 : decide (128 ≤ extra) = true := by simpa using hs
    go_enter Tryd.func56, Tryd.ntmps56
    go_wp2_with fail
    go_quiet (fail)
    go_wp2_with fail
    go_ret2
    exact ⟨rfl, (((Keeps.refl [] w).alloc _).drewN _).below.mono hb⟩
set_option maxRecDepth 100000 in
set_option maxHeartbeats 1000000 in
/-- '16' with nothing to say again. -/
theorem add_first (w : World) (base c : Nat) (A : Option Addr) (extra n : Int) (hb : base ≤ w.heap.size) (ht : Tabs w) (h0 : 0 ≤ extra) (h3 : extra ≤ 3) :
    Calls Tryd.prog 56 #[.slice A 0 c, .agg #[.int .i64 16, .int .i64 extra], .int .i64 n] w (Added w base (addF [] 16 extra n)) := by
  have hr : addF [] 16 extra n = none := addF_none (sayF_16_none (Or.inr (Or.inr rfl)))
  rw [hr]
  clear hr
  have e3 : decide (extra < 0) = false := by simp; omega
  have e4 : decide (4 ≤ extra) = false := by simp; omega
  have hc := ht.wid.cell _ _ rfl 16 (by omega)
  rw [Nat.zero_add, show nth wideL 16 = 2 from rfl] at hc
  have hd := ht.fro.cell _ _ rfl 16 (by omega)
  rw [Nat.zero_add, show nth fromL 16 = 3 from rfl] at hd
  have hc' := fun o => ((Keeps.refl [] w).alloc o).cell (by simp) hc
  have hd' := fun o => ((Keeps.refl [] w).alloc o).cell (by simp) hd
  have e2 : IntKind.i64.wrap (3 + extra) = 3 + extra := IntWalk.i64_in _ (by omega)
  clear hc hd ht
  go_enter Tryd.func56, Tryd.ntmps56
  go_wp2_with fail
  go_quiet (fail)
  go_wp2_with fail
  go_quiet (fail)
  go_wp2_with fail
  go_ret2
  exact ⟨rfl, (((Keeps.refl [] w).alloc _).drewN _).below.mono hb⟩
end Go.Proofs.YtcblibefmclloaaDoor

set_option linter.unusedVariables false
set_option linter.unusedSimpArgs false
namespace Go.Proofs.YtcblibefmclloaaDoor
open Go.RowKit
/-- 's = append(s, ys...)' of numbers, whatever slice the source is. -/
theorem app_any {ops : Array Oper} {rest : List Oper} {o : Oper} {a : Act} {Q : Exit → Act → World → Prop} {w : World} (hgd : o.guard = none) (s x : Operand)
    (ho : o.op = .call { callee := .builtin .append, args := #[s, x], argTypes := #[22, 22] })
    (base : Nat) (v : Value) (n : Nat) (xs : List Int) (hs : a.eval s = v) (hown : w.ownsRow base 3 1 v n (ints .i64 xs))
    (A : Option Addr) (m c : Nat) (ys : List Int) (hx : a.eval x = .slice A m c) (hy : RI .i64 w A m ys) (hnil : A = none → m = 0 ∧ c = 0) (hpl : ∀ ad, A = some ad → ∃ b o, ad = ⟨b, o, none⟩)
    (hn : n + m ≤ 1000000) (hbase : base ≤ w.heap.size)
    (h : ∀ v' w', w'.ownsRow base 3 1 v' (n + m) (ints .i64 (xs ++ ys)) → w.grownBy w' v.ownBlock → wpList Tryd.prog ops Q rest (a.put o.dst v') w') : wpList Tryd.prog ops Q (o :: rest) a w := by
  obtain ⟨i0, hi, hz0, hz1, hz2⟩ := info_parts info_int
  cases A with
  | none =>
    obtain ⟨rfl, rfl⟩ := hnil rfl
    obtain rfl : ys = [] := List.eq_nil_of_length_eq_zero hy.len
    refine wpList_append_own_none hgd s x 22 ho base 3 i0 1 Tryd.underlying22 hi v n (ints .i64 xs) hs hown hx ?_
    exact h v w (by simpa using hown) ⟨rfl, rfl, rfl, Nat.le_refl _, fun _ _ _ => rfl⟩
  | some ad =>
    obtain ⟨b, of, rfl⟩ := hpl ad rfl
    refine wpList_append_own _ hgd s x 22 ho base 3 i0 (.int .i64 0) 1 8 Tryd.underlying22 hi hz0 hz1 hz2 rfl (by decide) v n (ints .i64 xs) hs hown ⟨b, of, none⟩ m c (ints .i64 ys) hx (by simp [ints, hy.len]) ?_ (ints_one _ _) (by unfold maxLen; omega) (by omega) hbase ?_
    · intro j u hu
      have hj : j < m := by have := (List.getElem?_eq_some_iff.1 hu).1; have := hy.len; simp [ints] at *; omega
      rw [add_plain2]
      have hc := hy.cell b of rfl j hj
      rw [hc, ← hu, ints_getElem?]
      simp [nth, List.getD, show j < ys.length by have := hy.len; omega]
    · intro v' w' h2 h3 _
      have e : ints .i64 (xs ++ ys) = ints .i64 xs ++ ints .i64 ys := by simp [ints]
      rw [e] at h
      exact h v' w' h2 h3
/-- What adding a step answers by the document. -/
def WithV (w : World) (r : Option (List Int)) (e : Ending) (w' : World) : Prop :=
  match r with
  | some l => ∃ v, e = .returned (.tuple #[v, .int .i64 0]) ∧ w'.ownsRow w.heap.size 3 1 v l.length (ints .i64 l) ∧ Below w.heap.size w w'
  | none => e = .returned (.tuple #[.slice none 0 0, .int .i64 41]) ∧ Below w.heap.size w w'
theorem new_ri (w : World) (t : TypeId) (v : Int) : RI .i64 (w.alloc (.cells #[.int .i64 v] t)) (some ⟨w.heap.size, 0, none⟩) 1 [v] := by
  have h : Blk (w.alloc (.cells (ints .i64 [v]).toArray t (0, 0))) w.heap.size t (ints .i64 ([v] ++ [])) := blk_new w t _
  exact h.ri
set_option maxRecDepth 100000 in
set_option maxHeartbeats 1000000 in
theorem with_calls (w : World) (len c : Nat) (A : Option Addr) (l : List Int) (sym extra n : Int) (hl : RI .i64 w A len l) (hn : len ≤ 1000) (hnil : A = none → len = 0 ∧ c = 0) (hpl : ∀ ad, A = some ad → ∃ b o, ad = ⟨b, o, none⟩) :
    Calls Tryd.prog 57 #[.slice A len c, .agg #[.int .i64 sym, .int .i64 extra], .int .i64 n] w (WithV w (addF l sym extra n)) := by
  have HL := Lib.hid hl
  have HNIL := Lib.hid hnil
  have HPL := Lib.hid hpl
  clear hl hnil hpl
  go_enter Tryd.func57, Tryd.ntmps57
  go_wp2_with fail
  refine (says_calls _ _ _ _ l _ _ (HL.out.keeps ((Keeps.refl _ _).alloc _) (off_nil _)) (by omega)).mono ?_
  rintro e w1 ⟨rfl, hk⟩
  have HK := Lib.hid ((Keeps.refl [] w).alloc _ |>.trans hk)
  clear hk
  cases hs : sayF l sym extra with
  | none =>
    have HR := Lib.hid (addF_none (n := n) hs)
    rw [saidV]
    clear hs
    go_wp2_with fail
    go_ret2
    rw [HR.out]
    exact ⟨rfl, HK.out.below⟩
  | some p =>
    obtain ⟨v, k⟩ := p
    have hkp := sayF_pos hs
    have HS := Lib.hid hs
    rw [saidV]
    clear hs
    by_cases hm : n < (len : Int) + (k : Int)
    · have HR := Lib.hid (addF_many (n := n) HS.out (by have := HL.out.len; omega))
      go_wp2_with fail
      go_ret2
      rw [HR.out]
      exact ⟨rfl, HK.out.below⟩
    · have HR := Lib.hid (addF_some (n := n) HS.out (by have := HL.out.len; omega))
      have hsz := HK.out.size
      go_wp2_with (at_builtin; refine app_any rfl (.tmp 30) (.tmp 31) rfl w.heap.size _ _ [] rfl (World.ownsRow_nil _ _ _ _) A len c l rfl (HL.out.keeps HK.out (off_nil _)) HNIL.out HPL.out (by omega) hsz ?_)
      intro v1 w2 h1 hg1
      have H1 := Lib.hid h1
      have HB1 := Lib.hid (HK.out.below.grown hg1 hsz (fun k hk => by simp [Value.ownBlock] at hk))
      clear h1 hg1
      go_wp2_with fail
      go_loopw [11, 12] (fun u i wr => ∃ j : Nat, j ≤ k ∧ i = .int .i64 j ∧ Hid (wr.ownsRow w.heap.size 3 1 u (len + j) (ints .i64 (l ++ List.replicate j v))) ∧ Hid (Below w.heap.size w wr)) (fun _ i _ => k - (intOf i).toNat)
      case atStart => exact ⟨0, by omega, rfl, Lib.hid (by simpa using H1.out), HB1⟩
      case round =>
        clear H1 HB1
        obtain ⟨j, hj, rfl, HO, HW⟩ := hrel
        have hsz2 := HW.out.size
        by_cases hlt : j < k
        · go_wp2_with (at_builtin; refine app_ints rfl (.tmp 38) (.tmp 40) rfl w.heap.size _ _ _ rfl (HO.out.alloc _) wr.heap.size 1 1 [v] rfl (new_ri _ _ _) (by omega) (by simp; omega) ?_)
          intro v1 w2 h1 hg1
          have H1 := Lib.hid h1
          have HB1 := Lib.hid ((HW.out.alloc (by omega) _).grown hg1 (by simp; omega) (fun k hk => (HO.out.lt k hk).1))
          clear h1 hg1 HO HW
          go_wp2_with fail
          go_roundw
          case rel => exact ⟨j + 1, by omega, by go_num, Lib.hid (by rw [List.replicate_succ']; simpa [Nat.add_assoc] using H1.out), HB1⟩
          case measure => simp [intOf]; omega
        · obtain rfl : j = k := by omega
          go_wp2_with fail
          go_ret2
          rw [HR.out]
          refine ⟨_, rfl, ?_, HW.out⟩
          rw [show (l ++ List.replicate j v).length = len + j by have := HL.out.len; simp; omega]
          exact HO.out
end Go.Proofs.YtcblibefmclloaaDoor

set_option linter.unusedVariables false
set_option linter.unusedSimpArgs false
namespace Go.Proofs.YtcblibefmclloaaDoor
open Go.RowKit
def sLen : Value → Nat
  | .slice _ n _ => n
  | _ => 0
set_option maxRecDepth 100000 in
set_option maxHeartbeats 400000 in
theorem cloneI_calls (w : World) (A : Option Addr) (n c : Nat) (xs : List Int) (hx : RI .i64 w A n xs) (hnil : A = none → n = 0 ∧ c = 0) (hpl : ∀ ad, A = some ad → ∃ b o, ad = ⟨b, o, none⟩) (hn : n ≤ 100000) :
    Calls Tryd.prog 82 #[.slice A n c] w fun e w' => ∃ v, e = .returned v ∧ w'.ownsRow w.heap.size 3 1 v n (ints .i64 xs) ∧ Below w.heap.size w w' := by
  have HX := Lib.hid hx
  have HP := Lib.hid hpl
  clear hx hpl
  go_enter Tryd.func82, Tryd.ntmps82
  cases A with
  | none =>
    obtain ⟨rfl, rfl⟩ := hnil rfl
    obtain rfl : xs = [] := List.eq_nil_of_length_eq_zero HX.out.len
    have hq := fun w => Lib.run_eql_slice_nil (P := Tryd.prog) w 22 3 none 0 0 0 0 Tryd.underlying22
    go_wp2_with fail
    go_ret
    exact ⟨_, rfl, World.ownsRow_nil _ _ _ _, Below.refl _ _⟩
  | some ad =>
    obtain ⟨b, o, rfl⟩ := HP.out ad rfl
    have hq := fun w => Lib.run_eql_slice_nil (P := Tryd.prog) w 22 3 (some ⟨b, o, none⟩) n c 0 0 Tryd.underlying22
    have HO : Hid ((w.alloc (.cells #[] 3)).ownsRow w.heap.size 3 1 (.slice (some ⟨w.heap.size, 0, none⟩) 0 0) 0 (ints .i64 [])) := Lib.hid (World.ownsRow_lit w #[] 0 (Nat.le_refl _) (by decide) rfl)
    have HR := Lib.hid (HX.out.keeps ((Keeps.refl [] w).alloc (.cells #[] 3)) (off_nil _))
    go_wp2_with (at_builtin; refine app_any rfl (.tmp 5) (.tmp 6) rfl w.heap.size _ _ [] rfl (by exact HO.out) (some ⟨b, o, none⟩) n c xs rfl (by exact HR.out) (by simp) (by intro ad h; exact ⟨_, _, (Option.some.inj h).symm⟩) (by omega) (by simp) ?_)
    intro v1 w1 ho1 hg1
    have HB1 := Lib.hid ((((Below.refl w.heap.size w).alloc (Nat.le_refl _) (.cells #[] 3))).grown hg1 (by simp) (fun k hk => (HO.out.lt k hk).1))
    have HO1 := Lib.hid ho1
    clear ho1 hg1
    go_wp2_with fail
    go_ret
    exact ⟨_, rfl, by simpa using HO1.out, HB1.out⟩
end Go.Proofs.YtcblibefmclloaaDoor

set_option linter.unusedVariables false
set_option linter.unusedSimpArgs false
namespace Go.Proofs.YtcblibefmclloaaDoor
open Go.RowKit
theorem rep_ri {w : World} {g t m : Nat} {v : Int} (h : Blk w g t (ints .i64 (List.replicate m v))) : RI .i64 w (some ⟨g, 0, none⟩) m (List.replicate m v) := by
  have := Blk.ri (ys := []) (xs := List.replicate m v) (by simpa using h)
  simpa using this
set_option maxRecDepth 100000 in
set_option maxHeartbeats 1000000 in
theorem add_good (w : World) (base len : Nat) (u : Value) (l : List Int) (s : Nat) (extra n v : Int) (k : Nat) (hb : base ≤ w.heap.size) (ht : Tabs w) (hu : w.ownsRow base 3 1 u len (ints .i64 l)) (hlen : len ≤ 1000) (hsay : sayF l s extra = some (v, k)) :
    Calls Tryd.prog 56 #[u, .agg #[.int .i64 s, .int .i64 extra], .int .i64 n] w (Added w base (addF l s extra n)) := by
  obtain ⟨A, c, rfl, hri, hcap, hblk⟩ := own_ri hu
  have hll : l.length = len := hri.len
  have hkp := sayF_pos hsay
  have HS := Lib.hid hsay
  have HU := Lib.hid hu
  clear hu
  have HC : Hid (s ≤ 15 ∧ extra = 0 ∧ v = s ∧ k = 1 ∨ s = 16 ∧ 0 ≤ extra ∧ extra ≤ 3 ∧ 1 ≤ len ∧ v = nth l (len - 1) ∧ (k : Int) = 3 + extra ∨ s = 17 ∧ 0 ≤ extra ∧ extra ≤ 7 ∧ v = 0 ∧ (k : Int) = 3 + extra ∨ s = 18 ∧ 0 ≤ extra ∧ extra ≤ 127 ∧ v = 0 ∧ (k : Int) = 11 + extra) := by
    simp only [sayF] at hsay
    split at hsay
    · rename_i h; simp at hsay; exact Or.inl ⟨by omega, h.2.2, hsay.1.symm, hsay.2.symm⟩
    · split at hsay
      · rename_i h; simp at hsay
        have : 1 ≤ l.length := by
          rcases Nat.eq_zero_or_pos l.length with h' | h'
          · exact absurd (List.eq_nil_of_length_eq_zero h') h.2.2.2
          · exact h'
        exact Or.inr (Or.inl ⟨by omega, h.2.1, h.2.2.1, by omega, by rw [← hll]; simpa [nth] using hsay.1.symm, by omega⟩)
      · split at hsay
        · rename_i h; simp at hsay; exact Or.inr (Or.inr (Or.inl ⟨by omega, h.2.1, h.2.2, hsay.1.symm, by omega⟩))
        · split at hsay
          · rename_i h; simp at hsay; exact Or.inr (Or.inr (Or.inr ⟨by omega, h.2.1, h.2.2, hsay.1.symm, by omega⟩))
          · simp at hsay
  clear hsay
  have hglob : ∀ (j : Nat) (o : Obj), j < 19 → (w.alloc o).cell? ⟨2, j, none⟩ = some (.int .i64 (nth wideL j)) ∧ (w.alloc o).cell? ⟨0, j, none⟩ = some (.int .i64 (nth fromL j)) := fun j o hj => by
    have h1 := ht.wid.cell _ _ rfl j hj
    have h2 := ht.fro.cell _ _ rfl j hj
    rw [Nat.zero_add] at h1 h2
    exact ⟨((Keeps.refl [] w).alloc o).cell (by simp) h1, ((Keeps.refl [] w).alloc o).cell (by simp) h2⟩
  have HR := Lib.hid hri
  clear ht hri hll
  have e1 : decide ((s : Int) < 0) = false := by simp
  rcases HC.out with ⟨hs, rfl, hv, hk0⟩ | ⟨rfl, hx0, hx3, hl1, hv, hk⟩ | ⟨rfl, hx0, hx3, hv, hk⟩ | ⟨rfl, hx0, hx3, hv, hk⟩
  case' inl =>
    have hk1 : (k : Int) ≤ 1 := by omega
    have hk2 : 1 ≤ (k : Int) := by omega
    have HV := Lib.hid hv
    clear hv hk0
    have e2 : decide (19 ≤ (s : Int)) = false := by simp; omega
    have hl : (s : Int) < 19 := by omega
    have hc := fun o => (hglob s o (by omega)).1
    rw [wide0 s hs] at hc
    have e5 : decide (15 < (s : Int)) = false := by simp; omega
    have e6 : ((s : Int) == 16) = false := by simp; omega
    clear hglob HC
    go_enter Tryd.func56, Tryd.ntmps56
    go_wp2_with fail
    go_quiet (fail)
    go_upto_region 10 with (fail)
  case' inr.inl =>
    have hk1 : (k : Int) ≤ 3 + extra := by omega
    have hk2 : 3 + extra ≤ (k : Int) := by omega
    have HV := Lib.hid hv
    clear hv hk
    have e3 : decide (extra < 0) = false := by simp; omega
    have e4 : decide (4 ≤ extra) = false := by simp; omega
    have hc := fun o => (hglob 16 o (by omega)).1
    have hd := fun o => (hglob 16 o (by omega)).2
    rw [show nth wideL 16 = 2 from rfl] at hc
    rw [show nth fromL 16 = 3 from rfl] at hd
    have e2 : IntKind.i64.wrap (3 + extra) = 3 + extra := IntWalk.i64_in _ (by omega)
    obtain ⟨b, o, rfl, hlast⟩ := HR.out.at (show len - 1 < len by omega)
    have hlast' := fun ob => ((Keeps.refl [] w).alloc ob).cell (by simp) hlast
    have e7 : ((len : Int) == 0) = false := by simp; omega
    have e8 : ((len : Int) - 1).toNat = len - 1 := by omega
    clear hglob HC hlast
    go_enter Tryd.func56, Tryd.ntmps56
    go_wp2_with fail
    go_quiet (fail)
    go_wp2_with fail
    go_quiet (fail)
    go_upto_region 10 with (fail)
  case' inr.inr.inl =>
    have hk1 : (k : Int) ≤ 3 + extra := by omega
    have hk2 : 3 + extra ≤ (k : Int) := by omega
    have HV := Lib.hid hv
    clear hv hk
    have e3 : decide (extra < 0) = false := by simp; omega
    have e4 : decide (8 ≤ extra) = false := by simp; omega
    have hc := fun o => (hglob 17 o (by omega)).1
    have hd := fun o => (hglob 17 o (by omega)).2
    rw [show nth wideL 17 = 3 from rfl] at hc
    rw [show nth fromL 17 = 3 from rfl] at hd
    have e2 : IntKind.i64.wrap (3 + extra) = 3 + extra := IntWalk.i64_in _ (by omega)
    clear hglob HC
    go_enter Tryd.func56, Tryd.ntmps56
    go_wp2_with fail
    go_quiet (fail)
    go_wp2_with fail
    go_quiet (fail)
    go_upto_region 10 with (fail)
  case' inr.inr.inr =>
    have hk1 : (k : Int) ≤ 11 + extra := by omega
    have hk2 : 11 + extra ≤ (k : Int) := by omega
    have HV := Lib.hid hv
    clear hv hk
    have e3 : decide (extra < 0) = false := by simp; omega
    have e4 : decide (128 ≤ extra) = false := by simp; omega
    have hc := fun o => (hglob 18 o (by omega)).1
    have hd := fun o => (hglob 18 o (by omega)).2
    rw [show nth wideL 18 = 7 from rfl] at hc
    rw [show nth fromL 18 = 11 from rfl] at hd
    have e2 : IntKind.i64.wrap (11 + extra) = 11 + extra := IntWalk.i64_in _ (by omega)
    clear hglob HC
    go_enter Tryd.func56, Tryd.ntmps56
    go_wp2_with fail
    go_quiet (fail)
    go_wp2_with fail
    go_quiet (fail)
    go_upto_region 10 with (fail)
  all_goals
    by_cases hn : n < (len : Int) + (k : Int)
    · go_wp2_with fail
      go_ret2
      rw [addF_many HS.out (by have := HR.out.len; omega)]
      exact ⟨rfl, Keeps.below (by repeat (first | exact Keeps.refl _ _ | apply Keeps.drewN | apply Keeps.alloc)) |>.mono hb⟩
    · go_wp2_with fail
      refine (repeat_calls' _ _ _ k _ v (by omega) (by rw [HV.out]; go_simp) (by omega) (by omega)).mono ?_
      rintro e w6 ⟨g, rfl, hB, hg, hb6⟩
      have hK : Keeps [] w w6 := Keeps.trans (by repeat (first | exact Keeps.refl _ _ | apply Keeps.drewN | apply Keeps.alloc)) (Keeps.of_below hb6)
      have hO := own_keeps HU.out hK (by simp)
      have hRI := rep_ri hB
      have hsz : base ≤ w6.heap.size := Nat.le_trans hb hK.size
      have HO := Lib.hid hO
      have HRI := Lib.hid hRI
      have HK := Lib.hid hK
      clear hB hb6 hO hRI hK hg
      go_wp2_with (at_builtin; refine app_ints rfl (.tmp 63) (.tmp 67) rfl base _ _ _ rfl HO.out g k k (List.replicate k v) rfl HRI.out (by omega) hsz ?_)
      intro v' w7 h7 hg7
      have H7 := Lib.hid h7
      have HG := Lib.hid hg7
      clear h7 hg7
      go_wp2_with fail
      go_ret2
      rw [addF_some HS.out (by have := HR.out.len; omega)]
      refine ⟨v', rfl, ?_, ?_⟩
      · rw [show (l ++ List.replicate k v).length = len + k by have := HR.out.len; simp; omega]; exact H7.out
      · exact ((HK.out.below.mono hb).grown HG.out hsz (fun k hk => (HU.out.lt k hk).1))
end Go.Proofs.YtcblibefmclloaaDoor

set_option linter.unusedVariables false
set_option linter.unusedSimpArgs false
namespace Go.Proofs.YtcblibefmclloaaDoor
open Go.RowKit
theorem add_calls (w : World) (base len : Nat) (u : Value) (l : List Int) (sym extra n : Int) (hb : base ≤ w.heap.size) (ht : Tabs w) (hu : w.ownsRow base 3 1 u len (ints .i64 l)) (hlen : len ≤ 1000) :
    Calls Tryd.prog 56 #[u, .agg #[.int .i64 sym, .int .i64 extra], .int .i64 n] w (Added w base (addF l sym extra n)) := by
  cases hsay : sayF l sym extra with
  | some p =>
    obtain ⟨v, k⟩ := p
    have h0 : 0 ≤ sym := by
      rcases Int.lt_or_le sym 0 with h | h
      · rw [sayF_lit_none (by omega) (Or.inl h)] at hsay; cases hsay
      · exact h
    obtain ⟨s, rfl⟩ := Int.eq_ofNat_of_zero_le h0
    exact add_good w base len u l s extra n v k hb ht hu hlen hsay
  | none =>
    obtain ⟨A, c, rfl, hri, hcap, hblk⟩ := own_ri hu
    by_cases hs : sym < 0 ∨ 18 < sym
    · exact add_bad w base len c A l sym extra n hb hs
    · by_cases hx : extra < 0
      · exact add_neg w base len c A l sym extra n hb (by omega) (by omega) hx
      · obtain ⟨s, rfl⟩ := Int.eq_ofNat_of_zero_le (show 0 ≤ sym by omega)
        by_cases ho : s ≤ 15 ∧ 1 ≤ extra ∨ s = 16 ∧ 4 ≤ extra ∨ s = 17 ∧ 8 ≤ extra ∨ s = 18 ∧ 128 ≤ extra
        · exact add_over w base len c A l s extra n hb ht (by omega) ho
        · rcases (by omega : s ≤ 15 ∨ s = 16 ∨ s = 17 ∨ s = 18) with h | rfl | rfl | rfl
          · obtain rfl : extra = 0 := by omega
            rw [sayF_lit (by omega) (by omega)] at hsay; cases hsay
          · have hl : l = [] := by
              rcases Classical.em (l = []) with h | h
              · exact h
              · rw [show ((16 : Nat) : Int) = 16 from rfl, sayF_16 (by omega) (by omega) h] at hsay; cases hsay
            subst hl
            obtain rfl : len = 0 := by have := hri.len; simpa using this.symm
            exact add_first w base c A extra n hb ht (by omega) (by omega)
          · rw [show ((17 : Nat) : Int) = 17 from rfl, sayF_17 (by omega) (by omega)] at hsay; cases hsay
          · rw [show ((18 : Nat) : Int) = 18 from rfl, sayF_18 (by omega) (by omega)] at hsay; cases hsay
/-- What unpacking answers. -/
def Unpacked (w : World) (r : List Int × Int) (e : Ending) (w' : World) : Prop :=
  ∃ v, e = .returned (.tuple #[v, .int .i64 r.2]) ∧ w'.ownsRow w.heap.size 3 1 v r.1.length (ints .i64 r.1) ∧ Below w.heap.size w w'
theorem unpacked_nil (w w' : World) (r : List Int × Int) (e : Int) (hr : r = ([], e)) (h : Below w.heap.size w w') : Unpacked w r (.returned (.tuple #[.slice none 0 0, .int .i64 e])) w' := by
  subst hr
  exact ⟨_, rfl, World.ownsRow_nil _ _ _ _, h⟩
theorem pth_drop {xs : List (Int × Int)} {k : Nat} (h : k < xs.length) : xs.drop k = pth xs k :: xs.drop (k + 1) := by
  rw [List.drop_eq_getElem_cons h]; simp [pth, List.getD, h]
set_option maxRecDepth 100000 in
set_option maxHeartbeats 1000000 in
theorem unpack_calls (w : World) (A : Option Addr) (m c : Nat) (xs : List (Int × Int)) (n : Int) (ht : Tabs w) (hx : RP w A m xs) (hm : m ≤ 140737488355328) :
    Calls Tryd.prog 21 #[.slice A m c, .int .i64 n] w (Unpacked w (unpackF xs n)) := by
  have HX := Lib.hid hx
  have HT := Lib.hid ht
  clear hx ht
  by_cases h0 : n < 0
  · have e1 : decide (n < 0) = true := by simpa using h0
    go_enter Tryd.func21, Tryd.ntmps21
    go_wp2_with fail
    go_ret2
    exact unpacked_nil _ _ _ _ (unpackF_arg (Or.inl h0)) (Below.refl _ _)
  · have e1 : decide (n < 0) = false := by simpa using h0
    by_cases h1 : 316 < n
    · have e2 : decide (316 < n) = true := by simpa using h1
      go_enter Tryd.func21, Tryd.ntmps21
      go_wp2_with fail
      go_ret2
      exact unpacked_nil _ _ _ _ (unpackF_arg (Or.inr h1)) (Below.refl _ _)
    · have e2 : decide (316 < n) = false := by simpa using h1
      go_enter Tryd.func21, Tryd.ntmps21
      go_wp2_with fail
      clear e1 e2
      go_loopw [6, 18] (fun u i wr => ∃ (k : Nat) (l : List Int), k ≤ m ∧ i = .int .i64 k ∧ (l.length : Int) ≤ n ∧ Hid (wr.ownsRow w.heap.size 3 1 u l.length (ints .i64 l)) ∧ Hid (unpackTo [] xs n = unpackTo l (xs.drop k) n) ∧ Hid (Below w.heap.size w wr)) (fun _ i _ => m - (intOf i).toNat)
      case atStart => exact ⟨0, [], by omega, rfl, by simp; omega, Lib.hid (World.ownsRow_nil _ _ _ _), Lib.hid (by simp), Lib.hid (Below.refl _ _)⟩
      case round =>
        obtain ⟨k, l, hk, rfl, hl, HO, HP, HW⟩ := hrel
        by_cases hlt : k < m
        · obtain ⟨b, o, rfl⟩ := HX.out.hd (by omega)
          obtain ⟨c1, c2⟩ := HX.out.cell b o rfl k hlt
          have hd := pth_drop (show k < xs.length by have := HX.out.len; omega)
          have c1' := (Keeps.of_below (S := []) HW.out).cell (by simp) c1
          have c2' := (Keeps.of_below (S := []) HW.out).cell (by simp) c2
          have HD := Lib.hid hd
          clear c1 c2 hd
          have hsz := HW.out.size
          obtain ⟨A1, cc, rfl, hri, hcap, hblk⟩ := own_ri HO.out
          have HRI := Lib.hid hri
          clear hri hblk hcap
          go_wp2_with fail
          refine (add_calls _ w.heap.size l.length _ l _ _ n (by simp; omega) (HT.out.below (HW.out.alloc (by omega) _) HT.out.size) (HO.out.alloc _) (by omega)).mono ?_
          intro e w2 ha
          have hp := HP.out
          rw [HD.out] at hp
          cases hadd : addF l (pth xs k).1 (pth xs k).2 n with
          | none =>
            rw [hadd] at ha
            obtain ⟨rfl, hb⟩ := ha
            rw [unpackTo_stop hadd] at hp
            have HP2 := Lib.hid hp
            have HB := Lib.hid hb
            clear hp hb hadd
            go_wp2_with fail
            go_ret2
            exact unpacked_nil _ _ _ _ (unpackF_none (by omega) (by omega) HP2.out) ((HW.out.alloc (by omega) _).trans HB.out)
          | some l' =>
            rw [hadd] at ha
            obtain ⟨v', rfl, ho, hb⟩ := ha
            rw [unpackTo_cons hadd] at hp
            have hlen := addF_len hadd
            have HP2 := Lib.hid hp
            have HB := Lib.hid hb
            have HO2 := Lib.hid ho
            clear hp hb hadd ho
            go_wp2_with fail
            go_roundw
            case rel => exact ⟨k + 1, l', by omega, by go_num, hlen.2, HO2, HP2, Lib.hid ((HW.out.alloc (by omega) _).trans HB.out)⟩
            case measure => simp [intOf]; omega
        · obtain rfl : k = m := by omega
          have hp := HP.out
          rw [List.drop_eq_nil_of_le (by have := HX.out.len; omega), unpackTo] at hp
          have HP2 := Lib.hid hp
          clear hp
          obtain ⟨A1, cc, rfl, hri, hcap, hblk⟩ := own_ri HO.out
          clear hri hcap hblk
          by_cases hfew : (l.length : Int) < n
          · have e5 : decide ((l.length : Int) < n) = true := by simpa using hfew
            go_wp2_with fail
            go_ret2
            exact unpacked_nil _ _ _ _ (unpackF_few (by omega) (by omega) HP2.out hfew) HW.out
          · have e5 : decide ((l.length : Int) < n) = false := by simpa using hfew
            go_wp2_with fail
            go_ret2
            rw [unpackF_ok (by omega) (by omega) HP2.out (by omega)]
            exact ⟨_, rfl, HO.out, HW.out⟩
end Go.Proofs.YtcblibefmclloaaDoor

set_option linter.unusedVariables false
set_option linter.unusedSimpArgs false
namespace Go.Proofs.YtcblibefmclloaaDoor
open Go.RowKit
theorem own_full {w : World} {base : Nat} {e : TypeId} {v : Value} {n : Nat} {k : IntKind} {xs : List Int} (h : w.ownsRow base e 1 v n (ints k xs)) :
    ∃ A c, v = .slice A n c ∧ RI k w A n xs ∧ n ≤ c ∧ (A = none → n = 0 ∧ c = 0) ∧ (∀ ad, A = some ad → ∃ b o, ad = ⟨b, o, none⟩) ∧ (∀ a, A = some a → base ≤ a.block ∧ a.block < w.heap.size) := by
  obtain ⟨A, c, rfl, h1, h2, h3⟩ := own_ri h
  refine ⟨A, c, rfl, h1, h2, ?_, ?_, fun a ha => ⟨(h3 a ha).1, (h3 a ha).2.1⟩⟩
  · rintro rfl
    rcases h.2 with ⟨h4, h5⟩ | ⟨g, cap, cur, h4, _⟩
    · injection h4 with _ _ h6
      exact ⟨h5, h6⟩
    · injection h4 with h6; cases h6
  · rintro ad rfl
    rcases h.2 with ⟨h4, h5⟩ | ⟨g, cap, cur, h4, _⟩
    · injection h4 with h6; cases h6
    · injection h4 with h6; injection h6 with h7; exact ⟨g, 0, h7⟩
set_option maxRecDepth 100000 in
set_option maxHeartbeats 1000000 in
theorem refUnpack_calls (w : World) (A : Option Addr) (m c : Nat) (xs : List (Int × Int)) (n : Int) (hx : RP w A m xs) (hm : m ≤ 140737488355328) :
    Calls Tryd.prog 22 #[.slice A m c, .int .i64 n] w (Unpacked w (unpackF xs n)) := by
  have HX := Lib.hid hx
  clear hx
  by_cases h0 : n < 0
  · have e1 : decide (n < 0) = true := by simpa using h0
    go_enter Tryd.func22, Tryd.ntmps22
    go_wp2_with fail
    go_ret2
    exact unpacked_nil _ _ _ _ (unpackF_arg (Or.inl h0)) (Below.refl _ _)
  · have e1 : decide (n < 0) = false := by simpa using h0
    by_cases h1 : 316 < n
    · have e2 : decide (316 < n) = true := by simpa using h1
      go_enter Tryd.func22, Tryd.ntmps22
      go_wp2_with fail
      go_ret2
      exact unpacked_nil _ _ _ _ (unpackF_arg (Or.inr h1)) (Below.refl _ _)
    · have e2 : decide (316 < n) = false := by simpa using h1
      go_enter Tryd.func22, Tryd.ntmps22
      go_wp2_with fail
      clear e1 e2
      go_loopw [6, 7] (fun u i wr => ∃ (k : Nat) (l : List Int), k ≤ m ∧ i = .int .i64 k ∧ (l.length : Int) ≤ n ∧ Hid (wr.ownsRow w.heap.size 3 1 u l.length (ints .i64 l)) ∧ Hid (unpackTo [] xs n = unpackTo l (xs.drop k) n) ∧ Hid (Below w.heap.size w wr)) (fun _ i _ => m - (intOf i).toNat)
      case atStart => exact ⟨0, [], by omega, rfl, by simp; omega, Lib.hid (World.ownsRow_nil _ _ _ _), Lib.hid (by simp), Lib.hid (Below.refl _ _)⟩
      case round =>
        obtain ⟨k, l, hk, rfl, hl, HO, HP, HW⟩ := hrel
        by_cases hlt : k < m
        · obtain ⟨b, o, rfl⟩ := HX.out.hd (by omega)
          obtain ⟨c1, c2⟩ := HX.out.cell b o rfl k hlt
          have hd := pth_drop (show k < xs.length by have := HX.out.len; omega)
          have c1' := (Keeps.of_below (S := []) HW.out).cell (by simp) c1
          have c2' := (Keeps.of_below (S := []) HW.out).cell (by simp) c2
          have HD := Lib.hid hd
          clear c1 c2 hd
          have hsz := HW.out.size
          obtain ⟨A1, cc, rfl, hri, hcap, hnil, hpl, hblk⟩ := own_full HO.out
          have HRI := Lib.hid hri
          have HN := Lib.hid hnil
          have HPL := Lib.hid hpl
          clear hri hblk hcap hnil hpl
          go_wp2_with fail
          refine (with_calls _ _ _ _ l _ _ n HRI.out (by omega) HN.out HPL.out).mono ?_
          intro e w2 ha
          have hp := HP.out
          rw [HD.out] at hp
          cases hadd : addF l (pth xs k).1 (pth xs k).2 n with
          | none =>
            rw [hadd] at ha
            obtain ⟨rfl, hb⟩ := ha
            rw [unpackTo_stop hadd] at hp
            have HP2 := Lib.hid hp
            have HB := Lib.hid (HW.out.trans (hb.mono hsz))
            clear hp hb hadd
            go_wp2_with fail
            go_ret2
            exact unpacked_nil _ _ _ _ (unpackF_none (by omega) (by omega) HP2.out) HB.out
          | some l' =>
            rw [hadd] at ha
            obtain ⟨v', rfl, ho, hb⟩ := ha
            rw [unpackTo_cons hadd] at hp
            have hlen := addF_len hadd
            have HP2 := Lib.hid hp
            have HB := Lib.hid (HW.out.trans (hb.mono hsz))
            have HO2 := Lib.hid (ho.mono hsz)
            clear hp hb hadd ho
            go_wp2_with fail
            go_roundw
            case rel => exact ⟨k + 1, l', by omega, by go_num, hlen.2, HO2, HP2, HB⟩
            case measure => simp [intOf]; omega
        · obtain rfl : k = m := by omega
          have hp := HP.out
          rw [List.drop_eq_nil_of_le (by have := HX.out.len; omega), unpackTo] at hp
          have HP2 := Lib.hid hp
          clear hp
          obtain ⟨A1, cc, rfl, hri, hcap, hblk⟩ := own_ri HO.out
          clear hri hcap hblk
          by_cases hfew : (l.length : Int) < n
          · have e5 : decide ((l.length : Int) < n) = true := by simpa using hfew
            go_wp2_with fail
            go_ret2
            exact unpacked_nil _ _ _ _ (unpackF_few (by omega) (by omega) HP2.out hfew) HW.out
          · have e5 : decide ((l.length : Int) < n) = false := by simpa using hfew
            go_wp2_with fail
            go_ret2
            rw [unpackF_ok (by omega) (by omega) HP2.out (by omega)]
            exact ⟨_, rfl, HO.out, HW.out⟩
end Go.Proofs.YtcblibefmclloaaDoor

set_option linter.unusedVariables false
set_option linter.unusedSimpArgs false
namespace Go.Proofs.YtcblibefmclloaaDoor
open Go.RowKit
/-- Reading bits, whatever has gone wrong before. -/
def TookP (w : World) (rb eb g : Nat) (A : Option Addr) (c q n : Nat) (e : Int) (bs : List Int) (r : Ending) (w' : World) : Prop :=
  ∃ (v : Int) (q' : Nat) (e' : Int), r = .returned (.int .i64 v) ∧ Hd w' rb eb g A c bs q' e' ∧ Keeps [g, eb] w w' ∧ 0 ≤ v ∧ v < 256 ∧ q ≤ q' ∧
    ((e = 0 ∧ q + n ≤ 8 * bs.length ∧ e' = 0 ∧ v = numB bs q n ∧ q' = q + n) ∨ ((e ≠ 0 ∨ 8 * bs.length < q + n) ∧ e' = 10))
theorem read1_any (w : World) (rb eb g : Nat) (A : Option Addr) (c q n : Nat) (e : Int) (bs : List Int) (h : Hd w rb eb g A c bs q e) (he : e = 0 ∨ e = 10) (hn : n ≤ 8) :
    Calls Tryd.prog 79 #[.int .i64 n, .pointer (some ⟨rb, 0, none⟩), .pointer (some ⟨eb, 0, none⟩)] w (TookP w rb eb g A c q n e bs) := by
  obtain ⟨n0, n1⟩ := numB_lt bs q n
  have n2 := pow_le8 n hn
  by_cases hf : q + n ≤ 8 * bs.length
  · refine (read1_ok w rb eb g A c bs q n e h (by omega) hf).mono ?_
    rintro r w' ⟨rfl, h1, h2⟩
    refine ⟨_, _, _, rfl, h1, h2, n0, by omega, by omega, ?_⟩
    rcases he with rfl | rfl
    · exact .inl ⟨rfl, hf, rfl, rfl, rfl⟩
    · exact .inr ⟨.inl (by decide), rfl⟩
  · refine (read1_end w rb eb g A c bs q n e h (by omega) (by omega)).mono ?_
    rintro r w' ⟨rfl, h1, h2⟩
    refine ⟨_, _, _, rfl, h1, h2, by omega, by omega, Nat.le_refl _, .inr ⟨.inr (by omega), ?_⟩⟩
    rcases he with rfl | rfl <;> rfl
theorem Keeps.under {S : List Nat} {w w1 w2 : World} {B : Nat} (h : Keeps S w w1) (hb : Below B w1 w2) (hB : w.heap.size ≤ B) : Keeps S w w2 :=
  ⟨hb.os.trans h.os, hb.tape.trans h.tape, hb.output.trans h.output, Nat.le_trans h.size hb.size, fun k hk hs => (hb.block k (by omega)).trans (h.block k hk hs)⟩
theorem Rdr.below {w w' : World} {B g : Nat} {A : Option Addr} {c : Nat} {bs : List Int} {p : Nat} (h : Rdr w g A c bs p) (hb : Below B w w') (hg : g < B) (ha : ∀ a, A = some a → a.block < B) : Rdr w' g A c bs p :=
  ⟨(hb.block g hg).trans h.blk, h.ri.below hb ha, h.off, h.le, h.byte, h.size⟩
theorem codes_moreP {T q q' i p o : Nat} {E E' v : Int} {bs cs : List Int}
    (hcL : cL bs (p + 14) (i + 1) = (cL bs (p + 14) i).set o (numB bs (p + 14 + 3 * i) 3))
    (hI : (p + 14 + 3 * i ≤ T ∧ E = 0 ∧ q = p + 14 + 3 * i ∧ cs = cL bs (p + 14) i) ∨ (T < p + 14 + 3 * i ∧ E = 10))
    (hc : (E = 0 ∧ q + 3 ≤ T ∧ E' = 0 ∧ v = numB bs q 3 ∧ q' = q + 3) ∨ ((E ≠ 0 ∨ T < q + 3) ∧ E' = 10)) :
    (E' = 0 ∨ E' = 10) ∧ ((p + 14 + 3 * (i + 1) ≤ T ∧ E' = 0 ∧ q' = p + 14 + 3 * (i + 1) ∧ cs.set o v = cL bs (p + 14) (i + 1)) ∨ (T < p + 14 + 3 * (i + 1) ∧ E' = 10)) := by
  refine ⟨by omega, ?_⟩
  rcases hI with ⟨a1, rfl, rfl, rfl⟩ | ⟨a1, rfl⟩
  · rcases hc with ⟨_, b1, rfl, rfl, rfl⟩ | ⟨b1, rfl⟩
    · exact .inl ⟨by omega, rfl, by omega, hcL.symm⟩
    · exact .inr ⟨by omega, rfl⟩
  · rcases hc with ⟨b0, _⟩ | ⟨_, rfl⟩
    · exact absurd b0 (by decide)
    · exact .inr ⟨by omega, rfl⟩
theorem keeps_ge {g eb : Nat} {w w1 w2 : World} (h : Keeps [g] w w1) (hk : Keeps [g, eb] w1 w2) (he : w.heap.size ≤ eb) : Keeps [g] w w2 := h.then hk (fun x hx => by
  rcases List.mem_cons.1 hx with rfl | hx
  · exact Or.inl (by simp)
  · rw [List.mem_singleton.1 hx]; exact Or.inr he)
/-- What the head's inner reading is to give. -/
def ReadP (w : World) (g : Nat) (A : Option Addr) (c : Nat) (bs : List Int) (p : Nat) (h : List Int × List Int × Nat × Int) (e : Ending) (w' : World) : Prop :=
  ∃ (v1 v2 : Value) (q : Nat), e = .returned (.tuple #[v1, v2, .int .i64 h.2.2.2]) ∧ w'.ownsRow w.heap.size 3 1 v1 h.1.length (ints .i64 h.1) ∧ w'.ownsRow w.heap.size 3 1 v2 h.2.1.length (ints .i64 h.2.1) ∧
    Rdr w' g A c bs q ∧ p ≤ q ∧ (h.2.2.2 = 0 → q = p + h.2.2.1) ∧ Keeps [g] w w'
theorem readP_err {w w' : World} {g : Nat} {A : Option Addr} {c : Nat} {bs : List Int} {p q : Nat} {h : List Int × List Int × Nat × Int} {e : Int} (hh : h = ([], [], 0, e)) (he : e ≠ 0) (hr : Rdr w' g A c bs q) (hp : p ≤ q) (hk : Keeps [g] w w') :
    ReadP w g A c bs p h (.returned (.tuple #[.slice none 0 0, .slice none 0 0, .int .i64 e])) w' := by
  subst hh
  exact ⟨_, _, q, rfl, World.ownsRow_nil _ _ _ _, World.ownsRow_nil _ _ _ _, hr, hp, fun h => absurd h he, hk⟩
set_option maxRecDepth 100000 in
set_option maxHeartbeats 4000000 in
theorem read_calls (w : World) (g : Nat) (A : Option Addr) (c : Nat) (bs : List Int) (p : Nat) (hT : Tabs w) (hg : gtop ≤ g) (hr : Rdr w g A c bs p) (ha : ∀ a, A = some a → a.block < w.heap.size) :
    Calls Tryd.prog 58 #[.pointer (some ⟨g, 0, none⟩)] w (ReadP w g A c bs p (headF bs p)) := by
  have hglt := hr.lt
  have hple := hr.le
  have hsz := hr.size
  obtain ⟨rb, hrb⟩ : ∃ x, x = w.heap.size := ⟨_, rfl⟩
  obtain ⟨eb, heb⟩ : ∃ x, x = w.heap.size + 1 := ⟨_, rfl⟩
  obtain ⟨w0, hw0⟩ : ∃ w0, w0 = (w.alloc (.cells #[.pointer (some ⟨g, 0, none⟩)] 38)).alloc (.cells #[.int .i64 0] 26) := ⟨_, rfl⟩
  have k1 : Keeps [] w w0 := by rw [hw0]; exact ((Keeps.refl [] w).alloc _).alloc _
  have H0 : Hid (Hd w0 rb eb g A c bs p 0) := by
    rw [hrb, heb, hw0]
    exact Lib.hid ⟨by rw [← hw0]; exact hr.dr k1, ⟨by simp, by simp⟩, ⟨by simp, by simp⟩, by omega, by omega, ha⟩
  have K0 := Lib.hid (k1.mono (by simp) : Keeps [g] w w0)
  have HT := Lib.hid hT
  have HRB : Hid (w.heap.size ≤ rb) := Lib.hid (by omega)
  have HEB : Hid (w.heap.size ≤ eb) := Lib.hid (by omega)
  have HA := Lib.hid ha
  have hre : rb < eb := by omega
  have hgr : g < rb := by omega
  clear hr ha hT k1
  go_enter Tryd.func58, Tryd.ntmps58
  go_wp2_with fail
  change Calls _ _ #[.int .i64 5, .pointer (some ⟨w.heap.size, 0, none⟩), .pointer (some ⟨w.heap.size + 1, 0, none⟩)] ((w.alloc (.cells #[.pointer (some ⟨g, 0, none⟩)] 38)).alloc (.cells #[.int .i64 0] 26)) _
  rw [← hw0, ← heb, ← hrb]
  clear hw0 hrb heb
  refine (read1_any _ _ _ _ _ _ p 5 0 bs H0.out (.inl rfl) (by omega)).mono ?_
  rintro _ w1 ⟨v1, q1, E1, rfl, hh1, hk1, v10, v11, hq1, hc1⟩
  have H1 := Lib.hid hh1
  have K1 := Lib.hid (K0.out.then hk1 (fun x hx => by
    rcases List.mem_cons.1 hx with rfl | hx
    · exact Or.inl (by simp)
    · rw [List.mem_singleton.1 hx]; exact Or.inr HEB.out))
  have hE1 : E1 = 0 ∨ E1 = 10 := by omega
  clear hh1 hk1 H0 K0
  go_wp2_with fail
  refine (read1_any _ _ _ _ _ _ q1 5 E1 bs H1.out hE1 (by omega)).mono ?_
  rintro _ w2 ⟨v2, q2, E2, rfl, hh1, hk1, v20, v21, hq2, hc2⟩
  have H2 := Lib.hid hh1
  have K2 := Lib.hid (K1.out.then hk1 (fun x hx => by
    rcases List.mem_cons.1 hx with rfl | hx
    · exact Or.inl (by simp)
    · rw [List.mem_singleton.1 hx]; exact Or.inr HEB.out))
  have hE2 : E2 = 0 ∨ E2 = 10 := by omega
  clear hh1 hk1 H1 K1
  go_wp2_with fail
  refine (read1_any _ _ _ _ _ _ q2 4 E2 bs H2.out hE2 (by omega)).mono ?_
  rintro _ w3 ⟨v3, q3, E3, rfl, hh1, hk1, v30, v31, hq3, hc3⟩
  have H3 := Lib.hid hh1
  have K3 := Lib.hid (K2.out.then hk1 (fun x hx => by
    rcases List.mem_cons.1 hx with rfl | hx
    · exact Or.inl (by simp)
    · rw [List.mem_singleton.1 hx]; exact Or.inr HEB.out))
  have hpq : p ≤ q3 := by omega
  have HC : Hid ((p + 14 ≤ 8 * bs.length ∧ E3 = 0 ∧ v1 = numB bs p 5 ∧ v2 = numB bs (p + 5) 5 ∧ v3 = numB bs (p + 10) 4 ∧ q3 = p + 14) ∨ (8 * bs.length < p + 14 ∧ E3 = 10)) := by
    rcases hc1 with ⟨_, a1, rfl, rfl, rfl⟩ | ⟨a1, rfl⟩
    · rcases hc2 with ⟨_, a2, rfl, rfl, rfl⟩ | ⟨a2, rfl⟩
      · rcases hc3 with ⟨_, a3, rfl, rfl, rfl⟩ | ⟨a3, rfl⟩
        · exact Lib.hid (.inl ⟨by omega, rfl, rfl, rfl, rfl, rfl⟩)
        · exact Lib.hid (.inr ⟨by omega, rfl⟩)
      · exact Lib.hid (.inr ⟨by omega, by omega⟩)
    · exact Lib.hid (.inr ⟨by omega, by omega⟩)
  clear hh1 hk1 H2 K2 hc1 hc2 hc3 hE1 hE2 hq1 hq2 hq3
  have ce := H3.out.bxe.cell
  have fe := H3.out.bxe.free
  rcases HC.out with ⟨hfit, rfl, hv1, hv2, hv3, rfl⟩ | ⟨hend, rfl⟩
  · clear HC
    have HV1 := Lib.hid hv1
    have HV2 := Lib.hid hv2
    have HV3 := Lib.hid hv3
    clear hv1 hv2 hv3
    by_cases hb1 : 286 < 257 + v1
    · have HRES : Hid (headF bs p = ([], [], 0, 40)) := Lib.hid (by unfold headF; rw [if_neg (by omega), if_pos (by left; have := HV1.out; omega)])
      have e1 : decide (286 < 257 + v1) = true := by simpa using hb1
      go_wp2_with fail
      have H4 := H3.out.set 40
      have c4 := H4.bxe.cell
      exact bodyPost_ret (v := .tuple #[.slice none 0 0, .slice none 0 0, .int .i64 40]) (by simp [results, Tryd.results58, go_sem, c4]) rfl (readP_err HRES.out (by first | decide | assumption) H4.rd hpq (K3.out.setCell (p := ⟨eb, 0, none⟩) (Or.inr HEB.out) _))
    have e1 : decide (286 < 257 + v1) = false := by simpa using hb1
    by_cases hb2 : 30 < 1 + v2
    · have HRES : Hid (headF bs p = ([], [], 0, 40)) := Lib.hid (by unfold headF; rw [if_neg (by omega), if_pos (by right; have := HV2.out; omega)])
      have e2 : decide (30 < 1 + v2) = true := by simpa using hb2
      go_wp2_with fail
      have H4 := H3.out.set 40
      have c4 := H4.bxe.cell
      exact bodyPost_ret (v := .tuple #[.slice none 0 0, .slice none 0 0, .int .i64 40]) (by simp [results, Tryd.results58, go_sem, c4]) rfl (readP_err HRES.out (by first | decide | assumption) H4.rd hpq (K3.out.setCell (p := ⟨eb, 0, none⟩) (Or.inr HEB.out) _))
    have e2 : decide (30 < 1 + v2) = false := by simpa using hb2
    have HNB : Hid (¬ (29 < numB bs p 5 ∨ 29 < numB bs (p + 5) 5)) := Lib.hid (by have := HV1.out; have := HV2.out; omega)
    obtain ⟨mn, hmn⟩ : ∃ mn, mn = manyF bs p := ⟨_, rfl⟩
    have hmn2 : 4 + v3 = (mn : Int) := by rw [hmn]; unfold manyF; rw [← HV3.out]; omega
    have hmn3 : mn ≤ 19 := by rw [hmn]; exact manyF_le bs p
    have HMN := Lib.hid hmn
    obtain ⟨lit, hlit⟩ : ∃ x, x = litF bs p := ⟨_, rfl⟩
    obtain ⟨dist, hdist⟩ : ∃ x, x = distF bs p := ⟨_, rfl⟩
    have hl2 : 257 + v1 = (lit : Int) := by rw [hlit]; unfold litF; rw [← HV1.out]; omega
    have hd2 : 1 + v2 = (dist : Int) := by rw [hdist]; unfold distF; rw [← HV2.out]; omega
    have hlb : lit ≤ 286 := by omega
    have hdb : dist ≤ 30 := by omega
    have hd1 : 1 ≤ dist := by omega
    have HLI := Lib.hid hlit
    have HDI := Lib.hid hdist
    clear hmn hlit hdist HV1 HV2 HV3
    have e1' : decide (286 < (lit : Int)) = false := by simp; omega
    have e2' : decide (30 < (dist : Int)) = false := by simp; omega
    clear e1 e2 v10 v11 v20 v21 hb1 hb2
    have hmk := fun w => make_ints (P := Tryd.prog) w 22 3 .i64 8 Tryd.underlying22 info_int 19 19 rfl (by omega) (by omega)
    obtain ⟨gc, hgc⟩ : ∃ x, x = w3.heap.size := ⟨_, rfl⟩
    obtain ⟨w4, hw4⟩ : ∃ x, x = w3.alloc (.cells (ints .i64 (List.replicate 19 0)).toArray 3) := ⟨_, rfl⟩
    have hk4 : Keeps [] w3 w4 := by rw [hw4]; exact (Keeps.refl [] w3).alloc _
    have HC4 : Hid (Blk w4 gc 3 (ints .i64 (cL bs (p + 14) 0))) := by rw [hw4, hgc]; exact Lib.hid (blk_new w3 _ _)
    have H4 := Lib.hid (H3.out.keeps hk4 (by simp) (by simp) (by simp) (off_nil _))
    have K4 := Lib.hid (K3.out.trans (hk4.mono (by simp)))
    have hgce : eb < gc := by have := H3.out.bxe.lt; omega
    have hgcg : gc ≠ g := by omega
    have HGC : Hid (w.heap.size ≤ gc) := Lib.hid (by have := HEB.out; omega)
    clear hk4 H3 K3
    have hsl := fun w => slice_arr w 1 mn hmn3
    go_upto_region 10 with (fail)
    change Code.wp _ _ _ _ (w3.alloc (.cells (ints .i64 (List.replicate 19 0)).toArray 3))
    rw [← hw4, ← hgc]
    clear hw4 hgc hmk
    go_wp2_with fail
    go_loopw [43] (fun iv wr => ∃ (i q : Nat) (E : Int) (cs : List Int), i ≤ mn ∧ iv = .int .i64 i ∧ cs.length = 19 ∧ p ≤ q ∧ (E = 0 ∨ E = 10) ∧ Hid ((p + 14 + 3 * i ≤ 8 * bs.length ∧ E = 0 ∧ q = p + 14 + 3 * i ∧ cs = cL bs (p + 14) i) ∨ (8 * bs.length < p + 14 + 3 * i ∧ E = 10)) ∧
      Hid (Blk wr gc 3 (ints .i64 cs)) ∧ Hid (Hd wr rb eb g A c bs q E) ∧ Hid (Keeps [g] w wr)) (fun iv _ => mn - (intOf iv).toNat)
    case atStart => exact ⟨0, p + 14, 0, cL bs (p + 14) 0, by omega, rfl, cL_len _ _ _, by omega, .inl rfl, Lib.hid (.inl ⟨by omega, rfl, rfl, rfl⟩), HC4, H4, K4⟩
    case round =>
      clear HC4 H4 K4
      obtain ⟨i, q, E, cs, hi, rfl, hcl, hq, hE, HI, HC, H, HK⟩ := hrel
      by_cases hlt : i < mn
      · have e0 : decide (i < mn) = true := by simpa using hlt
        obtain ⟨o0, o1⟩ := order_lt i (by omega)
        have ho := (HT.out.keeps HK.out (fun x hx => by rw [List.mem_singleton.1 hx]; exact hg)).ord.cell _ _ rfl i (by omega)
        rw [Nat.zero_add] at ho
        have HCL : Hid (cL bs (p + 14) (i + 1) = (cL bs (p + 14) i).set (nth orderL i).toNat (numB bs (p + 14 + 3 * i) 3)) := Lib.hid rfl
        obtain ⟨o, hoo⟩ : ∃ o : Nat, nth orderL i = o := ⟨(nth orderL i).toNat, by omega⟩
        rw [hoo] at ho o1 HCL
        rw [Int.toNat_natCast] at HCL
        have ho19 : o < 19 := by omega
        clear hoo o0 o1
        go_wp2_with fail
        refine (read1_any _ _ _ _ _ _ q 3 E bs H.out hE (by omega)).mono ?_
        rintro _ w5 ⟨v, q', E', rfl, hh5, hk5, hv0, hv1, hq', hc'⟩
        have hb5 := HC.out.keeps hk5 (by simp; omega)
        have hc5 := hb5.cell o
        rw [show (ints .i64 cs)[o]? = some (.int .i64 (nth cs o)) by rw [ints_getElem?]; simp [nth, List.getD, show o < cs.length by omega]] at hc5
        have hf5 := hb5.frozen o
        obtain ⟨hE', hI'⟩ := codes_moreP HCL.out HI.out hc'
        have HI' := Lib.hid hI'
        have ks : Keeps [gc] w5 (w5.setCell ⟨gc, o, none⟩ (.int .i64 v)) := (Keeps.refl [gc] w5).setCell (p := ⟨gc, o, none⟩) (Or.inl (by simp)) _
        have HC' : Hid (Blk (w5.setCell ⟨gc, o, none⟩ (.int .i64 v)) gc 3 (ints .i64 (cs.set o v))) := Lib.hid (by
          have := hb5.set o (.int .i64 v)
          rwa [show (ints .i64 cs).set o (.int .i64 v) = ints .i64 (cs.set o v) by simp [ints, List.map_set]] at this)
        have H' := Lib.hid (hh5.keeps ks (by simpa using Ne.symm hgcg) (by simp; omega) (by simp; omega) (fun a ha hm => by have := HA.out a ha; rw [List.mem_singleton.1 hm] at this; have := HGC.out; omega))
        have HK' := Lib.hid ((keeps_ge HK.out hk5 HEB.out).setCell (p := ⟨gc, o, none⟩) (Or.inr HGC.out) (.int .i64 v))
        clear hh5 hk5 hb5 hI' hc' ks HC H HK HI HCL ho
        go_wp2_with fail
        go_roundw
        case rel => exact ⟨i + 1, q', E', cs.set o v, by omega, by go_num, by rw [List.length_set]; exact hcl, by omega, hE', HI', HC', H', HK'⟩
        case measure => simp [intOf]; omega
      · obtain rfl : i = mn := by omega
        have e0 : decide (i < i) = false := by simp
        have ce := H.out.bxe.cell
        have fe := H.out.bxe.free
        rcases HI.out with ⟨hf3, rfl, rfl, rfl⟩ | ⟨hend, rfl⟩
        · clear HI
          obtain ⟨cd, hcd⟩ : ∃ cd, cd = cL bs (p + 14) i := ⟨_, rfl⟩
          have hcl' : cd.length = 19 := by rw [hcd]; exact cL_len _ _ _
          have HCD : Hid (cd = codesH bs p) := Lib.hid (by rw [hcd]; unfold codesH; rw [← HMN.out])
          rw [← hcd] at HC
          have HCR : Hid (RI .i64 wr (some ⟨gc, 0, none⟩) 19 cd) := Lib.hid (by
            have := Blk.ri (xs := cd) (ys := []) (by rw [List.append_nil]; exact HC.out)
            rwa [hcl'] at this)
          have HF3 : Hid (¬ (8 * bs.length < p + 14 + 3 * manyF bs p)) := Lib.hid (by rw [← HMN.out]; omega)
          have HQ : Hid (p + 14 + 3 * i = p + 14 + 3 * manyF bs p) := Lib.hid (by rw [← HMN.out])
          have HF1 : Hid (¬ 8 * bs.length < p + 14) := Lib.hid (by omega)
          clear hcd HC hcl
          obtain ⟨wc, hwc⟩ : ∃ x : World, x = wr := ⟨_, rfl⟩
          rw [← hwc] at H HK HCR ce fe ⊢
          clear hwc
          go_wp2_with fail
          refine (new_calls wc _ _ _ cd HCR.out (by omega)).mono ?_
          rintro e w6 ⟨hb6, hmade⟩
          have hk6 := Keeps.of_below hb6 (S := [])
          have H6 := Lib.hid (H.out.keeps hk6 (by simp) (by simp) (by simp) (off_nil _))
          have K6 := Lib.hid (HK.out.trans (hk6.mono (by simp)))
          have c6 := H6.out.bxe.cell
          have f6 := H6.out.bxe.free
          have hgd : g < wc.heap.size := H.out.rd.lt
          have hebd : eb < wc.heap.size := H.out.bxe.lt
          clear ce fe H HK HCR hb6 hk6
          by_cases hck : checkF cd = 0
          · rw [if_pos hck] at hmade
            obtain ⟨gd, rfl, hd, hgd2⟩ := hmade
            have HCK := Lib.hid hck
            obtain ⟨w7, hw7⟩ : ∃ x, x = w6.setCell ⟨eb, 0, none⟩ (.int .i64 0) := ⟨_, rfl⟩
            have hk7 : Keeps [eb] w6 w7 := by rw [hw7]; exact (Keeps.refl [eb] w6).setCell (p := ⟨eb, 0, none⟩) (Or.inl (by simp)) _
            have H7 : Hid (Hd w7 rb eb g A c bs (p + 14 + 3 * i) 0) := by rw [hw7]; exact Lib.hid (H6.out.set 0)
            have K7 : Hid (Keeps [g] w w7) := by rw [hw7]; exact Lib.hid (K6.out.setCell (p := ⟨eb, 0, none⟩) (Or.inr HEB.out) _)
            have D7 := Lib.hid (Dec.apart (gr := g) (show Dec w7 gd cd from DSt.keeps hd hk7 (fun x hx => by rw [List.mem_singleton.1 hx]; exact Or.inl (by omega))) (by omega))
            have T7 := Lib.hid (HT.out.keeps K7.out (fun x hx => by rw [List.mem_singleton.1 hx]; exact hg))
            obtain ⟨b0, hb0⟩ : ∃ x, x = w7.heap.size := ⟨_, rfl⟩
            have c7 := H7.out.bxe.cell
            obtain ⟨N, hN⟩ : ∃ N, N = lit + dist := ⟨_, rfl⟩
            have HRR0 : Hid (readR bs p = stepsF cd bs N N [] (p + 14 + 3 * i)) := Lib.hid (by
              unfold readR
              rw [← HCD.out, HQ.out, hN, HLI.out, HDI.out])
            have hNb : N ≤ 316 := by omega
            have hN3 : IntKind.i64.wrap ((lit : Int) + (dist : Int)) = (N : Int) := by rw [show (lit : Int) + (dist : Int) = (N : Int) by omega]; exact IntWalk.i64_in _ (by omega)
            have hLN : lit < N := by omega
            have HE1 : Hid (∀ e, (readR bs p).2.2 = e → e ≠ 0 → headF bs p = ([], [], 0, e)) := Lib.hid (fun e h he => head_err HF1.out HNB.out HF3.out (by rw [← HCD.out]; exact HCK.out) h he)
            have HE2 : Hid (∀ l q, readR bs p = (l, q, 0) → headF bs p = (l.take lit, l.drop lit, q - p, 0)) := Lib.hid (fun l q h => by rw [HLI.out]; exact head_ok HF1.out HNB.out HF3.out (by rw [← HCD.out]; exact HCK.out) h)
            have hpi : p ≤ p + 14 + 3 * i := by omega
            have hb0w : w.heap.size ≤ b0 := by rw [hb0]; exact K7.out.size
            have hb0g : g < b0 := by omega
            have hb0e : eb < b0 := by rw [hb0]; exact H7.out.bxe.lt
            have HW7 : Hid (Keeps [g] w7 w7) := Lib.hid (Keeps.refl _ _)
            clear hN hck hd hk7 e1' e2' hl2 hd2 hmn2 HF3 HQ HCD HLI HDI HNB HMN H6 K6 HF1
            go_wp2_with fail
            rw [← hw7]
            clear hw7
            go_loopw [13] (fun lv wr => ∃ (f q len cc : Nat) (l : List Int) (AL : Option Addr), lv = .slice AL len cc ∧ len ≤ N ∧ N ≤ len + f ∧ p ≤ q ∧ Hid (readR bs p = stepsF cd bs N f l q) ∧ Hid (wr.ownsRow b0 3 1 (.slice AL len cc) len (ints .i64 l)) ∧
              Hid (Rdr wr g A c bs q) ∧ Hid (Keeps [g] w7 wr)) (fun lv _ => N - sLen lv)
            case atStart => exact ⟨N, p + 14 + 3 * i, 0, 0, [], none, rfl, by omega, by omega, hpi, HRR0, Lib.hid (World.ownsRow_nil _ _ _ _), Lib.hid H7.out.rd, HW7⟩
            case round =>
              clear HRR0 HW7
              obtain ⟨f, q, len, cc, l, AL, rfl, hlen, hf, hpq', HRD, HLO, HR, HK⟩ := hrel
              have HLEN : Hid (l.length = len) := Lib.hid (by have := HLO.out.1; simpa [ints] using this)
              by_cases hlt2 : len < N
              · have e4 : decide ((len : Int) < (N : Int)) = true := by simp; omega
                obtain ⟨f', rfl⟩ : ∃ f', f = f' + 1 := ⟨f - 1, by omega⟩
                have HUN : Hid (readR bs p = if (decF cd bs q).2.1 ≠ 0 then ([], q, (decF cd bs q).2.1)
                    else if 8 * bs.length < q + (decF cd bs q).2.2 + wN (decF cd bs q).1 then ([], q, 10)
                    else match addF l (decF cd bs q).1 (numB bs (q + (decF cd bs q).2.2) (wN (decF cd bs q).1)) N with
                      | none => ([], q, 41)
                      | some l' => stepsF cd bs N f' l' (q + (decF cd bs q).2.2 + wN (decF cd bs q).1)) := Lib.hid (by
                  rw [HRD.out, stepsF, if_neg (by rw [HLEN.out]; omega)]
                  rfl)
                have hqT := HR.out.le
                clear HRD
                obtain ⟨wl, hwl⟩ : ∃ x : World, x = wr := ⟨_, rfl⟩
                rw [← hwl] at HLO HR HK ⊢
                clear hwl
                have kr := (H7.out.bxr.keeps HK.out (by simp; omega)).cell
                go_wp2_with fail
                refine (nextN_calls wl gd g cd A c bs q (D7.out.keeps HK.out (fun x hx => List.mem_singleton.1 hx)) HR.out (by omega)).mono ?_
                rintro _ w8 ⟨rfl, hr8, hk8⟩
                have HK8 := Lib.hid (HK.out.trans hk8)
                have HLO8 := Lib.hid (own_keeps HLO.out hk8 (fun x hx hm => by have := (HLO.out.lt x hx).1; rw [List.mem_singleton.1 hm] at this; omega))
                have HR8 := Lib.hid hr8
                have HBD := Lib.hid (dec_bd cd bs q hqT)
                clear hr8 hk8 HR HK HLO kr
                generalize decF cd bs q = d at *
                obtain ⟨sy0, er, k⟩ := d
                have HR8' : Hid (Rdr w8 g A c bs (q + k)) := HR8
                simp only [] at HBD HUN
                have b8 := H7.out.bxe.keeps HK8.out (by simp; omega)
                have ce8 := b8.cell
                have fe8 := b8.free
                have hse : ∀ (W : World) (e : Int), Keeps [eb] W (W.setCell ⟨eb, 0, none⟩ (.int .i64 e)) := fun W e => (Keeps.refl [eb] W).setCell (p := ⟨eb, 0, none⟩) (Or.inl (by simp)) _
                have hoE : Off [eb] A := fun a ha hm => by have := HA.out a ha; rw [List.mem_singleton.1 hm] at this; have := HEB.out; omega
                have hge : g ∉ [eb] := by simp; omega
                by_cases her : er = 0
                · subst her
                  obtain ⟨j, rfl, hj, hpk⟩ : ∃ j : Nat, sy0 = j ∧ j < 19 ∧ q + k ≤ 8 * bs.length := by
                    rcases HBD.out with ⟨_, j, h1, h2, h3⟩ | ⟨h, _⟩
                    · exact ⟨j, h1, by omega, h3⟩
                    · exact absurd rfl h
                  clear HBD HR8
                  have kr := (H7.out.bxr.keeps HK8.out (by simp; omega)).cell
                  have kw := (T7.out.keeps HK8.out (fun x hx => by rw [List.mem_singleton.1 hx]; exact hg)).wid.cell _ _ rfl j (by omega)
                  rw [Nat.zero_add, wN_tab j hj] at kw
                  have hw7 := wN_le (j : Int)
                  obtain ⟨W, hW⟩ : ∃ W, W = wN (j : Int) := ⟨_, rfl⟩
                  rw [← hW] at kw hw7 HUN
                  have s1 : (j : Int) < 19 := by omega
                  have s2 : (0 : Int) ≤ (j : Int) := by omega
                  have s3 : IntKind.i64.wrap (j : Int) = (j : Int) := IntWalk.i64_in _ (by omega)
                  clear hW
                  by_cases hov : 8 * bs.length < q + k + W
                  · have HRES := Lib.hid (HE1.out 10 (by rw [HUN.out, if_neg (by simp), if_pos hov]) (by decide))
                    clear HUN
                    go_wp2_with fail
                    go_region_with (first | (go_at_call 49; refine (take_end _ g A c bs (q + k) W (HR8'.out.dr (Keeps.refl [] w8).drew) (by omega) (by omega)).mono ?_; rintro _ w9 ⟨rfl, hd9⟩))
                    all_goals (
                      have HK9 := HK8.out.trans (((Keeps.refl [g] w8).drew).trans (hd9.keeps (S := [g])))
                      have HR9 := (HR8'.out.dr (Keeps.refl [] w8).drew).dr (hd9.keeps (S := []))
                      have b9 := H7.out.bxe.keeps HK9 (by simp; omega)
                      have ce9 := b9.cell
                      have fe9 := b9.free
                      go_wp2_with fail
                      have c4 := (b9.set (.int .i64 10)).cell
                      exact bodyPost_ret (v := .tuple #[.slice none 0 0, .slice none 0 0, .int .i64 10]) (by simp [results, Tryd.results58, go_sem, c4]) rfl (readP_err HRES.out (by decide) (HR9.keeps (hse _ _) hge hoE) (by omega) ((K7.out.trans HK9).setCell (p := ⟨eb, 0, none⟩) (Or.inr HEB.out) _)))
                  · have HUN2 : Hid (readR bs p = match addF l (j : Int) (numB bs (q + k) W) N with
                      | none => ([], q, 41)
                      | some l' => stepsF cd bs N f' l' (q + k + W)) := Lib.hid (by rw [HUN.out, if_neg (by simp), if_neg hov])
                    clear HUN
                    obtain ⟨n0, n1⟩ := numB_lt bs (q + k) W
                    have n2 := pow_le8 W (by omega)
                    have hex : Hid (numB bs (q + k) W = numB bs (q + k) W) := Lib.hid rfl
                    have e5 : IntKind.i64.wrap (numB bs (q + k) W) = numB bs (q + k) W := IntWalk.i64_in _ (by omega)
                    go_wp2_with fail
                    go_region_with (first | (go_at_call 49; refine (take_calls _ g A c bs (q + k) W (HR8'.out.dr (Keeps.refl [] w8).drew) (by omega) (by omega)).mono ?_; rintro _ w9 ⟨rfl, hr9, hk9⟩))
                    all_goals (
                      have HK9 := Lib.hid (HK8.out.trans (((Keeps.refl [g] w8).drew).trans hk9))
                      have HR9 := Lib.hid hr9
                      have HLO9 := Lib.hid (own_keeps HLO8.out (((Keeps.refl [g] w8).drew).trans hk9) (fun x hx hm => by have := (HLO8.out.lt x hx).1; rw [List.mem_singleton.1 hm] at this; omega))
                      have HT9 := Lib.hid (T7.out.keeps HK9.out (fun x hx => by rw [List.mem_singleton.1 hx]; exact hg))
                      have hb9 : b0 ≤ w9.heap.size := by rw [hb0]; exact HK9.out.size
                      clear hr9 hk9 HK8 HLO8 HR8' kr kw ce8 fe8 b8 hov
                      generalize numB bs (q + k) W = ex at *
                      generalize hqq : q + k + W = q2 at *
                      have hpq2 : p ≤ q2 := by omega
                      go_wp2_with fail
                      refine (add_calls w9 b0 len _ l j ex N hb9 HT9.out HLO9.out (by omega)).mono ?_
                      intro e w10 hv
                      have hw70 : w7.heap.size ≤ b0 := by omega
                      have hAb : ∀ a, A = some a → a.block < b0 := fun a ha => by have := HA.out a ha; omega
                      cases haf : addF l (j : Int) ex N with
                      | none =>
                        rw [haf] at hv
                        obtain ⟨rfl, hb10⟩ := hv
                        have HRES := Lib.hid (HE1.out 41 (by rw [HUN2.out, haf]) (by decide))
                        have HK10 := HK9.out.under hb10 hw70
                        have HR10 := HR9.out.below hb10 hb0g hAb
                        have b10 := H7.out.bxe.keeps HK10 (by simp; omega)
                        have ce10 := b10.cell
                        have fe10 := b10.free
                        go_wp2_with fail
                        have c4 := (b10.set (.int .i64 41)).cell
                        exact bodyPost_ret (v := .tuple #[.slice none 0 0, .slice none 0 0, .int .i64 41]) (by simp [results, Tryd.results58, go_sem, c4]) rfl (readP_err HRES.out (by decide) (HR10.keeps (hse _ _) hge hoE) (by omega) ((K7.out.trans HK10).setCell (p := ⟨eb, 0, none⟩) (Or.inr HEB.out) _))
                      | some l' =>
                        rw [haf] at hv
                        obtain ⟨v10, rfl, ho10, hb10⟩ := hv
                        obtain ⟨g1, g2, -⟩ := addF_grows haf
                        obtain ⟨A10, c10, rfl⟩ := own_form' ho10
                        have HRD10 : Hid (readR bs p = stepsF cd bs N f' l' q2) := Lib.hid (by rw [HUN2.out, haf])
                        have HK10 := Lib.hid (HK9.out.under hb10 hw70)
                        have HR10 := Lib.hid (HR9.out.below hb10 hb0g hAb)
                        have HLO10 := Lib.hid ho10
                        have hlen' := HLEN.out
                        clear ho10 hb10 HK9 HR9 HLO9 HT9 HUN2
                        go_wp2_with fail
                        go_roundw
                        case rel => exact ⟨f', q2, l'.length, c10, l', A10, rfl, by omega, by omega, hpq2, HRD10, HLO10, HR10, HK10⟩
                        case measure => simp [sLen]; omega)
                · have HRES := Lib.hid (HE1.out er (by rw [HUN.out, if_pos her]) her)
                  have e5 : (er != 0) = true := by simpa using her
                  clear HUN HBD
                  go_wp2_with fail
                  have c4 := (b8.set (.int .i64 er)).cell
                  exact bodyPost_ret (v := .tuple #[.slice none 0 0, .slice none 0 0, .int .i64 er]) (by simp [results, Tryd.results58, go_sem, c4]) rfl (readP_err HRES.out her (HR8'.out.keeps (hse _ _) hge hoE) (by omega) ((K7.out.trans HK8.out).setCell (p := ⟨eb, 0, none⟩) (Or.inr HEB.out) _))
              · obtain rfl : len = N := by omega
                have e4 : decide ((len : Int) < (len : Int)) = false := by simp
                have HRES := Lib.hid (HE2.out l q (by rw [HRD.out, stepsF_done _ _ _ _ _ _ (by rw [HLEN.out]; omega)]))
                obtain ⟨A9, c9, hv9, hri9, hcap9, -, -, hbk9⟩ := own_full HLO.out
                injection hv9 with hv1 hv2 hv3
                subst hv1
                subst hv3
                obtain ⟨ab, ao, rfl⟩ := hri9.hd (by omega)
                have hr0 := hri9.keeps (Keeps.refl [] wr).drew (off_nil _)
                have hr1 : RI .i64 wr.drew (some ⟨ab, ao, none⟩) lit (l.take lit) := hr0.take (by omega)
                have hl2' : (l.drop lit).length = len - lit := by rw [List.length_drop, HLEN.out]
                have hr2 : RI .i64 wr.drew (some ⟨ab, ao + lit, none⟩) (len - lit) (l.drop lit) := ⟨hl2', fun _ => ⟨_, _, rfl⟩, fun b' o' ha j hj => by
                  injection ha with ha; injection ha with h1 h2 h3; subst h1; subst h2
                  have := hr0.cell ab ao rfl (lit + j) (by omega)
                  rw [show ao + lit + j = ao + (lit + j) by omega, this]
                  simp [nth, List.getD]⟩
                have HR1 := Lib.hid hr1
                have HR2 := Lib.hid hr2
                have t2 : (0 : Int) ≤ (lit : Int) := by omega
                have t3 : (lit : Int) ≤ (len : Int) := by omega
                have t4 : (lit : Int) ≤ (cc : Int) := by omega
                have t5 : lit ≤ len := by omega
                have t6 : lit ≤ cc := by omega
                have t7 : ¬ cc = lit := by omega
                have t8 : ¬ lit = cc := by omega
                have hwlt : w7.heap.size ≤ wr.heap.size := HK.out.size
                have b8 := H7.out.bxe.keeps HK.out (by simp; omega)
                have HB8 := Lib.hid b8
                clear HRD hri9 hv2 hr0 hr1 hr2 b8
                go_wp2_with fail
                go_region_with (first
                  | (go_at_call_of 82 (some (Addr.mk ab ao none)); refine (cloneI_calls _ _ _ _ (l.take lit) (by first | exact HR1.out | exact HR1.out.keeps (Keeps.of_below hbB) (off_nil _)) (by simp) (by intro ad h; exact ⟨_, _, (Option.some.inj h).symm⟩) (by omega)).mono ?_; rintro _ wA ⟨vA, rfl, hoA, hbA⟩; have bxA : Box wA eb (.int .i64 0) := (by first | exact HB8.out.keeps ((Keeps.refl [] wr).drew.trans (Keeps.of_below hbA)) (by simp) | exact bxB.keeps (Keeps.of_below (S := []) hbA) (by simp)); have ceA := bxA.cell; have feA := bxA.free)
                  | (go_at_call_of 82 (some (Addr.mk ab (ao + lit) none)); refine (cloneI_calls _ _ _ _ (l.drop lit) (by first | exact HR2.out | exact HR2.out.keeps (Keeps.of_below hbA) (off_nil _)) (by simp) (by intro ad h; exact ⟨_, _, (Option.some.inj h).symm⟩) (by omega)).mono ?_; rintro _ wB ⟨vB, rfl, hoB, hbB⟩; have bxB : Box wB eb (.int .i64 0) := (by first | exact HB8.out.keeps ((Keeps.refl [] wr).drew.trans (Keeps.of_below hbB)) (by simp) | exact bxA.keeps (Keeps.of_below (S := []) hbB) (by simp)); have ceB := bxB.cell; have feB := bxB.free))
                all_goals (
                  have kA : Keeps [] wr wA := (Keeps.refl [] wr).drew.trans (Keeps.of_below hbA)
                  have kB : Keeps [] wA wB := Keeps.of_below hbB
                  have hwr : wr.heap.size ≤ wA.heap.size := kA.size
                  have hebw : eb < wr.heap.size := by omega
                  have kS : Keeps [eb] wB (wB.setCell ⟨eb, 0, none⟩ (.int .i64 0)) := (Keeps.refl [eb] wB).setCell (p := ⟨eb, 0, none⟩) (Or.inl (by simp)) _
                  have oA := own_keeps (own_keeps hoA kB (by simp)) kS (fun x hx hm => by
                    have h1 := (hoA.lt x hx).1
                    rw [List.mem_singleton.1 hm] at h1
                    have h2 : wr.heap.size ≤ eb := h1
                    omega)
                  have oB := own_keeps hoB kS (fun x hx hm => by
                    have h1 := (hoB.lt x hx).1
                    rw [List.mem_singleton.1 hm] at h1
                    omega)
                  have hR := (((HR.out.dr kA).dr kB).keeps kS (by simp; omega) (fun a ha hm => by have := HA.out a ha; rw [List.mem_singleton.1 hm] at this; have := HEB.out; omega))
                  have hKK : Keeps [g] w (wB.setCell ⟨eb, 0, none⟩ (.int .i64 0)) := (((K7.out.trans HK.out).trans (kA.mono (by simp))).trans (kB.mono (by simp))).setCell (p := ⟨eb, 0, none⟩) (Or.inr HEB.out) _
                  have hww : w.heap.size ≤ wr.heap.size := by omega
                  have c4 := (bxB.set (.int .i64 0)).cell
                  have hl1 : (l.take lit).length = lit := by rw [List.length_take, HLEN.out]; omega
                  go_wp2_with fail
                  refine bodyPost_ret (v := .tuple #[vA, vB, .int .i64 0]) (by simp [results, Tryd.results58, go_sem, c4]) rfl ?_
                  rw [HRES.out]
                  exact ⟨vA, vB, q, rfl, by rw [hl1]; exact oA.mono hww, by rw [hl2']; exact oB.mono (by omega), hR, hpq', fun _ => by simp only []; omega, hKK⟩)
          · rw [if_neg hck] at hmade
            subst hmade
            have HRES : Hid (headF bs p = ([], [], 0, checkF cd)) := Lib.hid (by unfold headF; rw [if_neg HF1.out, if_neg HNB.out, if_neg HF3.out, ← HCD.out, if_pos hck])
            have e3 : (checkF cd != 0) = true := by simpa using hck
            generalize checkF cd = er at *
            go_wp2_with fail
            go_region
            go_wp2_with fail
            have H8 := (((H6.out.set er).set er).keeps (Keeps.refl [] _).drew (by simp) (by simp) (by simp) (off_nil _))
            have c4 := H8.bxe.cell
            exact bodyPost_ret (v := .tuple #[.slice none 0 0, .slice none 0 0, .int .i64 er]) (by simp [results, Tryd.results58, go_sem, c4]) rfl (readP_err HRES.out hck H8.rd (by omega) ((K6.out.setCell (p := ⟨eb, 0, none⟩) (Or.inr HEB.out) _).setCell (p := ⟨eb, 0, none⟩) (Or.inr HEB.out) _).drew)

        · have HRES : Hid (headF bs p = ([], [], 0, 10)) := Lib.hid (by unfold headF; rw [if_neg (by omega), if_neg HNB.out, ← HMN.out, if_pos hend])
          clear HI
          go_wp2_with fail
          go_region
          go_wp2_with fail
          have H5 := (H.out.set 10).keeps (Keeps.refl [] _).drew (by simp) (by simp) (by simp) (off_nil _)
          have c4 := H5.bxe.cell
          exact bodyPost_ret (v := .tuple #[.slice none 0 0, .slice none 0 0, .int .i64 10]) (by simp [results, Tryd.results58, go_sem, c4]) rfl (readP_err HRES.out (by first | decide | assumption) H5.rd hq (HK.out.setCell (p := ⟨eb, 0, none⟩) (Or.inr HEB.out) _).drew)
  · have HRES : Hid (headF bs p = ([], [], 0, 10)) := Lib.hid (by unfold headF; rw [if_pos hend])
    clear HC
    go_wp2_with fail
    go_region
    go_wp2_with fail
    have H4 := (H3.out.set 10).keeps (Keeps.refl [] _).drew (by simp) (by simp) (by simp) (off_nil _)
    have c4 := H4.bxe.cell
    exact bodyPost_ret (v := .tuple #[.slice none 0 0, .slice none 0 0, .int .i64 10]) (by simp [results, Tryd.results58, go_sem, c4]) rfl (readP_err HRES.out (by first | decide | assumption) H4.rd hpq (K3.out.setCell (p := ⟨eb, 0, none⟩) (Or.inr HEB.out) _).drew)
end Go.Proofs.YtcblibefmclloaaDoor
