/- 'copy' of elements of several cells, the target known whole; 'make' of pairs of numbers. -/
import Derived.Test.YtcblibefmclloaaDoorSteps
import Derived.Test.YtcblibefmclloaaDoorTimes
set_option linter.unusedVariables false
set_option linter.unusedSimpArgs false
namespace Go.Proofs.YtcblibefmclloaaDoor
open Go.RowKit
theorem run_copy_wide (P : Program) (w : World) (dT sT ty elem : TypeId) (g o dLen dCap : Nat) (a : Addr) (sLen sCap k m : Nat) (cur : Array Value) (t : TypeId) (cs : List Value)
    (hu : P.underlying dT = some (.slice elem)) (hs : (P.info? elem).map (·.size) = some k)
    (hg : w.heap[g]? = some (.cells cur t (0, 0))) (hm : m = Nat.min sLen dLen) (hn : cs.length = m * k)
    (hsrc : ∀ j v, cs[j]? = some v → w.cell? (a.add j) = some v) (hfit : o + cs.length ≤ cur.size) (h1 : ∀ v ∈ cs, v.oneCell' = true) :
    (Builtin.copy_ #[dT, sT] ty #[.slice (some ⟨g, o, none⟩) dLen dCap, .slice (some a) sLen sCap]).run P w =
      .ok (goInt m) (w.setRow g (cur.toList.take o ++ cs ++ cur.toList.drop (o + cs.length)).toArray) := by
  subst hm
  have hl := run_loadCells_list (P := P) w a cs hsrc
  have hst := run_storeCells_at P g o t cs 0 cur w hg (by simpa using hfit) h1
  cases hq : P.info? elem with
  | none => simp [hq] at hs
  | some i =>
    have hi : i.size = k := by simpa [hq] using hs
    simp [Builtin.copy_, run_underlying hu, Builtin.lenOf, Builtin.firstCells, sizeOf, typeInfo, hq, hi, ← hn, hl, hst]
theorem run_copy_wide_none (P : Program) (w : World) (dT sT ty elem : TypeId) (d a : Option Addr) (dLen dCap sLen sCap k : Nat) (hu : P.underlying dT = some (.slice elem)) (hs : (P.info? elem).map (·.size) = some k) (hn : Nat.min sLen dLen = 0) :
    (Builtin.copy_ #[dT, sT] ty #[.slice d dLen dCap, .slice a sLen sCap]).run P w = .ok (goInt 0) w := by
  cases hq : P.info? elem with
  | none => simp [hq] at hs
  | some i =>
    have hl : ∀ (x : Addr), (loadCells x 0).run P w = .ok #[] w := fun x => by simpa using run_loadCells_list (P := P) w x [] (by simp)
    cases d <;> cases a <;> simp [Builtin.copy_, run_underlying hu, Builtin.lenOf, Builtin.firstCells, sizeOf, typeInfo, hq, hn, storeCells, hl]
theorem wpList_copy_wide {P : Program} {w : World} {ops : Array Oper} {rest : List Oper} {o : Oper} {a : Act} {Q : Exit → Act → World → Prop} (hgd : o.guard = none) (d s : Operand) (dT sT : TypeId)
    (ho : o.op = .call { callee := .builtin .copy, args := #[d, s], argTypes := #[dT, sT] }) (elem : TypeId) (k : Nat) (hk : 0 < k) (hu : P.underlying dT = some (.slice elem)) (hsz : (P.info? elem).map (·.size) = some k)
    (dp sp : Option Addr) (dLen dCap sLen sCap : Nat) (hd : a.eval d = .slice dp dLen dCap) (hs : a.eval s = .slice sp sLen sCap)
    (g off : Nat) (cur : List Value) (t : TypeId) (hg : w.heap[g]? = some (.cells cur.toArray t (0, 0))) (m : Nat) (hm : m = Nat.min sLen dLen) (cs : List Value) (hn : cs.length = m * k)
    (hpos : 0 < m → dp = some ⟨g, off, none⟩ ∧ ∃ ad, sp = some ad ∧ ∀ j v, cs[j]? = some v → w.cell? (ad.add j) = some v)
    (hfit : off + cs.length ≤ cur.length) (h1 : ∀ v ∈ cs, v.oneCell' = true) (S : List Nat) (w0 : World) (hb : Keeps S w0 w) (hBg : g ∈ S ∨ w0.heap.size ≤ g)
    (h : ∀ w', Hid (w'.heap[g]? = some (.cells (splice cur off cs).toArray t (0, 0))) → Keeps [g] w w' → Keeps S w0 w' → wpList P ops Q rest (a.put o.dst (goInt m)) w') :
    wpList P ops Q (o :: rest) a w := by
  refine wpList_plain hgd fun K hK => ?_
  by_cases h0 : m = 0
  · subst h0
    obtain rfl : cs = [] := List.eq_nil_of_length_eq_zero (by simpa using hn)
    have hrun := run_copy_wide_none P w dT sT o.type elem dp sp dLen dCap sLen sCap k hu hsz hm.symm
    unfold Oper.wp
    simp [execOp, ho, resolve, invoke, builtin, hd, hs, hrun, Result.andThen]
    exact hK _ _ (h w (show _ = _ by simpa [splice] using hg) (Keeps.refl _ _) hb)
  · obtain ⟨rfl, ad, rfl, hsrc⟩ := hpos (by omega)
    have hrun := run_copy_wide P w dT sT o.type elem g off dLen dCap ad sLen sCap k m cur.toArray t cs hu hsz hg hm hn hsrc (by simpa using hfit) h1
    unfold Oper.wp
    simp [execOp, ho, resolve, invoke, builtin, hd, hs, hrun, Result.andThen]
    refine hK _ _ (h _ (show _ = _ by simpa [splice] using setRow_heap w g _ _ t _ hg) ?_ ?_)
    · exact setRow_keeps (Keeps.refl _ _) (Or.inl (by simp)) _
    · exact setRow_keeps hb hBg _
theorem pcells_zeros (n : Nat) : pcells (List.replicate n (0, 0)) = List.replicate (n * 2) (.int .i64 0) := by
  induction n with
  | zero => rfl
  | succ n ih => rw [List.replicate_succ, show (n + 1) * 2 = n * 2 + 1 + 1 by omega, List.replicate_succ, List.replicate_succ]; simp [pcells, ih]
theorem madeCells_same (z : Value) (n : Nat) : (madeCells #[z, z] n).toList = List.replicate n z := by
  apply List.ext_getElem?
  intro j
  by_cases hj : j < n
  · rcases (by omega : j % 2 = 0 ∨ j % 2 = 1) with h | h <;> simp [madeCells, hj, h]
  · simp [madeCells, hj]
theorem size_step : (Tryd.prog.info? 31).map (·.size) = some 2 := by kernel_rfl
/-- 'make([]api.Step, l)': a block of zeros. -/
theorem make_steps (w : World) (l : Int) (n : Nat) (hn : l = n) (h : n ≤ 10000000000) :
    (Instr.makeSlice 25 (.int .i64 l) (.int .i64 l)).run Tryd.prog w = .ok (.slice (some ⟨w.heap.size, 0, none⟩) n n) (w.alloc (.cells (pcells (List.replicate n (0, 0))).toArray 31)) := by
  subst hn
  obtain ⟨i, hi, hz, hs, hb⟩ := info_parts info_step
  have e1 : (i.bytes : Int) * (n : Int) ≤ 281474976710656 := by
    rw [hb]; omega
  rw [run_make w 25 31 i _ Tryd.underlying25 hi hz .i64 .i64 n n (by omega) (Int.le_refl _) e1 (by omega)]
  simp only [Int.toNat_natCast]
  have e : madeCells (Value.agg #[.int .i64 0, .int .i64 0]).cells (n * i.size) = (pcells (List.replicate n (0, 0))).toArray := by
    rw [hs]
    apply Array.toList_inj.1
    show (madeCells #[.int .i64 0, .int .i64 0] (n * 2)).toList = _
    rw [madeCells_same, pcells_zeros]
  rw [e]
end Go.Proofs.YtcblibefmclloaaDoor
