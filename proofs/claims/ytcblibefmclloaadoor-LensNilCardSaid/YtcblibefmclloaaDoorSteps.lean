import Derived.Test.YtcblibefmclloaaDoorKeep
import Derived.Laws.StructEq
set_option linter.unusedVariables false
set_option linter.unusedSimpArgs false
namespace Go.Proofs.YtcblibefmclloaaDoor
open Go.RowKit
/-- The pair at a place. -/
def pth (xs : List (Int × Int)) (j : Nat) : Int × Int := xs.getD j (0, 0)
/-- A slice's cells are these pairs of numbers. -/
structure RP (w : World) (A : Option Addr) (n : Nat) (xs : List (Int × Int)) : Prop where
  len : xs.length = n
  hd : 0 < n → ∃ b o, A = some ⟨b, o, none⟩
  cell : ∀ b o, A = some ⟨b, o, none⟩ → ∀ j, j < n → w.cell? ⟨b, o + j * 2, none⟩ = some (.int .i64 (pth xs j).1) ∧ w.cell? ⟨b, o + j * 2 + 1, none⟩ = some (.int .i64 (pth xs j).2)
theorem step_neq (w : World) (a b c d : Int) : (binOp .neq 31 (.agg #[.int .i64 a, .int .i64 b]) (.agg #[.int .i64 c, .int .i64 d])).run Tryd.prog w = .ok (.bool (!(a == c && b == d))) w := by
  have u3 := Tryd.underlying3
  have hS : Tryd.prog.underlying 31 = some (.struct (Tryd.prog.fieldsOf 31)) := by kernel_rfl
  have hp : Tryd.prog.stoodInHeld 31 = false := by kernel_rfl
  rw [run_neq_struct, show (10000 : Nat) = 9999 + 1 from rfl, run_equalIn_agg w 9999 31 _ _ hS hp]
  simp only [Program.fieldsOf, Tryd.underlying31]
  go_simp
  by_cases h1 : a = c <;> by_cases h2 : b = d <;> simp [h1, h2]
theorem step_guard (x y : Operand) (w : World) (a b c d : Int) : (eqGuard .neq 31 x y (.agg #[.int .i64 a, .int .i64 b]) (.agg #[.int .i64 c, .int .i64 d])).run Tryd.prog w = .ok () w :=
  run_eqGuard_agg _ _ _ _ _ _ _ (by kernel_rfl)
theorem peq_of (xs ys : List (Int × Int)) (n : Nat) (hx : xs.length = n) (hy : ys.length = n) (h : ∀ j, j < n → pth xs j = pth ys j) : (xs == ys) = true := by
  rw [beq_iff_eq]
  refine List.ext_getElem (by omega) fun i h1 h2 => ?_
  have := h i (by omega)
  simpa [pth, List.getD, h1, h2] using this
theorem pne_of (xs ys : List (Int × Int)) (j : Nat) (h : ¬ pth xs j = pth ys j) : (xs == ys) = false := by
  rw [beq_eq_false_iff_ne]
  rintro rfl
  exact h rfl
theorem pne_len (xs ys : List (Int × Int)) (h : xs.length ≠ ys.length) : (xs == ys) = false := by
  rw [beq_eq_false_iff_ne]
  rintro rfl
  exact h rfl
theorem peq_snoc {xs ys : List (Int × Int)} {k : Nat} (h : ∀ j, j < k → pth xs j = pth ys j) (hk : pth xs k = pth ys k) : ∀ j, j < k + 1 → pth xs j = pth ys j := fun j hj => by
  by_cases e : j = k
  · subst e; exact hk
  · exact h j (by omega)
set_option maxRecDepth 100000 in
set_option maxHeartbeats 400000 in
theorem same_calls (w : World) (A B : Option Addr) (n m c d : Nat) (xs ys : List (Int × Int)) (hx : RP w A n xs) (hy : RP w B m ys) (hn : n ≤ 140737488355328) (hm : m ≤ 140737488355328) :
    Calls Tryd.prog 19 #[.slice A n c, .slice B m d] w fun e w' => e = .returned (.bool (xs == ys)) ∧ Dr w w' := by
  have lx := hx.len
  have ly := hy.len
  by_cases hnm : n = m
  · subst hnm
    have t0 : ((n : Int) != (n : Int)) = false := by simp
    go_enter Tryd.func19, Tryd.ntmps19
    go_wp2
    clear t0
    have HX := Lib.hid hx
    have HY := Lib.hid hy
    have LX := Lib.hid lx
    have LY := Lib.hid ly
    clear hx hy lx ly
    go_loopw [5] (fun i wr => ∃ k : Nat, k ≤ n ∧ i = .int .i64 k ∧ Hid (∀ j, j < k → pth xs j = pth ys j) ∧ Hid (Dr w wr)) (fun i _ => n - (intOf i).toNat)
    case atStart => exact ⟨0, by omega, rfl, fun j hj => by omega, ⟨0, rfl⟩⟩
    case round =>
      obtain ⟨k, hk, rfl, HE, HW⟩ := hrel
      obtain ⟨q, rfl⟩ := HW.out
      clear HW
      by_cases hlt : k < n
      · obtain ⟨a, o, rfl⟩ := HX.out.hd (by omega)
        obtain ⟨b, o', rfl⟩ := HY.out.hd (by omega)
        obtain ⟨a1, a2⟩ := HX.out.cell a o rfl k hlt
        obtain ⟨b1, b2⟩ := HY.out.cell b o' rfl k hlt
        have e1 := step_neq
        have e2 := step_guard
        have HU : Hid (pth xs k = ((pth xs k).1, (pth xs k).2)) := rfl
        have HV : Hid (pth ys k = ((pth ys k).1, (pth ys k).2)) := rfl
        generalize (pth xs k).1 = u1 at *
        generalize (pth xs k).2 = u2 at *
        generalize (pth ys k).1 = v1 at *
        generalize (pth ys k).2 = v2 at *
        by_cases hv : u1 = v1 ∧ u2 = v2
        · obtain ⟨rfl, rfl⟩ := hv
          go_wp2
          go_quiet (fail)
          go_wp2
          go_roundw
          case rel => exact ⟨k + 1, by omega, by go_num, peq_snoc HE.out (HU.out.trans HV.out.symm), ⟨_, rfl⟩⟩
          case measure => simp [intOf]; omega
        · have t1 : (u1 == v1 && u2 == v2) = false := by
            rw [Bool.and_eq_false_iff]
            by_cases h1 : u1 = v1
            · exact Or.inr (by rw [beq_eq_false_iff_ne]; exact fun h2 => hv ⟨h1, h2⟩)
            · exact Or.inl (by rw [beq_eq_false_iff_ne]; exact h1)
          have hne : ¬ pth xs k = pth ys k := fun h => by
            rw [HU.out, HV.out] at h
            injection h with h1 h2
            exact hv ⟨h1, h2⟩
          have HN := Lib.hid hne
          clear hne hv
          go_wp2
          go_quiet (fail)
          go_wp2
          go_ret
          rw [pne_of xs ys k HN.out]
          exact ⟨rfl, Dr.step ⟨_, rfl⟩ _⟩
      · go_wp2
        go_ret
        rw [peq_of xs ys n LX.out LY.out (fun j hj => HE.out j (by omega))]
        exact ⟨rfl, _, rfl⟩
  · have t0 : ((n : Int) != (m : Int)) = true := by simp; omega
    go_enter Tryd.func19, Tryd.ntmps19
    go_wp2
    go_ret
    rw [pne_len xs ys (by omega)]
    exact ⟨rfl, 0, rfl⟩
end Go.Proofs.YtcblibefmclloaaDoor
