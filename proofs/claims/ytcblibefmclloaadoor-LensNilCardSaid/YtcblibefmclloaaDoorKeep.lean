import Derived.Test.YtcblibefmclloaaDoorBase
set_option linter.unusedVariables false
set_option linter.unusedSimpArgs false
namespace Go.Proofs.YtcblibefmclloaaDoor
open Go.RowKit

theorem beq_of_getD (xs ys : List Int) (n : Nat) (hx : xs.length = n) (hy : ys.length = n) (h : ∀ j, j < n → nth xs j = nth ys j) : (xs == ys) = true := by
  rw [beq_iff_eq]
  refine List.ext_getElem (by omega) fun i h1 h2 => ?_
  have := h i (by omega)
  simpa [nth, List.getD, h1, h2] using this
theorem beq_of_ne (xs ys : List Int) (j : Nat) (h : ¬ nth xs j = nth ys j) : (xs == ys) = false := by
  rw [beq_eq_false_iff_ne]
  rintro rfl
  exact h rfl
theorem beq_of_len (xs ys : List Int) (h : xs.length ≠ ys.length) : (xs == ys) = false := by
  rw [beq_eq_false_iff_ne]
  rintro rfl
  exact h rfl
theorem eq_snoc {xs ys : List Int} {k : Nat} (h : ∀ j, j < k → nth xs j = nth ys j) (hk : nth xs k = nth ys k) : ∀ j, j < k + 1 → nth xs j = nth ys j := fun j hj => by
  by_cases e : j = k
  · subst e; exact hk
  · exact h j (by omega)
set_option maxHeartbeats 400000 in
theorem ints_calls (w : World) (A B : Option Addr) (n m c d : Nat) (xs ys : List Int) (hx : RI .i64 w A n xs) (hy : RI .i64 w B m ys) (hn : n ≤ 140737488355328) (hm : m ≤ 140737488355328) :
    Calls Tryd.prog 23 #[.slice A n c, .slice B m d] w fun e w' => e = .returned (.bool (xs == ys)) ∧ Dr w w' := by
  have lx := hx.len
  have ly := hy.len
  by_cases hnm : n = m
  · subst hnm
    have t0 : ((n : Int) != (n : Int)) = false := by simp
    go_enter Tryd.func23, Tryd.ntmps23
    go_wp2
    clear t0
    have HX := Lib.hid hx
    have HY := Lib.hid hy
    have LX := Lib.hid lx
    have LY := Lib.hid ly
    clear hx hy lx ly
    go_loopw [5] (fun i wr => ∃ k : Nat, k ≤ n ∧ i = .int .i64 k ∧ Hid (∀ j, j < k → nth xs j = nth ys j) ∧ Hid (Dr w wr)) (fun i _ => n - (intOf i).toNat)
    case atStart => exact ⟨0, by omega, rfl, fun j hj => by omega, Dr.refl _⟩
    case round =>
      obtain ⟨k, hk, rfl, HE, HW⟩ := hrel
      obtain ⟨q, rfl⟩ := HW.out
      clear HW
      by_cases hlt : k < n
      · obtain ⟨a, o, rfl, ha⟩ := HX.out.at hlt
        obtain ⟨b, o', rfl, hb⟩ := HY.out.at hlt
        by_cases hv : nth xs k = nth ys k
        · have t1 : (nth xs k != nth ys k) = false := by simpa using hv
          have HV := Lib.hid hv
          clear hv
          go_wp2
          go_quiet (fail)
          go_wp2
          go_roundw
          case rel => exact ⟨k + 1, by omega, by go_num, eq_snoc HE.out HV.out, ⟨_, rfl⟩⟩
          case measure => simp [intOf]; omega
        · have t1 : (nth xs k != nth ys k) = true := by simpa using hv
          have HV := Lib.hid hv
          clear hv
          go_wp2
          go_quiet (fail)
          go_wp2
          go_ret
          rw [beq_of_ne xs ys k HV.out]
          exact ⟨rfl, Dr.step ⟨_, rfl⟩ _⟩
      · go_wp2
        go_ret
        rw [beq_of_getD xs ys n LX.out LY.out (fun j hj => HE.out j (by omega))]
        exact ⟨rfl, _, rfl⟩
  · have t0 : ((n : Int) != (m : Int)) = true := by simp; omega
    go_enter Tryd.func23, Tryd.ntmps23
    go_wp2
    go_ret
    rw [beq_of_len xs ys (by omega)]
    exact ⟨rfl, 0, rfl⟩
end Go.Proofs.YtcblibefmclloaaDoor
