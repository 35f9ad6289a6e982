import Derived.Test.YtcblibefmclloaaDoorAdd
set_option linter.unusedVariables false
set_option linter.unusedSimpArgs false
namespace Go.Proofs.YtcblibefmclloaaDoor
open Go.RowKit
theorem rep_ri {w : World} {g t m : Nat} {v : Int} (h : Blk w g t (ints .i64 (List.replicate m v))) : RI .i64 w (some ⟨g, 0, none⟩) m (List.replicate m v) := by
  have := Blk.ri (ys := []) (xs := List.replicate m v) (by simpa using h)
  simpa using this
set_option maxRecDepth 100000 in
set_option maxHeartbeats 1000000 in
theorem add_good (w : World) (base len : Nat) (u : Value) (l : List Int) (s : Nat) (extra n v : Int) (k : Nat) (hb : base ≤ w.heap.size) (ht : Tabs w) (hu : w.ownsRow base 3 1 u len (ints .i64 l)) (hlen : len ≤ 1000) (hsay : sayF l s extra = some (v, k)) :
    Calls Tryd.prog 56 #[u, .agg #[.int .i64 s, .int .i64 extra], .int .i64 n] w (Added w base (addF l s extra n)) := by
  obtain ⟨A, c, rfl, hri, hcap, hblk⟩ := own_ri hu
  have hll : l.length = len := hri.len
  have hkp := sayF_pos hsay
  have HS := Lib.hid hsay
  have HU := Lib.hid hu
  clear hu
  have HC : Hid (s ≤ 15 ∧ extra = 0 ∧ v = s ∧ k = 1 ∨ s = 16 ∧ 0 ≤ extra ∧ extra ≤ 3 ∧ 1 ≤ len ∧ v = nth l (len - 1) ∧ (k : Int) = 3 + extra ∨ s = 17 ∧ 0 ≤ extra ∧ extra ≤ 7 ∧ v = 0 ∧ (k : Int) = 3 + extra ∨ s = 18 ∧ 0 ≤ extra ∧ extra ≤ 127 ∧ v = 0 ∧ (k : Int) = 11 + extra) := by
    simp only [sayF] at hsay
    split at hsay
    · rename_i h; simp at hsay; exact Or.inl ⟨by omega, h.2.2, hsay.1.symm, hsay.2.symm⟩
    · split at hsay
      · rename_i h; simp at hsay
        have : 1 ≤ l.length := by
          rcases Nat.eq_zero_or_pos l.length with h' | h'
          · exact absurd (List.eq_nil_of_length_eq_zero h') h.2.2.2
          · exact h'
        exact Or.inr (Or.inl ⟨by omega, h.2.1, h.2.2.1, by omega, by rw [← hll]; simpa [nth] using hsay.1.symm, by omega⟩)
      · split at hsay
        · rename_i h; simp at hsay; exact Or.inr (Or.inr (Or.inl ⟨by omega, h.2.1, h.2.2, hsay.1.symm, by omega⟩))
        · split at hsay
          · rename_i h; simp at hsay; exact Or.inr (Or.inr (Or.inr ⟨by omega, h.2.1, h.2.2, hsay.1.symm, by omega⟩))
          · simp at hsay
  clear hsay
  have hglob : ∀ (j : Nat) (o : Obj), j < 19 → (w.alloc o).cell? ⟨2, j, none⟩ = some (.int .i64 (nth wideL j)) ∧ (w.alloc o).cell? ⟨0, j, none⟩ = some (.int .i64 (nth fromL j)) := fun j o hj => by
    have h1 := ht.wid.cell _ _ rfl j hj
    have h2 := ht.fro.cell _ _ rfl j hj
    rw [Nat.zero_add] at h1 h2
    exact ⟨((Keeps.refl [] w).alloc o).cell (by simp) h1, ((Keeps.refl [] w).alloc o).cell (by simp) h2⟩
  have HR := Lib.hid hri
  clear ht hri hll
  have e1 : decide ((s : Int) < 0) = false := by simp
  rcases HC.out with ⟨hs, rfl, hv, hk0⟩ | ⟨rfl, hx0, hx3, hl1, hv, hk⟩ | ⟨rfl, hx0, hx3, hv, hk⟩ | ⟨rfl, hx0, hx3, hv, hk⟩
  case' inl =>
    have hk1 : (k : Int) ≤ 1 := by omega
    have hk2 : 1 ≤ (k : Int) := by omega
    have HV := Lib.hid hv
    clear hv hk0
    have e2 : decide (19 ≤ (s : Int)) = false := by simp; omega
    have hl : (s : Int) < 19 := by omega
    have hc := fun o => (hglob s o (by omega)).1
    rw [wide0 s hs] at hc
    have e5 : decide (15 < (s : Int)) = false := by simp; omega
    have e6 : ((s : Int) == 16) = false := by simp; omega
    clear hglob HC
    go_enter Tryd.func56, Tryd.ntmps56
    go_wp2_with fail
    go_quiet (fail)
    go_upto_region 10 with (fail)
  case' inr.inl =>
    have hk1 : (k : Int) ≤ 3 + extra := by omega
    have hk2 : 3 + extra ≤ (k : Int) := by omega
    have HV := Lib.hid hv
    clear hv hk
    have e3 : decide (extra < 0) = false := by simp; omega
    have e4 : decide (4 ≤ extra) = false := by simp; omega
    have hc := fun o => (hglob 16 o (by omega)).1
    have hd := fun o => (hglob 16 o (by omega)).2
    rw [show nth wideL 16 = 2 from rfl] at hc
    rw [show nth fromL 16 = 3 from rfl] at hd
    have e2 : IntKind.i64.wrap (3 + extra) = 3 + extra := IntWalk.i64_in _ (by omega)
    obtain ⟨b, o, rfl, hlast⟩ := HR.out.at (show len - 1 < len by omega)
    have hlast' := fun ob => ((Keeps.refl [] w).alloc ob).cell (by simp) hlast
    have e7 : ((len : Int) == 0) = false := by simp; omega
    have e8 : ((len : Int) - 1).toNat = len - 1 := by omega
    clear hglob HC hlast
    go_enter Tryd.func56, Tryd.ntmps56
    go_wp2_with fail
    go_quiet (fail)
    go_wp2_with fail
    go_quiet (fail)
    go_upto_region 10 with (fail)
  case' inr.inr.inl =>
    have hk1 : (k : Int) ≤ 3 + extra := by omega
    have hk2 : 3 + extra ≤ (k : Int) := by omega
    have HV := Lib.hid hv
    clear hv hk
    have e3 : decide (extra < 0) = false := by simp; omega
    have e4 : decide (8 ≤ extra) = false := by simp; omega
    have hc := fun o => (hglob 17 o (by omega)).1
    have hd := fun o => (hglob 17 o (by omega)).2
    rw [show nth wideL 17 = 3 from rfl] at hc
    rw [show nth fromL 17 = 3 from rfl] at hd
    have e2 : IntKind.i64.wrap (3 + extra) = 3 + extra := IntWalk.i64_in _ (by omega)
    clear hglob HC
    go_enter Tryd.func56, Tryd.ntmps56
    go_wp2_with fail
    go_quiet (fail)
    go_wp2_with fail
    go_quiet (fail)
    go_upto_region 10 with (fail)
  case' inr.inr.inr =>
    have hk1 : (k : Int) ≤ 11 + extra := by omega
    have hk2 : 11 + extra ≤ (k : Int) := by omega
    have HV := Lib.hid hv
    clear hv hk
    have e3 : decide (extra < 0) = false := by simp; omega
    have e4 : decide (128 ≤ extra) = false := by simp; omega
    have hc := fun o => (hglob 18 o (by omega)).1
    have hd := fun o => (hglob 18 o (by omega)).2
    rw [show nth wideL 18 = 7 from rfl] at hc
    rw [show nth fromL 18 = 11 from rfl] at hd
    have e2 : IntKind.i64.wrap (11 + extra) = 11 + extra := IntWalk.i64_in _ (by omega)
    clear hglob HC
    go_enter Tryd.func56, Tryd.ntmps56
    go_wp2_with fail
    go_quiet (fail)
    go_wp2_with fail
    go_quiet (fail)
    go_upto_region 10 with (fail)
  all_goals
    by_cases hn : n < (len : Int) + (k : Int)
    · go_wp2_with fail
      go_ret2
      rw [addF_many HS.out (by have := HR.out.len; omega)]
      exact ⟨rfl, Keeps.below (by repeat (first | exact Keeps.refl _ _ | apply Keeps.drewN | apply Keeps.alloc)) |>.mono hb⟩
    · go_wp2_with fail
      refine (repeat_calls' _ _ _ k _ v (by omega) (by rw [HV.out]; go_simp) (by omega) (by omega)).mono ?_
      rintro e w6 ⟨g, rfl, hB, hg, hb6⟩
      have hK : Keeps [] w w6 := Keeps.trans (by repeat (first | exact Keeps.refl _ _ | apply Keeps.drewN | apply Keeps.alloc)) (Keeps.of_below hb6)
      have hO := own_keeps HU.out hK (by simp)
      have hRI := rep_ri hB
      have hsz : base ≤ w6.heap.size := Nat.le_trans hb hK.size
      have HO := Lib.hid hO
      have HRI := Lib.hid hRI
      have HK := Lib.hid hK
      clear hB hb6 hO hRI hK hg
      go_wp2_with (at_builtin; refine app_ints rfl (.tmp 63) (.tmp 67) rfl base _ _ _ rfl HO.out g k k (List.replicate k v) rfl HRI.out (by omega) hsz ?_)
      intro v' w7 h7 hg7
      have H7 := Lib.hid h7
      have HG := Lib.hid hg7
      clear h7 hg7
      go_wp2_with fail
      go_ret2
      rw [addF_some HS.out (by have := HR.out.len; omega)]
      refine ⟨v', rfl, ?_, ?_⟩
      · rw [show (l ++ List.replicate k v).length = len + k by have := HR.out.len; simp; omega]; exact H7.out
      · exact ((HK.out.below.mono hb).grown HG.out hsz (fun k hk => (HU.out.lt k hk).1))
end Go.Proofs.YtcblibefmclloaaDoor
