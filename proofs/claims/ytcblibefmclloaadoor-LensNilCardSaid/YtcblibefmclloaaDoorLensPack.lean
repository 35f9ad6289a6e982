import Derived.Test.YtcblibefmclloaaDoorPack1
import Derived.Test.YtcblibefmclloaaDoorRefPack
import Derived.Deep.Onto
set_option linter.unusedVariables false
set_option linter.unusedSimpArgs false
namespace Go.Proofs.YtcblibefmclloaaDoor
open Go.RowKit
/-- A run begun at a place, so far, perhaps empty. -/
structure Run0 (xs : List Int) (i m : Nat) : Prop where
  le : i + m ≤ xs.length
  eq : ∀ j, j < m → nth xs (i + j) = nth xs i
theorem Run0.step {xs : List Int} {i m : Nat} (h : Run0 xs i m) (hl : i + m < xs.length) (hv : nth xs (i + m) = nth xs i) : Run0 xs i (m + 1) :=
  ⟨by omega, fun j hj => by
    by_cases e : j = m
    · subst e; exact hv
    · exact h.eq j (by omega)⟩
theorem Run0.one {xs : List Int} {i m : Nat} (h : Run0 xs i m) (hi : i < xs.length) (hs : i + m < xs.length → nth xs (i + m) ≠ nth xs i) : 1 ≤ m := by
  rcases Nat.eq_zero_or_pos m with rfl | h1
  · exact absurd rfl (hs (by omega))
  · exact h1
theorem box_cell {w w1 : World} {o : Obj} {u x : Value} {B : Nat} (hc : w.cell? ⟨B, 0, none⟩ = some x) (hne : ∀ k, u.ownBlock = some k → B + 1 ≤ k) (hg : (w.alloc o).grownBy w1 u.ownBlock) : w1.cell? ⟨B, 0, none⟩ = some x := by
  have hB : B < w.heap.size := World.block_lt_of_cell? _ _ hc
  exact (World.cell?_of_block (w := w.alloc o) (a := ⟨B, 0, none⟩) (hg.block B (by simp; omega) (fun e => by have := hne B e.symm; omega))).trans (((Keeps.refl [] w).alloc o).cell (by simp) hc)
theorem box_frozen {w w1 : World} {o : Obj} {u : Value} {B : Nat} (hB : B < w.heap.size) (hf : w.frozen? ⟨B, 0, none⟩ = false) (hne : ∀ k, u.ownBlock = some k → B + 1 ≤ k) (hg : (w.alloc o).grownBy w1 u.ownBlock) : w1.frozen? ⟨B, 0, none⟩ = false :=
  (World.frozen?_of_block (w := w.alloc o) (a := ⟨B, 0, none⟩) (hg.block B (by simp; omega) (fun e => by have := hne B e.symm; omega))).trans ((((Keeps.refl [] w).alloc o).frozen (p := ⟨B, 0, none⟩) hB (by simp)).trans hf)
/-- Behind 'box = append(box, ..)': the box, its row, what lies below. -/
theorem box_put {w0 w w1 : World} {o : Obj} {u x : Value} {B : Nat} {e : TypeId} {size n : Nat} {cs : List Value} (hW : Below B w0 w) (hc : w.cell? ⟨B, 0, none⟩ = some x) (hf : w.frozen? ⟨B, 0, none⟩ = false) (hne : ∀ k, u.ownBlock = some k → B + 1 ≤ k) (hg : (w.alloc o).grownBy w1 u.ownBlock)
    {v : Value} (h1 : w1.ownsRow (B + 1) e size v n cs) :
    (w1.setCell ⟨B, 0, none⟩ v).cell? ⟨B, 0, none⟩ = some v ∧ (w1.setCell ⟨B, 0, none⟩ v).frozen? ⟨B, 0, none⟩ = false ∧ (w1.setCell ⟨B, 0, none⟩ v).ownsRow (B + 1) e size v n cs ∧ Below B w0 (w1.setCell ⟨B, 0, none⟩ v) := by
  have hB : B < w.heap.size := World.block_lt_of_cell? _ _ hc
  refine ⟨World.cell?_setCell_same' _ _ _ (by rw [box_cell hc hne hg]; rfl), by simpa using box_frozen hB hf hne hg, ownsRow_setCell_below h1 (Nat.lt_succ_self B) v, ?_⟩
  exact (((hW.alloc (Nat.le_of_lt hB) _)).grown hg (by simp; omega) (fun k hk => Nat.le_of_succ_le (hne k hk))).setCell (p := ⟨B, 0, none⟩) (Nat.le_refl B) v
set_option maxRecDepth 100000 in
set_option maxHeartbeats 1000000 in
theorem lensPack_calls (w : World) (A : Option Addr) (n c : Nat) (xs : List Int) (ht : Tabs w) (hx : RI .i64 w A n xs) (hn : n ≤ 1048576) :
    Calls Tryd.prog 17 #[.slice A n c] w (Packed w xs) := by
  have HT := Lib.hid ht
  have HX := Lib.hid hx
  have HL := Lib.hid hx.len
  clear hx ht
  by_cases hbig : 316 < n
  · have e1 : decide (316 < n) = true := by simpa using hbig
    go_enter Tryd.func17, Tryd.ntmps17
    go_wp2_with fail
    go_ret2
    exact Or.inr ⟨Or.inl (by have := HL.out; omega), rfl, Below.refl _ _⟩
  · have e1 : decide (316 < n) = false := by simpa using hbig
    go_enter Tryd.func17, Tryd.ntmps17
    go_wp2_with fail
    refine (lengths_calls w _ _ _ xs HX.out (by omega)).mono ?_
    rintro e w' ⟨rfl, hdr⟩
    have HDR := Lib.hid hdr
    clear hdr
    cases hb : anyBad xs with
    | true =>
      have HB := Lib.hid hb
      clear hb
      go_wp2_with fail
      go_ret2
      exact Or.inr ⟨Or.inr HB.out, rfl, Dr.below HDR.out⟩
    | false =>
      have HB := Lib.hid hb
      clear hb e1
      have HSZ : Hid (w'.heap.size = w.heap.size) := by obtain ⟨q, rfl⟩ := HDR.out; rfl
      go_wp2_with fail
      have HW0 : Hid (Below w'.heap.size w' (w'.alloc (.cells #[.slice none 0 0] 25))) := (Below.refl _ _).alloc (Nat.le_refl _) _
      have HT0 : Hid (Tabs w') := HT.out.keeps (HDR.out.keeps (S := [])) (by simp)
      have HX0 : Hid (RI .i64 w' A n xs) := HX.out.keeps (HDR.out.keeps (S := [])) (off_nil _)
      have HG : Hid (gtop ≤ w'.heap.size) := HT0.out.size
      clear HX HT
      go_loopw [6] (fun i wr => ∃ (k : Nat) (out : List (Int × Int)) (u : Value), k ≤ n ∧ i = .int .i64 k ∧ wr.cell? ⟨w'.heap.size, 0, none⟩ = some u ∧ wr.frozen? ⟨w'.heap.size, 0, none⟩ = false ∧ Hid (wr.ownsRow (w'.heap.size + 1) 31 2 u out.length (pcells out)) ∧ Hid (out ++ packF (xs.drop k) = packF xs) ∧ out.length ≤ k ∧ Hid (Below w'.heap.size w' wr) ∧ w'.heap.size < wr.heap.size) (fun i _ => n - (intOf i).toNat)
      case atStart => exact ⟨0, [], .slice none 0 0, by omega, rfl, by simp, by simp, Lib.hid (World.ownsRow_nil _ _ _ _), Lib.hid (by simp), by simp, HW0, by simp⟩
      case round =>
        clear HW0
        obtain ⟨k, out, u, hk, rfl, hbc, hbf, HO, HP, hol, HW, hsz⟩ := hrel
        by_cases hlt : k < n
        · obtain ⟨b, o, rfl, hc1⟩ := HX0.out.at hlt
          have hc1' := (Keeps.of_below (S := []) HW.out).cell (by simp) hc1
          clear hc1
          go_upto_block 2 with (fail)
          go_cut [6, 8] (fun v6 v8 wc => ∃ m : Nat, m + k ≤ n ∧ 1 ≤ m ∧ v6 = .int .i64 ((k : Int) + m) ∧ v8 = .int .i64 m ∧ Hid (RunOk xs k m) ∧ Hid (Dr wr wc))
          case first =>
            go_wp2_with fail
            go_loopw [6, 8] (fun v6 v8 wi => ∃ m : Nat, m + k ≤ n ∧ v6 = .int .i64 ((k : Int) + m) ∧ v8 = .int .i64 m ∧ Hid (Run0 xs k m) ∧ Hid (Dr wr wi)) (fun _ v8 _ => n - (intOf v8).toNat)
            case atStart => exact ⟨0, by omega, by go_num, rfl, Lib.hid ⟨by have := HL.out; omega, fun j hj => by omega⟩, ⟨0, rfl⟩⟩
            case round =>
              obtain ⟨m, hm, rfl, rfl, HR, HD⟩ := hrel
              obtain ⟨q1, rfl⟩ := HD.out
              clear HD
              by_cases h1 : k + m < n
              · obtain ⟨b', o', he, hc2⟩ := HX0.out.at h1
                injection he with he; injection he with he1 he2 he3; subst he1; subst he2; clear he3
                have hc2' := (Keeps.of_below (S := []) HW.out).cell (by simp) hc2
                clear hc2
                have e2 : (0 : Int) ≤ (k : Int) + (m : Int) := by omega
                have e3 : ((k : Int) + (m : Int)).toNat = k + m := by omega
                have e4 : decide ((k : Int) + (m : Int) < (n : Int)) = true := by simp; omega
                by_cases hv : nth xs (k + m) = nth xs k
                · have e5 : (nth xs (k + m) == nth xs k) = true := by simpa using hv
                  have HV := Lib.hid hv
                  clear hv
                  go_wp2_with fail
                  clear e2 e3 e4 e5
                  go_wp2_with fail
                  go_roundw
                  case rel => exact ⟨m + 1, by omega, by go_num, by go_num, Lib.hid (HR.out.step (by have := HL.out; omega) HV.out), Lib.hid (by first | exact ⟨_, rfl⟩ | exact Dr.step ⟨_, rfl⟩ _)⟩
                  case measure => simp [intOf]; omega
                · have e5 : (nth xs (k + m) == nth xs k) = false := by simpa using hv
                  have HV := Lib.hid hv
                  clear hv
                  go_wp2_with fail
                  clear e2 e3 e4 e5
                  go_wp2_with fail
                  go_meet
                  case rel => exact ⟨m, by omega, HR.out.one (by have := HL.out; omega) (fun _ => HV.out), rfl, rfl, Lib.hid { one := HR.out.one (by have := HL.out; omega) (fun _ => HV.out), le := HR.out.le, eq := HR.out.eq, stop := fun _ => HV.out }, Lib.hid (by first | exact ⟨_, rfl⟩ | exact Dr.step ⟨_, rfl⟩ _)⟩
              · have e4 : decide ((k : Int) + (m : Int) < (n : Int)) = false := by simp; omega
                go_wp2_with fail
                clear e4
                go_wp2_with fail
                go_meet
                case rel => exact ⟨m, by omega, by omega, rfl, rfl, Lib.hid { one := by omega, le := HR.out.le, eq := HR.out.eq, stop := fun h => absurd h (by have := HL.out; omega) }, Lib.hid (by first | exact ⟨_, rfl⟩ | exact Dr.step ⟨_, rfl⟩ _)⟩
          case rest =>
            obtain ⟨m, hm, hm1, rfl, rfl, HR, HD⟩ := hcut
            have HO1 : Hid (wc.ownsRow (w'.heap.size + 1) 31 2 u out.length (pcells out)) := by obtain ⟨q1, rfl⟩ := HD.out; exact HO.out
            have HW1 : Hid (Below w'.heap.size w' wc) := by obtain ⟨q1, rfl⟩ := HD.out; exact (HW.out.trans ((Dr.below ⟨q1, rfl⟩).mono HW.out.size))
            have hbc1 : wc.cell? ⟨w'.heap.size, 0, none⟩ = some u := by obtain ⟨q1, rfl⟩ := HD.out; exact hbc
            have hbf1 : wc.frozen? ⟨w'.heap.size, 0, none⟩ = false := by obtain ⟨q1, rfl⟩ := HD.out; exact hbf
            clear HD HO HW hbc hbf hc1'
            have HT1 := Lib.hid (HT0.out.below HW1.out HG.out)
            have hsz1 : w'.heap.size < wc.heap.size := World.block_lt_of_cell? _ _ hbc1
            go_upto_if 43 with (fail)
            go_cut [8] (fun v8 wc => ∃ (r : Nat) (es : List (Int × Int)) (u : Value), r + es.length ≤ m ∧ v8 = .int .i64 r ∧ Hid (es ++ List.replicate r (nth xs k, 0) = rsteps (nth xs k) m) ∧ wc.cell? ⟨w'.heap.size, 0, none⟩ = some u ∧ wc.frozen? ⟨w'.heap.size, 0, none⟩ = false ∧ Hid (wc.ownsRow (w'.heap.size + 1) 31 2 u (out.length + es.length) (pcells (out ++ es))) ∧ Hid (Below w'.heap.size w' wc))
            case first =>
              by_cases hz : nth xs k = 0
              · have e5 : (nth xs k == 0) = true := by simpa using hz
                have HZ := Lib.hid hz
                clear hz
                go_wp2_with fail
                refine (pack1_calls _ _ m 11 18 138 u out.length out HT1.out HG.out hbc1 hbf1 HO1.out (by omega) rfl (by omega) (by omega) (by omega) (by omega) (by omega)).mono ?_
                rintro e w2 ⟨u2, rfl, hc2, hf2, ho2, hb2⟩
                have hl1 := reps_len 11 18 138 m (by omega) (by omega)
                have hl2 := reps_len 3 17 10 (left 11 138 m) (by omega) (by omega)
                have HO2 := Lib.hid ho2
                have HB2 := Lib.hid hb2
                clear ho2 hb2 HO1 hbc1 hbf1 e5
                have HT2 := Lib.hid (HT1.out.below HB2.out HG.out)
                go_wp2_with fail
                refine (pack1_calls _ _ (left 11 138 m) 3 17 10 u2 _ _ HT2.out HG.out hc2 hf2 HO2.out (by omega) rfl (by omega) (by omega) (by omega) (by omega) (by omega)).mono ?_
                rintro e w3 ⟨u3, rfl, hc3, hf3, ho3, hb3⟩
                have HO3 := Lib.hid ho3
                have HB3 := Lib.hid hb3
                clear ho3 hb3 HO2 hc2 hf2
                go_wp2_with fail
                go_meet
                case rel =>
                  refine ⟨_, reps 11 18 138 m ++ reps 3 17 10 (left 11 138 m), u3, ?_, rfl, ?_, hc3, hf3, ?_, Lib.hid ((HW1.out.trans HB2.out).trans HB3.out)⟩
                  · rw [List.length_append]; omega
                  · rw [HZ.out]; exact Lib.hid (by simp [rsteps, zsteps])
                  · exact Lib.hid (by have := HO3.out; rw [List.length_append, ← Nat.add_assoc, ← List.append_assoc]; exact this)
              · have e5 : (nth xs k == 0) = false := by simpa using hz
                have HZ := Lib.hid hz
                clear hz
                go_wp2_with (at_builtin; refine app_step rfl (.tmp 49) (.tmp 52) rfl (w'.heap.size + 1) _ _ _ rfl (HO1.out.alloc _) wc.heap.size (nth xs k) 0 rfl (by simp) (by simp) (by omega) (by simp; omega) ?_)
                intro v' w1 h1 hg g' c' hv
                subst hv
                have hcx := box_cell hbc1 (fun k hk => (HO1.out.lt k hk).1) hg
                have hfx := box_frozen hsz1 hbf1 (fun k hk => (HO1.out.lt k hk).1) hg
                obtain ⟨hc2, hf2, ho2, hb2⟩ := box_put HW1.out hbc1 hbf1 (fun k hk => (HO1.out.lt k hk).1) hg h1
                have HO2 := Lib.hid ho2
                have HB2 := Lib.hid hb2
                have HT2 := Lib.hid (HT0.out.below HB2.out HG.out)
                clear ho2 hb2 HO1 hbc1 hbf1 e5 h1 hg HW1
                have hl2 := reps_len 3 16 6 (m - 1) (by omega) (by omega)
                have em : (m : Int) - 1 = ((m - 1 : Nat) : Int) := by omega
                go_wp2_with fail
                clear hcx hfx
                refine (pack1_calls _ _ (m - 1) 3 16 6 _ _ _ HT2.out HG.out hc2 hf2 HO2.out (by omega) rfl (by omega) (by omega) (by omega) (by omega) (by omega)).mono ?_
                rintro e w3 ⟨u3, rfl, hc3, hf3, ho3, hb3⟩
                have HO3 := Lib.hid ho3
                have HB3 := Lib.hid hb3
                clear ho3 hb3 HO2 hc2 hf2 em
                go_wp2_with fail
                go_meet
                case rel =>
                  refine ⟨_, (nth xs k, 0) :: reps 3 16 6 (m - 1), u3, ?_, rfl, ?_, hc3, hf3, ?_, Lib.hid (HB2.out.trans HB3.out)⟩
                  · rw [List.length_cons]; omega
                  · exact Lib.hid (by simp [rsteps, vsteps, HZ.out])
                  · exact Lib.hid (by have := HO3.out; rw [List.length_cons, show out.length + ((reps 3 16 6 (m - 1)).length + 1) = out.length + 1 + (reps 3 16 6 (m - 1)).length by omega]; simpa using this)
            case rest =>
              clear HO1 hbc1 hbf1 HW1 HT1 hsz1
              obtain ⟨r, es, u1, hre, rfl, HE, hc1, hf1, HO1, HW1⟩ := hcut
              go_wp2_with fail
              go_loopw [59] (fun v59 wr => ∃ (j : Nat) (u : Value), j ≤ r ∧ v59 = .int .i64 j ∧ wr.cell? ⟨w'.heap.size, 0, none⟩ = some u ∧ wr.frozen? ⟨w'.heap.size, 0, none⟩ = false ∧ Hid (wr.ownsRow (w'.heap.size + 1) 31 2 u (out.length + es.length + j) (pcells (out ++ (es ++ List.replicate j (nth xs k, 0))))) ∧ Hid (Below w'.heap.size w' wr)) (fun v59 _ => r - (intOf v59).toNat)
              case atStart => exact ⟨0, u1, by omega, rfl, hc1, hf1, Lib.hid (by simpa using HO1.out), HW1⟩
              case round =>
                clear HO1 HW1 hc1 hf1
                obtain ⟨j, u2, hj, rfl, hc1, hf1, HO1, HW1⟩ := hrel
                have hsz1 : w'.heap.size < wr.heap.size := World.block_lt_of_cell? _ _ hc1
                by_cases hjr : j < r
                · go_wp2_with (at_builtin; refine app_step rfl (.tmp 61) (.tmp 64) rfl (w'.heap.size + 1) _ _ _ rfl (HO1.out.alloc _) wr.heap.size (nth xs k) 0 rfl (by simp) (by simp) (by omega) (by simp; omega) ?_)
                  intro v' w1 h1 hg g' c' hv
                  subst hv
                  have hcx := box_cell hc1 (fun k hk => (HO1.out.lt k hk).1) hg
                  have hfx := box_frozen hsz1 hf1 (fun k hk => (HO1.out.lt k hk).1) hg
                  obtain ⟨hc2, hf2, ho2, hb2⟩ := box_put HW1.out hc1 hf1 (fun k hk => (HO1.out.lt k hk).1) hg h1
                  have HO2 := Lib.hid ho2
                  have HB2 := Lib.hid hb2
                  clear ho2 hb2 HO1 hc1 hf1 h1 hg HW1
                  go_wp2_with fail
                  go_roundw
                  case rel => exact ⟨j + 1, _, by omega, by go_num, hc2, hf2, Lib.hid (by rw [List.replicate_succ']; simpa [Nat.add_assoc] using HO2.out), HB2⟩
                  case measure => simp [intOf]; omega
                · obtain rfl : j = r := by omega
                  go_wp2_with fail
                  go_roundw
                  case rel =>
                    have hpk := HR.out.pack
                    have hp := HP.out
                    have hrl := rsteps_len (nth xs k) m hm1
                    rw [hpk, ← List.append_assoc] at hp
                    have ho := HO1.out
                    rw [HE.out] at ho
                    exact ⟨k + m, out ++ rsteps (nth xs k) m, u2, by omega, by go_num, hc1, hf1, Lib.hid (own_as ho rfl), Lib.hid hp, by rw [List.length_append]; omega, HW1, hsz1⟩
                  case measure => simp [intOf]; omega
        · go_wp2_with fail
          obtain rfl : k = n := by omega
          go_ret2
          have e1 : xs.drop k = [] := List.drop_eq_nil_of_le (by have := HL.out; omega)
          have e2 := HP.out
          rw [e1, packF_nil, List.append_nil] at e2
          subst e2
          exact Or.inl ⟨by have := HL.out; omega, HB.out, _, rfl, (HO.out.mono (by have := HSZ.out; omega)), (Dr.below HDR.out).trans (HSZ.out ▸ HW.out)⟩
end Go.Proofs.YtcblibefmclloaaDoor
