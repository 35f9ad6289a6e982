/-
  For every row of bytes and every number LensReads returns true and both read as they did, where the tables order, wide and from of package lens hold what their own initialisers lay (the card ties that). No other condition.
-/
import Derived.Test.YtcblibefmclloaaDoorReadsA
import Derived.Test.YtcblibefmclloaaDoorReadsH
import Derived.Deep.Onto
import Derived.Test.YtcblibefmclloaaDoorReadsF
import Derived.Test.YtcblibefmclloaaDoorReadsG
set_option linter.unusedVariables false
set_option linter.unusedSimpArgs false
namespace Go.Proofs.YtcblibefmclloaaDoor
open Go.RowKit
/-- A run begun at a place, so far, perhaps empty. -/
structure Run0 (xs : List Int) (i m : Nat) : Prop where
  le : i + m ≤ xs.length
  eq : ∀ j, j < m → nth xs (i + j) = nth xs i
theorem Run0.step {xs : List Int} {i m : Nat} (h : Run0 xs i m) (hl : i + m < xs.length) (hv : nth xs (i + m) = nth xs i) : Run0 xs i (m + 1) :=
  ⟨by omega, fun j hj => by
    by_cases e : j = m
    · subst e; exact hv
    · exact h.eq j (by omega)⟩
theorem Run0.one {xs : List Int} {i m : Nat} (h : Run0 xs i m) (hi : i < xs.length) (hs : i + m < xs.length → nth xs (i + m) ≠ nth xs i) : 1 ≤ m := by
  rcases Nat.eq_zero_or_pos m with rfl | h1
  · exact absurd rfl (hs (by omega))
  · exact h1
theorem box_cell {w w1 : World} {o : Obj} {u x : Value} {B : Nat} (hc : w.cell? ⟨B, 0, none⟩ = some x) (hne : ∀ k, u.ownBlock = some k → B + 1 ≤ k) (hg : (w.alloc o).grownBy w1 u.ownBlock) : w1.cell? ⟨B, 0, none⟩ = some x := by
  have hB : B < w.heap.size := World.block_lt_of_cell? _ _ hc
  exact (World.cell?_of_block (w := w.alloc o) (a := ⟨B, 0, none⟩) (hg.block B (by simp; omega) (fun e => by have := hne B e.symm; omega))).trans (((Keeps.refl [] w).alloc o).cell (by simp) hc)
theorem box_frozen {w w1 : World} {o : Obj} {u : Value} {B : Nat} (hB : B < w.heap.size) (hf : w.frozen? ⟨B, 0, none⟩ = false) (hne : ∀ k, u.ownBlock = some k → B + 1 ≤ k) (hg : (w.alloc o).grownBy w1 u.ownBlock) : w1.frozen? ⟨B, 0, none⟩ = false :=
  (World.frozen?_of_block (w := w.alloc o) (a := ⟨B, 0, none⟩) (hg.block B (by simp; omega) (fun e => by have := hne B e.symm; omega))).trans ((((Keeps.refl [] w).alloc o).frozen (p := ⟨B, 0, none⟩) hB (by simp)).trans hf)
/-- Behind 'box = append(box, ..)': the box, its row, what lies below. -/
theorem box_put {w0 w w1 : World} {o : Obj} {u x : Value} {B : Nat} {e : TypeId} {size n : Nat} {cs : List Value} (hW : Below B w0 w) (hc : w.cell? ⟨B, 0, none⟩ = some x) (hf : w.frozen? ⟨B, 0, none⟩ = false) (hne : ∀ k, u.ownBlock = some k → B + 1 ≤ k) (hg : (w.alloc o).grownBy w1 u.ownBlock)
    {v : Value} (h1 : w1.ownsRow (B + 1) e size v n cs) :
    (w1.setCell ⟨B, 0, none⟩ v).cell? ⟨B, 0, none⟩ = some v ∧ (w1.setCell ⟨B, 0, none⟩ v).frozen? ⟨B, 0, none⟩ = false ∧ (w1.setCell ⟨B, 0, none⟩ v).ownsRow (B + 1) e size v n cs ∧ Below B w0 (w1.setCell ⟨B, 0, none⟩ v) := by
  have hB : B < w.heap.size := World.block_lt_of_cell? _ _ hc
  refine ⟨World.cell?_setCell_same' _ _ _ (by rw [box_cell hc hne hg]; rfl), by simpa using box_frozen hB hf hne hg, ownsRow_setCell_below h1 (Nat.lt_succ_self B) v, ?_⟩
  exact (((hW.alloc (Nat.le_of_lt hB) _)).grown hg (by simp; omega) (fun k hk => Nat.le_of_succ_le (hne k hk))).setCell (p := ⟨B, 0, none⟩) (Nat.le_refl B) v
set_option maxRecDepth 100000 in
set_option maxHeartbeats 1000000 in
theorem lensPack_calls (w : World) (A : Option Addr) (n c : Nat) (xs : List Int) (ht : Tabs w) (hx : RI .i64 w A n xs) (hn : n ≤ 1048576) :
    Calls Tryd.prog 17 #[.slice A n c] w (Packed w xs) := by
  have HT := Lib.hid ht
  have HX := Lib.hid hx
  have HL := Lib.hid hx.len
  clear hx ht
  by_cases hbig : 316 < n
  · have e1 : decide (316 < n) = true := by simpa using hbig
    go_enter Tryd.func17, Tryd.ntmps17
    go_wp2_with fail
    go_ret2
    exact Or.inr ⟨Or.inl (by have := HL.out; omega), rfl, Below.refl _ _⟩
  · have e1 : decide (316 < n) = false := by simpa using hbig
    go_enter Tryd.func17, Tryd.ntmps17
    go_wp2_with fail
    refine (lengths_calls w _ _ _ xs HX.out (by omega)).mono ?_
    rintro e w' ⟨rfl, hdr⟩
    have HDR := Lib.hid hdr
    clear hdr
    cases hb : anyBad xs with
    | true =>
      have HB := Lib.hid hb
      clear hb
      go_wp2_with fail
      go_ret2
      exact Or.inr ⟨Or.inr HB.out, rfl, Dr.below HDR.out⟩
    | false =>
      have HB := Lib.hid hb
      clear hb e1
      have HSZ : Hid (w'.heap.size = w.heap.size) := by obtain ⟨q, rfl⟩ := HDR.out; rfl
      go_wp2_with fail
      have HW0 : Hid (Below w'.heap.size w' (w'.alloc (.cells #[.slice none 0 0] 25))) := (Below.refl _ _).alloc (Nat.le_refl _) _
      have HT0 : Hid (Tabs w') := HT.out.keeps (HDR.out.keeps (S := [])) (by simp)
      have HX0 : Hid (RI .i64 w' A n xs) := HX.out.keeps (HDR.out.keeps (S := [])) (off_nil _)
      have HG : Hid (gtop ≤ w'.heap.size) := HT0.out.size
      clear HX HT
      go_loopw [6] (fun i wr => ∃ (k : Nat) (out : List (Int × Int)) (u : Value), k ≤ n ∧ i = .int .i64 k ∧ wr.cell? ⟨w'.heap.size, 0, none⟩ = some u ∧ wr.frozen? ⟨w'.heap.size, 0, none⟩ = false ∧ Hid (wr.ownsRow (w'.heap.size + 1) 31 2 u out.length (pcells out)) ∧ Hid (out ++ packF (xs.drop k) = packF xs) ∧ out.length ≤ k ∧ Hid (Below w'.heap.size w' wr) ∧ w'.heap.size < wr.heap.size) (fun i _ => n - (intOf i).toNat)
      case atStart => exact ⟨0, [], .slice none 0 0, by omega, rfl, by simp, by simp, Lib.hid (World.ownsRow_nil _ _ _ _), Lib.hid (by simp), by simp, HW0, by simp⟩
      case round =>
        clear HW0
        obtain ⟨k, out, u, hk, rfl, hbc, hbf, HO, HP, hol, HW, hsz⟩ := hrel
        by_cases hlt : k < n
        · obtain ⟨b, o, rfl, hc1⟩ := HX0.out.at hlt
          have hc1' := (Keeps.of_below (S := []) HW.out).cell (by simp) hc1
          clear hc1
          go_upto_block 2 with (fail)
          go_cut [6, 8] (fun v6 v8 wc => ∃ m : Nat, m + k ≤ n ∧ 1 ≤ m ∧ v6 = .int .i64 ((k : Int) + m) ∧ v8 = .int .i64 m ∧ Hid (RunOk xs k m) ∧ Hid (Dr wr wc))
          case first =>
            go_wp2_with fail
            go_loopw [6, 8] (fun v6 v8 wi => ∃ m : Nat, m + k ≤ n ∧ v6 = .int .i64 ((k : Int) + m) ∧ v8 = .int .i64 m ∧ Hid (Run0 xs k m) ∧ Hid (Dr wr wi)) (fun _ v8 _ => n - (intOf v8).toNat)
            case atStart => exact ⟨0, by omega, by go_num, rfl, Lib.hid ⟨by have := HL.out; omega, fun j hj => by omega⟩, ⟨0, rfl⟩⟩
            case round =>
              obtain ⟨m, hm, rfl, rfl, HR, HD⟩ := hrel
              obtain ⟨q1, rfl⟩ := HD.out
              clear HD
              by_cases h1 : k + m < n
              · obtain ⟨b', o', he, hc2⟩ := HX0.out.at h1
                injection he with he; injection he with he1 he2 he3; subst he1; subst he2; clear he3
                have hc2' := (Keeps.of_below (S := []) HW.out).cell (by simp) hc2
                clear hc2
                have e2 : (0 : Int) ≤ (k : Int) + (m : Int) := by omega
                have e3 : ((k : Int) + (m : Int)).toNat = k + m := by omega
                have e4 : decide ((k : Int) + (m : Int) < (n : Int)) = true := by simp; omega
                by_cases hv : nth xs (k + m) = nth xs k
                · have e5 : (nth xs (k + m) == nth xs k) = true := by simpa using hv
                  have HV := Lib.hid hv
                  clear hv
                  go_wp2_with fail
                  clear e2 e3 e4 e5
                  go_wp2_with fail
                  go_roundw
                  case rel => exact ⟨m + 1, by omega, by go_num, by go_num, Lib.hid (HR.out.step (by have := HL.out; omega) HV.out), Lib.hid (by first | exact ⟨_, rfl⟩ | exact Dr.step ⟨_, rfl⟩ _)⟩
                  case measure => simp [intOf]; omega
                · have e5 : (nth xs (k + m) == nth xs k) = false := by simpa using hv
                  have HV := Lib.hid hv
                  clear hv
                  go_wp2_with fail
                  clear e2 e3 e4 e5
                  go_wp2_with fail
                  go_meet
                  case rel => exact ⟨m, by omega, HR.out.one (by have := HL.out; omega) (fun _ => HV.out), rfl, rfl, Lib.hid { one := HR.out.one (by have := HL.out; omega) (fun _ => HV.out), le := HR.out.le, eq := HR.out.eq, stop := fun _ => HV.out }, Lib.hid (by first | exact ⟨_, rfl⟩ | exact Dr.step ⟨_, rfl⟩ _)⟩
              · have e4 : decide ((k : Int) + (m : Int) < (n : Int)) = false := by simp; omega
                go_wp2_with fail
                clear e4
                go_wp2_with fail
                go_meet
                case rel => exact ⟨m, by omega, by omega, rfl, rfl, Lib.hid { one := by omega, le := HR.out.le, eq := HR.out.eq, stop := fun h => absurd h (by have := HL.out; omega) }, Lib.hid (by first | exact ⟨_, rfl⟩ | exact Dr.step ⟨_, rfl⟩ _)⟩
          case rest =>
            obtain ⟨m, hm, hm1, rfl, rfl, HR, HD⟩ := hcut
            have HO1 : Hid (wc.ownsRow (w'.heap.size + 1) 31 2 u out.length (pcells out)) := by obtain ⟨q1, rfl⟩ := HD.out; exact HO.out
            have HW1 : Hid (Below w'.heap.size w' wc) := by obtain ⟨q1, rfl⟩ := HD.out; exact (HW.out.trans ((Dr.below ⟨q1, rfl⟩).mono HW.out.size))
            have hbc1 : wc.cell? ⟨w'.heap.size, 0, none⟩ = some u := by obtain ⟨q1, rfl⟩ := HD.out; exact hbc
            have hbf1 : wc.frozen? ⟨w'.heap.size, 0, none⟩ = false := by obtain ⟨q1, rfl⟩ := HD.out; exact hbf
            clear HD HO HW hbc hbf hc1'
            have HT1 := Lib.hid (HT0.out.below HW1.out HG.out)
            have hsz1 : w'.heap.size < wc.heap.size := World.block_lt_of_cell? _ _ hbc1
            go_upto_if 43 with (fail)
            go_cut [8] (fun v8 wc => ∃ (r : Nat) (es : List (Int × Int)) (u : Value), r + es.length ≤ m ∧ v8 = .int .i64 r ∧ Hid (es ++ List.replicate r (nth xs k, 0) = rsteps (nth xs k) m) ∧ wc.cell? ⟨w'.heap.size, 0, none⟩ = some u ∧ wc.frozen? ⟨w'.heap.size, 0, none⟩ = false ∧ Hid (wc.ownsRow (w'.heap.size + 1) 31 2 u (out.length + es.length) (pcells (out ++ es))) ∧ Hid (Below w'.heap.size w' wc))
            case first =>
              by_cases hz : nth xs k = 0
              · have e5 : (nth xs k == 0) = true := by simpa using hz
                have HZ := Lib.hid hz
                clear hz
                go_wp2_with fail
                refine (pack1_calls _ _ m 11 18 138 u out.length out HT1.out HG.out hbc1 hbf1 HO1.out (by omega) rfl (by omega) (by omega) (by omega) (by omega) (by omega)).mono ?_
                rintro e w2 ⟨u2, rfl, hc2, hf2, ho2, hb2⟩
                have hl1 := reps_len 11 18 138 m (by omega) (by omega)
                have hl2 := reps_len 3 17 10 (left 11 138 m) (by omega) (by omega)
                have HO2 := Lib.hid ho2
                have HB2 := Lib.hid hb2
                clear ho2 hb2 HO1 hbc1 hbf1 e5
                have HT2 := Lib.hid (HT1.out.below HB2.out HG.out)
                go_wp2_with fail
                refine (pack1_calls _ _ (left 11 138 m) 3 17 10 u2 _ _ HT2.out HG.out hc2 hf2 HO2.out (by omega) rfl (by omega) (by omega) (by omega) (by omega) (by omega)).mono ?_
                rintro e w3 ⟨u3, rfl, hc3, hf3, ho3, hb3⟩
                have HO3 := Lib.hid ho3
                have HB3 := Lib.hid hb3
                clear ho3 hb3 HO2 hc2 hf2
                go_wp2_with fail
                go_meet
                case rel =>
                  refine ⟨_, reps 11 18 138 m ++ reps 3 17 10 (left 11 138 m), u3, ?_, rfl, ?_, hc3, hf3, ?_, Lib.hid ((HW1.out.trans HB2.out).trans HB3.out)⟩
                  · rw [List.length_append]; omega
                  · rw [HZ.out]; exact Lib.hid (by simp [rsteps, zsteps])
                  · exact Lib.hid (by have := HO3.out; rw [List.length_append, ← Nat.add_assoc, ← List.append_assoc]; exact this)
              · have e5 : (nth xs k == 0) = false := by simpa using hz
                have HZ := Lib.hid hz
                clear hz
                go_wp2_with (at_builtin; refine app_step rfl (.tmp 49) (.tmp 52) rfl (w'.heap.size + 1) _ _ _ rfl (HO1.out.alloc _) wc.heap.size (nth xs k) 0 rfl (by simp) (by simp) (by omega) (by simp; omega) ?_)
                intro v' w1 h1 hg g' c' hv
                subst hv
                have hcx := box_cell hbc1 (fun k hk => (HO1.out.lt k hk).1) hg
                have hfx := box_frozen hsz1 hbf1 (fun k hk => (HO1.out.lt k hk).1) hg
                obtain ⟨hc2, hf2, ho2, hb2⟩ := box_put HW1.out hbc1 hbf1 (fun k hk => (HO1.out.lt k hk).1) hg h1
                have HO2 := Lib.hid ho2
                have HB2 := Lib.hid hb2
                have HT2 := Lib.hid (HT0.out.below HB2.out HG.out)
                clear ho2 hb2 HO1 hbc1 hbf1 e5 h1 hg HW1
                have hl2 := reps_len 3 16 6 (m - 1) (by omega) (by omega)
                have em : (m : Int) - 1 = ((m - 1 : Nat) : Int) := by omega
                go_wp2_with fail
                clear hcx hfx
                refine (pack1_calls _ _ (m - 1) 3 16 6 _ _ _ HT2.out HG.out hc2 hf2 HO2.out (by omega) rfl (by omega) (by omega) (by omega) (by omega) (by omega)).mono ?_
                rintro e w3 ⟨u3, rfl, hc3, hf3, ho3, hb3⟩
                have HO3 := Lib.hid ho3
                have HB3 := Lib.hid hb3
                clear ho3 hb3 HO2 hc2 hf2 em
                go_wp2_with fail
                go_meet
                case rel =>
                  refine ⟨_, (nth xs k, 0) :: reps 3 16 6 (m - 1), u3, ?_, rfl, ?_, hc3, hf3, ?_, Lib.hid (HB2.out.trans HB3.out)⟩
                  · rw [List.length_cons]; omega
                  · exact Lib.hid (by simp [rsteps, vsteps, HZ.out])
                  · exact Lib.hid (by have := HO3.out; rw [List.length_cons, show out.length + ((reps 3 16 6 (m - 1)).length + 1) = out.length + 1 + (reps 3 16 6 (m - 1)).length by omega]; simpa using this)
            case rest =>
              clear HO1 hbc1 hbf1 HW1 HT1 hsz1
              obtain ⟨r, es, u1, hre, rfl, HE, hc1, hf1, HO1, HW1⟩ := hcut
              go_wp2_with fail
              go_loopw [59] (fun v59 wr => ∃ (j : Nat) (u : Value), j ≤ r ∧ v59 = .int .i64 j ∧ wr.cell? ⟨w'.heap.size, 0, none⟩ = some u ∧ wr.frozen? ⟨w'.heap.size, 0, none⟩ = false ∧ Hid (wr.ownsRow (w'.heap.size + 1) 31 2 u (out.length + es.length + j) (pcells (out ++ (es ++ List.replicate j (nth xs k, 0))))) ∧ Hid (Below w'.heap.size w' wr)) (fun v59 _ => r - (intOf v59).toNat)
              case atStart => exact ⟨0, u1, by omega, rfl, hc1, hf1, Lib.hid (by simpa using HO1.out), HW1⟩
              case round =>
                clear HO1 HW1 hc1 hf1
                obtain ⟨j, u2, hj, rfl, hc1, hf1, HO1, HW1⟩ := hrel
                have hsz1 : w'.heap.size < wr.heap.size := World.block_lt_of_cell? _ _ hc1
                by_cases hjr : j < r
                · go_wp2_with (at_builtin; refine app_step rfl (.tmp 61) (.tmp 64) rfl (w'.heap.size + 1) _ _ _ rfl (HO1.out.alloc _) wr.heap.size (nth xs k) 0 rfl (by simp) (by simp) (by omega) (by simp; omega) ?_)
                  intro v' w1 h1 hg g' c' hv
                  subst hv
                  have hcx := box_cell hc1 (fun k hk => (HO1.out.lt k hk).1) hg
                  have hfx := box_frozen hsz1 hf1 (fun k hk => (HO1.out.lt k hk).1) hg
                  obtain ⟨hc2, hf2, ho2, hb2⟩ := box_put HW1.out hc1 hf1 (fun k hk => (HO1.out.lt k hk).1) hg h1
                  have HO2 := Lib.hid ho2
                  have HB2 := Lib.hid hb2
                  clear ho2 hb2 HO1 hc1 hf1 h1 hg HW1
                  go_wp2_with fail
                  go_roundw
                  case rel => exact ⟨j + 1, _, by omega, by go_num, hc2, hf2, Lib.hid (by rw [List.replicate_succ']; simpa [Nat.add_assoc] using HO2.out), HB2⟩
                  case measure => simp [intOf]; omega
                · obtain rfl : j = r := by omega
                  go_wp2_with fail
                  go_roundw
                  case rel =>
                    have hpk := HR.out.pack
                    have hp := HP.out
                    have hrl := rsteps_len (nth xs k) m hm1
                    rw [hpk, ← List.append_assoc] at hp
                    have ho := HO1.out
                    rw [HE.out] at ho
                    exact ⟨k + m, out ++ rsteps (nth xs k) m, u2, by omega, by go_num, hc1, hf1, Lib.hid (own_as ho rfl), Lib.hid hp, by rw [List.length_append]; omega, HW1, hsz1⟩
                  case measure => simp [intOf]; omega
        · go_wp2_with fail
          obtain rfl : k = n := by omega
          go_ret2
          have e1 : xs.drop k = [] := List.drop_eq_nil_of_le (by have := HL.out; omega)
          have e2 := HP.out
          rw [e1, packF_nil, List.append_nil] at e2
          subst e2
          exact Or.inl ⟨by have := HL.out; omega, HB.out, _, rfl, (HO.out.mono (by have := HSZ.out; omega)), (Dr.below HDR.out).trans (HSZ.out ▸ HW.out)⟩
end Go.Proofs.YtcblibefmclloaaDoor

set_option linter.unusedVariables false
set_option linter.unusedSimpArgs false
namespace Go.Proofs.YtcblibefmclloaaDoor
open Go.RowKit
theorem pack_ex : packF [0, 0, 0, 3, 3, 3, 3, 3, 0] = [(17, 0), (3, 0), (16, 1), (0, 0)] := by
  simp [packF, runN, rsteps, zsteps, vsteps, reps, left]
theorem unpack_ex : unpackF [(5, 0), (16, 3)] 7 = ([5, 5, 5, 5, 5, 5, 5], 0) := by decide
theorem unpack_ex2 : unpackF [(16, 0)] 3 = ([], 41) := by decide
theorem lit_ri {k : IntKind} (w : World) (t : TypeId) (xs : List Int) : RI k (w.alloc (.cells (ints k xs).toArray t)) (some ⟨w.heap.size, 0, none⟩) xs.length xs := by
  have h : Blk (w.alloc (.cells (ints k xs).toArray t)) w.heap.size t (ints k (xs ++ [])) := by rw [List.append_nil]; exact blk_new w t _
  exact h.ri
theorem blk_rp {w : World} {g : Nat} {t : TypeId} {xs : List (Int × Int)} (h : Blk w g t (pcells xs)) : RP w (some ⟨g, 0, none⟩) xs.length xs :=
  ⟨rfl, fun _ => ⟨_, _, rfl⟩, fun b o ha j hj => by
    injection ha with ha; injection ha with h1 h2 h3; subst h1; subst h2
    have := pcells_get xs j hj
    rw [Nat.zero_add, h.cell, h.cell]
    exact this⟩
theorem lit_rp (w : World) (t : TypeId) (xs : List (Int × Int)) : RP (w.alloc (.cells (pcells xs).toArray t)) (some ⟨w.heap.size, 0, none⟩) xs.length xs := blk_rp (blk_new w t _)
theorem RP.keeps {S : List Nat} {w w' : World} {A : Option Addr} {n : Nat} {xs : List (Int × Int)} (h : RP w A n xs) (hk : Keeps S w w') (ho : Off S A) : RP w' A n xs :=
  ⟨h.len, h.hd, fun b o ha j hj => ⟨hk.cell (p := ⟨b, o + j * 2, none⟩) (ho ⟨b, o, none⟩ ha) (h.cell b o ha j hj).1, hk.cell (p := ⟨b, o + j * 2 + 1, none⟩) (ho ⟨b, o, none⟩ ha) (h.cell b o ha j hj).2⟩⟩
theorem own_rp {w : World} {base : Nat} {e : TypeId} {v : Value} {n : Nat} {xs : List (Int × Int)} (h : w.ownsRow base e 2 v n (pcells xs)) :
    ∃ A c, v = .slice A n c ∧ RP w A n xs ∧ n ≤ c ∧ (∀ a, A = some a → base ≤ a.block ∧ a.block < w.heap.size) := by
  obtain ⟨h1, h2⟩ := h
  have hl : xs.length = n := by rw [pcells_length] at h1; omega
  rcases h2 with ⟨rfl, rfl⟩ | ⟨g, cap, cur, rfl, hb, hh, hc, hm, hs, ht⟩
  · exact ⟨none, 0, rfl, ⟨hl, by omega, by simp⟩, by omega, by simp⟩
  · refine ⟨_, _, rfl, ⟨hl, fun _ => ⟨_, _, rfl⟩, fun b o ha j hj => ?_⟩, hc, fun a ha => ?_⟩
    · injection ha with ha; injection ha with h1 h2 h3; subst h1; subst h2
      have hp := pcells_get xs j (by omega)
      have e1 : ∀ i, i < n * 2 → cur.toList[i]? = (pcells xs)[i]? := fun i hi => by rw [← ht, List.getElem?_take, if_pos hi]
      rw [Nat.zero_add]
      unfold World.cell?
      simp only [hh]
      rw [← Array.getElem?_toList, ← Array.getElem?_toList, e1 _ (by omega), e1 _ (by omega)]
      exact hp
    · obtain rfl := Option.some.inj ha
      exact ⟨hb, (Array.getElem?_eq_some_iff.1 hh).1⟩
theorem bytes_ex : ∀ j, 0 ≤ nth [255, 255] j ∧ nth [255, 255] j ≤ 255
  | 0 => by decide
  | 1 => by decide
  | j + 2 => by simp [nth]
set_option maxRecDepth 100000 in
set_option maxHeartbeats 1000000 in
theorem awake_calls (w : World) (ht : Tabs w) : Calls Tryd.prog 15 #[] w fun e w' => e = .returned (.bool true) ∧ Keeps [] w w' := by
  have HT := Lib.hid ht
  clear ht
  go_enter Tryd.func15, Tryd.ntmps15
  go_wp2_with fail
  refine (lensPack_calls _ _ _ _ [0, 0, 0, 3, 3, 3, 3, 3, 0] (HT.out.keeps ((Keeps.refl [] w).alloc _) (by simp)) (lit_ri w 3 [0, 0, 0, 3, 3, 3, 3, 3, 0]) (by decide)).mono ?_
  intro e w1 hp
  rcases hp with ⟨_, _, v1, rfl, ho1, hb1⟩ | ⟨h, _⟩
  · rw [pack_ex] at ho1
    have K1 := Lib.hid (((Keeps.refl [] w).alloc (.cells (ints .i64 [0, 0, 0, 3, 3, 3, 3, 3, 0]).toArray 3)).trans (Keeps.of_below hb1))
    have O1 := Lib.hid ho1
    clear ho1 hb1
    have S1 := K1.out.size
    go_wp2_with fail
    refine (unpack_calls _ _ _ _ [(5, 0), (16, 3)] 7 (HT.out.keeps (K1.out.alloc _) (by simp)) (lit_rp w1 31 [(5, 0), (16, 3)]) (by decide)).mono ?_
    rintro e w2 ⟨v2, rfl, ho2, hb2⟩
    rw [unpack_ex] at ho2 ⊢
    have B2 : Keeps [] w1 w2 := (((Keeps.refl [] w1).alloc (.cells (pcells [(5, 0), (16, 3)]).toArray 31)).trans (Keeps.of_below hb2))
    have K2 := Lib.hid (K1.out.trans B2)
    have O2 := Lib.hid ho2
    have O1' := Lib.hid (own_keeps O1.out B2 (by simp))
    clear ho2 hb2 B2 O1
    go_wp2_with fail
    refine (unpack_calls _ _ _ _ [(16, 0)] 3 (HT.out.keeps (K2.out.alloc _) (by simp)) (lit_rp w2 31 [(16, 0)]) (by decide)).mono ?_
    rintro e w3 ⟨v3, rfl, ho3, hb3⟩
    rw [unpack_ex2] at ho3 ⊢
    have B3 : Keeps [] w2 w3 := (((Keeps.refl [] w2).alloc (.cells (pcells [(16, 0)]).toArray 31)).trans (Keeps.of_below hb3))
    have K3 := Lib.hid (K2.out.trans B3)
    have O2' := Lib.hid (own_keeps O2.out B3 (by simp))
    have O1 := Lib.hid (own_keeps O1'.out B3 (by simp))
    clear ho3 hb3 B3 O1' O2 K1 K2
    go_wp2_with fail
    refine (newReader_calls _ _ _ _ [255, 255] (lit_ri w3 5 [255, 255]) (by simp) bytes_ex (by decide)).mono ?_
    rintro e w4 ⟨g, A, c, rfl, hr4, hg4, ha4, hb4⟩
    have B4 : Keeps [] w3 w4 := (((Keeps.refl [] w3).alloc (.cells (ints .u8 [255, 255]).toArray 5)).trans (Keeps.of_below hb4))
    have K4 := Lib.hid (K3.out.trans B4)
    have O2 := Lib.hid (own_keeps O2'.out B4 (by simp))
    have O1' := Lib.hid (own_keeps O1.out B4 (by simp))
    have R4 := Lib.hid hr4
    have A4 := Lib.hid ha4
    have G4 := Lib.hid hg4
    have N1 : Hid (∀ k, v1.ownBlock = some k → k ∉ [g]) := fun k hk => by have := (O1.out.lt k hk).2; simp at hg4 ⊢; omega
    have N2 : Hid (∀ k, v2.ownBlock = some k → k ∉ [g]) := fun k hk => by have := (O2'.out.lt k hk).2; simp at hg4 ⊢; omega
    have NG : Hid (w.heap.size ≤ g) := by have := K3.out.size; simp at hg4; show _ ≤ _; omega
    clear hr4 ha4 hg4 hb4 B4 O1 O2' K3
    go_wp2_with fail
    refine (readHead_bad _ _ _ _ _ _ R4.out (fun a h => (A4.out a h).2) (by decide) (Or.inl (by decide))).mono ?_
    rintro e w5 ⟨rfl, hr5, hk5⟩
    have K5 := Lib.hid (K4.out.then hk5 (fun x hx => Or.inr (by have := NG.out; simp at hx; omega)))
    obtain ⟨P, cp, rfl, hrp, hcp, hbp⟩ := own_rp (own_keeps O1'.out hk5 N1.out)
    obtain ⟨I, ci, rfl, hri, hci, hbi⟩ := own_ri (own_keeps O2.out hk5 N2.out)
    have RP5 := Lib.hid hrp
    have RI5 := Lib.hid hri
    clear hk5 hrp hri hbp hbi N1 N2 NG O1' O2 K4 A4 R4 G4
    go_wp2_with fail
    refine (same_calls _ _ _ _ _ _ _ [(17, 0), (3, 0), (16, 1), (0, 0)] [(17, 0), (3, 0), (16, 1), (0, 0)] (RP5.out.keeps ((Keeps.refl _ _).alloc _) (off_nil _)) (lit_rp w5 31 [(17, 0), (3, 0), (16, 1), (0, 0)]) (by decide) (by decide)).mono ?_
    rintro e w6 ⟨rfl, hd6⟩
    rw [beq_self_eq_true]
    have K6 := Lib.hid ((K5.out.alloc (.cells (pcells [(17, 0), (3, 0), (16, 1), (0, 0)]).toArray 31)).trans hd6.keeps)
    have RI6 := Lib.hid (RI5.out.keeps (((Keeps.refl [] w5).alloc (.cells (pcells [(17, 0), (3, 0), (16, 1), (0, 0)]).toArray 31)).trans hd6.keeps) (off_nil _))
    clear hd6 RI5 RP5 K5
    go_wp2_with fail
    refine (ints_calls _ _ _ _ _ _ _ [5, 5, 5, 5, 5, 5, 5] [5, 5, 5, 5, 5, 5, 5] (RI6.out.keeps ((Keeps.refl _ _).alloc _) (off_nil _)) (lit_ri w6 3 [5, 5, 5, 5, 5, 5, 5]) (by decide) (by decide)).mono ?_
    rintro e w7 ⟨rfl, hd7⟩
    rw [beq_self_eq_true]
    have K7 := Lib.hid ((K6.out.alloc (.cells (ints .i64 [5, 5, 5, 5, 5, 5, 5]).toArray 3)).trans hd7.keeps)
    clear hd7 K6 RI6
    go_wp2_with fail
    go_ret
    exact ⟨rfl, K7.out⟩
  · exfalso; rcases h with h | h
    · simp at h
    · revert h; decide
end Go.Proofs.YtcblibefmclloaaDoor

set_option linter.unusedVariables false
set_option linter.unusedSimpArgs false
namespace Go.Proofs.YtcblibefmclloaaDoor
open Go.RowKit
theorem byte_wf {zs : List Int} (h : ∀ x ∈ zs, (Lit.int .u8 x).wf = true) (j : Nat) : 0 ≤ nth zs j ∧ nth zs j ≤ 255 := by
  by_cases hj : j < zs.length
  · have := h (nth zs j) (by rw [nth_lt hj]; exact List.getElem_mem _)
    simp [Lit.wf] at this
    rwa [show IntKind.u8.min = 0 from rfl, show IntKind.u8.max = 255 from rfl] at this
  · simp [nth, List.getD, List.getElem?_eq_none (Nat.le_of_not_lt hj)]
set_option maxRecDepth 100000 in
set_option maxHeartbeats 1000000 in
theorem reads_awake (w : World) (A : Option Addr) (n c : Nat) (k : Int) (hT : Tabs w) (h : 1048576 < n ∨ k < 0 ∨ 7 < k ∨ 8 * (n : Int) < k) (hk0 : -9223372036854775808 ≤ k ∧ k ≤ 9223372036854775807) :
    Calls Tryd.prog 5 #[.slice A n c, .int .i64 k] w fun e w' => e = .returned (.bool true) ∧ Keeps [] w w' := by
  have HT := Lib.hid hT
  clear hT
  go_enter Tryd.func5, Tryd.ntmps5
  by_cases h1 : 1048576 < n
  · have e1 : decide (1048576 < n) = true := by simpa using h1
    have e1' : decide ((1048576 : Int) < (n : Int)) = true := by simp; omega
    go_wp2_with fail
    refine (awake_calls _ HT.out).mono ?_
    rintro e w' ⟨rfl, hk⟩
    have HK := Lib.hid hk
    clear hk
    go_wp2_with fail
    go_ret
    exact ⟨rfl, HK.out⟩
  have e1 : decide (1048576 < n) = false := by simpa using h1
  have e1' : decide ((1048576 : Int) < (n : Int)) = false := by simp; omega
  by_cases h2 : k < 0
  · have e2 : decide (k < 0) = true := by simpa using h2
    go_wp2_with fail
    refine (awake_calls _ HT.out).mono ?_
    rintro e w' ⟨rfl, hk⟩
    have HK := Lib.hid hk
    clear hk
    go_wp2_with fail
    go_ret
    exact ⟨rfl, HK.out⟩
  have e2 : decide (k < 0) = false := by simpa using h2
  by_cases h3 : 7 < k
  · have e3 : decide (7 < k) = true := by simpa using h3
    go_wp2_with fail
    refine (awake_calls _ HT.out).mono ?_
    rintro e w' ⟨rfl, hk⟩
    have HK := Lib.hid hk
    clear hk
    go_wp2_with fail
    go_ret
    exact ⟨rfl, HK.out⟩
  have e3 : decide (7 < k) = false := by simpa using h3
  have e4 : decide (8 * (n : Int) < k) = true := by simp; omega
  go_wp2_with fail
  refine (awake_calls _ HT.out).mono ?_
  rintro e w' ⟨rfl, hk⟩
  have HK := Lib.hid hk
  clear hk
  go_wp2_with fail
  go_ret
  exact ⟨rfl, HK.out⟩
set_option maxRecDepth 100000 in
set_option maxHeartbeats 2000000 in
theorem reads_main (w : World) (A : Option Addr) (n c : Nat) (bs : List Int) (k : Nat) (hT : Tabs w) (hb : RI .u8 w A n bs) (hnil : A = none → n = 0 ∧ c = 0) (hY : ∀ j, 0 ≤ nth bs j ∧ nth bs j ≤ 255) (hn : n ≤ 1048576) (hk7 : k ≤ 7) (hk8 : k ≤ 8 * n) :
    Calls Tryd.prog 5 #[.slice A n c, .int .i64 k] w fun e w' => e = .returned (.bool true) ∧ Keeps [] w w' := by
  have hbl := hb.len
  have HB := Lib.hid hb
  have HBL := Lib.hid hbl
  have HT := Lib.hid hT
  have HN := Lib.hid hnil
  have HY := Lib.hid hY
  have e1 : decide (1048576 < n) = false := by simp; omega
  have e1' : decide ((1048576 : Int) < (n : Int)) = false := by simp; omega
  have e2 : decide ((k : Int) < 0) = false := by simp
  have e3 : decide ((7 : Int) < (k : Int)) = false := by simp; omega
  have e4 : decide (8 * (n : Int) < (k : Int)) = false := by simp; omega
  clear hT hb hnil hY hbl
  go_enter Tryd.func5, Tryd.ntmps5
  go_wp2_with fail
  refine (lawGone_calls _ _ _ _ bs k HB.out HN.out HY.out (by omega) (by rw [HBL.out]; exact hk8) (by omega)).mono ?_
  rintro _ w1 ⟨g, A1, c1, rfl, hr1, hg1, ha1, hk1⟩
  have HR1 := Lib.hid hr1
  have K1 := Lib.hid hk1
  have HG1 := Lib.hid hg1
  have HA1 : Hid (∀ a, A1 = some a → a.block < w1.heap.size) := Lib.hid (fun a h => (ha1 a h).2)
  have T1 := Lib.hid (HT.out.keeps hk1 (by simp))
  have hgt : gtop ≤ g := Nat.le_trans HT.out.size hg1
  clear hr1 hk1 hg1 ha1 e1 e1' e2 e3 e4
  go_wp2_with fail
  have hcR := lensRead_calls w1 g A1 c1 bs k T1.out hgt HR1.out HA1.out
  have hl12 := headF_len bs k
  obtain ⟨hd, hhd⟩ : ∃ h, h = headF bs k := ⟨_, rfl⟩
  rw [← hhd] at hcR hl12
  have HHD := Lib.hid hhd
  clear hhd
  obtain ⟨L1, L2, nn, er⟩ := hd
  simp only [] at hcR hl12
  obtain ⟨hl1, hl2⟩ := hl12
  refine hcR.mono ?_
  rintro _ w2 ⟨v1, v2, rfl, ho1, ho2, hr2, hk2⟩
  have HO1 := Lib.hid ho1
  have HO2 := Lib.hid ho2
  have HR2 := Lib.hid hr2
  have K2 := Lib.hid (K1.out.then hk2 (fun x hx => Or.inr (by rw [List.mem_singleton.1 hx]; exact HG1.out)))
  have HG2 : Hid (g < w1.heap.size) := Lib.hid HR1.out.lt
  clear ho1 ho2 hr2 hk2 HR1 K1 T1 HA1 hcR
  go_wp2_with fail
  refine (of_calls _ _ _ _ bs (HB.out.keeps K2.out (off_nil _)) HY.out (by omega)).mono ?_
  rintro _ w3 ⟨v3, rfl, ho3, hb3⟩
  have hk3 := Keeps.of_below hb3 (S := [])
  have P1 := Lib.hid (own_keeps HO1.out hk3 (by simp))
  have P2 := Lib.hid (own_keeps HO2.out hk3 (by simp))
  have R3 := Lib.hid (HR2.out.dr hk3)
  have K3 := Lib.hid (K2.out.trans hk3)
  obtain ⟨AO, co, rfl, hro, _, hlo⟩ := own_ri ho3
  have HRO := Lib.hid hro
  have HLO : Hid (∀ a, AO = some a → a.block < w3.heap.size) := Lib.hid (fun a ha => (hlo a ha).2.1)
  clear hk3 hb3 ho3 hro hlo HO1 HO2 HR2 K2
  obtain ⟨M, hM⟩ : ∃ M, M = 8 * n := ⟨_, rfl⟩
  rw [← hM] at HRO ⊢
  have HM : Hid (M = 8 * bs.length) := Lib.hid (by rw [HBL.out, hM])
  have hM1 : k ≤ M := by omega
  have hM2 : M ≤ 100000000 := by omega
  clear hM
  go_wp2_with fail
  have hcQ := refRead_calls w3 AO M co k bs HM.out HRO.out hM1 hM2 HLO.out
  rw [← HHD.out] at hcQ
  refine hcQ.mono ?_
  rintro _ w4 ⟨X1, x1, X2, x2, rfl, hx1, hx2, hk4⟩
  simp only [] at hx1 hx2
  clear hcQ HHD
  have Q1 := Lib.hid (own_keeps P1.out hk4 (by simp))
  have Q2 := Lib.hid (own_keeps P2.out hk4 (by simp))
  have R4 := Lib.hid (R3.out.dr hk4)
  have K4 := Lib.hid (K3.out.trans hk4)
  have HX1 := Lib.hid hx1
  have HX2 := Lib.hid hx2
  clear hx1 hx2 hk4 P1 P2 R3 K3 HRO HLO
  have hqk := R4.out.le
  have hsz := R4.out.size
  obtain ⟨B1, b1, rfl, hi1, -⟩ := own_full Q1.out
  obtain ⟨B2, b2, rfl, hi2, -⟩ := own_full Q2.out
  have HI1 := Lib.hid hi1
  have HI2 := Lib.hid hi2
  clear hi1 hi2 Q1 Q2
  go_wp2_with fail
  refine (awake_calls _ (HT.out.keeps K4.out (by simp))).mono ?_
  rintro _ w5 ⟨rfl, hk5⟩
  have I1 := Lib.hid (HI1.out.keeps hk5 (off_nil _))
  have I2 := Lib.hid (HI2.out.keeps hk5 (off_nil _))
  have Y1 := Lib.hid (HX1.out.keeps hk5 (off_nil _))
  have Y2 := Lib.hid (HX2.out.keeps hk5 (off_nil _))
  have R5 := Lib.hid (R4.out.dr hk5)
  have K5 := Lib.hid (K4.out.trans hk5)
  clear hk5 HI1 HI2 HX1 HX2 R4 K4
  go_wp2_with fail
  refine (ints_calls _ _ _ _ _ _ _ L1 L1 I1.out Y1.out (by omega) (by omega)).mono ?_
  rintro _ w6 ⟨rfl, hd6⟩
  rw [beq_self_eq_true]
  have hk6 := hd6.keeps (S := [])
  have I26 := Lib.hid (I2.out.keeps hk6 (off_nil _))
  have Y26 := Lib.hid (Y2.out.keeps hk6 (off_nil _))
  have R6 := Lib.hid (R5.out.dr hk6)
  have K6 := Lib.hid (K5.out.trans hk6)
  clear hd6 hk6 I1 I2 Y1 Y2 R5 K5
  go_wp2_with fail
  refine (ints_calls _ _ _ _ _ _ _ L2 L2 I26.out Y26.out (by omega) (by omega)).mono ?_
  rintro _ w7 ⟨rfl, hd7⟩
  rw [beq_self_eq_true]
  have R7 := Lib.hid (R6.out.dr (hd7.keeps (S := [])))
  have K7 := Lib.hid (K6.out.trans (hd7.keeps (S := [])))
  clear hd7 I26 Y26 R6 K6
  go_wp2_with fail
  refine (gone_calls _ _ _ _ _ _ R7.out).mono ?_
  rintro _ w8 ⟨rfl, hd8⟩
  have R8 := Lib.hid (R7.out.dr (hd8.keeps (S := [])))
  have K8 := Lib.hid (K7.out.trans (hd8.keeps (S := [])))
  clear hd8 R7 K7
  have e5 : IntKind.i64.wrap ((k : Int) + (nn : Int)) = ((k + nn : Nat) : Int) := by rw [show (k : Int) + (nn : Int) = ((k + nn : Nat) : Int) by omega]; exact IntWalk.i64_in _ (by omega)
  go_wp2_with fail
  refine (left_calls _ _ _ _ _ _ R8.out).mono ?_
  rintro _ w9 ⟨rfl, hd9⟩
  have K9 := Lib.hid (K8.out.trans (hd9.keeps (S := [])))
  rw [HBL.out]
  have hkn : k + nn ≤ 8 * n := by rw [HBL.out] at hqk; exact hqk
  have hz : ((8 * n - (k + nn) : Nat) : Int) = 8 * (n : Int) - (k : Int) - (nn : Int) := by omega
  rw [hz]
  clear hd9 R8 K8
  go_wp2_with fail
  go_ret
  exact ⟨rfl, K9.out⟩
theorem lensReads_walk (w : World) (A : Option Addr) (n c : Nat) (bs : List Int) (k : Int) (hT : Tabs w) (hb : RI .u8 w A n bs) (hm : n ≤ maxLen) (hnil : A = none → n = 0 ∧ c = 0) (hwf : ∀ x ∈ bs, (Lit.int .u8 x).wf = true) (hk : (Lit.int .i64 k).wf = true) :
    Calls Tryd.prog 5 #[.slice A n c, .int .i64 k] w fun e w' => e = .returned (.bool true) ∧ Keeps [] w w' := by
  have hk0 : -9223372036854775808 ≤ k ∧ k ≤ 9223372036854775807 := by
    simp [Lit.wf] at hk
    first
      | exact hk
      | rwa [show IntKind.i64.min = -9223372036854775808 from rfl, show IntKind.i64.max = 9223372036854775807 from rfl] at hk
  by_cases h : 1048576 < n ∨ k < 0 ∨ 7 < k ∨ 8 * (n : Int) < k
  · exact reads_awake w A n c k hT h hk0
  · obtain ⟨j, rfl⟩ := Int.eq_ofNat_of_zero_le (show 0 ≤ k by omega)
    exact reads_main w A n c bs j hT hb hnil (byte_wf hwf) (by omega) (by omega) (by omega)
end Go.Proofs.YtcblibefmclloaaDoor

/-
  For every row of bytes and every number LensReads returns true and both read as they did, where the tables order, wide and from of package lens hold what their own initialisers lay (the card ties that). No other condition.
-/
set_option linter.unusedVariables false
set_option linter.unusedSimpArgs false
namespace Go.Proofs.YtcblibefmclloaaDoor.lensReads
open Go.ChangeShapes Go.WideShapes Go.ChangeAt Go.RowKit
set_option maxRecDepth 100000 in
theorem contract (H : Type) (enc : TypeId × Value → H) (W : World) (base : Nat) (args : Array Value) (ds gs : List (DataW H)) (before : List MemPlace)
    (hval : ∀ (j : Nat) t v, Tryd.f5.params[j]? = some t → args[j]? = some v → Value.okWide Tryd.prog W .any base t v)
    (hW : DataW.Whole enc Tryd.prog Tryd.f5.params.toList Rows.lensReadsSpec.vars false W args.toList ds gs before) (hL : laidMetH Tryd.prog Rows.lensReadsRow.laid W) :
    Calls Tryd.prog 5 args W fun e W' => ∃ v, e = .returned v ∧ Rows.lensReadsSpec.post enc Tryd.prog Tryd.f5 false true false false W args v W' := by
  have hT : Tabs W := tabs_of (laidMet.filter (fun x => x.1 == "haversack/lens.order" || x.1 == "haversack/lens.wide" || x.1 == "haversack/lens.from") hL)
  have hW' := hW
  obtain ⟨p, q, hA0, hV, rfl, hfz, hnd⟩ := hW
  have hA : DataW.TrodAll enc Tryd.prog W 0 (fun _ => true) true Tryd.f5.params.toList args.toList ds p := hA0
  rw [Tryd.params5] at hA hval
  obtain ⟨v0, vs0, d0, ds0, p0, q0, hargs, rfl, rfl, h0, r0⟩ := trodAll_cons hA
  obtain ⟨v1, vs1, d1, ds1, p1, q1, rfl, rfl, rfl, h1, r1⟩ := trodAll_cons r0
  obtain ⟨rfl, rfl, rfl⟩ := trodAll_nil r1
  obtain rfl : args = #[v0, v1] := by cases args; simp_all
  obtain ⟨rfl, rfl⟩ := trodVars_none hV
  obtain ⟨a0, len0, cap0, rfl⟩ := okWide_slice Tryd.underlying37 (hval 0 37 v0 rfl rfl)
  have k0 := h0
  have lt0 : ∀ x ∈ p0, x.block < W.heap.size := by obtain ⟨m, hm⟩ := k0; exact DataW.trod_lt m _ _ _ hm
  obtain ⟨z0, w0, m0, n0, y0⟩ := ri_came Tryd.underlying37 Tryd.underlying5 cellsU8 h0
  obtain ⟨a1, rfl, rfl, rfl, w1⟩ := open_int Tryd.underlying3 (hval 1 3 v1 rfl rfl) h1
  clear hA0
  refine (lensReads_walk W a0 len0 cap0 z0 a1 hT w0 m0 n0 y0 w1).mono fun e W' ⟨he, hk⟩ => ?_
  have bel := hk.below
  subst he
  exact ⟨_, rfl, _, _, _, [], _, [], hW', trodAll_mk1 (shut_bool Tryd.underlying4 _), (trodAll_cons_mk (Below.trod laidOut (by kernel_rfl) (of_decide_eq_true (by kernel_rfl)) k0 bel lt0) (trodAll_cons_mk (shut_int Tryd.underlying3 w1) trodAll_mk0)), rfl, bel.frame _, fun h => by cases h⟩
theorem reads (os : Os) {H : Type} (enc : TypeId × Value → H) : ∃ places, DataW.whole enc Tryd.prog ((laidWorld os).forCall (fun _ _ => 0) ⟨#[], #[.slice none 0 0, .int .i64 0], []⟩).memory Tryd.f5.params.toList Rows.lensReadsSpec.vars false #[Value.slice none 0 0, .int .i64 0].toList 8 = some ([.nil, .lit (.int .i64 0)], [], places) :=
  ⟨[], by kernel_rfl⟩
set_option maxRecDepth 100000 in
theorem lifted (os : Os) (started : os.Started) (H : Type) (enc : TypeId × Value → H) (F : Stop.Interp) :
    ReturnsInHanded {} Tryd.checked os 5 .any ((OpenSpec.ofChange Rows.lensReadsSpec).preRow enc Tryd.prog Tryd.f5 Rows.lensReadsRow.domain false Rows.lensReadsRow.laid) (((OpenSpec.ofChange Rows.lensReadsSpec).at F).post enc Tryd.prog Tryd.f5 false true false false) := by
  obtain ⟨places, hx⟩ := reads os enc
  refine returnsInHanded_of_row (C := Tryd.checked) (s := OpenSpec.ofChange Rows.lensReadsSpec) own started (by kernel_rfl) Tryd.func5
    (witness_row_at (enc := enc) (C := Tryd.checked) false (laidWorld os) #[.slice none 0 0, .int .i64 0] rfl (by kernel_rfl) (by kernel_rfl) (by kernel_rfl)
      (OpenSpec.preRow_of_cond 8 hx (by kernel_rfl) (fun k hk => by cases hk) (by kernel_rfl) (laid_met os _))) ?_
  intro W base args ds gs before hval hW _ _ _ hL _ _
  exact contract H enc W base args ds gs before hval hW hL
theorem said : Rows.LensReadsSaid :=
  OpenClaim.holds_of_cond 5 Tryd.f5 rfl rfl rfl rfl rfl rfl rfl ⟨rfl, rfl, rfl, rfl, rfl⟩ rfl rfl rfl rfl rfl (by kernel_rfl) Tryd.func5 (by kernel_rfl)
    (of_decide_eq_true (by kernel_rfl)) (by unfold Func.isWrapper; first | (rw [if_pos (by decide +kernel)]; kernel_rfl) | (rw [if_neg (by decide +kernel)]; exact ⟨rfl, rfl⟩))
    (fun os started H enc _ F => by rw [OpenClaim.pre_eq_preRow]; exact lifted os started H enc F)
theorem plain (f : FuncId) (fn : Func) (hf : Tryd.pinned.checked.prog.funcNamed "haversack/haversacklaw04.LensReads" = some f) (hfn : Tryd.pinned.checked.prog.funcs[f]? = some fn) :
    false = Tryd.pinned.checked.prog.looks [] ∧ ∀ (j : Nat) t, fn.params[j]? = some t → Tryd.pinned.checked.prog.wantsStandIn t = false := by
  obtain rfl : f = 5 := Option.some.inj ((show Tryd.prog.funcNamed "haversack/haversacklaw04.LensReads" = some 5 by kernel_rfl).symm.trans hf) |>.symm
  obtain rfl : fn = Tryd.f5 := (Option.some.inj (Tryd.func5.symm.trans hfn)).symm
  refine ⟨by kernel_rfl, fun j t ht => ?_⟩
  rw [Tryd.params5] at ht
  have hm := Array.mem_of_getElem? ht
  have hm2 : t = 37 ∨ t = 3 := by simpa using hm
  rcases hm2 with rfl | rfl
  · exact (show Tryd.prog.wantsStandIn 37 = false by kernel_rfl)
  · exact (show Tryd.prog.wantsStandIn 3 = false by kernel_rfl)
/-- The card. -/
theorem card : Rows.LensReadsCardSaid :=
  Claim7.holds_tied_plain_at .later [] _ _ _ _ said (fun _ h => by cases h) (by kernel_rfl) (fun _ h => by cases h) lensReads_row_tie rfl ⟨rfl, rfl⟩ (by kernel_rfl) rfl plain (by kernel_rfl)
#print axioms card
end Go.Proofs.YtcblibefmclloaaDoor.lensReads
