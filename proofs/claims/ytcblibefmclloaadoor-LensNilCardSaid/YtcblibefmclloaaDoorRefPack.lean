import Derived.Test.YtcblibefmclloaaDoorTimes
import Derived.Test.YtcblibefmclloaaDoorMPack
set_option linter.unusedVariables false
set_option linter.unusedSimpArgs false
namespace Go.Proofs.YtcblibefmclloaaDoor
open Go.RowKit
/-- A run begun at a place, so far. -/
structure RunTo (xs : List Int) (i m : Nat) : Prop where
  one : 1 ≤ m
  le : i + m ≤ xs.length
  eq : ∀ j, j < m → nth xs (i + j) = nth xs i
/-- A run at a place, whole. -/
structure RunOk (xs : List Int) (i m : Nat) : Prop extends RunTo xs i m where
  stop : i + m < xs.length → nth xs (i + m) ≠ nth xs i
theorem RunTo.step {xs : List Int} {i m : Nat} (h : RunTo xs i m) (hl : i + m < xs.length) (hv : nth xs (i + m) = nth xs i) : RunTo xs i (m + 1) :=
  ⟨by omega, by omega, fun j hj => by
    by_cases e : j = m
    · subst e; exact hv
    · exact h.eq j (by omega)⟩
theorem RunOk.pack {xs : List Int} {i m : Nat} (h : RunOk xs i m) : packF (xs.drop i) = rsteps (nth xs i) m ++ packF (xs.drop (i + m)) :=
  packF_at xs i m (by have := h.one; have := h.le; omega) h.le h.eq h.stop
theorem own_as {w : World} {base n : Nat} {e : TypeId} {v : Value} {xs ys : List (Int × Int)} (h : w.ownsRow base e 2 v n (pcells xs)) (he : xs = ys) : w.ownsRow base e 2 v ys.length (pcells ys) := by
  subst he
  have := h.1
  rw [pcells_length] at this
  obtain rfl : n = xs.length := by omega
  exact h
theorem RunOk.zstep {xs : List Int} {k m : Nat} {out es : List (Int × Int)} {r : Nat} (h : RunOk xs k m) (hz : nth xs k = 0) (hp : out ++ packF (xs.drop k) = packF xs) (ho : out.length ≤ k) (h1 : reps 11 18 138 m = es) (h2 : left 11 138 m = r) :
    (out ++ (es ++ (reps 3 17 10 r ++ List.replicate (left 3 10 r) (0, 0)))) ++ packF (xs.drop (k + m)) = packF xs ∧ (out ++ (es ++ (reps 3 17 10 r ++ List.replicate (left 3 10 r) (0, 0)))).length ≤ k + m := by
  have e : es ++ (reps 3 17 10 r ++ List.replicate (left 3 10 r) (0, 0)) = rsteps (nth xs k) m := by
    rw [rsteps, if_pos hz, zsteps, h1, h2]
  rw [e]
  have := rsteps_len (nth xs k) m h.one
  refine ⟨?_, by rw [List.length_append]; omega⟩
  rw [← hp, h.pack, List.append_assoc]
theorem RunOk.vstep {xs : List Int} {k m : Nat} {out es : List (Int × Int)} {r : Nat} (h : RunOk xs k m) (hz : ¬ nth xs k = 0) (hp : out ++ packF (xs.drop k) = packF xs) (ho : out.length ≤ k) (h1 : reps 3 16 6 (m - 1) = es) (h2 : left 3 6 (m - 1) = r) :
    (out ++ ((nth xs k, 0) :: (es ++ List.replicate r (nth xs k, 0)))) ++ packF (xs.drop (k + m)) = packF xs ∧ (out ++ ((nth xs k, 0) :: (es ++ List.replicate r (nth xs k, 0)))).length ≤ k + m := by
  have e : (nth xs k, 0) :: (es ++ List.replicate r (nth xs k, 0)) = rsteps (nth xs k) m := by
    rw [rsteps, if_neg hz, vsteps, h1, h2]
  rw [e]
  have := rsteps_len (nth xs k) m h.one
  refine ⟨?_, by rw [List.length_append]; omega⟩
  rw [← hp, h.pack, List.append_assoc]
/-- What packing answers. -/
def Packed (w : World) (xs : List Int) (e : Ending) (w' : World) : Prop :=
  (xs.length ≤ 316 ∧ anyBad xs = false ∧ ∃ v, e = .returned (.tuple #[v, .int .i64 0]) ∧ w'.ownsRow w.heap.size 31 2 v (packF xs).length (pcells (packF xs)) ∧ Below w.heap.size w w') ∨
  ((316 < xs.length ∨ anyBad xs = true) ∧ e = .returned (.tuple #[.slice none 0 0, .int .i64 1]) ∧ Below w.heap.size w w')
theorem Dr.below {w w' : World} (h : Dr w w') : Below w.heap.size w w' := (h.keeps (S := [])).below
set_option maxRecDepth 100000 in
set_option maxHeartbeats 1000000 in
theorem refPack_calls (w : World) (A : Option Addr) (n c : Nat) (xs : List Int) (hx : RI .i64 w A n xs) (hn : n ≤ 1048576) :
    Calls Tryd.prog 18 #[.slice A n c] w (Packed w xs) := by
  have HX := Lib.hid hx
  have HL := Lib.hid hx.len
  clear hx
  by_cases hbig : 316 < n
  · have e1 : decide (316 < n) = true := by simpa using hbig
    go_enter Tryd.func18, Tryd.ntmps18
    go_wp2_with fail
    go_ret2
    exact Or.inr ⟨Or.inl (by have := HL.out; omega), rfl, Below.refl _ _⟩
  · have e1 : decide (316 < n) = false := by simpa using hbig
    go_enter Tryd.func18, Tryd.ntmps18
    go_wp2_with fail
    refine (refLengths_calls w _ _ _ xs HX.out (by omega)).mono ?_
    rintro e w' ⟨rfl, q, rfl⟩
    cases hb : anyBad xs with
    | true =>
      have HB := Lib.hid hb
      clear hb
      go_wp2_with fail
      go_ret2
      exact Or.inr ⟨Or.inr HB.out, rfl, Dr.below ⟨q, rfl⟩⟩
    | false =>
      have HB := Lib.hid hb
      clear hb e1
      go_wp2_with fail
      go_loopw [4, 5] (fun v i wr => ∃ (k : Nat) (out : List (Int × Int)), k ≤ n ∧ i = .int .i64 k ∧ Hid (wr.ownsRow w.heap.size 31 2 v out.length (pcells out)) ∧ Hid (out ++ packF (xs.drop k) = packF xs) ∧ out.length ≤ k ∧ Hid (Below w.heap.size w wr)) (fun _ i _ => n - (intOf i).toNat)
      case atStart => exact ⟨0, [], by omega, rfl, Lib.hid (World.ownsRow_nil _ _ _ _), Lib.hid (by simp), by simp, Lib.hid (Dr.below ⟨q, rfl⟩)⟩
      case round =>
        obtain ⟨k, out, hk, rfl, HO, HP, hol, HW⟩ := hrel
        by_cases hlt : k < n
        · go_upto_block 2 with (fail)
          go_cut [6] (fun v6 wc => ∃ m : Nat, m + k ≤ n ∧ 1 ≤ m ∧ v6 = .int .i64 m ∧ Hid (RunOk xs k m) ∧ Hid (Dr wr wc))
          case first =>
            go_wp2_with fail
            go_loopw [6] (fun v6 wi => ∃ m : Nat, m + k ≤ n ∧ 1 ≤ m ∧ v6 = .int .i64 m ∧ Hid (RunTo xs k m) ∧ Hid (Dr wr wi)) (fun v6 _ => n - (intOf v6).toNat)
            case atStart => exact ⟨1, by omega, by omega, rfl, Lib.hid ⟨by omega, by have := HL.out; omega, fun j hj => by rw [show j = 0 by omega]; rfl⟩, ⟨0, rfl⟩⟩
            case round =>
              obtain ⟨m, hm, hm1, rfl, HR, HD⟩ := hrel
              obtain ⟨q1, rfl⟩ := HD.out
              clear HD
              obtain ⟨b, o, rfl, hc1⟩ := HX.out.at hlt
              have hc1' := (Keeps.of_below (S := []) HW.out).cell (by simp) hc1
              clear hc1
              by_cases h1 : k + m < n
              · obtain ⟨b', o', he, hc2⟩ := HX.out.at h1
                injection he with he; injection he with he1 he2 he3; subst he1; subst he2; clear he3
                have hc2' := (Keeps.of_below (S := []) HW.out).cell (by simp) hc2
                clear hc2
                have e1 : IntKind.i64.wrap ((k : Int) + (m : Int)) = (k : Int) + (m : Int) := IntWalk.i64_in _ (by omega)
                have e2 : (0 : Int) ≤ (k : Int) + (m : Int) := by omega
                have e3 : ((k : Int) + (m : Int)).toNat = k + m := by omega
                have e4 : decide ((k : Int) + (m : Int) < (n : Int)) = true := by simp; omega
                have E1 := Lib.hid e1
                by_cases hv : nth xs (k + m) = nth xs k
                · have e5 : (nth xs (k + m) == nth xs k) = true := by simpa using hv
                  have HV := Lib.hid hv
                  clear hv
                  go_wp2_with fail
                  go_quiet (fail)
                  clear e1 e2 e3 e4 e5
                  go_wp2_with fail
                  go_roundw
                  case rel => exact ⟨m + 1, by omega, by omega, by go_num, Lib.hid (HR.out.step (by have := HL.out; omega) HV.out), Lib.hid (by first | exact ⟨_, rfl⟩ | exact Dr.step ⟨_, rfl⟩ _)⟩
                  case measure => simp [intOf]; omega
                · have e5 : (nth xs (k + m) == nth xs k) = false := by simpa using hv
                  have HV := Lib.hid hv
                  clear hv
                  go_wp2_with fail
                  go_quiet (fail)
                  clear e1 e2 e3 e4 e5
                  go_wp2_with fail
                  go_meet
                  case rel => exact ⟨m, by omega, by omega, rfl, Lib.hid { toRunTo := HR.out, stop := fun _ => HV.out }, Lib.hid (by first | exact ⟨_, rfl⟩ | exact Dr.step ⟨_, rfl⟩ _)⟩
              · have e1 : IntKind.i64.wrap ((k : Int) + (m : Int)) = (k : Int) + (m : Int) := IntWalk.i64_in _ (by omega)
                have e4 : decide ((k : Int) + (m : Int) < (n : Int)) = false := by simp; omega
                go_wp2_with fail
                go_quiet (fail)
                clear e1 e4
                go_wp2_with fail
                go_meet
                case rel => exact ⟨m, by omega, by omega, rfl, Lib.hid { toRunTo := HR.out, stop := fun h => absurd h (by have := HL.out; omega) }, Lib.hid (by first | exact ⟨_, rfl⟩ | exact Dr.step ⟨_, rfl⟩ _)⟩
          case rest =>
            obtain ⟨m, hm, hm1, rfl, HR, HD⟩ := hcut
            have HO1 : Hid (wc.ownsRow w.heap.size 31 2 u4 out.length (pcells out)) := by obtain ⟨q1, rfl⟩ := HD.out; exact HO.out
            have HW1 : Hid (Below w.heap.size w wc) := by obtain ⟨q1, rfl⟩ := HD.out; exact (HW.out.trans ((Dr.below ⟨q1, rfl⟩).mono HW.out.size))
            clear HD HO HW
            obtain ⟨b, o, rfl, hc1⟩ := HX.out.at hlt
            have hc1' := (Keeps.of_below (S := []) HW1.out).cell (by simp) hc1
            clear hc1
            by_cases hz : nth xs k = 0
            · have e5 : (nth xs k == 0) = true := by simpa using hz
              have HZ := Lib.hid hz
              clear hz
              go_upto_block 4 with (fail)
              clear e5
              go_cut [4, 6] (fun v4 v6 wc => ∃ (r : Nat) (es : List (Int × Int)), r < 11 ∧ v6 = .int .i64 r ∧ Hid (reps 11 18 138 m = es) ∧ Hid (left 11 138 m = r) ∧ out.length + es.length + r ≤ k + m ∧ Hid (wc.ownsRow w.heap.size 31 2 v4 (out.length + es.length) (pcells (out ++ es))) ∧ Hid (Below w.heap.size w wc))
              case first =>
                clear hc1'
                go_wp2_with fail
                go_loopw [4, 6] (fun v4 v6 wi => ∃ (r : Nat) (es : List (Int × Int)), v6 = .int .i64 r ∧ Hid (reps 11 18 138 m = es ++ reps 11 18 138 r) ∧ Hid (left 11 138 m = left 11 138 r) ∧ out.length + es.length + r ≤ k + m ∧ Hid (wi.ownsRow w.heap.size 31 2 v4 (out.length + es.length) (pcells (out ++ es))) ∧ Hid (Below w.heap.size w wi)) (fun _ v6 _ => (intOf v6).toNat)
                case atStart => exact ⟨m, [], rfl, Lib.hid rfl, Lib.hid rfl, by simp; omega, Lib.hid (by simpa using HO1.out), HW1⟩
                case round =>
                  clear HO1 HW1
                  obtain ⟨r, es, rfl, HA, HL2, hlen, HO, HW⟩ := hrel
                  by_cases h11 : 11 ≤ r
                  · have hsz := HW.out.size
                    rcases (by omega : ¬ ((138 : Int) < (r : Int)) ∨ (138 : Int) < (r : Int)) with h138 | h138
                    · go_wp2_with (at_builtin; refine app_step rfl (.tmp 56) (.tmp 60) rfl w.heap.size _ _ _ rfl (HO.out.alloc _) wr.heap.size 18 ((r : Int) - 11) rfl (by simp) (by simp) (by omega) (by simp; omega) ?_)
                      intro v' w1 h1 hg g' c' hv
                      subst hv
                      have HO1 := Lib.hid h1
                      have HB1 := Lib.hid ((HW.out.alloc (by omega) _).grown hg (by simp; omega) (fun k hk => (HO.out.lt k hk).1))
                      clear HO HW h1 hg
                      go_wp2_with fail
                      go_roundw
                      case rel =>
                        have hs := reps_step (by omega) (by omega) h11 HA.out HL2.out (q := (r : Int) - 11) (r' := 0) (by omega) (by omega)
                        exact ⟨0, es ++ [(18, (r : Int) - 11)], rfl, Lib.hid hs.1, Lib.hid hs.2, by simp; omega, Lib.hid (by simpa [Nat.add_assoc] using HO1.out), HB1⟩
                      case measure => simp [intOf]; omega
                    · go_wp2_with (at_builtin; refine app_step rfl (.tmp 56) (.tmp 60) rfl w.heap.size _ _ _ rfl (HO.out.alloc _) wr.heap.size 18 127 rfl (by simp) (by simp) (by omega) (by simp; omega) ?_)
                      intro v' w1 h1 hg g' c' hv
                      subst hv
                      have HO1 := Lib.hid h1
                      have HB1 := Lib.hid ((HW.out.alloc (by omega) _).grown hg (by simp; omega) (fun k hk => (HO.out.lt k hk).1))
                      clear HO HW h1 hg
                      go_wp2_with fail
                      go_roundw
                      case rel =>
                        have hs := reps_step (by omega) (by omega) h11 HA.out HL2.out (q := 127) (r' := r - 138) (by omega) (by omega)
                        exact ⟨r - 138, es ++ [(18, 127)], by go_num, Lib.hid hs.1, Lib.hid hs.2, by simp; omega, Lib.hid (by simpa [Nat.add_assoc] using HO1.out), HB1⟩
                      case measure => simp [intOf]; omega
                  · go_wp2_with fail
                    go_meet
                    case rel =>
                      have hs := reps_stop (by omega) HA.out HL2.out
                      exact ⟨r, es, by omega, rfl, Lib.hid hs.1, Lib.hid hs.2, hlen, HO, HW⟩
              case rest =>
                clear HO1 HW1
                obtain ⟨r, es, hr11, rfl, HA, HL2, hlen, HO, HW⟩ := hcut
                have hsz := HW.out.size
                by_cases h3 : 3 ≤ r
                · go_wp2_with (at_builtin; refine app_step rfl (.tmp 67) (.tmp 71) rfl w.heap.size _ _ _ rfl (HO.out.alloc _) wc.heap.size 17 ((r : Int) - 3) rfl (by simp) (by simp) (by omega) (by simp; omega) ?_)
                  intro v' w1 h1 hg g' c' hv
                  subst hv
                  have HO1 := Lib.hid h1
                  have HB1 := Lib.hid ((HW.out.alloc (by omega) _).grown hg (by simp; omega) (fun k hk => (HO.out.lt k hk).1))
                  clear HO HW h1 hg
                  go_wp2_with fail
                  refine (times_calls _ _ _ _ _ _ _ HO1.out HB1.out.size (by omega) (by omega)).mono ?_
                  rintro e w' ⟨v2, rfl, ho2, hb2⟩
                  have HO2 := Lib.hid ho2
                  have HB2 := Lib.hid hb2
                  clear ho2 hb2
                  go_wp2_with fail
                  go_roundw
                  case rel =>
                    have hs := HR.out.zstep HZ.out HP.out hol HA.out HL2.out
                    refine ⟨k + m, _, by omega, by go_num, Lib.hid (own_as HO2.out ?_), Lib.hid hs.1, hs.2, Lib.hid (HB1.out.trans HB2.out)⟩
                    rw [(zlast_ge h3 hr11).1, (zlast_ge h3 hr11).2]
                    simp
                  case measure => simp [intOf]; omega
                · go_wp2_with fail
                  refine (times_calls _ _ _ _ _ _ _ HO.out HW.out.size (by omega) (by omega)).mono ?_
                  rintro e w' ⟨v2, rfl, ho2, hb2⟩
                  have HO2 := Lib.hid ho2
                  have HB2 := Lib.hid hb2
                  clear ho2 hb2
                  go_wp2_with fail
                  go_roundw
                  case rel =>
                    have hs := HR.out.zstep HZ.out HP.out hol HA.out HL2.out
                    refine ⟨k + m, _, by omega, by go_num, Lib.hid (own_as HO2.out ?_), Lib.hid hs.1, hs.2, Lib.hid (HW.out.trans HB2.out)⟩
                    rw [(zlast_lt (by omega)).1, (zlast_lt (by omega)).2]
                    simp
                  case measure => simp [intOf]; omega
            · have e5 : (nth xs k == 0) = false := by simpa using hz
              have HZ := Lib.hid hz
              clear hz
              have hsz := HW1.out.size
              go_wp2_with (at_builtin; refine app_step rfl (.tmp 76) (.tmp 79) rfl w.heap.size _ _ _ rfl (HO1.out.alloc _) wc.heap.size (nth xs k) 0 rfl (by simp) (by simp) (by omega) (by simp; omega) ?_)
              intro v' w1 h1 hg g' c' hv
              subst hv
              have HO2 := Lib.hid h1
              have HB2 := Lib.hid ((HW1.out.alloc (by omega) _).grown hg (by simp; omega) (fun k hk => (HO1.out.lt k hk).1))
              clear HO1 HW1 h1 hg
              go_upto_block 6 with (fail)
              clear e5 hc1'
              go_cut [4, 6] (fun v4 v6 wc => ∃ (r : Nat) (es : List (Int × Int)), v6 = .int .i64 r ∧ Hid (reps 3 16 6 (m - 1) = es) ∧ Hid (left 3 6 (m - 1) = r) ∧ out.length + es.length + r + 1 ≤ k + m ∧ Hid (wc.ownsRow w.heap.size 31 2 v4 (out.length + 1 + es.length) (pcells (out ++ ((nth xs k, 0) :: es)))) ∧ Hid (Below w.heap.size w wc))
              case first =>
                go_wp2_with fail
                go_loopw [4, 6] (fun v4 v6 wi => ∃ (r : Nat) (es : List (Int × Int)), v6 = .int .i64 r ∧ Hid (reps 3 16 6 (m - 1) = es ++ reps 3 16 6 r) ∧ Hid (left 3 6 (m - 1) = left 3 6 r) ∧ out.length + es.length + r + 1 ≤ k + m ∧ Hid (wi.ownsRow w.heap.size 31 2 v4 (out.length + 1 + es.length) (pcells (out ++ ((nth xs k, 0) :: es)))) ∧ Hid (Below w.heap.size w wi)) (fun _ v6 _ => (intOf v6).toNat)
                case atStart => exact ⟨m - 1, [], by go_num, Lib.hid rfl, Lib.hid rfl, by simp; omega, Lib.hid (by simpa using HO2.out), HB2⟩
                case round =>
                  clear HO2 HB2
                  obtain ⟨r, es, rfl, HA, HL2, hlen, HO, HW⟩ := hrel
                  by_cases h3 : 3 ≤ r
                  · have hsz := HW.out.size
                    rcases (by omega : ¬ ((6 : Int) < (r : Int)) ∨ (6 : Int) < (r : Int)) with h6 | h6
                    · go_wp2_with (at_builtin; refine app_step rfl (.tmp 87) (.tmp 91) rfl w.heap.size _ _ _ rfl (HO.out.alloc _) wr.heap.size 16 ((r : Int) - 3) rfl (by simp) (by simp) (by omega) (by simp; omega) ?_)
                      intro v' w1 h1 hg g' c' hv
                      subst hv
                      have HO1 := Lib.hid h1
                      have HB1 := Lib.hid ((HW.out.alloc (by omega) _).grown hg (by simp; omega) (fun k hk => (HO.out.lt k hk).1))
                      clear HO HW h1 hg
                      go_wp2_with fail
                      go_roundw
                      case rel =>
                        have hs := reps_step (by omega) (by omega) h3 HA.out HL2.out (q := (r : Int) - 3) (r' := 0) (by omega) (by omega)
                        exact ⟨0, es ++ [(16, (r : Int) - 3)], rfl, Lib.hid hs.1, Lib.hid hs.2, by simp; omega, Lib.hid (by simpa [Nat.add_assoc] using HO1.out), HB1⟩
                      case measure => simp [intOf]; omega
                    · go_wp2_with (at_builtin; refine app_step rfl (.tmp 87) (.tmp 91) rfl w.heap.size _ _ _ rfl (HO.out.alloc _) wr.heap.size 16 3 rfl (by simp) (by simp) (by omega) (by simp; omega) ?_)
                      intro v' w1 h1 hg g' c' hv
                      subst hv
                      have HO1 := Lib.hid h1
                      have HB1 := Lib.hid ((HW.out.alloc (by omega) _).grown hg (by simp; omega) (fun k hk => (HO.out.lt k hk).1))
                      clear HO HW h1 hg
                      go_wp2_with fail
                      go_roundw
                      case rel =>
                        have hs := reps_step (by omega) (by omega) h3 HA.out HL2.out (q := 3) (r' := r - 6) (by omega) (by omega)
                        exact ⟨r - 6, es ++ [(16, 3)], by go_num, Lib.hid hs.1, Lib.hid hs.2, by simp; omega, Lib.hid (by simpa [Nat.add_assoc] using HO1.out), HB1⟩
                      case measure => simp [intOf]; omega
                  · go_wp2_with fail
                    go_meet
                    case rel =>
                      have hs := reps_stop (by omega) HA.out HL2.out
                      exact ⟨r, es, rfl, Lib.hid hs.1, Lib.hid hs.2, hlen, HO, HW⟩
              case rest =>
                clear HO2 HB2
                obtain ⟨r, es, rfl, HA, HL2, hlen, HO, HW⟩ := hcut
                go_wp2_with fail
                refine (times_calls _ _ _ _ _ _ _ HO.out HW.out.size (by omega) (by omega)).mono ?_
                rintro e w' ⟨v2, rfl, ho2, hb2⟩
                have HO2 := Lib.hid ho2
                have HB2 := Lib.hid hb2
                clear ho2 hb2
                go_wp2_with fail
                go_roundw
                case rel =>
                  have hs := HR.out.vstep HZ.out HP.out hol HA.out HL2.out
                  refine ⟨k + m, _, by omega, by go_num, Lib.hid (own_as HO2.out ?_), Lib.hid hs.1, hs.2, Lib.hid (HW.out.trans HB2.out)⟩
                  simp
                case measure => simp [intOf]; omega
        · go_wp2_with fail
          obtain rfl : k = n := by omega
          go_ret2
          have e1 : xs.drop k = [] := List.drop_eq_nil_of_le (by have := HL.out; omega)
          have e2 := HP.out
          rw [e1, packF_nil, List.append_nil] at e2
          subst e2
          exact Or.inl ⟨by have := HL.out; omega, HB.out, _, rfl, HO.out, HW.out⟩
end Go.Proofs.YtcblibefmclloaaDoor
