import Derived.Test.YtcblibefmclloaaDoorTimes
import Derived.Test.YtcblibefmclloaaDoorMPack
import Derived.Deep.AppendLies
import Derived.Deep.RegionLaw
set_option linter.unusedVariables false
set_option linter.unusedSimpArgs false
namespace Go.Proofs.YtcblibefmclloaaDoor
open Go.RowKit
/-- What the package's tables hold. -/
def fromL : List Int := [0, 0, 0, 0, 0, 0, 0, 0, 0, 0, 0, 0, 0, 0, 0, 0, 3, 3, 11]
def wideL : List Int := [0, 0, 0, 0, 0, 0, 0, 0, 0, 0, 0, 0, 0, 0, 0, 0, 2, 3, 7]
def orderL : List Int := [16, 17, 18, 0, 8, 7, 9, 6, 10, 5, 11, 4, 12, 3, 13, 2, 14, 1, 15]
structure Tabs (w : World) : Prop where
  fro : RI .i64 w (some ⟨0, 0, none⟩) 19 fromL
  wid : RI .i64 w (some ⟨2, 0, none⟩) 19 wideL
  ord : RI .i64 w (some ⟨1, 0, none⟩) 19 orderL
theorem RI.below {k : IntKind} {w w' : World} {A : Option Addr} {n : Nat} {xs : List Int} (h : RI k w A n xs) {B : Nat} (hb : Below B w w') (ho : ∀ a, A = some a → a.block < B) : RI k w' A n xs :=
  ⟨h.len, h.hd, fun b o ha j hj => (hb.cell (p := ⟨b, o + j, none⟩) (ho ⟨b, o, none⟩ ha)).trans (h.cell b o ha j hj)⟩
/-- The tables' blocks lie below it. -/
def gtop : Nat := max (max 0 2) 1 + 1
theorem glt : 0 < gtop ∧ 2 < gtop ∧ 1 < gtop := by decide
theorem Tabs.below {w w' : World} (h : Tabs w) {B : Nat} (hb : Below B w w') (h3 : gtop ≤ B) : Tabs w' :=
  ⟨h.fro.below hb (by rintro a ⟨⟩; exact Nat.lt_of_lt_of_le glt.1 h3), h.wid.below hb (by rintro a ⟨⟩; exact Nat.lt_of_lt_of_le glt.2.1 h3), h.ord.below hb (by rintro a ⟨⟩; exact Nat.lt_of_lt_of_le glt.2.2 h3)⟩
theorem Tabs.keeps {S : List Nat} {w w' : World} (h : Tabs w) (hk : Keeps S w w') (h3 : ∀ x ∈ S, gtop ≤ x) : Tabs w' :=
  ⟨h.fro.keeps hk (by rintro a ⟨⟩ hx; exact absurd glt.1 (Nat.not_lt.2 (h3 _ hx))), h.wid.keeps hk (by rintro a ⟨⟩ hx; exact absurd glt.2.1 (Nat.not_lt.2 (h3 _ hx))), h.ord.keeps hk (by rintro a ⟨⟩ hx; exact absurd glt.2.2 (Nat.not_lt.2 (h3 _ hx)))⟩
theorem Tabs.size {w : World} (h : Tabs w) : gtop ≤ w.heap.size := by
  have h1 := World.block_lt_of_cell? _ _ (h.fro.cell _ _ rfl 0 (by omega))
  have h2 := World.block_lt_of_cell? _ _ (h.wid.cell _ _ rfl 0 (by omega))
  have h3 := World.block_lt_of_cell? _ _ (h.ord.cell _ _ rfl 0 (by omega))
  simp only at h1 h2 h3
  simp only [gtop]
  omega
theorem step_app {ops : Array Oper} {o : Oper} {a : Act} {K : Act → World → Prop} {Q : Exit → Act → World → Prop} {E : Prop} {w : World} (hgd : o.guard = none) (s x : Operand)
    (ho : o.op = .call { callee := .builtin .append, args := #[s, x], argTypes := #[25, 25] })
    (base : Nat) (v : Value) (n : Nat) (xs : List (Int × Int)) (hs : a.eval s = v) (hown : w.ownsRow base 31 2 v n (pcells xs))
    (g : Nat) (p q : Int) (hx : a.eval x = .slice (some ⟨g, 0, none⟩) 1 1) (h0 : w.cell? ⟨g, 0, none⟩ = some (.int .i64 p)) (h1 : w.cell? ⟨g, 1, none⟩ = some (.int .i64 q))
    (hn : n ≤ 1000000) (hbase : base ≤ w.heap.size)
    (h : ∀ g' c' w', w'.ownsRow base 31 2 (.slice (some ⟨g', 0, none⟩) (n + 1) c') (n + 1) (pcells (xs ++ [(p, q)])) → w.grownBy w' v.ownBlock → K (a.put o.dst (.slice (some ⟨g', 0, none⟩) (n + 1) c')) w') :
    if Region.wanted o (yielded ops a.tmps) = true then Oper.wp Tryd.prog o a w K Q else E := by
  obtain ⟨i0, hi, hz0, hz1, hz2⟩ := info_parts info_step
  refine step_append_lies _ hgd s x 25 ho base 31 i0 (.agg #[.int .i64 0, .int .i64 0]) 2 16 Tryd.underlying25 hi hz0 hz1 hz2 rfl (by decide) v n (pcells xs) hs hown ⟨g, 0, none⟩ 1 1 [.int .i64 p, .int .i64 q] hx rfl ?_ ?_ (by omega) (by unfold maxLen; omega) (by omega) hbase _ rfl ?_
  · intro j u hu
    rw [add_plain]
    match j, hu with
    | 0, hu => simp at hu; subst hu; exact h0
    | 1, hu => simp at hu; subst hu; exact h1
    | j + 2, hu => simp at hu
  · intro u hu
    simp at hu
    rcases hu with rfl | rfl <;> rfl
  · intro g' cap w' h2 h3 _ _
    rw [pcells_append] at h
    exact h g' cap w' h2 h3
set_option maxRecDepth 100000 in
set_option maxHeartbeats 400000 in
theorem pack1_calls (w : World) (B n fr sym top : Nat) (v : Value) (len : Nat) (out : List (Int × Int)) (ht : Tabs w) (hB : gtop ≤ B) (hc : w.cell? ⟨B, 0, none⟩ = some v) (hf : w.frozen? ⟨B, 0, none⟩ = false)
    (hown : w.ownsRow (B + 1) 31 2 v len (pcells out)) (hs : sym < 19) (hfr : nth fromL sym = fr) (h0 : 0 < fr) (h1 : 0 < top) (hft : fr ≤ top) (hl : len + n ≤ 100000) (ht2 : top ≤ 1000) :
    Calls Tryd.prog 53 #[.int .i64 n, .int .i64 sym, .int .i64 top, .pointer (some ⟨B, 0, none⟩)] w fun e w' => ∃ v', e = .returned (.int .i64 (left fr top n)) ∧ w'.cell? ⟨B, 0, none⟩ = some v' ∧ w'.frozen? ⟨B, 0, none⟩ = false ∧
      w'.ownsRow (B + 1) 31 2 v' (len + (reps fr sym top n).length) (pcells (out ++ reps fr sym top n)) ∧ Below B w w' := by
  have hBw : B < w.heap.size := World.block_lt_of_cell? _ _ hc
  have HT := Lib.hid ht
  have HO := Lib.hid hown
  have HF := Lib.hid hfr
  clear ht hown hfr
  go_enter Tryd.func53, Tryd.ntmps53
  go_wp2_with fail
  go_loopw [0, 8] (fun v0 v8 wr => ∃ (r : Nat) (es : List (Int × Int)) (u : Value), v0 = .int .i64 r ∧ Hid (reps fr sym top n = es ++ reps fr sym top r) ∧ Hid (left fr top n = left fr top r) ∧ len + es.length + r ≤ len + n ∧ wr.cell? ⟨B, 0, none⟩ = some u ∧ wr.frozen? ⟨B, 0, none⟩ = false ∧ Hid (wr.ownsRow (B + 1) 31 2 u (len + es.length) (pcells (out ++ es))) ∧ Hid (Below B w wr)) (fun v0 _ _ => (intOf v0).toNat)
  case atStart => exact ⟨n, [], v, rfl, Lib.hid rfl, Lib.hid rfl, by simp, hc, hf, Lib.hid (by simpa using HO.out), Lib.hid (Below.refl _ _)⟩
  case round =>
    clear HO hc hf
    obtain ⟨r, es, u, rfl, HA, HL2, hlen, hc, hf, HO, HW⟩ := hrel
    have hT := HT.out.below HW.out hB
    have hfc := hT.fro.cell _ _ rfl sym hs
    rw [Nat.zero_add, HF.out] at hfc
    have hsz := HW.out.size
    have HTr := Lib.hid hT
    clear hT
    have hs2 : (sym : Int) < 19 := by omega
    have hBr : B < wr.heap.size := by omega
    have hne : ∀ k, u.ownBlock = some k → B < k := fun k hk => (HO.out.lt k hk).1
    have cellB : ∀ (o : Obj) (w1 : World), (wr.alloc o).drew.grownBy w1 u.ownBlock → w1.cell? ⟨B, 0, none⟩ = some u := fun o w1 hg =>
      (World.cell?_of_block (w := (wr.alloc o).drew) (a := ⟨B, 0, none⟩) (hg.block B (by simp; omega) (fun e => by have := hne B e.symm; omega))).trans (((Keeps.refl [] wr).alloc o).cell (by simp) hc)
    have frozenB : ∀ (o : Obj) (w1 : World), (wr.alloc o).drew.grownBy w1 u.ownBlock → w1.frozen? ⟨B, 0, none⟩ = false := fun o w1 hg =>
      (World.frozen?_of_block (w := (wr.alloc o).drew) (a := ⟨B, 0, none⟩) (hg.block B (by simp; omega) (fun e => by have := hne B e.symm; omega))).trans ((((Keeps.refl [] wr).alloc o).frozen (p := ⟨B, 0, none⟩) hBr (by simp)).trans hf)
    have CB := Lib.hid cellB
    have FB := Lib.hid frozenB
    have NE := Lib.hid hne
    clear cellB frozenB hne
    by_cases h11 : fr ≤ r
    · have e1 : decide ((fr : Int) ≤ (r : Int)) = true := by simp; omega
      rcases (by omega : ¬ ((top : Int) < (r : Int)) ∨ (top : Int) < (r : Int)) with h138 | h138
      · go_wp2_with fail
        have e2 : IntKind.i64.wrap ((r : Int) - (fr : Int)) = (r : Int) - (fr : Int) := IntWalk.i64_in _ (by omega)
        go_region_law (refine step_app rfl (.tmp 17) (.tmp 25) rfl (B + 1) _ _ _ rfl (HO.out.alloc _) wr.heap.size sym ((r : Int) - fr) rfl (by simp) (by simp [e2]) (by omega) (by simp; omega) ?_; intro g' c' w1 h1 hg; have hc1 := CB.out _ w1 hg; have hf1 := FB.out _ w1 hg)
        all_goals
          have HO1 := Lib.hid (ownsRow_setCell_below h1 (a := ⟨B, 0, none⟩) (Nat.lt_succ_self B) (.slice (some ⟨g', 0, none⟩) (len + es.length + 1) c'))
          have HB1 := Lib.hid (((((HW.out.alloc (by omega) _).drew).grown hg (by simp; omega) (fun k hk => Nat.le_of_lt (NE.out k hk)))).setCell (p := ⟨B, 0, none⟩) (Nat.le_refl B) (.slice (some ⟨g', 0, none⟩) (len + es.length + 1) c'))
          clear HO HW h1 hg CB FB NE
          go_wp2_with fail
          go_roundw
          case rel =>
            have hs := reps_step h0 (by omega) h11 HA.out HL2.out (q := (r : Int) - fr) (r' := 0) (by omega) (by omega)
            exact ⟨0, es ++ [((sym : Int), (r : Int) - fr)], .slice (some ⟨g', 0, none⟩) (len + es.length + 1) c', by go_num, Lib.hid hs.1, Lib.hid hs.2, by first | (simp; omega) | omega, World.cell?_setCell_same' _ _ _ (by rw [hc1]; rfl), by simpa using hf1, Lib.hid (by simpa [Nat.add_assoc] using HO1.out), HB1⟩
          case measure => simp [intOf]; omega
      · go_wp2_with fail
        have e2 : IntKind.i64.wrap ((top : Int) - (fr : Int)) = (top : Int) - (fr : Int) := IntWalk.i64_in _ (by omega)
        go_region_law (refine step_app rfl (.tmp 17) (.tmp 25) rfl (B + 1) _ _ _ rfl (HO.out.alloc _) wr.heap.size sym ((top : Int) - fr) rfl (by simp) (by simp [e2]) (by omega) (by simp; omega) ?_; intro g' c' w1 h1 hg; have hc1 := CB.out _ w1 hg; have hf1 := FB.out _ w1 hg)
        all_goals
          have HO1 := Lib.hid (ownsRow_setCell_below h1 (a := ⟨B, 0, none⟩) (Nat.lt_succ_self B) (.slice (some ⟨g', 0, none⟩) (len + es.length + 1) c'))
          have HB1 := Lib.hid (((((HW.out.alloc (by omega) _).drew).grown hg (by simp; omega) (fun k hk => Nat.le_of_lt (NE.out k hk)))).setCell (p := ⟨B, 0, none⟩) (Nat.le_refl B) (.slice (some ⟨g', 0, none⟩) (len + es.length + 1) c'))
          clear HO HW h1 hg CB FB NE
          go_wp2_with fail
          go_roundw
          case rel =>
            have hs := reps_step h0 (by omega) h11 HA.out HL2.out (q := (top : Int) - fr) (r' := r - top) (by omega) (by omega)
            exact ⟨r - top, es ++ [((sym : Int), (top : Int) - fr)], .slice (some ⟨g', 0, none⟩) (len + es.length + 1) c', by go_num, Lib.hid hs.1, Lib.hid hs.2, by first | (simp; omega) | omega, World.cell?_setCell_same' _ _ _ (by rw [hc1]; rfl), by simpa using hf1, Lib.hid (by simpa [Nat.add_assoc] using HO1.out), HB1⟩
          case measure => simp [intOf]; omega
    · have e1 : decide ((fr : Int) ≤ (r : Int)) = false := by simp; omega
      go_wp2_with fail
      go_ret
      have hs := reps_stop (by omega) HA.out HL2.out
      rw [hs.1, hs.2]
      exact ⟨_, rfl, hc, hf, HO.out, HW.out⟩
end Go.Proofs.YtcblibefmclloaaDoor
