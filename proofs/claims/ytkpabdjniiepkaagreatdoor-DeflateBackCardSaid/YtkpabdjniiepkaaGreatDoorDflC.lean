import Derived.Test.YtkpabdjniiepkaaGreatDoorDflB
import Derived.Deep.AppendLies
import Derived.Deep.RegionLaw
import Derived.Test.YtkpabdjniiepkaaGreatDoorDflA
import Derived.WalkMore
import Derived.Deep.Heap
import Derived.Laws.CopyOwn
import Derived.Laws.OwnMore
import Derived.RegionTactic
import Derived.BigQuiet
import Derived.BigRegion
set_option linter.unusedVariables false
set_option linter.unusedSimpArgs false
namespace Go.Proofs.YtkpabdjniiepkaaGreatDoor
open Go.RowKit
/-- What the package's tables hold. -/
def fromL : List Int := [0, 0, 0, 0, 0, 0, 0, 0, 0, 0, 0, 0, 0, 0, 0, 0, 3, 3, 11]
def wideL : List Int := [0, 0, 0, 0, 0, 0, 0, 0, 0, 0, 0, 0, 0, 0, 0, 0, 2, 3, 7]
def orderL : List Int := [16, 17, 18, 0, 8, 7, 9, 6, 10, 5, 11, 4, 12, 3, 13, 2, 14, 1, 15]
structure Tabs (w : World) : Prop where
  fro : RI .i64 w (some ⟨2, 0, none⟩) 19 fromL
  wid : RI .i64 w (some ⟨1, 0, none⟩) 19 wideL
  ord : RI .i64 w (some ⟨0, 0, none⟩) 19 orderL
theorem RI.below {k : IntKind} {w w' : World} {A : Option Addr} {n : Nat} {xs : List Int} (h : RI k w A n xs) {B : Nat} (hb : Below B w w') (ho : ∀ a, A = some a → a.block < B) : RI k w' A n xs :=
  ⟨h.len, h.hd, fun b o ha j hj => (hb.cell (p := ⟨b, o + j, none⟩) (ho ⟨b, o, none⟩ ha)).trans (h.cell b o ha j hj)⟩
/-- The tables' blocks lie below it. -/
def gtop : Nat := max (max 2 1) 0 + 1
theorem glt : 2 < gtop ∧ 1 < gtop ∧ 0 < gtop := by decide
theorem Tabs.below {w w' : World} (h : Tabs w) {B : Nat} (hb : Below B w w') (h3 : gtop ≤ B) : Tabs w' :=
  ⟨h.fro.below hb (by rintro a ⟨⟩; exact Nat.lt_of_lt_of_le glt.1 h3), h.wid.below hb (by rintro a ⟨⟩; exact Nat.lt_of_lt_of_le glt.2.1 h3), h.ord.below hb (by rintro a ⟨⟩; exact Nat.lt_of_lt_of_le glt.2.2 h3)⟩
theorem Tabs.keeps {S : List Nat} {w w' : World} (h : Tabs w) (hk : Keeps S w w') (h3 : ∀ x ∈ S, gtop ≤ x) : Tabs w' :=
  ⟨h.fro.keeps hk (by rintro a ⟨⟩ hx; exact absurd glt.1 (Nat.not_lt.2 (h3 _ hx))), h.wid.keeps hk (by rintro a ⟨⟩ hx; exact absurd glt.2.1 (Nat.not_lt.2 (h3 _ hx))), h.ord.keeps hk (by rintro a ⟨⟩ hx; exact absurd glt.2.2 (Nat.not_lt.2 (h3 _ hx)))⟩
theorem Tabs.size {w : World} (h : Tabs w) : gtop ≤ w.heap.size := by
  have h1 := World.block_lt_of_cell? _ _ (h.fro.cell _ _ rfl 0 (by omega))
  have h2 := World.block_lt_of_cell? _ _ (h.wid.cell _ _ rfl 0 (by omega))
  have h3 := World.block_lt_of_cell? _ _ (h.ord.cell _ _ rfl 0 (by omega))
  simp only at h1 h2 h3
  simp only [gtop]
  omega
theorem step_app {ops : Array Oper} {o : Oper} {a : Act} {K : Act → World → Prop} {Q : Exit → Act → World → Prop} {E : Prop} {w : World} (hgd : o.guard = none) (s x : Operand)
    (ho : o.op = .call { callee := .builtin .append, args := #[s, x], argTypes := #[108, 108] })
    (base : Nat) (v : Value) (n : Nat) (xs : List (Int × Int)) (hs : a.eval s = v) (hown : w.ownsRow base 112 2 v n (pcells xs))
    (g : Nat) (p q : Int) (hx : a.eval x = .slice (some ⟨g, 0, none⟩) 1 1) (h0 : w.cell? ⟨g, 0, none⟩ = some (.int .i64 p)) (h1 : w.cell? ⟨g, 1, none⟩ = some (.int .i64 q))
    (hn : n ≤ 1000000) (hbase : base ≤ w.heap.size)
    (h : ∀ g' c' w', w'.ownsRow base 112 2 (.slice (some ⟨g', 0, none⟩) (n + 1) c') (n + 1) (pcells (xs ++ [(p, q)])) → w.grownBy w' v.ownBlock → K (a.put o.dst (.slice (some ⟨g', 0, none⟩) (n + 1) c')) w') :
    if Region.wanted o (yielded ops a.tmps) = true then Oper.wp Tryz.prog o a w K Q else E := by
  obtain ⟨i0, hi, hz0, hz1, hz2⟩ := info_parts info_step
  refine step_append_lies _ hgd s x 108 ho base 112 i0 (.agg #[.int .i64 0, .int .i64 0]) 2 16 Tryz.underlying108 hi hz0 hz1 hz2 rfl (by decide) v n (pcells xs) hs hown ⟨g, 0, none⟩ 1 1 [.int .i64 p, .int .i64 q] hx rfl ?_ ?_ (by omega) (by unfold maxLen; omega) (by omega) hbase _ rfl ?_
  · intro j u hu
    rw [add_plain]
    match j, hu with
    | 0, hu => simp at hu; subst hu; exact h0
    | 1, hu => simp at hu; subst hu; exact h1
    | j + 2, hu => simp at hu
  · intro u hu
    simp at hu
    rcases hu with rfl | rfl <;> rfl
  · intro g' cap w' h2 h3 _ _
    rw [pcells_append] at h
    exact h g' cap w' h2 h3
set_option maxRecDepth 100000 in
set_option maxHeartbeats 400000 in
theorem pack1_calls (w : World) (B n fr sym top : Nat) (v : Value) (len : Nat) (out : List (Int × Int)) (ht : Tabs w) (hB : gtop ≤ B) (hc : w.cell? ⟨B, 0, none⟩ = some v) (hf : w.frozen? ⟨B, 0, none⟩ = false)
    (hown : w.ownsRow (B + 1) 112 2 v len (pcells out)) (hs : sym < 19) (hfr : nth fromL sym = fr) (h0 : 0 < fr) (h1 : 0 < top) (hft : fr ≤ top) (hl : len + n ≤ 100000) (ht2 : top ≤ 1000) :
    Calls Tryz.prog 76 #[.int .i64 n, .int .i64 sym, .int .i64 top, .pointer (some ⟨B, 0, none⟩)] w fun e w' => ∃ v', e = .returned (.int .i64 (left fr top n)) ∧ w'.cell? ⟨B, 0, none⟩ = some v' ∧ w'.frozen? ⟨B, 0, none⟩ = false ∧
      w'.ownsRow (B + 1) 112 2 v' (len + (reps fr sym top n).length) (pcells (out ++ reps fr sym top n)) ∧ Below B w w' := by
  have hBw : B < w.heap.size := World.block_lt_of_cell? _ _ hc
  have HT := Lib.hid ht
  have HO := Lib.hid hown
  have HF := Lib.hid hfr
  clear ht hown hfr
  go_enter Tryz.func76, Tryz.ntmps76
  go_wp2_with fail
  go_loopw [0, 8] (fun v0 v8 wr => ∃ (r : Nat) (es : List (Int × Int)) (u : Value), v0 = .int .i64 r ∧ Hid (reps fr sym top n = es ++ reps fr sym top r) ∧ Hid (left fr top n = left fr top r) ∧ len + es.length + r ≤ len + n ∧ wr.cell? ⟨B, 0, none⟩ = some u ∧ wr.frozen? ⟨B, 0, none⟩ = false ∧ Hid (wr.ownsRow (B + 1) 112 2 u (len + es.length) (pcells (out ++ es))) ∧ Hid (Below B w wr)) (fun v0 _ _ => (intOf v0).toNat)
  case atStart => exact ⟨n, [], v, rfl, Lib.hid rfl, Lib.hid rfl, by simp, hc, hf, Lib.hid (by simpa using HO.out), Lib.hid (Below.refl _ _)⟩
  case round =>
    clear HO hc hf
    obtain ⟨r, es, u, rfl, HA, HL2, hlen, hc, hf, HO, HW⟩ := hrel
    have hT := HT.out.below HW.out hB
    have hfc := hT.fro.cell _ _ rfl sym hs
    rw [Nat.zero_add, HF.out] at hfc
    have hsz := HW.out.size
    have HTr := Lib.hid hT
    clear hT
    have hs2 : (sym : Int) < 19 := by omega
    have hBr : B < wr.heap.size := by omega
    have hne : ∀ k, u.ownBlock = some k → B < k := fun k hk => (HO.out.lt k hk).1
    have cellB : ∀ (o : Obj) (w1 : World), (wr.alloc o).drew.grownBy w1 u.ownBlock → w1.cell? ⟨B, 0, none⟩ = some u := fun o w1 hg =>
      (World.cell?_of_block (w := (wr.alloc o).drew) (a := ⟨B, 0, none⟩) (hg.block B (by simp; omega) (fun e => by have := hne B e.symm; omega))).trans (((Keeps.refl [] wr).alloc o).cell (by simp) hc)
    have frozenB : ∀ (o : Obj) (w1 : World), (wr.alloc o).drew.grownBy w1 u.ownBlock → w1.frozen? ⟨B, 0, none⟩ = false := fun o w1 hg =>
      (World.frozen?_of_block (w := (wr.alloc o).drew) (a := ⟨B, 0, none⟩) (hg.block B (by simp; omega) (fun e => by have := hne B e.symm; omega))).trans ((((Keeps.refl [] wr).alloc o).frozen (p := ⟨B, 0, none⟩) hBr (by simp)).trans hf)
    have CB := Lib.hid cellB
    have FB := Lib.hid frozenB
    have NE := Lib.hid hne
    clear cellB frozenB hne
    by_cases h11 : fr ≤ r
    · have e1 : decide ((fr : Int) ≤ (r : Int)) = true := by simp; omega
      rcases (by omega : ¬ ((top : Int) < (r : Int)) ∨ (top : Int) < (r : Int)) with h138 | h138
      · go_wp2_with fail
        have e2 : IntKind.i64.wrap ((r : Int) - (fr : Int)) = (r : Int) - (fr : Int) := IntWalk.i64_in _ (by omega)
        go_region_law (refine step_app rfl (.tmp 17) (.tmp 25) rfl (B + 1) _ _ _ rfl (HO.out.alloc _) wr.heap.size sym ((r : Int) - fr) rfl (by simp) (by simp [e2]) (by omega) (by simp; omega) ?_; intro g' c' w1 h1 hg; have hc1 := CB.out _ w1 hg; have hf1 := FB.out _ w1 hg)
        all_goals
          have HO1 := Lib.hid (ownsRow_setCell_below h1 (a := ⟨B, 0, none⟩) (Nat.lt_succ_self B) (.slice (some ⟨g', 0, none⟩) (len + es.length + 1) c'))
          have HB1 := Lib.hid (((((HW.out.alloc (by omega) _).drew).grown hg (by simp; omega) (fun k hk => Nat.le_of_lt (NE.out k hk)))).setCell (p := ⟨B, 0, none⟩) (Nat.le_refl B) (.slice (some ⟨g', 0, none⟩) (len + es.length + 1) c'))
          clear HO HW h1 hg CB FB NE
          go_wp2_with fail
          go_roundw
          case rel =>
            have hs := reps_step h0 (by omega) h11 HA.out HL2.out (q := (r : Int) - fr) (r' := 0) (by omega) (by omega)
            exact ⟨0, es ++ [((sym : Int), (r : Int) - fr)], .slice (some ⟨g', 0, none⟩) (len + es.length + 1) c', by go_num, Lib.hid hs.1, Lib.hid hs.2, by first | (simp; omega) | omega, World.cell?_setCell_same' _ _ _ (by rw [hc1]; rfl), by simpa using hf1, Lib.hid (by simpa [Nat.add_assoc] using HO1.out), HB1⟩
          case measure => simp [intOf]; omega
      · go_wp2_with fail
        have e2 : IntKind.i64.wrap ((top : Int) - (fr : Int)) = (top : Int) - (fr : Int) := IntWalk.i64_in _ (by omega)
        go_region_law (refine step_app rfl (.tmp 17) (.tmp 25) rfl (B + 1) _ _ _ rfl (HO.out.alloc _) wr.heap.size sym ((top : Int) - fr) rfl (by simp) (by simp [e2]) (by omega) (by simp; omega) ?_; intro g' c' w1 h1 hg; have hc1 := CB.out _ w1 hg; have hf1 := FB.out _ w1 hg)
        all_goals
          have HO1 := Lib.hid (ownsRow_setCell_below h1 (a := ⟨B, 0, none⟩) (Nat.lt_succ_self B) (.slice (some ⟨g', 0, none⟩) (len + es.length + 1) c'))
          have HB1 := Lib.hid (((((HW.out.alloc (by omega) _).drew).grown hg (by simp; omega) (fun k hk => Nat.le_of_lt (NE.out k hk)))).setCell (p := ⟨B, 0, none⟩) (Nat.le_refl B) (.slice (some ⟨g', 0, none⟩) (len + es.length + 1) c'))
          clear HO HW h1 hg CB FB NE
          go_wp2_with fail
          go_roundw
          case rel =>
            have hs := reps_step h0 (by omega) h11 HA.out HL2.out (q := (top : Int) - fr) (r' := r - top) (by omega) (by omega)
            exact ⟨r - top, es ++ [((sym : Int), (top : Int) - fr)], .slice (some ⟨g', 0, none⟩) (len + es.length + 1) c', by go_num, Lib.hid hs.1, Lib.hid hs.2, by first | (simp; omega) | omega, World.cell?_setCell_same' _ _ _ (by rw [hc1]; rfl), by simpa using hf1, Lib.hid (by simpa [Nat.add_assoc] using HO1.out), HB1⟩
          case measure => simp [intOf]; omega
    · have e1 : decide ((fr : Int) ≤ (r : Int)) = false := by simp; omega
      go_wp2_with fail
      go_ret
      have hs := reps_stop (by omega) HA.out HL2.out
      rw [hs.1, hs.2]
      exact ⟨_, rfl, hc, hf, HO.out, HW.out⟩
end Go.Proofs.YtkpabdjniiepkaaGreatDoor

/- What a step says: plain lists. -/
set_option linter.unusedVariables false
set_option linter.unusedSimpArgs false
namespace Go.Proofs.YtkpabdjniiepkaaGreatDoor
/-- Which length a step says, and how many times. -/
def sayF (l : List Int) (sym extra : Int) : Option (Int × Nat) :=
  if 0 ≤ sym ∧ sym ≤ 15 ∧ extra = 0 then some (sym, 1)
  else if sym = 16 ∧ 0 ≤ extra ∧ extra ≤ 3 ∧ l ≠ [] then some (l.getD (l.length - 1) 0, extra.toNat + 3)
  else if sym = 17 ∧ 0 ≤ extra ∧ extra ≤ 7 then some (0, extra.toNat + 3)
  else if sym = 18 ∧ 0 ≤ extra ∧ extra ≤ 127 then some (0, extra.toNat + 11)
  else none
/-- Lengths with those that a step says, n in all at most. -/
def addF (l : List Int) (sym extra n : Int) : Option (List Int) :=
  match sayF l sym extra with
  | some (v, k) => if ((l.length + k : Nat) : Int) ≤ n then some (l ++ List.replicate k v) else none
  | none => none
theorem sayF_lit {l : List Int} {sym : Int} (h0 : 0 ≤ sym) (h1 : sym ≤ 15) : sayF l sym 0 = some (sym, 1) := by
  rw [sayF, if_pos ⟨h0, h1, rfl⟩]
theorem sayF_lit_none {l : List Int} {sym extra : Int} (h1 : sym ≤ 15) (h2 : sym < 0 ∨ extra ≠ 0) : sayF l sym extra = none := by
  rw [sayF, if_neg (by rintro ⟨a, b, c⟩; rcases h2 with h | h; omega; exact h c), if_neg (by omega), if_neg (by omega), if_neg (by omega)]
theorem sayF_16 {l : List Int} {extra : Int} (h0 : 0 ≤ extra) (h1 : extra ≤ 3) (h : l ≠ []) : sayF l 16 extra = some (l.getD (l.length - 1) 0, extra.toNat + 3) := by
  rw [sayF, if_neg (by omega), if_pos ⟨rfl, h0, h1, h⟩]
theorem sayF_16_none {l : List Int} {extra : Int} (h : extra < 0 ∨ 3 < extra ∨ l = []) : sayF l 16 extra = none := by
  rw [sayF, if_neg (by omega), if_neg (by rintro ⟨_, a, b, c⟩; rcases h with h | h | h; omega; omega; exact c h), if_neg (by omega), if_neg (by omega)]
theorem sayF_17 {l : List Int} {extra : Int} (h0 : 0 ≤ extra) (h1 : extra ≤ 7) : sayF l 17 extra = some (0, extra.toNat + 3) := by
  rw [sayF, if_neg (by omega), if_neg (by omega), if_pos ⟨rfl, h0, h1⟩]
theorem sayF_17_none {l : List Int} {extra : Int} (h : extra < 0 ∨ 7 < extra) : sayF l 17 extra = none := by
  rw [sayF, if_neg (by omega), if_neg (by omega), if_neg (by omega), if_neg (by omega)]
theorem sayF_18 {l : List Int} {extra : Int} (h0 : 0 ≤ extra) (h1 : extra ≤ 127) : sayF l 18 extra = some (0, extra.toNat + 11) := by
  rw [sayF, if_neg (by omega), if_neg (by omega), if_neg (by omega), if_pos ⟨rfl, h0, h1⟩]
theorem sayF_18_none {l : List Int} {extra : Int} (h : extra < 0 ∨ 127 < extra) : sayF l 18 extra = none := by
  rw [sayF, if_neg (by omega), if_neg (by omega), if_neg (by omega), if_neg (by omega)]
theorem sayF_big {l : List Int} {sym extra : Int} (h : 18 < sym) : sayF l sym extra = none := by
  rw [sayF, if_neg (by omega), if_neg (by omega), if_neg (by omega), if_neg (by omega)]
theorem sayF_pos {l : List Int} {sym extra v : Int} {k : Nat} (h : sayF l sym extra = some (v, k)) : 1 ≤ k ∧ k ≤ 138 := by
  simp only [sayF] at h
  split at h
  · simp at h; omega
  · split at h
    · simp at h; omega
    · split at h
      · simp at h; omega
      · split at h
        · simp at h; omega
        · simp at h
theorem addF_none {l : List Int} {sym extra n : Int} (h : sayF l sym extra = none) : addF l sym extra n = none := by rw [addF, h]
theorem addF_many {l : List Int} {sym extra n v : Int} {k : Nat} (h : sayF l sym extra = some (v, k)) (hn : n < ((l.length + k : Nat) : Int)) : addF l sym extra n = none := by
  rw [addF, h]; exact if_neg (by omega)
theorem addF_some {l : List Int} {sym extra n v : Int} {k : Nat} (h : sayF l sym extra = some (v, k)) (hn : ((l.length + k : Nat) : Int) ≤ n) : addF l sym extra n = some (l ++ List.replicate k v) := by
  rw [addF, h]; exact if_pos hn
theorem addF_len {l l' : List Int} {sym extra n : Int} (h : addF l sym extra n = some l') : l.length < l'.length ∧ (l'.length : Int) ≤ n := by
  simp only [addF] at h
  split at h
  · rename_i v k hs
    have := sayF_pos hs
    split at h
    · injection h with h; subst h; simp only [List.length_append, List.length_replicate]; omega
    · simp at h
  · simp at h
/-- Lengths with those that steps say. -/
def unpackTo (l : List Int) : List (Int × Int) → Int → Option (List Int)
  | [], _ => some l
  | s :: r, n => match addF l s.1 s.2 n with
    | some l' => unpackTo l' r n
    | none => none
/-- Unpacking: the lengths, and what is wrong. -/
def unpackF (xs : List (Int × Int)) (n : Int) : List Int × Int :=
  if n < 0 ∨ 316 < n then ([], 1) else match unpackTo [] xs n with
    | none => ([], 41)
    | some l => if (l.length : Int) < n then ([], 41) else (l, 0)
theorem unpackF_arg {xs : List (Int × Int)} {n : Int} (h : n < 0 ∨ 316 < n) : unpackF xs n = ([], 1) := if_pos h
theorem unpackF_none {xs : List (Int × Int)} {n : Int} (h0 : 0 ≤ n) (h1 : n ≤ 316) (h : unpackTo [] xs n = none) : unpackF xs n = ([], 41) := by
  rw [unpackF, if_neg (by omega), h]
theorem unpackF_few {xs : List (Int × Int)} {n : Int} {l : List Int} (h0 : 0 ≤ n) (h1 : n ≤ 316) (h : unpackTo [] xs n = some l) (hl : (l.length : Int) < n) : unpackF xs n = ([], 41) := by
  rw [unpackF, if_neg (by omega), h]; exact if_pos hl
theorem unpackF_ok {xs : List (Int × Int)} {n : Int} {l : List Int} (h0 : 0 ≤ n) (h1 : n ≤ 316) (h : unpackTo [] xs n = some l) (hl : ¬ (l.length : Int) < n) : unpackF xs n = (l, 0) := by
  rw [unpackF, if_neg (by omega), h]; exact if_neg hl
theorem unpackTo_cons {l : List Int} {s : Int × Int} {r : List (Int × Int)} {n : Int} {l' : List Int} (h : addF l s.1 s.2 n = some l') : unpackTo l (s :: r) n = unpackTo l' r n := by
  rw [unpackTo, h]
theorem unpackTo_stop {l : List Int} {s : Int × Int} {r : List (Int × Int)} {n : Int} (h : addF l s.1 s.2 n = none) : unpackTo l (s :: r) n = none := by
  rw [unpackTo, h]
end Go.Proofs.YtkpabdjniiepkaaGreatDoor

set_option linter.unusedVariables false
set_option linter.unusedSimpArgs false
/-! Plain: how a head is read. -/
namespace Go.Proofs.YtkpabdjniiepkaaGreatDoor
/-- How many bits a step's number has. -/
def wN (sym : Int) : Nat := if sym = 16 then 2 else if sym = 17 then 3 else if sym = 18 then 7 else 0
theorem wN_le (s : Int) : wN s ≤ 7 := by unfold wN; split; omega; split; omega; split <;> omega
theorem wN_tab (j : Nat) (h : j < 19) : nth wideL j = (wN (j : Int) : Int) := by
  rcases (by omega : j < 16 ∨ j = 16 ∨ j = 17 ∨ j = 18) with h | rfl | rfl | rfl
  · have : wN (j : Int) = 0 := by unfold wN; rw [if_neg (by omega), if_neg (by omega), if_neg (by omega)]
    rw [this]
    revert h; revert j
    decide
  · rfl
  · rfl
  · rfl
/-- What is read of a symbol stays in its bounds. -/
theorem dec_bd (l bs : List Int) (p : Nat) (hp : p ≤ 8 * bs.length) : ((decF l bs p).2.1 = 0 ∧ ∃ j : Nat, (decF l bs p).1 = j ∧ j < l.length ∧ p + (decF l bs p).2.2 ≤ 8 * bs.length) ∨
    ((decF l bs p).2.1 ≠ 0 ∧ (decF l bs p).1 = 0 ∧ (decF l bs p).2.2 = 0) := by
  have hs := dec_spec l bs p (longN l 16) 0 (by omega) (by omega) (fun m hm => by
    obtain rfl : m = 0 := by omega
    simp [xv, lowF, lenCnt_zero])
  rw [show decGo l bs p (longN l 16) 0 (xv bs p 0) = decF l bs p from rfl] at hs
  rcases hs with ⟨j, m, hj, _, _, _, _, hend, _, hr⟩ | ⟨k, _, _, _, hr⟩ | ⟨_, _, hr⟩
  · rw [hr]; exact .inl ⟨rfl, j, rfl, hj, hend⟩
  · rw [hr]; exact .inr ⟨by decide, rfl, rfl⟩
  · rw [hr]; exact .inr ⟨by decide, rfl, rfl⟩
/-- The codes of the steps: so many are read. -/
def cL (bs : List Int) (p : Nat) : Nat → List Int
  | 0 => List.replicate 19 0
  | k + 1 => (cL bs p k).set (nth orderL k).toNat (numB bs (p + 3 * k) 3)
theorem cL_len (bs : List Int) (p : Nat) : ∀ k, (cL bs p k).length = 19
  | 0 => by simp [cL]
  | k + 1 => by rw [cL, List.length_set, cL_len bs p k]
def stepsF (codes bs : List Int) (N : Int) : Nat → List Int → Nat → List Int × Nat × Int
  | 0, l, q => (l, q, 0)
  | f + 1, l, q =>
    if N ≤ l.length then (l, q, 0)
    else if (decF codes bs q).2.1 ≠ 0 then ([], q, (decF codes bs q).2.1)
    else if 8 * bs.length < q + (decF codes bs q).2.2 + wN (decF codes bs q).1 then ([], q, 10)
    else match addF l (decF codes bs q).1 (numB bs (q + (decF codes bs q).2.2) (wN (decF codes bs q).1)) N with
      | none => ([], q, 41)
      | some l' => stepsF codes bs N f l' (q + (decF codes bs q).2.2 + wN (decF codes bs q).1)
theorem stepsF_done (codes bs : List Int) (N : Int) (f : Nat) (l : List Int) (q : Nat) (h : N ≤ l.length) : stepsF codes bs N f l q = (l, q, 0) := by
  cases f with
  | zero => rfl
  | succ f => rw [stepsF, if_pos h]
theorem addF_grows {l l' : List Int} {s e n : Int} (h : addF l s e n = some l') : l.length + 1 ≤ l'.length ∧ (l'.length : Int) ≤ n ∧ l'.length ≤ l.length + 138 := by
  unfold addF at h
  cases hs : sayF l s e with
  | none => rw [hs] at h; cases h
  | some p =>
    obtain ⟨v, k⟩ := p
    rw [hs] at h
    have hk := sayF_pos hs
    simp only [] at h
    split at h
    · next hle =>
      obtain rfl := Option.some.inj h
      rw [List.length_append, List.length_replicate]; omega
    · cases h
/-- How many codes there are; how many lengths. -/
def manyF (bs : List Int) (p : Nat) : Nat := (numB bs (p + 10) 4).toNat + 4
def litF (bs : List Int) (p : Nat) : Nat := (numB bs p 5).toNat + 257
def distF (bs : List Int) (p : Nat) : Nat := (numB bs (p + 5) 5).toNat + 1
def codesH (bs : List Int) (p : Nat) : List Int := cL bs (p + 14) (manyF bs p)
def readR (bs : List Int) (p : Nat) : List Int × Nat × Int := stepsF (codesH bs p) bs ((litF bs p + distF bs p : Nat) : Int) (litF bs p + distF bs p) [] (p + 14 + 3 * manyF bs p)
/-- A head that is read: two lists, how many bits, what is wrong. -/
def headF (bs : List Int) (p : Nat) : List Int × List Int × Nat × Int :=
  if 8 * bs.length < p + 14 then ([], [], 0, 10)
  else if 29 < numB bs p 5 ∨ 29 < numB bs (p + 5) 5 then ([], [], 0, 40)
  else if 8 * bs.length < p + 14 + 3 * manyF bs p then ([], [], 0, 10)
  else if checkF (codesH bs p) ≠ 0 then ([], [], 0, checkF (codesH bs p))
  else if (readR bs p).2.2 ≠ 0 then ([], [], 0, (readR bs p).2.2)
  else ((readR bs p).1.take (litF bs p), (readR bs p).1.drop (litF bs p), (readR bs p).2.1 - p, 0)
theorem manyF_le (bs : List Int) (p : Nat) : manyF bs p ≤ 19 := by
  have := numB_lt bs (p + 10) 4
  unfold manyF
  have e : (2 : Int) ^ 4 = 16 := rfl
  omega
theorem order_lt (k : Nat) (h : k < 19) : 0 ≤ nth orderL k ∧ nth orderL k < 19 := by revert h; revert k; decide
theorem head_err {bs : List Int} {p : Nat} {e : Int} (h1 : ¬ 8 * bs.length < p + 14) (h2 : ¬ (29 < numB bs p 5 ∨ 29 < numB bs (p + 5) 5)) (h3 : ¬ 8 * bs.length < p + 14 + 3 * manyF bs p) (h4 : checkF (codesH bs p) = 0) (h5 : (readR bs p).2.2 = e) (he : e ≠ 0) : headF bs p = ([], [], 0, e) := by
  unfold headF
  rw [if_neg h1, if_neg h2, if_neg h3, if_neg (by rw [h4]; simp), if_pos (by rw [h5]; exact he), h5]
theorem head_ok {bs l : List Int} {p q : Nat} (h1 : ¬ 8 * bs.length < p + 14) (h2 : ¬ (29 < numB bs p 5 ∨ 29 < numB bs (p + 5) 5)) (h3 : ¬ 8 * bs.length < p + 14 + 3 * manyF bs p) (h4 : checkF (codesH bs p) = 0) (h5 : readR bs p = (l, q, 0)) : headF bs p = (l.take (litF bs p), l.drop (litF bs p), q - p, 0) := by
  unfold headF
  rw [if_neg h1, if_neg h2, if_neg h3, if_neg (by rw [h4]; simp), h5]
  rfl
end Go.Proofs.YtkpabdjniiepkaaGreatDoor

set_option linter.unusedVariables false
set_option linter.unusedSimpArgs false
/-! Bits that are laid into bytes: plain mathematics, then the writer's walks. -/
namespace Go.Proofs.YtkpabdjniiepkaaGreatDoor
open Go.RowKit
def vbits (r : Int) (k : Nat) : List Int := (List.range k).map fun t => r / 2 ^ t % 2
theorem vbits_len (r : Int) (k : Nat) : (vbits r k).length = k := by simp [vbits]
theorem vbits_nth (r : Int) (k t : Nat) (h : t < k) : nth (vbits r k) t = r / 2 ^ t % 2 := by simp [vbits, nth, List.getD, h]
theorem vbits_add (r : Int) (j k : Nat) : vbits r (j + k) = vbits r j ++ vbits (r / 2 ^ j) k := by
  unfold vbits
  rw [List.range_add, List.map_append, List.map_map]
  congr 1
  refine List.map_congr_left fun t _ => ?_
  simp only [Function.comp]
  rw [Int.pow_add, div_div _ _ _ (pow_cast _)]
/-- Bytes hold these bits, and no more. -/
structure WB (xs bl : List Int) : Prop where
  len : xs.length = (bl.length + 7) / 8
  byte : ∀ j, 0 ≤ nth xs j ∧ nth xs j ≤ 255
  top : bl.length % 8 ≠ 0 → nth xs (bl.length / 8) < 2 ^ (bl.length % 8)
  bit : ∀ i, i < bl.length → bitAt xs i = nth bl i
theorem WB.zero : WB [] [] := ⟨rfl, fun j => by simp [nth], fun h => absurd rfl h, fun i h => by simp at h⟩
/-- The bytes, one more if the last is full. -/
def padF (xs bl : List Int) : List Int := if bl.length % 8 = 0 then xs ++ [0] else xs
theorem pad_len {xs bl : List Int} (h : WB xs bl) : (padF xs bl).length = bl.length / 8 + 1 := by
  unfold padF
  have := h.len
  split
  · rw [List.length_append, List.length_singleton]; omega
  · omega
theorem pad_nth {xs bl : List Int} (h : WB xs bl) (j : Nat) : nth (padF xs bl) j = nth xs j := by
  unfold padF
  split
  · by_cases hj : j < xs.length
    · simp [nth, List.getD, List.getElem?_append_left hj]
    · by_cases hj2 : j = xs.length
      · subst hj2; simp [nth, List.getD]
      · simp [nth, List.getD, List.getElem?_eq_none (show xs.length ≤ j by omega), List.getElem?_eq_none (show (xs ++ [0]).length ≤ j by simp; omega)]
  · rfl
theorem pad_last {xs bl : List Int} (h : WB xs bl) : 0 ≤ nth (padF xs bl) (bl.length / 8) ∧ nth (padF xs bl) (bl.length / 8) < 2 ^ (bl.length % 8) := by
  rw [pad_nth h]
  refine ⟨(h.byte _).1, ?_⟩
  by_cases h8 : bl.length % 8 = 0
  · have : nth xs (bl.length / 8) = 0 := by
      have := h.len
      simp [nth, List.getD, List.getElem?_eq_none (show xs.length ≤ bl.length / 8 by omega)]
    rw [this]; exact pow_cast _
  · exact h.top h8
theorem nth_set_eq (xs : List Int) (i : Nat) (y : Int) (h : i < xs.length) : nth (xs.set i y) i = y := by simp [nth, List.getD, h]
theorem nth_set_ne (xs : List Int) (i j : Nat) (y : Int) (h : j ≠ i) : nth (xs.set i y) j = nth xs j := by simp [nth, List.getD, List.getElem?_set_ne (Ne.symm h)]
theorem mod_div_mod (r : Int) (k t : Nat) (h : t < k) : r % 2 ^ k / 2 ^ t % 2 = r / 2 ^ t % 2 := by
  have e : r = r % 2 ^ k + 2 ^ (k - t - 1) * 2 * (r / 2 ^ k) * 2 ^ t := by
    have h1 := Int.emod_add_mul_ediv r (2 ^ k)
    have h2 : (2 : Int) ^ k = 2 ^ (k - t - 1) * 2 * 2 ^ t := by rw [← Int.pow_succ, ← Int.pow_add]; congr 1; omega
    rw [Int.mul_assoc (2 ^ (k - t - 1) * 2), Int.mul_comm (r / 2 ^ k), ← Int.mul_assoc, ← h2]
    omega
  have h3 : r / 2 ^ t = r % 2 ^ k / 2 ^ t + 2 ^ (k - t - 1) * 2 * (r / 2 ^ k) := by
    conv => lhs; rw [e]
    exact Int.add_mul_ediv_right _ _ (Int.ne_of_gt (pow_cast t))
  rw [h3, Int.mul_comm (2 ^ (k - t - 1)) 2, Int.mul_assoc 2]
  omega
theorem pad_step {xs bl : List Int} (h : WB xs bl) (r : Int) (k : Nat) (h1 : 1 ≤ k) (hk : bl.length % 8 + k ≤ 8) :
    WB ((padF xs bl).set (bl.length / 8) (nth (padF xs bl) (bl.length / 8) + r % 2 ^ k * 2 ^ (bl.length % 8))) (bl ++ vbits r k) := by
  have hpl := pad_len h
  obtain ⟨x0, x1⟩ := pad_last h
  have hpn := pad_nth h
  have hby := h.byte
  generalize hX : padF xs bl = X at *
  obtain ⟨s, hs⟩ : ∃ s, s = bl.length % 8 := ⟨_, rfl⟩
  obtain ⟨q, hq⟩ : ∃ q, q = bl.length / 8 := ⟨_, rfl⟩
  rw [← hs] at hk x1 ⊢
  rw [← hq] at hpl x0 x1 ⊢
  have hL : bl.length = 8 * q + s := by omega
  have hr0 := Int.emod_nonneg r (show (2 : Int) ^ k ≠ 0 from Int.ne_of_gt (pow_cast k))
  have hr1 := Int.emod_lt_of_pos r (pow_cast k)
  have hps := pow_cast s
  generalize hx : nth X q = x at *
  obtain ⟨y, hy⟩ : ∃ y, y = x + r % 2 ^ k * 2 ^ s := ⟨_, rfl⟩
  rw [← hy]
  have y0 : 0 ≤ y := by rw [hy]; have := Int.mul_nonneg hr0 (Int.le_of_lt hps); omega
  have y1 : y < 2 ^ (s + k) := by
    have a : r % 2 ^ k * 2 ^ s ≤ (2 ^ k - 1) * 2 ^ s := Int.mul_le_mul_of_nonneg_right (by omega) (Int.le_of_lt hps)
    rw [Int.sub_mul, Int.one_mul, ← Int.pow_add, Nat.add_comm k s] at a
    omega
  have y2 := pow_le8 (s + k) hk
  have ydiv : y / 2 ^ s = r % 2 ^ k := by
    rw [hy, Int.add_mul_ediv_right _ _ (Int.ne_of_gt hps), Int.ediv_eq_zero_of_lt x0 x1]; omega
  refine ⟨?_, fun j => ?_, fun h8 => ?_, fun i hi => ?_⟩
  · rw [List.length_set, hpl, List.length_append, vbits_len]; omega
  · by_cases hj : j = q
    · subst hj; rw [nth_set_eq _ _ _ (by omega)]; omega
    · rw [nth_set_ne _ _ _ _ hj, hpn]; exact hby j
  · rw [List.length_append, vbits_len] at h8 ⊢
    rw [show (bl.length + k) / 8 = q by omega, nth_set_eq _ _ _ (by omega), show (bl.length + k) % 8 = s + k by omega]
    exact y1
  · rw [List.length_append, vbits_len] at hi
    by_cases hlt : i < bl.length
    · rw [show nth (bl ++ vbits r k) i = nth bl i by simp [nth, List.getD, List.getElem?_append_left hlt], ← h.bit i hlt]
      unfold bitAt
      by_cases hj : i / 8 = q
      · rw [hj, nth_set_eq _ _ _ (by omega), ← hpn, hx, hy]
        have ht : i % 8 < s := by omega
        generalize i % 8 = t at *
        have e : (2 : Int) ^ s = 2 ^ (s - t - 1) * 2 * 2 ^ t := by rw [← Int.pow_succ, ← Int.pow_add]; congr 1; omega
        rw [e, ← Int.mul_assoc, Int.add_mul_ediv_right _ _ (Int.ne_of_gt (pow_cast t)), ← Int.mul_assoc]
        omega
      · rw [nth_set_ne _ _ _ _ hj, hpn]
    · obtain ⟨t, rfl⟩ : ∃ t, i = bl.length + t := ⟨i - bl.length, by omega⟩
      have e2 : nth (bl ++ vbits r k) (bl.length + t) = nth (vbits r k) t := by simp [nth, List.getD, List.getElem?_append_right]
      rw [e2, vbits_nth _ _ _ (by omega)]
      unfold bitAt
      rw [show (bl.length + t) / 8 = q by omega, show (bl.length + t) % 8 = s + t by omega, nth_set_eq _ _ _ (by omega), Int.pow_add, ← div_div _ _ _ hps, ydiv, mod_div_mod r k t (by omega)]
theorem put_byte (x r : Int) (k s : Nat) (hx : 0 ≤ x) (hx1 : x < 2 ^ s) (hr : 0 ≤ r) (hr1 : r < 4294967296) (hk : s + k ≤ 8) :
    Go.bits .or .u8 x (IntKind.u8.wrap (IntKind.u8.wrap (Go.bits .and .u64 r (2 ^ k - 1)) * 2 ^ s)) = x + r % 2 ^ k * 2 ^ s := by
  have hps := pow_cast s
  have h0 := Int.emod_nonneg r (show (2 : Int) ^ k ≠ 0 from Int.ne_of_gt (pow_cast k))
  have h1 := Int.emod_lt_of_pos r (pow_cast k)
  have hk8 := pow_le8 k (by omega)
  have hsk := pow_le8 (s + k) hk
  have hs8 := pow_le8 s (by omega)
  have a0 : 0 ≤ r % 2 ^ k * 2 ^ s := Int.mul_nonneg h0 (Int.le_of_lt hps)
  have a1 : r % 2 ^ k * 2 ^ s < 256 := by
    have a : r % 2 ^ k * 2 ^ s ≤ (2 ^ k - 1) * 2 ^ s := Int.mul_le_mul_of_nonneg_right (by omega) (Int.le_of_lt hps)
    rw [Int.sub_mul, Int.one_mul, ← Int.pow_add, Nat.add_comm k s] at a
    omega
  rw [bits_mask .u64 64 (by decide) wraps_u64 k (by omega) r hr (by omega), wraps_u8 _ h0 (by omega), wraps_u8 _ a0 (by omega)]
  have hj := bits_join .u8 8 (by decide) wraps_u8 s (r % 2 ^ k * 2 ^ s) x a0 (by simp) (by omega) hx hx1 (by omega)
  obtain ⟨a, ha⟩ := Int.eq_ofNat_of_zero_le a0
  obtain ⟨b, rfl⟩ := Int.eq_ofNat_of_zero_le hx
  rw [ha] at hj a1 ⊢
  have ha' : a < 2 ^ 8 := by omega
  have hb' : b < 2 ^ 8 := by omega
  rw [(bits_nat .u8 8 (by decide) wraps_u8 a b ha' hb').2] at hj
  rw [(bits_nat .u8 8 (by decide) wraps_u8 b a hb' ha').2, Nat.or_comm, hj]
  omega
theorem put_byte2 (x r : Int) (k s : Nat) (hx : 0 ≤ x) (hx1 : x < 2 ^ s) (hr : 0 ≤ r) (hr1 : r < 4294967296) (hk : s + k ≤ 8) :
    Go.bits .or .u8 x (Go.bits .and .u64 r (IntKind.u64.wrap (IntKind.u64.wrap (2 ^ k) - 1)) % 256 * 2 ^ s % 256) = x + r % 2 ^ k * 2 ^ s := by
  have h := put_byte x r k s hx hx1 hr hr1 hk
  have e : ∀ n : Int, IntKind.u8.wrap n = n % 256 := fun n => by simp [IntKind.wrap, IntKind.bits, IntKind.signed]
  have hp := pow_cast k
  have hp8 := pow_le8 k (by omega)
  rw [wraps_u64 (2 ^ k) (by omega) (by omega), wraps_u64 (2 ^ k - 1) (by omega) (by omega)]
  rw [e, e] at h
  exact h

/-- A writer: its block, and a row of bytes behind it that hold these bits. -/
def Wtr (w : World) (g : Nat) (bl : List Int) : Prop :=
  ∃ (xs : List Int) (v : Value) (n : Nat), n = xs.length ∧ Blk w g 95 [v, .int .i64 bl.length] ∧ w.ownsRow (g + 1) 5 1 v n (ints .u8 xs) ∧ WB xs bl
theorem Wtr.lt {w : World} {g : Nat} {bl : List Int} (h : Wtr w g bl) : g < w.heap.size := by
  obtain ⟨_, _, _, _, h, _⟩ := h; exact h.lt
theorem Wtr.keeps {w w' : World} {g : Nat} {bl : List Int} {K : List Nat} (h : Wtr w g bl) (hk : Keeps K w w') (hK : ∀ x ∈ K, x < g ∨ w.heap.size ≤ x) : Wtr w' g bl := by
  obtain ⟨xs, v, n, h0, h1, h2, h3⟩ := h
  refine ⟨xs, v, n, h0, h1.keeps hk (fun hm => by have := h1.lt; rcases hK g hm with h | h <;> omega), own_keeps h2 hk fun x hx hm => ?_, h3⟩
  have a := own_lo h2 x hx
  have b := own_hi h2 x hx
  rcases hK x hm with h | h <;> omega
set_option maxRecDepth 100000 in
set_option maxHeartbeats 400000 in
theorem newWriter_calls (w : World) :
    Calls Tryz.prog 29 #[] w fun e w' => e = .returned (.pointer (some ⟨w.heap.size, 0, none⟩)) ∧ Wtr w' w.heap.size [] ∧ Below w.heap.size w w' := by
  go_enter Tryz.func29, Tryz.ntmps29
  go_wp2_with fail
  go_ret
  exact ⟨rfl, ⟨[], .slice none 0 0, 0, rfl, blk_new w 95 [.slice none 0 0, .int .i64 0], World.ownsRow_nil _ _ _ _, WB.zero⟩, (Below.refl _ w).alloc (Nat.le_refl _) _⟩
/-- A block of bytes. -/
def U8 (w : World) (k : Nat) : Prop := ∃ cur fr, w.heap[k]? = some (.cells cur 5 fr)
theorem own_u8 {w : World} {base size n : Nat} {v : Value} {xs : List Value} (h : w.ownsRow base 5 size v n xs) : ∀ k, v.ownBlock = some k → U8 w k := by
  intro k hk
  rcases h.2 with ⟨rfl, _⟩ | ⟨g, cap, cur, rfl, _, hh, _⟩
  · cases hk
  · obtain rfl := Option.some.inj hk
    exact ⟨_, _, hh⟩
/-- Nothing has turned but a writer's block, and blocks of bytes. -/
structure PT (g : Nat) (w w' : World) : Prop where
  size : w.heap.size ≤ w'.heap.size
  same : ∀ k, k < w.heap.size → k ≠ g → ¬ U8 w k → w'.heap[k]? = w.heap[k]?
theorem PT.refl (g : Nat) (w : World) : PT g w w := ⟨Nat.le_refl _, fun _ _ _ _ => rfl⟩
theorem PT.step {g : Nat} {w w1 w2 : World} (h : PT g w w1) (hs : w1.heap.size ≤ w2.heap.size) (h2 : ∀ k, k < w1.heap.size → k ≠ g → ¬ U8 w1 k → w2.heap[k]? = w1.heap[k]?) : PT g w w2 :=
  ⟨Nat.le_trans h.size hs, fun k hk hg hu => by
    have e := h.same k hk hg hu
    rw [h2 k (Nat.lt_of_lt_of_le hk h.size) hg (fun ⟨c, f, hc⟩ => hu ⟨c, f, by rw [← e]; exact hc⟩), e]⟩
theorem PT.trans {g : Nat} {w w1 w2 : World} (h : PT g w w1) (k : PT g w1 w2) : PT g w w2 := h.step k.size k.same
theorem PT.alloc {g : Nat} {w w1 : World} (h : PT g w w1) (o : Obj) : PT g w (w1.alloc o) := h.step (by simp) (fun k hk _ _ => Go.Deep.blk_alloc_lt _ _ _ hk)
theorem PT.drew {g : Nat} {w w1 : World} (h : PT g w w1) : PT g w w1.drew := h.step (Nat.le_refl _) (fun _ _ _ _ => rfl)
theorem PT.setG {g : Nat} {w w1 : World} (h : PT g w w1) (i : Nat) (v : Value) : PT g w (w1.setCell ⟨g, i, none⟩ v) := h.step (by simp [World.setCell]) (fun k _ hg _ => Go.Deep.blk_setCell_other _ _ _ _ hg)
theorem PT.setU {g : Nat} {w w1 : World} (h : PT g w w1) {b : Nat} (hb : U8 w1 b) (i : Nat) (v : Value) : PT g w (w1.setCell ⟨b, i, none⟩ v) := h.step (by simp [World.setCell]) (fun k _ _ hu => Go.Deep.blk_setCell_other _ _ _ _ (fun e => hu (by rw [e]; exact hb)))
theorem PT.grown {g : Nat} {w w1 w2 : World} {row : Option Nat} (h : PT g w w1) (hg : w1.grownBy w2 row) (hr : ∀ k, row = some k → U8 w1 k) : PT g w w2 := h.step hg.size (fun k hk _ hu => hg.block k hk (fun e => hu (hr k e.symm)))
theorem own_formW {w : World} {base : Nat} {e : TypeId} {size n : Nat} {v : Value} {xs : List Value} (h : w.ownsRow base e size v n xs) : ∃ A c, v = .slice A n c := by
  rcases h.2 with ⟨rfl, rfl⟩ | ⟨g, cap, cur, rfl, _⟩
  · exact ⟨_, _, rfl⟩
  · exact ⟨_, _, rfl⟩
set_option maxRecDepth 100000 in
set_option maxHeartbeats 4000000 in
theorem put_calls (w : World) (g : Nat) (bl : List Int) (x : Int) (m : Nat) (hw : Wtr w g bl) (hx : 0 ≤ x) (hx1 : x < 4294967296) (hm : m ≤ 32) (hxm : x / 2 ^ m = 0) (hb : bl.length ≤ 100000000) :
    Calls Tryz.prog 30 #[.pointer (some ⟨g, 0, none⟩), .int .u32 x, .int .i64 m] w fun e w' => e = .returned (.int .i64 0) ∧ Wtr w' g (bl ++ vbits x m) ∧ Below g w w' ∧ PT g w w' := by
  have HW := Lib.hid hw
  have HXM := Lib.hid hxm
  clear hw hxm
  go_enter Tryz.func30, Tryz.ntmps30
  have e1 : decide ((m : Int) < 0) = false := by simp
  have e2 : decide (32 < m) = false := by simp; omega
  have e3 : decide ((32 : Int) < (m : Int)) = false := by simp; omega
  have e4 : (x / 2 ^ m != 0) = false := by simpa using HXM.out
  go_wp2_with fail
  go_step3
  go_wp2_with fail
  go_step3
  go_wp2_with fail
  clear e1 e2 e3 e4
  have HW0 : Hid (Wtr w g (bl ++ vbits x 0)) := Lib.hid (by simpa [vbits] using HW.out)
  clear HW
  go_loopw [2, 7] (fun nv rv wr => ∃ j : Nat, j ≤ m ∧ nv = .int .i64 ((m : Int) - j) ∧ rv = .int .u64 (x / 2 ^ j) ∧ Hid (Wtr wr g (bl ++ vbits x j)) ∧ Hid (Below g w wr) ∧ Hid (PT g w wr)) (fun nv _ _ => (intOf nv).toNat)
  case atStart => exact ⟨0, by omega, by simp, by simp, HW0, Lib.hid (Below.refl _ _), Lib.hid (PT.refl _ _)⟩
  case round =>
    clear HW0
    obtain ⟨j, hj, rfl, rfl, HW, HB, HP⟩ := hrel
    by_cases hjm : j < m
    · have e1 : ((m : Int) - j == 0) = false := by simp; omega
      obtain ⟨xs, v, n2, hn2, hblk, hown, hwb⟩ := HW.out
      have hlen : (bl ++ vbits x j).length = bl.length + j := by rw [List.length_append, vbits_len]
      obtain ⟨L, hL⟩ : ∃ L, L = bl.length + j := ⟨_, rfl⟩
      have hLb : L ≤ 100000032 := by omega
      rw [hlen, ← hL] at hblk
      have HL := Lib.hid hL
      have HLEN : Hid ((bl ++ vbits x j).length = L) := Lib.hid (by rw [hlen, hL])
      have hr0 : 0 ≤ x / 2 ^ j := Int.ediv_nonneg hx (Int.le_of_lt (pow_cast j))
      have hr1 : x / 2 ^ j < 4294967296 := Int.lt_of_le_of_lt (Int.ediv_le_self _ hx) hx1
      obtain ⟨k, hk⟩ : ∃ k : Nat, (if 8 - (L : Int) % 8 < (m : Int) - j then 8 - (L : Int) % 8 else (m : Int) - j) = (k : Int) := ⟨min (m - j) (8 - L % 8), by split <;> omega⟩
      have hk1 : 1 ≤ k := by split at hk <;> omega
      have hk8 : L % 8 + k ≤ 8 := by split at hk <;> omega
      have hkm : j + k ≤ m := by split at hk <;> omega
      have s5 : (0 : Int) ≤ (L : Int) % 8 := by omega
      have s6 : (L : Int) % 8 < 8 := by omega
      have s7 : (0 : Int) ≤ (L : Int) := by omega
      have hnext : Hid (x / 2 ^ j / 2 ^ k = x / 2 ^ (j + k)) := Lib.hid (by rw [div_div _ _ _ (pow_cast j), ← Int.pow_add])
      have hstep : Hid (WB ((padF xs (bl ++ vbits x j)).set (L / 8) (nth (padF xs (bl ++ vbits x j)) (L / 8) + x / 2 ^ j % 2 ^ k * 2 ^ (L % 8))) (bl ++ vbits x (j + k))) := Lib.hid (by
        have := pad_step hwb (x / 2 ^ j) k hk1 (by rw [HLEN.out]; exact hk8)
        rw [HLEN.out, List.append_assoc, ← vbits_add] at this
        exact this)
      have hplen : Hid ((padF xs (bl ++ vbits x j)).length = L / 8 + 1) := Lib.hid (by rw [pad_len hwb, HLEN.out])
      have hplast : Hid (0 ≤ nth (padF xs (bl ++ vbits x j)) (L / 8) ∧ nth (padF xs (bl ++ vbits x j)) (L / 8) < 2 ^ (L % 8)) := Lib.hid (by have := pad_last hwb; rwa [HLEN.out] at this)
      have hpad : Hid (padF xs (bl ++ vbits x j) = if L % 8 = 0 then xs ++ [0] else xs) := Lib.hid (by unfold padF; rw [HLEN.out])
      clear hlen hwb hL HLEN
      generalize padF xs (bl ++ vbits x j) = X at *
      have h0 := hblk.cell 0
      have h1 := hblk.cell 1
      simp only [List.getElem?_cons_zero, List.getElem?_cons_succ] at h0 h1
      have hf0 := hblk.frozen 0
      have hf1 := hblk.frozen 1
      by_cases h8 : L % 8 = 0
      · have e2 : ((L : Int) % 8 == 0) = true := by simp; omega
        have hX : X = xs ++ [0] := by have := hpad.out; rwa [if_pos h8] at this
        have hxl : xs.length = L / 8 := by have := hplen.out; rw [hX, List.length_append, List.length_singleton] at this; omega
        have hlt := hblk.lt
        have HOA : Hid ((wr.alloc (.cells #[.int .u8 0] 5)).ownsRow (g + 1) 5 1 v n2 (ints .u8 xs)) := Lib.hid (own_keeps hown ((Keeps.refl [] wr).alloc _) (by simp))
        have HRI : Hid (RI .u8 (wr.alloc (.cells #[.int .u8 0] 5)) (some ⟨wr.heap.size, 0, none⟩) 1 [0]) := Lib.hid (Blk.ri (xs := [0]) (ys := []) (k := .u8) (by simpa [ints] using blk_new wr 5 (ints .u8 [0])))
        have HBA := Lib.hid (HB.out.alloc (Nat.le_of_lt hlt) (.cells #[.int .u8 0] 5))
        have HPA := Lib.hid (HP.out.alloc (.cells #[.int .u8 0] 5))
        have HBK := Lib.hid (hblk.keeps ((Keeps.refl [] wr).alloc (.cells #[.int .u8 0] 5)) (by simp))
        have hn2b : n2 ≤ 100000032 := by omega
        have HN2 : Hid (n2 = L / 8) := Lib.hid (by rw [hn2, hxl])
        obtain ⟨vA, vc, rfl⟩ : ∃ A c, v = .slice A n2 c := own_formW hown
        clear hown hblk hn2 HW hpad
        go_wp2_with (at_builtin; refine app_bytes rfl (.tmp 40) (.tmp 41) rfl (g + 1) _ _ xs rfl (by exact HOA.out) _ 1 1 [0] rfl (by exact HRI.out) (by simp) (by omega) ?c4 ?_)
        case c4 => simp; omega
        intro v1 w1 ho1 hg1
        have hg0 : ∀ k, (Value.slice vA n2 vc).ownBlock = some k → g + 1 ≤ k := fun k hk => (HOA.out.lt k hk).1
        have hblk1 : Blk w1 g 95 [.slice vA n2 vc, .int .i64 L] := (hg1.block g (Nat.lt_trans hlt (by simp)) (fun e => by have := hg0 g e.symm; omega)).trans HBK.out
        have HB1 := Lib.hid (HBA.out.grown hg1 (by simp; omega) (fun k hk => by have := hg0 k hk; omega))
        have HP1 := Lib.hid (HPA.out.grown hg1 (own_u8 HOA.out))
        clear HPA HP
        rw [← hX, HN2.out] at ho1
        have ho1' : w1.ownsRow (g + 1) 5 1 v1 (L / 8 + 1) (ints .u8 X) := ho1
        obtain ⟨rb, cap, rfl, hrb1, hrb2⟩ := ho1'.form (by omega)
        have c0 := hblk1.cell 0
        have c1 := hblk1.cell 1
        simp only [List.getElem?_cons_zero, List.getElem?_cons_succ] at c0 c1
        have cf0 := hblk1.frozen 0
        have hS1 := ownsRow_setCell_below ho1' (a := ⟨g, 0, none⟩) (Nat.lt_succ_self g) (.slice (some ⟨rb, 0, none⟩) (L / 8 + 1) cap)
        have hS2 := hblk1.set 0 (.slice (some ⟨rb, 0, none⟩) (L / 8 + 1) cap)
        have hS3 := HB1.out.setCell (p := ⟨g, 0, none⟩) (Nat.le_refl g) (.slice (some ⟨rb, 0, none⟩) (L / 8 + 1) cap)
        have hP4 := HP1.out.setG 0 (.slice (some ⟨rb, 0, none⟩) (L / 8 + 1) cap)
        have hS4 : rb < (w1.setCell ⟨g, 0, none⟩ (.slice (some ⟨rb, 0, none⟩) (L / 8 + 1) cap)).heap.size := by simpa [World.setCell] using hrb2
        simp only [List.set_cons_zero] at hS2
        have HS := Lib.hid (And.intro hS1 (And.intro hS2 (And.intro hS3 hP4)))
        clear hS1 hS2 hS3 hP4 HP1 h0 h1 hf0 hf1 HOA HRI HBA HBK hblk1 ho1 ho1' HB1 hg1 HB hrb2
        go_upto_region 9 with (fail)
        obtain ⟨hown, hblk, hHB, hHP⟩ := HS.out
        clear HS c0 c1 cf0 hg0 HN2 hX hxl h8 e2
        generalize w1.setCell ⟨g, 0, none⟩ (.slice (some ⟨rb, 0, none⟩) (L / 8 + 1) cap) = ws at *
        have HB := Lib.hid hHB
        have HP := Lib.hid hHP
        have hrb2 := hS4
        have h0 := hblk.cell 0
        have h1 := hblk.cell 1
        simp only [List.getElem?_cons_zero, List.getElem?_cons_succ] at h0 h1
        have hf0 := hblk.frozen 0
        have hf1 := hblk.frozen 1
        clear hHB hHP hS4
        have hcl := hown.cellAt (L / 8) (by omega)
        have hfr := hown.frozenAt (L / 8)
        rw [show (ints .u8 X)[L / 8]? = some (.int .u8 (nth X (L / 8))) by rw [ints_getElem?]; simp [nth, List.getD, show L / 8 < X.length by rw [hplen.out]; omega]] at hcl
        have HST := Lib.hid (hown.stored (L / 8) (.int .u8 (nth X (L / 8) + x / 2 ^ j % 2 ^ k * 2 ^ (L % 8))))
        have T := Lib.hid (put_byte2 (nth X (L / 8)) (x / 2 ^ j) k (L % 8) hplast.out.1 hplast.out.2 hr0 hr1 hk8)
        have HBLK := Lib.hid hblk
        have HU := Lib.hid (own_u8 hown rb rfl)
        clear hown hblk
        have t1 : ((L : Int) % 8).toNat = L % 8 := by omega
        have t2 : (((L / 8 + 1 : Nat) : Int) - 1).toNat = L / 8 := by omega
        have t3 : (0 : Int) ≤ ((L / 8 + 1 : Nat) : Int) - 1 := by omega
        have t4 : ((L / 8 + 1 : Nat) : Int) - 1 < ((L / 8 + 1 : Nat) : Int) := by omega
        have hnb : rb ≠ g := by omega
        generalize nth X (L / 8) = b at *
        generalize x / 2 ^ j = r at *
        have hqb : L / 8 ≤ 100000032 := by omega
        generalize L / 8 = q at *
        have t5 : IntKind.i64.wrap (q : Int) = (q : Int) := IntWalk.i64_in _ (by omega)
        have t6 : (q : Int) < (q : Int) + 1 := by omega
        have t7 : (0 : Int) ≤ (q : Int) := by omega
        have t8 : (q : Int) < ((q + 1 : Nat) : Int) := by omega
        clear t2 t3 t4
        go_upto_region 10 with (fail)
        clear hk
        go_region
        rw [T.out]
        have hk2 : Keeps [rb] ws (ws.setCell ⟨rb, q, none⟩ (.int .u8 (b + r % 2 ^ k * 2 ^ (L % 8)))) := (Keeps.refl [rb] ws).setCell (p := ⟨rb, q, none⟩) (Or.inl (by simp)) _
        have hblk2 := HBLK.out.keeps hk2 (by simpa using Ne.symm hnb)
        have HB2 := Lib.hid (HB.out.setCell (p := ⟨rb, q, none⟩) (show g ≤ rb by omega) (.int .u8 (b + r % 2 ^ k * 2 ^ (L % 8))))
        have HP2 := Lib.hid (HP.out.setU HU.out q (.int .u8 (b + r % 2 ^ k * 2 ^ (L % 8))))
        obtain ⟨ho2, -⟩ := HST.out
        rw [show (ints .u8 X).set q (.int .u8 (b + r % 2 ^ k * 2 ^ (L % 8))) = ints .u8 (X.set q (b + r % 2 ^ k * 2 ^ (L % 8))) by simp [ints, List.map_set]] at ho2
        generalize ws.setCell ⟨rb, q, none⟩ (.int .u8 (b + r % 2 ^ k * 2 ^ (L % 8))) = w2 at *
        have h1' := hblk2.cell 1
        simp only [List.getElem?_cons_zero, List.getElem?_cons_succ] at h1'
        have hf1' := hblk2.frozen 1
        have HBLK2 := Lib.hid hblk2
        have HOWN2 := Lib.hid ho2
        have v1 : IntKind.i64.wrap ((L : Int) + k) = (L : Int) + k := IntWalk.i64_in _ (by omega)
        have v2 : IntKind.i64.wrap ((m : Int) - j - k) = (m : Int) - j - k := IntWalk.i64_in _ (by omega)
        clear hk2 hblk2 ho2 h0 h1 hf0 hf1 hfr hcl HBLK HST T HB HP HU
        go_wp2_with fail
        go_roundw
        case rel =>
          refine ⟨j + k, hkm, by go_num, by rw [← hnext.out], Lib.hid ?_, Lib.hid ?_, Lib.hid (HP2.out.drew.setG 1 _)⟩
          · refine ⟨_, _, _, ?_, ?_, ownsRow_setCell_below HOWN2.out.drew (a := ⟨g, 1, none⟩) (Nat.lt_succ_self g) _, hstep.out⟩
            · rw [List.length_set, hplen.out]
            · have := (HBLK2.out.keeps (Keeps.refl [] w2).drew (by simp)).set 1 (.int .i64 ((L : Int) + k))
              rw [show (bl ++ vbits x (j + k)).length = L + k by rw [List.length_append, vbits_len, HL.out]; omega]
              exact this
          · exact (HB2.out.trans ((Keeps.refl [] w2).drew.below.mono (Nat.le_of_lt HBLK2.out.lt))).setCell (p := ⟨g, 1, none⟩) (Nat.le_refl g) _
        case measure => simp [intOf]; omega
      · have e2 : ((L : Int) % 8 == 0) = false := by simp; omega
        have hX : X = xs := by have := hpad.out; rwa [if_neg h8] at this
        subst hX
        have hn3 : n2 = L / 8 + 1 := by rw [hn2, hplen.out]
        subst hn3
        obtain ⟨rb, cap, rfl, hrb1, hrb2⟩ := hown.form (by omega)
        obtain ⟨ws, hws⟩ : ∃ ws : World, ws = wr := ⟨_, rfl⟩
        rw [← hws] at hown hblk HB HP h0 h1 hf0 hf1 hrb2 ⊢
        clear hws HW
        have hcl := hown.cellAt (L / 8) (by omega)
        have hfr := hown.frozenAt (L / 8)
        rw [show (ints .u8 X)[L / 8]? = some (.int .u8 (nth X (L / 8))) by rw [ints_getElem?]; simp [nth, List.getD, show L / 8 < X.length by rw [hplen.out]; omega]] at hcl
        have HST := Lib.hid (hown.stored (L / 8) (.int .u8 (nth X (L / 8) + x / 2 ^ j % 2 ^ k * 2 ^ (L % 8))))
        have T := Lib.hid (put_byte2 (nth X (L / 8)) (x / 2 ^ j) k (L % 8) hplast.out.1 hplast.out.2 hr0 hr1 hk8)
        have HBLK := Lib.hid hblk
        have HU := Lib.hid (own_u8 hown rb rfl)
        clear hown hblk hn2 hpad
        have t1 : ((L : Int) % 8).toNat = L % 8 := by omega
        have t2 : (((L / 8 + 1 : Nat) : Int) - 1).toNat = L / 8 := by omega
        have t3 : (0 : Int) ≤ ((L / 8 + 1 : Nat) : Int) - 1 := by omega
        have t4 : ((L / 8 + 1 : Nat) : Int) - 1 < ((L / 8 + 1 : Nat) : Int) := by omega
        have hnb : rb ≠ g := by omega
        generalize nth X (L / 8) = b at *
        generalize x / 2 ^ j = r at *
        have hqb : L / 8 ≤ 100000032 := by omega
        generalize L / 8 = q at *
        have t5 : IntKind.i64.wrap (q : Int) = (q : Int) := IntWalk.i64_in _ (by omega)
        have t6 : (q : Int) < (q : Int) + 1 := by omega
        have t7 : (0 : Int) ≤ (q : Int) := by omega
        have t8 : (q : Int) < ((q + 1 : Nat) : Int) := by omega
        clear t2 t3 t4
        go_upto_region 10 with (fail)
        clear hk
        go_region
        rw [T.out]
        have hk2 : Keeps [rb] ws (ws.setCell ⟨rb, q, none⟩ (.int .u8 (b + r % 2 ^ k * 2 ^ (L % 8)))) := (Keeps.refl [rb] ws).setCell (p := ⟨rb, q, none⟩) (Or.inl (by simp)) _
        have hblk2 := HBLK.out.keeps hk2 (by simpa using Ne.symm hnb)
        have HB2 := Lib.hid (HB.out.setCell (p := ⟨rb, q, none⟩) (show g ≤ rb by omega) (.int .u8 (b + r % 2 ^ k * 2 ^ (L % 8))))
        have HP2 := Lib.hid (HP.out.setU HU.out q (.int .u8 (b + r % 2 ^ k * 2 ^ (L % 8))))
        obtain ⟨ho2, -⟩ := HST.out
        rw [show (ints .u8 X).set q (.int .u8 (b + r % 2 ^ k * 2 ^ (L % 8))) = ints .u8 (X.set q (b + r % 2 ^ k * 2 ^ (L % 8))) by simp [ints, List.map_set]] at ho2
        generalize ws.setCell ⟨rb, q, none⟩ (.int .u8 (b + r % 2 ^ k * 2 ^ (L % 8))) = w2 at *
        have h1' := hblk2.cell 1
        simp only [List.getElem?_cons_zero, List.getElem?_cons_succ] at h1'
        have hf1' := hblk2.frozen 1
        have HBLK2 := Lib.hid hblk2
        have HOWN2 := Lib.hid ho2
        have v1 : IntKind.i64.wrap ((L : Int) + k) = (L : Int) + k := IntWalk.i64_in _ (by omega)
        have v2 : IntKind.i64.wrap ((m : Int) - j - k) = (m : Int) - j - k := IntWalk.i64_in _ (by omega)
        clear hk2 hblk2 ho2 h0 h1 hf0 hf1 hfr hcl HBLK HST T HB HP HU
        go_wp2_with fail
        go_roundw
        case rel =>
          refine ⟨j + k, hkm, by go_num, by rw [← hnext.out], Lib.hid ?_, Lib.hid ?_, Lib.hid (HP2.out.drew.setG 1 _)⟩
          · refine ⟨_, _, _, ?_, ?_, ownsRow_setCell_below HOWN2.out.drew (a := ⟨g, 1, none⟩) (Nat.lt_succ_self g) _, hstep.out⟩
            · rw [List.length_set, hplen.out]
            · have := (HBLK2.out.keeps (Keeps.refl [] w2).drew (by simp)).set 1 (.int .i64 ((L : Int) + k))
              rw [show (bl ++ vbits x (j + k)).length = L + k by rw [List.length_append, vbits_len, HL.out]; omega]
              exact this
          · exact (HB2.out.trans ((Keeps.refl [] w2).drew.below.mono (Nat.le_of_lt HBLK2.out.lt))).setCell (p := ⟨g, 1, none⟩) (Nat.le_refl g) _
        case measure => simp [intOf]; omega
    · obtain rfl : j = m := by omega
      have e1 : ((j : Int) - j == 0) = true := by simp
      go_wp2_with fail
      dsimp only [Exit.noGoto]
      go_ret
      exact ⟨rfl, HW.out, HB.out, HP.out⟩

theorem size_u8b : (Tryz.prog.info? 5).map (·.size) = some 1 := by kernel_rfl
set_option maxRecDepth 100000 in
set_option maxHeartbeats 400000 in
theorem bytes_calls (w : World) (g : Nat) (bl : List Int) (hw : Wtr w g bl) (hb : bl.length ≤ 100000000) :
    Calls Tryz.prog 32 #[.pointer (some ⟨g, 0, none⟩)] w fun e w' => ∃ (n : Nat) (xs : List Int), e = .returned (.slice (some ⟨w.heap.size, 0, none⟩) n n) ∧ RI .u8 w' (some ⟨w.heap.size, 0, none⟩) n xs ∧ WB xs bl ∧ Below w.heap.size w w' := by
  obtain ⟨xs, v, n, hn, hblk, hown, hwb⟩ := hw
  obtain ⟨A, c, rfl⟩ := own_formW hown
  obtain ⟨A', c', hv, hri, -, -⟩ := own_ri hown
  injection hv with h1 h2 h3
  subst h1
  subst h3
  have hnb : n ≤ 12500001 := by have := hwb.len; omega
  have h0 := hblk.cell 0
  simp only [List.getElem?_cons_zero] at h0
  have hlt := hblk.lt
  have LX : Hid (xs.length = n) := Lib.hid hn.symm
  have HX := Lib.hid hri
  have HWB := Lib.hid hwb
  clear hown hri hwb hn hblk
  have hmk := fun w => make_ints (P := Tryz.prog) w 22 5 .u8 1 Tryz.underlying22 info_u8 (n : Int) n rfl (by omega) (by omega)
  go_enter Tryz.func32, Tryz.ntmps32
  go_wp2_with (with_reducible refine wpList_copy_splice rfl (.tmp 12) (.tmp 16) _ _ rfl 5 Tryz.underlying22 size_u8b _ _ _ _ _ _ rfl rfl w.heap.size 0 (ints .u8 (List.replicate n 0)) 5 ?h1 (ints .u8 xs) ?h2 ?h3 ?h4 ?h5 w.heap.size w ?h6 (Nat.le_refl _) ?_)
  case h1 => first | exact blk_new w _ _ | exact (Array.getElem?_eq_some_iff.1 (blk_new w 5 (ints .u8 (List.replicate n 0)))).2
  case h2 => have := LX.out; simp [ints]; omega
  case h3 =>
    intro hp
    obtain ⟨a, o, ha⟩ := HX.out.hd (by have := LX.out; simpa [ints, this] using hp)
    refine ⟨_, ha, fun j v hv => ?_⟩
    have hj : j < n := by have := LX.out; have := (List.getElem?_eq_some_iff.1 hv).1; simp [ints] at this; omega
    have hc := HX.out.cell a o ha j hj
    have e : (ints .u8 xs)[j]? = some (.int .u8 (nth xs j)) := by rw [ints_getElem?]; simp [nth, List.getD, show j < xs.length from by have := LX.out; omega]
    rw [e] at hv
    rw [← Option.some.inj hv, add_plain2]
    exact (Keeps.refl [] w).alloc _ |>.cell (by simp) hc
  case h4 => have := LX.out; simp [ints]; omega
  case h5 => intro v hv; simp only [ints, List.mem_map] at hv; obtain ⟨x, _, rfl⟩ := hv; rfl
  case h6 => exact (Below.refl _ _).alloc (Nat.le_refl _) _
  intro w1 hg1 hb1
  have hB : Blk w1 w.heap.size 5 (splice (ints .u8 (List.replicate n 0)) 0 (ints .u8 xs)) := hg1.out
  have hsp : splice (ints .u8 (List.replicate n 0)) 0 (ints .u8 xs) = ints .u8 (xs ++ []) := by
    have := LX.out
    simp [splice, ints, this]
  rw [hsp] at hB
  have HR2 := Lib.hid hB.ri
  have HB1 := Lib.hid hb1
  clear hg1 hsp hB hmk hb1
  go_wp2
  go_ret
  exact ⟨n, xs, rfl, by have := HR2.out; rwa [LX.out] at this, HWB.out, HB1.out⟩
end Go.Proofs.YtkpabdjniiepkaaGreatDoor

/- Levels of packages: bounds, pieces. -/
set_option linter.unusedVariables false
set_option linter.unusedSimpArgs false
namespace Go.Proofs.YtkpabdjniiepkaaGreatDoor
def pth2 (X : List PP) (j : Nat) : PP := X.getD j (0, [])
theorem pairsF_take (X : List PP) : ∀ j, 2 * j + 1 < X.length → (pairsF X).take (j + 1) = (pairsF X).take j ++ [((pth2 X (2 * j)).1 + (pth2 X (2 * j + 1)).1, (pth2 X (2 * j)).2 ++ (pth2 X (2 * j + 1)).2)] := by
  induction X using pairsF.induct with
  | case1 a b r ih =>
    intro j hj
    rw [pairsF]
    match j with
    | 0 => rfl
    | j + 1 =>
      have := ih j (by simp only [List.length_cons] at hj; omega)
      rw [List.take_succ_cons, this, List.take_succ_cons]
      rfl
  | case2 l hl =>
    intro j hj
    match l, hl with
    | [], _ => simp at hj
    | [x], _ => simp at hj
    | a :: b :: r, h => exact absurd rfl (h a b r)
theorem pairsF_done (X : List PP) (j : Nat) (h : X.length ≤ 2 * j + 1) : (pairsF X).take j = pairsF X := List.take_of_length_le (by rw [pairsF_len]; omega)
theorem sortP_pos {l : List PP} (h : posP l) : posP (sortP l) := posP_perm (sortP_perm l) h
theorem level_ok {lv : List PP} (h : posP lv) (hs : sumW lv ≤ 288000000000000) (hl : sumS lv ≤ 288) {t : Nat} (ht : t ≤ 15) :
    (∀ x ∈ levelF (sortP lv) t, 0 < x.1 ∧ x.1 ≤ 100000000000000000 ∧ x.2.length ≤ 4320) := by
  obtain ⟨h1, h2, h3, h4⟩ := level_bd (sortP lv) (sortP_pos h) t
  rw [sumW_perm (sortP_perm lv)] at h2
  rw [sumS_perm (sortP_perm lv)] at h3
  intro x hx
  have a1 := le_sumW h1 hx
  have a2 := le_sumS hx
  have w0 := sumW_nonneg lv h
  have b1 : (t : Int) * sumW lv ≤ 15 * 288000000000000 := by
    have : (t : Int) * sumW lv ≤ 15 * sumW lv := Int.mul_le_mul_of_nonneg_right (by omega) w0
    omega
  have b2 : t * sumS lv ≤ 15 * 288 := Nat.mul_le_mul ht hl
  exact ⟨(h1 x hx).1, by omega, by omega⟩
theorem level_next_ok {lv : List PP} (h : posP lv) (hs : sumW lv ≤ 288000000000000) (hl : sumS lv ≤ 288) {t : Nat} (ht : t < 15) :
    ∀ x ∈ sortP lv ++ pairsF (levelF (sortP lv) t), 0 ≤ x.1 ∧ x.1 ≤ 100000000000000000 := by
  intro x hx
  have := level_ok h hs hl (t := t + 1) (by omega) x ((sortP_perm _).mem_iff.2 hx)
  omega
theorem leaf_ok {lv : List PP} (h : posP lv) (hs : sumW lv ≤ 288000000000000) : ∀ x ∈ lv, 0 ≤ x.1 ∧ x.1 ≤ 100000000000000000 := by
  intro x hx
  have := le_sumW h hx
  have := (h x hx).1
  omega
theorem flat_len {X : List PP} (h : ∀ x ∈ X, x.2.length ≤ 4320) : (X.flatMap Prod.snd).length ≤ X.length * 4320 := by
  induction X with
  | nil => simp
  | cons a r ih =>
    have := ih (fun x hx => h x (by simp [hx]))
    have := h a (by simp)
    rw [List.flatMap_cons, List.length_append, List.length_cons]
    omega
theorem cnt_bd (n : Nat) (S : List Int) (s : Nat) (h : s < n) : 0 ≤ nth (cntF n S) s ∧ nth (cntF n S) s ≤ S.length := by
  rw [cntF_nth n S s h]
  have := List.count_le_length (a := (s : Int)) (l := S)
  omega
/-- There are packages enough. -/
theorem level_len (lv : List PP) (m : Nat) (h2 : 2 ≤ lv.length) (hm : lv.length ≤ 2 ^ m) : 2 * lv.length - 2 ≤ (levelF (sortP lv) m).length := by
  have key : ∀ t, 1 ≤ t → 2 * lv.length ≤ (levelF (sortP lv) t).length + 1 + (lv.length - 1) / 2 ^ (t - 1) := by
    intro t
    induction t with
    | zero => intro h; omega
    | succ t ih =>
      intro _
      rw [levelF, sortP_len, List.length_append, sortP_len, pairsF_len]
      by_cases ht : t = 0
      · subst ht; simp [levelF]; omega
      · have := ih (by omega)
        have e : (lv.length - 1) / 2 ^ (t + 1 - 1) = (lv.length - 1) / 2 ^ (t - 1) / 2 := by
          rw [Nat.div_div_eq_div_mul, ← Nat.pow_succ]
          congr 2; omega
        rw [e]
        omega
  have hm0 : 1 ≤ m := by
    by_cases h : m = 0
    · subst h; simp at hm; omega
    · omega
  have := key m hm0
  have hd : (lv.length - 1) / 2 ^ (m - 1) ≤ 1 := by
    have h3 : 2 ^ m = 2 * 2 ^ (m - 1) := by rw [← Nat.pow_succ']; congr 1; omega
    have : (lv.length - 1) / 2 ^ (m - 1) < 2 := by
      rw [Nat.div_lt_iff_lt_mul (Nat.two_pow_pos _)]; omega
    omega
  omega
end Go.Proofs.YtkpabdjniiepkaaGreatDoor

set_option linter.unusedVariables false
set_option linter.unusedSimpArgs false
/-! Plain mathematics: limited lengths are a complete code, and who comes more often has no longer code. -/
namespace Go.Proofs.YtkpabdjniiepkaaGreatDoor
section
variable {α : Type} (f : α → Int)
def leB (x y : α) : Bool := decide (f x ≤ f y)
theorem mg_sme : ∀ (N : Nat) (xs ys : List α), xs.length + ys.length ≤ N → Srt f xs → Srt f ys → Srt f (List.merge xs ys (leB f)) ∧ Sme f (List.merge xs ys (leB f)) (xs ++ ys)
  | N, [], ys, _, _, hy => by
    rw [List.nil_merge]; exact ⟨hy, List.Perm.refl _, fun _ => rfl⟩
  | N, x :: xs, [], _, hx, _ => by
    rw [List.merge_right, List.append_nil]; exact ⟨hx, List.Perm.refl _, fun _ => rfl⟩
  | 0, x :: xs, y :: ys, h, _, _ => by simp at h
  | N + 1, x :: xs, y :: ys, h, hx, hy => by
    have hx' := List.pairwise_cons.1 hx
    have hy' := List.pairwise_cons.1 hy
    rw [List.cons_merge_cons]
    by_cases hle : f x ≤ f y
    · rw [if_pos (by simpa [leB] using hle)]
      obtain ⟨h1, h2, h3⟩ := mg_sme N xs (y :: ys) (by simp at h ⊢; omega) hx'.2 hy
      refine ⟨List.pairwise_cons.2 ⟨fun z hz => ?_, h1⟩, (List.perm_cons x).2 h2, fun v => ?_⟩
      · rcases List.mem_append.1 (h2.mem_iff.1 hz) with hz | hz
        · exact hx'.1 z hz
        · rcases List.mem_cons.1 hz with rfl | hz
          · exact hle
          · have := hy'.1 z hz; omega
      · rw [List.cons_append]
        by_cases e : f x = v
        · rw [List.filter_cons_of_pos (by simpa using e), List.filter_cons_of_pos (by simpa using e), h3]
        · rw [List.filter_cons_of_neg (by simpa using e), List.filter_cons_of_neg (by simpa using e), h3]
    · rw [if_neg (by simpa [leB] using hle)]
      obtain ⟨h1, h2, h3⟩ := mg_sme N (x :: xs) ys (by simp at h ⊢; omega) hx hy'.2
      refine ⟨List.pairwise_cons.2 ⟨fun z hz => ?_, h1⟩, ((List.perm_cons y).2 h2).trans List.perm_middle.symm, fun v => ?_⟩
      · rcases List.mem_append.1 (h2.mem_iff.1 hz) with hz | hz
        · rcases List.mem_cons.1 hz with rfl | hz
          · omega
          · have := hx'.1 z hz; omega
        · exact hy'.1 z hz
      · by_cases e : f y = v
        · rw [List.filter_cons_of_pos (by simpa using e), h3, List.filter_append, List.filter_append, List.filter_cons_of_pos (p := fun p => decide (f p = v)) (a := y) (by simpa using e)]
          have : List.filter (fun p => decide (f p = v)) (x :: xs) = [] := by
            rw [List.filter_eq_nil_iff]
            intro z hz
            have : f x ≤ f z := by
              rcases List.mem_cons.1 hz with rfl | hz
              · exact Int.le_refl _
              · exact hx'.1 z hz
            simp; omega
          rw [this]; rfl
        · rw [List.filter_cons_of_neg (by simpa using e), h3, List.filter_append, List.filter_append, List.filter_cons_of_neg (p := fun p => decide (f p = v)) (a := y) (by simpa using e)]
theorem sort_mg (xs ys : List α) (hx : Srt f xs) (hy : Srt f ys) : sortW f (xs ++ ys) [] = List.merge xs ys (leB f) := by
  obtain ⟨h1, h2⟩ := mg_sme f _ xs ys (Nat.le_refl _) hx hy
  exact (sortW_eq f h1 h2).symm
/-- The first of what is merged: the first of the one and the first of the other. -/
theorem mg_take : ∀ (N : Nat) (xs ys : List α), xs.length + ys.length ≤ N → Srt f xs → Srt f ys → ∀ a, a ≤ xs.length + ys.length → ∃ i j, i ≤ xs.length ∧ j ≤ ys.length ∧ i + j = a ∧
    ((List.merge xs ys (leB f)).take a).Perm (xs.take i ++ ys.take j) ∧ (∀ x ∈ xs.drop i, ∀ y ∈ ys.take j, f y < f x)
  | N, [], ys, _, _, _, a, ha => by
    rw [List.nil_merge]
    exact ⟨0, a, Nat.zero_le _, by simpa using ha, by omega, by simp, by simp⟩
  | N, x :: xs, [], _, _, _, a, ha => by
    rw [List.merge_right]
    exact ⟨a, 0, by simpa using ha, Nat.zero_le _, by omega, by simp, by simp⟩
  | 0, x :: xs, y :: ys, h, _, _, _, _ => by simp at h
  | N + 1, x :: xs, y :: ys, h, hx, hy, 0, _ => ⟨0, 0, Nat.zero_le _, Nat.zero_le _, rfl, by simp, by simp⟩
  | N + 1, x :: xs, y :: ys, h, hx, hy, a + 1, ha => by
    have hx' := List.pairwise_cons.1 hx
    have hy' := List.pairwise_cons.1 hy
    simp only [List.length_cons] at h ha
    rw [List.cons_merge_cons]
    by_cases hle : f x ≤ f y
    · rw [if_pos (by simpa [leB] using hle), List.take_succ_cons]
      obtain ⟨i, j, h1, h2, h3, h4, h5⟩ := mg_take N xs (y :: ys) (by simp only [List.length_cons]; omega) hx'.2 hy a (by simp only [List.length_cons]; omega)
      refine ⟨i + 1, j, by simp only [List.length_cons]; omega, h2, by omega, ?_, ?_⟩
      · rw [List.take_succ_cons, List.cons_append]; exact (List.perm_cons x).2 h4
      · rw [List.drop_succ_cons]; exact h5
    · rw [if_neg (by simpa [leB] using hle), List.take_succ_cons]
      obtain ⟨i, j, h1, h2, h3, h4, h5⟩ := mg_take N (x :: xs) ys (by simp only [List.length_cons]; omega) hx hy'.2 a (by simp only [List.length_cons]; omega)
      refine ⟨i, j + 1, h1, by simp only [List.length_cons]; omega, by omega, ?_, ?_⟩
      · rw [List.take_succ_cons]; exact ((List.perm_cons y).2 h4).trans List.perm_middle.symm
      · rw [List.take_succ_cons]
        intro z hz v hv
        rcases List.mem_cons.1 hv with rfl | hv
        · have hz' : z ∈ x :: xs := List.mem_of_mem_drop hz
          rcases List.mem_cons.1 hz' with rfl | hz'
          · omega
          · have := hx'.1 z hz'; omega
        · exact h5 z hz v hv
end
/-! Pairs of what is sorted. -/
theorem srt_pairs (l : List PP) (h : Srt Prod.fst l) : Srt Prod.fst (pairsF l) := by
  induction l using pairsF.induct with
  | case1 a b r ih =>
    rw [pairsF]
    have h1 := List.pairwise_cons.1 h
    have h2 := List.pairwise_cons.1 h1.2
    refine List.pairwise_cons.2 ⟨fun p hp => ?_, ih h2.2⟩
    have key : ∀ (l : List PP) (m : Int), (∀ x ∈ l, m ≤ x.1) → ∀ p ∈ pairsF l, m + m ≤ p.1 := by
      intro l m
      induction l using pairsF.induct with
      | case1 c d s ihs =>
        intro hm p hp
        rw [pairsF] at hp
        have hc := hm c (by simp)
        have hd := hm d (by simp)
        rcases List.mem_cons.1 hp with rfl | hp
        · simp only []; omega
        · exact ihs (fun x hx => hm x (by simp [hx])) p hp
      | case2 l hl => intro _ p hp; rw [pairsF_short hl] at hp; simp at hp
    have hab := h1.1 b (by simp)
    have := key r b.1 (fun x hx => h2.1 x hx) p hp
    simp only []; omega
  | case2 l hl => rw [pairsF_short hl]; exact List.Pairwise.nil
/-- Who lies in a package weighs less than it. -/
theorem pairs_cover (l : List PP) (hp : posP l) : ∀ j, j ≤ l.length / 2 → ∀ x ∈ l.take (2 * j), ∃ y ∈ (pairsF l).take j, x.1 < y.1 := by
  induction l using pairsF.induct with
  | case1 a b r ih =>
    intro j hj x hx
    match j with
    | 0 => simp at hx
    | j + 1 =>
      rw [show 2 * (j + 1) = (2 * j + 1) + 1 by omega, List.take_succ_cons, List.take_succ_cons] at hx
      rw [pairsF, List.take_succ_cons]
      have ha := (hp a (by simp)).1
      have hb := (hp b (by simp)).1
      simp only [List.mem_cons] at hx
      rcases hx with rfl | rfl | hx
      · exact ⟨_, List.mem_cons_self .., by simp only []; omega⟩
      · exact ⟨_, List.mem_cons_self .., by simp only []; omega⟩
      · obtain ⟨y, h1, h2⟩ := ih (fun p h => hp p (by simp [h])) j (by simp only [List.length_cons] at hj; omega) x hx
        exact ⟨y, List.mem_cons_of_mem _ h1, h2⟩
  | case2 l hl =>
    intro j hj x hx
    have : l.length / 2 = 0 := by rw [← pairsF_len, pairsF_short hl]; rfl
    obtain rfl : j = 0 := by omega
    simp at hx
theorem pairs_flat (l : List PP) : ∀ j, j ≤ l.length / 2 → ((pairsF l).take j).flatMap Prod.snd = (l.take (2 * j)).flatMap Prod.snd := by
  induction l using pairsF.induct with
  | case1 a b r ih =>
    intro j hj
    match j with
    | 0 => simp
    | j + 1 =>
      rw [show 2 * (j + 1) = (2 * j + 1) + 1 by omega, List.take_succ_cons, List.take_succ_cons, pairsF, List.take_succ_cons, List.flatMap_cons, List.flatMap_cons, List.flatMap_cons, ih j (by simp only [List.length_cons] at hj; omega), List.append_assoc]
  | case2 l hl =>
    intro j hj
    have : l.length / 2 = 0 := by rw [← pairsF_len, pairsF_short hl]; rfl
    obtain rfl : j = 0 := by omega
    simp
theorem pairs_few (M : Int) (l : List PP) (hp : posP l) : 2 * (pairsF l).countP (fun p => decide (p.1 < M)) ≤ l.countP (fun p => decide (p.1 < M)) := by
  induction l using pairsF.induct with
  | case1 a b r ih =>
    rw [pairsF]
    have ha := (hp a (by simp)).1
    have hb := (hp b (by simp)).1
    have := ih (fun p h => hp p (by simp [h]))
    rw [List.countP_cons, List.countP_cons, List.countP_cons]
    by_cases h : a.1 + b.1 < M
    · rw [if_pos (by simpa using h), if_pos (by simp; omega), if_pos (by simp; omega)]; omega
    · rw [if_neg (by simpa using h)]; omega
  | case2 l hl => rw [pairsF_short hl]; simp
/-! Which leaves a chosen start of a level holds, level by level. -/
def wid : List Nat → Nat
  | [] => 0
  | c :: r => c * 2 ^ r.length + wid r
theorem level_pos {lv : List PP} (h : posP lv) (t : Nat) : posP (levelF lv t) := (level_bd lv h t).1
theorem level_srt (lv : List PP) : ∀ t, Srt Prod.fst (levelF lv t)
  | 0 => List.Pairwise.nil
  | t + 1 => sortW_srt _ _
theorem level_cut {lv : List PP} (hs : Srt Prod.fst lv) (hp : posP lv) (t a : Nat) (ha : a ≤ (levelF lv (t + 1)).length) : ∃ i j, i ≤ lv.length ∧ j ≤ (levelF lv t).length / 2 ∧ i + j = a ∧
    ((levelF lv (t + 1)).take a).Perm (lv.take i ++ (pairsF (levelF lv t)).take j) ∧ (∀ x ∈ lv.drop i, ∀ y ∈ (pairsF (levelF lv t)).take j, y.1 < x.1) := by
  have e : levelF lv (t + 1) = List.merge lv (pairsF (levelF lv t)) (leB Prod.fst) := sort_mg Prod.fst lv _ hs (srt_pairs _ (level_srt lv t))
  have hl : (levelF lv (t + 1)).length = lv.length + (pairsF (levelF lv t)).length := by rw [levelF, sortP_len, List.length_append]
  rw [hl] at ha
  rw [e]
  obtain ⟨i, j, h1, h2, h3, h4, h5⟩ := mg_take Prod.fst _ lv (pairsF (levelF lv t)) (Nat.le_refl _) hs (srt_pairs _ (level_srt lv t)) a ha
  rw [pairsF_len] at h2
  exact ⟨i, j, h1, h2, h3, h4, h5⟩
theorem level_shape {lv : List PP} (hs : Srt Prod.fst lv) (hp : posP lv) : ∀ t a, a ≤ (levelF lv t).length → ∃ cs : List Nat, cs.length = t ∧ cs.Pairwise (fun x y => y ≤ x) ∧ (∀ c ∈ cs, c ≤ lv.length) ∧
    (((levelF lv t).take a).flatMap Prod.snd).Perm (cs.flatMap fun c => (lv.take c).flatMap Prod.snd) ∧ 2 * wid cs = a * 2 ^ t ∧ (∀ x ∈ lv.take (cs.headD 0), x ∈ (levelF lv t).take a) ∧
    (t ≠ 0 → ∀ x ∈ lv.drop (cs.headD 0), ∀ y ∈ (pairsF (levelF lv (t - 1))).take (a - cs.headD 0), y.1 < x.1) ∧ (t ≠ 0 → a - cs.headD 0 ≤ (levelF lv (t - 1)).length / 2)
  | 0, a, ha => by
    obtain rfl : a = 0 := by simpa [levelF] using ha
    exact ⟨[], rfl, List.Pairwise.nil, by simp, by simp, by simp [wid], by simp, fun h => absurd rfl h, fun h => absurd rfl h⟩
  | t + 1, a, ha => by
    obtain ⟨i, j, h1, h2, h3, h4, h5⟩ := level_cut hs hp t a ha
    obtain ⟨r, r1, r2, r3, r4, r5, r6, _, _⟩ := level_shape hs hp t (2 * j) (by omega)
    have hhead : ∀ c ∈ r, c ≤ r.headD 0 := by
      intro c hc
      match r, r2, hc with
      | d :: r, r2, hc =>
        rcases List.mem_cons.1 hc with rfl | hc
        · exact Nat.le_refl _
        · exact (List.pairwise_cons.1 r2).1 c hc
    have hnest : r.headD 0 ≤ i := by
      rcases Nat.lt_or_ge i (r.headD 0) with hlt | hge
      · exfalso
        have hle : r.headD 0 ≤ lv.length := by
          match r, r3 with
          | [], _ => exact Nat.zero_le _
          | d :: r, r3 => exact r3 d (by simp)
        have hi : i < lv.length := by omega
        have m1 : lv[i] ∈ lv.take (r.headD 0) := by
          rw [List.mem_take_iff_getElem]
          exact ⟨i, by omega, rfl⟩
        have m2 : lv[i] ∈ lv.drop i := by
          rw [List.drop_eq_getElem_cons hi]; exact List.mem_cons_self ..
        obtain ⟨y, hy, hlt2⟩ := pairs_cover _ (level_pos hp t) j h2 _ (r6 _ m1)
        have := h5 _ m2 y hy
        omega
      · exact hge
    refine ⟨i :: r, by rw [List.length_cons, r1], List.pairwise_cons.2 ⟨fun c hc => Nat.le_trans (hhead c hc) hnest, r2⟩, ?_, ?_, ?_, ?_, ?_, ?_⟩
    · intro c hc
      rcases List.mem_cons.1 hc with rfl | hc
      · exact h1
      · exact r3 c hc
    · rw [List.flatMap_cons]
      refine (h4.flatMap_right _).trans ?_
      rw [List.flatMap_append, pairs_flat _ j h2]
      exact r4.append_left _
    · rw [wid, r1, Nat.mul_add, r5, ← h3, Nat.pow_succ, Nat.add_mul, Nat.mul_comm 2 (i * 2 ^ t), Nat.mul_assoc i, Nat.mul_comm 2 j, Nat.mul_assoc j, Nat.mul_comm 2 (2 ^ t)]
    · intro x hx
      exact h4.mem_iff.2 (List.mem_append_left _ hx)
    · intro _ x hx y hy
      simp only [List.headD_cons, Nat.add_sub_cancel] at hx hy
      rw [show a - i = j by omega] at hy
      exact h5 x hx y hy
    · intro _
      simp only [List.headD_cons, Nat.add_sub_cancel]
      omega
/-- Few packages weigh less than the heaviest leaf. -/
theorem few_below {lv : List PP} (hp : posP lv) (M : Int) (h2 : 2 ≤ lv.length) (hM : ∃ x ∈ lv, M ≤ x.1) : ∀ t, (pairsF (levelF lv t)).countP (fun p => decide (p.1 < M)) ≤ lv.length - 2
  | 0 => by simp [levelF, pairsF]
  | t + 1 => by
    have ih := few_below hp M h2 hM t
    have h := pairs_few M (levelF lv (t + 1)) (level_pos hp (t + 1))
    have e : (levelF lv (t + 1)).countP (fun p => decide (p.1 < M)) = lv.countP (fun p => decide (p.1 < M)) + (pairsF (levelF lv t)).countP (fun p => decide (p.1 < M)) := by
      rw [levelF, (sortP_perm _).countP_eq, List.countP_append]
    have hl : lv.countP (fun p => decide (p.1 < M)) < lv.length := by
      obtain ⟨x, hx, hMx⟩ := hM
      refine Nat.lt_of_le_of_ne List.countP_le_length (fun he => ?_)
      have := List.countP_eq_length.1 he x hx
      simp at this; omega
    omega
/-- All leaves are chosen at the top. -/
theorem top_all {lv : List PP} (hs : Srt Prod.fst lv) (hp : posP lv) (t : Nat) (h2 : 2 ≤ lv.length) {c j : Nat} (hc : c ≤ lv.length) (hj : c + j = 2 * lv.length - 2) (hjl : j ≤ (levelF lv t).length / 2)
    (hx : ∀ x ∈ lv.drop c, ∀ y ∈ (pairsF (levelF lv t)).take j, y.1 < x.1) : c = lv.length := by
  rcases Nat.lt_or_ge c lv.length with hlt | hge
  · exfalso
    have m2 : lv[c] ∈ lv.drop c := by rw [List.drop_eq_getElem_cons hlt]; exact List.mem_cons_self ..
    have hn := few_below hp (lv[lv.length - 1].1) h2 ⟨_, List.getElem_mem _, Int.le_refl _⟩ t
    have hle : lv[c].1 ≤ lv[lv.length - 1].1 := by
      rcases Nat.lt_or_ge c (lv.length - 1) with h | h
      · exact (List.pairwise_iff_getElem.1 hs) c (lv.length - 1) hlt (by omega) h
      · have : c = lv.length - 1 := by omega
        subst this; exact Int.le_refl _
    have hall : ((pairsF (levelF lv t)).take j).countP (fun p => decide (p.1 < lv[lv.length - 1].1)) = j := by
      rw [List.countP_eq_length.2 (fun y hy => by
        have := hx _ m2 y hy
        simp only [decide_eq_true_eq]; omega), List.length_take, pairsF_len]
      omega
    have := (List.take_sublist j (pairsF (levelF lv t))).countP_le (p := fun p => decide (p.1 < lv[lv.length - 1].1))
    omega
  · omega
end Go.Proofs.YtkpabdjniiepkaaGreatDoor

set_option linter.unusedVariables false
set_option linter.unusedSimpArgs false
/-! Plain mathematics: the lengths of package-merge, one by one. -/
namespace Go.Proofs.YtkpabdjniiepkaaGreatDoor
def sumR : Nat → (Nat → Nat) → Nat
  | 0, _ => 0
  | n + 1, g => sumR n g + g n
theorem sumR_congr {g h : Nat → Nat} : ∀ n, (∀ q, q < n → g q = h q) → sumR n g = sumR n h
  | 0, _ => rfl
  | n + 1, e => by rw [sumR, sumR, sumR_congr n (fun q hq => e q (by omega)), e n (by omega)]
theorem sumR_add (g h : Nat → Nat) : ∀ n, sumR n (fun q => g q + h q) = sumR n g + sumR n h
  | 0 => rfl
  | n + 1 => by rw [sumR, sumR, sumR, sumR_add g h n]; omega
theorem sumR_mul (K : Nat) (g : Nat → Nat) : ∀ n, sumR n (fun q => K * g q) = K * sumR n g
  | 0 => rfl
  | n + 1 => by rw [sumR, sumR, sumR_mul K g n, Nat.mul_add]
theorem sumR_const (K : Nat) : ∀ n, sumR n (fun _ => K) = n * K
  | 0 => by simp [sumR]
  | n + 1 => by rw [sumR, sumR_const K n, Nat.succ_mul]
theorem sumR_from (K c : Nat) : ∀ n, c ≤ n → sumR n (fun q => if q < c then 0 else K) = (n - c) * K
  | 0, _ => by simp [sumR]
  | n + 1, h => by
    rw [sumR]
    by_cases hc : c ≤ n
    · rw [sumR_from K c n hc, if_neg (by omega), show n + 1 - c = (n - c) + 1 by omega, Nat.succ_mul]
    · obtain rfl : c = n + 1 := by omega
      rw [sumR_congr n (h := fun _ => 0) (fun q hq => by simp; omega), sumR_const, if_pos (by omega)]; simp
theorem sumR_range (g : Nat → Nat) : ∀ n, ((List.range n).map g).sum = sumR n g
  | 0 => rfl
  | n + 1 => by rw [List.range_succ, List.map_append, List.sum_append, sumR_range g n, sumR]; simp
/-- How many of these are greater. -/
def ell (cs : List Nat) (q : Nat) : Nat := cs.countP fun c => decide (q < c)
theorem ell_le (cs : List Nat) (q : Nat) : ell cs q ≤ cs.length := List.countP_le_length
theorem ell_cons (c : Nat) (r : List Nat) (q : Nat) : ell (c :: r) q = ell r q + if q < c then 1 else 0 := by
  unfold ell; rw [List.countP_cons]; simp
theorem ell_anti (cs : List Nat) (q q' : Nat) (h : q ≤ q') : ell cs q' ≤ ell cs q := by
  induction cs with
  | nil => exact Nat.le_refl _
  | cons c r ih =>
    rw [ell_cons, ell_cons]
    by_cases h1 : q' < c
    · rw [if_pos h1, if_pos (by omega)]; omega
    · rw [if_neg h1]; omega
theorem wid_ell (n : Nat) : ∀ cs : List Nat, cs.Pairwise (fun x y => y ≤ x) → (∀ c ∈ cs, c ≤ n) → wid cs + sumR n (fun q => 2 ^ (cs.length - ell cs q)) = n * 2 ^ cs.length
  | [], _, _ => by
    rw [wid, sumR_congr n (h := fun _ => 1) (fun q _ => by simp), sumR_const]; simp
  | c :: r, hp, hc => by
    have hp' := List.pairwise_cons.1 hp
    have ih := wid_ell n r hp'.2 (fun d hd => hc d (by simp [hd]))
    have e : sumR n (fun q => 2 ^ ((c :: r).length - ell (c :: r) q)) = sumR n (fun q => 2 ^ (r.length - ell r q) + if q < c then 0 else 2 ^ r.length) := by
      refine sumR_congr n fun q hq => ?_
      rw [ell_cons, List.length_cons]
      by_cases h : q < c
      · rw [if_pos h, if_pos h, show r.length + 1 - (ell r q + 1) = r.length - ell r q by omega]; rfl
      · rw [if_neg h, if_neg h]
        have h0 : ell r q = 0 := by
          unfold ell
          rw [List.countP_eq_zero]
          intro d hd
          have := hp'.1 d hd
          simp; omega
        rw [h0, Nat.add_zero, Nat.sub_zero, Nat.sub_zero, Nat.pow_succ]; omega
    rw [e, sumR_add, sumR_from _ c n (hc c (by simp)), wid, List.length_cons, Nat.pow_succ]
    have h3 : c * 2 ^ r.length + (n - c) * 2 ^ r.length = n * 2 ^ r.length := by
      rw [← Nat.add_mul]; congr 1; have := hc c (by simp); omega
    have h4 : n * (2 ^ r.length * 2) = n * 2 ^ r.length + n * 2 ^ r.length := by rw [← Nat.mul_assoc]; omega
    omega
/-! Symbols of leaves. -/
def One (lv : List PP) : Prop := ∀ p ∈ lv, ∃ s : Nat, p.2 = [(s : Int)]
theorem flat_take (lv : List PP) (h : One lv) : ∀ c, (lv.take c).flatMap Prod.snd = (lv.flatMap Prod.snd).take c := by
  induction lv with
  | nil => intro c; simp
  | cons p r ih =>
    intro c
    match c with
    | 0 => simp
    | c + 1 =>
      obtain ⟨s, hs⟩ := h p (by simp)
      rw [List.take_succ_cons, List.flatMap_cons, List.flatMap_cons, hs, ih (fun x hx => h x (by simp [hx]))]; rfl
theorem flat_one_len (lv : List PP) (h : One lv) : (lv.flatMap Prod.snd).length = lv.length := by
  induction lv with
  | nil => rfl
  | cons p r ih =>
    obtain ⟨s, hs⟩ := h p (by simp)
    rw [List.flatMap_cons, hs, List.length_append, ih (fun x hx => h x (by simp [hx]))]; simp; omega
theorem flat_one_get (lv : List PP) (h : One lv) : ∀ q (hq : q < lv.length) (s : Nat), lv[q].2 = [(s : Int)] → (lv.flatMap Prod.snd)[q]? = some (s : Int) := by
  induction lv with
  | nil => intro q hq; simp at hq
  | cons p r ih =>
    intro q hq s hs
    obtain ⟨s0, hs0⟩ := h p (by simp)
    rw [List.flatMap_cons, hs0]
    match q with
    | 0 =>
      simp only [List.getElem_cons_zero] at hs
      rw [hs0] at hs; injection hs with hs; rw [← hs]; rfl
    | q + 1 =>
      simp only [List.getElem_cons_succ] at hs
      exact ih (fun x hx => h x (by simp [hx])) q (by simpa using hq) s hs
theorem count_take (sy : List Int) (hn : sy.Pairwise (fun a b => a ≠ b)) : ∀ q s, sy[q]? = some s → ∀ c, (sy.take c).count s = if q < c then 1 else 0 := by
  induction sy with
  | nil => intro q s h; simp at h
  | cons x xs ih =>
    intro q s h c
    have hn' := List.pairwise_cons.1 hn
    match c with
    | 0 => simp
    | c + 1 =>
      rw [List.take_succ_cons, List.count_cons]
      match q with
      | 0 =>
        obtain rfl : x = s := by simpa using h
        have : List.count x (xs.take c) = 0 := List.count_eq_zero.2 fun hm => hn'.1 x (List.mem_of_mem_take hm) rfl
        rw [this]; simp
      | q + 1 =>
        have h' : xs[q]? = some s := by simpa using h
        rw [ih hn'.2 q s h' c]
        have : x ≠ s := hn'.1 s (List.mem_of_getElem? h')
        rw [show (x == s) = false by simpa using this]
        simp
theorem count_flat (sy : List Int) (hn : sy.Pairwise (fun a b => a ≠ b)) (q : Nat) (s : Int) (h : sy[q]? = some s) (cs : List Nat) : (cs.flatMap fun c => sy.take c).count s = ell cs q := by
  induction cs with
  | nil => rfl
  | cons c r ih =>
    rw [List.flatMap_cons, List.count_append, ih, ell_cons, count_take sy hn q s h c]; omega
theorem leaf_mem (cs : List Int) : ∀ k, k ≤ cs.length → ∀ p : PP, p ∈ leavesF (cs.take k) 0 ↔ ∃ i, i < k ∧ 0 < nth cs i ∧ p = (nth cs i, [(i : Int)])
  | 0, _, p => by simp [leavesF]
  | k + 1, h, p => by
    rw [take_snoc' cs k (by omega), leavesF_snoc, List.mem_append, leaf_mem cs k (by omega) p, List.length_take, Nat.min_eq_left (by omega), Nat.zero_add]
    constructor
    · rintro (⟨i, h1, h2, h3⟩ | h1)
      · exact ⟨i, by omega, h2, h3⟩
      · split at h1
        · next h0 => exact ⟨k, by omega, h0, by simpa using h1⟩
        · simp at h1
    · rintro ⟨i, h1, h2, h3⟩
      by_cases hi : i = k
      · subst hi; rw [if_pos h2]; exact .inr (by simpa using h3)
      · exact .inl ⟨i, by omega, h2, h3⟩
theorem leaf_sum (cs : List Int) (g : PP → Nat) : ∀ k, k ≤ cs.length → ((leavesF (cs.take k) 0).map g).sum = sumR k (fun i => if 0 < nth cs i then g (nth cs i, [(i : Int)]) else 0)
  | 0, _ => by simp [leavesF, sumR]
  | k + 1, h => by
    rw [take_snoc' cs k (by omega), leavesF_snoc, List.map_append, List.sum_append, leaf_sum cs g k (by omega), List.length_take, Nat.min_eq_left (by omega), Nat.zero_add, sumR]
    by_cases h0 : 0 < nth cs k
    · rw [if_pos h0, if_pos h0]; simp
    · rw [if_neg h0, if_neg h0]; simp
theorem leaf_syms (cs : List Int) : ∀ k, k ≤ cs.length → ((leavesF (cs.take k) 0).flatMap Prod.snd).Pairwise (fun a b => a ≠ b) ∧ ∀ s ∈ (leavesF (cs.take k) 0).flatMap Prod.snd, s < k
  | 0, _ => by simp [leavesF]
  | k + 1, h => by
    obtain ⟨h1, h2⟩ := leaf_syms cs k (by omega)
    rw [take_snoc' cs k (by omega), leavesF_snoc, List.flatMap_append, List.length_take, Nat.min_eq_left (by omega), Nat.zero_add]
    by_cases h0 : 0 < nth cs k
    · rw [if_pos h0]
      simp only [List.flatMap_cons, List.flatMap_nil, List.append_nil]
      refine ⟨List.pairwise_append.2 ⟨h1, List.pairwise_singleton _ _, fun a ha b hb => ?_⟩, fun s hs => ?_⟩
      · have := h2 a ha
        rw [List.mem_singleton.1 hb]; omega
      · rcases List.mem_append.1 hs with hs | hs
        · have := h2 s hs; push_cast; omega
        · rw [List.mem_singleton.1 hs]; push_cast; omega
    · rw [if_neg h0]
      simp only [List.flatMap_nil, List.append_nil]
      exact ⟨h1, fun s hs => by have := h2 s hs; push_cast; omega⟩
theorem list_sumR {α : Type} (g : α → Nat) (d : α) : ∀ l : List α, (l.map g).sum = sumR l.length (fun q => g (l.getD q d)) := by
  intro l
  have key : ∀ k, k ≤ l.length → ((l.take k).map g).sum = sumR k (fun q => g (l.getD q d)) := by
    intro k
    induction k with
    | zero => intro _; simp [sumR]
    | succ k ih =>
      intro h
      rw [List.take_succ_eq_append_getElem (by omega), List.map_append, List.sum_append, ih (by omega), sumR]
      simp [List.getD, show k < l.length by omega]
  have := key l.length (Nat.le_refl _)
  rwa [List.take_length] at this
/-- The lengths: by the leaves' places. -/
theorem lim_at (cs : List Int) (t : Nat) (hp : posP (leavesF cs 0)) (h2 : 2 ≤ (leavesF cs 0).length) (ht : (leavesF cs 0).length ≤ 2 ^ t) :
    ∃ E : List Nat, E.length = t ∧ (∀ q, q < (leavesF cs 0).length → 1 ≤ ell E q) ∧ sumR (leavesF cs 0).length (fun q => 2 ^ (t - ell E q)) = 2 ^ t ∧
      (∀ i, i < cs.length → ¬ 0 < nth cs i → nth (limLens cs t) i = 0) ∧
      (∀ q (hq : q < (sortP (leavesF cs 0)).length) (i : Nat), (sortP (leavesF cs 0))[q] = (nth cs i, [(i : Int)]) → i < cs.length → nth (limLens cs t) i = (ell E q : Nat)) := by
  obtain ⟨lv, hlv⟩ : ∃ lv, lv = sortP (leavesF cs 0) := ⟨_, rfl⟩
  have hperm : lv.Perm (leavesF cs 0) := by rw [hlv]; exact sortP_perm _
  have hlen : lv.length = (leavesF cs 0).length := hperm.length_eq
  have hsrt : Srt Prod.fst lv := by rw [hlv]; exact sortW_srt _ _
  have hpos : posP lv := posP_perm hperm hp
  have htk : cs.take cs.length = cs := List.take_length
  have hmem := leaf_mem cs cs.length (Nat.le_refl _)
  rw [htk] at hmem
  have hone : One lv := fun p hpm => by
    obtain ⟨i, _, _, e⟩ := (hmem p).1 (hperm.mem_iff.1 hpm)
    exact ⟨i, by rw [e]⟩
  have hsy0 := (leaf_syms cs cs.length (Nat.le_refl _)).1
  rw [htk] at hsy0
  have hsy : (lv.flatMap Prod.snd).Pairwise (fun a b => a ≠ b) := (hperm.symm.flatMap_right Prod.snd).pairwise hsy0 (fun h => h.symm)
  have hcut := level_len (leavesF cs 0) t h2 ht
  rw [← hlv] at hcut
  have ht1 : t ≠ 0 := by rintro rfl; simp at ht; omega
  obtain ⟨E, e1, e2, e3, e4, e5, e6, e7, e8⟩ := level_shape hsrt hpos t (2 * (leavesF cs 0).length - 2) hcut
  have hhd : E.headD 0 ≤ lv.length := by
    match E, e3 with
    | [], _ => exact Nat.zero_le _
    | d :: r, e3 => exact e3 d (by simp)
  have hhle : E.headD 0 ≤ 2 * (leavesF cs 0).length - 2 := by omega
  have htop := top_all hsrt hpos (t - 1) (by omega) hhd (j := 2 * (leavesF cs 0).length - 2 - E.headD 0) (by omega) (e8 ht1) (e7 ht1)
  have hS : limLens cs t = cntF cs.length (((levelF lv t).take (2 * (leavesF cs 0).length - 2)).flatMap Prod.snd) := by
    unfold limLens; rw [if_neg (by omega), ← hlv]
  have e4' : (((levelF lv t).take (2 * (leavesF cs 0).length - 2)).flatMap Prod.snd).Perm (E.flatMap fun c => (lv.flatMap Prod.snd).take c) := by
    refine e4.trans (List.Perm.of_eq ?_)
    have : (fun c => (lv.take c).flatMap Prod.snd) = fun c => (lv.flatMap Prod.snd).take c := funext (flat_take lv hone)
    rw [this]
  refine ⟨E, e1, fun q hq => ?_, ?_, fun i hi h0 => ?_, fun q hq i hi hil => ?_⟩
  · match E, htop with
    | [], htop => simp at htop; omega
    | d :: r, htop =>
      simp only [List.headD_cons] at htop
      rw [ell_cons, if_pos (by omega)]; omega
  · have hw := wid_ell lv.length E e2 e3
    rw [e1, hlen] at hw
    have h5 : wid E = ((leavesF cs 0).length - 1) * 2 ^ t := by
      have : 2 * wid E = 2 * (((leavesF cs 0).length - 1) * 2 ^ t) := by
        rw [e5, ← Nat.mul_assoc]; congr 1; omega
      omega
    rw [h5] at hw
    have h6 : (leavesF cs 0).length * 2 ^ t = ((leavesF cs 0).length - 1) * 2 ^ t + 2 ^ t := by
      rw [← Nat.succ_mul]; congr 1; omega
    omega
  · rw [hS, cntF_nth _ _ _ hi, e4'.count_eq]
    have : List.count (i : Int) (E.flatMap fun c => (lv.flatMap Prod.snd).take c) = 0 := by
      refine List.count_eq_zero.2 fun hm => ?_
      obtain ⟨c, _, hc⟩ := List.mem_flatMap.1 hm
      obtain ⟨p, hp1, hp2⟩ := List.mem_flatMap.1 (List.mem_of_mem_take hc)
      obtain ⟨k, hk1, hk2, rfl⟩ := (hmem p).1 (hperm.mem_iff.1 hp1)
      have : (i : Int) = k := by simpa using hp2
      obtain rfl : i = k := by omega
      exact h0 hk2
    rw [this]; rfl
  · subst hlv
    rw [hS, cntF_nth _ _ _ hil, e4'.count_eq, count_flat _ hsy q (i : Int) (flat_one_get _ hone q hq i (by rw [hi])) E]
end Go.Proofs.YtkpabdjniiepkaaGreatDoor
