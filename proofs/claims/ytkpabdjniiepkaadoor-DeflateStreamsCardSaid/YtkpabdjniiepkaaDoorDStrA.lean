/-
  What a stream tells, of whatever parts, is inflated to all that was fed, and is not much more; a closed stream answers so; of any parts.
-/
import Derived.Test.YtkpabdjniiepkaaDoorDflO
import Derived.Test.YtkpabdjniiepkaaDoorDflL
import Derived.Deep.Slices
set_option linter.unusedVariables false
set_option linter.unusedSimpArgs false
/-! What a stream was fed, and has told. -/
namespace Go.Proofs.YtkpabdjniiepkaaDoor
open Go.RowKit
structure SInv (fed told kept : List Int) (cnt most : Nat) : Prop where
  ex : ∃ ps : List (List Int), told = storedL ps ∧ fed = ps.flatten ++ kept ∧ cnt = ps.flatten.length ∧ (∀ p ∈ ps, (∀ x ∈ p, 0 ≤ x ∧ x ≤ 255) ∧ p.length ≤ 65535) ∧ 5 * ps.length + 5 ≤ most
  le : fed.length ≤ 16384
  byte : ∀ x ∈ fed, 0 ≤ x ∧ x ≤ 255
theorem SInv.start : SInv [] [] [] 0 5 := ⟨⟨[], rfl, rfl, rfl, by simp, by simp⟩, by simp, by simp⟩
theorem SInv.cnt_eq {fed told kept : List Int} {cnt most : Nat} (h : SInv fed told kept cnt most) : cnt + kept.length = fed.length := by
  obtain ⟨ps, -, rfl, rfl, -⟩ := h.ex
  rw [List.length_append]
theorem SInv.kept_byte {fed told kept : List Int} {cnt most : Nat} (h : SInv fed told kept cnt most) : ∀ x ∈ kept, 0 ≤ x ∧ x ≤ 255 := by
  obtain ⟨ps, -, rfl, -⟩ := h.ex
  exact fun x hx => h.byte x (List.mem_append.2 (.inr hx))
theorem SInv.told_le {fed told kept : List Int} {cnt most : Nat} (h : SInv fed told kept cnt most) : told.length ≤ fed.length + most := by
  obtain ⟨ps, rfl, rfl, -, -, h5⟩ := h.ex
  rw [storedL_len, List.length_append]; omega
theorem storedL_snoc (ps : List (List Int)) (p : List Int) : storedL (ps ++ [p]) = storedL ps ++ storB 0 p := by simp [storedL]
theorem SInv.step {fed told kept b : List Int} {cnt most : Nat} (h : SInv fed told kept cnt most) (hb : ∀ x ∈ b, 0 ≤ x ∧ x ≤ 255) (hl : fed.length + b.length ≤ 16384) :
    (feedD kept cnt b).1 = 0 ∧ SInv (fed ++ b) (told ++ (feedD kept cnt b).2.1) (feedD kept cnt b).2.2.1 (feedD kept cnt b).2.2.2 (most + 5) := by
  have hc := h.cnt_eq
  have hby : ∀ x ∈ fed ++ b, 0 ≤ x ∧ x ≤ 255 := fun x hx => by
    rcases List.mem_append.1 hx with h1 | h1
    · exact h.byte x h1
    · exact hb x h1
  obtain ⟨ps, rfl, rfl, rfl, hp, h5⟩ := h.ex
  unfold feedD
  rw [if_neg (by omega)]
  split
  · exact ⟨rfl, ⟨⟨ps, by simp, by simp, rfl, hp, by omega⟩, by rw [List.length_append]; omega, hby⟩⟩
  · next hs =>
    refine ⟨rfl, ⟨⟨ps ++ [kept ++ b], (storedL_snoc _ _).symm, by simp, by simp, fun p hm => ?_, by rw [List.length_append, List.length_singleton]; omega⟩, by rw [List.length_append]; omega, hby⟩⟩
    rcases List.mem_append.1 hm with h1 | h1
    · exact hp p h1
    · obtain rfl := List.mem_singleton.1 h1
      refine ⟨fun x hx => hby x ?_, ?_⟩
      · rw [List.append_assoc]; exact List.mem_append.2 (.inr hx)
      · rw [List.length_append] at hl ⊢; omega
theorem SInv.final {fed told kept ys : List Int} {cnt most : Nat} (h : SInv fed told kept cnt most) (hd : Defl kept ys) :
    inflR (told ++ ys) 16384 = (fed, (told ++ ys).length, 0) ∧ (told ++ ys).length ≤ fed.length + most := by
  have hkb := h.kept_byte
  have hle := h.le
  obtain ⟨ps, rfl, rfl, -, hp, h5⟩ := h.ex
  rw [List.length_append] at hle
  have hlen := hd.len.1
  refine ⟨blocks_infl (hd.final hkb (by omega)) hp (by omega) (by omega), ?_⟩
  rw [List.length_append, List.length_append, storedL_len]; omega
theorem feedD_long {kept b : List Int} {cnt : Nat} (h : 16384 < cnt + kept.length + b.length) : feedD kept cnt b = (2, [], kept, cnt) := if_pos h
theorem SInv.all_byte {fed told kept ys : List Int} {cnt most : Nat} (h : SInv fed told kept cnt most) (hd : Defl kept ys) : ∀ x ∈ told ++ ys, 0 ≤ x ∧ x ≤ 255 := by
  have hkb := h.kept_byte
  have hle := h.le
  obtain ⟨ps, rfl, rfl, -, hp, -⟩ := h.ex
  rw [List.length_append] at hle
  intro x hx
  rcases List.mem_append.1 hx with h1 | h1
  · obtain ⟨p, hpm, hxp⟩ := List.mem_flatMap.1 h1
    have hpl : p.length ≤ 16384 := by
      have : p.length ≤ ps.flatten.length := (List.sublist_flatten_of_mem hpm).length_le
      omega
    exact storB_byte (.inl rfl) (hp p hpm).1 hpl x hxp
  · exact hd.byte hkb (by omega) x h1
/-! In memory. -/
structure SMem (w wr : World) (s : Nat) (F T : Value) (fed told kept : List Int) (cnt : Nat) (kb : Option Nat) : Prop where
  strm : DStrm wr s kept cnt false kb
  fedO : wr.ownsRow w.heap.size 5 1 F fed.length (ints .u8 fed)
  toldO : wr.ownsRow w.heap.size 5 1 T told.length (ints .u8 told)
  s0 : w.heap.size ≤ s
  d1 : ∀ x, F.ownBlock = some x → x ≠ s ∧ kb ≠ some x ∧ T.ownBlock ≠ some x
  d2 : ∀ x, T.ownBlock = some x → x ≠ s ∧ kb ≠ some x
  ke : Keeps [] w wr
theorem SMem.keeps {w wr w' : World} {s cnt : Nat} {F T : Value} {fed told kept : List Int} {kb : Option Nat} {K : List Nat} (h : SMem w wr s F T fed told kept cnt kb) (hk : Keeps K wr w')
    (hK : ∀ x ∈ K, x ≠ s ∧ kb ≠ some x ∧ F.ownBlock ≠ some x ∧ T.ownBlock ≠ some x) (hlo : ∀ x ∈ K, w.heap.size ≤ x) : SMem w w' s F T fed told kept cnt kb :=
  ⟨h.strm.keeps hk (fun hm => (hK s hm).1 rfl) (fun x hx hm => (hK x hm).2.1 hx), own_keeps h.fedO hk (fun g hg hm => (hK g hm).2.2.1 hg), own_keeps h.toldO hk (fun g hg hm => (hK g hm).2.2.2 hg), h.s0, h.d1, h.d2, h.ke.fresh hk hlo⟩
theorem SMem.feed {w wr w' : World} {s cnt cnt' : Nat} {F T : Value} {fed told kept kept' : List Int} {kb kb' : Option Nat} (h : SMem w wr s F T fed told kept cnt kb) (hk : Keeps (s :: kb.toList) wr w') (hs : DStrm w' s kept' cnt' false kb')
    (hkb : ∀ x, kb' = some x → kb = some x ∨ wr.heap.size ≤ x) : SMem w w' s F T fed told kept' cnt' kb' := by
  have a1 : ∀ x, F.ownBlock = some x → x ∉ s :: kb.toList := fun x hx hm => by
    have := h.d1 x hx
    rcases List.mem_cons.1 hm with h1 | h1
    · exact this.1 h1
    · exact this.2.1 (by simpa using h1)
  have a2 : ∀ x, T.ownBlock = some x → x ∉ s :: kb.toList := fun x hx hm => by
    have := h.d2 x hx
    rcases List.mem_cons.1 hm with h1 | h1
    · exact this.1 h1
    · exact this.2 (by simpa using h1)
  refine ⟨hs, own_keeps h.fedO hk a1, own_keeps h.toldO hk a2, h.s0, fun x hx => ⟨(h.d1 x hx).1, fun hb => ?_, (h.d1 x hx).2.2⟩, fun x hx => ⟨(h.d2 x hx).1, fun hb => ?_⟩, h.ke.fresh hk (fun x hx => ?_)⟩
  · rcases hkb x hb with h1 | h1
    · exact (h.d1 x hx).2.1 h1
    · have := own_hi h.fedO x hx; omega
  · rcases hkb x hb with h1 | h1
    · exact (h.d2 x hx).2 h1
    · have := own_hi h.toldO x hx; omega
  · rcases List.mem_cons.1 hx with rfl | h1
    · exact h.s0
    · have := (h.strm.kb_lt x (by simpa using h1)).1; have := h.s0; omega
theorem grownK {w w' : World} {r : Option Nat} (hg : w.grownBy w' r) : Keeps r.toList w w' := (Keeps.refl _ w).grown hg (fun k hk => .inl (by rw [hk]; simp))
theorem SMem.growF {w wr w' : World} {s cnt m : Nat} {F F' T : Value} {fed fed' told kept : List Int} {kb : Option Nat} (h : SMem w wr s F T fed told kept cnt kb) (ho : w'.ownsRow w.heap.size 5 1 F' m (ints .u8 fed')) (hm : fed'.length = m)
    (hg : wr.grownBy w' F.ownBlock) (hwh : F'.ownBlock = F.ownBlock ∨ F'.ownBlock = some wr.heap.size) : SMem w w' s F' T fed' told kept cnt kb := by
  subst hm
  have hk := grownK hg
  have hsl := h.strm.lt
  refine ⟨h.strm.keeps hk (fun hm => ?_) (fun x hx hm => ?_), ho, own_keeps h.toldO hk (fun g hg2 hm => ?_), h.s0, fun x hx => ?_, h.d2, h.ke.fresh hk (fun x hx => own_lo h.fedO x (by simpa using hx))⟩
  · exact (h.d1 s (by simpa using hm)).1 rfl
  · exact (h.d1 x (by simpa using hm)).2.1 hx
  · exact (h.d1 g (by simpa using hm)).2.2 hg2
  · rcases hwh with h1 | h1
    · exact h.d1 x (by rw [← h1]; exact hx)
    · rw [hx] at h1
      injection h1 with h1
      subst h1
      refine ⟨by omega, fun hb => ?_, fun hb => ?_⟩
      · have := (h.strm.kb_lt _ hb).2; omega
      · have := own_hi h.toldO _ hb; omega
theorem SMem.growT {w wr w' : World} {s cnt m : Nat} {F T T' : Value} {fed told told' kept : List Int} {kb : Option Nat} (h : SMem w wr s F T fed told kept cnt kb) (ho : w'.ownsRow w.heap.size 5 1 T' m (ints .u8 told')) (hm : told'.length = m)
    (hg : wr.grownBy w' T.ownBlock) (hwh : T'.ownBlock = T.ownBlock ∨ T'.ownBlock = some wr.heap.size) : SMem w w' s F T' fed told' kept cnt kb := by
  subst hm
  have hk := grownK hg
  have hsl := h.strm.lt
  refine ⟨h.strm.keeps hk (fun hm => ?_) (fun x hx hm => ?_), own_keeps h.fedO hk (fun g hg2 hm => ?_), ho, h.s0, fun x hx => ⟨(h.d1 x hx).1, (h.d1 x hx).2.1, fun hb => ?_⟩, fun x hx => ?_, h.ke.fresh hk (fun x hx => own_lo h.toldO x (by simpa using hx))⟩
  · exact (h.d2 s (by simpa using hm)).1 rfl
  · exact (h.d2 x (by simpa using hm)).2 hx
  · exact (h.d1 g hg2).2.2 (by simpa using hm)
  · rcases hwh with h1 | h1
    · exact (h.d1 x hx).2.2 (by rw [← h1]; exact hb)
    · rw [hb] at h1
      injection h1 with h1
      have := own_hi h.fedO x hx; omega
  · rcases hwh with h1 | h1
    · exact h.d2 x (by rw [← h1]; exact hx)
    · rw [hx] at h1
      injection h1 with h1
      subst h1
      exact ⟨by omega, fun hb => by have := (h.strm.kb_lt _ hb).2; omega⟩
/-- Rows of bytes in memory. -/
def rowN (xss : List (List Int)) (j : Nat) : List Int := xss.getD j []
structure RBs (w : World) (A : Option Addr) (n : Nat) (xss : List (List Int)) : Prop where
  len : xss.length = n
  hd : 0 < n → ∃ b o, A = some ⟨b, o, none⟩
  cell : ∀ b o, A = some ⟨b, o, none⟩ → ∀ j, j < n → ∃ (B : Option Addr) (c : Nat), w.cell? ⟨b, o + j, none⟩ = some (.slice B (rowN xss j).length c) ∧ RI .u8 w B (rowN xss j).length (rowN xss j) ∧ (B = none → (rowN xss j).length = 0 ∧ c = 0) ∧ (∀ x ∈ rowN xss j, 0 ≤ x ∧ x ≤ 255) ∧ (rowN xss j).length ≤ maxLen
theorem RBs.keeps {w w' : World} {A : Option Addr} {n : Nat} {xss : List (List Int)} (h : RBs w A n xss) (hk : Keeps [] w w') : RBs w' A n xss :=
  ⟨h.len, h.hd, fun b o ha j hj => by
    obtain ⟨B, c, h1, h2, h3⟩ := h.cell b o ha j hj
    exact ⟨B, c, hk.cell (by simp) h1, h2.keeps hk (off_nil _), h3⟩⟩
end Go.Proofs.YtkpabdjniiepkaaDoor

/- A slice of slices of bytes that came in. -/
set_option linter.unusedVariables false
set_option linter.unusedSimpArgs false
namespace Go.Proofs.YtkpabdjniiepkaaDoor
open Go.ChangeShapes Go.WideShapes Go.ChangeAt Go.RowKit
theorem ri_trod {H : Type} {enc : TypeId × Value → H} {W : World} {fuel : Nat} {V : Value} {y : DataW H × List MemPlace}
    (hf : DataW.trod enc Tryd.prog W 0 (fun _ => true) true fuel 22 [V] = some y) :
    ∃ (B : Option Addr) (c : Nat) (xs : List Int), V = .slice B xs.length c ∧ RI .u8 W B xs.length xs ∧ (B = none → xs.length = 0 ∧ c = 0) ∧ (∀ x ∈ xs, 0 ≤ x ∧ x ≤ 255) ∧ xs.length ≤ maxLen := by
  rcases open_ints Tryd.underlying22 Tryd.underlying5 cellsU8 hf with ⟨hcs, _⟩ | ⟨x, l, c, zs, hcs, _, hl, hm, hz, _, hcell, hwz⟩
  · injection hcs with hv _
    exact ⟨none, 0, [], hv, ⟨rfl, by simp, by simp⟩, by simp, by simp, by simp⟩
  · injection hcs with hv _
    have hz' : zs.length = c := by simpa using hz
    have hlen : (zs.take l).length = l := by simp; omega
    refine ⟨some x, c, zs.take l, by rw [hlen]; exact hv, ⟨rfl, fun hp => ?_, fun b o ha j hj => ?_⟩, by simp, fun y hy => ?_, by rw [hlen]; omega⟩
    · obtain ⟨b, o, rfl, _⟩ := ints_at hcell (by omega)
      exact ⟨b, o, rfl⟩
    · obtain rfl := Option.some.inj ha
      rw [hlen] at hj
      rw [nth_take _ _ _ hj, ← add_plain2]
      exact hcell j (by omega)
    · have hb := byte_ofwf (zs := zs) hwz
      obtain ⟨j, hj, rfl⟩ := List.mem_iff_getElem.1 (List.mem_of_mem_take hy)
      have := hb j
      rwa [nth_lt hj] at this
theorem rows_came {H : Type} {enc : TypeId × Value → H} {W : World} {a0 : Option Addr} {len0 cap0 : Nat} {d : DataW H} {p : List MemPlace}
    (h : DataW.Trod enc Tryd.prog W 0 (fun _ => true) true 39 (Value.slice a0 len0 cap0) d p) :
    ∃ xss, RBs W a0 len0 xss ∧ len0 ≤ maxLen := by
  obtain ⟨fuel, hf⟩ := h
  rcases Go.Deep.open_slice1 Tryd.underlying39 (by kernel_rfl) hf with ⟨hcs, _⟩ | ⟨a, len, cap, m, n, V, D, P, hcs, _, hl, hm, hmm, _, hcell⟩
  · simp [Value.cells] at hcs
    obtain ⟨rfl, rfl, rfl⟩ := hcs
    exact ⟨[], ⟨rfl, by omega, by simp⟩, by omega⟩
  · simp [Value.cells] at hcs
    obtain ⟨rfl, rfl, rfl⟩ := hcs
    have hm' : m = cap0 := by simpa using hmm
    have each : ∀ i, i < len0 → ∃ xs : List Int, ∃ (B : Option Addr) (c : Nat), W.cell? (a.add i) = some (.slice B xs.length c) ∧ RI .u8 W B xs.length xs ∧ (B = none → xs.length = 0 ∧ c = 0) ∧ (∀ x ∈ xs, 0 ≤ x ∧ x ≤ 255) ∧ xs.length ≤ maxLen := by
      intro i hi
      obtain ⟨h1, h2⟩ := hcell i (by omega)
      obtain ⟨B, c, xs, rv, r⟩ := ri_trod h2
      exact ⟨xs, B, c, by rw [h1, rv], r⟩
    let f : Nat → List Int := fun i => if h : i < len0 then Classical.choose (each i h) else []
    have hfs : ∀ i, i < len0 → ∃ (B : Option Addr) (c : Nat), W.cell? (a.add i) = some (.slice B (f i).length c) ∧ RI .u8 W B (f i).length (f i) ∧ (B = none → (f i).length = 0 ∧ c = 0) ∧ (∀ x ∈ f i, 0 ≤ x ∧ x ≤ 255) ∧ (f i).length ≤ maxLen := by
      intro i hi
      simp only [f, hi, dite_true]
      exact Classical.choose_spec (each i hi)
    refine ⟨(List.range len0).map f, ⟨by simp, fun hp => ?_, fun b o ha j hj => ?_⟩, by omega⟩
    · obtain ⟨b, off, spot⟩ := a
      obtain ⟨B, c, h1, -⟩ := hfs 0 hp
      have hspot : spot = none := by simpa [Addr.add] using World.cell?_spot h1
      subst hspot
      exact ⟨_, _, rfl⟩
    · obtain rfl := Option.some.inj ha
      have hp : rowN ((List.range len0).map f) j = f j := by simp [rowN, List.getD, hj]
      rw [hp, ← add_plain2]
      exact hfs j hj
end Go.Proofs.YtkpabdjniiepkaaDoor

set_option linter.unusedVariables false
set_option linter.unusedSimpArgs false
/-! law07.unpacked. -/
namespace Go.Proofs.YtkpabdjniiepkaaDoor
open Go.RowKit
set_option maxRecDepth 100000 in
set_option maxHeartbeats 1000000 in
theorem unpacked_calls (w : World) (A B : Option Addr) (n c m d : Nat) (bs want : List Int) (hr : RI .u8 w A n bs) (hw : RI .u8 w B m want) (hb : ∀ x ∈ bs, 0 ≤ x ∧ x ≤ 255) (hn : n ≤ 1000000) (hm : m ≤ 1000000) (hI : inflR bs 16384 = (want, bs.length, 0)) :
    Calls Tryd.prog 13 #[.slice A n c, .slice B m d] w fun e w' => e = .returned (.bool true) ∧ Keeps [] w w' := by
  have HR := Lib.hid hr
  have HL : Hid (bs.length = n) := Lib.hid hr.len
  have HL2 : Hid (want.length = m) := Lib.hid hw.len
  have HW := Lib.hid hw
  have HB := Lib.hid (nth_u8 hb)
  have HI := Lib.hid hI
  clear hr hw hb hI
  go_enter Tryd.func13, Tryd.ntmps13
  go_wp2_with fail
  refine (rinflate_calls w A n c bs 16384 HR.out HB.out hn).mono ?_
  rintro e w1 ⟨B9, c9, rfl, hr9, -, hk9⟩
  rw [HI.out] at hr9 ⊢
  dsimp only at hr9 ⊢
  rw [HL.out, HL2.out] at *
  have HR9 := Lib.hid hr9
  have HW9 := Lib.hid (HW.out.keeps hk9 (off_nil _))
  have HK := Lib.hid hk9
  clear hr9 hk9
  go_wp2_with fail
  refine (keepBytes_calls w1 _ _ m m c9 d _ _ HR9.out HW9.out (by omega) (by omega)).mono ?_
  rintro _ w2 ⟨rfl, hd⟩
  rw [beq_self_eq_true]
  have HK2 := Lib.hid (HK.out.trans (hd.keeps (S := [])))
  clear hd
  go_wp2_with fail
  go_ret
  exact ⟨rfl, HK2.out⟩
end Go.Proofs.YtkpabdjniiepkaaDoor

set_option linter.unusedVariables false
set_option linter.unusedSimpArgs false
namespace Go.Proofs.YtkpabdjniiepkaaDoor
open Go.RowKit
set_option maxRecDepth 100000 in
set_option maxHeartbeats 4000000 in
theorem deflateStreams_walk (w : World) (A : Option Addr) (n c : Nat) (xss : List (List Int)) (hT : Tabs w) (hb : RBs w A n xss) (hm : n ≤ maxLen) :
    Calls Tryd.prog 6 #[.slice A n c] w fun e w' => e = .returned (.bool true) ∧ Keeps [] w w' := by
  have HT := Lib.hid hT
  have HTS := Lib.hid hT.size
  have HB := Lib.hid hb
  unfold maxLen at hm
  clear hT hb
  go_enter Tryd.func6, Tryd.ntmps6
  by_cases h1 : 300 < n
  · have e1 : decide (300 < n) = true := by simpa using h1
    have e1' : decide ((300 : Int) < (n : Int)) = true := by simp; omega
    go_wp2_with fail
    go_ret
    exact ⟨rfl, Keeps.refl _ _⟩
  have e1 : decide (300 < n) = false := by simpa using h1
  have e1' : decide ((300 : Int) < (n : Int)) = false := by simp; omega
  go_wp2_with fail
  refine (dnew_calls w).mono ?_
  rintro _ w1 ⟨rfl, hs1, hk1⟩
  have HM1 : Hid (SMem w w1 w.heap.size (.slice none 0 0) (.slice none 0 0) [] [] [] 0 none) := Lib.hid ⟨hs1, World.ownsRow_nil _ _ _ _, World.ownsRow_nil _ _ _ _, Nat.le_refl _, by simp [Value.ownBlock], by simp [Value.ownBlock], hk1⟩
  have HI1 := Lib.hid SInv.start
  clear hs1 hk1 e1 e1'
  generalize hs : w.heap.size = s at *
  go_wp2_with fail
  go_loopw [4, 5, 6, 7] (fun fv tv mv iv wr => ∃ (AF AT : Option Addr) (nf nt cf ct most i : Nat) (fed told kept : List Int) (cnt : Nat) (kb : Option Nat), fv = .slice AF nf cf ∧ tv = .slice AT nt ct ∧ mv = .int .i64 most ∧ iv = .int .i64 i ∧ i ≤ n ∧ most ≤ 5 + 5 * i ∧ fed.length = nf ∧ told.length = nt ∧ nf ≤ 16384 ∧
    Hid (SMem w wr s (.slice AF nf cf) (.slice AT nt ct) fed told kept cnt kb) ∧ Hid (SInv fed told kept cnt most)) (fun _ _ _ iv _ => n - (intOf iv).toNat)
  case atStart => exact ⟨none, none, 0, 0, 0, 0, 5, 0, [], [], [], 0, none, rfl, rfl, rfl, rfl, by omega, by omega, rfl, rfl, by omega, HM1, HI1⟩
  case round =>
    clear HM1 HI1
    obtain ⟨AF, AT, nf, nt, cf, ct, most, i, fed, told, kept, cnt, kb, rfl, rfl, rfl, rfl, hi, hmost, hnf, hnt, hnf2, HM, HI⟩ := hrel
    by_cases hlt : i < n
    · have e2 : decide (i < n) = true := by simpa using hlt
      obtain ⟨bb, bo, rfl⟩ := HB.out.hd (by omega)
      obtain ⟨B, cb, q1, q2, q3, q4, q5⟩ := HB.out.cell bb bo rfl i hlt
      generalize rowN xss i = x at *
      obtain ⟨m, hm2⟩ : ∃ m, x.length = m := ⟨_, rfl⟩
      have HLX := Lib.hid hm2
      rw [hm2] at q1 q2 q3 q5
      unfold maxLen at q5
      have HP : Hid (∀ w', Keeps [] w w' → w'.cell? ⟨bb, bo + i, none⟩ = some (.slice B m cb) ∧ RI .u8 w' B m x) := Lib.hid (fun w' hk => ⟨hk.cell (by simp) q1, q2.keeps hk (off_nil _)⟩)
      have HQ3 := Lib.hid q3
      have HQ4 := Lib.hid q4
      obtain ⟨c0, -⟩ := HP.out wr HM.out.ke
      clear q1 q2 q3 q4 hm2
      by_cases hbig : 65536 < m
      · have e3 : decide (65536 < m) = true := by simpa using hbig
        have e3' : decide ((65536 : Int) < (m : Int)) = true := by simp; omega
        go_wp2_with fail
        go_ret
        exact ⟨rfl, HM.out.ke⟩
      have e3 : decide (65536 < m) = false := by simpa using hbig
      have e3' : decide ((65536 : Int) < (m : Int)) = false := by simp; omega
      go_wp2_with fail
      refine (lend_calls wr B m cb x (HP.out wr HM.out.ke).2 (by omega)).mono ?_
      rintro _ w2 ⟨g1, rfl, hl1, hg1, hb1⟩
      have hk2 := Keeps.of_below hb1 (S := [])
      have HL2 := Lib.hid hl1
      have HM2 := Lib.hid (HM.out.keeps hk2 (by simp) (by simp))
      have HX2 : Hid (RI .u8 w2 (some ⟨g1, 0, none⟩) m x) := Lib.hid (by have := hl1.ri; rwa [HLX.out] at this)
      have HKB := Lib.hid HM.out.strm.kb_lt
      have hsl := HM.out.strm.lt
      have HFh := Lib.hid (own_hi HM.out.fedO)
      have HTh := Lib.hid (own_hi HM.out.toldO)
      have hwr := HM.out.ke.size
      have hw2 := hl1.lt
      have hs0 := HM.out.s0
      clear hl1 hb1 HM hk2 c0 e3 e3'
      go_wp2_with fail
      refine (dfeed_calls w2 s cnt kept kb (some ⟨g1, 0, none⟩) m (m + 2) x HM2.out.strm HX2.out nofun (by omega) (by have := HI.out.cnt_eq; omega)).mono ?_
      rintro e w3 ⟨v, kb', rfl, hov, huv, hs3, hkb, hor, hk3⟩
      have HM3 := Lib.hid (HM2.out.feed hk3 hs3 hkb)
      have hgk : g1 ∉ s :: kb.toList := fun hm => by
        rcases List.mem_cons.1 hm with h | h
        · omega
        · have := (HKB.out g1 (by simpa using h)).2; omega
      have HL3 : Hid (Lent8 w3 g1 x) := Lib.hid (Blk.keeps HL2.out hk3 hgk)
      have HOV := Lib.hid hov
      have HUV := Lib.hid huv
      have HKB2 := Lib.hid hkb
      have HOR := Lib.hid hor
      have hw3 := hk3.size
      have HV0 := Lib.hid (own_lo hov)
      have HV1 := Lib.hid (own_hi hov)
      have HG1 : Hid (∀ y ∈ [g1], y ≠ s ∧ kb' ≠ some y ∧ (Value.slice AF nf cf).ownBlock ≠ some y ∧ (Value.slice AT nt ct).ownBlock ≠ some y) := Lib.hid (fun y hy => by
        obtain rfl := List.mem_singleton.1 hy
        refine ⟨by omega, fun h => ?_, fun h => by have := HFh.out y h; omega, fun h => by have := HTh.out y h; omega⟩
        rcases HKB2.out y h with h2 | h2
        · have := (HKB.out y h2).2; omega
        · omega)
      clear hov huv hs3 hkb hor hk3 hgk HM2 HL2 HX2
      by_cases hlong : 16384 < nf + m
      · have hfd := feedD_long (kept := kept) (b := x) (cnt := cnt) (by have := HI.out.cnt_eq; have := HLX.out; omega)
        rw [hfd] at HOV HM3 ⊢
        dsimp only at HOV HM3 ⊢
        obtain ⟨AV, cv, rfl⟩ := own_formW HOV.out
        obtain ⟨c0, hr0⟩ := HP.out w3 HM3.out.ke
        have HR0 := Lib.hid hr0
        clear hr0 hfd
        go_wp2_with fail
        refine (back_keep_calls w3 g1 B m cb x HL3.out HLX.out HR0.out (by omega)).mono ?_
        rintro _ w4 ⟨rfl, hk4⟩
        have HM4 := Lib.hid (HM3.out.keeps hk4 HG1.out (fun y hy => by obtain rfl := List.mem_singleton.1 hy; omega))
        obtain ⟨c1, -⟩ := HP.out w4 HM4.out.ke
        have y1 : decide (16384 < nf + m) = true := by simpa using hlong
        have y2 : decide ((16384 : Int) < (nf : Int) + (m : Int)) = true := by simp; omega
        clear hk4 HM3 HL3 HR0 c0
        go_wp2_with fail
        go_roundw
        case rel => exact ⟨AF, AT, nf, nt, cf, ct, most, i + 1, fed, told, kept, cnt, kb', rfl, rfl, rfl, by go_num, by omega, by omega, hnf, hnt, hnf2, HM4, HI⟩
        case measure => simp [intOf]; omega
      · obtain ⟨hE, hI2⟩ := HI.out.step HQ4.out (by have := HLX.out; omega)
        have HI2 := Lib.hid hI2
        have hntl : nt ≤ 30000 := by have := HI.out.told_le; omega
        clear hI2
        generalize feedD kept cnt x = R at *
        obtain ⟨E, tl, kp, cn⟩ := R
        dsimp only at hE HOV HM3 HI2 ⊢
        subst hE
        obtain ⟨tn, htn⟩ : ∃ tn, tl.length = tn := ⟨_, rfl⟩
        rw [htn] at HOV
        have HTN := Lib.hid htn
        have htn2 : tn ≤ 30000 := by
          have h1 := HI2.out.told_le
          have h2 := HI2.out.le
          rw [List.length_append, List.length_append] at h1
          rw [List.length_append] at h2
          omega
        clear htn
        obtain ⟨AV, cv, rfl⟩ := own_formW HOV.out
        obtain ⟨c0, hr0⟩ := HP.out w3 HM3.out.ke
        have HR0 := Lib.hid hr0
        clear hr0
        go_wp2_with fail
        refine (back_keep_calls w3 g1 B m cb x HL3.out HLX.out HR0.out (by omega)).mono ?_
        rintro _ w4 ⟨rfl, hk4⟩
        have HM4 := Lib.hid (HM3.out.keeps hk4 HG1.out (fun y hy => by obtain rfl := List.mem_singleton.1 hy; omega))
        have hvg : ∀ y, (Value.slice AV tn cv).ownBlock = some y → y ∉ [g1] := fun y hy hm => by
          have := HV0.out y hy; simp at hm; omega
        have HOV4 := Lib.hid (own_keeps HOV.out hk4 hvg)
        have HUV4 := Lib.hid (HUV.out.keeps hk4 hvg)
        obtain ⟨c1, hr1⟩ := HP.out w4 HM4.out.ke
        have HR1 := Lib.hid hr1
        have hw4 := hk4.size
        have y1 : decide (16384 < nf + m) = false := by simp; omega
        have y2 : decide ((16384 : Int) < (nf : Int) + (m : Int)) = false := by simp; omega
        have HVN : Hid (AV = none → tn = 0 ∧ cv = 0) := Lib.hid (by
          obtain ⟨A', c', hv, -, -, hnil, -⟩ := own_full HOV4.out
          injection hv with q1 q2 q3
          subst q1
          subst q3
          exact hnil)
        have HVR : Hid (RI .u8 w4 AV tn tl) := Lib.hid (by
          obtain ⟨A', c', hv, hr, -⟩ := own_ri HOV4.out
          injection hv with q1 q2 q3
          subst q1
          exact hr)
        clear hk4 HM3 HL3 HR0 c0 HOV HUV hvg hr1
        go_wp2_with (at_builtin; refine app_bytesB rfl (.tmp 69) (.tmp 73) rfl w.heap.size (.slice AF nf cf) nf fed rfl (by have := HM4.out.fedO; rw [hnf] at this; exact this) B m cb x rfl (by exact HR1.out) HQ3.out (by omega) (by have := HM4.out.ke.size; omega) ?_)
        intro F5 w5 ho5 hg5 hwh5
        rw [← hs] at ho5
        have hkg := grownK hg5
        have hvF : ∀ y, (Value.slice AV tn cv).ownBlock = some y → y ∉ (Value.slice AF nf cf).ownBlock.toList := fun y hy hm => by
          have h1 := HV0.out y hy
          have h2 := HFh.out y (by simpa [ob] using hm)
          omega
        have HM5 := Lib.hid (HM4.out.growF ho5 (by rw [List.length_append, hnf, HLX.out]) hg5 hwh5)
        have HOV5 := Lib.hid (own_keeps HOV4.out hkg hvF)
        have HUV5 := Lib.hid (HUV4.out.keeps hkg hvF)
        have HVR5 : Hid (RI .u8 w5 AV tn tl) := Lib.hid (by
          obtain ⟨A', c', hv, hr, -⟩ := own_ri HOV5.out
          injection hv with q1 q2 q3
          subst q1
          exact hr)
        have hw5 := hkg.size
        have HWH5 := Lib.hid hwh5
        obtain ⟨AF5, cf5, rfl⟩ := own_formW ho5
        clear ho5 hg5 hwh5 hkg hvF HM4 HOV4 HUV4 HR1 HVR c1
        go_wp2_with (at_builtin; refine app_bytesB rfl (.tmp 75) (.tmp 76) rfl w.heap.size (.slice AT nt ct) nt told rfl (by have := HM5.out.toldO; rw [hnt] at this; exact this) AV tn cv tl rfl (by exact HVR5.out) HVN.out (by omega) (by have := HM5.out.ke.size; omega) ?_)
        intro T6 w6 ho6 hg6 hwh6
        rw [← hs] at ho6
        have hkg := grownK hg6
        have hvT : ∀ y, (Value.slice AV tn cv).ownBlock = some y → y ∉ (Value.slice AT nt ct).ownBlock.toList := fun y hy hm => by
          have h1 := HV0.out y hy
          have h2 := HTh.out y (by simpa [ob] using hm)
          omega
        have HM6 := Lib.hid (HM5.out.growT ho6 (by rw [List.length_append, hnt, HTN.out]) hg6 hwh6)
        have HOV6 := Lib.hid (own_keeps HOV5.out hkg hvT)
        have HUV6 := Lib.hid (HUV5.out.keeps hkg hvT)
        have HWH6 := Lib.hid hwh6
        obtain ⟨AT6, ct6, rfl⟩ := own_formW ho6
        have s5 : IntKind.i64.wrap ((most : Int) + 5) = (most : Int) + 5 := IntWalk.i64_in _ (by omega)
        clear ho6 hg6 hwh6 hkg hvT HM5 HOV5 HUV5 HVR5
        go_wp2_with fail
        refine (spoil_calls w6 w2.heap.size AV tn cv tl HOV6.out HUV6.out).mono ?_
        rintro _ w7 ⟨rfl, hk7⟩
        have HM7 := Lib.hid (HM6.out.keeps hk7 (fun y hy => by
          have hyv : (Value.slice AV tn cv).ownBlock = some y := by simpa [ob] using hy
          have h1 := HV0.out y hyv
          have h2 := HV1.out y hyv
          refine ⟨by omega, fun h => ?_, fun h => ?_, fun h => ?_⟩
          · rcases HOR.out with h3 | h3
            · rw [h3] at h; cases h
            · rw [h3] at hyv; simp [Value.ownBlock] at hyv
          · rcases HWH5.out with h3 | h3
            · have := HFh.out y (by rw [← h3]; exact h); omega
            · rw [h] at h3; injection h3 with h3; omega
          · rcases HWH6.out with h3 | h3
            · have := HTh.out y (by rw [← h3]; exact h); omega
            · rw [h] at h3; injection h3 with h3; omega) (fun y hy => by
          have hyv : (Value.slice AV tn cv).ownBlock = some y := by simpa [ob] using hy
          have h1 := HV0.out y hyv
          omega))
        clear hk7 HM6 HOV6 HUV6
        go_wp2_with fail
        go_roundw
        case rel => exact ⟨AF5, AT6, nf + m, nt + tn, cf5, ct6, most + 5, i + 1, fed ++ x, told ++ tl, kp, cn, kb', by go_num, by go_num, by go_num, by go_num, by omega, by omega, by rw [List.length_append, hnf, HLX.out], by rw [List.length_append, hnt, HTN.out], by omega, HM7, HI2⟩
        case measure => simp [intOf]; omega
    · obtain rfl : i = n := by omega
      have e2 : decide (i < i) = false := by simp
      have HTW := Lib.hid (HT.out.keeps HM.out.ke (by simp))
      have hbyk := nth_u8 HI.out.kept_byte
      have hcnt := HI.out.cnt_eq
      go_wp2_with fail
      refine (dclose_calls wr s cnt kept kb HM.out.strm HTW.out (by have := HTS.out; omega) hbyk (by omega)).mono ?_
      rintro _ w2 ⟨g, m, c2, ys, rfl, hr2, hg2, hd2, -, hs2, hk2⟩
      have hF2 := own_keeps HM.out.fedO hk2 (fun y hy hm => by have := (HM.out.d1 y hy).1; simp at hm; exact this hm)
      have hT2 := own_keeps HM.out.toldO hk2 (fun y hy hm => by have := (HM.out.d2 y hy).1; simp at hm; exact this hm)
      rw [hnf] at hF2
      rw [hnt] at hT2
      have HF2 := Lib.hid hF2
      have HT2 := Lib.hid hT2
      have HR2 := Lib.hid hr2
      have HD2 := Lib.hid hd2
      have HS2 := Lib.hid hs2
      have HK2 := Lib.hid (HM.out.ke.fresh hk2 (by simp; exact HM.out.s0))
      have HYL : Hid (ys.length = m) := Lib.hid hr2.len
      have hml : m ≤ 20000 := by have h1 := hd2.len.1; have h2 := hr2.len; omega
      have hntl : nt ≤ 30000 := by have := HI.out.told_le; omega
      have HD1 := Lib.hid HM.out.d1
      have HDT := Lib.hid HM.out.d2
      have HWZ := Lib.hid (own_hi HM.out.toldO)
      have hsl := HM.out.strm.lt
      clear hF2 hT2 hr2 hs2 hbyk
      go_wp2_with (at_builtin; refine app_bytesB rfl (.tmp 89) (.tmp 90) rfl w.heap.size (.slice AT nt ct) nt told rfl (by exact HT2.out) (some ⟨g, 0, none⟩) m c2 ys rfl (by exact HR2.out) nofun (by omega) (by have := HK2.out.size; omega) ?_)
      intro T3 w3 ho3 hg3 hwh3
      rw [← hs] at ho3
      have hkg := grownK hg3
      have HF3 := Lib.hid (own_keeps HF2.out hkg (fun y hy hm => (HD1.out y hy).2.2 (by simpa [ob] using hm)))
      have HS3 := Lib.hid (HS2.out.keeps hkg (fun hm => (HDT.out s (by simpa [ob] using hm)).1 rfl) (fun y hy hm => (HDT.out y (by simpa [ob] using hm)).2 hy))
      have HK3 := Lib.hid (HK2.out.fresh hkg (fun y hy => own_lo HT2.out y (by simpa [ob] using hy)))
      obtain ⟨AT3, ct3, rfl⟩ := own_formW ho3
      have HO3 := Lib.hid ho3
      clear ho3 hg3 hwh3 hkg HF2 HS2 HK2 HT2 HR2
      go_wp2_with fail
      refine (dfeed_closed w3 s cnt kept kb none 0 0 HS3.out).mono ?_
      rintro _ w4 ⟨rfl, hk4⟩
      have HF4 := Lib.hid (own_keeps HF3.out hk4 (by simp))
      have HS4 := Lib.hid (HS3.out.keeps hk4 (by simp) (by simp))
      have HO4 := Lib.hid (own_keeps HO3.out hk4 (by simp))
      have HK4 := Lib.hid (HK3.out.trans hk4)
      clear hk4 HF3 HS3 HO3 HK3
      go_wp2_with fail
      refine (dclose_closed w4 s cnt kept kb HS4.out).mono ?_
      rintro _ w5 ⟨rfl, hk5⟩
      have HF5 := Lib.hid (own_keeps HF4.out hk5 (by simp))
      have HO5 := Lib.hid (own_keeps HO4.out hk5 (by simp))
      have HK5 := Lib.hid (HK4.out.trans hk5)
      clear hk5 HF4 HS4 HO4 HK4
      go_wp2_with fail
      refine (awake7_calls w5 (HT.out.keeps HK5.out (by simp))).mono ?_
      rintro _ w6 ⟨rfl, hk6⟩
      have HK6 := Lib.hid (HK5.out.trans hk6)
      have HRF : Hid (RI .u8 w6 AF nf fed) := Lib.hid (by
        obtain ⟨A', c', hv, hr, -⟩ := own_ri (own_keeps HF5.out hk6 (by simp))
        injection hv with q1 q2 q3
        subst q1
        exact hr)
      have HRT : Hid (RI .u8 w6 AT3 (nt + m) (told ++ ys)) := Lib.hid (by
        obtain ⟨A', c', hv, hr, -⟩ := own_ri (own_keeps HO5.out hk6 (by simp))
        injection hv with q1 q2 q3
        subst q1
        exact hr)
      obtain ⟨hin, hle⟩ := HI.out.final HD2.out
      have HIN := Lib.hid hin
      have hle2 : nt + m ≤ nf + most := by rw [List.length_append, hnt, hnf, HYL.out] at hle; exact hle
      have z1 : decide (nt + m ≤ nf + most) = true := by simpa using hle2
      have z2 : decide ((nt : Int) + (m : Int) ≤ (nf : Int) + (most : Int)) = true := by simp; omega
      have s6 : IntKind.i64.wrap ((nf : Int) + (most : Int)) = (nf : Int) + (most : Int) := IntWalk.i64_in _ (by omega)
      clear hk6 HF5 HO5 HK5 hin hle
      go_wp2_with fail
      refine (unpacked_calls w6 AT3 AF (nt + m) ct3 nf cf (told ++ ys) fed HRT.out HRF.out (HI.out.all_byte HD2.out) (by omega) (by omega) HIN.out).mono ?_
      rintro _ w7 ⟨rfl, hk7⟩
      have HK7 := Lib.hid (HK6.out.trans hk7)
      clear hk7
      go_wp2_with fail
      go_ret
      exact ⟨rfl, HK7.out⟩
end Go.Proofs.YtkpabdjniiepkaaDoor

/-
  What a stream tells, of whatever parts, is inflated to all that was fed, and is not much more; a closed stream answers so; of any parts.
-/
set_option linter.unusedVariables false
set_option linter.unusedSimpArgs false
namespace Go.Proofs.YtkpabdjniiepkaaDoor.deflateStreams
open Go.ChangeShapes Go.WideShapes Go.ChangeAt Go.RowKit
set_option maxRecDepth 100000 in
theorem contract (H : Type) (enc : TypeId × Value → H) (W : World) (base : Nat) (args : Array Value) (ds gs : List (DataW H)) (before : List MemPlace)
    (hval : ∀ (j : Nat) t v, Tryd.f6.params[j]? = some t → args[j]? = some v → Value.okWide Tryd.prog W .any base t v)
    (hW : DataW.Whole enc Tryd.prog Tryd.f6.params.toList Rows.deflateStreamsSpec.vars false W args.toList ds gs before) (hL : laidMetH Tryd.prog Rows.deflateStreamsRow.laid W) :
    Calls Tryd.prog 6 args W fun e W' => ∃ v, e = .returned v ∧ Rows.deflateStreamsSpec.post enc Tryd.prog Tryd.f6 false true false false W args v W' := by
  have hT : Tabs W := tabs_of (laidMet.filter (fun x => x.1 == "haversack/lens.order" || x.1 == "haversack/lens.wide" || x.1 == "haversack/lens.from") hL)
  have hW' := hW
  obtain ⟨p, q, hA0, hV, rfl, hfz, hnd⟩ := hW
  have hA : DataW.TrodAll enc Tryd.prog W 0 (fun _ => true) true Tryd.f6.params.toList args.toList ds p := hA0
  rw [Tryd.params6] at hA hval
  obtain ⟨v0, vs0, d0, ds0, p0, q0, hargs, rfl, rfl, h0, r0⟩ := trodAll_cons hA
  obtain ⟨rfl, rfl, rfl⟩ := trodAll_nil r0
  obtain rfl : args = #[v0] := by cases args; simp_all
  obtain ⟨rfl, rfl⟩ := trodVars_none hV
  obtain ⟨a0, len0, cap0, rfl⟩ := okWide_slice Tryd.underlying39 (hval 0 39 v0 rfl rfl)
  have k0 := h0
  have lt0 : ∀ x ∈ p0, x.block < W.heap.size := by obtain ⟨m, hm⟩ := k0; exact DataW.trod_lt m _ _ _ hm
  obtain ⟨z0, w0, m0⟩ := rows_came h0
  clear hA0
  refine (deflateStreams_walk W a0 len0 cap0 z0 hT w0 m0).mono fun e W' ⟨he, hk⟩ => ?_
  have bel := hk.below
  subst he
  exact ⟨_, rfl, _, _, _, [], _, [], hW', trodAll_mk1 (shut_bool Tryd.underlying4 _), (trodAll_cons_mk (Below.trod laidOut (by kernel_rfl) (of_decide_eq_true (by kernel_rfl)) k0 bel lt0) trodAll_mk0), rfl, bel.frame _, fun h => by cases h⟩
theorem reads (os : Os) {H : Type} (enc : TypeId × Value → H) : ∃ places, DataW.whole enc Tryd.prog ((laidWorld os).forCall (fun _ _ => 0) ⟨#[], #[.slice none 0 0], []⟩).memory Tryd.f6.params.toList Rows.deflateStreamsSpec.vars false #[Value.slice none 0 0].toList 8 = some ([.nil], [], places) :=
  ⟨[], by kernel_rfl⟩
set_option maxRecDepth 100000 in
theorem lifted (os : Os) (started : os.Started) (H : Type) (enc : TypeId × Value → H) (F : Stop.Interp) :
    ReturnsInHanded {} Tryd.checked os 6 .any ((OpenSpec.ofChange Rows.deflateStreamsSpec).preRow enc Tryd.prog Tryd.f6 Rows.deflateStreamsRow.domain false Rows.deflateStreamsRow.laid) (((OpenSpec.ofChange Rows.deflateStreamsSpec).at F).post enc Tryd.prog Tryd.f6 false true false false) := by
  obtain ⟨places, hx⟩ := reads os enc
  refine returnsInHanded_of_row (C := Tryd.checked) (s := OpenSpec.ofChange Rows.deflateStreamsSpec) own started (by kernel_rfl) Tryd.func6
    (witness_row_at (enc := enc) (C := Tryd.checked) false (laidWorld os) #[.slice none 0 0] rfl (by kernel_rfl) (by kernel_rfl) (by kernel_rfl)
      (OpenSpec.preRow_of_cond 8 hx (by kernel_rfl) (fun k hk => by cases hk) (by kernel_rfl) (laid_met os _))) ?_
  intro W base args ds gs before hval hW _ _ _ hL _ _
  exact contract H enc W base args ds gs before hval hW hL
theorem said : Rows.DeflateStreamsSaid :=
  OpenClaim.holds_of_cond 6 Tryd.f6 rfl rfl rfl rfl rfl rfl rfl ⟨rfl, rfl, rfl, rfl, rfl⟩ rfl rfl rfl rfl rfl (by kernel_rfl) Tryd.func6 (by kernel_rfl)
    (of_decide_eq_true (by kernel_rfl)) (by unfold Func.isWrapper; first | (rw [if_pos (by decide +kernel)]; kernel_rfl) | (rw [if_neg (by decide +kernel)]; exact ⟨rfl, rfl⟩))
    (fun os started H enc _ F => by rw [OpenClaim.pre_eq_preRow]; exact lifted os started H enc F)
theorem plain (f : FuncId) (fn : Func) (hf : Tryd.pinned.checked.prog.funcNamed "haversack/haversacklaw07.DeflateStreams" = some f) (hfn : Tryd.pinned.checked.prog.funcs[f]? = some fn) :
    false = Tryd.pinned.checked.prog.looks [] ∧ ∀ (j : Nat) t, fn.params[j]? = some t → Tryd.pinned.checked.prog.wantsStandIn t = false := by
  obtain rfl : f = 6 := Option.some.inj ((show Tryd.prog.funcNamed "haversack/haversacklaw07.DeflateStreams" = some 6 by kernel_rfl).symm.trans hf) |>.symm
  obtain rfl : fn = Tryd.f6 := (Option.some.inj (Tryd.func6.symm.trans hfn)).symm
  refine ⟨by kernel_rfl, fun j t ht => ?_⟩
  rw [Tryd.params6] at ht
  have hm := Array.mem_of_getElem? ht
  obtain rfl : t = 39 := by simpa using hm
  exact (show Tryd.prog.wantsStandIn 39 = false by kernel_rfl)
/-- The card. -/
theorem card : Rows.DeflateStreamsCardSaid :=
  Claim7.holds_tied_plain_at .later [] _ _ _ _ said (fun _ h => by cases h) (by kernel_rfl) (fun _ h => by cases h) deflateStreams_row_tie rfl ⟨rfl, rfl⟩ (by kernel_rfl) rfl plain (by kernel_rfl)
#print axioms card
end Go.Proofs.YtkpabdjniiepkaaDoor.deflateStreams
