import Derived.Test.YtkpabdjniiepkaaDoorDNilG
import Derived.Test.YtkpabdjniiepkaaDoorDNilB
import Derived.Test.YtkpabdjniiepkaaDoorDNilF
import Derived.Test.YtkpabdjniiepkaaDoorDNilA
import Derived.RegionTactic
import Derived.BigQuiet
import Derived.WalkMore
import Derived.BigRegion
import Derived.RangeFuncNested
import Derived.RangeFuncLeaves
import Derived.Laws.Tables
import Derived.TacticsInMore
import Derived.OwnWalkIn
import Derived.Shelf.Abstract
import Derived.LoopIn
set_option linter.unusedVariables false
set_option linter.unusedSimpArgs false
/-! deflate.Stored. -/
namespace Go.Proofs.YtkpabdjniiepkaaDoor
open Go.RowKit
/-- What a stored block's walk answers. -/
def StorP (w : World) (n : Nat) (xs : List Int) (e : Ending) (w' : World) : Prop :=
  (16384 < n ∧ e = .returned (.tuple #[.slice none 0 0, .int .i64 2]) ∧ Below w.heap.size w w') ∨
  (n ≤ 16384 ∧ ∃ v, e = .returned (.tuple #[v, .int .i64 0]) ∧ w'.ownsRow w.heap.size 5 1 v (5 + n) (ints .u8 (storB 1 xs)) ∧ AllU8 w' v ∧ Below w.heap.size w w')
theorem xor_u16 (n : Nat) (h : n ≤ 65535) : Go.bits .xor .u16 IntKind.u16.max (n : Int) = 65535 - (n : Int) := by
  have e : (BitVec.ofInt 16 65535 ^^^ BitVec.ofNat 16 n).toNat = 65535 - n := by
    rw [show BitVec.ofInt 16 65535 = BitVec.allOnes 16 from rfl, BitVec.allOnes_xor, BitVec.toNat_not, BitVec.toNat_ofNat]; omega
  simp only [Go.bits, BitVec.ofInt_natCast]
  show IntKind.u16.wrap ((BitVec.ofInt 16 65535 ^^^ BitVec.ofNat 16 n).toNat : Int) = _
  rw [e, IntWalk.u16_in _ (by omega)]; omega
theorem stor_cells {n : Nat} {xs : List Int} {M : Int} (hl : xs.length = n) (hM : M = 65535 - (n : Int)) (hn : n ≤ 16384) : [1, (n : Int) % 256, (n : Int) / 256, M % 256, M / 256 % 256] ++ xs = storB 1 xs := by
  unfold storB
  rw [hl, show M % 256 = 255 - (n : Int) % 256 by omega, show M / 256 % 256 = 255 - (n : Int) / 256 by omega]
set_option maxRecDepth 100000 in
set_option maxHeartbeats 1000000 in
theorem dstored_calls (w : World) (A : Option Addr) (n c : Nat) (xs : List Int) (hr : RI .u8 w A n xs) (hnil : A = none → n = 0 ∧ c = 0) :
    Calls Tryd.prog 15 #[.slice A n c] w (StorP w n xs) := by
  have HR := Lib.hid hr
  have HN := Lib.hid hnil
  have HLN : Hid (xs.length = n) := Lib.hid hr.len
  clear hr hnil
  by_cases hb : 16384 < n
  · have x1 : decide (16384 < n) = true := by simpa using hb
    have x2 : decide ((16384 : Int) < (n : Int)) = true := by simp; omega
    go_enter Tryd.func15, Tryd.ntmps15
    go_wp2_with fail
    go_ret2
    exact .inl ⟨hb, rfl, Below.refl _ _⟩
  · have x1 : decide (16384 < n) = false := by simpa using hb
    have x2 : decide ((16384 : Int) < (n : Int)) = false := by simp; omega
    have s0 : IntKind.u16.wrap (n : Int) = (n : Int) := IntWalk.u16_in _ (by omega)
    have HM := Lib.hid (stor_cells HLN.out (xor_u16 n (by omega)) (by omega))
    have hblk := blk_new w 5 (ints .u8 [1, (n : Int) % 256, (n : Int) / 256, Go.bits .xor .u16 IntKind.u16.max (n : Int) % 256, Go.bits .xor .u16 IntKind.u16.max (n : Int) / 256 % 256])
    have HO := Lib.hid (own_of_blkK (n := 5) (base := w.heap.size) hblk rfl (Nat.le_refl _) (by omega))
    have HR1 := Lib.hid (HR.out.keeps ((Keeps.refl [] w).alloc (.cells (ints .u8 [1, (n : Int) % 256, (n : Int) / 256, Go.bits .xor .u16 IntKind.u16.max (n : Int) % 256, Go.bits .xor .u16 IntKind.u16.max (n : Int) / 256 % 256]).toArray 5)) (off_nil _))
    have HU : Hid (AllU8 (w.alloc (.cells (ints .u8 [1, (n : Int) % 256, (n : Int) / 256, Go.bits .xor .u16 IntKind.u16.max (n : Int) % 256, Go.bits .xor .u16 IntKind.u16.max (n : Int) / 256 % 256]).toArray 5)) (.slice (some ⟨w.heap.size, 0, none⟩) 5 5)) := Lib.hid (fun k hk => by
      simp only [Value.ownBlock, Option.some.injEq] at hk
      subst hk
      exact ⟨_, hblk, fun u hu => by rw [List.toList_toArray] at hu; exact ints_u8 u hu⟩)
    clear hblk
    go_enter Tryd.func15, Tryd.ntmps15
    go_wp2_with (at_builtin; refine app_bytesU rfl (.tmp 23) (.tmp 24) rfl w.heap.size (.slice (some ⟨w.heap.size, 0, none⟩) 5 5) 5 [1, (n : Int) % 256, (n : Int) / 256, Go.bits .xor .u16 IntKind.u16.max (n : Int) % 256, Go.bits .xor .u16 IntKind.u16.max (n : Int) / 256 % 256] rfl (by exact HO.out) A n c xs rfl (by exact HR1.out) HN.out (by omega) (by simp) ?_)
    intro v' w' hown hg hwh hU
    have HOW := Lib.hid hown
    have HU2 := Lib.hid (hU HU.out)
    have HBW := Lib.hid (((Below.refl w.heap.size w).alloc (Nat.le_refl _) (.cells (ints .u8 [1, (n : Int) % 256, (n : Int) / 256, Go.bits .xor .u16 IntKind.u16.max (n : Int) % 256, Go.bits .xor .u16 IntKind.u16.max (n : Int) / 256 % 256]).toArray 5)).grown hg (by simp) (fun k hk => by simp only [Value.ownBlock, Option.some.injEq] at hk; omega))
    clear hown hg hwh hU
    go_wp2_with fail
    go_ret2
    refine .inr ⟨by omega, _, rfl, ?_, HU2.out, HBW.out⟩
    rw [← HM.out]
    exact HOW.out
end Go.Proofs.YtkpabdjniiepkaaDoor

set_option linter.unusedVariables false
set_option linter.unusedSimpArgs false
/-! Plain: the mark of three bytes. -/
namespace Go.Proofs.YtkpabdjniiepkaaDoor
def hN (a b c : Nat) : Nat := ((a * 256 ^^^ b * 16) ^^^ c) % 4096
theorem hN_lt (a b c : Nat) : hN a b c < 4096 := Nat.mod_lt _ (by decide)
theorem xor_nat (a b : Nat) (ha : a < 2 ^ 62) (hb : b < 2 ^ 62) : Go.bits .xor .i64 (a : Int) (b : Int) = ((a ^^^ b : Nat) : Int) := by
  have h := Nat.xor_lt_two_pow ha hb
  simp only [Go.bits, BitVec.ofInt_natCast, BitVec.toNat_xor, BitVec.toNat_ofNat, show a % 2 ^ IntKind.i64.bits = a from Nat.mod_eq_of_lt (Nat.lt_of_lt_of_le ha (by decide)), show b % 2 ^ IntKind.i64.bits = b from Nat.mod_eq_of_lt (Nat.lt_of_lt_of_le hb (by decide))]
  exact IntWalk.i64_in _ (by omega)
theorem and_4095 (a : Nat) (ha : a < 2 ^ 62) : Go.bits .and .i64 (a : Int) 4095 = ((a % 4096 : Nat) : Int) := by
  have e : Go.bits .and .i64 (a : Int) ((4095 : Nat) : Int) = ((a &&& 4095 : Nat) : Int) := by
    have h : a &&& 4095 ≤ a := Nat.and_le_left
    simp only [Go.bits, BitVec.ofInt_natCast, BitVec.toNat_and, BitVec.toNat_ofNat, show a % 2 ^ IntKind.i64.bits = a from Nat.mod_eq_of_lt (Nat.lt_of_lt_of_le ha (by decide)), show 4095 % 2 ^ IntKind.i64.bits = 4095 from rfl]
    exact IntWalk.i64_in _ (by omega)
  rw [show (4095 : Int) = ((4095 : Nat) : Int) from rfl, e, show (4095 : Nat) = 2 ^ 12 - 1 from rfl, Nat.and_two_pow_sub_one_eq_mod]
/-- As the code reckons it. -/
theorem hash_val (a b c : Int) (ha : 0 ≤ a ∧ a ≤ 255) (hb : 0 ≤ b ∧ b ≤ 255) (hc : 0 ≤ c ∧ c ≤ 255) :
    Go.bits .and .i64 (Go.bits .xor .i64 (Go.bits .xor .i64 (a * 256) (b * 16)) c) 4095 = (hN a.toNat b.toNat c.toNat : Int) := by
  obtain ⟨x, rfl⟩ := Int.eq_ofNat_of_zero_le ha.1
  obtain ⟨y, rfl⟩ := Int.eq_ofNat_of_zero_le hb.1
  obtain ⟨z, rfl⟩ := Int.eq_ofNat_of_zero_le hc.1
  rw [show ((x : Int) * 256) = ((x * 256 : Nat) : Int) by omega, show ((y : Int) * 16) = ((y * 16 : Nat) : Int) by omega]
  have h1 : x * 256 ^^^ y * 16 < 2 ^ 62 := Nat.xor_lt_two_pow (by omega) (by omega)
  rw [xor_nat _ _ (by omega) (by omega), xor_nat _ _ h1 (by omega), and_4095 _ (Nat.xor_lt_two_pow h1 (by omega))]
  rfl
def hashF (xs : List Int) (j : Nat) : Nat := hN (nth xs j).toNat (nth xs (j + 1)).toNat (nth xs (j + 2)).toNat
theorem hashF_lt (xs : List Int) (j : Nat) : hashF xs j < 4096 := hN_lt _ _ _
theorem hashF_marks (xs : List Int) : Marks xs (hashF xs) := fun i j h => by
  unfold hashF
  rw [show nth xs i = nth xs j by simpa using h 0 (by omega), h 1 (by omega), h 2 (by omega)]
end Go.Proofs.YtkpabdjniiepkaaDoor

set_option linter.unusedVariables false
set_option linter.unusedSimpArgs false
namespace Go.Proofs.YtkpabdjniiepkaaDoor
open Go.RowKit
/-- A finder's cells. -/
def fcells (A : Option Addr) (n c : Nat) (last : List Int) (b : Nat) (done : Int) : List Value := .slice A n c :: (ints .i64 last ++ [.slice (some ⟨b, 0, none⟩) n n, .int .i64 done])
/-- A finder's two blocks, whatever they hold. -/
structure FRaw (w : World) (g b : Nat) (A : Option Addr) (n c : Nat) (pr last : List Int) (done : Int) : Prop where
  blk : Blk w g 111 (fcells A n c last b done)
  row : Blk w b 3 (ints .i64 pr)
  lenP : pr.length = n
  lenL : last.length = 4096
  ne : g ≠ b
theorem FRaw.cells {w : World} {g b : Nat} {A : Option Addr} {n c : Nat} {pr last : List Int} {done : Int} (h : FRaw w g b A n c pr last done) :
    w.cell? ⟨g, 0, none⟩ = some (.slice A n c) ∧ w.cell? ⟨g, 4097, none⟩ = some (.slice (some ⟨b, 0, none⟩) n n) ∧ w.cell? ⟨g, 4098, none⟩ = some (.int .i64 done) ∧
    (∀ v, v < 4096 → w.cell? ⟨g, 1 + v, none⟩ = some (.int .i64 (nth last v))) ∧ (∀ v, v < n → w.cell? ⟨b, v, none⟩ = some (.int .i64 (nth pr v))) ∧ (∀ v, w.frozen? ⟨g, v, none⟩ = false) ∧ (∀ v, w.frozen? ⟨b, v, none⟩ = false) := by
  have e : (ints .i64 last).length = 4096 := by simp [ints, h.lenL]
  refine ⟨h.blk.cell 0, ?_, ?_, fun v hv => ?_, fun v hv => h.row.cellI (by rw [h.lenP]; exact hv), h.blk.frozen, h.row.frozen⟩
  · rw [h.blk.cell]; unfold fcells; rw [List.getElem?_cons_succ, List.getElem?_append_right (by omega), e]; rfl
  · rw [h.blk.cell]; unfold fcells; rw [List.getElem?_cons_succ, List.getElem?_append_right (by omega), e]; rfl
  · rw [h.blk.cell, Nat.add_comm]; unfold fcells; rw [List.getElem?_cons_succ, List.getElem?_append_left (by omega), ints_getElem?]
    simp [nth, List.getD, show v < last.length by rw [h.lenL]; exact hv]
theorem FRaw.keeps {w w' : World} {g b : Nat} {A : Option Addr} {n c : Nat} {pr last : List Int} {done : Int} {S : List Nat} (h : FRaw w g b A n c pr last done) (hk : Keeps S w w') (hg : g ∉ S) (hb : b ∉ S) : FRaw w' g b A n c pr last done :=
  ⟨h.blk.keeps hk hg, h.row.keeps hk hb, h.lenP, h.lenL, h.ne⟩
theorem FRaw.setP {w : World} {g b : Nat} {A : Option Addr} {n c : Nat} {pr last : List Int} {done : Int} (h : FRaw w g b A n c pr last done) (j : Nat) (x : Int) : FRaw (w.setCell ⟨b, j, none⟩ (.int .i64 x)) g b A n c (pr.set j x) last done :=
  ⟨h.blk.set_other (by exact h.ne) _, by have := h.row.set j (.int .i64 x); simpa [ints, List.map_set] using this, by rw [List.length_set, h.lenP], h.lenL, h.ne⟩
theorem FRaw.setL {w : World} {g b : Nat} {A : Option Addr} {n c : Nat} {pr last : List Int} {done : Int} (h : FRaw w g b A n c pr last done) (v : Nat) (hv : v < 4096) (x : Int) : FRaw (w.setCell ⟨g, 1 + v, none⟩ (.int .i64 x)) g b A n c pr (last.set v x) done := by
  have e : (ints .i64 last).length = 4096 := by simp [ints, h.lenL]
  refine ⟨?_, h.row.set_other (by exact h.ne.symm) _, h.lenP, by rw [List.length_set, h.lenL], h.ne⟩
  have := h.blk.set (1 + v) (.int .i64 x)
  unfold fcells at this ⊢
  rw [Nat.add_comm 1 v] at this ⊢
  rw [List.set_cons_succ, List.set_append_left _ _ (by omega)] at this
  simpa [ints, List.map_set] using this
theorem FRaw.setD {w : World} {g b : Nat} {A : Option Addr} {n c : Nat} {pr last : List Int} {done : Int} (h : FRaw w g b A n c pr last done) (x : Int) : FRaw (w.setCell ⟨g, 4098, none⟩ (.int .i64 x)) g b A n c pr last x := by
  have e : (ints .i64 last).length = 4096 := by simp [ints, h.lenL]
  refine ⟨?_, h.row.set_other (by exact h.ne.symm) _, h.lenP, h.lenL, h.ne⟩
  have := h.blk.set 4098 (.int .i64 x)
  unfold fcells at this ⊢
  rw [List.set_cons_succ, List.set_append_right _ _ (by omega), e] at this
  exact this
/-- A finder over bytes: so many places are known. -/
structure FB (w : World) (g b : Nat) (A : Option Addr) (n c : Nat) (xs : List Int) (k : Nat) : Prop where
  raw : ∃ pr last : List Int, FRaw w g b A n c pr last k ∧ (∀ v, v < 4096 → nth last v = (lastF (hashF xs) v k : Int)) ∧ (∀ j, j < k → nth pr j = (lastF (hashF xs) (hashF xs j) j : Int))
  ri : RI .u8 w A n xs
  cap : CapOk A n c
  off : Off [g, b] A
  byte : ∀ j, 0 ≤ nth xs j ∧ nth xs j ≤ 255
  bound : n ≤ 16384
  known : k ≤ n
theorem FB.keeps {w w' : World} {g b : Nat} {A : Option Addr} {n c : Nat} {xs : List Int} {k : Nat} {S : List Nat} (h : FB w g b A n c xs k) (hk : Keeps S w w') (hg : g ∉ S) (hb : b ∉ S) (hS : Off S A) : FB w' g b A n c xs k := by
  obtain ⟨pr, last, p1, p2, p3⟩ := h.raw
  exact ⟨⟨pr, last, p1.keeps hk hg hb, p2, p3⟩, h.ri.keeps hk hS, h.cap, h.off, h.byte, h.bound, h.known⟩
theorem nth_mid (xs : List Int) (i m j : Nat) (hj : j < m) (h : i + m ≤ xs.length) : nth ((xs.take (i + m)).drop i) j = nth xs (i + j) := by
  simp [nth, List.getD, List.getElem?_drop, List.getElem?_take, show i + j < i + m by omega]
set_option maxRecDepth 100000 in
set_option maxHeartbeats 1000000 in
theorem hash_calls (w : World) (g b : Nat) (A : Option Addr) (n c : Nat) (xs : List Int) (k i : Nat) (h : FB w g b A n c xs k) (hi : i + 3 ≤ n) :
    Calls Tryd.prog 88 #[.pointer (some ⟨g, 0, none⟩), .int .i64 i] w fun e w' => e = .returned (.int .i64 (hashF xs i)) ∧ Dr w w' := by
  have hB := h.bound
  obtain ⟨pr, last, hraw, -, -⟩ := h.raw
  have c0 := hraw.cells.1
  have hsm := fun w => slice_mid8 w A n c i (i + 3) (i : Int) ((i : Int) + 3) rfl (by omega) (by omega) hi h.cap
  have hm := h.ri.mid h.cap (show i ≤ i + 3 by omega) hi
  have hlen : xs.length = n := h.ri.len
  obtain ⟨bb, o, hA⟩ := hm.hd (show 0 < i + 3 - i by omega)
  have k0 := hm.cell bb o hA 0 (by omega)
  have k1 := hm.cell bb o hA 1 (by omega)
  have k2 := hm.cell bb o hA 2 (by omega)
  rw [nth_mid xs i 3 0 (by omega) (by omega)] at k0
  rw [nth_mid xs i 3 1 (by omega) (by omega)] at k1
  rw [nth_mid xs i 3 2 (by omega) (by omega)] at k2
  rw [Nat.add_zero] at k0
  rw [Nat.add_zero] at k0
  rw [hA, Nat.add_sub_cancel_left] at hsm
  have hv := hash_val (nth xs i) (nth xs (i + 1)) (nth xs (i + 2)) (h.byte _) (h.byte _) (h.byte _)
  obtain ⟨x, hx⟩ : ∃ x, x = nth xs i := ⟨_, rfl⟩
  obtain ⟨y, hy⟩ : ∃ y, y = nth xs (i + 1) := ⟨_, rfl⟩
  obtain ⟨z, hz⟩ : ∃ z, z = nth xs (i + 2) := ⟨_, rfl⟩
  have bx := h.byte i
  have by' := h.byte (i + 1)
  have bz := h.byte (i + 2)
  have hF : hashF xs i = hN x.toNat y.toNat z.toNat := by rw [hx, hy, hz]; rfl
  rw [← hx] at k0 hv bx
  rw [← hy] at k1 hv by'
  rw [← hz] at k2 hv bz
  rw [hF]
  have HV := Lib.hid hv
  have wi : IntKind.i64.wrap ((i : Int) + 3) = (i : Int) + 3 := IntWalk.i64_in _ (by omega)
  have wx : IntKind.i64.wrap (x * 256) = x * 256 := IntWalk.i64_in _ (by omega)
  have wy : IntKind.i64.wrap (y * 16) = y * 16 := IntWalk.i64_in _ (by omega)
  clear h hraw hm hA hv hx hy hz hF hB
  go_enter Tryd.func88, Tryd.ntmps88
  go_upto_region 2 with (fail)
  go_quiet (fail)
  go_wp2_with fail
  rw [HV.out]
  go_ret
  exact ⟨rfl, _, rfl⟩
end Go.Proofs.YtkpabdjniiepkaaDoor

set_option linter.unusedVariables false
set_option linter.unusedSimpArgs false
namespace Go.Proofs.YtkpabdjniiepkaaDoor
open Go.RowKit
/-- How many places a finder's cells say are known. -/
def doneOf (w : World) (g : Nat) : Nat := match w.cell? ⟨g, 4098, none⟩ with | some v => (intOf v).toNat | none => 0
theorem FB.doneOf {w : World} {g b : Nat} {A : Option Addr} {n c : Nat} {xs : List Int} {k : Nat} (h : FB w g b A n c xs k) : doneOf w g = k := by
  obtain ⟨pr, last, p1, -, -⟩ := h.raw
  unfold Proofs.YtkpabdjniiepkaaDoor.doneOf
  rw [p1.cells.2.2.1]; simp [intOf]
theorem FRaw.cast {w : World} {g b : Nat} {A : Option Addr} {n c : Nat} {pr last : List Int} {x y : Int} (h : FRaw w g b A n c pr last x) (e : x = y) : FRaw w g b A n c pr last y := e ▸ h
/-- One place more. -/
theorem know_step {w : World} {g b : Nat} {A : Option Addr} {n c : Nat} {xs pr last : List Int} {d : Nat} (h : FRaw w g b A n c pr last d) (hl : ∀ v, v < 4096 → nth last v = (lastF (hashF xs) v d : Int)) (hp : ∀ j, j < d → nth pr j = (lastF (hashF xs) (hashF xs j) j : Int)) (hd : d < n) :
    (∀ v, v < 4096 → nth (last.set (hashF xs d) ((d : Int) + 1)) v = (lastF (hashF xs) v (d + 1) : Int)) ∧ (∀ j, j < d + 1 → nth (pr.set d (nth last (hashF xs d))) j = (lastF (hashF xs) (hashF xs j) j : Int)) := by
  have hh := hashF_lt xs d
  refine ⟨fun v hv => ?_, fun j hj => ?_⟩
  · rw [lastF]
    by_cases e : hashF xs d = v
    · subst e; rw [if_pos rfl, nth_set_eq _ _ _ (by rw [h.lenL]; exact hv)]; omega
    · rw [if_neg e, nth_set_ne _ _ _ _ (fun e2 => e e2.symm), hl v hv]
  · by_cases e : j = d
    · subst e; rw [nth_set_eq _ _ _ (by rw [h.lenP]; omega), hl _ hh]
    · rw [nth_set_ne _ _ _ _ e, hp j (by omega)]
set_option maxRecDepth 100000 in
set_option maxHeartbeats 2000000 in
theorem know_calls (w : World) (g b : Nat) (A : Option Addr) (n c : Nat) (xs : List Int) (k m : Nat) (h : FB w g b A n c xs k) (hk : k ≤ m) (hto : m + 3 ≤ n) :
    Calls Tryd.prog 87 #[.pointer (some ⟨g, 0, none⟩), .int .i64 m] w fun e w' => e = .returned (.tuple #[]) ∧ FB w' g b A n c xs m ∧ Keeps [g, b] w w' := by
  have hB := h.bound
  have H := Lib.hid h
  clear h
  go_enter Tryd.func87, Tryd.ntmps87
  go_wp2_with fail
  go_loopw [4] (fun hv wr => ∃ d : Nat, k ≤ d ∧ d ≤ m ∧ Hid (FB wr g b A n c xs d) ∧ Hid (Keeps [g, b] w wr)) (fun _ wr => m - doneOf wr g)
  case atStart => exact ⟨k, by omega, by omega, H, Lib.hid (Keeps.refl _ _)⟩
  case round =>
    clear H
    obtain ⟨d, hd, hdt, HF, HK⟩ := hrel
    have hm0 := HF.out.doneOf
    have HM := Lib.hid hm0
    obtain ⟨pr, last, hraw, hl, hp⟩ := HF.out.raw
    have HR := Lib.hid hraw
    have HL := Lib.hid hl
    have HP := Lib.hid hp
    obtain ⟨c0, c1, c2, c3, c4, f1, f2⟩ := hraw.cells
    clear hm0 hraw hl hp
    have w3 : IntKind.i64.wrap ((d : Int) + 3) = (d : Int) + 3 := IntWalk.i64_in _ (by omega)
    have w1 : IntKind.i64.wrap ((d : Int) + 1) = (d : Int) + 1 := IntWalk.i64_in _ (by omega)
    by_cases hlt : d < m
    · have x1 : decide ((d : Int) < (m : Int)) = true := by simp; omega
      have x2 : decide ((d : Int) + 3 ≤ (n : Int)) = true := by simp; omega
      have d4 := c4 d (by omega)
      have HC3 := Lib.hid c3
      clear c3 c4
      go_upto_region 0 with (fail)
      go_quiet (fail)
      go_wp2_with fail
      refine (hash_calls _ g b A n c xs d d (HF.out.keeps (S := []) (by repeat (first | exact Keeps.refl _ _ | apply Keeps.drewN | apply Keeps.drew)) (by simp) (by simp) (off_nil _)) (by omega)).mono ?_
      rintro _ w4 ⟨rfl, hd4⟩
      have hk4 := ((Keeps.refl [] wr).drewN _).trans (hd4.keeps (S := []))
      have HR4 := Lib.hid (HR.out.keeps hk4 (by simp) (by simp))
      have HK4 := Lib.hid hk4
      have hst := know_step HR.out HL.out HP.out (show d < n by omega)
      have hlt4 := hashF_lt xs d
      obtain ⟨q, hq⟩ : ∃ q, q = hashF xs d := ⟨_, rfl⟩
      rw [← hq] at hst hlt4 ⊢
      have HST := Lib.hid hst
      have c3 := HC3.out q hlt4
      clear hd4 hk4 hst hq c0 c1 c2 d4 c3 f1 f2
      obtain ⟨c0, c1, c2, c3, c4, f1, f2⟩ := HR4.out.cells
      have d4 := c4 d (by omega)
      have c3 := c3 q hlt4
      clear c4
      go_upto_region 3 with (fail)
      go_region
      obtain ⟨w5, hw5⟩ : ∃ w5, w5 = (w4.setCell ⟨b, d, none⟩ (.int .i64 (nth last q))).drew := ⟨_, rfl⟩
      rw [← hw5]
      have hr5 : FRaw w5 g b A n c (pr.set d (nth last q)) last d := by rw [hw5]; exact (HR4.out.setP d _).keeps (S := []) ((Keeps.refl [] _).drew) (by simp) (by simp)
      have hk5 : Keeps [g, b] wr w5 := by rw [hw5]; exact ((HK4.out.mono (S' := [g, b]) (fun x hx => by cases hx)).setCell (p := ⟨b, d, none⟩) (.inl (by simp)) _).drew
      have HR5 := Lib.hid hr5
      have HK5 := Lib.hid hk5
      clear hr5 hk5 hw5 HR4 HK4 c0 c1 c2 c3 d4 f1 f2
      obtain ⟨c0, c1, c2, c3, c4, f1, f2⟩ := HR5.out.cells
      have c3 := c3 q hlt4
      clear c4
      go_upto_region 4 with (fail)
      go_region
      obtain ⟨w6, hw6⟩ : ∃ w6, w6 = (w5.setCell ⟨g, 1 + q, none⟩ (.int .i64 ((d : Int) + 1))).drew := ⟨_, rfl⟩
      rw [← hw6]
      have hr6 : FRaw w6 g b A n c (pr.set d (nth last q)) (last.set q ((d : Int) + 1)) d := by rw [hw6]; exact (HR5.out.setL q hlt4 _).keeps (S := []) ((Keeps.refl [] _).drew) (by simp) (by simp)
      have hk6 : Keeps [g, b] wr w6 := by rw [hw6]; exact (HK5.out.setCell (p := ⟨g, 1 + q, none⟩) (.inl (by simp)) _).drew
      have HR6 := Lib.hid hr6
      have HK6 := Lib.hid hk6
      clear hr6 hk6 hw6 HR5 HK5 c0 c1 c2 c3 f1 f2
      obtain ⟨c0, c1, c2, c3, c4, f1, f2⟩ := HR6.out.cells
      clear c3 c4
      go_wp2_with fail
      have hfb : FB (w6.setCell ⟨g, 4098, none⟩ (.int .i64 ((d : Int) + 1))) g b A n c xs (d + 1) :=
        ⟨⟨_, _, (HR6.out.setD ((d : Int) + 1)).cast (by omega), HST.out.1, HST.out.2⟩, HF.out.ri.keeps (HK6.out.setCell (p := ⟨g, 4098, none⟩) (.inl (by simp)) _) HF.out.off, HF.out.cap, HF.out.off, HF.out.byte, HF.out.bound, by have := HF.out.known; omega⟩
      have HFB := Lib.hid hfb
      have hdn := hfb.doneOf
      clear hfb
      go_roundw
      case rel => exact ⟨d + 1, by omega, by omega, HFB, Lib.hid (HK.out.trans (HK6.out.setCell (p := ⟨g, 4098, none⟩) (.inl (by simp)) _))⟩
      case measure => rw [hdn, HM.out]; omega
    · obtain rfl : d = m := by omega
      have x1 : decide ((d : Int) < (d : Int)) = false := by simp
      go_upto_region 0 with (fail)
      go_quiet (fail)
      go_wp2_with fail
      go_end0
      exact ⟨rfl, HF.out.keeps (S := []) (by repeat (first | exact Keeps.refl _ _ | apply Keeps.drewN | apply Keeps.drew)) (by simp) (by simp) (off_nil _), HK.out.trans (by repeat (first | exact Keeps.refl _ _ | apply Keeps.drewN | apply Keeps.drew))⟩
end Go.Proofs.YtkpabdjniiepkaaDoor

set_option linter.unusedVariables false
set_option linter.unusedSimpArgs false
namespace Go.Proofs.YtkpabdjniiepkaaDoor
open Go.RowKit
set_option maxRecDepth 100000 in
set_option maxHeartbeats 2000000 in
theorem match_calls (w : World) (g b : Nat) (A : Option Addr) (n c : Nat) (xs : List Int) (k i : Nat) (h : FB w g b A n c xs k) (hk : k ≤ i) (hi : i ≤ n) :
    Calls Tryd.prog 66 #[.pointer (some ⟨g, 0, none⟩), .int .i64 i] w fun e w' => e = .returned (.tuple #[.int .i64 (mF xs i).1, .int .i64 (mF xs i).2]) ∧ ∃ k', k ≤ k' ∧ k' ≤ i ∧ FB w' g b A n c xs k' ∧ Keeps [g, b] w w' := by
  have hB := h.bound
  have H := Lib.hid h
  have hlen : xs.length = n := h.ri.len
  obtain ⟨pr, last, hraw, -, -⟩ := h.raw
  have c0 := hraw.cells.1
  clear hraw h
  have w3 : IntKind.i64.wrap ((i : Int) + 3) = (i : Int) + 3 := IntWalk.i64_in _ (by omega)
  by_cases hs : i + 3 ≤ n
  rotate_left
  · have x1 : decide ((n : Int) < (i : Int) + 3) = true := by simp; omega
    rw [mF_short xs i (by omega) (by omega)]
    go_enter Tryd.func66, Tryd.ntmps66
    go_wp2_with fail
    go_step3
    go_wp2_with fail
    rw [Exit.noGoto_ret]
    go_ret2
    exact ⟨rfl, k, Nat.le_refl _, hk, H.out, Keeps.refl _ _⟩
  have x1 : decide ((n : Int) < (i : Int) + 3) = false := by simp; omega
  go_enter Tryd.func66, Tryd.ntmps66
  go_wp2_with fail
  go_step3
  go_wp2_with fail
  refine (know_calls w g b A n c xs k i H.out hk hs).mono ?_
  rintro _ w1 ⟨rfl, h1, hk1⟩
  have H1 := Lib.hid h1
  have HK1 := Lib.hid hk1
  obtain ⟨pr1, last1, hr1, hl1, hp1⟩ := h1.raw
  have HR1 := Lib.hid hr1
  have HL1 := Lib.hid hl1
  have HP1 := Lib.hid hp1
  clear h1 hk1 hr1 hl1 hp1 c0 H x1
  obtain ⟨E, hE⟩ : ∃ E : Nat, (if (n : Int) - (i : Int) < 258 then (n : Int) - (i : Int) else 258) = (E : Int) := ⟨min 258 (n - i), by split <;> omega⟩
  have hE2 : E = min 258 (n - i) := by split at hE <;> omega
  have HE := Lib.hid hE2
  have hq := fun m => hash_calls (w1.drewN m) g b A n c xs i i (H1.out.keeps (S := []) ((Keeps.refl [] w1).drewN m) (by simp) (by simp) (off_nil _)) hs
  have hlt := hashF_lt xs i
  obtain ⟨q, hqq⟩ : ∃ q, q = hashF xs i := ⟨_, rfl⟩
  rw [← hqq] at hq hlt
  have HQ := Lib.hid hq
  have HQQ := Lib.hid hqq
  obtain ⟨c0, c1, c2, c3, c4, f1, f2⟩ := HR1.out.cells
  replace c3 := c3 q hlt
  rw [HL1.out q hlt] at c3
  obtain ⟨p0, hp0⟩ : ∃ p0, p0 = lastF (hashF xs) q i := ⟨_, rfl⟩
  rw [← hp0] at c3
  have HP0 := Lib.hid hp0
  have hp0i : p0 ≤ i := by rw [hp0]; exact (lastF_spec _ _ _).1
  clear hE2 hq hqq c4 hp0
  have wp : IntKind.i64.wrap ((p0 : Int) - 1) = (p0 : Int) - 1 := IntWalk.i64_in _ (by omega)
  go_wp2_with fail
  go_step3
  go_upto_region 5 with (fail)
  clear hE
  go_quiet (first | (go_at_call 88; exact Calls.quiet_of (HQ.out _)))
  go_wp2_with fail
  have hb0 : bestF xs i (i - p0) = (0, 0) := by
    rw [HP0.out, HQQ.out, best_chain (hashF_marks xs) i i (Nat.le_refl _), Nat.sub_self]; rfl
  have hh0 : p0 ≠ 0 → hashF xs (p0 - 1) = q := by rw [HP0.out]; exact (lastF_spec (hashF xs) q i).2.2
  have HB0 := Lib.hid hb0
  have HH0 := Lib.hid hh0
  clear hb0 hh0 c0 c1 c2 c3 f1 f2 wp
  go_loopw [4, 5, 7] (fun lv dv av wr => ∃ p l d : Nat, p ≤ i ∧ av = .int .i64 ((p : Int) - 1) ∧ lv = .int .i64 l ∧ dv = .int .i64 d ∧ Hid (bestF xs i (i - p) = (l, d)) ∧ Hid (p ≠ 0 → hashF xs (p - 1) = q) ∧ Hid (Keeps [] w1 wr)) (fun _ _ av _ => (intOf av + 1).toNat)
  case atStart => exact ⟨p0, 0, 0, hp0i, rfl, rfl, rfl, HB0, HH0, Lib.hid (by repeat (first | exact Keeps.refl _ _ | apply Keeps.drewN | apply Keeps.drew))⟩
  case round =>
    clear HB0 HH0 HP0 hp0i
    obtain ⟨p, l, d, hp, rfl, rfl, rfl, HBF, HH, HK⟩ := hrel
    by_cases hp1 : p = 0
    · subst hp1
      have x2 : decide ((0 : Int) ≤ ((0 : Nat) : Int) - 1) = false := by decide
      have HM : Hid (mF xs i = (l, d)) := Lib.hid HBF.out
      go_wp2_with fail
      rw [Exit.noGoto_ret]
      go_ret2
      exact ⟨by rw [HM.out]; rfl, i, hk, Nat.le_refl _, H1.out.keeps HK.out (by simp) (by simp) (off_nil _), HK1.out.trans (HK.out.mono (fun x hx => by cases hx))⟩
    · obtain ⟨t, rfl⟩ : ∃ t, p = t + 1 := ⟨p - 1, by omega⟩
      have ht : (((t + 1 : Nat) : Int) - 1) = (t : Int) := by omega
      rw [ht]
      have x3 : decide ((32768 : Int) < (i : Int) - t) = false := by simp; omega
      obtain ⟨c0, c1, c2, -, c4, f1, f2⟩ := (HR1.out.keeps HK.out (by simp) (by simp)).cells
      have hHK0 : Hid (∀ j, j < 0 → i + j < xs.length ∧ nth xs (i + j) = nth xs (i + j - (i - t))) := Lib.hid (fun j hj => by omega)
      go_wp2_with fail
      go_loopw [4, 5, 8, 52] (fun lv dv _ kv wi => ∃ kk : Nat, kk ≤ E ∧ kv = .int .i64 kk ∧ lv = .int .i64 l ∧ dv = .int .i64 d ∧ Hid (∀ j, j < kk → i + j < xs.length ∧ nth xs (i + j) = nth xs (i + j - (i - t))) ∧ Hid (Keeps [] w1 wi)) (fun _ _ _ kv _ => E - (intOf kv).toNat)
      case atStart => exact ⟨0, by omega, rfl, rfl, rfl, hHK0, HK⟩
      case round =>
        clear hHK0 HK c0 c1 c2 c4 f1 f2
        obtain ⟨kk, hkk, rfl, rfl, rfl, HEQ, HK⟩ := hrel
        obtain ⟨c0, c1, c2, -, c4, f1, f2⟩ := (HR1.out.keeps HK.out (by simp) (by simp)).cells
        by_cases hlt2 : kk < E
        · have he := HE.out
          have hri := H1.out.ri.keeps HK.out (off_nil _)
          obtain ⟨bb, o, hA, k1⟩ := hri.at (show i + kk < n by omega)
          have k2 := hri.cell bb o hA (t + kk) (by omega)
          have s1 : ((i : Int) + kk).toNat = i + kk := by omega
          have s2 : ((t : Int) + kk).toNat = t + kk := by omega
          have s3 : (0 : Int) ≤ (i : Int) + kk := by omega
          have s4 : (0 : Int) ≤ (t : Int) + kk := by omega
          have s5 : (i : Int) + kk < (n : Int) := by omega
          have s6 : (t : Int) + kk < (n : Int) := by omega
          have w4 : IntKind.i64.wrap ((i : Int) + kk) = (i : Int) + kk := IntWalk.i64_in _ (by omega)
          have w5 : IntKind.i64.wrap ((t : Int) + kk) = (t : Int) + kk := IntWalk.i64_in _ (by omega)
          have x4 : decide ((kk : Int) < (E : Int)) = true := by simp; omega
          obtain ⟨x, hx⟩ : ∃ x, x = nth xs (i + kk) := ⟨_, rfl⟩
          obtain ⟨y, hy⟩ : ∃ y, y = nth xs (t + kk) := ⟨_, rfl⟩
          rw [← hx] at k1
          rw [← hy] at k2
          have HX := Lib.hid hx
          have HY := Lib.hid hy
          subst hA
          have k3 := c4 t (by omega)
          rw [HP1.out t (by omega)] at k3
          have hht : hashF xs t = q := HH.out (by omega)
          rw [hht] at k3
          obtain ⟨p2, hp2⟩ : ∃ p2, p2 = lastF (hashF xs) q t := ⟨_, rfl⟩
          rw [← hp2] at k3
          have hp2t : p2 ≤ t := by rw [hp2]; exact (lastF_spec _ _ _).1
          have HP2 := Lib.hid hp2
          have HHT := Lib.hid hht
          have wp2 : IntKind.i64.wrap ((p2 : Int) - 1) = (p2 : Int) - 1 := IntWalk.i64_in _ (by omega)
          have wk : IntKind.i64.wrap ((kk : Int) + 1) = (kk : Int) + 1 := IntWalk.i64_in _ (by omega)
          have wd : IntKind.i64.wrap ((i : Int) - t) = (i : Int) - t := IntWalk.i64_in _ (by omega)
          have hnext : Hid (bestF xs i (i - p2) = bestF xs i (i - t)) := Lib.hid (by rw [HP2.out, HQQ.out]; exact best_chain (hashF_marks xs) i t (by omega))
          have hprev : Hid (p2 ≠ 0 → hashF xs (p2 - 1) = q) := Lib.hid (by rw [HP2.out]; exact (lastF_spec (hashF xs) q t).2.2)
          have hstep : Hid (bestF xs i (i - t) = updF (l, d) (clF xs i (i - t)) (i - t)) := Lib.hid (by
            rw [show i - t = (i - (t + 1)) + 1 by omega, bestF, HBF.out])
          clear he hri hx hy c4 hp2 hht
          by_cases hxy : y = x
          · have x5 : (y != x) = false := by simpa using hxy
            go_upto_region 12 with (fail)
            go_quiet (fail)
            go_wp2_with fail
            go_roundw
            case rel =>
              refine ⟨kk + 1, by omega, by go_num, rfl, rfl, Lib.hid (fun j hj => ?_), Lib.hid (HK.out.trans (by repeat (first | exact Keeps.refl _ _ | apply Keeps.drewN | apply Keeps.drew)))⟩
              rcases Nat.lt_or_ge j kk with h1 | h1
              · exact HEQ.out j h1
              · obtain rfl : j = kk := by omega
                exact ⟨by omega, by rw [show i + j - (i - t) = t + j by omega, ← HX.out, ← HY.out, hxy]⟩
            case measure => simp [intOf]; omega
          · have x5 : (y != x) = true := by simpa using hxy
            have hcl : clF xs i (i - t) = kk := clF_of xs i (i - t) kk HEQ.out (by have := HE.out; omega) (.inr (.inr (by rw [show i + kk - (i - t) = t + kk by omega, ← HX.out, ← HY.out]; exact fun e => hxy e.symm)))
            rw [hcl] at hstep
            have HCL := Lib.hid hcl
            clear hcl
            by_cases h3 : 3 ≤ kk
            · have x6 : decide ((3 : Int) ≤ (kk : Int)) = true := by simp; omega
              by_cases hlk : l < kk
              · have x7 : decide ((l : Int) < (kk : Int)) = true := by simp; omega
                go_upto_region 12 with (fail)
                go_quiet (fail)
                go_wp2_with fail
                go_roundw
                case rel => exact ⟨p2, kk, i - t, by omega, rfl, rfl, by go_num, Lib.hid (by rw [hnext.out, hstep.out, updF, if_pos ⟨h3, hlk⟩]), hprev, Lib.hid (HK.out.trans (by repeat (first | exact Keeps.refl _ _ | apply Keeps.drewN | apply Keeps.drew)))⟩
                case measure => simp [intOf]; omega
              · have x7 : decide ((l : Int) < (kk : Int)) = false := by simp; omega
                go_upto_region 12 with (fail)
                go_quiet (fail)
                go_wp2_with fail
                go_roundw
                case rel => exact ⟨p2, l, d, by omega, rfl, rfl, rfl, Lib.hid (by rw [hnext.out, hstep.out, updF, if_neg (by rintro ⟨a1, a2⟩; omega)]), hprev, Lib.hid (HK.out.trans (by repeat (first | exact Keeps.refl _ _ | apply Keeps.drewN | apply Keeps.drew)))⟩
                case measure => simp [intOf]; omega
            · have x6 : decide ((3 : Int) ≤ (kk : Int)) = false := by simp; omega
              go_upto_region 12 with (fail)
              go_quiet (fail)
              go_wp2_with fail
              go_roundw
              case rel => exact ⟨p2, l, d, by omega, rfl, rfl, rfl, Lib.hid (by rw [hnext.out, hstep.out, updF, if_neg (by rintro ⟨a1, a2⟩; omega)]), hprev, Lib.hid (HK.out.trans (by repeat (first | exact Keeps.refl _ _ | apply Keeps.drewN | apply Keeps.drew)))⟩
              case measure => simp [intOf]; omega
        · obtain rfl : kk = E := by omega
          have x4 : decide ((kk : Int) < (kk : Int)) = false := by simp
          have wd : IntKind.i64.wrap ((i : Int) - t) = (i : Int) - t := IntWalk.i64_in _ (by omega)
          have he := HE.out
          have hcl : clF xs i (i - t) = kk := clF_of xs i (i - t) kk HEQ.out (by omega) (by omega)
          have hstep : bestF xs i (i - t) = updF (l, d) kk (i - t) := by rw [show i - t = (i - (t + 1)) + 1 by omega, bestF, HBF.out, ← show i - t = (i - (t + 1)) + 1 by omega, hcl]
          by_cases hlk : l < kk
          · have x7 : decide ((l : Int) < (kk : Int)) = true := by simp; omega
            have hb : bestF xs i (i - t) = (kk, i - t) := by rw [hstep, updF, if_pos ⟨by omega, hlk⟩]
            have hm : mF xs i = (kk, i - t) := by rw [← hb]; exact mF_full xs i (i - t) (by omega) (by omega) (by rw [hb, hlen]; exact he)
            have HM := Lib.hid hm
            clear c4 he hcl hstep hb hm
            go_wp2_with fail
            rw [Exit.noGoto_ret]
            go_ret2
            exact ⟨by rw [HM.out, show ((i : Int) - t) = ((i - t : Nat) : Int) by omega]; rfl, i, hk, Nat.le_refl _, H1.out.keeps HK.out (by simp) (by simp) (off_nil _), HK1.out.trans (HK.out.mono (fun x hx => by cases hx))⟩
          · have x7 : decide ((l : Int) < (kk : Int)) = false := by simp; omega
            have hb : bestF xs i (i - t) = (l, d) := by rw [hstep, updF, if_neg (by rintro ⟨a1, a2⟩; omega)]
            have hl2 : l = kk := by
              rcases best_spec xs i (i - (t + 1)) with h1 | ⟨h1, h2, h3, h4⟩
              · rw [HBF.out] at h1; injection h1 with h1 _; omega
              · rw [HBF.out] at h4
                have := clF_le xs i d
                have := clF_end xs i d (by omega)
                simp only [] at h4
                omega
            have hm : mF xs i = (l, d) := by rw [← hb]; exact mF_full xs i (i - t) (by omega) (by omega) (by rw [hb, hlen, ← he]; exact hl2)
            have HM := Lib.hid hm
            have HL2 := Lib.hid hl2
            clear c4 he hcl hstep hb hm hl2
            go_wp2_with fail
            rw [Exit.noGoto_ret]
            go_ret2
            exact ⟨by rw [HM.out]; rfl, i, hk, Nat.le_refl _, H1.out.keeps HK.out (by simp) (by simp) (off_nil _), HK1.out.trans (HK.out.mono (fun x hx => by cases hx))⟩
end Go.Proofs.YtkpabdjniiepkaaDoor

set_option linter.unusedVariables false
set_option linter.unusedSimpArgs false
/-! A range over a function whose iterator has two blocks of its own, laid first: what the two sides owe each other. -/
namespace Go.Proofs.YtkpabdjniiepkaaDoor
open Go.RowKit
/-- These blocks lie as they lay. -/
structure KeepsOn (C : Nat → Prop) (W W' : World) : Prop where
  size : W.heap.size ≤ W'.heap.size
  block : ∀ k, k < W.heap.size → C k → W'.heap[k]? = W.heap[k]?
theorem KeepsOn.trans {C : Nat → Prop} {A B D : World} (h : KeepsOn C A B) (k : KeepsOn C B D) : KeepsOn C A D :=
  ⟨Nat.le_trans h.size k.size, fun i hi hc => (k.block i (Nat.lt_of_lt_of_le hi h.size) hc).trans (h.block i hi hc)⟩
theorem KeepsOn.mono {C C' : Nat → Prop} {A B : World} (h : KeepsOn C A B) (hc : ∀ k, C' k → C k) : KeepsOn C' A B := ⟨h.size, fun i hi h' => h.block i hi (hc i h')⟩
theorem KeepsOn.of {C : Nat → Prop} {S : List Nat} {A B : World} (h : Keeps S A B) (hc : ∀ k, C k → k ∉ S) : KeepsOn C A B := ⟨h.size, fun i hi h' => h.block i hi (hc i h')⟩
theorem keeps_put (W : World) (l : Nat) (o : Obj) : Keeps [l] W (W.putObj l o) :=
  ⟨rfl, rfl, rfl, by simp, fun k hk hn => World.putObj_heap_other (by simpa using hn)⟩
/-- What an iterator gives: these, one after the other, to whatever rounds keep its blocks. -/
def Iter {α : Type} (P : Program) (gf : Nat) (lb : Array Value) (encs : α → Array Value) (toks : List α) (C : Nat → Prop) (w0 : World) : Prop :=
  ∀ (l : Nat) (J : List α → World → Prop) (W : World), Keeps [] w0 W → W.heap.size = w0.heap.size + 2 → (∀ s W1 W2, J s W1 → Keeps [w0.heap.size + 2, w0.heap.size + 3] W1 W2 → J s W2) →
    (∀ pre x W1, J pre W1 → pre.length < toks.length → w0.heap.size + 4 ≤ W1.heap.size → YieldAt Fence.wide 0 P l (encs x) W1 fun e W' => e = .returned (.bool true) ∧ J (pre ++ [x]) W' ∧ KeepsOn C W1 W') →
    J [] W → CallsIn Fence.wide 0 P gf (#[.func (.yield l) #[] #[]] ++ lb) W fun e W' => (∃ v, e = .returned v) ∧ J toks W'
def endPost {α : Type} (C : Nat → Prop) (I : List α → World → Prop) (xs : List α) (W : World) : Exit → Act → World → Prop
  | .normal, _, W' => I xs W' ∧ KeepsOn C W W'
  | _, _, _ => False
set_option maxHeartbeats 1000000 in
theorem range_law {P : Program} {α : Type} {g : Operand} {ps : Array Tmp} {assign body : Code} {Q : Exit → Act → World → Prop} {a : Act} {w : World} {gf : Nat} {lb : Array Value}
    (hg : a.eval g = .func (.func gf) #[] lb) (eg : ∀ args w, (callFunc gf args).run P w = .ok (.enter gf args) w)
    {encs : α → Array Value} {toks : List α} {C : Nat → Prop} (hC : ∀ k, C k → k ≠ w.heap.size + 1) (hseq : Iter P gf lb encs toks C w) (hps : ∀ x, (encs x).size = ps.size)
    (I : List α → World → Prop) (hI : ∀ s W1 W2, I s W1 → Keeps [w.heap.size, w.heap.size + 1, w.heap.size + 2, w.heap.size + 3] W1 W2 → I s W2) (h0 : I [] w)
    (Ax : α → World → Act → World → Prop) (hAx : ∀ x W a' W1, Ax x W a' W1 → Keeps [] W W1)
    (hassign : ∀ (l : Nat) (pre : List α) (x : α) (W : World) (K : Act → World → Prop), I pre W → w.heap.size + 4 ≤ W.heap.size → (∀ a' W1, Ax x W a' W1 → K a' W1) →
      assign.wpIn (Fence.wide.inRound l) 0 P (Exit.then K (fun _ _ _ => False)) { tmps := (ps.zip (encs x)).foldl (fun t (p, v) => t.setIfInBounds p v) a.tmps, defers := [] } W)
    (hbody : ∀ (pre : List α) (x : α) (W : World) (a' : Act) (W1 W2 : World), I pre W → pre.length < toks.length → w.heap.size + 4 ≤ W.heap.size → Ax x W a' W1 → Keeps [w.heap.size + 1] W1 W2 →
      body.wpIn (Fence.wide.inRound (w.heap.size + 1)) 0 P (endPost (fun k => C k ∨ k = w.heap.size ∨ k = w.heap.size + 1) I (pre ++ [x]) W2) a' W2)
    (hdone : ∀ (W : World), I toks W → W.heap[w.heap.size]? = some (.deferred (some [])) → Q .normal { a with defers := { target := .collected w.heap.size, args := #[] } :: a.defers } W) :
    (Code.rangeFunc g ps assign body).wpIn Fence.wide 0 P Q a w := by
  refine wpIn_rangeFunc ?_
  intro fn hfn
  obtain ⟨D, hD⟩ : ∃ D, D = w.heap.size := ⟨_, rfl⟩
  obtain ⟨rec, hrec⟩ : ∃ rec : LoopState → Option Code → Loop, rec = fun st pe => { state := st, pending := pe, fn, tmps := a.tmps, params := ps, assign, body, defers := w.heap.size } := ⟨_, rfl⟩
  obtain ⟨W1, hW1⟩ : ∃ W1, (w.alloc (.deferred (some []))).alloc (.loop (rec .ready none)) = W1 := ⟨_, rfl⟩
  have hk1 : Keeps [] w W1 := by rw [← hW1]; exact ((Keeps.refl [] w).alloc _).alloc _
  have hs1 : W1.heap.size = w.heap.size + 2 := by rw [← hW1]; simp
  have hL1 : W1.heap[w.heap.size + 1]? = some (.loop (rec .ready none)) := by
    rw [← hW1]; have := World.alloc_heap_new (w.alloc (.deferred (some []))) (.loop (rec .ready none)); rwa [World.size_alloc] at this
  have hK1 : W1.heap[w.heap.size]? = some (.deferred (some [])) := by
    rw [← hW1]; exact (Below.heap_alloc _ _ _ (by simp)).trans (World.alloc_heap_new w _)
  refine ⟨w.heap.size + 1, [{ target := .collected w.heap.size, args := #[] }], W1, { target := .fn (.func gf) lb, args := #[.func (.yield (w.heap.size + 1)) #[] #[]] }, W1, gf,
    #[.func (.yield (w.heap.size + 1)) #[] #[]] ++ lb, W1, ?_, ?_, fun _ _ => trivial, ?_, fun h => by simp [Fence.wide] at h, ?_⟩
  · rw [← hW1, hrec]; exact run_enterLoop_outer _ _ _ _ _
  · simp only [resolve, hg]
    simp [go_sem]
  · simp [invoke, go_sem, eg]
  refine (hseq (w.heap.size + 1)
    (fun pre W => I pre W ∧ W.heap[w.heap.size + 1]? = some (.loop (rec .ready none)) ∧ W.heap[w.heap.size]? = some (.deferred (some [])))
    W1 hk1 hs1
    (fun s A B hs hk => ⟨hI s A B hs.1 (hk.mono (fun x hx => by simp at hx ⊢; omega)), hk.heap hs.2.1 (by simp), hk.heap hs.2.2 (by simp)⟩)
    ?_ ⟨hI [] w W1 h0 (hk1.mono (fun x hx => by cases hx)), hL1, hK1⟩).mono ?_
  · rintro pre x W ⟨hi, hl, hk⟩ hpl hsz
    have hy := run_yield (P := P) (args := encs x) hl (by rw [hrec]; exact hps x)
    rw [hrec] at hy
    refine ⟨fn, _, assign, body, hy, roundIn_of_wpIn hfn (hassign _ pre x W _ hi hsz (fun a' W2 hax => ?_))⟩
    have hkx := hAx x W a' W2 hax
    have hl2 := hkx.heap hl (by simp)
    have hd2 := hkx.heap hk (by simp)
    refine ⟨_, run_beginRound hl2 (by rw [hrec]), ?_⟩
    obtain ⟨W3, hW3⟩ : ∃ W3, W2.putObj (w.heap.size + 1) (.loop { rec .ready none with state := .busy }) = W3 := ⟨_, rfl⟩
    rw [hW3]
    have hk3 : Keeps [w.heap.size + 1] W2 W3 := by rw [← hW3]; exact keeps_put _ _ _
    have hl3 : W3.heap[w.heap.size + 1]? = some (.loop { rec .ready none with state := .busy }) := by rw [← hW3]; exact World.putObj_heap_same (Array.getElem?_eq_some_iff.1 hl2).1
    have hd3 := hk3.heap hd2 (by simp)
    refine wpIn_mono (hbody pre x W a' W2 W3 hi hpl hsz hax hk3) ?_
    rintro e a3 W4 hp
    cases e with
    | normal =>
      obtain ⟨hi4, hk4⟩ := hp
      have hl4 := (hk4.block _ (Array.getElem?_eq_some_iff.1 hl3).1 (.inr (.inr rfl))).trans hl3
      have hd4 := (hk4.block _ (Array.getElem?_eq_some_iff.1 hd3).1 (.inr (.inl rfl))).trans hd3
      have hr := run_endRound (P := P) none hl4
      rw [hrec] at hr
      refine ⟨_, _, hr, rfl, ⟨hI _ _ _ hi4 ((keeps_put W4 (w.heap.size + 1) _).mono (fun x hx => by simp at hx ⊢; omega)), ?_, ?_⟩, ?_⟩
      · rw [World.putObj_heap_same (Array.getElem?_eq_some_iff.1 hl4).1, hrec]; rfl
      · exact (World.putObj_heap_other (by omega)).trans hd4
      · refine KeepsOn.trans (KeepsOn.of hkx (fun _ _ => by simp)) (KeepsOn.trans (KeepsOn.of hk3 (fun k hc => by simpa using hC k hc)) (KeepsOn.trans (hk4.mono (fun k hc => .inl hc)) (KeepsOn.of (keeps_put W4 (w.heap.size + 1) _) (fun k hc => by simpa using hC k hc))))
    | _ => exact hp.elim
  · rintro e W2 ⟨⟨v, rfl⟩, hi, hl, hk⟩
    exact ⟨none, _, by have := run_endLoop (P := P) hl (by rw [hrec]; simp); rw [hrec] at this; exact this, hdone _ (hI _ _ _ hi ((keeps_put W2 (w.heap.size + 1) _).mono (fun x hx => by simp at hx ⊢; omega))) ((World.putObj_heap_other (by omega)).trans hk)⟩
end Go.Proofs.YtkpabdjniiepkaaDoor

set_option linter.unusedVariables false
set_option linter.unusedSimpArgs false
namespace Go.Proofs.YtkpabdjniiepkaaDoor
open Go.RowKit
set_option maxRecDepth 100000 in
theorem built_finder (A : Option Addr) (n c b : Nat) : Tryd.prog.built 111 [(0, .slice A n c), (2, .slice (some ⟨b, 0, none⟩) n n)] = some (fcells A n c (List.replicate 4096 0) b 0).toArray := by kernel_rfl
set_option maxRecDepth 100000 in
theorem zero_finder (A : Option Addr) (n c b : Nat) : (Tryd.zeroCells111.setIfInBounds 0 (.slice A n c)).setIfInBounds 4097 (.slice (some ⟨b, 0, none⟩) n n) = (fcells A n c (List.replicate 4096 0) b 0).toArray := by kernel_rfl
theorem nth_rep0 (m v : Nat) (h : v < m) : nth (List.replicate m (0 : Int)) v = 0 := by
  simp [nth, List.getD, List.getElem?_replicate, h]
/-- A new finder. -/
theorem FB.start {w : World} {g b : Nat} {A : Option Addr} {n c : Nat} {xs : List Int} (h1 : Blk w g 111 (fcells A n c (List.replicate 4096 0) b 0)) (h2 : Blk w b 3 (ints .i64 (List.replicate n 0))) (hr : RI .u8 w A n xs) (hc : CapOk A n c) (ho : Off [g, b] A) (hne : g ≠ b) (hb : ∀ j, 0 ≤ nth xs j ∧ nth xs j ≤ 255) (hn : n ≤ 16384) : FB w g b A n c xs 0 :=
  ⟨⟨List.replicate n 0, List.replicate 4096 0, ⟨h1, h2, List.length_replicate, List.length_replicate, hne⟩, fun v hv => by rw [nth_rep0 _ _ hv]; rfl, fun j hj => by omega⟩, hr, hc, ho, hb, hn, Nat.zero_le _⟩
theorem KeepsOn.heap {C : Nat → Prop} {W W' : World} (h : KeepsOn C W W') {g : Nat} {o : Obj} (hg : W.heap[g]? = some o) (hc : C g) : W'.heap[g]? = some o := (h.block g (Array.getElem?_eq_some_iff.1 hg).1 hc).trans hg
theorem KeepsOn.cell {C : Nat → Prop} {W W' : World} (h : KeepsOn C W W') {p : Addr} {v : Value} (hv : W.cell? p = some v) (hc : C p.block) : W'.cell? p = some v := by
  have hlt : p.block < W.heap.size := by
    rcases Nat.lt_or_ge p.block W.heap.size with h1 | h1
    · exact h1
    · exfalso
      have : W.heap[p.block]? = none := Array.getElem?_eq_none h1
      simp [World.cell?, this] at hv
  have e := h.block _ hlt hc
  rw [← hv]
  simp only [World.cell?, e]
theorem FB.keepsOn {w w' : World} {g b : Nat} {A : Option Addr} {n c : Nat} {xs : List Int} {k : Nat} {C : Nat → Prop} (h : FB w g b A n c xs k) (hk : KeepsOn C w w') (hg : C g) (hb : C b) (hA : ∀ a, A = some a → C a.block) : FB w' g b A n c xs k := by
  obtain ⟨pr, last, p1, p2, p3⟩ := h.raw
  exact ⟨⟨pr, last, ⟨hk.heap p1.blk hg, hk.heap p1.row hb, p1.lenP, p1.lenL, p1.ne⟩, p2, p3⟩, ⟨h.ri.len, h.ri.hd, fun bb o ha j hj => hk.cell (h.ri.cell bb o ha j hj) (show C bb from hA _ ha)⟩, h.cap, h.off, h.byte, h.bound, h.known⟩
/-- The tokens, one step on. -/
theorem find_at {xs : List Int} {i : Nat} (h : i < xs.length) : findF xs xs.length i = if (mF xs i).1 = 0 ∨ (mF xs i).1 < (mF xs (i + 1)).1 then (nth xs i, 0, 0) :: findF xs xs.length (i + 1) else (0, ((mF xs i).1 : Int), ((mF xs i).2 : Int)) :: findF xs xs.length (i + (mF xs i).1) := by
  obtain ⟨f, hf⟩ : ∃ f, xs.length = f + 1 := ⟨xs.length - 1, by omega⟩
  have e : findF xs xs.length i = findF xs (f + 1) i := by rw [hf]
  rw [e, findF, if_pos h]
  split
  · rw [find_more xs f xs.length (i + 1) (by omega) (by omega)]
  · next hc =>
    have : 1 ≤ (mF xs i).1 := by omega
    rw [find_more xs f xs.length (i + (mF xs i).1) (by omega) (by omega)]
end Go.Proofs.YtkpabdjniiepkaaDoor

set_option linter.unusedVariables false
set_option linter.unusedSimpArgs false
namespace Go.Proofs.YtkpabdjniiepkaaDoor
open Go.RowKit
set_option maxRecDepth 100000 in
set_option maxHeartbeats 2000000 in
theorem all1_iter (w0 : World) (Bo : Nat) (A : Option Addr) (n c : Nat) (xs : List Int) (hr : RI .u8 w0 A n xs) (hc : CapOk A n c) (hb : ∀ j, 0 ≤ nth xs j ∧ nth xs j ≤ 255) (hn : n ≤ 16384) (hB : w0.cell? ⟨Bo, 0, none⟩ = some (.slice A n c)) (hA : ∀ a, A = some a → a.block < w0.heap.size) (hBo : Bo < w0.heap.size) :
    Iter Tryd.prog 65 #[.pointer (some ⟨Bo, 0, none⟩)] (fun t => #[tokV t]) (tokensF xs) (fun k => k = w0.heap.size + 2 ∨ k = w0.heap.size + 3 ∨ k = Bo ∨ ∃ a, A = some a ∧ k = a.block) w0 := by
  intro l J W hW hWs hJ hY h0
  refine callsIn_wide.2 ?_
  have hlen : xs.length = n := hr.len
  have c0 := hW.cell (p := ⟨Bo, 0, none⟩) (by simp) hB
  have HR := Lib.hid (hr.keeps hW (off_nil _))
  have HJ := Lib.hid hJ
  have HY := Lib.hid hY
  have H0 := Lib.hid h0
  have x1 : decide ((16384 : Int) < (n : Int)) = false := by simp; omega
  clear hr hJ hY h0 hB
  go_enter Tryd.func65, Tryd.ntmps65
  go_wp2_with fail
  have hmk := fun w => make_ints (P := Tryd.prog) w 51 3 .i64 8 Tryd.underlying51 info_int (n : Int) n rfl (by omega) (by omega)
  have hbd := fun (w : World) (b : Nat) => run_build (P := Tryd.prog) w 111 #[(0, .slice A n c), (2, .slice (some ⟨b, 0, none⟩) n n)] _ (built_finder A n c b)
  have c0a : (W.alloc (.cells (ints .i64 (List.replicate n 0)).toArray 3)).cell? ⟨Bo, 0, none⟩ = some (.slice A n c) := ((Keeps.refl [] W).alloc _).cell (by simp) c0
  go_region
  clear hmk hbd c0a
  obtain ⟨m, hm⟩ : ∃ m, m = w0.heap.size + 2 := ⟨_, rfl⟩
  rw [← hm]
  obtain ⟨W2, hW2⟩ : ∃ W2, W2 = (((W.alloc (.cells (ints .i64 (List.replicate n 0)).toArray 3)).alloc (.cells ((Tryd.zeroCells111.setIfInBounds 0 (.slice A n c)).setIfInBounds 4097 (.slice (some ⟨m, 0, none⟩) n n)) 111)).drew) := ⟨_, rfl⟩
  rw [← hW2]
  have hk2 : Keeps [] W W2 := by rw [hW2]; exact (((Keeps.refl [] W).alloc _).alloc _).drew
  have hs2 : W2.heap.size = m + 2 := by rw [hW2]; simp [hWs, hm]
  have hbb : Blk W2 m 3 (ints .i64 (List.replicate n 0)) := by
    have h1 := blk_new W 3 (ints .i64 (List.replicate n 0))
    rw [hWs, ← hm] at h1
    rw [hW2]
    exact h1.keeps (S := []) (((Keeps.refl [] _).alloc _).drew) (by simp)
  have hgg : Blk W2 (m + 1) 111 (fcells A n c (List.replicate 4096 0) m 0) := by
    have h1 := blk_new (W.alloc (.cells (ints .i64 (List.replicate n 0)).toArray 3)) 111 (fcells A n c (List.replicate 4096 0) m 0)
    rw [World.size_alloc, hWs, ← hm] at h1
    rw [hW2, zero_finder]
    exact h1.keeps (S := []) ((Keeps.refl [] _).drew) (by simp)
  have hfb : FB W2 (m + 1) m A n c xs 0 := FB.start hgg hbb (HR.out.keeps hk2 (off_nil _)) hc (fun a ha hx => by have := hA a ha; simp at hx; omega) (by omega) hb hn
  have c2 := hk2.cell (p := ⟨Bo, 0, none⟩) (by simp) c0
  have hj2 := HJ.out [] W W2 H0.out (hk2.mono (fun x hx => by cases hx))
  rw [← hm, show w0.heap.size + 3 = m + 1 by omega] at HJ
  rw [show w0.heap.size + 4 = m + 2 by omega] at HY
  have hfind : [] ++ findF xs xs.length 0 = tokensF xs := rfl
  have HF0 := Lib.hid hfb
  have HJ0 := Lib.hid hj2
  have HT0 := Lib.hid hfind
  have HSZ0 : Hid (m + 2 ≤ W2.heap.size) := Lib.hid (by omega)
  have HM0 := Lib.hid hm
  clear hm hW2 hk2 hs2 hbb hgg hfb hj2 hfind c0 HR H0 hW hWs x1
  go_wp2_with fail
  go_loopw [4] (fun iv wr => ∃ (i k : Nat) (pre : List Tok), i ≤ n ∧ k ≤ i ∧ iv = .int .i64 i ∧ wr.cell? ⟨Bo, 0, none⟩ = some (.slice A n c) ∧ Hid (pre ++ findF xs xs.length i = tokensF xs) ∧ Hid (J pre wr) ∧ Hid (FB wr (m + 1) m A n c xs k) ∧ Hid (m + 2 ≤ wr.heap.size)) (fun iv _ => n - (intOf iv).toNat)
  case atStart => exact ⟨0, 0, [], by omega, by omega, rfl, c2, HT0, HJ0, HF0, HSZ0⟩
  case round =>
    clear HT0 HJ0 HF0 HSZ0 c2
    obtain ⟨i, k, pre, hi, hk, rfl, c2, HT, HJP, HF, HSZ⟩ := hrel
    by_cases hlt : i < n
    · have x2 : decide ((i : Int) < (n : Int)) = true := by simp; omega
      obtain ⟨bb, o, hAA, k1⟩ := HF.out.ri.at (show i < n by omega)
      subst hAA
      have s1 : ((i : Int)).toNat = i := by omega
      have hBm : Bo < m := by have := HM0.out; omega
      have hbbm : bb < m := by have := HM0.out; have := hA _ rfl; simp at this; omega
      go_wp2_with fail
      obtain ⟨x, hx⟩ : ∃ x, x = nth xs i := ⟨_, rfl⟩
      rw [← hx]
      obtain ⟨tb, htb⟩ : ∃ tb, tb = wr.heap.size := ⟨_, rfl⟩
      rw [← htb]
      obtain ⟨w3, hw3⟩ : ∃ w3, w3 = wr.alloc (.cells #[.int .u8 x, .int .i64 0, .int .i64 0] 33) := ⟨_, rfl⟩
      rw [← hw3]
      have hk3 : Keeps [] wr w3 := by rw [hw3]; exact (Keeps.refl [] wr).alloc _
      have hb3 : Blk w3 tb 33 (tcells (x, 0, 0)) := by rw [hw3, htb]; exact blk_new wr _ (tcells (x, 0, 0))
      have hs3 : m + 2 ≤ w3.heap.size := Nat.le_trans HSZ.out hk3.size
      have htm : m + 2 ≤ tb := by rw [htb]; exact HSZ.out
      have HF3 := Lib.hid (HF.out.keeps hk3 (by simp) (by simp) (off_nil _))
      have HTB : Hid (wr.heap.size ≤ tb) := Lib.hid (by omega)
      have HX := Lib.hid hx
      have HK3 := Lib.hid hk3
      have HB3 := Lib.hid hb3
      clear hx hw3 hk3 hb3 HF k1 htb
      refine (match_calls w3 (m + 1) m _ n c xs k i HF3.out hk (by omega)).mono ?_
      rintro _ w4 ⟨rfl, k', hk1, hk2, h4, hkp4⟩
      have c4 := hkp4.cell (p := ⟨Bo, 0, none⟩) (by simp; omega) (HK3.out.cell (p := ⟨Bo, 0, none⟩) (by simp) c2)
      have HB4 := Lib.hid (HB3.out.keeps hkp4 (by simp; omega))
      have HJ4 := Lib.hid (HJ.out pre wr w4 HJP.out ((HK3.out.mono (fun x hx => by cases hx)).trans (hkp4.mono (fun x hx => by simp at hx ⊢; omega))))
      have HKR4 := Lib.hid ((HK3.out.mono (S' := [m, m + 1]) (fun x hx => by cases hx)).trans (hkp4.mono (S' := [m, m + 1]) (fun x hx => by simp at hx ⊢; omega)))
      have HF4 := Lib.hid h4
      have HS4 : Hid (m + 2 ≤ w4.heap.size) := Lib.hid (Nat.le_trans hs3 hkp4.size)
      have HFA := Lib.hid (find_at (xs := xs) (i := i) (by omega))
      have HTS := Lib.hid HT.out
      have HPL : Hid (pre.length < (tokensF xs).length) := Lib.hid (by rw [← HTS.out, List.length_append, find_at (xs := xs) (i := i) (by omega)]; split <;> simp)
      clear h4 hkp4 HF3 HB3 HK3 c2 hs3 HSZ HT
      have hsp := mF_spec xs i
      generalize hmm : mF xs i = mm at *
      obtain ⟨ln, ds⟩ := mm
      simp only [] at HFA hsp ⊢
      have HMM := Lib.hid hmm
      have HSP := Lib.hid hsp
      clear hmm hsp
      by_cases hz : ln = 0
      · subst hz
        have x3 : decide ((0 : Int) < ((0 : Nat) : Int)) = false := by decide
        obtain ⟨fn, tmps, assign, body, hy, hR⟩ := HY.out pre (x, 0, 0) w4 HJ4.out HPL.out HS4.out
        have HRR := Lib.hid hR
        clear hR
        obtain ⟨t0, t1, t2⟩ : w4.cell? ⟨tb, 0, none⟩ = some (.int .u8 x) ∧ w4.cell? ⟨tb, 1, none⟩ = some (.int .i64 0) ∧ w4.cell? ⟨tb, 2, none⟩ = some (.int .i64 0) := ⟨HB4.out.cell 0, HB4.out.cell 1, HB4.out.cell 2⟩
        go_upto_region 11 with (fail)
        dsimp only [tokV] at hy
        refine (wpIn_wide (n := 0)).1 ?_
        gi_wp2
        refine ⟨rfl, HRR.out.mono ?_⟩
        rintro _ W5 ⟨rfl, hJ5, hk5⟩
        have c5 := hk5.cell (p := ⟨Bo, 0, none⟩) c4 (.inr (.inr (.inl rfl)))
        have HJ5 := Lib.hid hJ5
        have HF5 := Lib.hid (HF4.out.keepsOn hk5 (.inr (.inl (by have := HM0.out; omega))) (.inl HM0.out) (fun a ha => .inr (.inr (.inr ⟨a, ha, rfl⟩))))
        have HS5 : Hid (m + 2 ≤ W5.heap.size) := Lib.hid (Nat.le_trans HS4.out hk5.size)
        clear hJ5 hk5 hy HRR c4 HB4 HF4 HS4 HJ4
        have w1 : IntKind.i64.wrap ((i : Int) + 1) = (i : Int) + 1 := IntWalk.i64_in _ (by omega)
        gi_wp2
        go_wp2_with fail
        go_roundw
        case rel =>
          refine ⟨i + 1, k', pre ++ [(x, 0, 0)], by omega, by omega, by go_num, c5, Lib.hid ?_, HJ5, HF5, HS5⟩
          rw [if_pos (.inl (by simp)), ← HX.out] at HFA
          rw [← HTS.out, HFA.out, List.append_assoc]; rfl
        case measure => simp [intOf]; omega
      · have x3 : decide ((0 : Int) < (ln : Int)) = true := by simp; omega
        obtain ⟨q1, q2, q3, q4⟩ := HSP.out.resolve_left (fun e => hz (congrArg Prod.fst e))
        have hend := clF_end xs i ds (by omega)
        rw [q4, hlen] at hend
        have HQ4 := Lib.hid q4
        clear q4
        have w1 : IntKind.i64.wrap ((i : Int) + 1) = (i : Int) + 1 := IntWalk.i64_in _ (by omega)
        have wl : IntKind.i64.wrap ((i : Int) + ln) = (i : Int) + ln := IntWalk.i64_in _ (by omega)
        go_wp2_with fail
        have hcall := match_calls w4 (m + 1) m _ n c xs k' (i + 1) HF4.out (by omega) (by omega)
        rw [show (((i + 1 : Nat) : Int)) = (i : Int) + 1 by omega] at hcall
        refine hcall.mono ?_
        clear hcall
        rintro _ w6 ⟨rfl, k6, hk61, hk62, h6, hkp6⟩
        have c6 := hkp6.cell (p := ⟨Bo, 0, none⟩) (by simp; omega) c4
        have hB6 := HB4.out.keeps hkp6 (by simp; omega)
        have HJ6a := Lib.hid (HJ.out pre w4 w6 HJ4.out (hkp6.mono (fun x hx => by simp at hx ⊢; omega)))
        have HKR6 := Lib.hid (HKR4.out.trans (hkp6.mono (S' := [m, m + 1]) (fun x hx => by simp at hx ⊢; omega)))
        have HF6a := Lib.hid h6
        have HS6a : Hid (m + 2 ≤ w6.heap.size) := Lib.hid (Nat.le_trans HS4.out hkp6.size)
        have HB6a := Lib.hid hB6
        clear h6 hkp6 hB6 c4 HF4 HB4 HS4 HJ4
        generalize (mF xs (i + 1)).1 = l2 at *
        generalize (mF xs (i + 1)).2 = d2 at *
        by_cases hl2 : l2 ≤ ln
        · have x4 : decide ((l2 : Int) ≤ (ln : Int)) = true := by simp; omega
          obtain ⟨t0, t1, t2⟩ : w6.cell? ⟨tb, 0, none⟩ = some (.int .u8 x) ∧ w6.cell? ⟨tb, 1, none⟩ = some (.int .i64 0) ∧ w6.cell? ⟨tb, 2, none⟩ = some (.int .i64 0) := ⟨HB6a.out.cell 0, HB6a.out.cell 1, HB6a.out.cell 2⟩
          have fz := HB6a.out.frozen
          go_upto_region 11 with (fail)
          obtain ⟨W6, hW6⟩ : ∃ W6, W6 = (((w6.setCell ⟨tb, 0, none⟩ (.int .u8 0)).setCell ⟨tb, 1, none⟩ (.int .i64 ln)).setCell ⟨tb, 2, none⟩ (.int .i64 ds)) := ⟨_, rfl⟩
          rw [← hW6]
          have hk6 : Keeps [tb] w6 W6 := by rw [hW6]; exact (((Keeps.refl [tb] w6).setCell (p := ⟨tb, 0, none⟩) (.inl (by simp)) _).setCell (p := ⟨tb, 1, none⟩) (.inl (by simp)) _).setCell (p := ⟨tb, 2, none⟩) (.inl (by simp)) _
          have hkr : Keeps [m, m + 1] wr W6 := by rw [hW6]; exact (((HKR6.out).setCell (p := ⟨tb, 0, none⟩) (.inr HTB.out) _).setCell (p := ⟨tb, 1, none⟩) (.inr HTB.out) _).setCell (p := ⟨tb, 2, none⟩) (.inr HTB.out) _
          have hb6 : Blk W6 tb 33 (tcells (0, ln, ds)) := by rw [hW6]; exact ((HB6a.out.set 0 _).set 1 _).set 2 _
          have HB6 := Lib.hid hb6
          have HJ6 := Lib.hid (HJ.out pre wr W6 HJP.out hkr)
          have HF6 := Lib.hid (HF6a.out.keeps hk6 (by simp; omega) (by simp; omega) (fun a ha => by injection ha with ha; subst ha; simp; omega))
          have HS6 : Hid (m + 2 ≤ W6.heap.size) := Lib.hid (Nat.le_trans HS6a.out hk6.size)
          replace c6 := hk6.cell (p := ⟨Bo, 0, none⟩) (by simp; omega) c6
          clear hW6 hk6 hkr hb6 HB6a HJ6a HF6a HS6a t0 t1 t2 fz HKR6 HJP
          obtain ⟨fn, tmps, assign, body, hy, hR⟩ := HY.out pre (0, (ln : Int), (ds : Int)) W6 HJ6.out HPL.out HS6.out
          have HRR := Lib.hid hR
          clear hR
          obtain ⟨t0, t1, t2⟩ : W6.cell? ⟨tb, 0, none⟩ = some (.int .u8 0) ∧ W6.cell? ⟨tb, 1, none⟩ = some (.int .i64 ln) ∧ W6.cell? ⟨tb, 2, none⟩ = some (.int .i64 ds) := ⟨HB6.out.cell 0, HB6.out.cell 1, HB6.out.cell 2⟩
          dsimp only [tokV] at hy
          refine (wpIn_wide (n := 0)).1 ?_
          gi_wp2
          refine ⟨rfl, HRR.out.mono ?_⟩
          rintro _ W7 ⟨rfl, hJ7, hk7⟩
          have c7 := hk7.cell (p := ⟨Bo, 0, none⟩) c6 (.inr (.inr (.inl rfl)))
          have HJ7 := Lib.hid hJ7
          have HF7 := Lib.hid (HF6.out.keepsOn hk7 (.inr (.inl (by have := HM0.out; omega))) (.inl HM0.out) (fun a ha => .inr (.inr (.inr ⟨a, ha, rfl⟩))))
          have HS7 : Hid (m + 2 ≤ W7.heap.size) := Lib.hid (Nat.le_trans HS6.out hk7.size)
          clear hJ7 hk7 hy HRR c6 HB6 HF6 HS6 HJ6
          gi_wp2
          go_wp2_with fail
          go_roundw
          case rel =>
            refine ⟨i + ln, k6, pre ++ [(0, (ln : Int), (ds : Int))], by omega, by omega, by go_num, c7, Lib.hid ?_, HJ7, HF7, HS7⟩
            have hfa := HFA.out
            rw [if_neg (by rintro (h1 | h1) <;> omega)] at hfa
            rw [← HTS.out, hfa, List.append_assoc]; rfl
          case measure => simp [intOf]; omega
        · have x4 : decide ((l2 : Int) ≤ (ln : Int)) = false := by simp; omega
          have HB6 := HB6a
          have HF6 := HF6a
          have HJ6 := HJ6a
          have HS6 := HS6a
          clear HB6a HF6a HJ6a HS6a
          obtain ⟨fn, tmps, assign, body, hy, hR⟩ := HY.out pre (x, 0, 0) w6 HJ6.out HPL.out HS6.out
          have HRR := Lib.hid hR
          clear hR
          obtain ⟨t0, t1, t2⟩ : w6.cell? ⟨tb, 0, none⟩ = some (.int .u8 x) ∧ w6.cell? ⟨tb, 1, none⟩ = some (.int .i64 0) ∧ w6.cell? ⟨tb, 2, none⟩ = some (.int .i64 0) := ⟨HB6.out.cell 0, HB6.out.cell 1, HB6.out.cell 2⟩
          go_upto_region 11 with (fail)
          dsimp only [tokV] at hy
          refine (wpIn_wide (n := 0)).1 ?_
          gi_wp2
          refine ⟨rfl, HRR.out.mono ?_⟩
          rintro _ W7 ⟨rfl, hJ7, hk7⟩
          have c7 := hk7.cell (p := ⟨Bo, 0, none⟩) c6 (.inr (.inr (.inl rfl)))
          have HJ7 := Lib.hid hJ7
          have HF7 := Lib.hid (HF6.out.keepsOn hk7 (.inr (.inl (by have := HM0.out; omega))) (.inl HM0.out) (fun a ha => .inr (.inr (.inr ⟨a, ha, rfl⟩))))
          have HS7 : Hid (m + 2 ≤ W7.heap.size) := Lib.hid (Nat.le_trans HS6.out hk7.size)
          clear hJ7 hk7 hy HRR c6 HB6 HF6 HS6 HJ6
          gi_wp2
          go_wp2_with fail
          go_roundw
          case rel =>
            refine ⟨i + 1, k6, pre ++ [(x, 0, 0)], by omega, by omega, by go_num, c7, Lib.hid ?_, HJ7, HF7, HS7⟩
            have hfa := HFA.out
            rw [if_pos (.inr (by omega)), ← HX.out] at hfa
            rw [← HTS.out, hfa, List.append_assoc]; rfl
          case measure => simp [intOf]; omega
    · obtain rfl : i = n := by omega
      have x2 : decide ((i : Int) < (i : Int)) = false := by simp
      go_wp2_with fail
      go_end0
      refine ⟨⟨_, rfl⟩, ?_⟩
      have := HT.out
      have e : findF xs xs.length i = [] := by
        cases hxl : xs.length with
        | zero => rfl
        | succ f => rw [findF, if_neg (by omega)]
      rw [e, List.append_nil] at this
      rw [← this]; exact HJP.out
end Go.Proofs.YtkpabdjniiepkaaDoor

set_option linter.unusedVariables false
set_option linter.unusedSimpArgs false
namespace Go.Proofs.YtkpabdjniiepkaaDoor
open Go.RowKit
set_option maxRecDepth 100000 in
set_option maxHeartbeats 1000000 in
theorem all_calls (w : World) (A : Option Addr) (n c : Nat) (xs : List Int) (hr : RI .u8 w A n xs) (hnil : A = none → n = 0 ∧ c = 0) (hn : n ≤ 100000000) :
    Calls Tryd.prog 50 #[.slice A n c] w fun e w' => ∃ (Bo : Nat) (A' : Option Addr) (c' : Nat), e = .returned (.func (.func 65) #[] #[.pointer (some ⟨Bo, 0, none⟩)]) ∧ w'.cell? ⟨Bo, 0, none⟩ = some (.slice A' n c') ∧
      w'.ownsRow w.heap.size 5 1 (.slice A' n c') n (ints .u8 xs) ∧ w.heap.size ≤ Bo ∧ Bo < w'.heap.size ∧ Below w.heap.size w w' := by
  have HR := Lib.hid hr
  have HN := Lib.hid hnil
  have hmf : ∀ (fn : Fn) (first cap : Array Value) (w : World), (Instr.makeFunc fn first cap).run Tryd.prog w = .ok (.func fn first cap) w := fun _ _ _ _ => rfl
  clear hr hnil
  go_enter Tryd.func50, Tryd.ntmps50
  go_wp2_with (at_builtin; refine app_bytesB rfl (.const (.slice none 0 0)) (.tmp 4) rfl w.heap.size _ _ [] rfl (World.ownsRow_nil _ _ _ _) A n c xs rfl (by exact HR.out) HN.out ?c1 (Nat.le_refl _) ?_)
  case c1 => omega
  intro v' w1 hown hgrow hwhere
  obtain ⟨A', c', rfl⟩ := own_formW hown
  have hb : Below w.heap.size w w1 := (Below.refl _ w).grown hgrow (Nat.le_refl _) (fun k hk => by simp [Value.ownBlock] at hk)
  have HO := Lib.hid hown
  have HB := Lib.hid hb
  clear hown hgrow hwhere hb
  go_wp2_with fail
  go_ret
  refine ⟨w1.heap.size, A', c', rfl, ?_, HO.out.alloc _, HB.out.size, by simp, HB.out.trans (((Below.refl w1.heap.size w1).alloc (Nat.le_refl _) _).mono HB.out.size)⟩
  have := blk_new w1 22 [.slice A' n c']
  exact this.cell 0
end Go.Proofs.YtkpabdjniiepkaaDoor

set_option linter.unusedVariables false
set_option linter.unusedSimpArgs false
namespace Go.Proofs.YtkpabdjniiepkaaDoor
open Go.RowKit Go.Shelf
attribute [local go_sem] Oper.semAt_some
theorem info_tok : (Tryd.prog.info? 33).map (fun i => (i.zero, i.size, i.bytes)) = some (some (.agg #[.int .u8 0, .int .i64 0, .int .i64 0]), 3, 24) := by kernel_rfl
theorem tcells_one (p : Tok) : ∀ u ∈ tcells p, u.oneCell' = true := by
  intro u hu
  simp [tcells] at hu
  rcases hu with rfl | rfl | rfl <;> rfl
/-- 's = append(s, t)' of one token, inside a round. -/
theorem app_tokIn {F : Fence} {k : Nat} {ops : Array Oper} {rest : List Oper} {o : Oper} {a : Act} {Q : Exit → Act → World → Prop} {w : World} (hgd : o.guard = none) (s x : Operand)
    (ho : o.op = .call { callee := .builtin .append, args := #[s, x], argTypes := #[31, 31] })
    (base : Nat) (v : Value) (n : Nat) (L : List Tok) (hs : a.eval s = v) (hown : w.ownsRow base 33 3 v n (L.flatMap tcells))
    (b : Nat) (p : Tok) (hx : a.eval x = .slice (some ⟨b, 0, none⟩) 1 1) (h0 : w.cell? ⟨b, 0, none⟩ = some (.int .u8 p.1)) (h1 : w.cell? ⟨b, 1, none⟩ = some (.int .i64 p.2.1)) (h2 : w.cell? ⟨b, 2, none⟩ = some (.int .i64 p.2.2))
    (hn : n ≤ 1000000000) (hbase : base ≤ w.heap.size)
    (h : ∀ v' w', w'.ownsRow base 33 3 v' (n + 1) ((L ++ [p]).flatMap tcells) → w.grownBy w' v.ownBlock → wpListIn F k Tryd.prog ops Q rest (a.put o.dst v') w') : wpListIn F k Tryd.prog ops Q (o :: rest) a w := by
  obtain ⟨i0, hi, hz0, hz1, hz2⟩ := info_parts info_tok
  refine wpListIn_append_own w hgd s x 31 ho base 33 i0 (.agg #[.int .u8 0, .int .i64 0, .int .i64 0]) 3 24 Tryd.underlying31 hi hz0 hz1 hz2 rfl (by decide) v n (L.flatMap tcells) hs hown ⟨b, 0, none⟩ 1 1 (tcells p) hx rfl ?_ (tcells_one p) (by unfold maxLen; omega) (by omega) hbase ?_
  · intro j u hu
    match j, hu with
    | 0, hu => simp [tcells] at hu; subst hu; rw [add_plain]; exact h0
    | 1, hu => simp [tcells] at hu; subst hu; rw [add_plain]; exact h1
    | 2, hu => simp [tcells] at hu; subst hu; rw [add_plain]; exact h2
    | j + 3, hu => simp [tcells] at hu
  · intro v' w' h2 h3 _
    rw [List.flatMap_append, List.flatMap_singleton] at h
    exact h v' w' h2 h3
theorem own_off {w : World} {base n : Nat} {A : Option Addr} {c : Nat} {xs : List Int} (h : w.ownsRow base 5 1 (.slice A n c) n (ints .u8 xs)) : ∀ a, A = some a → a.block < w.heap.size := by
  obtain ⟨A5, c5, h1, -, h3, h4⟩ := own_ri h
  injection h1 with q1 q2 q3
  subst q1
  exact fun a ha => (h4 a ha).2.1
theorem own_ge {w : World} {base size n : Nat} {e : TypeId} {v : Value} {xs : List Value} (h : w.ownsRow base e size v n xs) : ∀ g, v.ownBlock = some g → base ≤ g := by
  intro g hg
  rcases h.2 with h2 | ⟨g2, cap, cur, hv, hb, -⟩
  · rw [h2.1] at hg; simp [Value.ownBlock] at hg
  · rw [hv] at hg
    simp [Value.ownBlock] at hg
    omega
theorem own_lower {w : World} {base b2 size n : Nat} {e : TypeId} {v : Value} {xs : List Value} (h : w.ownsRow base e size v n xs) (hb2 : b2 ≤ base) : w.ownsRow b2 e size v n xs := by
  refine ⟨h.1, ?_⟩
  rcases h.2 with h2 | ⟨g2, cap, cur, hv, hb, hh⟩
  · exact .inl h2
  · exact .inr ⟨g2, cap, cur, hv, Nat.le_trans hb2 hb, hh⟩
theorem keeps_below {S : List Nat} {W1 W2 : World} {n0 : Nat} (h : Keeps S W1 W2) (hn : n0 ≤ W1.heap.size) (hS : ∀ x ∈ S, n0 ≤ x) : Below n0 W1 W2 :=
  ⟨h.os, h.tape, h.output, h.size, fun k hk => h.block k (by omega) (fun hm => by have := hS k hm; omega)⟩
set_option maxRecDepth 100000 in
set_option maxHeartbeats 1000000 in
theorem find_calls (w : World) (A : Option Addr) (n c : Nat) (xs : List Int) (hr : RI .u8 w A n xs) (hnil : A = none → n = 0 ∧ c = 0) (hn : n ≤ 16384) (hb : ∀ j, 0 ≤ nth xs j ∧ nth xs j ≤ 255) :
    Calls Tryd.prog 26 #[.slice A n c] w fun e w' => ∃ v, e = .returned v ∧ w'.ownsRow w.heap.size 33 3 v (tokensF xs).length ((tokensF xs).flatMap tcells) ∧ Below w.heap.size w w' := by
  have HR := Lib.hid hr
  have HN := Lib.hid hnil
  clear hr hnil
  refine (callsIn_wide (n := 0)).1 (callsIn_of_wp_marks Tryd.func26 rfl trivial ?_ rfl)
  simp only [Tryd.ntmps26, List.size_toArray, List.length_cons, List.length_nil, Nat.reduceAdd, Nat.reduceSub, Array.replicate_succ, Array.replicate_zero, List.push_toArray, List.append_toArray, List.nil_append, List.cons_append]
  gi_wp2
  refine ⟨trivial, rfl, ((callsIn_wide (n := 0)).2 (all_calls _ A n c xs (HR.out.keeps ((Keeps.refl [] w).alloc _) (off_nil _)) HN.out (by omega))).mono ?_⟩
  rintro _ w2 ⟨Bo, A', c', rfl, hBo, hown, hge, hlt, hbel⟩
  have hbox : w2.heap[w.heap.size]? = some (.cells #[.slice none 0 0] 31 (0, 0)) := by
    have h1 := blk_new w 31 [.slice none 0 0]
    exact (hbel.block _ (by simp)).trans h1
  have hb2 : Below w.heap.size w w2 := ((Below.refl w.heap.size w).alloc (Nat.le_refl _) _).trans (hbel.mono (by simp))
  have HBO := Lib.hid hBo
  have HOW := Lib.hid hown
  have HGE := Lib.hid hge
  have HLT := Lib.hid hlt
  have HBX := Lib.hid hbox
  have HB2 := Lib.hid hb2
  clear hBo hown hge hlt hbel hbox hb2
  gi_wp2
  obtain ⟨ri', -⟩ : RI .u8 w2 A' n xs ∧ True := by
    obtain ⟨A5, c5, h1, h2, -, -⟩ := own_ri HOW.out
    injection h1 with q1 q2 q3
    subst q1
    exact ⟨h2, trivial⟩
  refine range_law (gf := 65) (lb := #[.pointer (some ⟨Bo, 0, none⟩)]) rfl (enters_of Tryd.func65 (by kernel_rfl) rfl) ?hC
    (all1_iter w2 Bo A' n c' xs ri' (own_cap HOW.out) hb hn HBO.out ?hA HLT.out) (fun _ => rfl)
    (fun pre W => (∃ v, W.heap[w.heap.size]? = some (.cells #[v] 31 (0, 0)) ∧ W.ownsRow (w2.heap.size + 4) 33 3 v pre.length (pre.flatMap tcells)) ∧ Below w.heap.size w W)
    ?hI ?h0 (fun x W a' W1 => W1 = W.alloc (.cells (tcells x).toArray 33) ∧ a' = { tmps := #[.slice A n c, undef, .slice none 0 0, .pointer (some ⟨w.heap.size, 0, none⟩), .pointer (some ⟨W.heap.size, 0, none⟩), .slice A n c, .func (.func 65) #[] #[.pointer (some ⟨Bo, 0, none⟩)], tokV x, undef, undef, undef, undef, undef], defers := [] }) ?hAx ?assign ?body ?done
  case hC =>
    have h1 := HLT.out
    rintro k (h | h | h | ⟨a, ha, h⟩)
    · omega
    · omega
    · omega
    · have := (own_off HOW.out) a ha
      omega
  case hA => exact fun a ha => (own_off HOW.out) a ha
  case h0 => exact ⟨⟨_, HBX.out, World.ownsRow_nil _ _ _ _⟩, HB2.out⟩
  case hAx => rintro x W a' W1 ⟨rfl, -⟩; exact (Keeps.refl [] W).alloc _
  case hI =>
    have hsz := HB2.out.size
    have hlt2 := HGE.out
    have hlt3 := HLT.out
    simp at hlt2
    rintro s W1 W2 ⟨⟨v, hv, ho⟩, hB⟩ hk
    refine ⟨⟨v, hk.heap hv (by simp; omega), own_keeps ho hk (fun g hg hm => by have := own_ge ho g hg; simp at hm; omega)⟩, hB.trans (keeps_below hk hB.size (fun x hx => by simp at hx; omega))⟩
  case assign =>
    intro l pre x W K hi hsz hK
    have HK := Lib.hid hK
    clear hK
    dsimp only [tokV]
    gi_wp2
    exact HK.out _ _ ⟨rfl, rfl⟩
  case done =>
    rintro W ⟨⟨v, hv, ho⟩, hB⟩ hD
    have hc : W.cell? ⟨w.heap.size, 0, none⟩ = some v := by simp [World.cell?, hv]
    have HO := Lib.hid ho
    have HBW := Lib.hid hB
    clear hv ho hB
    gi_wp2
    refine ⟨by simp, .inl ⟨_, _, rfl, run_takeDeferred hD, ?_⟩⟩
    exact ⟨_, results_tmp rfl _ _ _, v, rfl, own_lower (own_keeps HO.out (keeps_put W w2.heap.size _) (fun g hg hm => by have := own_ge HO.out g hg; simp at hm; omega)) (by have := HB2.out.size; omega),
      HBW.out.trans (keeps_below (keeps_put W w2.heap.size _) HBW.out.size (fun x hx => by simp at hx; have := HB2.out.size; omega))⟩
  case body =>
    rintro pre x W a' W1 W2 ⟨⟨v, hv, ho⟩, hB⟩ hpl hsz ⟨rfl, rfl⟩ hk2
    have hbs := HB2.out.size
    have hc : W2.cell? ⟨w.heap.size, 0, none⟩ = some v := by
      have h1 : (W.alloc (.cells (tcells x).toArray 33)).heap[w.heap.size]? = some (.cells #[v] 31 (0, 0)) := ((Keeps.refl [] W).alloc _).heap hv (by simp)
      have h2 := hk2.heap h1 (by simp; omega)
      simp [World.cell?, h2]
    have hx : Blk W2 W.heap.size 33 (tcells x) := (blk_new W _ (tcells x)).keeps hk2 (by simp; omega)
    have t0 := hx.cell 0
    have t1 := hx.cell 1
    have t2 := hx.cell 2
    simp only [tcells, List.getElem?_cons_zero, List.getElem?_cons_succ] at t0 t1 t2
    have hne : ∀ g, v.ownBlock = some g → w2.heap.size + 4 ≤ g := own_ge ho
    have hw2 : W2.heap[w.heap.size]? = some (.cells #[v] 31 (0, 0)) := by
      have h1 : (W.alloc (.cells (tcells x).toArray 33)).heap[w.heap.size]? = some (.cells #[v] 31 (0, 0)) := ((Keeps.refl [] W).alloc _).heap hv (by simp)
      exact hk2.heap h1 (by simp; omega)
    have hfz : W2.frozen? ⟨w.heap.size, 0, none⟩ = false := by simp [World.frozen?, hw2]
    have HW2 := Lib.hid hw2
    have hlen : pre.length + 1 ≤ 16384 := by
      have h1 := find_len xs xs.length 0
      have h2 := ri'.len
      unfold tokensF at hpl
      omega
    have HO := Lib.hid (own_keeps (ho.alloc (.cells (tcells x).toArray 33)) hk2 (fun g hg hm => by have := hne g hg; simp at hm; omega))
    have hks : W.heap.size < W2.heap.size := by have h1 := hk2.size; simp at h1; omega
    have HKS := Lib.hid hks
    have HBW := Lib.hid hB
    have HNE := Lib.hid hne
    have HK2 := Lib.hid hk2
    have hbx : w.heap.size < W2.heap.size := by omega
    have HBX2 := Lib.hid hbx
    clear hv ho hB hx hk2 hne ri' hks hw2
    gi_wp2_with (gi_at_builtin; refine app_tokIn rfl (.tmp 8) (.tmp 10) rfl (w2.heap.size + 4) v pre.length pre ?_ (by exact HO.out.alloc _) W2.heap.size x ?_ (by simp) (by simp) (by simp) (by omega) ?_ ?_)
    · rfl
    · rfl
    · have h1 := HKS.out; simp; omega
    · intro v' w' h1 hg
      obtain ⟨A9, c9, rfl⟩ := own_formW h1
      have hbl : w'.heap[w.heap.size]? = W2.heap[w.heap.size]? := (hg.block _ (by simp; omega) (fun e => by have := HNE.out _ e.symm; omega)).trans (Go.Deep.blk_alloc_lt _ _ _ hbx)
      have hc' : w'.cell? ⟨w.heap.size, 0, none⟩ = some v := (World.cell?_of_block (a := ⟨w.heap.size, 0, none⟩) hbl).trans hc
      have hf' : w'.frozen? ⟨w.heap.size, 0, none⟩ = false := (World.frozen?_of_block (a := ⟨w.heap.size, 0, none⟩) hbl).trans hfz
      have HH := Lib.hid (hbl.trans HW2.out)
      have H1 := Lib.hid h1
      have HG := Lib.hid hg
      clear h1 hg hbl t0 t1 t2 hc hfz
      gi_wp2_with fail
      refine ⟨⟨⟨.slice A9 (pre.length + 1) c9, ?_, ?_⟩, ?_⟩, ?_⟩
      · have h1 : Blk w' w.heap.size 31 [v] := HH.out
        exact Blk.set h1 0 _
      · rw [List.length_append, List.flatMap_append, List.flatMap_singleton]
        exact ownsRow_setCell_below H1.out (show w.heap.size < w2.heap.size + 4 by omega) _
      · have hk : Keeps [w2.heap.size + 1] W W2 := ((Keeps.refl [] W).alloc (.cells (tcells x).toArray 33)).mono (fun _ h => by cases h) |>.trans HK2.out
        have hb1 := HBW.out.trans (keeps_below hk HBW.out.size (fun z hz => by simp at hz; omega))
        exact ((hb1.alloc hb1.size _).grown HG.out (by have := hb1.size; simp; omega) (fun g hg => by have := HNE.out g hg; omega)).setCell (p := ⟨w.heap.size, 0, none⟩) (Nat.le_refl _) _
      · refine ⟨?_, fun k hk hc => ?_⟩
        · have := HG.out.size; simp at this; simp [World.setCell]; omega
        · have hge := HGE.out
          simp at hge
          have hlo : k < w2.heap.size + 4 := by
            have hlt := HLT.out
            rcases hc with (h | h | h | ⟨a, ha, h⟩) | h | h
            · omega
            · omega
            · omega
            · have := (own_off HOW.out) a ha; omega
            · omega
            · omega
          have hkw : k ≠ w.heap.size := by
            rcases hc with (h | h | h | ⟨a, ha, h⟩) | h | h
            · omega
            · omega
            · omega
            · obtain ⟨A5, c5, q1, -, q3, q4⟩ := own_ri HOW.out
              injection q1 with q5 q6 q7
              subst q5
              have := (q4 a ha).1
              simp at this
              omega
            · have := (Array.getElem?_eq_some_iff.1 HBX.out).1; omega
            · omega
          exact (Go.Deep.blk_setCell_other _ _ _ _ hkw).trans ((HG.out.block k (by simp; omega) (fun e => by have := HNE.out _ e.symm; omega)).trans (Go.Deep.blk_alloc_lt _ _ _ hk))
end Go.Proofs.YtkpabdjniiepkaaDoor

set_option linter.unusedVariables false
set_option linter.unusedSimpArgs false
/-! deflate.Dynamic. -/
namespace Go.Proofs.YtkpabdjniiepkaaDoor
open Go.RowKit
theorem lit_first : (ints .i64 (List.replicate 286 0)).set 256 (.int .i64 1) = ints .i64 (cntF 286 [256]) := by
  have h := cntF_snoc 286 [] 256 (by omega)
  rw [List.nil_append, cntF_nil] at h
  have e : nth (List.replicate 286 (0 : Int)) 256 = 0 := by decide +kernel
  rw [e] at h
  have h2 : cntF 286 [256] = (List.replicate 286 0).set 256 1 := h
  rw [h2]
  simp only [ints, List.map_set]
theorem cnt_cell {w : World} {g N : Nat} {S : List Int} {j : Nat} (h : Blk w g 3 (ints .i64 (cntF N S))) (hj : j < N) : w.cell? ⟨g, j, none⟩ = some (.int .i64 (nth (cntF N S) j)) := by
  rw [h.cell, ints_getElem?]
  have hl := cntF_len N S
  simp [nth, List.getD, show j < (cntF N S).length by omega]
theorem cnt_set {w : World} {g N : Nat} {S : List Int} {j : Nat} (h : Blk w g 3 (ints .i64 (cntF N S))) (hj : j < N) : Blk (w.setCell ⟨g, j, none⟩ (.int .i64 (nth (cntF N S) j + 1))) g 3 (ints .i64 (cntF N (S ++ [(j : Int)]))) := by
  have := h.set j (.int .i64 (nth (cntF N S) j + 1))
  rwa [show (ints .i64 (cntF N S)).set j (.int .i64 (nth (cntF N S) j + 1)) = ints .i64 (cntF N (S ++ [(j : Int)])) by rw [cntF_snoc N S j hj]; simp [ints, List.map_set]] at this
set_option maxRecDepth 100000 in
set_option maxHeartbeats 4000000 in
theorem ddyn_calls (w : World) (At : Option Addr) (nt ct : Nat) (ts : List Tok) (hT : Tabs w) (ht : RT w At nt ts) (ha : ∀ a, At = some a → a.block < w.heap.size) (hl : LitOk ts) (hn : nt ≤ 140737488355328) :
    Calls Tryd.prog 18 #[.slice At nt ct] w (Outp w (checkT ts 0) (fun xs => WB xs (dynB (dynLit ts) (dynDist ts) ts))) := by
  have HTB := Lib.hid hT
  have HT := Lib.hid ht
  have HA := Lib.hid ha
  have HL := Lib.hid hl
  have HLT : Hid (ts.length = nt) := Lib.hid ht.len
  clear ht ha hl hT
  go_enter Tryd.func18, Tryd.ntmps18
  go_wp2_with fail
  refine (tcheck_calls w At nt ct ts HT.out hn).mono ?_
  rintro _ w1 ⟨rfl, hk1⟩
  have K1 := Lib.hid hk1
  clear hk1
  by_cases hE : checkT ts 0 = 0
  · have HC := Lib.hid hE
    have HX0 : Hid ((expandF 16384 ts []).2 = 0) := Lib.hid ((checkT_expand ts []).trans hE)
    have hmany := check_many hE
    rw [hE]
    clear hE
    have hnt : nt ≤ 16384 := by rw [← HLT.out]; exact hmany
    clear hmany
    go_upto_region 4 with (fail)
    obtain ⟨z1, hz1⟩ : ∃ z, z = List.replicate 286 (0 : Int) := ⟨_, rfl⟩
    obtain ⟨z2, hz2⟩ : ∃ z, z = List.replicate 30 (0 : Int) := ⟨_, rfl⟩
    have HZ1 := Lib.hid hz1
    have HZ2 := Lib.hid hz2
    clear hz1 hz2
    go_cut [5, 6] (fun v5 v6 wc => ∃ g1 g2 : Nat, v5 = .slice (some ⟨g1, 0, none⟩) 286 286 ∧ v6 = .slice (some ⟨g2, 0, none⟩) 30 30 ∧ g1 ≠ g2 ∧ w1.heap.size ≤ g1 ∧ w1.heap.size ≤ g2 ∧ Hid (Blk wc g1 3 (ints .i64 z1)) ∧ Hid (Blk wc g2 3 (ints .i64 z2)) ∧ Hid (Keeps [] w1 wc))
    case first =>
      have hmk1 := fun w => make_ints (P := Tryd.prog) w 51 3 .i64 8 Tryd.underlying51 info_int 286 286 rfl (by omega) (by omega)
      have hmk2 := fun w => make_ints (P := Tryd.prog) w 51 3 .i64 8 Tryd.underlying51 info_int 30 30 rfl (by omega) (by omega)
      rw [← HZ1.out] at hmk1
      rw [← HZ2.out] at hmk2
      go_region
      · go_wp2_with fail
        go_meet
        refine ⟨w1.heap.size, w1.heap.size + 1, rfl, rfl, by omega, by omega, by omega, ?_, ?_, ?_⟩
        · exact Lib.hid (((blk_new w1 _ _).alloc _).drewN 1)
        · exact Lib.hid ((by have := blk_new (w1.alloc (.cells (ints .i64 z1).toArray 3)) 3 (ints .i64 z2); rwa [World.size_alloc] at this : Blk _ _ _ _).drewN 1)
        · exact Lib.hid (((Keeps.refl [] w1).alloc _).alloc _).drew
      · go_wp2_with fail
        go_meet
        refine ⟨w1.heap.size + 1, w1.heap.size, rfl, rfl, by omega, by omega, by omega, ?_, ?_, ?_⟩
        · exact Lib.hid ((by have := blk_new (w1.alloc (.cells (ints .i64 z2).toArray 3)) 3 (ints .i64 z1); rwa [World.size_alloc] at this : Blk _ _ _ _).drewN 1)
        · exact Lib.hid (((blk_new w1 _ _).alloc _).drewN 1)
        · exact Lib.hid (((Keeps.refl [] w1).alloc _).alloc _).drew
    case rest =>
      obtain ⟨g1, g2, rfl, rfl, hg12, hg1, hg2, HB1, HB2, HK⟩ := hcut
      have KC := Lib.hid (K1.out.trans HK.out)
      have hb1 : Blk wc g1 3 (ints .i64 (List.replicate 286 0)) := by rw [← HZ1.out]; exact HB1.out
      have hb2 : Blk wc g2 3 (ints .i64 (cntF 30 (([] : List Tok).flatMap distS))) := by rw [List.flatMap_nil, cntF_nil, ← HZ2.out]; exact HB2.out
      have hc0 := hb1.cell 256
      rw [show (ints .i64 (List.replicate 286 0))[256]? = some (.int .i64 0) by simp only [ints, List.map_replicate]; rw [List.getElem?_replicate]; simp] at hc0
      have hf0 := hb1.frozen 256
      have hg1w : w.heap.size ≤ g1 := Nat.le_trans K1.out.size hg1
      have hg2w : w.heap.size ≤ g2 := Nat.le_trans K1.out.size hg2
      have HA1 : Hid (Blk (wc.setCell ⟨g1, 256, none⟩ (.int .i64 1)) g1 3 (ints .i64 (cntF 286 ([256] ++ ([] : List Tok).map litS)))) := Lib.hid (by
        have := hb1.set 256 (.int .i64 1)
        rwa [lit_first] at this)
      have HA2 : Hid (Blk (wc.setCell ⟨g1, 256, none⟩ (.int .i64 1)) g2 3 (ints .i64 (cntF 30 (([] : List Tok).flatMap distS)))) := Lib.hid (hb2.set_other (by show g2 ≠ g1; omega) _)
      have HKA : Hid (Keeps [g1, g2] w (wc.setCell ⟨g1, 256, none⟩ (.int .i64 1))) := Lib.hid ((KC.out.mono (by simp)).setCell (p := ⟨g1, 256, none⟩) (Or.inl (by simp)) _)
      have hg1c := hb1.lt
      have hg2c := hb2.lt
      clear hb1 hb2 HB1 HB2 HK KC HZ1 HZ2
      go_wp2_with fail
      clear hc0 hf0
      go_loopw [32] (fun iv wr => ∃ p : Nat, p ≤ nt ∧ iv = .int .i64 p ∧ Hid (Blk wr g1 3 (ints .i64 (cntF 286 ([256] ++ (ts.take p).map litS)))) ∧ Hid (Blk wr g2 3 (ints .i64 (cntF 30 ((ts.take p).flatMap distS)))) ∧ Hid (Keeps [g1, g2] w wr)) (fun iv _ => nt - (intOf iv).toNat)
      case atStart => exact ⟨0, by omega, rfl, by rw [List.take_zero]; exact HA1, by rw [List.take_zero]; exact HA2, HKA⟩
      case round =>
        clear HA1 HA2 HKA
        obtain ⟨p, hp, rfl, HB1, HB2, HK⟩ := hrel
        by_cases hlt : p < nt
        · have e5 : decide (p < nt) = true := by simpa using hlt
          have hps : p < ts.length := by rw [HLT.out]; exact hlt
          have hrt := HT.out.keeps HK.out (fun a ha hm => by have := HA.out a ha; simp at hm; omega)
          obtain ⟨tb, to', hAt⟩ := hrt.hd (by omega)
          obtain ⟨p0, p1, p2⟩ := hrt.cell tb to' hAt p hlt
          subst hAt
          have HLO := Lib.hid (HL.out _ (tth_mem hps))
          have HRO := Lib.hid (expand_toks ts [] HX0.out _ (tth_mem hps))
          have HS1 : Hid ([256] ++ (ts.take (p + 1)).map litS = ([256] ++ (ts.take p).map litS) ++ [litS (tth ts p)]) := Lib.hid (by rw [take_tth hps, List.map_append, List.map_singleton, List.append_assoc])
          have HS2 : Hid ((ts.take (p + 1)).flatMap distS = (ts.take p).flatMap distS ++ distS (tth ts p)) := Lib.hid (by rw [take_tth hps, List.flatMap_append, List.flatMap_singleton])
          have HLS : Hid (([256] ++ (ts.take p).map litS).length ≤ 16385) := Lib.hid (by simp; omega)
          have HLD : Hid (((ts.take p).flatMap distS).length ≤ 16385) := Lib.hid (by have := distS_len (ts.take p); rw [List.length_take] at this; omega)
          clear hrt hps
          generalize tth ts p = t at *
          generalize [256] ++ (ts.take p).map litS = S at *
          generalize (ts.take p).flatMap distS = D at *
          obtain ⟨a, b, c⟩ := t
          dsimp only at p0 p1 p2
          have h1r := HB1.out.lt
          have h2r := HB2.out.lt
          obtain ⟨gs, hgs⟩ : ∃ z, z = wr.heap.size := ⟨_, rfl⟩
          obtain ⟨w20, hw20⟩ : ∃ z, z = wr.alloc (.cells #[.int .u8 a, .int .i64 b, .int .i64 c] 33) := ⟨_, rfl⟩
          have ka : Keeps [] wr w20 := by rw [hw20]; exact (Keeps.refl [] wr).alloc _
          have HBX : Hid (Blk w20 gs 33 [.int .u8 a, .int .i64 b, .int .i64 c]) := Lib.hid (by rw [hw20, hgs]; exact blk_new wr _ [.int .u8 a, .int .i64 b, .int .i64 c])
          have C1 := Lib.hid (HB1.out.keeps ka (by simp))
          have C2 := Lib.hid (HB2.out.keeps ka (by simp))
          have CK := Lib.hid (HK.out.trans (ka.mono (by simp)))
          have hgs1 : gs ≠ g1 := by omega
          have hgs2 : gs ≠ g2 := by omega
          go_upto_region 9 with (fail)
          change Code.wp _ _ _ _ (wr.alloc (.cells #[.int .u8 a, .int .i64 b, .int .i64 c] 33))
          rw [← hw20, ← hgs]
          clear ka HB1 HB2 HK p0 p1 p2 hw20 hgs e5 h1r h2r
          have b0 := HBX.out.cell 0
          have b1 := HBX.out.cell 1
          simp only [List.getElem?_cons_zero, List.getElem?_cons_succ] at b0 b1
          by_cases h0 : b = 0
          · subst h0
            obtain ⟨l0, l1⟩ := HLO.out
            dsimp only at l0 l1
            obtain ⟨j, rfl⟩ := Int.eq_ofNat_of_zero_le l0
            have hj : j < 286 := by omega
            have cc := cnt_cell C1.out hj
            have cf := C1.out.frozen j
            have HE1 := Lib.hid (cnt_set C1.out hj)
            obtain ⟨n0, n1⟩ := cnt_bd 286 S j hj
            have HEL : Hid (litS ((j : Int), (0 : Int), c) = (j : Int)) := Lib.hid (by unfold litS; rw [if_pos rfl, Int.toNat_natCast])
            have HED : Hid (distS ((j : Int), (0 : Int), c) = []) := Lib.hid (if_pos rfl)
            have s1 : IntKind.i64.wrap (nth (cntF 286 S) j + 1) = nth (cntF 286 S) j + 1 := IntWalk.i64_in _ (by have := HLS.out; omega)
            have t0 : IntKind.i64.wrap (j : Int) = (j : Int) := IntWalk.i64_in _ (by omega)
            have t1 : decide ((j : Int) < 286) = true := by simp; omega
            generalize nth (cntF 286 S) j = v at *
            go_wp2_with fail
            go_roundw
            case rel =>
              refine ⟨p + 1, by omega, by go_num, ?_, ?_, Lib.hid (CK.out.setCell (p := ⟨g1, j, none⟩) (Or.inl (by simp)) _)⟩
              · rw [HS1.out, HEL.out]; exact HE1
              · rw [HS2.out, HED.out, List.append_nil]; exact Lib.hid (C2.out.set_other (by show g2 ≠ g1; omega) _)
            case measure => simp [intOf]; omega
          · have x0 : decide (b = 0) = false := by simpa using h0
            have x0' : (b == 0) = false := by simpa using h0
            obtain ⟨r1, r2, r3, r4⟩ := HRO.out h0
            dsimp only at r1 r2 r3 r4
            obtain ⟨m, rfl⟩ := Int.eq_ofNat_of_zero_le (show 0 ≤ b by omega)
            obtain ⟨d, rfl⟩ := Int.eq_ofNat_of_zero_le (show 0 ≤ c by omega)
            obtain ⟨-, f2, -⟩ := len_tab m (by omega) (by omega)
            obtain ⟨f3, -⟩ := dist_tab d (by omega) (by omega)
            have HLC := Lib.hid (fun w => length_calls w m (by omega) (by omega))
            have HDC := Lib.hid (fun w => distance_calls w d (by omega) (by omega))
            have HEL : Hid (litS (a, (m : Int), (d : Int)) = (lsym m : Int)) := Lib.hid (by unfold litS; rw [if_neg h0, Int.toNat_natCast])
            have HED : Hid (distS (a, (m : Int), (d : Int)) = [(dsym d : Int)]) := Lib.hid (by unfold distS; rw [if_neg h0, Int.toNat_natCast])
            have hj : lsym m < 286 := by omega
            have hi : dsym d < 30 := by omega
            clear r1 r2 r3 r4 f2 f3 h0 HRO
            generalize lsym m = j at *
            generalize lmore m = q1 at *
            generalize lk m = q2 at *
            generalize dsym d = i at *
            generalize dmore d = q3 at *
            generalize dk d = q4 at *
            go_wp2_with fail
            refine (HLC.out w20).mono ?_
            rintro _ w21 ⟨rfl, hd⟩
            have hk := hd.keeps (S := [])
            have b2 := (HBX.out.keeps hk (by simp)).cell 2
            simp only [List.getElem?_cons_zero, List.getElem?_cons_succ] at b2
            have D1 := Lib.hid (C1.out.keeps hk (by simp))
            have D2 := Lib.hid (C2.out.keeps hk (by simp))
            have DK := Lib.hid (CK.out.trans (hk.mono (by simp)))
            clear hk hd C1 C2 CK b0 b1 HBX
            go_wp2_with fail
            refine (HDC.out w21).mono ?_
            rintro _ w22 ⟨rfl, hd⟩
            have hk := hd.keeps (S := [])
            have E1 := Lib.hid (D1.out.keeps hk (by simp))
            have E2 := Lib.hid (D2.out.keeps hk (by simp))
            have EK := Lib.hid (DK.out.trans (hk.mono (by simp)))
            clear hk hd D1 D2 DK b2
            have cc := cnt_cell E1.out hj
            have cf := E1.out.frozen j
            have HE1 := Lib.hid (cnt_set E1.out hj)
            have HE2 := Lib.hid (E2.out.set_other (a := ⟨g1, j, none⟩) (by show g2 ≠ g1; omega) (.int .i64 (nth (cntF 286 S) j + 1)))
            have HEK := Lib.hid (EK.out.setCell (p := ⟨g1, j, none⟩) (Or.inl (by simp)) (.int .i64 (nth (cntF 286 S) j + 1)))
            obtain ⟨n0, n1⟩ := cnt_bd 286 S j hj
            obtain ⟨n2, n3⟩ := cnt_bd 30 D i hi
            have s1 : IntKind.i64.wrap (nth (cntF 286 S) j + 1) = nth (cntF 286 S) j + 1 := IntWalk.i64_in _ (by have := HLS.out; omega)
            have s2 : IntKind.i64.wrap (nth (cntF 30 D) i + 1) = nth (cntF 30 D) i + 1 := IntWalk.i64_in _ (by have := HLD.out; omega)
            have dc := cnt_cell E2.out hi
            have df := E2.out.frozen i
            have dc2 := cnt_cell HE2.out hi
            have df2 := HE2.out.frozen i
            have HF2 := Lib.hid (cnt_set HE2.out hi)
            have HF1 := Lib.hid (HE1.out.set_other (a := ⟨g2, i, none⟩) (by show g1 ≠ g2; omega) (.int .i64 (nth (cntF 30 D) i + 1)))
            have HFK := Lib.hid (HEK.out.setCell (p := ⟨g2, i, none⟩) (Or.inl (by simp)) (.int .i64 (nth (cntF 30 D) i + 1)))
            have t1 : decide ((j : Int) < 286) = true := by simp; omega
            have t2 : decide ((i : Int) < 30) = true := by simp; omega
            generalize nth (cntF 286 S) j = v at *
            generalize nth (cntF 30 D) i = u at *
            clear E1 E2 EK HE1 HE2 HEK
            go_wp2_with fail
            go_roundw
            case rel =>
              refine ⟨p + 1, by omega, by go_num, ?_, ?_, HFK⟩
              · rw [HS1.out, HEL.out]; exact HF1
              · rw [HS2.out, HED.out]; exact HF2
            case measure => simp [intOf]; omega
        · obtain rfl : p = nt := by omega
          have e5 : decide (p < p) = false := by simp
          rw [List.take_of_length_le (by have := HLT.out; omega)] at HB1 HB2
          obtain ⟨hcod, htk, hlim1, hlim2, hlen1, hlen2⟩ := dyn_codable HL.out HX0.out (by rw [HLT.out]; exact hnt)
          have HCOD := Lib.hid hcod
          have HTK := Lib.hid htk
          have HLIM1 := Lib.hid hlim1
          have HLIM2 := Lib.hid hlim2
          have HLEN1 := Lib.hid hlen1
          have HLEN2 := Lib.hid hlen2
          have R1 : Hid (RI .i64 wr (some ⟨g1, 0, none⟩) 286 (litC ts)) := Lib.hid (by
            have := Blk.ri (xs := litC ts) (ys := []) (by rw [List.append_nil]; exact HB1.out)
            rwa [show (litC ts).length = 286 from cntF_len _ _] at this)
          have R2 : Hid (RI .i64 wr (some ⟨g2, 0, none⟩) 30 (distC ts)) := Lib.hid (by
            have := Blk.ri (xs := distC ts) (ys := []) (by rw [List.append_nil]; exact HB2.out)
            rwa [show (distC ts).length = 30 from cntF_len _ _] at this)
          have hgt := HTB.out.size
          have TW : Hid (Tabs wr) := Lib.hid (HTB.out.keeps HK.out (by intro x hx; simp at hx; omega))
          have TT : Hid (RT wr At p ts) := Lib.hid (HT.out.keeps HK.out (fun a ha hm => by have := HA.out a ha; simp at hm; omega))
          have HBL : Hid (Below w.heap.size w wr) := Lib.hid (keeps_below HK.out (Nat.le_refl _) (fun x hx => by simp at hx; omega))
          have hwr := HK.out.size
          clear hcod htk hlim1 hlim2 hlen1 hlen2 HB1 HB2 HK
          go_wp2_with fail
          refine (limit_calls wr _ _ _ (litC ts) 15 R1.out).mono ?_
          rw [HLIM1.out]
          rintro _ w2 ⟨vl, rfl, ho, hb⟩
          dsimp only at ho
          rw [HLEN1.out] at ho
          obtain ⟨AL, cl, rfl⟩ := own_formW ho
          have hk2 := Keeps.of_below hb (S := [])
          have HOL := Lib.hid ho
          have R22 := Lib.hid (R2.out.keeps hk2 (off_nil _))
          have KW := Lib.hid hk2
          clear ho hb hk2 R1 R2
          go_wp2_with fail
          refine (limit_calls w2 _ _ _ (distC ts) 15 R22.out).mono ?_
          rw [HLIM2.out]
          rintro _ w3 ⟨vd, rfl, ho, hb⟩
          dsimp only at ho
          rw [HLEN2.out] at ho
          obtain ⟨AD, cd, rfl⟩ := own_formW ho
          have hk3 := Keeps.of_below hb (S := [])
          have HOD := Lib.hid ho
          have HOL3 := Lib.hid (own_keeps HOL.out hk3 (by simp))
          have hs2 := KW.out.size
          have KW3 := Lib.hid (KW.out.trans hk3)
          clear ho hb hk3 HOL R22 KW
          go_wp2_with fail
          refine (newWriter_calls w3).mono ?_
          rintro _ w8 ⟨rfl, hwt, hb8⟩
          have HW := Lib.hid hwt
          have hg8 := hwt.lt
          have K8 := Lib.hid (KW3.out.trans (Keeps.of_below hb8))
          have OL8 := Lib.hid (own_keeps HOL3.out (Keeps.of_below hb8 (S := [])) (by simp))
          have OD8 := Lib.hid (own_keeps HOD.out (Keeps.of_below hb8 (S := [])) (by simp))
          have HALo : Hid (∀ a, AL = some a → a.block < w3.heap.size) := Lib.hid (fun a h => (own_hi HOL3.out a.block (by rw [h]; rfl)))
          have HADo : Hid (∀ a, AD = some a → a.block < w3.heap.size) := Lib.hid (fun a h => (own_hi HOD.out a.block (by rw [h]; rfl)))
          have h7 := KW3.out.size
          clear hwt hb8 HOL3 HOD KW3
          generalize w3.heap.size = g at *
          go_wp2_with fail
          refine (put_calls _ g [] 1 1 HW.out (by omega) (by omega) (by omega) (by decide) (by simp)).mono ?_
          rintro _ w9 ⟨rfl, hw9, hb9, hp9⟩
          have HW9 := Lib.hid hw9
          have HB9 := Lib.hid hb9
          have HP9 := Lib.hid hp9
          clear hw9 hb9 hp9 HW
          go_wp2_with fail
          refine (put_calls _ g _ 2 2 HW9.out (by omega) (by omega) (by omega) (by decide) (by simp [vbits_len])).mono ?_
          rintro _ w10 ⟨rfl, hw10, hb10, hp10⟩
          have HW10 : Hid (Wtr w10 g [1, 0, 1]) := Lib.hid hw10
          have HB10 := Lib.hid (HB9.out.trans hb10)
          have HP10 := Lib.hid (HP9.out.trans hp10)
          have HXL : Hid (∀ w', Below g w10 w' → PT g w10 w' → RI .i64 w' AL 286 (dynLit ts)) := Lib.hid (fun w' h1 h2 => by
            obtain ⟨A', c', hv, hr, -⟩ := own_ri OL8.out
            injection hv with q1 q2 q3
            subst q1
            exact ri_belowT hr HALo.out (HB10.out.trans h1))
          have HXD : Hid (∀ w', Below g w10 w' → PT g w10 w' → RI .i64 w' AD 30 (dynDist ts)) := Lib.hid (fun w' h1 h2 => by
            obtain ⟨A', c', hv, hr, -⟩ := own_ri OD8.out
            injection hv with q1 q2 q3
            subst q1
            exact ri_belowT hr HADo.out (HB10.out.trans h1))
          have hwg : w.heap.size ≤ g := Nat.le_trans hwr h7
          have HXT : Hid (∀ w', Below g w10 w' → PT g w10 w' → RT w' At p ts) := Lib.hid (fun w' h1 h2 => rt_below (TT.out.keeps K8.out (off_nil _)) (fun a h => Nat.lt_of_lt_of_le (HA.out a h) hwg) (HB10.out.trans h1))
          have TW10 := Lib.hid ((TW.out.keeps K8.out (by simp)).below HB10.out (show gtop ≤ g by omega))
          have HBB : Hid (Below w.heap.size w w10) := Lib.hid ((HBL.out.trans (below_lower K8.out.below hwr)).trans (below_lower HB10.out hwg))
          clear hw10 hb10 hp10 HW9 HB9 HP9 OL8 OD8 HB10 HP10 K8 TW TT HBL
          go_wp2_with fail
          refine (write_calls w10 g [1, 0, 1] AL AD 286 30 cl cd (dynLit ts) (dynDist ts) TW10.out (by omega) HW10.out (by simp) (HXL.out _ (Below.refl _ _) (PT.refl _ _)) (HXD.out _ (Below.refl _ _) (PT.refl _ _))).mono ?_
          rintro e w11 hwr11
          obtain ⟨rfl, hw11, hb11, hp11⟩ : e = .returned (.int .i64 0) ∧ Wtr w11 g ([1, 0, 1] ++ headB (dynLit ts) (dynDist ts)) ∧ Below g w10 w11 ∧ PT g w10 w11 := by
            rcases hwr11 with ⟨_, h⟩ | ⟨h, _⟩
            · exact h
            · exact absurd HCOD.out.may h
          have HW11 := Lib.hid hw11
          have HB11 := Lib.hid hb11
          have HP11 := Lib.hid hp11
          have HHL : Hid (([1, 0, 1] ++ headB (dynLit ts) (dynDist ts) : List Int).length ≤ 5000) := Lib.hid (by
            have := HCOD.out.may.len
            rw [HLEN1.out, HLEN2.out] at this
            simp only [List.length_append, List.length_cons, List.length_nil]; omega)
          have HTL : Hid ((toksB (dynLit ts) (dynDist ts) ts ++ cbit (dynLit ts) 256).length ≤ 800000) := Lib.hid (by
            have h1 := toksB_len (lit := dynLit ts) (dist := dynDist ts) ts HTK.out (expand_toks ts [] HX0.out)
            have h2 := (tells_bits HCOD.out.stop).2
            have h3 := HLT.out
            simp only [List.length_append]; omega)
          clear hw11 hb11 hp11 hwr11 HW10 TW10
          go_wp2_with fail
          refine (dlay_calls w11 g _ At AL AD p 286 30 ct cl cd ts (dynLit ts) (dynDist ts) HW11.out (by have := HHL.out; omega) (fun w' h1 h2 => HXT.out w' (HB11.out.trans h1) (HP11.out.trans h2)) (fun w' h1 h2 => HXL.out w' (HB11.out.trans h1) (HP11.out.trans h2)) (fun w' h1 h2 => HXD.out w' (HB11.out.trans h1) (HP11.out.trans h2)) hnt (by omega) (by omega) HCOD.out.litC HCOD.out.stop HTK.out (expand_toks ts [] HX0.out)).mono ?_
          rintro _ w12 ⟨⟨v0, rfl⟩, hw12, hb12, hp12⟩
          rw [List.append_assoc] at hw12
          have HW12 := Lib.hid hw12
          have HB12 := Lib.hid (HB11.out.trans hb12)
          have h12 := hw12.lt
          clear hw12 hb12 hp12 HW11 HB11 HP11
          go_wp2_with fail
          refine (bytes_calls w12 g _ HW12.out (by have := HHL.out; have := HTL.out; rw [← List.append_assoc, List.length_append]; omega)).mono ?_
          rintro _ w13 ⟨n, xs, rfl, hri, hwb, hb13⟩
          have HRI := Lib.hid hri
          have HWB := Lib.hid hwb
          have HB13 := Lib.hid (HBB.out.trans (below_lower (HB12.out.trans (below_lower hb13 (Nat.le_of_lt h12))) hwg))
          clear hri hwb hb13
          go_wp2_with fail
          go_ret2
          exact .inl ⟨HC.out, _, _, _, _, rfl, HRI.out, by omega, HWB.out, HB13.out, cap_nn (by have h1 := HRI.out.len; have h2 := HWB.out.len; have h3 := HHL.out; have h4 := HTL.out; rw [← List.append_assoc, List.length_append] at h2; omega)⟩
  · have e1 : (checkT ts 0 != 0) = true := by simpa using hE
    have e2 : decide (checkT ts 0 = 0) = false := by simpa using hE
    have HE := Lib.hid hE
    clear hE
    go_wp2_with fail
    go_ret2
    exact .inr ⟨HE.out, rfl, K1.out.below⟩
end Go.Proofs.YtkpabdjniiepkaaDoor
