import Derived.Test.YtkpabdjniiepkaaGreatDoorProg
import Derived.WalkKit
import Derived.WalkSpells
import Derived.WalkLawsBesides
import Derived.Lib.Hide
import Derived.BigQuiet
import Derived.Deep.QuietTactic
import Derived.Deep.LoopGhost
import Derived.Deep.DeepCutAuto
import Derived.Deep.CutBlock
import Derived.Laws.CopyOwn
import Derived.Laws.BitsLemmas
import Derived.Outline
import Derived.RegionTactic
import Derived.BigRegion
import Derived.ChangeAlike
import Derived.Laws.Rows
import Derived.Deep.RegionLaw
/- Words over worlds: what a call keeps, what a slice of numbers reads as, blocks known whole. -/
set_option linter.unusedVariables false
set_option linter.unusedSimpArgs false
namespace Go.Proofs.YtkpabdjniiepkaaGreatDoor
open Go.RowKit

/-- Of what was there only blocks of S may have turned. -/
structure Keeps (S : List Nat) (w w' : World) : Prop where
  os : w'.os = w.os
  tape : w'.tape = w.tape
  output : w'.output = w.output
  size : w.heap.size ≤ w'.heap.size
  block : ∀ k, k < w.heap.size → k ∉ S → w'.heap[k]? = w.heap[k]?
theorem Keeps.refl (S : List Nat) (w : World) : Keeps S w w := ⟨rfl, rfl, rfl, Nat.le_refl _, fun _ _ _ => rfl⟩
theorem Keeps.trans {S : List Nat} {a b c : World} (h : Keeps S a b) (k : Keeps S b c) : Keeps S a c :=
  ⟨k.os.trans h.os, k.tape.trans h.tape, k.output.trans h.output, Nat.le_trans h.size k.size, fun i hi hs => (k.block i (Nat.lt_of_lt_of_le hi h.size) hs).trans (h.block i hi hs)⟩
theorem Keeps.mono {S S' : List Nat} {w w' : World} (h : Keeps S w w') (hs : ∀ x, x ∈ S → x ∈ S') : Keeps S' w w' :=
  ⟨h.os, h.tape, h.output, h.size, fun k hk hn => h.block k hk (fun hx => hn (hs k hx))⟩
/-- A second step may turn what is new since the first, too. -/
theorem Keeps.then {S S' : List Nat} {a b c : World} (h : Keeps S a b) (k : Keeps S' b c) (hS : ∀ x, x ∈ S' → x ∈ S ∨ a.heap.size ≤ x) : Keeps S a c :=
  ⟨k.os.trans h.os, k.tape.trans h.tape, k.output.trans h.output, Nat.le_trans h.size k.size, fun i hi hs => (k.block i (Nat.lt_of_lt_of_le hi h.size) (fun hx => by rcases hS i hx with h' | h'; exact hs h'; omega)).trans (h.block i hi hs)⟩
theorem Keeps.drewN {S : List Nat} {w w' : World} (h : Keeps S w w') (n : Nat) : Keeps S w (w'.drewN n) := ⟨h.os, h.tape, h.output, h.size, h.block⟩
theorem Keeps.drew {S : List Nat} {w w' : World} (h : Keeps S w w') : Keeps S w w'.drew := ⟨h.os, h.tape, h.output, h.size, h.block⟩
theorem Keeps.alloc {S : List Nat} {w w' : World} (h : Keeps S w w') (o : Obj) : Keeps S w (w'.alloc o) :=
  h.trans ⟨rfl, rfl, rfl, by simp, fun k hk _ => Below.heap_alloc _ _ _ (by omega)⟩
theorem Keeps.setCell {S : List Nat} {w w' : World} (h : Keeps S w w') {p : Addr} (hp : p.block ∈ S ∨ w.heap.size ≤ p.block) (u : Value) : Keeps S w (w'.setCell p u) :=
  ⟨h.os, h.tape, h.output, by simpa [World.setCell] using h.size, fun k hk hn => (Below.heap_setCell _ _ _ _ (fun e => by subst e; rcases hp with hp | hp; exact hn hp; omega)).trans (h.block k hk hn)⟩
theorem Keeps.of_below {S : List Nat} {w w' : World} (h : Below w.heap.size w w') : Keeps S w w' := ⟨h.os, h.tape, h.output, h.size, fun k hk _ => h.block k hk⟩
theorem Keeps.below {w w' : World} (h : Keeps [] w w') : Below w.heap.size w w' := ⟨h.os, h.tape, h.output, h.size, fun k hk => h.block k hk (by simp)⟩
theorem Keeps.grown {S : List Nat} {w w1 w' : World} {row : Option Nat} (h : Keeps S w w1) (hg : w1.grownBy w' row) (hr : ∀ k, row = some k → k ∈ S ∨ w.heap.size ≤ k) : Keeps S w w' :=
  ⟨hg.os.trans h.os, hg.tape.trans h.tape, hg.output.trans h.output, Nat.le_trans h.size hg.size, fun k hk hn => (hg.block k (Nat.lt_of_lt_of_le hk h.size) (fun e => by
    rcases hr k e.symm with h' | h'
    · exact hn h'
    · omega)).trans (h.block k hk hn)⟩
theorem Keeps.cell {S : List Nat} {w w' : World} (h : Keeps S w w') {p : Addr} (hp : p.block ∉ S) {v : Value} (hc : w.cell? p = some v) : w'.cell? p = some v :=
  (World.cell?_of_block (w := w) (h.block p.block (World.block_lt_of_cell? w p hc) hp)).trans hc
theorem Keeps.frozen {S : List Nat} {w w' : World} (h : Keeps S w w') {p : Addr} (hl : p.block < w.heap.size) (hp : p.block ∉ S) : w'.frozen? p = w.frozen? p :=
  World.frozen?_of_block (w := w) (h.block p.block hl hp)
theorem Keeps.heap {S : List Nat} {w w' : World} (h : Keeps S w w') {g : Nat} {o : Obj} (hg : w.heap[g]? = some o) (hp : g ∉ S) : w'.heap[g]? = some o :=
  (h.block g (Array.getElem?_eq_some_iff.1 hg).1 hp).trans hg

/-- Only orders were drawn. -/
def Dr (w w' : World) : Prop := ∃ q, w' = w.drewN q
theorem Dr.refl (w : World) : Dr w w := ⟨0, rfl⟩
theorem Dr.step {w w' : World} (h : Dr w w') (q : Nat) : Dr w (w'.drewN q) := by
  obtain ⟨m, rfl⟩ := h
  exact ⟨m + q, World.drewN_drewN ..⟩
theorem Dr.drew {w w' : World} (h : Dr w w') : Dr w w'.drew := by
  obtain ⟨m, rfl⟩ := h
  exact ⟨m + 1, by rw [← World.drewN_drewN]; rfl⟩
theorem Dr.trans {a b c : World} (h : Dr a b) (k : Dr b c) : Dr a c := by
  obtain ⟨m, rfl⟩ := k
  exact h.step m
theorem Dr.keeps {S : List Nat} {w w' : World} (h : Dr w w') : Keeps S w w' := by
  obtain ⟨q, rfl⟩ := h
  exact (Keeps.refl S w).drewN q

/-- The number at a place (0 beyond the end); a word that the walk does not look into. -/
def nth (xs : List Int) (j : Nat) : Int := xs.getD j 0
theorem nth_lt {xs : List Int} {j : Nat} (h : j < xs.length) : nth xs j = xs[j] := by simp [nth, List.getD, h]
theorem nth_take (xs : List Int) (m j : Nat) (h : j < m) : nth (xs.take m) j = nth xs j := by
  simp [nth, List.getD, List.getElem?_take, h]
/-- A slice's cells are these numbers. -/
structure RI (k : IntKind) (w : World) (A : Option Addr) (n : Nat) (xs : List Int) : Prop where
  len : xs.length = n
  hd : 0 < n → ∃ b o, A = some ⟨b, o, none⟩
  cell : ∀ b o, A = some ⟨b, o, none⟩ → ∀ j, j < n → w.cell? ⟨b, o + j, none⟩ = some (.int k (nth xs j))
theorem RI.at {k : IntKind} {w : World} {A : Option Addr} {n : Nat} {xs : List Int} (h : RI k w A n xs) {j : Nat} (hj : j < n) : ∃ b o, A = some ⟨b, o, none⟩ ∧ w.cell? ⟨b, o + j, none⟩ = some (.int k (nth xs j)) := by
  obtain ⟨b, o, ha⟩ := h.hd (by omega)
  exact ⟨b, o, ha, h.cell b o ha j hj⟩
/-- The block in which a slice's cells lie is none of these. -/
def Off (S : List Nat) (A : Option Addr) : Prop := ∀ a, A = some a → a.block ∉ S
theorem off_nil (A : Option Addr) : Off [] A := fun _ _ => by simp
theorem RI.keeps {k : IntKind} {S : List Nat} {w w' : World} {A : Option Addr} {n : Nat} {xs : List Int} (h : RI k w A n xs) (hk : Keeps S w w') (ho : Off S A) : RI k w' A n xs :=
  ⟨h.len, h.hd, fun b o ha j hj => hk.cell (p := ⟨b, o + j, none⟩) (ho ⟨b, o, none⟩ ha) (h.cell b o ha j hj)⟩
theorem add_plain (g j : Nat) : (⟨g, 0, none⟩ : Addr).add j = ⟨g, j, none⟩ := by unfold Addr.add; split <;> simp_all
theorem add_plain2 (g o j : Nat) : (⟨g, o, none⟩ : Addr).add j = ⟨g, o + j, none⟩ := by unfold Addr.add; split <;> simp_all
theorem RI.take {k : IntKind} {w : World} {A : Option Addr} {n : Nat} {xs : List Int} (h : RI k w A n xs) {m : Nat} (hm : m ≤ n) : RI k w A m (xs.take m) :=
  ⟨by have := h.len; simp; omega, fun hp => h.hd (by omega), fun b o ha j hj => by rw [nth_take _ _ _ hj]; exact h.cell b o ha j (by omega)⟩

/-- A block known whole, none of it frozen. -/
def Blk (w : World) (g : Nat) (t : TypeId) (cs : List Value) : Prop := w.heap[g]? = some (.cells cs.toArray t (0, 0))
theorem Blk.lt {w : World} {g : Nat} {t : TypeId} {cs : List Value} (h : Blk w g t cs) : g < w.heap.size := (Array.getElem?_eq_some_iff.1 h).1
theorem Blk.keeps {S : List Nat} {w w' : World} {g : Nat} {t : TypeId} {cs : List Value} (h : Blk w g t cs) (hk : Keeps S w w') (hn : g ∉ S) : Blk w' g t cs := hk.heap h hn
theorem Blk.drewN {w : World} {g : Nat} {t : TypeId} {cs : List Value} (h : Blk w g t cs) (n : Nat) : Blk (w.drewN n) g t cs := h
theorem Blk.alloc {w : World} {g : Nat} {t : TypeId} {cs : List Value} (h : Blk w g t cs) (o : Obj) : Blk (w.alloc o) g t cs := (Below.heap_alloc _ _ _ h.lt).trans h
theorem Blk.cell {w : World} {g : Nat} {t : TypeId} {cs : List Value} (h : Blk w g t cs) (j : Nat) : w.cell? ⟨g, j, none⟩ = cs[j]? := by
  unfold World.cell?
  simp only [Blk] at h
  simp [h]
theorem Blk.frozen {w : World} {g : Nat} {t : TypeId} {cs : List Value} (h : Blk w g t cs) (j : Nat) : w.frozen? ⟨g, j, none⟩ = false := by
  unfold World.frozen?
  simp only [Blk] at h
  simp [h]
theorem Blk.set {w : World} {g : Nat} {t : TypeId} {cs : List Value} (h : Blk w g t cs) (j : Nat) (u : Value) : Blk (w.setCell ⟨g, j, none⟩ u) g t (cs.set j u) := by
  simp only [Blk, World.setCell, Array.getElem?_modify] at *
  simp [h]
theorem Blk.set_other {w : World} {g : Nat} {t : TypeId} {cs : List Value} (h : Blk w g t cs) {a : Addr} (ha : g ≠ a.block) (u : Value) : Blk (w.setCell a u) g t cs :=
  (Below.heap_setCell _ _ _ _ ha).trans h
theorem blk_new (w : World) (t : TypeId) (cs : List Value) : Blk (w.alloc (.cells cs.toArray t (0, 0))) w.heap.size t cs := by
  show (w.heap.push _)[w.heap.size]? = _
  simp
def ints (k : IntKind) (xs : List Int) : List Value := xs.map (Value.int k)
theorem ints_getElem? (k : IntKind) (xs : List Int) (j : Nat) : (ints k xs)[j]? = (xs[j]?).map (Value.int k) := by simp [ints]
theorem Blk.ri {w : World} {g : Nat} {t : TypeId} {k : IntKind} {xs ys : List Int} (h : Blk w g t (ints k (xs ++ ys))) : RI k w (some ⟨g, 0, none⟩) xs.length xs :=
  ⟨rfl, fun _ => ⟨_, _, rfl⟩, fun b o ha j hj => by
    injection ha with ha; injection ha with h1 h2 h3; subst h1; subst h2
    rw [Nat.zero_add, h.cell, ints_getElem?, List.getElem?_append_left hj]
    simp [nth, List.getD, hj]⟩
theorem own_keeps {S : List Nat} {w w' : World} {base : Nat} {e : TypeId} {size : Nat} {v : Value} {n : Nat} {xs : List Value} (h : w.ownsRow base e size v n xs) (hk : Keeps S w w') (hn : ∀ g, v.ownBlock = some g → g ∉ S) : w'.ownsRow base e size v n xs := by
  refine ⟨h.1, ?_⟩
  rcases h.2 with h2 | ⟨g, cap, cur, hv, hb, hh, hr⟩
  · exact .inl h2
  · exact .inr ⟨g, cap, cur, hv, hb, hk.heap hh (hn g (by rw [hv]; rfl)), hr⟩
theorem own_ri {w : World} {base : Nat} {e : TypeId} {v : Value} {n : Nat} {k : IntKind} {xs : List Int} (h : w.ownsRow base e 1 v n (ints k xs)) :
    ∃ A c, v = .slice A n c ∧ RI k w A n xs ∧ n ≤ c ∧ (∀ a, A = some a → base ≤ a.block ∧ a.block < w.heap.size ∧ v.ownBlock = some a.block) := by
  obtain ⟨h1, h2⟩ := h
  have hl : xs.length = n := by simpa [ints] using h1
  rcases h2 with ⟨rfl, rfl⟩ | ⟨g, cap, cur, rfl, hb, hh, hc, hm, hs, ht⟩
  · exact ⟨none, 0, rfl, ⟨hl, by omega, by simp⟩, by omega, by simp⟩
  · refine ⟨_, _, rfl, ⟨hl, fun _ => ⟨_, _, rfl⟩, fun b o ha j hj => ?_⟩, hc, fun a ha => ?_⟩
    · injection ha with ha; injection ha with h1 h2 h3; subst h1; subst h2
      have e1 : cur.toList[j]? = (ints k xs)[j]? := by rw [← ht, List.getElem?_take, if_pos (by omega)]
      rw [Nat.zero_add]
      unfold World.cell?
      simp only [hh]
      rw [← Array.getElem?_toList, e1, ints_getElem?]
      simp [nth, List.getD, show j < xs.length by omega]
    · obtain rfl := Option.some.inj ha
      exact ⟨hb, (Array.getElem?_eq_some_iff.1 hh).1, rfl⟩
theorem setRow_keeps {S : List Nat} {w0 w : World} (h : Keeps S w0 w) {g : Nat} (hg : g ∈ S ∨ w0.heap.size ≤ g) (cs : Array Value) : Keeps S w0 (w.setRow g cs) :=
  ⟨h.os, h.tape, h.output, by simpa [World.setRow] using h.size, fun k hk hn => (setRow_other w g k cs (fun e => by subst e; rcases hg with hg | hg; exact hn hg; omega)).trans (h.block k hk hn)⟩

/-- 'make([]T, l)' of whole numbers: a block of zeros. -/
theorem make_ints {P : Program} (w : World) (t e : TypeId) (k : IntKind) (b : Nat) (ht : P.underlying t = some (.slice e)) (hi : (P.info? e).map (fun i => (i.zero, i.size, i.bytes)) = some (some (.int k 0), 1, b))
    (l : Int) (n : Nat) (hn : l = n) (hbytes : b * n ≤ 281474976710656) (h63 : n ≤ 9223372036854775807) :
    (Instr.makeSlice t (.int .i64 l) (.int .i64 l)).run P w = .ok (.slice (some ⟨w.heap.size, 0, none⟩) n n) (w.alloc (.cells (ints k (List.replicate n 0)).toArray e)) := by
  subst hn
  obtain ⟨i, hi, hz, hs, hb⟩ := info_parts hi
  have e1 : (i.bytes : Int) * (n : Int) ≤ 281474976710656 := by
    rw [hb]
    have : ((b * n : Nat) : Int) ≤ 281474976710656 := by omega
    rwa [Int.natCast_mul] at this
  rw [run_make w t e i _ ht hi hz .i64 .i64 n n (by omega) (Int.le_refl _) e1 (by omega)]
  simp only [Int.toNat_natCast]
  congr 4
  rw [hs, Nat.mul_one]
  apply Array.toList_inj.1
  show (madeCells #[.int k 0] n).toList = _
  rw [toList_madeCells_one]
  simp [ints]
theorem info_int : (Tryz.prog.info? 3).map (fun i => (i.zero, i.size, i.bytes)) = some (some (.int .i64 0), 1, 8) := by kernel_rfl
theorem info_u8 : (Tryz.prog.info? 5).map (fun i => (i.zero, i.size, i.bytes)) = some (some (.int .u8 0), 1, 1) := by kernel_rfl
theorem size_int : (Tryz.prog.info? 3).map (·.size) = some 1 := by kernel_rfl
theorem size_u8 : (Tryz.prog.info? 5).map (·.size) = some 1 := by kernel_rfl
end Go.Proofs.YtkpabdjniiepkaaGreatDoor

/- Lists of code lengths: plain numbers. -/
set_option linter.unusedVariables false
set_option linter.unusedSimpArgs false
namespace Go.Proofs.YtkpabdjniiepkaaGreatDoor
/-- May a length be? -/
def okLen (x : Int) : Bool := decide (0 ≤ x) && decide (x ≤ 15)
/-- What a length takes of all codes, in parts of 2^15. -/
def part (x : Int) : Nat := if 0 < x then 2 ^ (15 - x).toNat else 0
def usedF (l : List Int) : Nat := (l.filter fun x => decide (0 < x)).length
def measF (l : List Int) : Nat := (l.map part).sum
/-- What is wrong with a list of lengths. -/
def checkF (l : List Int) : Int :=
  if l.length < 1 ∨ 288 < l.length then 1
  else if l.all okLen = false then 1
  else if 32768 < measF l then 30
  else if measF l = 32768 then 0
  else if usedF l = 1 ∧ measF l = 16384 then 0
  else 31
theorem part_le (x : Int) (h : okLen x = true) : part x ≤ 16384 := by
  unfold okLen at h
  simp only [Bool.and_eq_true, decide_eq_true_eq] at h
  unfold part
  split
  · have : 2 ^ (15 - x).toNat ≤ 2 ^ 14 := Nat.pow_le_pow_right (by decide) (by omega)
    exact this
  · omega
theorem take_snoc' (l : List Int) (k : Nat) (h : k < l.length) : l.take (k + 1) = l.take k ++ [nth l k] := by
  rw [List.take_succ_eq_append_getElem h, nth_lt h]
theorem usedF_snoc (l : List Int) (k : Nat) (h : k < l.length) : usedF (l.take (k + 1)) = usedF (l.take k) + if 0 < nth l k then 1 else 0 := by
  rw [take_snoc' l k h]
  unfold usedF
  rw [List.filter_append, List.length_append]
  by_cases h0 : 0 < nth l k <;> simp [List.filter_cons, h0]
theorem measF_snoc (l : List Int) (k : Nat) (h : k < l.length) : measF (l.take (k + 1)) = measF (l.take k) + part (nth l k) := by
  rw [take_snoc' l k h]; simp [measF]
theorem all_snoc (l : List Int) (k : Nat) (h : k < l.length) : (l.take (k + 1)).all okLen = ((l.take k).all okLen && okLen (nth l k)) := by
  rw [take_snoc' l k h]; simp
theorem usedF_le (l : List Int) : usedF l ≤ l.length := List.length_filter_le _ _
theorem measF_le (l : List Int) (h : l.all okLen = true) : measF l ≤ l.length * 16384 := by
  induction l with
  | nil => simp [measF]
  | cons x r ih =>
    simp only [List.all_cons, Bool.and_eq_true] at h
    have h1 := part_le x h.1
    have h2 := ih h.2
    simp only [measF, List.map_cons, List.sum_cons, List.length_cons] at *
    omega
theorem all_hit (l : List Int) (k : Nat) (h : k < l.length) (hb : okLen (nth l k) = false) : l.all okLen = false := by
  rw [List.all_eq_false]
  rw [nth_lt h] at hb
  exact ⟨_, List.getElem_mem h, by simp [hb]⟩
theorem part_pos (x : Int) (h0 : 0 < x) (h15 : x ≤ 15) : (part x : Int) = 2 ^ (15 - x).toNat := by
  unfold part; rw [if_pos h0]; simp
theorem part_zero (x : Int) (h0 : ¬ 0 < x) : part x = 0 := by unfold part; rw [if_neg h0]
theorem check_ok {l : List Int} (h : checkF l = 0) : l.length ≤ 288 ∧ l.all okLen = true := by
  unfold checkF at h
  split at h
  · cases h
  · rename_i h1
    split at h
    · cases h
    · rename_i h2
      exact ⟨by omega, by simpa using h2⟩
end Go.Proofs.YtkpabdjniiepkaaGreatDoor

/- Limited lengths: plain lists. -/
set_option linter.unusedVariables false
set_option linter.unusedSimpArgs false
namespace Go.Proofs.YtkpabdjniiepkaaGreatDoor
/-! Stable sorting of whatever has a weight. -/
section
variable {α : Type} (f : α → Int)
def Srt (l : List α) : Prop := l.Pairwise (fun p q => f p ≤ f q)
def Sme (r l : List α) : Prop := r.Perm l ∧ ∀ v, r.filter (fun p => decide (f p = v)) = l.filter (fun p => decide (f p = v))
theorem Srt_eq {r : List α} : ∀ {l : List α}, Srt f r → Srt f l → Sme f r l → r = l := by
  induction r with
  | nil => intro l _ _ h; exact (List.length_eq_zero_iff.1 h.1.length_eq.symm).symm
  | cons p r ih =>
    intro l hr hl h
    match l, h, hl with
    | [], h, _ => have := h.1.length_eq; simp at this
    | q :: l, h, hl =>
      have hw : f p = f q := by
        have h1 : p ∈ q :: l := h.1.mem_iff.1 (List.mem_cons_self ..)
        have h2 : q ∈ p :: r := h.1.mem_iff.2 (List.mem_cons_self ..)
        have a1 : f q ≤ f p := by
          rcases List.mem_cons.1 h1 with rfl | h1
          · exact Int.le_refl _
          · exact (List.pairwise_cons.1 hl).1 p h1
        have a2 : f p ≤ f q := by
          rcases List.mem_cons.1 h2 with rfl | h2
          · exact Int.le_refl _
          · exact (List.pairwise_cons.1 hr).1 q h2
        omega
      have hv := h.2 (f p)
      rw [List.filter_cons_of_pos (by simp), List.filter_cons_of_pos (by simp [hw])] at hv
      injection hv with e1 e2
      subst e1
      refine congrArg (p :: ·) (ih (List.pairwise_cons.1 hr).2 (List.pairwise_cons.1 hl).2 ⟨(List.perm_cons p).1 h.1, fun v => ?_⟩)
      have hv := h.2 v
      by_cases e : f p = v
      · rw [List.filter_cons_of_pos (by simpa using e), List.filter_cons_of_pos (by simpa using e)] at hv
        injection hv
      · rw [List.filter_cons_of_neg (by simpa using e), List.filter_cons_of_neg (by simpa using e)] at hv
        exact hv
def insW (p : α) : List α → List α
  | [] => [p]
  | q :: r => if f q ≤ f p then q :: insW p r else p :: q :: r
/-- Sorted by weight, those of one weight in their order. -/
def sortW : List α → List α → List α
  | [], acc => acc
  | p :: r, acc => sortW r (insW f p acc)
theorem insW_mem (p x : α) (l : List α) : x ∈ insW f p l ↔ x = p ∨ x ∈ l := by
  induction l with
  | nil => simp [insW]
  | cons q r ih =>
    unfold insW
    split
    · rw [List.mem_cons, ih, List.mem_cons]
      constructor
      · rintro (h | h | h)
        · exact Or.inr (Or.inl h)
        · exact Or.inl h
        · exact Or.inr (Or.inr h)
      · rintro (h | h | h)
        · exact Or.inr (Or.inl h)
        · exact Or.inl h
        · exact Or.inr (Or.inr h)
    · rw [List.mem_cons]
theorem insW_srt (p : α) (l : List α) (h : Srt f l) : Srt f (insW f p l) := by
  induction l with
  | nil => exact List.pairwise_singleton _ _
  | cons q r ih =>
    unfold insW
    split
    · rename_i hq
      refine List.pairwise_cons.2 ⟨fun x hx => ?_, ih (List.pairwise_cons.1 h).2⟩
      rcases (insW_mem f p x r).1 hx with rfl | hx
      · exact hq
      · exact (List.pairwise_cons.1 h).1 x hx
    · rename_i hq
      refine List.pairwise_cons.2 ⟨fun x hx => ?_, h⟩
      rcases List.mem_cons.1 hx with rfl | hx
      · omega
      · have := (List.pairwise_cons.1 h).1 x hx; omega
theorem insW_sme (p : α) (l : List α) (h : Srt f l) : Sme f (insW f p l) (l ++ [p]) := by
  induction l with
  | nil => exact ⟨List.Perm.refl _, fun _ => rfl⟩
  | cons q r ih =>
    unfold insW
    split
    · have := ih (List.pairwise_cons.1 h).2
      refine ⟨(List.perm_cons q).2 this.1, fun v => ?_⟩
      rw [List.cons_append]
      by_cases e : f q = v
      · rw [List.filter_cons_of_pos (by simpa using e), List.filter_cons_of_pos (by simpa using e), this.2]
      · rw [List.filter_cons_of_neg (by simpa using e), List.filter_cons_of_neg (by simpa using e), this.2]
    · rename_i hq
      refine ⟨(List.perm_append_singleton p (q :: r)).symm, fun v => ?_⟩
      rw [List.filter_append]
      by_cases e : f p = v
      · have : List.filter (fun x => decide (f x = v)) (q :: r) = [] := by
          rw [List.filter_eq_nil_iff]
          intro x hx
          have : f q ≤ f x := by
            rcases List.mem_cons.1 hx with rfl | hx
            · exact Int.le_refl _
            · exact (List.pairwise_cons.1 h).1 x hx
          simp; omega
        rw [List.filter_cons_of_pos (by simpa using e), this]; simp [e]
      · rw [List.filter_cons_of_neg (by simpa using e), List.filter_cons_of_neg (a := p) (by simpa using e)]; simp
theorem sortW_spec (l : List α) : ∀ acc, Srt f acc → Srt f (sortW f l acc) ∧ Sme f (sortW f l acc) (acc ++ l) := by
  induction l with
  | nil => intro acc h; exact ⟨h, by simp [sortW]; exact ⟨List.Perm.refl _, fun _ => rfl⟩⟩
  | cons p r ih =>
    intro acc h
    have h1 := insW_srt f p acc h
    have h2 := insW_sme f p acc h
    obtain ⟨h3, h4⟩ := ih _ h1
    refine ⟨h3, h4.1.trans ?_, fun v => (h4.2 v).trans ?_⟩
    · have := h2.1.append_right r
      simpa using this
    · have := h2.2 v
      rw [List.filter_append, this, ← List.filter_append]; simp
theorem sortW_srt (l : List α) : Srt f (sortW f l []) := (sortW_spec f l [] List.Pairwise.nil).1
theorem sortW_sme (l : List α) : Sme f (sortW f l []) l := by have := (sortW_spec f l [] List.Pairwise.nil).2; simpa using this
theorem sortW_eq {r l : List α} (h1 : Srt f r) (h2 : Sme f r l) : r = sortW f l [] :=
  Srt_eq f h1 (sortW_srt f l) ⟨h2.1.trans (sortW_sme f l).1.symm, fun v => (h2.2 v).trans ((sortW_sme f l).2 v).symm⟩
end
/-- A weight, and symbols. -/
abbrev PP : Type := Int × List Int
def sortP (l : List PP) : List PP := sortW Prod.fst l []
theorem sortP_perm (l : List PP) : (sortP l).Perm l := (sortW_sme Prod.fst l).1
theorem sortP_len (l : List PP) : (sortP l).length = l.length := (sortP_perm l).length_eq
/-- The symbols that come. -/
def leavesF : List Int → Nat → List PP
  | [], _ => []
  | n :: r, i => if 0 < n then (n, [(i : Int)]) :: leavesF r (i + 1) else leavesF r (i + 1)
theorem leavesF_snoc (l : List Int) (x : Int) : ∀ i, leavesF (l ++ [x]) i = leavesF l i ++ if 0 < x then [(x, [((i + l.length : Nat) : Int)])] else [] := by
  induction l with
  | nil => intro i; simp only [List.nil_append, leavesF, List.length_nil, Nat.add_zero]
  | cons n r ih =>
    intro i
    rw [List.cons_append, leavesF, leavesF, ih (i + 1), List.length_cons, show i + 1 + r.length = i + (r.length + 1) by omega]
    split <;> rfl
/-- Two by two as one. -/
def pairsF : List PP → List PP
  | a :: b :: r => (a.1 + b.1, a.2 ++ b.2) :: pairsF r
  | _ => []
def levelF (lv : List PP) : Nat → List PP
  | 0 => []
  | t + 1 => sortP (lv ++ pairsF (levelF lv t))
/-- How often each number below n comes. -/
def cntF (n : Nat) (S : List Int) : List Int := (List.range n).map fun (i : Nat) => (S.count (i : Int) : Int)
def limLens (cs : List Int) (most : Nat) : List Int :=
  cntF cs.length (if (leavesF cs 0).length < 2 then (leavesF cs 0).flatMap Prod.snd else ((levelF (sortP (leavesF cs 0)) most).take (2 * (leavesF cs 0).length - 2)).flatMap Prod.snd)
def badCount (x : Int) : Bool := decide (x < 0) || decide (1000000000000 < x)
def limF (cs : List Int) (most : Int) : List Int × Int :=
  if cs.length = 0 ∨ 288 < cs.length ∨ most < 1 ∨ 15 < most then ([], 1)
  else if cs.any badCount then ([], 1)
  else if 2 ^ most.toNat < (leavesF cs 0).length then ([], 30)
  else (limLens cs most.toNat, 0)
/-! Sums. -/
def sumW (l : List PP) : Int := (l.map Prod.fst).sum
def sumS (l : List PP) : Nat := (l.map fun p => p.2.length).sum
def posP (l : List PP) : Prop := ∀ p ∈ l, 0 < p.1 ∧ p.2 ≠ []
theorem sumW_app (a b : List PP) : sumW (a ++ b) = sumW a + sumW b := by simp [sumW]
theorem sumS_app (a b : List PP) : sumS (a ++ b) = sumS a + sumS b := by simp [sumS]
theorem sumW_perm {a b : List PP} (h : a.Perm b) : sumW a = sumW b := by
  unfold sumW
  have := h.map Prod.fst
  clear h
  generalize a.map Prod.fst = x at *
  generalize b.map Prod.fst = y at *
  induction this with
  | nil => rfl
  | cons _ _ ih => simp [ih]
  | swap x y l => simp; omega
  | trans _ _ h1 h2 => exact h1.trans h2
theorem sumS_perm {a b : List PP} (h : a.Perm b) : sumS a = sumS b := List.Perm.sum_nat (h.map fun (p : PP) => p.2.length)
theorem posP_app {a b : List PP} (ha : posP a) (hb : posP b) : posP (a ++ b) := fun p hp => by
  rcases List.mem_append.1 hp with h | h
  · exact ha p h
  · exact hb p h
theorem posP_perm {a b : List PP} (h : a.Perm b) (hb : posP b) : posP a := fun p hp => hb p (h.mem_iff.1 hp)
theorem pairsF_short {l : List PP} (hl : ∀ a b r, l = a :: b :: r → False) : pairsF l = [] := by
  match l, hl with
  | [], _ => simp [pairsF]
  | [x], _ => simp [pairsF]
  | a :: b :: r, h => exact absurd rfl (h a b r)
theorem pairsF_len (l : List PP) : (pairsF l).length = l.length / 2 := by
  induction l using pairsF.induct with
  | case1 a b r ih => rw [pairsF, List.length_cons, ih]; simp only [List.length_cons]; omega
  | case2 l h =>
    match l, h with
    | [], _ => simp [pairsF]
    | [x], _ => simp [pairsF]
    | a :: b :: r, h => exact absurd rfl (h a b r)
theorem pairsF_pos (l : List PP) (h : posP l) : posP (pairsF l) := by
  induction l using pairsF.induct with
  | case1 a b r ih =>
    intro p hp
    rw [pairsF] at hp
    rcases List.mem_cons.1 hp with rfl | hp
    · have h1 := h a (by simp); have h2 := h b (by simp)
      exact ⟨by show 0 < a.1 + b.1; omega, by show a.2 ++ b.2 ≠ []; simp [h1.2]⟩
    · exact ih (fun q hq => h q (by simp [hq])) p hp
  | case2 l hl => intro p hp; rw [pairsF_short hl] at hp; cases hp
theorem sumW_nonneg (l : List PP) (h : posP l) : 0 ≤ sumW l := by
  induction l with
  | nil => simp [sumW]
  | cons a r ih =>
    have := ih (fun q hq => h q (by simp [hq]))
    have := (h a (by simp)).1
    simp only [sumW, List.map_cons, List.sum_cons] at *
    omega
theorem pairsF_sum (l : List PP) (h : posP l) : sumW (pairsF l) ≤ sumW l ∧ sumS (pairsF l) ≤ sumS l := by
  induction l using pairsF.induct with
  | case1 a b r ih =>
    have := ih (fun q hq => h q (by simp [hq]))
    rw [pairsF]
    simp only [sumW, sumS, List.map_cons, List.sum_cons, List.length_append] at *
    omega
  | case2 l hl =>
    have e : pairsF l = [] := by
      match l, hl with
      | [], _ => simp [pairsF]
      | [x], _ => simp [pairsF]
      | a :: b :: r, h => exact absurd rfl (h a b r)
    rw [e]
    exact ⟨sumW_nonneg l h, Nat.zero_le _⟩
theorem level_bd (lv : List PP) (h : posP lv) (t : Nat) : posP (levelF lv t) ∧ sumW (levelF lv t) ≤ t * sumW lv ∧ sumS (levelF lv t) ≤ t * sumS lv ∧ (levelF lv t).length ≤ 2 * lv.length := by
  induction t with
  | zero => exact ⟨(by intro p hp; cases hp), by simp [levelF, sumW], by simp [levelF, sumS], by simp [levelF]⟩
  | succ t ih =>
    obtain ⟨h1, h2, h3, h4⟩ := ih
    have hp := sortP_perm (lv ++ pairsF (levelF lv t))
    have hq := pairsF_sum _ h1
    refine ⟨posP_perm hp (posP_app h (pairsF_pos _ h1)), ?_, ?_, ?_⟩
    · rw [levelF, sumW_perm hp, sumW_app]
      have : ((t + 1 : Nat) : Int) * sumW lv = t * sumW lv + sumW lv := by rw [Int.natCast_add, Int.add_mul]; simp
      omega
    · rw [levelF, sumS_perm hp, sumS_app, Nat.add_mul, Nat.one_mul]; omega
    · rw [levelF, sortP_len, List.length_append, pairsF_len]; omega
theorem le_sumW {l : List PP} (h : posP l) {p : PP} (hp : p ∈ l) : p.1 ≤ sumW l := by
  induction l with
  | nil => cases hp
  | cons a r ih =>
    have hr : posP r := fun q hq => h q (by simp [hq])
    have h0 := sumW_nonneg r hr
    have ha := (h a (by simp)).1
    have e : sumW (a :: r) = a.1 + sumW r := by simp [sumW]
    rcases List.mem_cons.1 hp with rfl | hp
    · omega
    · have := ih hr hp; omega
theorem le_sumS {l : List PP} {p : PP} (hp : p ∈ l) : p.2.length ≤ sumS l := by
  induction l with
  | nil => cases hp
  | cons a r ih =>
    have e : sumS (a :: r) = a.2.length + sumS r := by simp [sumS]
    rcases List.mem_cons.1 hp with rfl | hp
    · omega
    · have := ih hp; omega
theorem leaves_bd (cs : List Int) (h : cs.any badCount = false) : ∀ i, posP (leavesF cs i) ∧ sumW (leavesF cs i) ≤ cs.length * 1000000000000 ∧ sumS (leavesF cs i) = (leavesF cs i).length ∧ (leavesF cs i).length ≤ cs.length ∧ ∀ p ∈ leavesF cs i, ∀ s ∈ p.2, (i : Int) ≤ s ∧ s < ((i + cs.length : Nat) : Int) := by
  induction cs with
  | nil => intro i; exact ⟨(by intro p hp; cases hp), by simp [leavesF, sumW], by simp [leavesF, sumS], by simp [leavesF], (by intro p hp; cases hp)⟩
  | cons x r ih =>
    intro i
    rw [List.any_cons, Bool.or_eq_false_iff] at h
    obtain ⟨h1, h2, h3, h4, h5⟩ := ih h.2 (i + 1)
    have hx := h.1
    unfold badCount at hx
    rw [Bool.or_eq_false_iff, decide_eq_false_iff_not, decide_eq_false_iff_not] at hx
    rw [leavesF]
    split
    · rename_i hx0
      refine ⟨?_, ?_, ?_, ?_, ?_⟩
      · intro p hp
        rcases List.mem_cons.1 hp with rfl | hp
        · exact ⟨hx0, by simp⟩
        · exact h1 p hp
      · simp only [sumW, List.map_cons, List.sum_cons, List.length_cons] at *; omega
      · simp only [sumS, List.map_cons, List.sum_cons, List.length_cons, List.length_nil] at *; omega
      · simp only [List.length_cons]; omega
      · intro p hp s hs
        rcases List.mem_cons.1 hp with rfl | hp
        · rw [List.mem_singleton.1 hs]; simp only [List.length_cons]; omega
        · have := h5 p hp s hs; simp only [List.length_cons]; omega
    · refine ⟨h1, ?_, h3, ?_, ?_⟩
      · simp only [List.length_cons] at *; omega
      · simp only [List.length_cons]; omega
      · intro p hp s hs
        have := h5 p hp s hs; simp only [List.length_cons]; omega
/-- All symbols of packs. -/
def inR (n : Nat) (l : List PP) : Prop := ∀ p ∈ l, ∀ s ∈ p.2, 0 ≤ s ∧ s < (n : Int)
theorem pairsF_inR {n : Nat} (l : List PP) (h : inR n l) : inR n (pairsF l) := by
  induction l using pairsF.induct with
  | case1 a b r ih =>
    intro p hp s hs
    rw [pairsF] at hp
    rcases List.mem_cons.1 hp with rfl | hp
    · rcases List.mem_append.1 hs with hs | hs
      · exact h a (by simp) s hs
      · exact h b (by simp) s hs
    · exact ih (fun q hq => h q (by simp [hq])) p hp s hs
  | case2 l hl => intro p hp; rw [pairsF_short hl] at hp; cases hp
theorem level_inR {n : Nat} (lv : List PP) (h : inR n lv) : ∀ t, inR n (levelF lv t)
  | 0 => by intro p hp; cases hp
  | t + 1 => by
    intro p hp s hs
    rw [levelF] at hp
    rcases List.mem_append.1 ((sortP_perm _).mem_iff.1 hp) with hp | hp
    · exact h p hp s hs
    · exact pairsF_inR _ (level_inR lv h t) p hp s hs
theorem cntF_len (n : Nat) (S : List Int) : (cntF n S).length = n := by simp [cntF]
theorem cntF_nth (n : Nat) (S : List Int) (i : Nat) (h : i < n) : nth (cntF n S) i = (S.count (i : Int) : Int) := by
  simp [nth, cntF, List.getD, h]
theorem cntF_nil (n : Nat) : cntF n [] = List.replicate n 0 := by
  refine List.ext_getElem (by simp [cntF]) fun i h1 h2 => ?_
  simp [cntF]
theorem cntF_snoc (n : Nat) (S : List Int) (s : Nat) (h : s < n) : cntF n (S ++ [(s : Int)]) = (cntF n S).set s (nth (cntF n S) s + 1) := by
  refine List.ext_getElem (by simp [cntF]) fun i h1 h2 => ?_
  rw [List.getElem_set]
  simp only [cntF, List.getElem_map, List.getElem_range, List.count_append]
  by_cases e : s = i
  · subst e
    rw [if_pos rfl]
    have := cntF_nth n S s h
    unfold cntF at this
    rw [this]; simp
  · have hz : List.count (i : Int) [(s : Int)] = 0 := List.count_eq_zero_of_not_mem (by simp; omega)
    rw [if_neg e, hz, Nat.add_zero]
end Go.Proofs.YtkpabdjniiepkaaGreatDoor

/- Codes of a list of lengths: plain numbers. -/
set_option linter.unusedVariables false
set_option linter.unusedSimpArgs false
namespace Go.Proofs.YtkpabdjniiepkaaGreatDoor
/-- How many have each length. -/
def lenCnt (l : List Int) : List Int := cntF 16 (l.filter fun x => decide (0 < x))
/-- The least code of each length. -/
def lowF (cnt : List Int) : Nat → Int
  | 0 => 0
  | n + 1 => 2 * (lowF cnt n + nth cnt n)
def lowL (cnt : List Int) (n : Nat) : List Int := (List.range 16).map fun j => if j < n then lowF cnt j else 0
theorem lenCnt_len (l : List Int) : (lenCnt l).length = 16 := cntF_len _ _
theorem lowL_len (c : List Int) (n : Nat) : (lowL c n).length = 16 := by simp [lowL]
theorem lenCnt_snoc (l : List Int) (k : Nat) (h : k < l.length) (h0 : 0 < nth l k) (h15 : nth l k ≤ 15) : ∃ s : Nat, nth l k = s ∧ s < 16 ∧ lenCnt (l.take (k + 1)) = (lenCnt (l.take k)).set s (nth (lenCnt (l.take k)) s + 1) := by
  obtain ⟨s, hs⟩ := Int.eq_ofNat_of_zero_le (show 0 ≤ nth l k by omega)
  refine ⟨s, hs, by omega, ?_⟩
  unfold lenCnt
  rw [take_snoc' l k h, List.filter_append, List.filter_cons_of_pos (by simpa using h0), List.filter_nil, hs]
  exact cntF_snoc 16 _ s (by omega)
theorem lenCnt_skip (l : List Int) (k : Nat) (h : k < l.length) (h0 : ¬ 0 < nth l k) : lenCnt (l.take (k + 1)) = lenCnt (l.take k) := by
  unfold lenCnt
  rw [take_snoc' l k h, List.filter_append, List.filter_cons_of_neg (by simpa using h0), List.filter_nil, List.append_nil]
theorem lenCnt_bd (l : List Int) (s : Nat) (h : s < 16) : 0 ≤ nth (lenCnt l) s ∧ nth (lenCnt l) s ≤ l.length := by
  unfold lenCnt
  rw [cntF_nth _ _ _ h]
  have h1 := List.count_le_length (a := (s : Int)) (l := l.filter fun x => decide (0 < x))
  have h2 := List.length_filter_le (fun x => decide (0 < x)) l
  omega
theorem lowF_bd (l : List Int) (hl : l.length ≤ 288) (n : Nat) (hn : n ≤ 16) : 0 ≤ lowF (lenCnt l) n ∧ lowF (lenCnt l) n ≤ (2 ^ n - 1) * 576 := by
  induction n with
  | zero => simp [lowF]
  | succ n ih =>
    have h1 := ih (by omega)
    have h2 := lenCnt_bd l n (by omega)
    rw [lowF]
    have h3 : (2 : Int) ^ (n + 1) = 2 * 2 ^ n := by rw [Int.pow_succ]; omega
    rw [h3]
    generalize (2 : Int) ^ n = P at *
    omega
theorem pow16 (n : Nat) (hn : n ≤ 16) : (2 : Int) ^ n ≤ 65536 := by
  have : 2 ^ n ≤ 2 ^ 16 := Nat.pow_le_pow_right (by decide) hn
  have : ((2 ^ n : Nat) : Int) ≤ ((2 ^ 16 : Nat) : Int) := by exact_mod_cast this
  simpa using this
theorem lowF_small (l : List Int) (hl : l.length ≤ 288) (n : Nat) (hn : n ≤ 16) : 0 ≤ lowF (lenCnt l) n ∧ lowF (lenCnt l) n ≤ 40000000 := by
  have := lowF_bd l hl n hn
  have := pow16 n hn
  omega
theorem lowL_zero (c : List Int) : lowL c 1 = List.replicate 16 0 := by
  refine List.ext_getElem (by simp [lowL]) fun j h1 h2 => ?_
  simp only [lowL, List.getElem_map, List.getElem_range, List.getElem_replicate]
  split
  · rw [show j = 0 by omega]; rfl
  · rfl
theorem lowL_succ (c : List Int) (n : Nat) (hn : n < 16) : lowL c (n + 1) = (lowL c n).set n (lowF c n) := by
  refine List.ext_getElem (by simp [lowL]) fun j h1 h2 => ?_
  rw [List.getElem_set]
  simp only [lowL, List.getElem_map, List.getElem_range]
  by_cases e : n = j
  · subst e; rw [if_pos rfl, if_pos (by omega)]
  · rw [if_neg e]
    by_cases e2 : j < n
    · rw [if_pos (by omega), if_pos e2]
    · rw [if_neg (by omega), if_neg e2]
end Go.Proofs.YtkpabdjniiepkaaGreatDoor

/- Wraps and masks of 64 bits. -/
set_option linter.unusedVariables false
set_option linter.unusedSimpArgs false
namespace Go.Proofs.YtkpabdjniiepkaaGreatDoor
theorem wrap_u64 (n : Int) : IntKind.u64.wrap n = n % 18446744073709551616 := by simp [IntKind.wrap, IntKind.bits, IntKind.signed]
theorem wraps_u64 (n : Int) (h₀ : 0 ≤ n) (h₁ : n < 2 ^ 64) : IntKind.u64.wrap n = n := by rw [wrap_u64]; omega
theorem u64_mask32 (x : Int) (h₀ : 0 ≤ x) (h₁ : x < 18446744073709551616) : Go.bits .and .u64 x 4294967295 = x % 4294967296 := bits_mask .u64 64 (by decide) wraps_u64 32 (by decide) x h₀ h₁
end Go.Proofs.YtkpabdjniiepkaaGreatDoor

/- Bits of bytes: plain numbers. -/
set_option linter.unusedVariables false
set_option linter.unusedSimpArgs false
namespace Go.Proofs.YtkpabdjniiepkaaGreatDoor
/-- The bit at a place. -/
def bitAt (bs : List Int) (i : Nat) : Int := (nth bs (i / 8)) / 2 ^ (i % 8) % 2
/-- The number of so many bits from a place on. -/
def numB (bs : List Int) (p : Nat) : Nat → Int
  | 0 => 0
  | n + 1 => numB bs p n + bitAt bs (p + n) * 2 ^ n
theorem bitAt_le (bs : List Int) (i : Nat) : 0 ≤ bitAt bs i ∧ bitAt bs i ≤ 1 := by unfold bitAt; omega
theorem pow_cast (n : Nat) : (0 : Int) < 2 ^ n := by exact_mod_cast Nat.two_pow_pos n
theorem numB_lt (bs : List Int) (p : Nat) : ∀ n, 0 ≤ numB bs p n ∧ numB bs p n < 2 ^ n
  | 0 => by simp [numB]
  | n + 1 => by
    have ih := numB_lt bs p n
    have hb := bitAt_le bs (p + n)
    have hp := pow_cast n
    rw [numB, Int.pow_succ]
    rcases (by omega : bitAt bs (p + n) = 0 ∨ bitAt bs (p + n) = 1) with h | h <;> rw [h] <;> omega
theorem numB_add (bs : List Int) (p h : Nat) : ∀ k, numB bs p (h + k) = numB bs p h + numB bs (p + h) k * 2 ^ h
  | 0 => by simp [numB]
  | k + 1 => by
    rw [← Nat.add_assoc, numB, numB_add bs p h k, numB, Int.add_mul, Nat.add_assoc p h k, Int.pow_add, Int.mul_assoc, Int.mul_comm (2 ^ h) (2 ^ k), Int.add_assoc]
theorem div_div (a b c : Int) (hb : 0 < b) : a / b / c = a / (b * c) := by
  rw [Int.ediv_ediv, if_neg (by rintro ⟨h, _⟩; omega)]; simp
theorem div_pow_succ (x : Int) (k : Nat) : x % 2 ^ (k + 1) = x % 2 ^ k + (x / 2 ^ k % 2) * 2 ^ k := by
  have hp := pow_cast k
  have h1 := Int.emod_add_mul_ediv x (2 ^ k)
  have h2 := Int.emod_add_mul_ediv (x / 2 ^ k) 2
  have h3 := Int.emod_nonneg x (show (2 : Int) ^ k ≠ 0 by omega)
  have h4 := Int.emod_lt_of_pos x hp
  have h5 : x / 2 ^ (k + 1) = x / 2 ^ k / 2 := by rw [Int.pow_succ, div_div _ _ _ (by omega)]
  have h6 := Int.emod_add_mul_ediv x (2 ^ (k + 1))
  rw [h5] at h6
  rw [Int.pow_succ] at *
  have e : x = x % 2 ^ k + 2 ^ k * (x / 2 ^ k % 2 + 2 * (x / 2 ^ k / 2)) := by rw [h2]; omega
  rw [Int.mul_add] at e
  have e2 : 2 ^ k * (2 * (x / 2 ^ k / 2)) = 2 ^ k * 2 * (x / 2 ^ k / 2) := by rw [Int.mul_assoc]
  rw [Int.mul_comm (x / 2 ^ k % 2)]
  omega
/-- Within one byte. -/
theorem numB_byte (bs : List Int) (p : Nat) : ∀ k, p % 8 + k ≤ 8 → numB bs p k = nth bs (p / 8) / 2 ^ (p % 8) % 2 ^ k
  | 0, _ => by simp [numB, Int.emod_one]
  | k + 1, h => by
    rw [numB, numB_byte bs p k (by omega), div_pow_succ]
    congr 2
    unfold bitAt
    rw [show (p + k) / 8 = p / 8 by omega, show (p + k) % 8 = p % 8 + k by omega, Int.pow_add]
    rw [div_div _ _ _ (pow_cast _)]
theorem or_join (i : Nat) (x y : Int) (hx₀ : 0 ≤ x) (hx : x % 2 ^ i = 0) (hx₁ : x < 2 ^ 64) (hy₀ : 0 ≤ y) (hy : y < 2 ^ i) (hy₁ : y < 2 ^ 64) : Go.bits .or .u64 y x = x + y := by
  have h := bits_join .u64 64 (by decide) wraps_u64 i x y hx₀ hx hx₁ hy₀ hy hy₁
  obtain ⟨a, rfl⟩ := Int.eq_ofNat_of_zero_le hx₀
  obtain ⟨b, rfl⟩ := Int.eq_ofNat_of_zero_le hy₀
  have ha : a < 2 ^ 64 := by exact_mod_cast hx₁
  have hb : b < 2 ^ 64 := by exact_mod_cast hy₁
  rw [(bits_nat .u64 64 (by decide) wraps_u64 a b ha hb).2] at h
  rw [(bits_nat .u64 64 (by decide) wraps_u64 b a hb ha).2, Nat.or_comm]
  exact h
theorem pow_le8 (k : Nat) (h : k ≤ 8) : (2 : Int) ^ k ≤ 256 := by
  have h1 : 2 ^ k ≤ 2 ^ 8 := Nat.pow_le_pow_right (by decide) h
  have : ((2 ^ k : Nat) : Int) ≤ ((2 ^ 8 : Nat) : Int) := by exact_mod_cast h1
  simpa using this
theorem take_byte (bs : List Int) (q k : Nat) (hb : 0 ≤ nth bs (q / 8) ∧ nth bs (q / 8) ≤ 255) (hk : q % 8 + k ≤ 8) :
    Go.bits .and .u8 (nth bs (q / 8) / 2 ^ (q % 8)) ((2 ^ k - 1) % 256) = numB bs q k := by
  have hp := pow_cast k
  have hp8 := pow_le8 k (by omega)
  have e1 : ((2 : Int) ^ k - 1) % 256 = 2 ^ k - 1 := by omega
  have hq := pow_cast (q % 8)
  have h1 : 0 ≤ nth bs (q / 8) / 2 ^ (q % 8) := Int.ediv_nonneg hb.1 (by omega)
  have h2 : nth bs (q / 8) / 2 ^ (q % 8) ≤ nth bs (q / 8) := Int.ediv_le_self _ hb.1
  rw [e1, bits_mask .u8 8 (by decide) wraps_u8 k (by omega) _ h1 (by omega), numB_byte bs q k hk]
theorem pow32 (h : Nat) (hh : h ≤ 32) : (2 : Int) ^ h ≤ 4294967296 := by
  have h1 : 2 ^ h ≤ 2 ^ 32 := Nat.pow_le_pow_right (by decide) hh
  have : ((2 ^ h : Nat) : Int) ≤ ((2 ^ 32 : Nat) : Int) := by exact_mod_cast h1
  simpa using this
theorem take_part (bs : List Int) (p h k : Nat) (hb : 0 ≤ nth bs ((p + h) / 8) ∧ nth bs ((p + h) / 8) ≤ 255) (hk : (p + h) % 8 + k ≤ 8) (hh : h + k ≤ 32) :
    Go.bits .or .u64 (numB bs p h) (IntKind.u64.wrap (IntKind.u64.wrap (Go.bits .and .u8 (nth bs ((p + h) / 8) / 2 ^ ((p + h) % 8)) ((2 ^ k - 1) % 256)) * 2 ^ h)) = numB bs p (h + k) := by
  rw [take_byte bs (p + h) k hb hk]
  have h1 := numB_lt bs (p + h) k
  have h2 := numB_lt bs p h
  have h3 := pow_cast h
  have h4 := pow32 h (by omega)
  have h5 := pow_le8 k (by omega)
  have h6 := numB_lt bs p (h + k)
  have h7 := pow32 (h + k) (by omega)
  have h8 := numB_add bs p h k
  rw [wraps_u64 (numB bs (p + h) k) h1.1 (by omega)]
  have h9 : 0 ≤ numB bs (p + h) k * 2 ^ h := Int.mul_nonneg h1.1 (by omega)
  have h10 : numB bs (p + h) k * 2 ^ h < 2 ^ 64 := by omega
  rw [wraps_u64 _ h9 h10, or_join h _ _ h9 (by simp) h10 h2.1 h2.2 (by omega), h8]
  omega
theorem num_u32 (bs : List Int) (p m : Nat) (hm : m ≤ 32) : numB bs p m % 4294967296 = numB bs p m := by
  have h1 := numB_lt bs p m
  have h2 := pow32 m hm
  omega
end Go.Proofs.YtkpabdjniiepkaaGreatDoor

set_option linter.unusedVariables false
set_option linter.unusedSimpArgs false
namespace Go.Proofs.YtkpabdjniiepkaaGreatDoor
open Go.RowKit
/-- The k lowest bits of a number, the other way round. -/
def revF (c : Int) : Nat → Int
  | 0 => 0
  | k + 1 => 2 * revF c k + c / 2 ^ k % 2
theorem revF_bd (c : Int) : ∀ k, 0 ≤ revF c k ∧ revF c k < 2 ^ k
  | 0 => by simp [revF]
  | k + 1 => by
    have := revF_bd c k
    rw [revF, Int.pow_succ]
    omega
theorem wraps_i64 (n : Int) (h₀ : 0 ≤ n) (h₁ : n < 2 ^ 62) : IntKind.i64.wrap n = n := by rw [IntKind.wrap_i64]; omega
theorem wraps_u32 (n : Int) (h₀ : 0 ≤ n) (h₁ : n < 2 ^ 32) : IntKind.u32.wrap n = n := by rw [IntKind.wrap_u32]; omega
theorem and_one (d : Int) (h0 : 0 ≤ d) (h : d ≤ 1000000000) : Go.bits .and .i64 d 1 = d % 2 := by
  have := bits_mask .i64 62 (by decide) wraps_i64 1 (by decide) d h0 (by omega)
  simpa using this
theorem or_bit (v b : Int) (h0 : 0 ≤ v) (h : v < 65536) (hb : b = 0 ∨ b = 1) : Go.bits .or .u32 (v * 2) b = 2 * v + b := by
  have := bits_join .u32 32 (by decide) wraps_u32 1 (v * 2) b (by omega) (by omega) (by omega) (by omega) (by omega) (by omega)
  rw [this]; omega
theorem turn_bit (v d : Int) (h0 : 0 ≤ v) (h : v < 65536) (d0 : 0 ≤ d) (d1 : d ≤ 1000000000) : Go.bits .or .u32 (v * 2) (Go.bits .and .i64 d 1 % 4294967296) = 2 * v + d % 2 := by
  rw [and_one d d0 d1, or_bit v _ h0 h (by omega)]; omega
theorem div_two (c : Int) (k : Nat) : c / 2 ^ k / 2 = c / 2 ^ (k + 1) := by
  rw [Int.pow_succ, div_div _ _ _ (pow_cast k)]
set_option maxHeartbeats 1000000 in
theorem turned_calls (w : World) (c : Int) (n : Nat) (hc0 : 0 ≤ c) (hc : c ≤ 1000000000) (hn : n ≤ 16) :
    Calls Tryz.prog 70 #[.int .i64 c, .int .i64 n] w fun e w' => e = .returned (.int .u32 (revF c n)) ∧ w = w' := by
  go_enter Tryz.func70, Tryz.ntmps70
  go_wp2_with fail
  go_loop [0, 5, 7] (fun cv v i => ∃ (k : Nat) (d : Int), k ≤ n ∧ i = .int .i64 k ∧ cv = .int .i64 d ∧ 0 ≤ d ∧ d ≤ 1000000000 ∧ v = .int .u32 (revF c k) ∧ Hid (d = c / 2 ^ k)) (fun _ _ i => n - (intOf i).toNat)
  case atStart => exact ⟨0, c, by omega, rfl, rfl, hc0, hc, rfl, Lib.hid (by simp)⟩
  case round =>
    obtain ⟨k, d, hk, rfl, rfl, hd0, hd1, rfl, HD⟩ := hrel
    have hb := revF_bd c k
    by_cases hlt : k < n
    · have hp : (2 : Int) ^ k ≤ 65536 := pow16 k (by omega)
      have hv : revF c k < 65536 := by omega
      obtain ⟨hv0, -⟩ := hb
      have E : Hid (revF c (k + 1) = 2 * revF c k + d % 2) := by show _ = _; rw [HD.out]; rfl
      clear hp
      generalize revF c k = v at *
      go_wp2_with fail
      refine ⟨⟨k + 1, d / 2, by omega, by go_num, rfl, by omega, by omega, by rw [E.out, turn_bit v d hv0 hv hd0 hd1], Lib.hid (by rw [HD.out, div_two])⟩, by simp [intOf]; omega⟩
    · obtain rfl : k = n := by omega
      go_wp2_with fail
      go_ret
      exact ⟨rfl, rfl⟩
end Go.Proofs.YtkpabdjniiepkaaGreatDoor

set_option linter.unusedVariables false
set_option linter.unusedSimpArgs false
namespace Go.Proofs.YtkpabdjniiepkaaGreatDoor
open Go.RowKit
theorem set_ints (k : IntKind) (xs : List Int) (j : Nat) (x : Int) : (ints k xs).set j (.int k x) = ints k (xs.set j x) := by simp [ints, List.map_set]
theorem Blk.cellI {w : World} {g : Nat} {t : TypeId} {k : IntKind} {xs : List Int} (h : Blk w g t (ints k xs)) {j : Nat} (hj : j < xs.length) : w.cell? ⟨g, j, none⟩ = some (.int k (nth xs j)) := by
  rw [h.cell, ints_getElem?, nth_lt hj]; simp [hj]
theorem step_of_wp {ops : Array Oper} {o : Oper} {a : Act} {K : Act → World → Prop} {Q : Exit → Act → World → Prop} {E : Prop} {w : World} (hgd : o.guard = none) (h : Oper.wp Tryz.prog o a w K Q) :
    if Region.wanted o (yielded ops a.tmps) = true then Oper.wp Tryz.prog o a w K Q else E := by
  rw [if_pos (by simp [Region.wanted, hgd])]; exact h
theorem all_ints_one (xs : List Int) : (ints .i64 xs).toArray.all (·.oneCell') = true := by
  rw [Array.all_eq_true_iff_forall_mem]
  intro v hv
  simp only [ints, List.mem_toArray, List.mem_map] at hv
  obtain ⟨x, _, rfl⟩ := hv
  rfl
theorem setRow_drew (w : World) (g : Nat) (cs : Array Value) : (w.drew).setRow g cs = (w.setRow g cs).drew := rfl
theorem results_two_rows {fn : Func} {p q : Tmp} (h : fn.results = #[.cell p 130, .cell q 130]) (tmps : Array Value) (w : World) (g1 g2 : Nat) (t1 t2 : TypeId) (c1 c2 : Array Value)
    (hp : tmps.getD p undef = .pointer (some ⟨g1, 0, none⟩)) (hq : tmps.getD q undef = .pointer (some ⟨g2, 0, none⟩)) (h1 : w.heap[g1]? = some (.cells c1 t1 (0, 0))) (h2 : w.heap[g2]? = some (.cells c2 t2 (0, 0)))
    (hi1 : (Tryz.prog.info? 130).map (·.size) = some c1.size) (hi2 : (Tryz.prog.info? 130).map (·.size) = some c2.size) :
    (results fn tmps).run Tryz.prog w = .ok (.tuple #[.agg c1, .agg c2]) w := by
  have hp' : tmps[p]?.getD undef = .pointer (some ⟨g1, 0, none⟩) := by simpa using hp
  have hq' : tmps[q]?.getD undef = .pointer (some ⟨g2, 0, none⟩) := by simpa using hq
  simp [results, h, hp', hq', asAddr, run_loadVar_row w g1 t1 130 c1 _ (.array 16 3) h1 Tryz.underlying130 rfl hi1, run_loadVar_row w g2 t2 130 c2 _ (.array 16 3) h2 Tryz.underlying130 rfl hi2]
set_option maxRecDepth 100000 in
set_option maxHeartbeats 1000000 in
theorem first_calls (w : World) (A : Option Addr) (n c : Nat) (l : List Int) (hl : RI .i64 w A n l) (hn : n ≤ 288) (hok : l.all okLen = true) :
    Calls Tryz.prog 69 #[.slice A n c] w fun e w' => e = .returned (.tuple #[.agg (ints .i64 (lowL (lenCnt l) 16)).toArray, .agg (ints .i64 (lenCnt l)).toArray]) ∧ Below w.heap.size w w' := by
  have HL := Lib.hid hl
  have HLL := Lib.hid hl.len
  have HOK := Lib.hid hok
  clear hl hok
  obtain ⟨g, hg⟩ : ∃ g, g = w.heap.size := ⟨_, rfl⟩
  have HG := Lib.hid hg
  have HB0 : Hid (∀ Z : List Value, Z = ints .i64 (List.replicate 16 0) → Blk ((w.alloc (.cells Z.toArray 130)).alloc (.cells Z.toArray 130)) g 130 (ints .i64 (List.replicate 16 0)) ∧ Blk ((w.alloc (.cells Z.toArray 130)).alloc (.cells Z.toArray 130)) (g + 1) 130 (ints .i64 (List.replicate 16 0)) ∧ Below w.heap.size w ((w.alloc (.cells Z.toArray 130)).alloc (.cells Z.toArray 130))) := by
    rintro Z rfl
    subst hg
    refine ⟨Blk.alloc (blk_new w _ _) _, ?_, ((Below.refl _ _).alloc (Nat.le_refl _) _).alloc (by simp) _⟩
    have := blk_new (w.alloc (.cells (ints .i64 (List.replicate 16 0)).toArray 130)) 130 (ints .i64 (List.replicate 16 0))
    simpa using this
  clear hg
  go_enter Tryz.func69, Tryz.ntmps69
  go_wp2_with fail
  obtain ⟨z0, z1, z2⟩ := HB0.out [.int .i64 0, .int .i64 0, .int .i64 0, .int .i64 0, .int .i64 0, .int .i64 0, .int .i64 0, .int .i64 0, .int .i64 0, .int .i64 0, .int .i64 0, .int .i64 0, .int .i64 0, .int .i64 0, .int .i64 0, .int .i64 0] rfl
  have Z0 := Lib.hid z0
  have Z1 := Lib.hid z1
  have Z2 := Lib.hid z2
  clear z0 z1 z2 HB0
  rw [← HG.out]
  go_loopw [10] (fun i wr => ∃ k : Nat, k ≤ n ∧ i = .int .i64 k ∧ Hid (Blk wr g 130 (ints .i64 (List.replicate 16 0))) ∧ Hid (Blk wr (g + 1) 130 (ints .i64 (lenCnt (l.take k)))) ∧ Hid (Below w.heap.size w wr)) (fun i _ => n - (intOf i).toNat)
  case atStart => exact ⟨0, by omega, rfl, Z0, by rw [List.take_zero, show lenCnt [] = List.replicate 16 0 by unfold lenCnt; rw [List.filter_nil, cntF_nil]]; exact Z1, Z2⟩
  case round =>
    clear Z0 Z1 Z2
    obtain ⟨k, hk, rfl, HA, HB, HW⟩ := hrel
    by_cases hlt : k < n
    · obtain ⟨b, o, rfl, hc⟩ := HL.out.at hlt
      have hc := (Keeps.of_below (S := []) HW.out).cell (by simp) hc
      have hx : okLen (nth l k) = true := by rw [nth_lt (by have := HLL.out; omega)]; exact List.all_eq_true.1 HOK.out _ (List.getElem_mem _)
      have hx1 : 0 ≤ nth l k ∧ nth l k ≤ 15 := by simpa [okLen] using hx
      obtain ⟨hx2, hx3⟩ := hx1
      clear hx
      by_cases hz : 0 < nth l k
      · obtain ⟨s, hs, hs16, hsn⟩ := lenCnt_snoc l k (by have := HLL.out; omega) hz hx3
        have SN := Lib.hid hsn
        have h0 := HB.out.cellI (j := s) (by rw [lenCnt_len]; exact hs16)
        have hf := HB.out.frozen s
        obtain ⟨b0, b1⟩ := lenCnt_bd (l.take k) s hs16
        have b2 : (l.take k).length ≤ 288 := by rw [List.length_take]; omega
        have b3 : nth (lenCnt (l.take k)) s ≤ 288 := by omega
        have HSET : Hid (Blk (wr.setCell ⟨g + 1, s, none⟩ (.int .i64 (nth (lenCnt (l.take k)) s + 1))) (g + 1) 130 (ints .i64 (lenCnt (l.take (k + 1))))) := by
          have := HB.out.set s (.int .i64 (nth (lenCnt (l.take k)) s + 1))
          rw [set_ints, ← SN.out] at this; exact this
        have HSET0 : Hid (Blk (wr.setCell ⟨g + 1, s, none⟩ (.int .i64 (nth (lenCnt (l.take k)) s + 1))) g 130 (ints .i64 (List.replicate 16 0))) := Lib.hid (HA.out.set_other (by simp) _)
        have HSW : Hid (Below w.heap.size w (wr.setCell ⟨g + 1, s, none⟩ (.int .i64 (nth (lenCnt (l.take k)) s + 1)))) := Lib.hid (HW.out.setCell (p := ⟨g + 1, s, none⟩) (by have := HG.out; show _ ≤ g + 1; omega) _)
        generalize nth (lenCnt (l.take k)) s = x at *
        rw [hs] at hc hx2 hx3 hz
        have e3 : decide (0 < s) = true := by simp; omega
        clear hsn b1 b2 hs HB HA HW
        go_wp2_with fail
        go_roundw
        case rel => exact ⟨k + 1, by omega, by go_num, HSET0, HSET, HSW⟩
        case measure => simp [intOf]; omega
      · have e3 : decide (0 < nth l k) = false := by simpa using hz
        have SN := Lib.hid (lenCnt_skip l k (by have := HLL.out; omega) hz)
        go_wp2_with fail
        go_roundw
        case rel => exact ⟨k + 1, by omega, by go_num, HA, by rw [SN.out]; exact HB, HW⟩
        case measure => simp [intOf]; omega
    · obtain rfl : k = n := by omega
      have HB2 : Hid (Blk wr (g + 1) 130 (ints .i64 (lenCnt l))) := by have := HB.out; rwa [List.take_of_length_le (by have := HLL.out; omega)] at this
      have HA2 : Hid (Blk wr g 130 (ints .i64 (lowL (lenCnt l) 1))) := by rw [lowL_zero]; exact HA
      clear HA HB
      obtain ⟨wo, rfl⟩ : ∃ wo : World, wo = wr := ⟨_, rfl⟩
      go_wp2_with fail
      go_loopw [6, 7] (fun cv i wr => ∃ j : Nat, 1 ≤ j ∧ j ≤ 16 ∧ i = .int .i64 j ∧ cv = .int .i64 (lowF (lenCnt l) (j - 1)) ∧ Hid (Blk wr g 130 (ints .i64 (lowL (lenCnt l) j))) ∧ Hid (Blk wr (g + 1) 130 (ints .i64 (lenCnt l))) ∧ Hid (Below w.heap.size w wr)) (fun _ i _ => 16 - (intOf i).toNat)
      case atStart => exact ⟨1, by omega, by omega, rfl, rfl, HA2, HB2, HW⟩
      case round =>
        clear HA2 HB2 HW
        obtain ⟨j, hj1, hj, rfl, rfl, HA, HB, HW⟩ := hrel
        obtain ⟨q, rfl⟩ : ∃ q, j = q + 1 := ⟨j - 1, by omega⟩
        have LB := Lib.hid (lowF_small l (by have := HLL.out; omega) (q + 1) (by omega))
        obtain ⟨l0, l1⟩ := lowF_small l (by have := HLL.out; omega) q (by omega)
        have hq1 : q + 1 - 1 = q := by omega
        rw [hq1]
        clear hq1
        by_cases hlt : q + 1 ≤ 15
        · have h0 := HB.out.cellI (j := q) (by rw [lenCnt_len]; omega)
          obtain ⟨b0, b1⟩ := lenCnt_bd l q (by omega)
          have b3 : nth (lenCnt l) q ≤ 288 := by have := HLL.out; omega
          have EL : Hid (lowF (lenCnt l) (q + 1) = 2 * (lowF (lenCnt l) q + nth (lenCnt l) q)) := rfl
          have h1 := HA.out.cellI (j := q + 1) (by rw [lowL_len]; omega)
          have hf := HA.out.frozen (q + 1)
          have EL2 : Hid ((lowF (lenCnt l) q + nth (lenCnt l) q) * 2 = lowF (lenCnt l) (q + 1)) := by show _ = _; rw [EL.out]; omega
          have HSA : Hid (Blk (wr.setCell ⟨g, q + 1, none⟩ (.int .i64 ((lowF (lenCnt l) q + nth (lenCnt l) q) * 2))) g 130 (ints .i64 (lowL (lenCnt l) (q + 2)))) := by
            have := HA.out.set (q + 1) (.int .i64 ((lowF (lenCnt l) q + nth (lenCnt l) q) * 2))
            rw [set_ints, EL2.out, ← lowL_succ _ _ (by omega)] at this
            rw [EL2.out]; exact this
          have HSB : Hid (Blk (wr.setCell ⟨g, q + 1, none⟩ (.int .i64 ((lowF (lenCnt l) q + nth (lenCnt l) q) * 2))) (g + 1) 130 (ints .i64 (lenCnt l))) := Lib.hid (HB.out.set_other (by simp) _)
          have HSW : Hid (Below w.heap.size w (wr.setCell ⟨g, q + 1, none⟩ (.int .i64 ((lowF (lenCnt l) q + nth (lenCnt l) q) * 2)))) := Lib.hid (HW.out.setCell (p := ⟨g, q + 1, none⟩) (by have := HG.out; show _ ≤ g; omega) _)
          generalize lowF (lenCnt l) q = x at *
          generalize nth (lenCnt l) q = y at *
          clear HA HB HW
          go_wp2_with fail
          refine ⟨⟨q + 2, by omega, by omega, by congr 1, by rw [EL2.out]; rfl, HSA, HSB, HSW⟩, by simp [intOf]; omega⟩
        · obtain rfl : q = 15 := by omega
          have LX : Hid ((lowL (lenCnt l) 16).length = 16) := lowL_len _ _
          have LY : Hid ((lenCnt l).length = 16) := lenCnt_len _
          have HA2 : Hid (Blk wr g 130 (ints .i64 (lowL (lenCnt l) 16))) := HA
          clear HA
          obtain ⟨xs, hxs⟩ : ∃ xs, xs = lowL (lenCnt l) 16 := ⟨_, rfl⟩
          obtain ⟨ys, hys⟩ : ∃ ys, ys = lenCnt l := ⟨_, rfl⟩
          rw [← hxs] at HA2 LX
          rw [← hys] at HB LY
          have HXS := Lib.hid hxs
          have HYS := Lib.hid hys
          clear hxs hys
          have SX : Hid ((ints .i64 xs).toArray.size = 16) := by show _ = _; simp [ints, LX.out]
          have SY : Hid ((ints .i64 ys).toArray.size = 16) := by show _ = _; simp [ints, LY.out]
          have WX : Hid (wr.setRow g (ints .i64 xs).toArray = wr) := setRow_self wr g _ _ _ HA2.out
          have WY : Hid (wr.setRow (g + 1) (ints .i64 ys).toArray = wr) := setRow_self wr (g + 1) _ _ _ HB.out
          have OX : Hid ((ints .i64 xs).toArray.all (·.oneCell') = true) := all_ints_one xs
          have OY : Hid ((ints .i64 ys).toArray.all (·.oneCell') = true) := all_ints_one ys
          go_wp2_with fail
          refine wp_region_any (by kernel_rfl) ?_
          try (change wpAny _ _ _ _ _ _ _ (World.drew _))
          refine wpAny_ready (rs := [0, 1]) (by kernel_rfl) (by simp) ?_
          refine AllReady.cons rfl (fun K hK => ?_) (AllReady.cons rfl (fun K hK => ?_) AllReady.nil)
          · refine step_of_wp rfl (wp_load_row 130 (.tmp 2) rfl g rfl 130 (ints .i64 xs).toArray (0, 0) (.array 16 3) (by exact HA2.out) Tryz.underlying130 rfl (by rw [SX.out]; kernel_rfl) ?_); refine hK _ _ ?_; clear hK K
            refine wpAny_ready (rs := [1, 2]) (by kernel_rfl) (by simp) ?_
            refine AllReady.cons rfl (fun K hK => ?_) (AllReady.cons rfl (fun K hK => ?_) AllReady.nil)
            · refine step_of_wp rfl (wp_load_row 130 (.tmp 3) rfl (g + 1) rfl 130 (ints .i64 ys).toArray (0, 0) (.array 16 3) (by exact HB.out) Tryz.underlying130 rfl (by rw [SY.out]; kernel_rfl) ?_); refine hK _ _ ?_; clear hK K
              refine wpAny_ready (rs := [2]) (by kernel_rfl) (by simp) ?_
              refine AllReady.cons rfl (fun K hK => ?_) AllReady.nil
              refine step_of_wp rfl (wp_store_row 130 (.tmp 2) (.tmp 36) rfl g (ints .i64 xs).toArray rfl rfl 130 (ints .i64 xs).toArray (by exact HA2.out) (by rw [SX.out]; kernel_rfl) rfl OX.out ?_); rw [setRow_drew, WX.out]; refine hK _ _ ?_; clear hK K
              refine wpAny_ready (rs := [3]) (by kernel_rfl) (by simp) ?_
              refine AllReady.cons rfl (fun K hK => ?_) AllReady.nil
              refine step_of_wp rfl (wp_store_row 130 (.tmp 3) (.tmp 37) rfl (g + 1) (ints .i64 ys).toArray rfl rfl 130 (ints .i64 ys).toArray (by exact HB.out) (by rw [SY.out]; kernel_rfl) rfl OY.out ?_); rw [setRow_drew, WY.out]; refine hK _ _ ?_; clear hK K
              refine wpAny_done (by kernel_rfl) ?_ _
              go_wp2_with fail
              exact bodyPost_ret (v := .tuple #[.agg (ints .i64 xs).toArray, .agg (ints .i64 ys).toArray]) (results_two_rows rfl _ _ g (g + 1) 130 130 _ _ rfl rfl HA2.out HB.out (by rw [SX.out]; kernel_rfl) (by rw [SY.out]; kernel_rfl)) rfl ⟨by rw [HXS.out, HYS.out], HW.out.drew⟩
            · refine step_of_wp rfl (wp_store_row 130 (.tmp 2) (.tmp 36) rfl g (ints .i64 xs).toArray rfl rfl 130 (ints .i64 xs).toArray (by exact HA2.out) (by rw [SX.out]; kernel_rfl) rfl OX.out ?_); rw [setRow_drew, WX.out]; refine hK _ _ ?_; clear hK K
              refine wpAny_ready (rs := [1]) (by kernel_rfl) (by simp) ?_
              refine AllReady.cons rfl (fun K hK => ?_) AllReady.nil
              refine step_of_wp rfl (wp_load_row 130 (.tmp 3) rfl (g + 1) rfl 130 (ints .i64 ys).toArray (0, 0) (.array 16 3) (by exact HB.out) Tryz.underlying130 rfl (by rw [SY.out]; kernel_rfl) ?_); refine hK _ _ ?_; clear hK K
              refine wpAny_ready (rs := [3]) (by kernel_rfl) (by simp) ?_
              refine AllReady.cons rfl (fun K hK => ?_) AllReady.nil
              refine step_of_wp rfl (wp_store_row 130 (.tmp 3) (.tmp 37) rfl (g + 1) (ints .i64 ys).toArray rfl rfl 130 (ints .i64 ys).toArray (by exact HB.out) (by rw [SY.out]; kernel_rfl) rfl OY.out ?_); rw [setRow_drew, WY.out]; refine hK _ _ ?_; clear hK K
              refine wpAny_done (by kernel_rfl) ?_ _
              go_wp2_with fail
              exact bodyPost_ret (v := .tuple #[.agg (ints .i64 xs).toArray, .agg (ints .i64 ys).toArray]) (results_two_rows rfl _ _ g (g + 1) 130 130 _ _ rfl rfl HA2.out HB.out (by rw [SX.out]; kernel_rfl) (by rw [SY.out]; kernel_rfl)) rfl ⟨by rw [HXS.out, HYS.out], HW.out.drew⟩
          · refine step_of_wp rfl (wp_load_row 130 (.tmp 3) rfl (g + 1) rfl 130 (ints .i64 ys).toArray (0, 0) (.array 16 3) (by exact HB.out) Tryz.underlying130 rfl (by rw [SY.out]; kernel_rfl) ?_); refine hK _ _ ?_; clear hK K
            refine wpAny_ready (rs := [0]) (by kernel_rfl) (by simp) ?_
            refine AllReady.cons rfl (fun K hK => ?_) AllReady.nil
            refine step_of_wp rfl (wp_load_row 130 (.tmp 2) rfl g rfl 130 (ints .i64 xs).toArray (0, 0) (.array 16 3) (by exact HA2.out) Tryz.underlying130 rfl (by rw [SX.out]; kernel_rfl) ?_); refine hK _ _ ?_; clear hK K
            refine wpAny_ready (rs := [2]) (by kernel_rfl) (by simp) ?_
            refine AllReady.cons rfl (fun K hK => ?_) AllReady.nil
            refine step_of_wp rfl (wp_store_row 130 (.tmp 2) (.tmp 36) rfl g (ints .i64 xs).toArray rfl rfl 130 (ints .i64 xs).toArray (by exact HA2.out) (by rw [SX.out]; kernel_rfl) rfl OX.out ?_); rw [setRow_drew, WX.out]; refine hK _ _ ?_; clear hK K
            refine wpAny_ready (rs := [3]) (by kernel_rfl) (by simp) ?_
            refine AllReady.cons rfl (fun K hK => ?_) AllReady.nil
            refine step_of_wp rfl (wp_store_row 130 (.tmp 3) (.tmp 37) rfl (g + 1) (ints .i64 ys).toArray rfl rfl 130 (ints .i64 ys).toArray (by exact HB.out) (by rw [SY.out]; kernel_rfl) rfl OY.out ?_); rw [setRow_drew, WY.out]; refine hK _ _ ?_; clear hK K
            refine wpAny_done (by kernel_rfl) ?_ _
            go_wp2_with fail
            exact bodyPost_ret (v := .tuple #[.agg (ints .i64 xs).toArray, .agg (ints .i64 ys).toArray]) (results_two_rows rfl _ _ g (g + 1) 130 130 _ _ rfl rfl HA2.out HB.out (by rw [SX.out]; kernel_rfl) (by rw [SY.out]; kernel_rfl)) rfl ⟨by rw [HXS.out, HYS.out], HW.out.drew⟩
end Go.Proofs.YtkpabdjniiepkaaGreatDoor

set_option linter.unusedVariables false
set_option linter.unusedSimpArgs false
namespace Go.Proofs.YtkpabdjniiepkaaGreatDoor
open Go.RowKit
set_option maxRecDepth 100000 in
set_option maxHeartbeats 1000000 in
theorem check_calls (w : World) (A : Option Addr) (n c : Nat) (l : List Int) (hl : RI .i64 w A n l) (hn : n ≤ 140737488355328) :
    Calls Tryz.prog 68 #[.slice A n c] w fun e w' => e = .returned (.int .i64 (checkF l)) ∧ Dr w w' := by
  have hll := hl.len
  have HL := Lib.hid hl
  have HLL := Lib.hid hll
  clear hl
  by_cases h0 : n = 0
  · subst h0
    have hr : checkF l = 1 := by rw [checkF, if_pos (by omega)]
    clear hll
    rw [hr]
    clear hr
    go_enter Tryz.func68, Tryz.ntmps68
    go_wp2_with fail
    go_ret
    exact ⟨rfl, 0, rfl⟩
  · have e0 : ((n : Int) == 0) = false := by simp; omega
    by_cases hb : 288 < n
    · have hr : checkF l = 1 := by rw [checkF, if_pos (by omega)]
      have e1 : decide (288 < n) = true := by simpa using hb
      clear hll
      rw [hr]
      clear hr
      go_enter Tryz.func68, Tryz.ntmps68
      go_wp2_with fail
      go_ret
      exact ⟨rfl, 0, rfl⟩
    · have e1 : decide (288 < n) = false := by simp; omega
      clear hll
      go_enter Tryz.func68, Tryz.ntmps68
      go_wp2_with fail
      clear e0 e1
      go_loopw [3, 4, 17] (fun v3 v4 i wr => ∃ k : Nat, k ≤ n ∧ i = .int .i64 k ∧ v3 = .int .i64 (usedF (l.take k)) ∧ v4 = .int .i64 (measF (l.take k)) ∧ Hid ((l.take k).all okLen = true) ∧ Hid (Dr w wr)) (fun _ _ i _ => n - (intOf i).toNat)
      case atStart => exact ⟨0, by omega, rfl, rfl, rfl, Lib.hid (by simp), ⟨0, rfl⟩⟩
      case round =>
        obtain ⟨k, hk, rfl, rfl, rfl, HA, HD⟩ := hrel
        obtain ⟨q, rfl⟩ := HD.out
        clear HD
        have hu := usedF_le (l.take k)
        have hm := measF_le (l.take k) HA.out
        have htk : (l.take k).length = k := by rw [List.length_take]; have := HLL.out; omega
        rw [htk] at hu hm
        clear htk
        by_cases hlt : k < n
        · obtain ⟨b, o, rfl, hc⟩ := HL.out.at hlt
          have us := usedF_snoc l k (by have := HLL.out; omega)
          have ms := measF_snoc l k (by have := HLL.out; omega)
          have asn := all_snoc l k (by have := HLL.out; omega)
          rw [HA.out] at asn
          have US := Lib.hid us
          have MS := Lib.hid ms
          have AS := Lib.hid asn
          clear us ms asn
          generalize usedF (l.take k) = U at *
          generalize measF (l.take k) = M at *
          by_cases hneg : nth l k < 0
          · have e1 : decide (nth l k < 0) = true := by simpa using hneg
            have hok : okLen (nth l k) = false := by simp [okLen]; omega
            have hr : checkF l = 1 := by rw [checkF, if_neg (by have := HLL.out; omega), if_pos (all_hit l k (by have := HLL.out; omega) hok)]
            have HR := Lib.hid hr
            clear hr hok
            go_wp2_with fail
            go_ret
            rw [HR.out]
            exact ⟨rfl, _, rfl⟩
          · have e1 : decide (nth l k < 0) = false := by simpa using hneg
            by_cases hbig : 15 < nth l k
            · have e2 : decide (15 < nth l k) = true := by simpa using hbig
              have hok : okLen (nth l k) = false := by simp [okLen]; omega
              have hr : checkF l = 1 := by rw [checkF, if_neg (by have := HLL.out; omega), if_pos (all_hit l k (by have := HLL.out; omega) hok)]
              have HR := Lib.hid hr
              clear hr hok
              go_wp2_with fail
              go_ret
              rw [HR.out]
              exact ⟨rfl, _, rfl⟩
            · have e2 : decide (15 < nth l k) = false := by simpa using hbig
              have hok : okLen (nth l k) = true := by simp [okLen]; omega
              have HOK := Lib.hid hok
              clear hok
              by_cases hz : 0 < nth l k
              · have e3 : decide (0 < nth l k) = true := by simpa using hz
                have hp := part_pos (nth l k) hz (by omega)
                have hple := part_le (nth l k) HOK.out
                have hp' := hp.symm
                clear hp
                have HU : Hid (usedF (l.take (k + 1)) = U + 1) := by have := US.out; rwa [if_pos hz] at this
                go_wp2_with fail
                clear hp'
                go_roundw
                case rel => exact ⟨k + 1, by omega, by go_num, by rw [HU.out]; go_num, by rw [MS.out]; go_num, Lib.hid (AS.out.trans (by rw [HOK.out]; rfl)), ⟨_, rfl⟩⟩
                case measure => simp [intOf]; omega
              · have e3 : decide (0 < nth l k) = false := by simpa using hz
                have HU : Hid (usedF (l.take (k + 1)) = U) := by have := US.out; rwa [if_neg hz, Nat.add_zero] at this
                have HM : Hid (measF (l.take (k + 1)) = M) := by have := MS.out; rwa [part_zero _ hz, Nat.add_zero] at this
                go_wp2_with fail
                go_roundw
                case rel => exact ⟨k + 1, by omega, by go_num, by rw [HU.out], by rw [HM.out], Lib.hid (AS.out.trans (by rw [HOK.out]; rfl)), ⟨_, rfl⟩⟩
                case measure => simp [intOf]; omega
        · obtain rfl : k = n := by omega
          have htk : l.take k = l := List.take_of_length_le (by have := HLL.out; omega)
          rw [htk] at HA hu hm ⊢
          have hlen := HLL.out
          have HR : Hid (checkF l = if 32768 < measF l then 30 else if measF l = 32768 then 0 else if usedF l = 1 ∧ measF l = 16384 then 0 else 31) := by
            show _ = _
            rw [checkF, if_neg (by omega), if_neg (by rw [HA.out]; simp)]
          clear htk hlen
          generalize measF l = M at *
          generalize usedF l = U at *
          by_cases c1 : 32768 < M
          · have e1 : decide ((32768 : Int) < (M : Int)) = true := by simp; omega
            go_wp2_with fail
            go_ret
            rw [HR.out, if_pos c1]
            exact ⟨rfl, _, rfl⟩
          · have e1 : decide ((32768 : Int) < (M : Int)) = false := by simp; omega
            by_cases c2 : M = 32768
            · have e2 : decide ((M : Int) < 32768) = false := by simp; omega
              have C2 := Lib.hid c2
              clear c2
              go_wp2_with fail
              go_ret
              rw [HR.out, if_neg c1, if_pos C2.out]
              exact ⟨rfl, _, rfl⟩
            · have e2 : decide ((M : Int) < 32768) = true := by simp; omega
              by_cases c3 : U = 1
              · have e3 : ((U : Int) != 1) = false := by simp; omega
                have C3 := Lib.hid c3
                clear c3
                by_cases c4 : M = 16384
                · have e4 : ((M : Int) != 16384) = false := by simp; omega
                  have C4 := Lib.hid c4
                  have C2 := Lib.hid c2
                  clear c4 c2
                  go_wp2_with fail
                  go_ret
                  rw [HR.out, if_neg c1, if_neg C2.out, if_pos ⟨C3.out, C4.out⟩]
                  exact ⟨rfl, _, rfl⟩
                · have e4 : ((M : Int) != 16384) = true := by simp; omega
                  go_wp2_with fail
                  go_ret
                  rw [HR.out, if_neg c1, if_neg c2, if_neg (fun h => c4 h.2)]
                  exact ⟨rfl, _, rfl⟩
              · have e3 : ((U : Int) != 1) = true := by simp; omega
                go_wp2_with fail
                go_ret
                rw [HR.out, if_neg c1, if_neg c2, if_neg (fun h => c3 h.1)]
                exact ⟨rfl, _, rfl⟩
end Go.Proofs.YtkpabdjniiepkaaGreatDoor

set_option linter.unusedVariables false
set_option linter.unusedSimpArgs false
namespace Go.Proofs.YtkpabdjniiepkaaGreatDoor
open Go.RowKit
theorem info_u32 : (Tryz.prog.info? 65).map (fun i => (i.zero, i.size, i.bytes)) = some (some (.int .u32 0), 1, 4) := by kernel_rfl
theorem own_of_blkK {w : World} {base g n : Nat} {k : IntKind} {t : TypeId} {xs : List Int} (h : Blk w g t (ints k xs)) (hl : xs.length = n) (hb : base ≤ g) (hn : n ≤ 1000000000) : w.ownsRow base t 1 (.slice (some ⟨g, 0, none⟩) n n) n (ints k xs) :=
  ⟨by simp [ints, hl], .inr ⟨g, n, _, rfl, hb, h, Nat.le_refl _, by unfold maxLen; omega, by simp [ints, hl], by rw [List.toList_toArray, List.take_of_length_le (by simp [ints, hl])]⟩⟩
theorem wpList_store_row {ops : Array Oper} {rest : List Oper} {o : Oper} {a : Act} {w : World} {Q : Exit → Act → World → Prop} (hgd : o.guard = none) (ty : TypeId) (x y : Operand) (ho : o.op = .store ty x y)
    (g : Nat) (cells : Array Value) (hx : a.eval x = .pointer (some ⟨g, 0, none⟩)) (hy : a.eval y = .agg cells)
    (t : TypeId) (old : Array Value) (hg : w.heap[g]? = some (.cells old t (0, 0))) (hi : (Tryz.prog.info? ty).map (·.size) = some cells.size)
    (hold : old.size = cells.size) (h1 : cells.all (·.oneCell') = true)
    (h : wpList Tryz.prog ops Q rest (a.put o.dst undef) (w.setRow g cells)) : wpList Tryz.prog ops Q (o :: rest) a w :=
  wpList_plain hgd fun _ hK => wp_store_row ty x y ho g cells hx hy t old hg hi hold h1 (hK _ _ h)
theorem Blk.row {w : World} {g : Nat} {t : TypeId} {old : List Value} (h : Blk w g t old) (cs : List Value) : Blk (w.setRow g cs.toArray) g t cs := setRow_heap w g _ _ t _ h
theorem Blk.row_other {w : World} {g g' : Nat} {t : TypeId} {cs : List Value} (h : Blk w g t cs) (hne : g ≠ g') (ds : Array Value) : Blk (w.setRow g' ds) g t cs := (setRow_other w g' g ds hne).trans h
theorem below_row {B g : Nat} {w0 w : World} (hb : Below B w0 w) (hBg : B ≤ g) (cs : Array Value) : Below B w0 (w.setRow g cs) :=
  hb.trans ⟨rfl, rfl, rfl, by simp [World.setRow], fun k hk => setRow_other w g k cs (by omega)⟩
/-- A symbol's code, the highest bit first. -/
def codeI (l : List Int) (i : Nat) : Int := lowF (lenCnt l) (nth l i).toNat + nth (lenCnt (l.take i)) (nth l i).toNat
/-- The codes as they are laid. -/
def outL (l : List Int) (k : Nat) : List Int := (List.range l.length).map fun i => if i < k ∧ 0 < nth l i then revF (codeI l i) (nth l i).toNat else 0
/-- What code comes next, of each length. -/
def nextL (l : List Int) (k : Nat) : List Int := (List.range 16).map fun n => lowF (lenCnt l) n + nth (lenCnt (l.take k)) n
/-- Codes: the list, and what is wrong. -/
def codesF (l : List Int) : List Int × Int := if checkF l = 0 then (outL l l.length, 0) else ([], checkF l)
theorem outL_len (l : List Int) (k : Nat) : (outL l k).length = l.length := by simp [outL]
theorem nextL_len (l : List Int) (k : Nat) : (nextL l k).length = 16 := by simp [nextL]
theorem outL_zero (l : List Int) : outL l 0 = List.replicate l.length 0 := by
  refine List.ext_getElem (by simp [outL]) fun j h1 h2 => ?_
  simp [outL]
theorem nth_map_range (f : Nat → Int) (n j : Nat) (h : j < n) : nth ((List.range n).map f) j = f j := by simp [nth, List.getD, h]
theorem nextL_zero (l : List Int) : nextL l 0 = lowL (lenCnt l) 16 := by
  refine List.ext_getElem (by simp [nextL, lowL]) fun j h1 h2 => ?_
  have hj : j < 16 := by simpa [nextL] using h1
  simp only [nextL, lowL, List.getElem_map, List.getElem_range, List.take_zero]
  rw [if_pos hj]
  have : nth (lenCnt []) j = 0 := by unfold lenCnt; rw [cntF_nth _ _ _ hj]; simp
  omega
theorem outL_skip (l : List Int) (k : Nat) (h : ¬ 0 < nth l k) : outL l (k + 1) = outL l k := by
  refine List.ext_getElem (by simp [outL]) fun j h1 h2 => ?_
  simp only [outL, List.getElem_map, List.getElem_range]
  by_cases e : j = k
  · subst e; rw [if_neg (fun h' => h h'.2), if_neg (fun h' => h h'.2)]
  · by_cases hj : j < k
    · by_cases hz : 0 < nth l j
      · rw [if_pos ⟨by omega, hz⟩, if_pos ⟨hj, hz⟩]
      · rw [if_neg (fun h' => hz h'.2), if_neg (fun h' => hz h'.2)]
    · rw [if_neg (by omega), if_neg (by omega)]
theorem outL_step (l : List Int) (k : Nat) (hk : k < l.length) (h : 0 < nth l k) : outL l (k + 1) = (outL l k).set k (revF (codeI l k) (nth l k).toNat) := by
  refine List.ext_getElem (by simp [outL]) fun j h1 h2 => ?_
  rw [List.getElem_set]
  simp only [outL, List.getElem_map, List.getElem_range]
  by_cases e : k = j
  · subst e; rw [if_pos rfl, if_pos ⟨by omega, h⟩]
  · rw [if_neg e]
    by_cases hj : j < k
    · by_cases hz : 0 < nth l j
      · rw [if_pos ⟨by omega, hz⟩, if_pos ⟨hj, hz⟩]
      · rw [if_neg (fun h' => hz h'.2), if_neg (fun h' => hz h'.2)]
    · rw [if_neg (by omega), if_neg (by omega)]
theorem nextL_skip (l : List Int) (k : Nat) (hk : k < l.length) (h : ¬ 0 < nth l k) : nextL l (k + 1) = nextL l k := by
  unfold nextL; rw [lenCnt_skip l k hk h]
theorem nextL_step (l : List Int) (k : Nat) (hk : k < l.length) (s : Nat) (hs : s < 16) (hsn : lenCnt (l.take (k + 1)) = (lenCnt (l.take k)).set s (nth (lenCnt (l.take k)) s + 1)) : nextL l (k + 1) = (nextL l k).set s (nth (nextL l k) s + 1) := by
  refine List.ext_getElem (by simp [nextL]) fun j h1 h2 => ?_
  have hj : j < 16 := by simpa [nextL] using h1
  rw [List.getElem_set]
  simp only [nextL, List.getElem_map, List.getElem_range]
  rw [hsn, nth_map_range _ _ _ hs]
  by_cases e : s = j
  · subst e
    rw [if_pos rfl]
    have : nth ((lenCnt (l.take k)).set s (nth (lenCnt (l.take k)) s + 1)) s = nth (lenCnt (l.take k)) s + 1 := by
      simp [nth, List.getD, lenCnt_len, hs]
    omega
  · rw [if_neg e]
    congr 1
    simp [nth, List.getD, e]
/-- What coding is to give. -/
def Coded (w : World) (r : List Int × Int) (e : Ending) (w' : World) : Prop :=
  ∃ v, e = .returned (.tuple #[v, .int .i64 r.2]) ∧ w'.ownsRow w.heap.size 65 1 v r.1.length (ints .u32 r.1) ∧ Below w.heap.size w w'
theorem coded_err {w w' : World} {r : List Int × Int} {e : Int} (hr : r = ([], e)) (h : Below w.heap.size w w') : Coded w r (.returned (.tuple #[.slice none 0 0, .int .i64 e])) w' := by
  subst hr
  exact ⟨_, rfl, World.ownsRow_nil _ _ _ _, h⟩
theorem coded_ok {w w' : World} {r : List Int × Int} {v : Value} {n : Nat} {ls : List Int} (hr : r = (ls, 0)) (hl : ls.length = n) (ho : w'.ownsRow w.heap.size 65 1 v n (ints .u32 ls)) (h : Below w.heap.size w w') : Coded w r (.returned (.tuple #[v, .int .i64 0])) w' := by
  subst hr hl
  exact ⟨_, rfl, ho, h⟩
set_option maxRecDepth 100000 in
set_option maxHeartbeats 2000000 in
theorem codes_calls (w : World) (A : Option Addr) (n c : Nat) (l : List Int) (hl : RI .i64 w A n l) (hn : n ≤ 140737488355328) :
    Calls Tryz.prog 45 #[.slice A n c] w (Coded w (codesF l)) := by
  have HL := Lib.hid hl
  have HLL := Lib.hid hl.len
  clear hl
  go_enter Tryz.func45, Tryz.ntmps45
  go_wp2_with fail
  refine (check_calls _ _ _ _ l HL.out hn).mono ?_
  rintro _ w1 ⟨rfl, hd⟩
  have HD := Lib.hid hd
  clear hd
  by_cases hc : checkF l = 0
  · have e1 : (checkF l != 0) = false := by simp [hc]
    have HR : Hid (codesF l = (outL l l.length, 0)) := if_pos hc
    have HC := Lib.hid hc
    have hok := check_ok hc
    have HOK := Lib.hid hok.2
    have hn288 : n ≤ 288 := by rw [← HLL.out]; exact hok.1
    have HL1 := Lib.hid (HL.out.keeps (HD.out.keeps (S := [])) (off_nil _))
    clear hc hok
    go_wp2_with fail
    refine (first_calls _ _ _ _ l HL1.out hn288 HOK.out).mono ?_
    rintro _ w2 ⟨rfl, hb⟩
    have HB := Lib.hid ((HD.out.keeps (S := [])).below.trans (hb.mono (HD.out.keeps (S := [])).size))
    clear hb
    have Z16 : Hid (∀ z : List Value, z = ints .i64 (List.replicate 16 0) → Blk ((w2.alloc (.cells z.toArray 130)).alloc (.cells z.toArray 130)) w2.heap.size 130 (ints .i64 (List.replicate 16 0)) ∧ Blk ((w2.alloc (.cells z.toArray 130)).alloc (.cells z.toArray 130)) (w2.heap.size + 1) 130 (ints .i64 (List.replicate 16 0)) ∧ Below w.heap.size w ((w2.alloc (.cells z.toArray 130)).alloc (.cells z.toArray 130))) := by
      rintro z rfl
      refine ⟨Blk.alloc (blk_new w2 _ _) _, ?_, (HB.out.alloc HB.out.size _).alloc (by have := HB.out.size; simp; omega) _⟩
      have := blk_new (w2.alloc (.cells (ints .i64 (List.replicate 16 0)).toArray 130)) 130 (ints .i64 (List.replicate 16 0))
      simpa using this
    obtain ⟨z0, z1, z2⟩ := Z16.out [.int .i64 0, .int .i64 0, .int .i64 0, .int .i64 0, .int .i64 0, .int .i64 0, .int .i64 0, .int .i64 0, .int .i64 0, .int .i64 0, .int .i64 0, .int .i64 0, .int .i64 0, .int .i64 0, .int .i64 0, .int .i64 0] rfl
    have LX : Hid ((ints .i64 (lowL (lenCnt l) 16)).toArray.size = 16) := by show _ = _; simp [ints, lowL_len]
    have LY : Hid ((ints .i64 (lenCnt l)).toArray.size = 16) := by show _ = _; simp [ints, lenCnt_len]
    have y0 := z0.row (ints .i64 (lowL (lenCnt l) 16))
    have y1 := (z1.row_other (g' := w2.heap.size) (by simp) (ints .i64 (lowL (lenCnt l) 16)).toArray).row (ints .i64 (lenCnt l))
    have y2 := below_row (below_row z2 HB.out.size (ints .i64 (lowL (lenCnt l) 16)).toArray) (g := w2.heap.size + 1) (by have := HB.out.size; omega) (ints .i64 (lenCnt l)).toArray
    have y3 := y0.row_other (g' := w2.heap.size + 1) (by simp) (ints .i64 (lenCnt l)).toArray
    have Z0 := Lib.hid z0
    have Z1 := Lib.hid (z1.row_other (g' := w2.heap.size) (by simp) (ints .i64 (lowL (lenCnt l) 16)).toArray)
    have Y2 := Lib.hid y2
    have Y3 := Lib.hid y3
    have hbz := HB.out.size
    clear z0 z1 z2 Z16 y0 y1 y2 y3
    have hmk := fun w => make_ints (P := Tryz.prog) w 97 65 .u32 4 Tryz.underlying97 info_u32 (n : Int) n rfl (by omega) (by omega)
    go_upto_region 5 with (first
      | (refine wpList_store_row rfl 130 (.tmp 5) (.tmp 18) rfl w2.heap.size (ints .i64 (lowL (lenCnt l) 16)).toArray rfl rfl 130 (ints .i64 (List.replicate 16 0)).toArray (by exact Z0.out) (by rw [LX.out]; kernel_rfl) (by rw [LX.out]; rfl) (all_ints_one _) ?_)
      | (refine wpList_store_row rfl 130 (.tmp 6) (.tmp 19) rfl (w2.heap.size + 1) (ints .i64 (lenCnt l)).toArray rfl rfl 130 (ints .i64 (List.replicate 16 0)).toArray (by exact Z1.out) (by rw [LY.out]; kernel_rfl) (by rw [LY.out]; rfl) (all_ints_one _) ?_))
    obtain ⟨w3, hw3⟩ : ∃ w3, w3 = (((w2.alloc (.cells #[.int .i64 0, .int .i64 0, .int .i64 0, .int .i64 0, .int .i64 0, .int .i64 0, .int .i64 0, .int .i64 0, .int .i64 0, .int .i64 0, .int .i64 0, .int .i64 0, .int .i64 0, .int .i64 0, .int .i64 0, .int .i64 0] 130)).alloc (.cells #[.int .i64 0, .int .i64 0, .int .i64 0, .int .i64 0, .int .i64 0, .int .i64 0, .int .i64 0, .int .i64 0, .int .i64 0, .int .i64 0, .int .i64 0, .int .i64 0, .int .i64 0, .int .i64 0, .int .i64 0, .int .i64 0] 130)).setRow w2.heap.size (ints .i64 (lowL (lenCnt l) 16)).toArray).setRow (w2.heap.size + 1) (ints .i64 (lenCnt l)).toArray := ⟨_, rfl⟩
    rw [← hw3] at Y2 Y3 ⊢
    clear hw3 Z0 Z1
    have HNX : Hid (Blk (w3.alloc (.cells (ints .u32 (List.replicate n 0)).toArray 65)) w2.heap.size 130 (ints .i64 (nextL l 0))) := by rw [nextL_zero]; exact Y3.out.alloc _
    have HOUT : Hid (Blk (w3.alloc (.cells (ints .u32 (List.replicate n 0)).toArray 65)) w3.heap.size 65 (ints .u32 (outL l 0))) := by rw [outL_zero, HLL.out]; exact blk_new w3 _ _
    have HBW := Lib.hid (Y2.out.alloc (Y2.out.size) (.cells (ints .u32 (List.replicate n 0)).toArray 65))
    have HLT := Lib.hid Y3.out.lt
    have hb3 := Y2.out.size
    clear Y2 Y3
    generalize hq : w2.heap.size = q at *
    go_wp2_with fail
    generalize hgo : w3.heap.size = go at *
    go_loopw [25] (fun i wr => ∃ k : Nat, k ≤ n ∧ i = .int .i64 k ∧ Hid (Blk wr q 130 (ints .i64 (nextL l k))) ∧ Hid (Blk wr go 65 (ints .u32 (outL l k))) ∧ Hid (Below w.heap.size w wr)) (fun i _ => n - (intOf i).toNat)
    case atStart => exact ⟨0, by omega, rfl, HNX, HOUT, HBW⟩
    case round =>
      clear HNX HOUT HBW
      obtain ⟨k, hk, rfl, HNX, HOUT, HBW⟩ := hrel
      by_cases hlt : k < n
      · obtain ⟨b, o, rfl, hc⟩ := HL.out.at hlt
        have hc := (Keeps.of_below (S := []) HBW.out).cell (by simp) hc
        have hx : okLen (nth l k) = true := by rw [nth_lt (by have := HLL.out; omega)]; exact List.all_eq_true.1 HOK.out _ (List.getElem_mem _)
        have hx1 : 0 ≤ nth l k ∧ nth l k ≤ 15 := by simpa [okLen] using hx
        obtain ⟨hx2, hx3⟩ := hx1
        clear hx
        by_cases hz : 0 < nth l k
        · obtain ⟨s, hs, hs16, hsn⟩ := lenCnt_snoc l k (by have := HLL.out; omega) hz hx3
          have S1 := Lib.hid (nextL_step l k (by have := HLL.out; omega) s hs16 hsn)
          have S2 := Lib.hid (outL_step l k (by have := HLL.out; omega) hz)
          have h0 := HNX.out.cellI (j := s) (by rw [nextL_len]; exact hs16)
          have hf := HNX.out.frozen s
          have g0 := HOUT.out.cellI (j := k) (by rw [outL_len, HLL.out]; exact hlt)
          have gf := HOUT.out.frozen k
          have HCI : Hid (codeI l k = nth (nextL l k) s) := by
            show _ = _
            unfold codeI nextL
            rw [nth_map_range _ _ _ hs16, hs]; simp
          obtain ⟨b0, b1⟩ := lenCnt_bd (l.take k) s hs16
          obtain ⟨c0, c1⟩ := lowF_small l (by have := HLL.out; omega) s (by omega)
          have hxv : nth (nextL l k) s = lowF (lenCnt l) s + nth (lenCnt (l.take k)) s := by unfold nextL; rw [nth_map_range _ _ _ hs16]
          have b2 : (l.take k).length ≤ 288 := by rw [List.length_take]; omega
          have x0 : 0 ≤ nth (nextL l k) s := by omega
          have x1 : nth (nextL l k) s ≤ 50000000 := by omega
          have hks : Hid ((nth l k).toNat = s) := by show _ = _; rw [hs]; simp
          rw [hs] at hc hx2 hx3 hz
          have e3 : decide (0 < s) = true := by simp; omega
          clear hxv b0 b1 b2 c0 c1 hsn hs
          generalize nth (nextL l k) s = x at *
          go_wp2_with fail
          refine (turned_calls _ x s x0 (by omega) (by omega)).mono ?_
          rintro _ w4 ⟨rfl, rfl⟩
          have HSET1 : Hid (Blk (wr.setCell ⟨go, k, none⟩ (.int .u32 (revF x s))) go 65 (ints .u32 (outL l (k + 1)))) := by
            have := HOUT.out.set k (.int .u32 (revF x s))
            rw [set_ints] at this
            rw [S2.out, HCI.out, hks.out]; exact this
          have HSET2 := Lib.hid (HNX.out.set_other (a := ⟨go, k, none⟩) (by have := HLT.out; show q ≠ go; omega) (.int .u32 (revF x s)))
          have HW4 := Lib.hid (HBW.out.setCell (p := ⟨go, k, none⟩) hb3 (.int .u32 (revF x s)))
          have hne1 : ¬ q = go := by have := HLT.out; omega
          have hne2 : ¬ go = q := by have := HLT.out; omega
          have HSET3 : Hid (Blk ((wr.setCell ⟨go, k, none⟩ (.int .u32 (revF x s))).setCell ⟨q, s, none⟩ (.int .i64 (x + 1))) q 130 (ints .i64 (nextL l (k + 1)))) := by
            have := HSET2.out.set s (.int .i64 (x + 1))
            rw [set_ints, ← S1.out] at this; exact this
          have HSET4 := Lib.hid (HSET1.out.set_other (a := ⟨q, s, none⟩) (by exact hne2) (.int .i64 (x + 1)))
          have HW5 := Lib.hid (HW4.out.setCell (p := ⟨q, s, none⟩) hbz (.int .i64 (x + 1)))
          clear HNX HOUT HBW HSET1 HSET2 HW4
          go_wp2_with fail
          go_roundw
          case rel => exact ⟨k + 1, by omega, by go_num, HSET3, HSET4, HW5⟩
          case measure => simp [intOf]; omega
        · have e3 : decide (0 < nth l k) = false := by simpa using hz
          have S1 := Lib.hid (nextL_skip l k (by have := HLL.out; omega) hz)
          have S2 := Lib.hid (outL_skip l k hz)
          go_wp2_with fail
          go_roundw
          case rel => exact ⟨k + 1, by omega, by go_num, by rw [S1.out]; exact HNX, by rw [S2.out]; exact HOUT, HBW⟩
          case measure => simp [intOf]; omega
      · obtain rfl : k = n := by omega
        go_wp2_with fail
        go_ret2
        refine coded_ok (v := .slice (some ⟨go, 0, none⟩) k k) (ls := outL l k) (by rw [HR.out, HLL.out]) (by rw [outL_len, HLL.out]) ?_ HBW.out
        exact own_of_blkK HOUT.out (by rw [outL_len, HLL.out]) hb3 (by omega)
  · have e1 : (checkF l != 0) = true := by simpa using hc
    have HR : Hid (codesF l = ([], checkF l)) := if_neg hc
    go_wp2_with fail
    go_ret2
    exact coded_err HR.out (HD.out.keeps (S := [])).below
end Go.Proofs.YtkpabdjniiepkaaGreatDoor
