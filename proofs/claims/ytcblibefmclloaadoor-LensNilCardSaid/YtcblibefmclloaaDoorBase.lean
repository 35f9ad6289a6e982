/- Words over worlds: what a call keeps, what a slice of numbers reads as, blocks known whole. -/
import Derived.Test.YtcblibefmclloaaDoorProg
import Derived.WalkKit
import Derived.WalkSpells
import Derived.WalkLawsBesides
import Derived.Lib.Hide
import Derived.BigQuiet
import Derived.Deep.QuietTactic
import Derived.Deep.LoopGhost
import Derived.Deep.DeepCutAuto
import Derived.Deep.CutBlock
import Derived.Laws.CopyOwn
set_option linter.unusedVariables false
set_option linter.unusedSimpArgs false
namespace Go.Proofs.YtcblibefmclloaaDoor
open Go.RowKit

/-- Of what was there only blocks of S may have turned. -/
structure Keeps (S : List Nat) (w w' : World) : Prop where
  os : w'.os = w.os
  tape : w'.tape = w.tape
  output : w'.output = w.output
  size : w.heap.size ≤ w'.heap.size
  block : ∀ k, k < w.heap.size → k ∉ S → w'.heap[k]? = w.heap[k]?
theorem Keeps.refl (S : List Nat) (w : World) : Keeps S w w := ⟨rfl, rfl, rfl, Nat.le_refl _, fun _ _ _ => rfl⟩
theorem Keeps.trans {S : List Nat} {a b c : World} (h : Keeps S a b) (k : Keeps S b c) : Keeps S a c :=
  ⟨k.os.trans h.os, k.tape.trans h.tape, k.output.trans h.output, Nat.le_trans h.size k.size, fun i hi hs => (k.block i (Nat.lt_of_lt_of_le hi h.size) hs).trans (h.block i hi hs)⟩
theorem Keeps.mono {S S' : List Nat} {w w' : World} (h : Keeps S w w') (hs : ∀ x, x ∈ S → x ∈ S') : Keeps S' w w' :=
  ⟨h.os, h.tape, h.output, h.size, fun k hk hn => h.block k hk (fun hx => hn (hs k hx))⟩
/-- A second step may turn what is new since the first, too. -/
theorem Keeps.then {S S' : List Nat} {a b c : World} (h : Keeps S a b) (k : Keeps S' b c) (hS : ∀ x, x ∈ S' → x ∈ S ∨ a.heap.size ≤ x) : Keeps S a c :=
  ⟨k.os.trans h.os, k.tape.trans h.tape, k.output.trans h.output, Nat.le_trans h.size k.size, fun i hi hs => (k.block i (Nat.lt_of_lt_of_le hi h.size) (fun hx => by rcases hS i hx with h' | h'; exact hs h'; omega)).trans (h.block i hi hs)⟩
theorem Keeps.drewN {S : List Nat} {w w' : World} (h : Keeps S w w') (n : Nat) : Keeps S w (w'.drewN n) := ⟨h.os, h.tape, h.output, h.size, h.block⟩
theorem Keeps.drew {S : List Nat} {w w' : World} (h : Keeps S w w') : Keeps S w w'.drew := ⟨h.os, h.tape, h.output, h.size, h.block⟩
theorem Keeps.alloc {S : List Nat} {w w' : World} (h : Keeps S w w') (o : Obj) : Keeps S w (w'.alloc o) :=
  h.trans ⟨rfl, rfl, rfl, by simp, fun k hk _ => Below.heap_alloc _ _ _ (by omega)⟩
theorem Keeps.setCell {S : List Nat} {w w' : World} (h : Keeps S w w') {p : Addr} (hp : p.block ∈ S ∨ w.heap.size ≤ p.block) (u : Value) : Keeps S w (w'.setCell p u) :=
  ⟨h.os, h.tape, h.output, by simpa [World.setCell] using h.size, fun k hk hn => (Below.heap_setCell _ _ _ _ (fun e => by subst e; rcases hp with hp | hp; exact hn hp; omega)).trans (h.block k hk hn)⟩
theorem Keeps.of_below {S : List Nat} {w w' : World} (h : Below w.heap.size w w') : Keeps S w w' := ⟨h.os, h.tape, h.output, h.size, fun k hk _ => h.block k hk⟩
theorem Keeps.below {w w' : World} (h : Keeps [] w w') : Below w.heap.size w w' := ⟨h.os, h.tape, h.output, h.size, fun k hk => h.block k hk (by simp)⟩
theorem Keeps.grown {S : List Nat} {w w1 w' : World} {row : Option Nat} (h : Keeps S w w1) (hg : w1.grownBy w' row) (hr : ∀ k, row = some k → k ∈ S ∨ w.heap.size ≤ k) : Keeps S w w' :=
  ⟨hg.os.trans h.os, hg.tape.trans h.tape, hg.output.trans h.output, Nat.le_trans h.size hg.size, fun k hk hn => (hg.block k (Nat.lt_of_lt_of_le hk h.size) (fun e => by
    rcases hr k e.symm with h' | h'
    · exact hn h'
    · omega)).trans (h.block k hk hn)⟩
theorem Keeps.cell {S : List Nat} {w w' : World} (h : Keeps S w w') {p : Addr} (hp : p.block ∉ S) {v : Value} (hc : w.cell? p = some v) : w'.cell? p = some v :=
  (World.cell?_of_block (w := w) (h.block p.block (World.block_lt_of_cell? w p hc) hp)).trans hc
theorem Keeps.frozen {S : List Nat} {w w' : World} (h : Keeps S w w') {p : Addr} (hl : p.block < w.heap.size) (hp : p.block ∉ S) : w'.frozen? p = w.frozen? p :=
  World.frozen?_of_block (w := w) (h.block p.block hl hp)
theorem Keeps.heap {S : List Nat} {w w' : World} (h : Keeps S w w') {g : Nat} {o : Obj} (hg : w.heap[g]? = some o) (hp : g ∉ S) : w'.heap[g]? = some o :=
  (h.block g (Array.getElem?_eq_some_iff.1 hg).1 hp).trans hg

/-- Only orders were drawn. -/
def Dr (w w' : World) : Prop := ∃ q, w' = w.drewN q
theorem Dr.refl (w : World) : Dr w w := ⟨0, rfl⟩
theorem Dr.step {w w' : World} (h : Dr w w') (q : Nat) : Dr w (w'.drewN q) := by
  obtain ⟨m, rfl⟩ := h
  exact ⟨m + q, World.drewN_drewN ..⟩
theorem Dr.drew {w w' : World} (h : Dr w w') : Dr w w'.drew := by
  obtain ⟨m, rfl⟩ := h
  exact ⟨m + 1, by rw [← World.drewN_drewN]; rfl⟩
theorem Dr.trans {a b c : World} (h : Dr a b) (k : Dr b c) : Dr a c := by
  obtain ⟨m, rfl⟩ := k
  exact h.step m
theorem Dr.keeps {S : List Nat} {w w' : World} (h : Dr w w') : Keeps S w w' := by
  obtain ⟨q, rfl⟩ := h
  exact (Keeps.refl S w).drewN q

/-- The number at a place (0 beyond the end); a word that the walk does not look into. -/
def nth (xs : List Int) (j : Nat) : Int := xs.getD j 0
theorem nth_lt {xs : List Int} {j : Nat} (h : j < xs.length) : nth xs j = xs[j] := by simp [nth, List.getD, h]
theorem nth_take (xs : List Int) (m j : Nat) (h : j < m) : nth (xs.take m) j = nth xs j := by
  simp [nth, List.getD, List.getElem?_take, h]
/-- A slice's cells are these numbers. -/
structure RI (k : IntKind) (w : World) (A : Option Addr) (n : Nat) (xs : List Int) : Prop where
  len : xs.length = n
  hd : 0 < n → ∃ b o, A = some ⟨b, o, none⟩
  cell : ∀ b o, A = some ⟨b, o, none⟩ → ∀ j, j < n → w.cell? ⟨b, o + j, none⟩ = some (.int k (nth xs j))
theorem RI.at {k : IntKind} {w : World} {A : Option Addr} {n : Nat} {xs : List Int} (h : RI k w A n xs) {j : Nat} (hj : j < n) : ∃ b o, A = some ⟨b, o, none⟩ ∧ w.cell? ⟨b, o + j, none⟩ = some (.int k (nth xs j)) := by
  obtain ⟨b, o, ha⟩ := h.hd (by omega)
  exact ⟨b, o, ha, h.cell b o ha j hj⟩
/-- The block in which a slice's cells lie is none of these. -/
def Off (S : List Nat) (A : Option Addr) : Prop := ∀ a, A = some a → a.block ∉ S
theorem off_nil (A : Option Addr) : Off [] A := fun _ _ => by simp
theorem RI.keeps {k : IntKind} {S : List Nat} {w w' : World} {A : Option Addr} {n : Nat} {xs : List Int} (h : RI k w A n xs) (hk : Keeps S w w') (ho : Off S A) : RI k w' A n xs :=
  ⟨h.len, h.hd, fun b o ha j hj => hk.cell (p := ⟨b, o + j, none⟩) (ho ⟨b, o, none⟩ ha) (h.cell b o ha j hj)⟩
theorem add_plain (g j : Nat) : (⟨g, 0, none⟩ : Addr).add j = ⟨g, j, none⟩ := by unfold Addr.add; split <;> simp_all
theorem add_plain2 (g o j : Nat) : (⟨g, o, none⟩ : Addr).add j = ⟨g, o + j, none⟩ := by unfold Addr.add; split <;> simp_all
theorem RI.take {k : IntKind} {w : World} {A : Option Addr} {n : Nat} {xs : List Int} (h : RI k w A n xs) {m : Nat} (hm : m ≤ n) : RI k w A m (xs.take m) :=
  ⟨by have := h.len; simp; omega, fun hp => h.hd (by omega), fun b o ha j hj => by rw [nth_take _ _ _ hj]; exact h.cell b o ha j (by omega)⟩

/-- A block known whole, none of it frozen. -/
def Blk (w : World) (g : Nat) (t : TypeId) (cs : List Value) : Prop := w.heap[g]? = some (.cells cs.toArray t (0, 0))
theorem Blk.lt {w : World} {g : Nat} {t : TypeId} {cs : List Value} (h : Blk w g t cs) : g < w.heap.size := (Array.getElem?_eq_some_iff.1 h).1
theorem Blk.keeps {S : List Nat} {w w' : World} {g : Nat} {t : TypeId} {cs : List Value} (h : Blk w g t cs) (hk : Keeps S w w') (hn : g ∉ S) : Blk w' g t cs := hk.heap h hn
theorem Blk.drewN {w : World} {g : Nat} {t : TypeId} {cs : List Value} (h : Blk w g t cs) (n : Nat) : Blk (w.drewN n) g t cs := h
theorem Blk.alloc {w : World} {g : Nat} {t : TypeId} {cs : List Value} (h : Blk w g t cs) (o : Obj) : Blk (w.alloc o) g t cs := (Below.heap_alloc _ _ _ h.lt).trans h
theorem Blk.cell {w : World} {g : Nat} {t : TypeId} {cs : List Value} (h : Blk w g t cs) (j : Nat) : w.cell? ⟨g, j, none⟩ = cs[j]? := by
  unfold World.cell?
  simp only [Blk] at h
  simp [h]
theorem Blk.frozen {w : World} {g : Nat} {t : TypeId} {cs : List Value} (h : Blk w g t cs) (j : Nat) : w.frozen? ⟨g, j, none⟩ = false := by
  unfold World.frozen?
  simp only [Blk] at h
  simp [h]
theorem Blk.set {w : World} {g : Nat} {t : TypeId} {cs : List Value} (h : Blk w g t cs) (j : Nat) (u : Value) : Blk (w.setCell ⟨g, j, none⟩ u) g t (cs.set j u) := by
  simp only [Blk, World.setCell, Array.getElem?_modify] at *
  simp [h]
theorem Blk.set_other {w : World} {g : Nat} {t : TypeId} {cs : List Value} (h : Blk w g t cs) {a : Addr} (ha : g ≠ a.block) (u : Value) : Blk (w.setCell a u) g t cs :=
  (Below.heap_setCell _ _ _ _ ha).trans h
theorem blk_new (w : World) (t : TypeId) (cs : List Value) : Blk (w.alloc (.cells cs.toArray t (0, 0))) w.heap.size t cs := by
  show (w.heap.push _)[w.heap.size]? = _
  simp
def ints (k : IntKind) (xs : List Int) : List Value := xs.map (Value.int k)
theorem ints_getElem? (k : IntKind) (xs : List Int) (j : Nat) : (ints k xs)[j]? = (xs[j]?).map (Value.int k) := by simp [ints]
theorem Blk.ri {w : World} {g : Nat} {t : TypeId} {k : IntKind} {xs ys : List Int} (h : Blk w g t (ints k (xs ++ ys))) : RI k w (some ⟨g, 0, none⟩) xs.length xs :=
  ⟨rfl, fun _ => ⟨_, _, rfl⟩, fun b o ha j hj => by
    injection ha with ha; injection ha with h1 h2 h3; subst h1; subst h2
    rw [Nat.zero_add, h.cell, ints_getElem?, List.getElem?_append_left hj]
    simp [nth, List.getD, hj]⟩
theorem own_keeps {S : List Nat} {w w' : World} {base : Nat} {e : TypeId} {size : Nat} {v : Value} {n : Nat} {xs : List Value} (h : w.ownsRow base e size v n xs) (hk : Keeps S w w') (hn : ∀ g, v.ownBlock = some g → g ∉ S) : w'.ownsRow base e size v n xs := by
  refine ⟨h.1, ?_⟩
  rcases h.2 with h2 | ⟨g, cap, cur, hv, hb, hh, hr⟩
  · exact .inl h2
  · exact .inr ⟨g, cap, cur, hv, hb, hk.heap hh (hn g (by rw [hv]; rfl)), hr⟩
theorem own_ri {w : World} {base : Nat} {e : TypeId} {v : Value} {n : Nat} {k : IntKind} {xs : List Int} (h : w.ownsRow base e 1 v n (ints k xs)) :
    ∃ A c, v = .slice A n c ∧ RI k w A n xs ∧ n ≤ c ∧ (∀ a, A = some a → base ≤ a.block ∧ a.block < w.heap.size ∧ v.ownBlock = some a.block) := by
  obtain ⟨h1, h2⟩ := h
  have hl : xs.length = n := by simpa [ints] using h1
  rcases h2 with ⟨rfl, rfl⟩ | ⟨g, cap, cur, rfl, hb, hh, hc, hm, hs, ht⟩
  · exact ⟨none, 0, rfl, ⟨hl, by omega, by simp⟩, by omega, by simp⟩
  · refine ⟨_, _, rfl, ⟨hl, fun _ => ⟨_, _, rfl⟩, fun b o ha j hj => ?_⟩, hc, fun a ha => ?_⟩
    · injection ha with ha; injection ha with h1 h2 h3; subst h1; subst h2
      have e1 : cur.toList[j]? = (ints k xs)[j]? := by rw [← ht, List.getElem?_take, if_pos (by omega)]
      rw [Nat.zero_add]
      unfold World.cell?
      simp only [hh]
      rw [← Array.getElem?_toList, e1, ints_getElem?]
      simp [nth, List.getD, show j < xs.length by omega]
    · obtain rfl := Option.some.inj ha
      exact ⟨hb, (Array.getElem?_eq_some_iff.1 hh).1, rfl⟩
theorem setRow_keeps {S : List Nat} {w0 w : World} (h : Keeps S w0 w) {g : Nat} (hg : g ∈ S ∨ w0.heap.size ≤ g) (cs : Array Value) : Keeps S w0 (w.setRow g cs) :=
  ⟨h.os, h.tape, h.output, by simpa [World.setRow] using h.size, fun k hk hn => (setRow_other w g k cs (fun e => by subst e; rcases hg with hg | hg; exact hn hg; omega)).trans (h.block k hk hn)⟩

/-- 'make([]T, l)' of whole numbers: a block of zeros. -/
theorem make_ints {P : Program} (w : World) (t e : TypeId) (k : IntKind) (b : Nat) (ht : P.underlying t = some (.slice e)) (hi : (P.info? e).map (fun i => (i.zero, i.size, i.bytes)) = some (some (.int k 0), 1, b))
    (l : Int) (n : Nat) (hn : l = n) (hbytes : b * n ≤ 281474976710656) (h63 : n ≤ 9223372036854775807) :
    (Instr.makeSlice t (.int .i64 l) (.int .i64 l)).run P w = .ok (.slice (some ⟨w.heap.size, 0, none⟩) n n) (w.alloc (.cells (ints k (List.replicate n 0)).toArray e)) := by
  subst hn
  obtain ⟨i, hi, hz, hs, hb⟩ := info_parts hi
  have e1 : (i.bytes : Int) * (n : Int) ≤ 281474976710656 := by
    rw [hb]
    have : ((b * n : Nat) : Int) ≤ 281474976710656 := by omega
    rwa [Int.natCast_mul] at this
  rw [run_make w t e i _ ht hi hz .i64 .i64 n n (by omega) (Int.le_refl _) e1 (by omega)]
  simp only [Int.toNat_natCast]
  congr 4
  rw [hs, Nat.mul_one]
  apply Array.toList_inj.1
  show (madeCells #[.int k 0] n).toList = _
  rw [toList_madeCells_one]
  simp [ints]
theorem info_int : (Tryd.prog.info? 3).map (fun i => (i.zero, i.size, i.bytes)) = some (some (.int .i64 0), 1, 8) := by kernel_rfl
theorem info_u8 : (Tryd.prog.info? 5).map (fun i => (i.zero, i.size, i.bytes)) = some (some (.int .u8 0), 1, 1) := by kernel_rfl
theorem size_int : (Tryd.prog.info? 3).map (·.size) = some 1 := by kernel_rfl
theorem size_u8 : (Tryd.prog.info? 5).map (·.size) = some 1 := by kernel_rfl
end Go.Proofs.YtcblibefmclloaaDoor
