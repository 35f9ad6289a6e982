/- What a step says: plain lists. -/
set_option linter.unusedVariables false
set_option linter.unusedSimpArgs false
namespace Go.Proofs.YtcblibefmclloaaDoor
/-- Which length a step says, and how many times. -/
def sayF (l : List Int) (sym extra : Int) : Option (Int × Nat) :=
  if 0 ≤ sym ∧ sym ≤ 15 ∧ extra = 0 then some (sym, 1)
  else if sym = 16 ∧ 0 ≤ extra ∧ extra ≤ 3 ∧ l ≠ [] then some (l.getD (l.length - 1) 0, extra.toNat + 3)
  else if sym = 17 ∧ 0 ≤ extra ∧ extra ≤ 7 then some (0, extra.toNat + 3)
  else if sym = 18 ∧ 0 ≤ extra ∧ extra ≤ 127 then some (0, extra.toNat + 11)
  else none
/-- Lengths with those that a step says, n in all at most. -/
def addF (l : List Int) (sym extra n : Int) : Option (List Int) :=
  match sayF l sym extra with
  | some (v, k) => if ((l.length + k : Nat) : Int) ≤ n then some (l ++ List.replicate k v) else none
  | none => none
theorem sayF_lit {l : List Int} {sym : Int} (h0 : 0 ≤ sym) (h1 : sym ≤ 15) : sayF l sym 0 = some (sym, 1) := by
  rw [sayF, if_pos ⟨h0, h1, rfl⟩]
theorem sayF_lit_none {l : List Int} {sym extra : Int} (h1 : sym ≤ 15) (h2 : sym < 0 ∨ extra ≠ 0) : sayF l sym extra = none := by
  rw [sayF, if_neg (by rintro ⟨a, b, c⟩; rcases h2 with h | h; omega; exact h c), if_neg (by omega), if_neg (by omega), if_neg (by omega)]
theorem sayF_16 {l : List Int} {extra : Int} (h0 : 0 ≤ extra) (h1 : extra ≤ 3) (h : l ≠ []) : sayF l 16 extra = some (l.getD (l.length - 1) 0, extra.toNat + 3) := by
  rw [sayF, if_neg (by omega), if_pos ⟨rfl, h0, h1, h⟩]
theorem sayF_16_none {l : List Int} {extra : Int} (h : extra < 0 ∨ 3 < extra ∨ l = []) : sayF l 16 extra = none := by
  rw [sayF, if_neg (by omega), if_neg (by rintro ⟨_, a, b, c⟩; rcases h with h | h | h; omega; omega; exact c h), if_neg (by omega), if_neg (by omega)]
theorem sayF_17 {l : List Int} {extra : Int} (h0 : 0 ≤ extra) (h1 : extra ≤ 7) : sayF l 17 extra = some (0, extra.toNat + 3) := by
  rw [sayF, if_neg (by omega), if_neg (by omega), if_pos ⟨rfl, h0, h1⟩]
theorem sayF_17_none {l : List Int} {extra : Int} (h : extra < 0 ∨ 7 < extra) : sayF l 17 extra = none := by
  rw [sayF, if_neg (by omega), if_neg (by omega), if_neg (by omega), if_neg (by omega)]
theorem sayF_18 {l : List Int} {extra : Int} (h0 : 0 ≤ extra) (h1 : extra ≤ 127) : sayF l 18 extra = some (0, extra.toNat + 11) := by
  rw [sayF, if_neg (by omega), if_neg (by omega), if_neg (by omega), if_pos ⟨rfl, h0, h1⟩]
theorem sayF_18_none {l : List Int} {extra : Int} (h : extra < 0 ∨ 127 < extra) : sayF l 18 extra = none := by
  rw [sayF, if_neg (by omega), if_neg (by omega), if_neg (by omega), if_neg (by omega)]
theorem sayF_big {l : List Int} {sym extra : Int} (h : 18 < sym) : sayF l sym extra = none := by
  rw [sayF, if_neg (by omega), if_neg (by omega), if_neg (by omega), if_neg (by omega)]
theorem sayF_pos {l : List Int} {sym extra v : Int} {k : Nat} (h : sayF l sym extra = some (v, k)) : 1 ≤ k ∧ k ≤ 138 := by
  simp only [sayF] at h
  split at h
  · simp at h; omega
  · split at h
    · simp at h; omega
    · split at h
      · simp at h; omega
      · split at h
        · simp at h; omega
        · simp at h
theorem addF_none {l : List Int} {sym extra n : Int} (h : sayF l sym extra = none) : addF l sym extra n = none := by rw [addF, h]
theorem addF_many {l : List Int} {sym extra n v : Int} {k : Nat} (h : sayF l sym extra = some (v, k)) (hn : n < ((l.length + k : Nat) : Int)) : addF l sym extra n = none := by
  rw [addF, h]; exact if_neg (by omega)
theorem addF_some {l : List Int} {sym extra n v : Int} {k : Nat} (h : sayF l sym extra = some (v, k)) (hn : ((l.length + k : Nat) : Int) ≤ n) : addF l sym extra n = some (l ++ List.replicate k v) := by
  rw [addF, h]; exact if_pos hn
theorem addF_len {l l' : List Int} {sym extra n : Int} (h : addF l sym extra n = some l') : l.length < l'.length ∧ (l'.length : Int) ≤ n := by
  simp only [addF] at h
  split at h
  · rename_i v k hs
    have := sayF_pos hs
    split at h
    · injection h with h; subst h; simp only [List.length_append, List.length_replicate]; omega
    · simp at h
  · simp at h
/-- Lengths with those that steps say. -/
def unpackTo (l : List Int) : List (Int × Int) → Int → Option (List Int)
  | [], _ => some l
  | s :: r, n => match addF l s.1 s.2 n with
    | some l' => unpackTo l' r n
    | none => none
/-- Unpacking: the lengths, and what is wrong. -/
def unpackF (xs : List (Int × Int)) (n : Int) : List Int × Int :=
  if n < 0 ∨ 316 < n then ([], 1) else match unpackTo [] xs n with
    | none => ([], 41)
    | some l => if (l.length : Int) < n then ([], 41) else (l, 0)
theorem unpackF_arg {xs : List (Int × Int)} {n : Int} (h : n < 0 ∨ 316 < n) : unpackF xs n = ([], 1) := if_pos h
theorem unpackF_none {xs : List (Int × Int)} {n : Int} (h0 : 0 ≤ n) (h1 : n ≤ 316) (h : unpackTo [] xs n = none) : unpackF xs n = ([], 41) := by
  rw [unpackF, if_neg (by omega), h]
theorem unpackF_few {xs : List (Int × Int)} {n : Int} {l : List Int} (h0 : 0 ≤ n) (h1 : n ≤ 316) (h : unpackTo [] xs n = some l) (hl : (l.length : Int) < n) : unpackF xs n = ([], 41) := by
  rw [unpackF, if_neg (by omega), h]; exact if_pos hl
theorem unpackF_ok {xs : List (Int × Int)} {n : Int} {l : List Int} (h0 : 0 ≤ n) (h1 : n ≤ 316) (h : unpackTo [] xs n = some l) (hl : ¬ (l.length : Int) < n) : unpackF xs n = (l, 0) := by
  rw [unpackF, if_neg (by omega), h]; exact if_neg hl
theorem unpackTo_cons {l : List Int} {s : Int × Int} {r : List (Int × Int)} {n : Int} {l' : List Int} (h : addF l s.1 s.2 n = some l') : unpackTo l (s :: r) n = unpackTo l' r n := by
  rw [unpackTo, h]
theorem unpackTo_stop {l : List Int} {s : Int × Int} {r : List (Int × Int)} {n : Int} (h : addF l s.1 s.2 n = none) : unpackTo l (s :: r) n = none := by
  rw [unpackTo, h]
end Go.Proofs.YtcblibefmclloaaDoor
