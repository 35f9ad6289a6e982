import Derived.Test.YtkpabdjniiepkaaGreatDoorDflC
import Derived.Test.YtkpabdjniiepkaaGreatDoorDflD
import Derived.Test.YtkpabdjniiepkaaGreatDoorDflB
set_option linter.unusedVariables false
set_option linter.unusedSimpArgs false
/-! Plain: how bytes are inflated. A result: what is laid, the place, what is wrong (the place is told only where nothing is). -/
namespace Go.Proofs.YtkpabdjniiepkaaGreatDoor
abbrev IRes := List Int × Nat × Int
def endF (e other : Int) : Int := if e = 0 then 0 else if e = 10 then 55 else other
/-- Bytes of a stored block. -/
def storF (bs : List Int) (most : Nat) : Nat → List Int → Nat → IRes
  | 0, out, p => (out, p, 0)
  | n + 1, out, p => if 8 * bs.length < p + 8 then (out, 0, 55) else if most ≤ out.length then (out, 0, 56) else storF bs most n (out ++ [numB bs p 8]) (p + 8)
def alignF (p : Nat) : Nat := (p + 7) / 8 * 8
def storedF (bs : List Int) (most : Nat) (out : List Int) (p : Nat) : IRes :=
  if 8 * bs.length < alignF p + 16 then (out, 0, 55)
  else if 8 * bs.length < alignF p + 32 then (out, 0, 55)
  else if numB bs (alignF p) 16 + numB bs (alignF p + 16) 16 ≠ 65535 then (out, 0, 51)
  else storF bs most (numB bs (alignF p) 16).toNat out (alignF p + 32)
/-- Copied bytes. -/
def layN (far most : Nat) : Nat → List Int → List Int × Int
  | 0, out => (out, 0)
  | n + 1, out => if most ≤ out.length then (out, 56) else layN far most n (out ++ [nth out (out.length - far)])
def lenK (s : Nat) : Nat := if s < 265 ∨ s = 285 then 0 else (s - 261) / 4
def lenBase (s : Nat) : Nat := if s < 265 then s - 254 else if s = 285 then 258 else 3 + (4 + (s - 261) % 4) * 2 ^ lenK s
def distK (d : Nat) : Nat := if d < 4 then 0 else d / 2 - 1
def distBase (d : Nat) : Nat := if d < 4 then d + 1 else 1 + (2 + d % 2) * 2 ^ distK d
def anyUsed (l : List Int) : Bool := l.any fun x => decide (0 < x)
/-- The rest of a copy, behind its symbol. -/
def copyF (dist bs : List Int) (most s : Nat) (out : List Int) (p : Nat) : IRes :=
  if 285 < s then (out, 0, 53)
  else if 8 * bs.length < p + lenK s then (out, 0, 55)
  else if anyUsed dist = false then (out, 0, 53)
  else if (decF dist bs (p + lenK s)).2.1 ≠ 0 then (out, 0, endF (decF dist bs (p + lenK s)).2.1 53)
  else if 29 < (decF dist bs (p + lenK s)).1 then (out, 0, 53)
  else if 8 * bs.length < p + lenK s + (decF dist bs (p + lenK s)).2.2 + distK (decF dist bs (p + lenK s)).1.toNat then (out, 0, 55)
  else if (out.length : Int) < distBase (decF dist bs (p + lenK s)).1.toNat + numB bs (p + lenK s + (decF dist bs (p + lenK s)).2.2) (distK (decF dist bs (p + lenK s)).1.toNat) then (out, 0, 54)
  else if (layN ((distBase (decF dist bs (p + lenK s)).1.toNat : Int) + numB bs (p + lenK s + (decF dist bs (p + lenK s)).2.2) (distK (decF dist bs (p + lenK s)).1.toNat)).toNat most (lenBase s + (numB bs p (lenK s)).toNat) out).2 ≠ 0 then
    ((layN ((distBase (decF dist bs (p + lenK s)).1.toNat : Int) + numB bs (p + lenK s + (decF dist bs (p + lenK s)).2.2) (distK (decF dist bs (p + lenK s)).1.toNat)).toNat most (lenBase s + (numB bs p (lenK s)).toNat) out).1, 0, 56)
  else ((layN ((distBase (decF dist bs (p + lenK s)).1.toNat : Int) + numB bs (p + lenK s + (decF dist bs (p + lenK s)).2.2) (distK (decF dist bs (p + lenK s)).1.toNat)).toNat most (lenBase s + (numB bs p (lenK s)).toNat) out).1, p + lenK s + (decF dist bs (p + lenK s)).2.2 + distK (decF dist bs (p + lenK s)).1.toNat, 0)
/-- A block's symbols. -/
def symF (lit dist bs : List Int) (most : Nat) : Nat → List Int → Nat → IRes
  | 0, out, _ => (out, 0, 55)
  | f + 1, out, p =>
    if (decF lit bs p).2.1 ≠ 0 then (out, 0, endF (decF lit bs p).2.1 53)
    else if (decF lit bs p).1 = 256 then (out, p + (decF lit bs p).2.2, 0)
    else if (decF lit bs p).1 < 256 then
      if most ≤ out.length then (out, 0, 56) else symF lit dist bs most f (out ++ [(decF lit bs p).1]) (p + (decF lit bs p).2.2)
    else if (copyF dist bs most (decF lit bs p).1.toNat out (p + (decF lit bs p).2.2)).2.2 ≠ 0 then copyF dist bs most (decF lit bs p).1.toNat out (p + (decF lit bs p).2.2)
    else symF lit dist bs most f (copyF dist bs most (decF lit bs p).1.toNat out (p + (decF lit bs p).2.2)).1 (copyF dist bs most (decF lit bs p).1.toNat out (p + (decF lit bs p).2.2)).2.1
def fixLit : List Int := List.replicate 144 8 ++ List.replicate 112 9 ++ List.replicate 24 7 ++ List.replicate 8 8
def fixDist : List Int := List.replicate 32 5
/-- The lists of a block of kind 2; the place; what is wrong. -/
def codesE (h : List Int × List Int × Nat × Int) : Int :=
  if h.2.2.2 ≠ 0 then endF h.2.2.2 52
  else if nth h.1 256 = 0 then 52
  else if checkF h.1 ≠ 0 then 52
  else if anyUsed h.2.1 = true ∧ checkF h.2.1 ≠ 0 then 52
  else 0
def blockF (bs : List Int) (most : Nat) (kind : Int) (out : List Int) (p : Nat) : IRes :=
  if kind = 0 then storedF bs most out p
  else if kind = 1 then symF fixLit fixDist bs most (8 * bs.length + 1) out p
  else if kind = 2 then
    if codesE (headF bs p) ≠ 0 then (out, 0, codesE (headF bs p))
    else symF (headF bs p).1 (headF bs p).2.1 bs most (8 * bs.length + 1) out (p + (headF bs p).2.2.1)
  else (out, 0, 50)
def blksF (bs : List Int) (most : Nat) : Nat → List Int → Nat → IRes
  | 0, out, _ => (out, 0, 55)
  | f + 1, out, p =>
    if 8 * bs.length < p + 1 then (out, 0, 55)
    else if 8 * bs.length < p + 3 then (out, 0, 55)
    else if (blockF bs most (numB bs (p + 1) 2) out (p + 3)).2.2 ≠ 0 then blockF bs most (numB bs (p + 1) 2) out (p + 3)
    else if numB bs p 1 = 0 then blksF bs most f (blockF bs most (numB bs (p + 1) 2) out (p + 3)).1 (blockF bs most (numB bs (p + 1) 2) out (p + 3)).2.1
    else blockF bs most (numB bs (p + 1) 2) out (p + 3)
def inflF (bs : List Int) (most : Nat) : IRes := blksF bs most (8 * bs.length + 1) [] 0
/-- What inflating answers. -/
def inflR (bs : List Int) (most : Int) : List Int × Nat × Int :=
  if most < 0 ∨ 16384 < most then ([], 0, 1)
  else if (inflF bs most.toNat).2.2 ≠ 0 then ([], 0, (inflF bs most.toNat).2.2)
  else ((inflF bs most.toNat).1, ((inflF bs most.toNat).2.1 + 7) / 8, 0)
/-! Places: a result that is right stands behind where it began, and in the bits. -/
theorem storF_pos (bs : List Int) (most : Nat) : ∀ n out p, p ≤ 8 * bs.length → (storF bs most n out p).2.2 = 0 → p ≤ (storF bs most n out p).2.1 ∧ (storF bs most n out p).2.1 ≤ 8 * bs.length
  | 0, out, p, hp, h => ⟨Nat.le_refl _, hp⟩
  | n + 1, out, p, hp, h => by
    rw [storF] at h ⊢
    split
    · next h1 => rw [if_pos h1] at h; simp at h
    · next h1 =>
      rw [if_neg h1] at h
      split
      · next h2 => rw [if_pos h2] at h; simp at h
      · next h2 =>
        rw [if_neg h2] at h
        have := storF_pos bs most n _ (p + 8) (by omega) h
        omega
theorem storedF_pos (bs : List Int) (most : Nat) (out : List Int) (p : Nat) (h : (storedF bs most out p).2.2 = 0) : p ≤ (storedF bs most out p).2.1 ∧ (storedF bs most out p).2.1 ≤ 8 * bs.length := by
  unfold storedF at h ⊢
  split
  · next h1 => rw [if_pos h1] at h; simp at h
  next h1 =>
  rw [if_neg h1] at h
  split
  · next h2 => rw [if_pos h2] at h; simp at h
  next h2 =>
  rw [if_neg h2] at h
  split
  · next h3 => rw [if_pos h3] at h; simp at h
  next h3 =>
  rw [if_neg h3] at h
  have := storF_pos bs most _ _ (alignF p + 32) (by omega) h
  unfold alignF at *
  omega
theorem dec_adv (l bs : List Int) (p : Nat) (hp : p ≤ 8 * bs.length) (h : (decF l bs p).2.1 = 0) : 1 ≤ (decF l bs p).2.2 ∧ p + (decF l bs p).2.2 ≤ 8 * bs.length ∧ 0 ≤ (decF l bs p).1 ∧ (decF l bs p).1 < l.length := by
  have hs := dec_spec l bs p (longN l 16) 0 (by omega) (by omega) (fun m hm => by
    obtain rfl : m = 0 := by omega
    simp [xv, lowF, lenCnt_zero])
  rw [show decGo l bs p (longN l 16) 0 (xv bs p 0) = decF l bs p from rfl] at hs
  rcases hs with ⟨j, m, hj, h1, _, _, _, hend, _, hr⟩ | ⟨k, _, _, _, hr⟩ | ⟨_, _, hr⟩
  · rw [hr]; exact ⟨h1, hend, by simp, by simp; omega⟩
  · rw [hr] at h; simp at h
  · rw [hr] at h; simp at h
theorem endF_zero {e o : Int} (ho : o ≠ 0) (h : endF e o = 0) : e = 0 := by
  unfold endF at h
  split at h
  · assumption
  split at h
  · cases h
  · exact absurd h ho
theorem copyF_pos (dist bs : List Int) (most s : Nat) (out : List Int) (p : Nat) (hp : p ≤ 8 * bs.length) (h : (copyF dist bs most s out p).2.2 = 0) : p ≤ (copyF dist bs most s out p).2.1 ∧ (copyF dist bs most s out p).2.1 ≤ 8 * bs.length := by
  unfold copyF at h ⊢
  split
  · next h1 => rw [if_pos h1] at h; simp at h
  next h1 =>
  rw [if_neg h1] at h
  split
  · next h2 => rw [if_pos h2] at h; simp at h
  next h2 =>
  rw [if_neg h2] at h
  split
  · next h3 => rw [if_pos h3] at h; simp at h
  next h3 =>
  rw [if_neg h3] at h
  split
  · next h4 => rw [if_pos h4] at h; exact absurd (endF_zero (by decide) h) h4
  next h4 =>
  rw [if_neg h4] at h
  split
  · next h5 => rw [if_pos h5] at h; simp at h
  next h5 =>
  rw [if_neg h5] at h
  split
  · next h6 => rw [if_pos h6] at h; simp at h
  next h6 =>
  rw [if_neg h6] at h
  split
  · next h7 => rw [if_pos h7] at h; simp at h
  next h7 =>
  rw [if_neg h7] at h
  split
  · next h8 => rw [if_pos h8] at h; simp at h
  next h8 =>
  simp only []
  omega
theorem symF_pos (lit dist bs : List Int) (most : Nat) : ∀ f out p, p ≤ 8 * bs.length → (symF lit dist bs most f out p).2.2 = 0 → p ≤ (symF lit dist bs most f out p).2.1 ∧ (symF lit dist bs most f out p).2.1 ≤ 8 * bs.length
  | 0, out, p, hp, h => by simp [symF] at h
  | f + 1, out, p, hp, h => by
    rw [symF] at h ⊢
    split
    · next h1 => rw [if_pos h1] at h; exact absurd (endF_zero (by decide) h) h1
    next h1 =>
    rw [if_neg h1] at h
    obtain ⟨a1, a2, -⟩ := dec_adv lit bs p hp (by omega)
    split
    · simp only []; omega
    next h2 =>
    rw [if_neg h2] at h
    split
    · next h3 =>
      rw [if_pos h3] at h
      split
      · next h4 => rw [if_pos h4] at h; simp at h
      · next h4 =>
        rw [if_neg h4] at h
        have := symF_pos lit dist bs most f _ _ a2 h
        omega
    next h3 =>
    rw [if_neg h3] at h
    split
    · next h5 => rw [if_pos h5] at h; exact absurd h h5
    · next h5 =>
      rw [if_neg h5] at h
      obtain ⟨b1, b2⟩ := copyF_pos dist bs most (decF lit bs p).1.toNat out _ a2 (by omega)
      have := symF_pos lit dist bs most f _ _ b2 h
      omega
end Go.Proofs.YtkpabdjniiepkaaGreatDoor

set_option linter.unusedVariables false
set_option linter.unusedSimpArgs false
/-! Plain: what stands behind the bytes does not matter to what is inflated. -/
namespace Go.Proofs.YtkpabdjniiepkaaGreatDoor
theorem bitAt_pre (bs m : List Int) (i : Nat) (h : i < 8 * bs.length) : bitAt (bs ++ m) i = bitAt bs i := by
  unfold bitAt; rw [nth_append_left _ _ _ (by omega)]
theorem numB_pre (bs m : List Int) (p : Nat) : ∀ n, p + n ≤ 8 * bs.length → numB (bs ++ m) p n = numB bs p n
  | 0, _ => rfl
  | n + 1, h => by rw [numB, numB, numB_pre bs m p n (by omega), bitAt_pre _ _ _ (by omega)]
theorem len_pre (bs m : List Int) : 8 * bs.length ≤ 8 * (bs ++ m).length := by rw [List.length_append]; omega
theorem decGo_pre (l bs m : List Int) (p : Nat) : ∀ f n x, (decGo l bs p f n x).2.1 ≠ 10 → decGo l (bs ++ m) p f n x = decGo l bs p f n x
  | 0, n, x, _ => rfl
  | f + 1, n, x, h => by
    have hl := len_pre bs m
    rw [decGo] at h
    by_cases h1 : p + n + 1 ≤ 8 * bs.length
    · rw [if_pos h1] at h
      rw [decGo, decGo, if_pos h1, if_pos (by omega), bitAt_pre _ _ _ (by omega)]
      split
      · rfl
      · next h2 => rw [if_neg h2] at h; exact decGo_pre l bs m p f _ _ h
    · rw [if_neg h1] at h; exact absurd rfl h
theorem decGo_cut (l bs m : List Int) (p : Nat) : ∀ f n x, (decGo l (bs ++ m) p f n x).2.1 = 0 → n < (decGo l (bs ++ m) p f n x).2.2 ∧ (p + (decGo l (bs ++ m) p f n x).2.2 ≤ 8 * bs.length → decGo l bs p f n x = decGo l (bs ++ m) p f n x)
  | 0, n, x, h => by simp [decGo] at h
  | f + 1, n, x, h => by
    rw [decGo] at h ⊢
    by_cases h1 : p + n + 1 ≤ 8 * (bs ++ m).length
    · rw [if_pos h1] at h ⊢
      split
      · next h2 =>
        refine ⟨Nat.lt_succ_self n, fun hp => ?_⟩
        have hp : p + (n + 1) ≤ 8 * bs.length := hp
        rw [decGo, if_pos (by omega), ← bitAt_pre bs m _ (by omega), if_pos h2]
      · next h2 =>
        rw [if_neg h2] at h
        obtain ⟨a, b⟩ := decGo_cut l bs m p f _ _ h
        refine ⟨by omega, fun hp => ?_⟩
        rw [decGo, if_pos (by omega), ← bitAt_pre bs m _ (by omega), if_neg h2]; exact b hp
    · rw [if_neg h1] at h; simp at h
theorem decF_pre (l bs m : List Int) (p : Nat) (h : (decF l bs p).2.1 ≠ 10) : decF l (bs ++ m) p = decF l bs p := decGo_pre l bs m p _ _ _ h
theorem decF_cut (l bs m : List Int) (p : Nat) (h : (decF l (bs ++ m) p).2.1 = 0) (hp : p + (decF l (bs ++ m) p).2.2 ≤ 8 * bs.length) : decF l bs p = decF l (bs ++ m) p := (decGo_cut l bs m p _ _ _ h).2 hp
theorem end55 {e o : Int} (ho : o ≠ 55) (h : endF e o = 55) : e = 10 := by
  unfold endF at h
  split at h
  · cases h
  split at h
  · assumption
  · exact absurd h ho
/-! What is laid only grows. -/
theorem storF_grow (bs : List Int) (most : Nat) : ∀ n out p, out <+: (storF bs most n out p).1
  | 0, out, p => List.prefix_refl _
  | n + 1, out, p => by
    rw [storF]
    split
    · exact List.prefix_refl _
    split
    · exact List.prefix_refl _
    · exact (List.prefix_append _ _).trans (storF_grow bs most n _ _)
theorem storedF_grow (bs : List Int) (most : Nat) (out : List Int) (p : Nat) : out <+: (storedF bs most out p).1 := by
  unfold storedF
  split
  · exact List.prefix_refl _
  split
  · exact List.prefix_refl _
  split
  · exact List.prefix_refl _
  · exact storF_grow _ _ _ _ _
theorem layN_grow (far most : Nat) : ∀ n out, out <+: (layN far most n out).1
  | 0, out => List.prefix_refl _
  | n + 1, out => by
    rw [layN]
    split
    · exact List.prefix_refl _
    · exact (List.prefix_append _ _).trans (layN_grow far most n _)
theorem copyF_grow (dist bs : List Int) (most s : Nat) (out : List Int) (p : Nat) : out <+: (copyF dist bs most s out p).1 := by
  unfold copyF
  repeat' split
  all_goals first | exact List.prefix_refl _ | exact layN_grow _ _ _ _
theorem symF_grow (lit dist bs : List Int) (most : Nat) : ∀ f out p, out <+: (symF lit dist bs most f out p).1
  | 0, out, p => List.prefix_refl _
  | f + 1, out, p => by
    rw [symF]
    split
    · exact List.prefix_refl _
    split
    · exact List.prefix_refl _
    split
    · split
      · exact List.prefix_refl _
      · exact (List.prefix_append _ _).trans (symF_grow lit dist bs most f _ _)
    split
    · exact copyF_grow _ _ _ _ _ _
    · exact (copyF_grow _ _ _ _ _ _).trans (symF_grow lit dist bs most f _ _)
theorem blockF_grow (bs : List Int) (most : Nat) (kind : Int) (out : List Int) (p : Nat) : out <+: (blockF bs most kind out p).1 := by
  unfold blockF
  split
  · exact storedF_grow _ _ _ _
  split
  · exact symF_grow _ _ _ _ _ _ _
  split
  · split
    · exact List.prefix_refl _
    · exact symF_grow _ _ _ _ _ _ _
  · exact List.prefix_refl _
theorem blksF_grow (bs : List Int) (most : Nat) : ∀ f out p, out <+: (blksF bs most f out p).1
  | 0, out, p => List.prefix_refl _
  | f + 1, out, p => by
    rw [blksF]
    split
    · exact List.prefix_refl _
    split
    · exact List.prefix_refl _
    split
    · exact blockF_grow _ _ _ _ _
    split
    · exact (blockF_grow _ _ _ _ _).trans (blksF_grow bs most f _ _)
    · exact blockF_grow _ _ _ _ _
/-! With more bytes behind. -/
def Ext (r r' : IRes) : Prop := (r.2.2 ≠ 55 → r' = r) ∧ (r.2.2 = 55 → r.1 <+: r'.1)
theorem Ext.same {r r' : IRes} (h : r' = r) : Ext r r' := ⟨fun _ => h, fun _ => by rw [h]; exact List.prefix_refl _⟩
theorem Ext.fin {out : List Int} {r' : IRes} (h : out <+: r'.1) : Ext (out, 0, 55) r' := ⟨fun h => absurd rfl h, fun _ => h⟩
theorem storF_ext (bs m : List Int) (most : Nat) : ∀ n out p, Ext (storF bs most n out p) (storF (bs ++ m) most n out p)
  | 0, out, p => Ext.same rfl
  | n + 1, out, p => by
    have hl := len_pre bs m
    by_cases h1 : 8 * bs.length < p + 8
    · rw [storF, if_pos h1]; exact Ext.fin (storF_grow _ _ _ _ _)
    · rw [storF, storF, if_neg h1, if_neg (show ¬ 8 * (bs ++ m).length < p + 8 by omega), numB_pre _ _ _ _ (by omega)]
      split
      · exact Ext.same rfl
      · exact storF_ext bs m most n _ _
theorem storedF_ext (bs m : List Int) (most : Nat) (out : List Int) (p : Nat) : Ext (storedF bs most out p) (storedF (bs ++ m) most out p) := by
  have hl := len_pre bs m
  by_cases h1 : 8 * bs.length < alignF p + 16
  · rw [show storedF bs most out p = (out, 0, 55) by unfold storedF; rw [if_pos h1]]; exact Ext.fin (storedF_grow _ _ _ _)
  by_cases h2 : 8 * bs.length < alignF p + 32
  · rw [show storedF bs most out p = (out, 0, 55) by unfold storedF; rw [if_neg h1, if_pos h2]]; exact Ext.fin (storedF_grow _ _ _ _)
  unfold storedF
  rw [if_neg h1, if_neg h2, if_neg (show ¬ 8 * (bs ++ m).length < alignF p + 16 by omega), if_neg (show ¬ 8 * (bs ++ m).length < alignF p + 32 by omega), numB_pre bs m (alignF p) 16 (by omega), numB_pre bs m (alignF p + 16) 16 (by omega)]
  split
  · exact Ext.same rfl
  · exact storF_ext _ _ _ _ _ _
theorem copyF_ext (dist bs m : List Int) (most s : Nat) (out : List Int) (p : Nat) : Ext (copyF dist bs most s out p) (copyF dist (bs ++ m) most s out p) := by
  have hl := len_pre bs m
  by_cases h1 : 285 < s
  · unfold copyF; rw [if_pos h1, if_pos h1]; exact Ext.same rfl
  by_cases h2 : 8 * bs.length < p + lenK s
  · rw [show copyF dist bs most s out p = (out, 0, 55) by unfold copyF; rw [if_neg h1, if_pos h2]]; exact Ext.fin (copyF_grow _ _ _ _ _ _)
  by_cases h3 : anyUsed dist = false
  · unfold copyF; rw [if_neg h1, if_neg h2, if_pos h3, if_neg h1, if_neg (by omega), if_pos h3]; exact Ext.same rfl
  by_cases h4 : (decF dist bs (p + lenK s)).2.1 = 10
  · rw [show copyF dist bs most s out p = (out, 0, 55) by unfold copyF; rw [if_neg h1, if_neg h2, if_neg h3, if_pos (by rw [h4]; decide), h4]; rfl]; exact Ext.fin (copyF_grow _ _ _ _ _ _)
  have hd := decF_pre dist bs m (p + lenK s) h4
  by_cases h5 : (decF dist bs (p + lenK s)).2.1 ≠ 0
  · unfold copyF; rw [hd, if_neg h1, if_neg h2, if_neg h3, if_pos h5, if_neg h1, if_neg (by omega), if_neg h3, if_pos h5]; exact Ext.same rfl
  by_cases h6 : 29 < (decF dist bs (p + lenK s)).1
  · unfold copyF; rw [hd, if_neg h1, if_neg h2, if_neg h3, if_neg h5, if_pos h6, if_neg h1, if_neg (by omega), if_neg h3, if_neg h5, if_pos h6]; exact Ext.same rfl
  by_cases h7 : 8 * bs.length < p + lenK s + (decF dist bs (p + lenK s)).2.2 + distK (decF dist bs (p + lenK s)).1.toNat
  · rw [show copyF dist bs most s out p = (out, 0, 55) by unfold copyF; rw [if_neg h1, if_neg h2, if_neg h3, if_neg h5, if_neg h6, if_pos h7]]; exact Ext.fin (copyF_grow _ _ _ _ _ _)
  refine Ext.same ?_
  unfold copyF
  rw [hd, if_neg h1, if_neg (show ¬ 8 * (bs ++ m).length < p + lenK s by omega), if_neg h3, if_neg h5, if_neg h6, if_neg (show ¬ 8 * (bs ++ m).length < p + lenK s + (decF dist bs (p + lenK s)).2.2 + distK (decF dist bs (p + lenK s)).1.toNat by omega), if_neg h1, if_neg h2, if_neg h3, if_neg h5, if_neg h6, if_neg h7,
    numB_pre bs m p (lenK s) (by omega), numB_pre bs m _ (distK (decF dist bs (p + lenK s)).1.toNat) (by omega)]
theorem symF_ext (lit dist bs m : List Int) (most : Nat) : ∀ f f' out p, p ≤ 8 * bs.length → 8 * bs.length - p < f → 8 * (bs ++ m).length - p < f' → Ext (symF lit dist bs most f out p) (symF lit dist (bs ++ m) most f' out p)
  | 0, f', out, p, _, h, _ => by omega
  | f + 1, 0, out, p, _, _, h => by omega
  | f + 1, f' + 1, out, p, hp, hf, hf' => by
    have hl := len_pre bs m
    by_cases h4 : (decF lit bs p).2.1 = 10
    · rw [show symF lit dist bs most (f + 1) out p = (out, 0, 55) by rw [symF, if_pos (by rw [h4]; decide), h4]; rfl]; exact Ext.fin (symF_grow _ _ _ _ _ _ _)
    have hd := decF_pre lit bs m p h4
    rw [symF, symF, hd]
    by_cases h5 : (decF lit bs p).2.1 ≠ 0
    · rw [if_pos h5, if_pos h5]; exact Ext.same rfl
    rw [if_neg h5, if_neg h5]
    obtain ⟨a1, a2, -⟩ := dec_adv lit bs p hp (by omega)
    by_cases h6 : (decF lit bs p).1 = 256
    · rw [if_pos h6, if_pos h6]; exact Ext.same rfl
    rw [if_neg h6, if_neg h6]
    by_cases h7 : (decF lit bs p).1 < 256
    · rw [if_pos h7, if_pos h7]
      split
      · exact Ext.same rfl
      · exact symF_ext lit dist bs m most f f' _ _ a2 (by omega) (by omega)
    rw [if_neg h7, if_neg h7]
    have hc := copyF_ext dist bs m most (decF lit bs p).1.toNat out (p + (decF lit bs p).2.2)
    by_cases h8 : (copyF dist bs most (decF lit bs p).1.toNat out (p + (decF lit bs p).2.2)).2.2 = 55
    · rw [if_pos (show (copyF dist bs most (decF lit bs p).1.toNat out (p + (decF lit bs p).2.2)).2.2 ≠ 0 by rw [h8]; decide)]
      refine ⟨fun h => absurd h8 h, fun _ => ?_⟩
      split
      · exact hc.2 h8
      · exact (hc.2 h8).trans (symF_grow _ _ _ _ _ _ _)
    rw [hc.1 h8]
    split
    · exact Ext.same rfl
    · next h9 =>
      obtain ⟨b1, b2⟩ := copyF_pos dist bs most (decF lit bs p).1.toNat out _ a2 (by omega)
      exact symF_ext lit dist bs m most f f' _ _ b2 (by omega) (by omega)
/-! Heads. -/
theorem cL_pre (bs m : List Int) (p : Nat) : ∀ k, p + 3 * k ≤ 8 * bs.length → cL (bs ++ m) p k = cL bs p k
  | 0, _ => rfl
  | k + 1, h => by rw [cL, cL, cL_pre bs m p k (by omega), numB_pre _ _ _ _ (by omega)]
theorem stepsF_pre (codes bs m : List Int) (N : Int) : ∀ f l q, (stepsF codes bs N f l q).2.2 ≠ 10 → stepsF codes (bs ++ m) N f l q = stepsF codes bs N f l q
  | 0, l, q, _ => rfl
  | f + 1, l, q, h => by
    have hl := len_pre bs m
    by_cases h1 : N ≤ l.length
    · rw [stepsF, if_pos h1, stepsF, if_pos h1]
    rw [stepsF, if_neg h1] at h
    rw [stepsF, if_neg h1, stepsF, if_neg h1]
    by_cases h2 : (decF codes bs q).2.1 ≠ 0
    · rw [if_pos h2] at h
      rw [decF_pre codes bs m q h, if_pos h2, if_pos h2]
    rw [if_neg h2] at h
    rw [decF_pre codes bs m q (by omega), if_neg h2]
    by_cases h3 : 8 * bs.length < q + (decF codes bs q).2.2 + wN (decF codes bs q).1
    · rw [if_pos h3] at h; exact absurd rfl h
    rw [if_neg h3] at h
    rw [if_neg h3, if_neg (by omega), if_neg h2, numB_pre _ _ _ _ (by omega)]
    split at h
    · rfl
    · next l' ha => exact stepsF_pre codes bs m N f l' _ h
theorem stepsF_cut (codes bs m : List Int) (N : Int) : ∀ f l q, (stepsF codes (bs ++ m) N f l q).2.2 = 0 → q ≤ (stepsF codes (bs ++ m) N f l q).2.1 ∧ ((stepsF codes (bs ++ m) N f l q).2.1 ≤ 8 * bs.length → stepsF codes bs N f l q = stepsF codes (bs ++ m) N f l q)
  | 0, l, q, _ => ⟨Nat.le_refl _, fun _ => rfl⟩
  | f + 1, l, q, h => by
    by_cases h1 : N ≤ l.length
    · rw [stepsF, if_pos h1, stepsF, if_pos h1]; exact ⟨Nat.le_refl _, fun _ => rfl⟩
    rw [stepsF, if_neg h1] at h
    rw [stepsF, if_neg h1, stepsF, if_neg h1]
    by_cases h2 : (decF codes (bs ++ m) q).2.1 ≠ 0
    · rw [if_pos h2] at h; exact absurd h h2
    rw [if_neg h2] at h ⊢
    by_cases h3 : 8 * (bs ++ m).length < q + (decF codes (bs ++ m) q).2.2 + wN (decF codes (bs ++ m) q).1
    · rw [if_pos h3] at h; simp at h
    rw [if_neg h3] at h ⊢
    split at h
    · simp at h
    · next l' ha =>
      obtain ⟨a, b⟩ := stepsF_cut codes bs m N f l' _ h
      refine ⟨by omega, fun hp => ?_⟩
      have hd := decF_cut codes bs m q (by omega) (by omega)
      rw [hd, if_neg h2, if_neg (by omega), ← numB_pre bs m _ _ (by omega), ha]
      exact b hp
theorem headF_pre (bs m : List Int) (p : Nat) (h : (headF bs p).2.2.2 ≠ 10) : headF (bs ++ m) p = headF bs p := by
  have hl := len_pre bs m
  unfold headF at h
  by_cases h1 : 8 * bs.length < p + 14
  · rw [if_pos h1] at h; exact absurd rfl h
  rw [if_neg h1] at h
  have n1 := numB_pre bs m p 5 (by omega)
  have n2 := numB_pre bs m (p + 5) 5 (by omega)
  have em : manyF (bs ++ m) p = manyF bs p := by unfold manyF; rw [numB_pre _ _ _ _ (by omega)]
  have el : litF (bs ++ m) p = litF bs p := by unfold litF; rw [n1]
  have ed : distF (bs ++ m) p = distF bs p := by unfold distF; rw [n2]
  unfold headF
  rw [if_neg h1, if_neg (show ¬ 8 * (bs ++ m).length < p + 14 by omega), n1, n2, em]
  by_cases h2 : 29 < numB bs p 5 ∨ 29 < numB bs (p + 5) 5
  · rw [if_pos h2, if_pos h2]
  rw [if_neg h2] at h
  rw [if_neg h2, if_neg h2]
  by_cases h3 : 8 * bs.length < p + 14 + 3 * manyF bs p
  · rw [if_pos h3] at h; exact absurd rfl h
  rw [if_neg h3] at h
  rw [if_neg h3, if_neg (by omega)]
  have ec : codesH (bs ++ m) p = codesH bs p := by unfold codesH; rw [em, cL_pre _ _ _ _ (by omega)]
  rw [ec]
  by_cases h4 : checkF (codesH bs p) ≠ 0
  · rw [if_pos h4, if_pos h4]
  rw [if_neg h4] at h
  rw [if_neg h4, if_neg h4]
  have er : (readR bs p).2.2 ≠ 10 → readR (bs ++ m) p = readR bs p := fun hr => by
    unfold readR; rw [ec, el, ed, em]; exact stepsF_pre _ _ _ _ _ _ _ hr
  by_cases h5 : (readR bs p).2.2 ≠ 0
  · rw [if_pos h5] at h
    rw [er h, if_pos h5, if_pos h5]
  · rw [er (by omega), el]
theorem headF_cut (bs m : List Int) (p : Nat) (h : (headF (bs ++ m) p).2.2.2 = 0) (hp : p + (headF (bs ++ m) p).2.2.1 ≤ 8 * bs.length) : headF bs p = headF (bs ++ m) p := by
  have hl := len_pre bs m
  unfold headF at h hp
  by_cases h1 : 8 * (bs ++ m).length < p + 14
  · rw [if_pos h1] at h; simp at h
  rw [if_neg h1] at h hp
  by_cases h2 : 29 < numB (bs ++ m) p 5 ∨ 29 < numB (bs ++ m) (p + 5) 5
  · rw [if_pos h2] at h; simp at h
  rw [if_neg h2] at h hp
  by_cases h3 : 8 * (bs ++ m).length < p + 14 + 3 * manyF (bs ++ m) p
  · rw [if_pos h3] at h; simp at h
  rw [if_neg h3] at h hp
  by_cases h4 : checkF (codesH (bs ++ m) p) ≠ 0
  · rw [if_pos h4] at h; exact absurd h h4
  rw [if_neg h4] at h hp
  by_cases h5 : (readR (bs ++ m) p).2.2 ≠ 0
  · rw [if_pos h5] at h; exact absurd h h5
  rw [if_neg h5] at h hp
  obtain ⟨a, b⟩ := stepsF_cut (codesH (bs ++ m) p) bs m ((litF (bs ++ m) p + distF (bs ++ m) p : Nat) : Int) (litF (bs ++ m) p + distF (bs ++ m) p) [] (p + 14 + 3 * manyF (bs ++ m) p) (by
    have : (readR (bs ++ m) p).2.2 = 0 := by omega
    exact this)
  change _ ≤ (readR (bs ++ m) p).2.1 at a
  change (readR (bs ++ m) p).2.1 ≤ _ → _ = readR (bs ++ m) p at b
  simp only [] at hp
  have hq : (readR (bs ++ m) p).2.1 ≤ 8 * bs.length := by omega
  have n1 := numB_pre bs m p 5 (by omega)
  have n2 := numB_pre bs m (p + 5) 5 (by omega)
  have em : manyF (bs ++ m) p = manyF bs p := by unfold manyF; rw [numB_pre _ _ _ _ (by omega)]
  have el : litF (bs ++ m) p = litF bs p := by unfold litF; rw [n1]
  have ed : distF (bs ++ m) p = distF bs p := by unfold distF; rw [n2]
  have ec : codesH (bs ++ m) p = codesH bs p := by unfold codesH; rw [em, cL_pre _ _ _ _ (by omega)]
  have er : readR bs p = readR (bs ++ m) p := by rw [← b hq, ec, el, ed, em]; rfl
  refine (headF_pre bs m p ?_).symm
  unfold headF
  rw [if_neg (by omega), ← n1, ← n2, if_neg h2, ← em, if_neg (by omega), ← ec, if_neg h4, er, if_neg h5]
  exact (by decide : (0 : Int) ≠ 10)
theorem headF_adv (bs : List Int) (p : Nat) (h : (headF bs p).2.2.2 = 0) : p + (headF bs p).2.2.1 ≤ 8 * bs.length := by
  have hm : ∀ f l q, q ≤ 8 * bs.length → (stepsF (codesH bs p) bs ((litF bs p + distF bs p : Nat) : Int) f l q).2.2 = 0 → (stepsF (codesH bs p) bs ((litF bs p + distF bs p : Nat) : Int) f l q).2.1 ≤ 8 * bs.length := by
    intro f
    induction f with
    | zero => intro l q hq _; exact hq
    | succ f ih =>
      intro l q hq h
      rw [stepsF] at h ⊢
      split
      · exact hq
      next h1 =>
      rw [if_neg h1] at h
      split
      · exact hq
      next h2 =>
      rw [if_neg h2] at h
      split
      · exact hq
      next h3 =>
      rw [if_neg h3] at h
      split
      · exact hq
      · next l' ha => rw [ha] at h; exact ih l' _ (by omega) h
  unfold headF at h ⊢
  split
  · next h1 => rw [if_pos h1] at h; simp at h
  next h1 =>
  rw [if_neg h1] at h
  split
  · next h2 => rw [if_pos h2] at h; simp at h
  next h2 =>
  rw [if_neg h2] at h
  split
  · next h3 => rw [if_pos h3] at h; simp at h
  next h3 =>
  rw [if_neg h3] at h
  split
  · next h4 => rw [if_pos h4] at h; exact absurd h h4
  next h4 =>
  rw [if_neg h4] at h
  split
  · next h5 => rw [if_pos h5] at h; exact absurd h h5
  · next h5 =>
    have := hm (litF bs p + distF bs p) [] (p + 14 + 3 * manyF bs p) (by omega) (by have : (readR bs p).2.2 = 0 := by omega
                                                                                    exact this)
    change (readR bs p).2.1 ≤ _ at this
    simp only []
    omega
/-! Blocks. -/
theorem codesE_zero {h : List Int × List Int × Nat × Int} (he : codesE h = 0) : h.2.2.2 = 0 := by
  unfold codesE at he
  split at he
  · next h1 => exact endF_zero (by decide) he
  · omega
theorem codesE_55 {h : List Int × List Int × Nat × Int} (he : codesE h = 55) : h.2.2.2 = 10 := by
  unfold codesE at he
  split at he
  · exact end55 (by decide) he
  · repeat' split at he
    all_goals simp at he
theorem blockF_pos (bs : List Int) (most : Nat) (kind : Int) (out : List Int) (p : Nat) (hp : p ≤ 8 * bs.length) (h : (blockF bs most kind out p).2.2 = 0) : p ≤ (blockF bs most kind out p).2.1 ∧ (blockF bs most kind out p).2.1 ≤ 8 * bs.length := by
  unfold blockF at h ⊢
  split
  · next h1 => rw [if_pos h1] at h; exact storedF_pos _ _ _ _ h
  next h1 =>
  rw [if_neg h1] at h
  split
  · next h2 => rw [if_pos h2] at h; exact symF_pos _ _ _ _ _ _ _ hp h
  next h2 =>
  rw [if_neg h2] at h
  split
  · next h3 =>
    rw [if_pos h3] at h
    split
    · next h4 => rw [if_pos h4] at h; exact absurd h h4
    · next h4 =>
      rw [if_neg h4] at h
      have ha := headF_adv bs p (codesE_zero (by omega))
      have := symF_pos _ _ _ _ _ _ _ ha h
      omega
  · next h3 => rw [if_neg h3] at h; simp at h
theorem blockF_ext (bs m : List Int) (most : Nat) (kind : Int) (out : List Int) (p : Nat) (hp : p ≤ 8 * bs.length) : Ext (blockF bs most kind out p) (blockF (bs ++ m) most kind out p) := by
  unfold blockF
  split
  · exact storedF_ext _ _ _ _ _
  split
  · exact symF_ext _ _ _ _ _ _ _ _ _ hp (by omega) (by omega)
  split
  · by_cases h1 : (headF bs p).2.2.2 = 10
    · have he : codesE (headF bs p) = 55 := by unfold codesE; rw [if_pos (by rw [h1]; decide), h1]; rfl
      rw [if_pos (by rw [he]; decide), he]
      refine Ext.fin ?_
      split
      · exact List.prefix_refl _
      · exact symF_grow _ _ _ _ _ _ _
    · rw [headF_pre bs m p h1]
      split
      · exact Ext.same rfl
      · next h2 =>
        have ha := headF_adv bs p (codesE_zero (by omega))
        exact symF_ext _ _ _ _ _ _ _ _ _ ha (by omega) (by omega)
  · exact Ext.same rfl
theorem blksF_ext (bs m : List Int) (most : Nat) : ∀ f f' out p, p ≤ 8 * bs.length → 8 * bs.length - p < f → 8 * (bs ++ m).length - p < f' → Ext (blksF bs most f out p) (blksF (bs ++ m) most f' out p)
  | 0, f', out, p, _, h, _ => by omega
  | f + 1, 0, out, p, _, _, h => by omega
  | f + 1, f' + 1, out, p, hp, hf, hf' => by
    have hl := len_pre bs m
    by_cases h1 : 8 * bs.length < p + 1
    · rw [blksF, if_pos h1]; exact Ext.fin (blksF_grow _ _ _ _ _)
    by_cases h2 : 8 * bs.length < p + 3
    · rw [blksF, if_neg h1, if_pos h2]; exact Ext.fin (blksF_grow _ _ _ _ _)
    rw [blksF, blksF, if_neg h1, if_neg h2, if_neg (show ¬ 8 * (bs ++ m).length < p + 1 by omega), if_neg (show ¬ 8 * (bs ++ m).length < p + 3 by omega), numB_pre bs m (p + 1) 2 (by omega), numB_pre bs m p 1 (by omega)]
    have hb := blockF_ext bs m most (numB bs (p + 1) 2) out (p + 3) (by omega)
    by_cases h8 : (blockF bs most (numB bs (p + 1) 2) out (p + 3)).2.2 = 55
    · rw [if_pos (show (blockF bs most (numB bs (p + 1) 2) out (p + 3)).2.2 ≠ 0 by rw [h8]; decide)]
      refine ⟨fun h => absurd h8 h, fun _ => ?_⟩
      split
      · exact hb.2 h8
      split
      · exact (hb.2 h8).trans (blksF_grow _ _ _ _ _)
      · exact hb.2 h8
    rw [hb.1 h8]
    split
    · exact Ext.same rfl
    · next h9 =>
      obtain ⟨b1, b2⟩ := blockF_pos bs most (numB bs (p + 1) 2) out (p + 3) (by omega) (by omega)
      split
      · exact blksF_ext bs m most f f' _ _ b2 (by omega) (by omega)
      · exact Ext.same rfl
theorem inflF_ext (bs m : List Int) (most : Nat) : Ext (inflF bs most) (inflF (bs ++ m) most) := blksF_ext bs m most _ _ _ _ (by omega) (by omega) (by omega)
theorem blksF_pos (bs : List Int) (most : Nat) : ∀ f out p, p ≤ 8 * bs.length → (blksF bs most f out p).2.2 = 0 → p ≤ (blksF bs most f out p).2.1 ∧ (blksF bs most f out p).2.1 ≤ 8 * bs.length
  | 0, out, p, hp, h => by simp [blksF] at h
  | f + 1, out, p, hp, h => by
    rw [blksF] at h ⊢
    split
    · next h1 => rw [if_pos h1] at h; simp at h
    next h1 =>
    rw [if_neg h1] at h
    split
    · next h2 => rw [if_pos h2] at h; simp at h
    next h2 =>
    rw [if_neg h2] at h
    split
    · next h3 => rw [if_pos h3] at h; exact absurd h h3
    next h3 =>
    rw [if_neg h3] at h
    obtain ⟨b1, b2⟩ := blockF_pos bs most (numB bs (p + 1) 2) out (p + 3) (by omega) (by omega)
    split
    · next h4 =>
      rw [if_pos h4] at h
      have := blksF_pos bs most f _ _ b2 h
      omega
    · omega
theorem inflF_pos (bs : List Int) (most : Nat) (h : (inflF bs most).2.2 = 0) : (inflF bs most).2.1 ≤ 8 * bs.length := (blksF_pos bs most _ _ _ (Nat.zero_le _) h).2
end Go.Proofs.YtkpabdjniiepkaaGreatDoor

set_option linter.unusedVariables false
set_option linter.unusedSimpArgs false
/-! Plain: what is inflated needs no more bytes than it takes; a limit that is not met does not matter. -/
namespace Go.Proofs.YtkpabdjniiepkaaGreatDoor
theorem storF_cut (bs m : List Int) (most : Nat) : ∀ n out p, (storF (bs ++ m) most n out p).2.2 = 0 → p ≤ 8 * bs.length → (storF (bs ++ m) most n out p).2.1 ≤ 8 * bs.length → storF bs most n out p = storF (bs ++ m) most n out p
  | 0, out, p, _, _, _ => rfl
  | n + 1, out, p, h, hp, hq => by
    have hl := len_pre bs m
    rw [storF] at h hq
    by_cases h1 : 8 * (bs ++ m).length < p + 8
    · rw [if_pos h1] at h; simp at h
    rw [if_neg h1] at h hq
    by_cases h2 : most ≤ out.length
    · rw [if_pos h2] at h; simp at h
    rw [if_neg h2] at h hq
    have := storF_pos (bs ++ m) most n _ (p + 8) (by omega) h
    rw [storF, storF, if_neg h1, if_neg (show ¬ 8 * bs.length < p + 8 by omega), if_neg h2, if_neg h2, ← numB_pre bs m p 8 (by omega)]
    exact storF_cut bs m most n _ _ h (by omega) hq
theorem storedF_cut (bs m : List Int) (most : Nat) (out : List Int) (p : Nat) (h : (storedF (bs ++ m) most out p).2.2 = 0) (hq : (storedF (bs ++ m) most out p).2.1 ≤ 8 * bs.length) : storedF bs most out p = storedF (bs ++ m) most out p := by
  have hl := len_pre bs m
  unfold storedF at h hq
  by_cases h1 : 8 * (bs ++ m).length < alignF p + 16
  · rw [if_pos h1] at h; simp at h
  rw [if_neg h1] at h hq
  by_cases h2 : 8 * (bs ++ m).length < alignF p + 32
  · rw [if_pos h2] at h; simp at h
  rw [if_neg h2] at h hq
  by_cases h3 : numB (bs ++ m) (alignF p) 16 + numB (bs ++ m) (alignF p + 16) 16 ≠ 65535
  · rw [if_pos h3] at h; simp at h
  rw [if_neg h3] at h hq
  have := storF_pos (bs ++ m) most _ _ (alignF p + 32) (by omega) h
  unfold storedF
  rw [if_neg h1, if_neg h2, if_neg h3, if_neg (by omega), if_neg (by omega), ← numB_pre bs m (alignF p) 16 (by omega), ← numB_pre bs m (alignF p + 16) 16 (by omega), if_neg h3]
  exact storF_cut bs m most _ _ _ h (by omega) hq
theorem copyF_cut (dist bs m : List Int) (most s : Nat) (out : List Int) (p : Nat) (h : (copyF dist (bs ++ m) most s out p).2.2 = 0) (hq : (copyF dist (bs ++ m) most s out p).2.1 ≤ 8 * bs.length) : copyF dist bs most s out p = copyF dist (bs ++ m) most s out p := by
  have hl := len_pre bs m
  unfold copyF at h hq
  by_cases h1 : 285 < s
  · rw [if_pos h1] at h; simp at h
  rw [if_neg h1] at h hq
  by_cases h2 : 8 * (bs ++ m).length < p + lenK s
  · rw [if_pos h2] at h; simp at h
  rw [if_neg h2] at h hq
  by_cases h3 : anyUsed dist = false
  · rw [if_pos h3] at h; simp at h
  rw [if_neg h3] at h hq
  by_cases h4 : (decF dist (bs ++ m) (p + lenK s)).2.1 ≠ 0
  · rw [if_pos h4] at h; exact absurd (endF_zero (by decide) h) h4
  rw [if_neg h4] at h hq
  by_cases h5 : 29 < (decF dist (bs ++ m) (p + lenK s)).1
  · rw [if_pos h5] at h; simp at h
  rw [if_neg h5] at h hq
  by_cases h6 : 8 * (bs ++ m).length < p + lenK s + (decF dist (bs ++ m) (p + lenK s)).2.2 + distK (decF dist (bs ++ m) (p + lenK s)).1.toNat
  · rw [if_pos h6] at h; simp at h
  rw [if_neg h6] at h hq
  have hk : p + lenK s + (decF dist (bs ++ m) (p + lenK s)).2.2 + distK (decF dist (bs ++ m) (p + lenK s)).1.toNat ≤ 8 * bs.length := by
    split at h
    · simp at h
    next h7 =>
    rw [if_neg h7] at hq
    split at h
    · simp at h
    next h8 =>
    rw [if_neg h8] at hq
    exact hq
  have hd := decF_cut dist bs m (p + lenK s) (by omega) (by omega)
  unfold copyF
  rw [hd, if_neg h1, if_neg h2, if_neg h3, if_neg h4, if_neg h5, if_neg h6, if_neg h1, if_neg (show ¬ 8 * bs.length < p + lenK s by omega), if_neg h3, if_neg h4, if_neg h5,
    if_neg (show ¬ 8 * bs.length < p + lenK s + (decF dist (bs ++ m) (p + lenK s)).2.2 + distK (decF dist (bs ++ m) (p + lenK s)).1.toNat by omega),
    numB_pre bs m p (lenK s) (by omega), numB_pre bs m _ (distK (decF dist (bs ++ m) (p + lenK s)).1.toNat) (by omega)]
theorem symF_cut (lit dist bs m : List Int) (most : Nat) : ∀ f f' out p, p ≤ 8 * bs.length → 8 * bs.length - p < f → 8 * (bs ++ m).length - p < f' → (symF lit dist (bs ++ m) most f' out p).2.2 = 0 → (symF lit dist (bs ++ m) most f' out p).2.1 ≤ 8 * bs.length →
    symF lit dist bs most f out p = symF lit dist (bs ++ m) most f' out p
  | 0, f', out, p, _, h, _, _, _ => by omega
  | f + 1, 0, out, p, _, _, h, _, _ => by omega
  | f + 1, f' + 1, out, p, hp, hf, hf', h, hq => by
    have hl := len_pre bs m
    rw [symF] at h hq
    by_cases h1 : (decF lit (bs ++ m) p).2.1 ≠ 0
    · rw [if_pos h1] at h; exact absurd (endF_zero (by decide) h) h1
    rw [if_neg h1] at h hq
    obtain ⟨a1, a2, -⟩ := dec_adv lit (bs ++ m) p (by omega) (by omega)
    have key : p + (decF lit (bs ++ m) p).2.2 ≤ 8 * bs.length → decF lit bs p = decF lit (bs ++ m) p := fun hk => decF_cut lit bs m p (by omega) hk
    by_cases h2 : (decF lit (bs ++ m) p).1 = 256
    · rw [if_pos h2] at h hq
      rw [symF, symF, key hq, if_neg h1, if_neg h1, if_pos h2, if_pos h2]
    rw [if_neg h2] at h hq
    by_cases h3 : (decF lit (bs ++ m) p).1 < 256
    · rw [if_pos h3] at h hq
      by_cases h4 : most ≤ out.length
      · rw [if_pos h4] at h; simp at h
      rw [if_neg h4] at h hq
      have := symF_pos lit dist (bs ++ m) most f' _ _ a2 h
      rw [symF, symF, key (by omega), if_neg h1, if_neg h1, if_neg h2, if_neg h2, if_pos h3, if_pos h3, if_neg h4, if_neg h4]
      exact symF_cut lit dist bs m most f f' _ _ (by omega) (by omega) (by omega) h hq
    rw [if_neg h3] at h hq
    by_cases h5 : (copyF dist (bs ++ m) most (decF lit (bs ++ m) p).1.toNat out (p + (decF lit (bs ++ m) p).2.2)).2.2 ≠ 0
    · rw [if_pos h5] at h; exact absurd h h5
    rw [if_neg h5] at h hq
    obtain ⟨b1, b2⟩ := copyF_pos dist (bs ++ m) most (decF lit (bs ++ m) p).1.toNat out _ a2 (by omega)
    have := symF_pos lit dist (bs ++ m) most f' _ _ b2 h
    have hc := copyF_cut dist bs m most (decF lit (bs ++ m) p).1.toNat out (p + (decF lit (bs ++ m) p).2.2) (by omega) (by omega)
    rw [symF, symF, key (by omega), if_neg h1, if_neg h1, if_neg h2, if_neg h2, if_neg h3, if_neg h3, hc, if_neg h5, if_neg h5]
    exact symF_cut lit dist bs m most f f' _ _ (by omega) (by omega) (by omega) h hq
theorem blockF_cut (bs m : List Int) (most : Nat) (kind : Int) (out : List Int) (p : Nat) (hp : p ≤ 8 * bs.length) (h : (blockF (bs ++ m) most kind out p).2.2 = 0) (hq : (blockF (bs ++ m) most kind out p).2.1 ≤ 8 * bs.length) :
    blockF bs most kind out p = blockF (bs ++ m) most kind out p := by
  have hl := len_pre bs m
  unfold blockF at h hq
  by_cases h1 : kind = 0
  · rw [if_pos h1] at h hq
    unfold blockF
    rw [if_pos h1, if_pos h1]; exact storedF_cut bs m most out p h hq
  rw [if_neg h1] at h hq
  by_cases h2 : kind = 1
  · rw [if_pos h2] at h hq
    unfold blockF
    rw [if_neg h1, if_neg h1, if_pos h2, if_pos h2]; exact symF_cut _ _ bs m most _ _ out p hp (by omega) (by omega) h hq
  rw [if_neg h2] at h hq
  by_cases h3 : kind = 2
  · rw [if_pos h3] at h hq
    by_cases h4 : codesE (headF (bs ++ m) p) ≠ 0
    · rw [if_pos h4] at h; exact absurd h h4
    rw [if_neg h4] at h hq
    have ha := headF_adv (bs ++ m) p (codesE_zero (by omega))
    have := symF_pos _ _ _ _ _ _ _ ha h
    have hc := headF_cut bs m p (codesE_zero (by omega)) (by omega)
    unfold blockF
    rw [if_neg h1, if_neg h1, if_neg h2, if_neg h2, if_pos h3, if_pos h3, hc, if_neg h4, if_neg h4]
    exact symF_cut _ _ bs m most _ _ out _ (by omega) (by omega) (by omega) h hq
  · rw [if_neg h3] at h; simp at h
theorem blksF_cut (bs m : List Int) (most : Nat) : ∀ f f' out p, p ≤ 8 * bs.length → 8 * bs.length - p < f → 8 * (bs ++ m).length - p < f' → (blksF (bs ++ m) most f' out p).2.2 = 0 → (blksF (bs ++ m) most f' out p).2.1 ≤ 8 * bs.length →
    blksF bs most f out p = blksF (bs ++ m) most f' out p
  | 0, f', out, p, _, h, _, _, _ => by omega
  | f + 1, 0, out, p, _, _, h, _, _ => by omega
  | f + 1, f' + 1, out, p, hp, hf, hf', h, hq => by
    have hl := len_pre bs m
    rw [blksF] at h hq
    by_cases h1 : 8 * (bs ++ m).length < p + 1
    · rw [if_pos h1] at h; simp at h
    rw [if_neg h1] at h hq
    by_cases h2 : 8 * (bs ++ m).length < p + 3
    · rw [if_pos h2] at h; simp at h
    rw [if_neg h2] at h hq
    by_cases h3 : (blockF (bs ++ m) most (numB (bs ++ m) (p + 1) 2) out (p + 3)).2.2 ≠ 0
    · rw [if_pos h3] at h; exact absurd h h3
    rw [if_neg h3] at h hq
    obtain ⟨b1, b2⟩ := blockF_pos (bs ++ m) most (numB (bs ++ m) (p + 1) 2) out (p + 3) (by omega) (by omega)
    have hk : (blockF (bs ++ m) most (numB (bs ++ m) (p + 1) 2) out (p + 3)).2.1 ≤ 8 * bs.length := by
      split at h
      · next h4 =>
        rw [if_pos h4] at hq
        have := blksF_pos (bs ++ m) most f' _ _ b2 h
        omega
      · next h4 => rw [if_neg h4] at hq; exact hq
    have hb := blockF_cut bs m most (numB (bs ++ m) (p + 1) 2) out (p + 3) (by omega) (by omega) hk
    rw [blksF, blksF, if_neg h1, if_neg h2, if_neg (show ¬ 8 * bs.length < p + 1 by omega), if_neg (show ¬ 8 * bs.length < p + 3 by omega), ← numB_pre bs m (p + 1) 2 (by omega), ← numB_pre bs m p 1 (by omega), hb, if_neg h3, if_neg h3]
    by_cases h4 : numB (bs ++ m) p 1 = 0
    · rw [if_pos h4] at h hq
      rw [if_pos h4, if_pos h4]
      exact blksF_cut bs m most f f' _ _ hk (by omega) (by omega) h hq
    · rw [if_neg h4, if_neg h4]
theorem inflF_cut (bs m : List Int) (most : Nat) (h : (inflF (bs ++ m) most).2.2 = 0) (hq : (inflF (bs ++ m) most).2.1 ≤ 8 * bs.length) : inflF bs most = inflF (bs ++ m) most :=
  blksF_cut bs m most _ _ _ _ (Nat.zero_le _) (by omega) (by omega) h hq
/-! Limits. -/
theorem grow_lt {out r : List Int} {x : Int} {M : Nat} (h : out ++ [x] <+: r) (hM : r.length ≤ M) : ¬ M ≤ out.length := by
  have := h.length_le
  rw [List.length_append, List.length_singleton] at this
  omega
theorem storF_most (bs : List Int) (most M : Nat) : ∀ n out p, (storF bs most n out p).2.2 = 0 → (storF bs most n out p).1.length ≤ M → storF bs M n out p = storF bs most n out p
  | 0, out, p, _, _ => rfl
  | n + 1, out, p, h, hM => by
    rw [storF] at h hM
    rw [storF, storF]
    split
    · rfl
    next h1 =>
    rw [if_neg h1] at h hM
    by_cases h2 : most ≤ out.length
    · rw [if_pos h2] at h; simp at h
    rw [if_neg h2] at h hM
    rw [if_neg h2, if_neg (grow_lt (storF_grow _ _ _ _ _) hM)]
    exact storF_most bs most M n _ _ h hM
theorem layN_most (far most M : Nat) : ∀ n out, (layN far most n out).2 = 0 → (layN far most n out).1.length ≤ M → layN far M n out = layN far most n out
  | 0, out, _, _ => rfl
  | n + 1, out, h, hM => by
    rw [layN] at h hM
    rw [layN, layN]
    by_cases h2 : most ≤ out.length
    · rw [if_pos h2] at h; simp at h
    rw [if_neg h2] at h hM
    rw [if_neg h2, if_neg (grow_lt (layN_grow _ _ _ _) hM)]
    exact layN_most far most M n _ h hM
theorem copyF_most (dist bs : List Int) (most M s : Nat) (out : List Int) (p : Nat) (h : (copyF dist bs most s out p).2.2 = 0) (hM : (copyF dist bs most s out p).1.length ≤ M) : copyF dist bs M s out p = copyF dist bs most s out p := by
  unfold copyF at h hM
  by_cases h1 : 285 < s
  · rw [if_pos h1] at h; simp at h
  rw [if_neg h1] at h hM
  by_cases h2 : 8 * bs.length < p + lenK s
  · rw [if_pos h2] at h; simp at h
  rw [if_neg h2] at h hM
  by_cases h3 : anyUsed dist = false
  · rw [if_pos h3] at h; simp at h
  rw [if_neg h3] at h hM
  by_cases h4 : (decF dist bs (p + lenK s)).2.1 ≠ 0
  · rw [if_pos h4] at h; exact absurd (endF_zero (by decide) h) h4
  rw [if_neg h4] at h hM
  by_cases h5 : 29 < (decF dist bs (p + lenK s)).1
  · rw [if_pos h5] at h; simp at h
  rw [if_neg h5] at h hM
  by_cases h6 : 8 * bs.length < p + lenK s + (decF dist bs (p + lenK s)).2.2 + distK (decF dist bs (p + lenK s)).1.toNat
  · rw [if_pos h6] at h; simp at h
  rw [if_neg h6] at h hM
  unfold copyF
  rw [if_neg h1, if_neg h2, if_neg h3, if_neg h4, if_neg h5, if_neg h6, if_neg h1, if_neg h2, if_neg h3, if_neg h4, if_neg h5, if_neg h6]
  split
  · rfl
  next h7 =>
  rw [if_neg h7] at h hM
  generalize ((distBase (decF dist bs (p + lenK s)).1.toNat : Int) + numB bs (p + lenK s + (decF dist bs (p + lenK s)).2.2) (distK (decF dist bs (p + lenK s)).1.toNat)).toNat = far at *
  generalize lenBase s + (numB bs p (lenK s)).toNat = n at *
  by_cases h8 : (layN far most n out).2 ≠ 0
  · rw [if_pos h8] at h; simp at h
  rw [if_neg h8] at hM
  rw [layN_most far most M n out (by omega) hM]
theorem symF_most (lit dist bs : List Int) (most M : Nat) : ∀ f out p, (symF lit dist bs most f out p).2.2 = 0 → (symF lit dist bs most f out p).1.length ≤ M → symF lit dist bs M f out p = symF lit dist bs most f out p
  | 0, out, p, _, _ => rfl
  | f + 1, out, p, h, hM => by
    rw [symF] at h hM
    by_cases h1 : (decF lit bs p).2.1 ≠ 0
    · rw [if_pos h1] at h; exact absurd (endF_zero (by decide) h) h1
    rw [if_neg h1] at h hM
    by_cases h2 : (decF lit bs p).1 = 256
    · rw [symF, symF, if_neg h1, if_neg h1, if_pos h2, if_pos h2]
    rw [if_neg h2] at h hM
    by_cases h3 : (decF lit bs p).1 < 256
    · rw [if_pos h3] at h hM
      by_cases h4 : most ≤ out.length
      · rw [if_pos h4] at h; simp at h
      rw [if_neg h4] at h hM
      rw [symF, symF, if_neg h1, if_neg h1, if_neg h2, if_neg h2, if_pos h3, if_pos h3, if_neg h4, if_neg (grow_lt (symF_grow _ _ _ _ _ _ _) hM)]
      exact symF_most lit dist bs most M f _ _ h hM
    rw [if_neg h3] at h hM
    by_cases h5 : (copyF dist bs most (decF lit bs p).1.toNat out (p + (decF lit bs p).2.2)).2.2 ≠ 0
    · rw [if_pos h5] at h; exact absurd h h5
    rw [if_neg h5] at h hM
    have hg := (symF_grow lit dist bs most f (copyF dist bs most (decF lit bs p).1.toNat out (p + (decF lit bs p).2.2)).1 (copyF dist bs most (decF lit bs p).1.toNat out (p + (decF lit bs p).2.2)).2.1).length_le
    have hc := copyF_most dist bs most M (decF lit bs p).1.toNat out (p + (decF lit bs p).2.2) (by omega) (by omega)
    rw [symF, symF, if_neg h1, if_neg h1, if_neg h2, if_neg h2, if_neg h3, if_neg h3, hc, if_neg h5, if_neg h5]
    exact symF_most lit dist bs most M f _ _ h hM
theorem blockF_most (bs : List Int) (most M : Nat) (kind : Int) (out : List Int) (p : Nat) (h : (blockF bs most kind out p).2.2 = 0) (hM : (blockF bs most kind out p).1.length ≤ M) : blockF bs M kind out p = blockF bs most kind out p := by
  unfold blockF at h hM
  by_cases h1 : kind = 0
  · rw [if_pos h1] at h hM
    unfold blockF
    rw [if_pos h1, if_pos h1]
    unfold storedF at h hM ⊢
    split
    · rfl
    next g1 =>
    rw [if_neg g1] at h hM
    split
    · rfl
    next g2 =>
    rw [if_neg g2] at h hM
    split
    · rfl
    next g3 =>
    rw [if_neg g3] at h hM
    exact storF_most bs most M _ _ _ h hM
  rw [if_neg h1] at h hM
  by_cases h2 : kind = 1
  · rw [if_pos h2] at h hM
    unfold blockF
    rw [if_neg h1, if_neg h1, if_pos h2, if_pos h2]; exact symF_most _ _ bs most M _ out p h hM
  rw [if_neg h2] at h hM
  by_cases h3 : kind = 2
  · rw [if_pos h3] at h hM
    by_cases h4 : codesE (headF bs p) ≠ 0
    · rw [if_pos h4] at h; exact absurd h h4
    rw [if_neg h4] at h hM
    unfold blockF
    rw [if_neg h1, if_neg h1, if_neg h2, if_neg h2, if_pos h3, if_pos h3, if_neg h4, if_neg h4]
    exact symF_most _ _ bs most M _ out _ h hM
  · rw [if_neg h3] at h; simp at h
theorem blksF_most (bs : List Int) (most M : Nat) : ∀ f out p, (blksF bs most f out p).2.2 = 0 → (blksF bs most f out p).1.length ≤ M → blksF bs M f out p = blksF bs most f out p
  | 0, out, p, _, _ => rfl
  | f + 1, out, p, h, hM => by
    rw [blksF] at h hM
    by_cases h1 : 8 * bs.length < p + 1
    · rw [if_pos h1] at h; simp at h
    rw [if_neg h1] at h hM
    by_cases h2 : 8 * bs.length < p + 3
    · rw [if_pos h2] at h; simp at h
    rw [if_neg h2] at h hM
    by_cases h3 : (blockF bs most (numB bs (p + 1) 2) out (p + 3)).2.2 ≠ 0
    · rw [if_pos h3] at h; exact absurd h h3
    rw [if_neg h3] at h hM
    have hk : (blockF bs most (numB bs (p + 1) 2) out (p + 3)).1.length ≤ M := by
      split at hM
      · exact Nat.le_trans (blksF_grow bs most f _ _).length_le hM
      · exact hM
    have hb := blockF_most bs most M (numB bs (p + 1) 2) out (p + 3) (by omega) hk
    rw [blksF, blksF, if_neg h1, if_neg h1, if_neg h2, if_neg h2, hb, if_neg h3, if_neg h3]
    by_cases h4 : numB bs p 1 = 0
    · rw [if_pos h4] at h hM
      rw [if_pos h4, if_pos h4]
      exact blksF_most bs most M f _ _ h hM
    · rw [if_neg h4, if_neg h4]
theorem inflF_most (bs : List Int) (most M : Nat) (h : (inflF bs most).2.2 = 0) (hM : (inflF bs most).1.length ≤ M) : inflF bs M = inflF bs most := blksF_most bs most M _ _ _ h hM
/-! No more is laid than may be. -/
theorem storF_le (bs : List Int) (most : Nat) : ∀ n out p, out.length ≤ most → (storF bs most n out p).1.length ≤ most
  | 0, out, p, h => h
  | n + 1, out, p, h => by
    rw [storF]
    split
    · exact h
    split
    · exact h
    · exact storF_le bs most n _ _ (by rw [List.length_append, List.length_singleton]; omega)
theorem layN_le (far most : Nat) : ∀ n out, out.length ≤ most → (layN far most n out).1.length ≤ most
  | 0, out, h => h
  | n + 1, out, h => by
    rw [layN]
    split
    · exact h
    · exact layN_le far most n _ (by rw [List.length_append, List.length_singleton]; omega)
theorem copyF_le (dist bs : List Int) (most s : Nat) (out : List Int) (p : Nat) (h : out.length ≤ most) : (copyF dist bs most s out p).1.length ≤ most := by
  unfold copyF
  repeat' split
  all_goals first | exact h | exact layN_le _ _ _ _ h
theorem symF_le (lit dist bs : List Int) (most : Nat) : ∀ f out p, out.length ≤ most → (symF lit dist bs most f out p).1.length ≤ most
  | 0, out, p, h => h
  | f + 1, out, p, h => by
    rw [symF]
    split
    · exact h
    split
    · exact h
    split
    · split
      · exact h
      · exact symF_le lit dist bs most f _ _ (by rw [List.length_append, List.length_singleton]; omega)
    split
    · exact copyF_le _ _ _ _ _ _ h
    · exact symF_le lit dist bs most f _ _ (copyF_le _ _ _ _ _ _ h)
theorem blockF_le (bs : List Int) (most : Nat) (kind : Int) (out : List Int) (p : Nat) (h : out.length ≤ most) : (blockF bs most kind out p).1.length ≤ most := by
  unfold blockF
  split
  · unfold storedF
    repeat' split
    all_goals first | exact h | exact storF_le _ _ _ _ _ h
  split
  · exact symF_le _ _ _ _ _ _ _ h
  split
  · split
    · exact h
    · exact symF_le _ _ _ _ _ _ _ h
  · exact h
theorem blksF_le (bs : List Int) (most : Nat) : ∀ f out p, out.length ≤ most → (blksF bs most f out p).1.length ≤ most
  | 0, out, p, h => h
  | f + 1, out, p, h => by
    rw [blksF]
    split
    · exact h
    split
    · exact h
    split
    · exact blockF_le _ _ _ _ _ h
    split
    · exact blksF_le bs most f _ _ (blockF_le _ _ _ _ _ h)
    · exact blockF_le _ _ _ _ _ h
theorem inflF_le (bs : List Int) (most : Nat) : (inflF bs most).1.length ≤ most := blksF_le _ _ _ _ _ (Nat.zero_le _)
/-! What the laws ask of it. -/
theorem inflR_ok {bs : List Int} {most : Int} (h : (inflR bs most).2.2 = 0) : 0 ≤ most ∧ most ≤ 16384 ∧ (inflF bs most.toNat).2.2 = 0 ∧ inflR bs most = ((inflF bs most.toNat).1, ((inflF bs most.toNat).2.1 + 7) / 8, 0) := by
  unfold inflR at h ⊢
  split
  · next h1 => rw [if_pos h1] at h; simp at h
  next h1 =>
  rw [if_neg h1] at h
  split
  · next h2 => rw [if_pos h2] at h; exact absurd h h2
  · next h2 => exact ⟨by omega, by omega, by omega, rfl⟩
theorem inflR_of {bs : List Int} {most : Int} (h0 : 0 ≤ most) (h1 : most ≤ 16384) (h : (inflF bs most.toNat).2.2 = 0) : inflR bs most = ((inflF bs most.toNat).1, ((inflF bs most.toNat).2.1 + 7) / 8, 0) := by
  unfold inflR; rw [if_neg (by omega), if_neg (by omega)]
theorem inflR_bad {bs : List Int} {most : Int} (h : (inflR bs most).2.2 ≠ 0) : (inflR bs most).1 = [] ∧ (inflR bs most).2.1 = 0 := by
  unfold inflR at h ⊢
  split
  · exact ⟨rfl, rfl⟩
  next h1 =>
  rw [if_neg h1] at h
  split
  · exact ⟨rfl, rfl⟩
  · next h2 => rw [if_neg h2] at h; exact absurd rfl h
theorem inflR_behind {bs m : List Int} {most : Int} (h : (inflR bs most).2.2 = 0) : inflR (bs ++ m) most = inflR bs most := by
  obtain ⟨h0, h1, h2, h3⟩ := inflR_ok h
  have he := (inflF_ext bs m most.toNat).1 (by rw [h2]; decide)
  rw [h3, inflR_of h0 h1 (by rw [he]; exact h2), he]
theorem inflR_le {bs : List Int} {most : Int} (h : (inflR bs most).2.2 = 0) : (inflR bs most).2.1 ≤ bs.length ∧ ((inflR bs most).1.length : Int) ≤ most := by
  obtain ⟨h0, h1, h2, h3⟩ := inflR_ok h
  have := inflF_pos bs most.toNat h2
  have := inflF_le bs most.toNat
  rw [h3]
  simp only []
  omega
theorem inflR_just {bs : List Int} {most : Int} (h : (inflR bs most).2.2 = 0) : inflR (bs.take (inflR bs most).2.1) ((inflR bs most).1.length : Int) = inflR bs most := by
  obtain ⟨h0, h1, h2, h3⟩ := inflR_ok h
  have h4 := inflF_pos bs most.toNat h2
  have h5 := inflF_le bs most.toNat
  rw [h3]
  simp only []
  have hs : bs = bs.take (((inflF bs most.toNat).2.1 + 7) / 8) ++ bs.drop (((inflF bs most.toNat).2.1 + 7) / 8) := (List.take_append_drop _ _).symm
  have hl : (bs.take (((inflF bs most.toNat).2.1 + 7) / 8)).length = ((inflF bs most.toNat).2.1 + 7) / 8 := by rw [List.length_take]; omega
  have hc : inflF (bs.take (((inflF bs most.toNat).2.1 + 7) / 8)) most.toNat = inflF bs most.toNat := by
    have := inflF_cut (bs.take (((inflF bs most.toNat).2.1 + 7) / 8)) (bs.drop (((inflF bs most.toNat).2.1 + 7) / 8)) most.toNat (by rw [← hs]; exact h2) (by rw [← hs, hl]; omega)
    rwa [← hs] at this
  have hm : inflF (bs.take (((inflF bs most.toNat).2.1 + 7) / 8)) (inflF bs most.toNat).1.length = inflF bs most.toNat := by
    rw [inflF_most (bs.take (((inflF bs most.toNat).2.1 + 7) / 8)) most.toNat _ (by rw [hc]; exact h2) (by rw [hc]; exact Nat.le_refl _), hc]
  rw [inflR_of (by omega) (by omega) (by rw [Int.toNat_natCast, hm]; exact h2), Int.toNat_natCast, hm]
theorem inflR_more {bs : List Int} {most more : Int} (h : (inflR bs most).2.2 = 0) (h1 : most ≤ more) (h2 : more ≤ 16384) : inflR bs more = inflR bs most := by
  obtain ⟨h0, h3, h4, h5⟩ := inflR_ok h
  have h6 := inflF_le bs most.toNat
  have hm := inflF_most bs most.toNat more.toNat h4 (by omega)
  rw [h5, inflR_of (by omega) h2 (by rw [hm]; exact h4), hm]
end Go.Proofs.YtkpabdjniiepkaaGreatDoor

set_option linter.unusedVariables false
set_option linter.unusedSimpArgs false
/-! Plain: tokens, what they say, how they are laid, and that what is laid is read as what they say. -/
namespace Go.Proofs.YtkpabdjniiepkaaGreatDoor
/-- A token: literal, length, distance. -/
abbrev Tok := Int × Int × Int
def mayT (t : Tok) (said : Nat) : Bool := if t.2.1 = 0 then decide (t.2.2 = 0) else decide (t.1 = 0 ∧ 3 ≤ t.2.1 ∧ t.2.1 ≤ 258 ∧ 1 ≤ t.2.2 ∧ t.2.2 ≤ 32768 ∧ t.2.2 ≤ said)
def copyT (far : Nat) : Nat → List Int → List Int
  | 0, out => out
  | n + 1, out => copyT far n (out ++ [nth out (out.length - far)])
def tokT (t : Tok) (out : List Int) : List Int := if t.2.1 = 0 then out ++ [t.1] else copyT t.2.2.toNat t.2.1.toNat out
def expandF (most : Nat) : List Tok → List Int → List Int × Int
  | [], out => (out, 0)
  | t :: ts, out => if mayT t out.length = false then ([], 60) else if most < out.length + max 1 t.2.1.toNat then ([], 2) else expandF most ts (tokT t out)
theorem copyT_len (far : Nat) : ∀ n out, (copyT far n out).length = out.length + n
  | 0, out => rfl
  | n + 1, out => by rw [copyT, copyT_len far n, List.length_append, List.length_singleton]; omega
theorem layN_copy (far most : Nat) : ∀ n out, out.length + n ≤ most → layN far most n out = (copyT far n out, 0)
  | 0, out, h => rfl
  | n + 1, out, h => by rw [layN, if_neg (by omega), layN_copy far most n _ (by rw [List.length_append, List.length_singleton]; omega), copyT]
theorem tokT_len (t : Tok) (out : List Int) (h : 0 ≤ t.2.1) : (tokT t out).length = out.length + max 1 t.2.1.toNat := by
  unfold tokT
  split
  · rw [List.length_append, List.length_singleton]; omega
  · rw [copyT_len]; omega
/-! Symbols of lengths and distances. -/
def lk (n : Nat) : Nat := if n = 258 ∨ n < 11 then 0 else Nat.log2 (n - 3) - 2
def lsym (n : Nat) : Nat := if n = 258 then 285 else if n < 11 then n + 254 else 261 + 4 * lk n + (n - 3) / 2 ^ lk n - 4
def lmore (n : Nat) : Nat := if n = 258 ∨ n < 11 then 0 else (n - 3) % 2 ^ lk n
def dk (d : Nat) : Nat := if d < 5 then 0 else Nat.log2 (d - 1) - 1
def dsym (d : Nat) : Nat := if d < 5 then d - 1 else 2 + 2 * dk d + (d - 1) / 2 ^ dk d - 2
def dmore (d : Nat) : Nat := if d < 5 then 0 else (d - 1) % 2 ^ dk d
theorem len_tab : ∀ n, n < 259 → 3 ≤ n → 257 ≤ lsym n ∧ lsym n ≤ 285 ∧ lenK (lsym n) = lk n ∧ lenBase (lsym n) + lmore n = n ∧ lmore n < 2 ^ lk n ∧ lk n ≤ 5 := by decide +kernel
theorem log2_bd {n : Nat} (h : n ≠ 0) : 2 ^ Nat.log2 n ≤ n ∧ n < 2 ^ (Nat.log2 n + 1) := ⟨Nat.log2_self_le h, Nat.lt_log2_self⟩
theorem dist_tab (d : Nat) (h1 : 1 ≤ d) (h2 : d ≤ 32768) : dsym d ≤ 29 ∧ distK (dsym d) = dk d ∧ distBase (dsym d) + dmore d = d ∧ dmore d < 2 ^ dk d ∧ dk d ≤ 13 := by
  by_cases h : d < 5
  · have e : dk d = 0 := if_pos h
    have e2 : dsym d = d - 1 := if_pos h
    have e3 : dmore d = 0 := if_pos h
    rw [e, e2, e3]
    unfold distK distBase
    rw [if_pos (by omega), if_pos (by omega)]
    omega
  · obtain ⟨a, b⟩ := log2_bd (n := d - 1) (by omega)
    have hL : 2 ≤ Nat.log2 (d - 1) := by
      rcases Nat.lt_or_ge (Nat.log2 (d - 1)) 2 with hh | hh
      · have : 2 ^ (Nat.log2 (d - 1) + 1) ≤ 2 ^ 2 := Nat.pow_le_pow_right (by omega) (by omega)
        omega
      · exact hh
    have hL2 : Nat.log2 (d - 1) ≤ 14 := by
      rcases Nat.lt_or_ge 14 (Nat.log2 (d - 1)) with hh | hh
      · have : 2 ^ 15 ≤ 2 ^ Nat.log2 (d - 1) := Nat.pow_le_pow_right (by omega) (by omega)
        omega
      · exact hh
    obtain ⟨k, hk⟩ : ∃ k, Nat.log2 (d - 1) = k + 1 := ⟨Nat.log2 (d - 1) - 1, by omega⟩
    rw [hk] at a b
    have e : dk d = k := by unfold dk; rw [if_neg h, hk]; rfl
    have e2 : dsym d = 2 + 2 * k + (d - 1) / 2 ^ k - 2 := by unfold dsym; rw [if_neg h, e]
    have e3 : dmore d = (d - 1) % 2 ^ k := by unfold dmore; rw [if_neg h, e]
    have hp : 0 < 2 ^ k := Nat.two_pow_pos k
    have c1 : 2 ≤ (d - 1) / 2 ^ k := by rw [Nat.le_div_iff_mul_le hp]; rw [Nat.pow_succ] at a; omega
    have c2 : (d - 1) / 2 ^ k < 4 := by rw [Nat.div_lt_iff_lt_mul hp]; rw [Nat.pow_succ, Nat.pow_succ] at b; omega
    have c3 := Nat.div_add_mod (d - 1) (2 ^ k)
    have c4 := Nat.mod_lt (d - 1) hp
    generalize hq : (d - 1) / 2 ^ k = q at *
    generalize hr : (d - 1) % 2 ^ k = r at *
    have es : dsym d = 2 * k + q := by rw [e2]; omega
    have ek : distK (dsym d) = k := by unfold distK; rw [es, if_neg (by omega)]; omega
    refine ⟨by omega, by rw [ek, e], ?_, by rw [e3, e]; exact c4, by omega⟩
    unfold distBase
    rw [ek, es, if_neg (by omega), e3, show (2 + (2 * k + q) % 2) = q by omega, Nat.mul_comm q]
    omega
/-! What is laid. -/
def cbit (l : List Int) (s : Nat) : List Int := msbF (codeI l s) (nth l s).toNat
theorem cbit_len (l : List Int) (s : Nat) : (cbit l s).length = (nth l s).toNat := msbF_len _ _
def behB (dist : List Int) (t : Tok) : List Int := vbits (lmore t.2.1.toNat) (lk t.2.1.toNat) ++ (cbit dist (dsym t.2.2.toNat) ++ vbits (dmore t.2.2.toNat) (dk t.2.2.toNat))
def tokB (lit dist : List Int) (t : Tok) : List Int := if t.2.1 = 0 then cbit lit t.1.toNat else cbit lit (lsym t.2.1.toNat) ++ behB dist t
def toksB (lit dist : List Int) (ts : List Tok) : List Int := ts.flatMap (tokB lit dist)
/-- A code tells this symbol. -/
def Tells (l : List Int) (s : Nat) : Prop := s < l.length ∧ 1 ≤ nth l s ∧ nth l s ≤ 15
theorem tells_dec {l xs : List Int} {s p : Nat} (hc : checkF l = 0) (h : Tells l s) (hT : p + (cbit l s).length ≤ 8 * xs.length) (hat : At xs p (cbit l s)) : decF l xs p = ((s : Int), 0, (cbit l s).length) := by
  obtain ⟨h1, h2, h3⟩ := h
  rw [cbit_len] at hT ⊢
  exact dec_at hc h1 (by omega) (by omega) (by omega) hT hat
theorem tells_used {l : List Int} {s : Nat} (h : Tells l s) : anyUsed l = true := by
  obtain ⟨h1, h2, h3⟩ := h
  unfold anyUsed
  rw [List.any_eq_true]
  exact ⟨nth l s, by simp [nth, List.getD, h1], by simpa using Int.lt_of_lt_of_le Int.zero_lt_one h2⟩
theorem copy_at {dist xs : List Int} {most p : Nat} {t : Tok} {out : List Int} (hc : checkF dist = 0) (hm : mayT t out.length = true) (h0 : t.2.1 ≠ 0) (hd : Tells dist (dsym t.2.2.toNat)) (hmost : out.length + t.2.1.toNat ≤ most)
    (hT : p + (behB dist t).length ≤ 8 * xs.length) (hat : At xs p (behB dist t)) :
    copyF dist xs most (lsym t.2.1.toNat) out p = (tokT t out, p + (behB dist t).length, 0) := by
  unfold mayT at hm
  rw [if_neg h0] at hm
  obtain ⟨-, a1, a2, a3, a4, a5⟩ := of_decide_eq_true hm
  obtain ⟨n, hn⟩ := Int.eq_ofNat_of_zero_le (show 0 ≤ t.2.1 by omega)
  obtain ⟨d, hdd⟩ := Int.eq_ofNat_of_zero_le (show 0 ≤ t.2.2 by omega)
  unfold behB at hT hat ⊢
  unfold tokT
  rw [if_neg h0]
  rw [hdd] at hd
  rw [hn, hdd] at hT hat ⊢
  rw [hn] at hmost
  rw [hn] at a1 a2
  rw [hdd] at a3 a4 a5
  simp only [Int.toNat_natCast] at hT hat hmost hd ⊢
  obtain ⟨b1, b2, b3, b4, b5, b6⟩ := len_tab n (by omega) (by omega)
  obtain ⟨c1, c2, c3, c4, c5⟩ := dist_tab d (by omega) (by omega)
  obtain ⟨t1, t2⟩ := at_app.1 hat
  obtain ⟨t3, t4⟩ := at_app.1 t2
  simp only [List.length_append, vbits_len] at hT t2 t3 t4 ⊢
  have hdec := tells_dec hc hd (by omega) t3
  have n1 : numB xs p (lk n) = (lmore n : Int) := numB_of t1 (by omega) (by exact_mod_cast b5)
  have n2 : numB xs (p + lk n + (cbit dist (dsym d)).length) (dk d) = (dmore d : Int) := numB_of t4 (by omega) (by exact_mod_cast c4)
  have hus := tells_used hd
  unfold copyF
  rw [b3, hdec]
  simp only [Int.toNat_natCast]
  rw [c2, n2, n1]
  have hfar : ((distBase (dsym d) : Int) + (dmore d : Int)).toNat = d := by omega
  have hln : lenBase (lsym n) + ((lmore n : Int)).toNat = n := by omega
  rw [hfar, hln]
  have hlay := layN_copy d most n out hmost
  rw [if_neg (by omega), if_neg (by omega), if_neg (by rw [hus]; decide), if_neg (by simp), if_neg (by omega), if_neg (by omega), if_neg (by omega), hlay, if_neg (by simp)]
  simp only [Prod.mk.injEq, and_true, true_and]
  omega
/-- Tokens that these codes tell. -/
def TokOk (lit dist : List Int) (t : Tok) : Prop := (t.2.1 = 0 → 0 ≤ t.1 ∧ t.1 ≤ 255 ∧ Tells lit t.1.toNat) ∧ (t.2.1 ≠ 0 → Tells lit (lsym t.2.1.toNat) ∧ Tells dist (dsym t.2.2.toNat) ∧ checkF dist = 0)
theorem sym_at {lit dist xs : List Int} {most : Nat} (hc : checkF lit = 0) : ∀ (ts : List Tok) (f p : Nat) (out : List Int), (∀ t ∈ ts, TokOk lit dist t) → Tells lit 256 → (expandF most ts out).2 = 0 → ts.length < f → p + (toksB lit dist ts ++ cbit lit 256).length ≤ 8 * xs.length → At xs p (toksB lit dist ts ++ cbit lit 256) →
    symF lit dist xs most f out p = ((expandF most ts out).1, p + (toksB lit dist ts ++ cbit lit 256).length, 0)
  | [], 0, p, out, _, _, _, hf, _, _ => by simp at hf
  | [], f + 1, p, out, _, h256, _, _, hT, hat => by
    simp only [toksB, List.flatMap_nil, List.nil_append] at hT hat ⊢
    rw [symF, tells_dec hc h256 hT hat]
    rw [if_neg (by simp), if_pos (by simp)]
    simp [expandF]
  | t :: ts, 0, p, out, _, _, _, hf, _, _ => by simp at hf
  | t :: ts, f + 1, p, out, htk, h256, hex, hf, hT, hat => by
    have e : toksB lit dist (t :: ts) = tokB lit dist t ++ toksB lit dist ts := by simp [toksB]
    rw [e, List.append_assoc] at hT hat ⊢
    obtain ⟨q1, q2⟩ := htk t List.mem_cons_self
    obtain ⟨s1, s2⟩ := at_app.1 hat
    rw [List.length_append] at hT ⊢
    have hml : mayT t out.length = true := by
      rw [expandF] at hex
      by_cases h : mayT t out.length = false
      · rw [if_pos h] at hex; simp at hex
      · simpa using h
    have hmo : ¬ most < out.length + max 1 t.2.1.toNat := by
      intro h
      rw [expandF, if_neg (by rw [hml]; decide), if_pos h] at hex; simp at hex
    have hex' : expandF most (t :: ts) out = expandF most ts (tokT t out) := by rw [expandF, if_neg (by rw [hml]; decide), if_neg hmo]
    rw [hex'] at hex ⊢
    have ih : ∀ q, q = p + (tokB lit dist t).length → symF lit dist xs most f (tokT t out) q = ((expandF most ts (tokT t out)).1, q + (toksB lit dist ts ++ cbit lit 256).length, 0) := fun q h => sym_at hc ts f q (tokT t out) (fun u hu => htk u (List.mem_cons_of_mem _ hu)) h256 hex (by simp at hf; omega) (by rw [h]; omega) (by rw [h]; exact s2)
    by_cases h0 : t.2.1 = 0
    · obtain ⟨l0, l1, l2⟩ := q1 h0
      have eb : tokB lit dist t = cbit lit t.1.toNat := if_pos h0
      rw [eb] at hT s1 ih ⊢
      have hdec := tells_dec hc l2 (by omega) s1
      rw [symF, hdec]
      simp only []
      have hn : ((t.1.toNat : Nat) : Int) = t.1 := Int.toNat_of_nonneg l0
      rw [if_neg (by simp), if_neg (by omega), if_pos (by omega), if_neg (by omega), hn]
      have et : tokT t out = out ++ [t.1] := if_pos h0
      rw [et] at ih ⊢
      rw [ih _ rfl]
      simp only [Prod.mk.injEq, and_true, true_and]
      omega
    · obtain ⟨l0, l1, l2⟩ := q2 h0
      have eb : tokB lit dist t = cbit lit (lsym t.2.1.toNat) ++ behB dist t := if_neg h0
      rw [eb, List.length_append] at hT ih
      rw [eb] at s1 ⊢
      rw [List.length_append]
      obtain ⟨s3, s4⟩ := at_app.1 s1
      have hdec := tells_dec hc l0 (by omega) s3
      have hlen : 3 ≤ t.2.1 ∧ t.2.1 ≤ 258 := by
        have := hml
        unfold mayT at this
        rw [if_neg h0] at this
        have := of_decide_eq_true this
        omega
      obtain ⟨b1, b2, -⟩ := len_tab t.2.1.toNat (by omega) (by omega)
      have hcp := copy_at (most := most) l2 hml h0 l1 (by omega) (by omega) s4
      rw [symF, hdec]
      simp only [Int.toNat_natCast]
      rw [if_neg (by simp), if_neg (by omega), if_neg (by omega), hcp]
      simp only []
      rw [if_neg (by simp), ih _ (by omega)]
      simp only [Prod.mk.injEq, and_true, true_and]
      omega
end Go.Proofs.YtkpabdjniiepkaaGreatDoor

set_option linter.unusedVariables false
set_option linter.unusedSimpArgs false
/-! Tokens in memory. -/
namespace Go.Proofs.YtkpabdjniiepkaaGreatDoor
open Go.RowKit
/-- A token as a value. -/
def tokV (t : Tok) : Value := .agg #[.int .u8 t.1, .int .i64 t.2.1, .int .i64 t.2.2]
def tcells (t : Tok) : List Value := [.int .u8 t.1, .int .i64 t.2.1, .int .i64 t.2.2]
/-- The token at a place. -/
def tth (ts : List Tok) (j : Nat) : Tok := ts.getD j (0, 0, 0)
theorem tth_lt {ts : List Tok} {j : Nat} (h : j < ts.length) : tth ts j = ts[j] := by simp [tth, List.getD, h]
theorem tth_mem {ts : List Tok} {j : Nat} (h : j < ts.length) : tth ts j ∈ ts := by rw [tth_lt h]; exact List.getElem_mem _
theorem take_tth {ts : List Tok} {j : Nat} (h : j < ts.length) : ts.take (j + 1) = ts.take j ++ [tth ts j] := by
  rw [List.take_succ_eq_append_getElem h, tth_lt h]
theorem drop_tth {ts : List Tok} {j : Nat} (h : j < ts.length) : ts.drop j = tth ts j :: ts.drop (j + 1) := by
  rw [List.drop_eq_getElem_cons h, tth_lt h]
/-- A slice's cells are these tokens. -/
structure RT (w : World) (A : Option Addr) (n : Nat) (ts : List Tok) : Prop where
  len : ts.length = n
  hd : 0 < n → ∃ b o, A = some ⟨b, o, none⟩
  cell : ∀ b o, A = some ⟨b, o, none⟩ → ∀ j, j < n → w.cell? ⟨b, o + j * 3, none⟩ = some (.int .u8 (tth ts j).1) ∧ w.cell? ⟨b, o + j * 3 + 1, none⟩ = some (.int .i64 (tth ts j).2.1) ∧ w.cell? ⟨b, o + j * 3 + 2, none⟩ = some (.int .i64 (tth ts j).2.2)
theorem RT.keeps {S : List Nat} {w w' : World} {A : Option Addr} {n : Nat} {ts : List Tok} (h : RT w A n ts) (hk : Keeps S w w') (ho : Off S A) : RT w' A n ts :=
  ⟨h.len, h.hd, fun b o ha j hj => ⟨hk.cell (p := ⟨b, o + j * 3, none⟩) (ho ⟨b, o, none⟩ ha) (h.cell b o ha j hj).1, hk.cell (p := ⟨b, o + j * 3 + 1, none⟩) (ho ⟨b, o, none⟩ ha) (h.cell b o ha j hj).2.1, hk.cell (p := ⟨b, o + j * 3 + 2, none⟩) (ho ⟨b, o, none⟩ ha) (h.cell b o ha j hj).2.2⟩⟩
theorem tcells_len (ts : List Tok) : (ts.flatMap tcells).length = ts.length * 3 := by
  induction ts with
  | nil => rfl
  | cons t ts ih => rw [List.flatMap_cons, List.length_append, ih, List.length_cons]; simp [tcells]; omega
theorem tcells_get : ∀ (ts : List Tok) (j : Nat), j < ts.length → (ts.flatMap tcells)[j * 3]? = some (.int .u8 (tth ts j).1) ∧ (ts.flatMap tcells)[j * 3 + 1]? = some (.int .i64 (tth ts j).2.1) ∧ (ts.flatMap tcells)[j * 3 + 2]? = some (.int .i64 (tth ts j).2.2)
  | [], j, h => by simp at h
  | t :: ts, 0, h => by rw [List.flatMap_cons]; simp [tcells, tth]
  | t :: ts, j + 1, h => by
    have ih := tcells_get ts j (by simpa using h)
    rw [List.flatMap_cons]
    have hl : (tcells t).length = 3 := rfl
    rw [show (j + 1) * 3 = (tcells t).length + j * 3 by rw [hl]; omega, List.getElem?_append_right (by omega), List.getElem?_append_right (by omega), List.getElem?_append_right (by omega)]
    rw [show (tcells t).length + j * 3 - (tcells t).length = j * 3 by omega, show (tcells t).length + j * 3 + 1 - (tcells t).length = j * 3 + 1 by omega, show (tcells t).length + j * 3 + 2 - (tcells t).length = j * 3 + 2 by omega]
    simpa [tth] using ih
theorem own_rt {w : World} {base : Nat} {e : TypeId} {v : Value} {n : Nat} {ts : List Tok} (h : w.ownsRow base e 3 v n (ts.flatMap tcells)) :
    ∃ A c, v = .slice A n c ∧ RT w A n ts ∧ n ≤ c ∧ (∀ a, A = some a → base ≤ a.block ∧ a.block < w.heap.size) := by
  obtain ⟨h1, h2⟩ := h
  have hl : ts.length = n := by rw [tcells_len] at h1; omega
  rcases h2 with ⟨rfl, rfl⟩ | ⟨g, cap, cur, rfl, hb, hh, hc, hm, hs, ht⟩
  · exact ⟨none, 0, rfl, ⟨hl, by omega, by simp⟩, by omega, by simp⟩
  · refine ⟨_, _, rfl, ⟨hl, fun _ => ⟨_, _, rfl⟩, fun b o ha j hj => ?_⟩, hc, fun a ha => ?_⟩
    · injection ha with ha; injection ha with h1 h2 h3; subst h1; subst h2
      have hp := tcells_get ts j (by omega)
      have e1 : ∀ i, i < n * 3 → cur.toList[i]? = (ts.flatMap tcells)[i]? := fun i hi => by rw [← ht, List.getElem?_take, if_pos hi]
      rw [Nat.zero_add]
      unfold World.cell?
      simp only [hh]
      rw [← Array.getElem?_toList, ← Array.getElem?_toList, ← Array.getElem?_toList, e1 _ (by omega), e1 _ (by omega), e1 _ (by omega)]
      exact hp
    · obtain rfl := Option.some.inj ha
      exact ⟨hb, (Array.getElem?_eq_some_iff.1 hh).1⟩
end Go.Proofs.YtkpabdjniiepkaaGreatDoor

set_option linter.unusedVariables false
set_option linter.unusedSimpArgs false
/-! Plain: blocks as they are laid, and that they are inflated to what they say, wherever they stand. -/
namespace Go.Proofs.YtkpabdjniiepkaaGreatDoor
theorem bitAt_behind (pre xs : List Int) (i : Nat) : bitAt (pre ++ xs) (8 * pre.length + i) = bitAt xs i := by
  unfold bitAt
  rw [show (8 * pre.length + i) / 8 = pre.length + i / 8 by omega, show (8 * pre.length + i) % 8 = i % 8 by omega, nth_append_right]
theorem at_behind {pre xs bl : List Int} {p : Nat} (h : At xs p bl) : At (pre ++ xs) (8 * pre.length + p) bl := fun t ht => by
  rw [Nat.add_assoc, bitAt_behind]; exact h t ht
theorem numB_behind (pre xs : List Int) (p : Nat) : ∀ n, numB (pre ++ xs) (8 * pre.length + p) n = numB xs p n
  | 0 => rfl
  | n + 1 => by rw [numB, numB, numB_behind pre xs p n, Nat.add_assoc, bitAt_behind]
theorem wb_at {xs bl : List Int} (h : WB xs bl) : At xs 0 bl := fun t ht => by rw [Nat.zero_add]; exact h.bit t ht
/-- A last block that says data: wherever it stands, behind whatever is laid. -/
def FinalOf (xs data : List Int) : Prop := ∀ (pre out : List Int) (most f : Nat), out.length + data.length ≤ most → ∃ q, blksF (pre ++ xs) most (f + 1) out (8 * pre.length) = (out ++ data, q, 0) ∧ (q + 7) / 8 = pre.length + xs.length
theorem FinalOf.infl {xs data : List Int} (h : FinalOf xs data) {most : Int} (h0 : (data.length : Int) ≤ most) (h1 : most ≤ 16384) : inflR xs most = (data, xs.length, 0) := by
  obtain ⟨q, hq, h8⟩ := h [] [] most.toNat (8 * xs.length) (by simp; omega)
  have e : inflF xs most.toNat = (data, q, 0) := by unfold inflF; simpa using hq
  rw [inflR_of (by omega) h1 (by rw [e]), e]
  simp only [List.length_nil, Nat.zero_add] at h8
  rw [h8]
/-- What tokens say does not hang on what stands ahead. -/
theorem may_mono {t : Tok} {a b : Nat} (h : mayT t a = true) (hab : a ≤ b) : mayT t b = true := by
  unfold mayT at h ⊢
  split at h
  · next h0 => rw [if_pos h0]; exact h
  · next h0 =>
    rw [if_neg h0]
    have := of_decide_eq_true h
    exact decide_eq_true (by omega)
theorem copyT_pre (pre : List Int) (far : Nat) : ∀ n o, far ≤ o.length → 1 ≤ far → copyT far n (pre ++ o) = pre ++ copyT far n o
  | 0, o, _, _ => rfl
  | n + 1, o, h, h1 => by
    have e : nth (pre ++ o) ((pre ++ o).length - far) = nth o (o.length - far) := by
      rw [List.length_append, show pre.length + o.length - far = pre.length + (o.length - far) by omega, nth_append_right]
    rw [copyT, copyT, e, List.append_assoc, copyT_pre pre far n _ (by rw [List.length_append]; omega) h1]
theorem may_nn {t : Tok} {a : Nat} (h : mayT t a = true) : 0 ≤ t.2.1 := by
  unfold mayT at h
  split at h
  · omega
  · have := of_decide_eq_true h; omega
theorem tokT_pre (pre : List Int) {t : Tok} {o : List Int} (h : mayT t o.length = true) : tokT t (pre ++ o) = pre ++ tokT t o := by
  unfold tokT
  unfold mayT at h
  split
  · rw [List.append_assoc]
  · next h0 =>
    rw [if_neg h0] at h
    have := of_decide_eq_true h
    exact copyT_pre pre _ _ o (by omega) (by omega)
theorem expand_step {most : Nat} {t : Tok} {ts : List Tok} {out : List Int} (h : (expandF most (t :: ts) out).2 = 0) : mayT t out.length = true ∧ out.length + max 1 t.2.1.toNat ≤ most ∧ expandF most (t :: ts) out = expandF most ts (tokT t out) := by
  have hml : mayT t out.length = true := by
    rw [expandF] at h
    by_cases hm : mayT t out.length = false
    · rw [if_pos hm] at h; simp at h
    · simpa using hm
  have hmo : ¬ most < out.length + max 1 t.2.1.toNat := by
    intro hm
    rw [expandF, if_neg (by rw [hml]; decide), if_pos hm] at h; simp at h
  exact ⟨hml, by omega, by rw [expandF, if_neg (by rw [hml]; decide), if_neg hmo]⟩
theorem expand_grow {most : Nat} : ∀ (ts : List Tok) (out : List Int), (expandF most ts out).2 = 0 → out.length + ts.length ≤ (expandF most ts out).1.length
  | [], out, _ => by simp [expandF]
  | t :: ts, out, h => by
    obtain ⟨h1, h2, h3⟩ := expand_step h
    rw [h3] at h ⊢
    have := expand_grow ts (tokT t out) h
    rw [tokT_len t out (may_nn h1)] at this
    rw [List.length_cons]; omega
theorem expand_pre (pre : List Int) {M most : Nat} : ∀ (ts : List Tok) (o : List Int), (expandF M ts o).2 = 0 → pre.length + (expandF M ts o).1.length ≤ most → expandF most ts (pre ++ o) = (pre ++ (expandF M ts o).1, 0)
  | [], o, _, _ => rfl
  | t :: ts, o, h, hm => by
    obtain ⟨h1, h2, h3⟩ := expand_step h
    rw [h3] at h hm ⊢
    have hg := expand_grow ts (tokT t o) h
    rw [tokT_len t o (may_nn h1)] at hg
    have ih := expand_pre pre ts (tokT t o) h hm
    rw [expandF, if_neg (by rw [may_mono h1 (by rw [List.length_append]; omega)]; decide), if_neg (by rw [List.length_append]; omega), tokT_pre pre h1, ih]
/-- Tokens take bits. -/
theorem tells_bits {l : List Int} {s : Nat} (h : Tells l s) : 1 ≤ (cbit l s).length ∧ (cbit l s).length ≤ 15 := by
  rw [cbit_len]; obtain ⟨a, b, c⟩ := h; omega
theorem toksB_ge {lit dist : List Int} : ∀ (ts : List Tok), (∀ t ∈ ts, TokOk lit dist t) → ts.length ≤ (toksB lit dist ts).length
  | [], _ => Nat.le_refl _
  | t :: ts, h => by
    have ih := toksB_ge ts (fun u hu => h u (List.mem_cons_of_mem _ hu))
    obtain ⟨a, b⟩ := h t List.mem_cons_self
    have e : toksB lit dist (t :: ts) = tokB lit dist t ++ toksB lit dist ts := by simp [toksB]
    rw [e, List.length_append, List.length_cons]
    have : 1 ≤ (tokB lit dist t).length := by
      unfold tokB
      split
      · next h0 => exact (tells_bits (a h0).2.2).1
      · next h0 => rw [List.length_append]; have := (tells_bits (b h0).1).1; omega
    omega
/-- A last block's first step. -/
theorem blks_last {bs : List Int} {most f : Nat} {out : List Int} {p : Nat} (h3 : p + 3 ≤ 8 * bs.length) (hb : numB bs p 1 = 1) : blksF bs most (f + 1) out p = blockF bs most (numB bs (p + 1) 2) out (p + 3) := by
  rw [blksF, if_neg (by omega), if_neg (by omega)]
  split
  · rfl
  · rw [if_neg (by omega)]
theorem wb_bytes {xs bl : List Int} (h : WB xs bl) : bl.length ≤ 8 * xs.length ∧ (bl.length + 7) / 8 = xs.length := by have := h.len; omega
theorem sym_final {lit dist xs : List Int} {pre out data : List Int} {most p q : Nat} {ts : List Tok} (hc : checkF lit = 0) (htk : ∀ t ∈ ts, TokOk lit dist t) (h256 : Tells lit 256) {M : Nat} (hex : expandF M ts [] = (data, 0))
    (hm : out.length + data.length ≤ most) (hat : At xs p (toksB lit dist ts ++ cbit lit 256)) (hT : p + (toksB lit dist ts ++ cbit lit 256).length ≤ 8 * xs.length) :
    symF lit dist xs most (8 * xs.length + 1) out p = (out ++ data, p + (toksB lit dist ts ++ cbit lit 256).length, 0) := by
  have e := expand_pre out (most := most) ts [] (by rw [hex]) (by rw [hex]; exact hm)
  rw [List.append_nil, hex] at e
  have hge := toksB_ge ts htk
  rw [List.length_append] at hT
  have := sym_at (most := most) hc ts (8 * xs.length + 1) p out htk h256 (by rw [e]) (by omega) (by rw [List.length_append]; exact hT) hat
  rw [this, e]
/-- The bits of a block of kind 1, of kind 2. -/
def fixB (ts : List Tok) : List Int := [1, 1, 0] ++ (toksB fixLit fixDist ts ++ cbit fixLit 256)
def dynB (lit dist : List Int) (ts : List Tok) : List Int := [1, 0, 1] ++ (headB lit dist ++ (toksB lit dist ts ++ cbit lit 256))
theorem fix_lit : checkF fixLit = 0 := by decide +kernel
theorem fix_dist : checkF fixDist = 0 := by decide +kernel
theorem fix_tells (s : Nat) (h : s < 288) : Tells fixLit s := by
  have : ∀ s, s < 288 → s < fixLit.length ∧ 1 ≤ nth fixLit s ∧ nth fixLit s ≤ 15 := by decide +kernel
  exact this s h
theorem fix_tellsD (s : Nat) (h : s < 32) : Tells fixDist s := by
  have : ∀ s, s < 32 → s < fixDist.length ∧ 1 ≤ nth fixDist s ∧ nth fixDist s ≤ 15 := by decide +kernel
  exact this s h
/-- Every literal is a byte. -/
def LitOk (ts : List Tok) : Prop := ∀ t ∈ ts, 0 ≤ t.1 ∧ t.1 ≤ 255
theorem expand_toks {M : Nat} : ∀ (ts : List Tok) (out : List Int), (expandF M ts out).2 = 0 → ∀ t ∈ ts, t.2.1 ≠ 0 → 3 ≤ t.2.1 ∧ t.2.1 ≤ 258 ∧ 1 ≤ t.2.2 ∧ t.2.2 ≤ 32768
  | [], _, _, t, ht, _ => by cases ht
  | u :: ts, out, h, t, ht, h0 => by
    obtain ⟨h1, h2, h3⟩ := expand_step h
    rw [h3] at h
    rcases List.mem_cons.1 ht with rfl | ht
    · unfold mayT at h1
      rw [if_neg h0] at h1
      have := of_decide_eq_true h1
      omega
    · exact expand_toks ts _ h t ht h0
theorem fix_toks {M : Nat} {ts : List Tok} {out : List Int} (hl : LitOk ts) (h : (expandF M ts out).2 = 0) : ∀ t ∈ ts, TokOk fixLit fixDist t := fun t ht => by
  obtain ⟨a, b⟩ := hl t ht
  refine ⟨fun h0 => ⟨a, b, fix_tells _ (by omega)⟩, fun h0 => ?_⟩
  obtain ⟨c1, c2, c3, c4⟩ := expand_toks ts out h t ht h0
  obtain ⟨d1, d2, -⟩ := len_tab t.2.1.toNat (by omega) (by omega)
  obtain ⟨e1, -⟩ := dist_tab t.2.2.toNat (by omega) (by omega)
  exact ⟨fix_tells _ (by omega), fix_tellsD _ (by omega), fix_dist⟩
theorem num_of_at {xs : List Int} {p : Nat} {bl : List Int} {n : Nat} {v : Int} (h : At xs p bl) (hb : vbits v n = bl) (h0 : 0 ≤ v) (h1 : v < 2 ^ n) : numB xs p n = v := numB_of (by rw [hb]; exact h) h0 h1
theorem final_fixed {xs data : List Int} {ts : List Tok} {M : Nat} (hw : WB xs (fixB ts)) (hl : LitOk ts) (hex : expandF M ts [] = (data, 0)) : FinalOf xs data := fun pre out most f hm => by
  obtain ⟨w1, w2⟩ := wb_bytes hw
  have hat := at_behind (pre := pre) (wb_at hw)
  rw [Nat.add_zero] at hat
  have hxl : (pre ++ xs).length = pre.length + xs.length := List.length_append
  have hl3 : (fixB ts).length = 3 + (toksB fixLit fixDist ts ++ cbit fixLit 256).length := by unfold fixB; rw [List.length_append]; rfl
  obtain ⟨a1, a2⟩ := at_app.1 hat
  rw [show ([1, 1, 0] : List Int) = [1] ++ [1, 0] from rfl] at a1
  obtain ⟨b1, b2⟩ := at_app.1 a1
  have n1 : numB (pre ++ xs) (8 * pre.length) 1 = 1 := num_of_at b1 (by decide) (by decide) (by decide)
  have n2 : numB (pre ++ xs) (8 * pre.length + 1) 2 = 1 := num_of_at b2 (by decide) (by decide) (by decide)
  have hs := sym_final (xs := pre ++ xs) (pre := pre) (out := out) (data := data) (most := most) (p := 8 * pre.length + 3) (q := 0) fix_lit (fix_toks hl (by rw [hex])) (fix_tells 256 (by decide)) hex hm a2 (by omega)
  refine ⟨8 * pre.length + 3 + (toksB fixLit fixDist ts ++ cbit fixLit 256).length, ?_, ?_⟩
  · rw [blks_last (by omega) n1, n2, blockF, if_neg (by decide), if_pos rfl, hs]
  · omega
/-- What a head tells may be the codes of a block. -/
structure Codable (lit dist : List Int) : Prop where
  may : MayW lit dist
  litC : checkF lit = 0
  distC : anyUsed dist = true → checkF dist = 0
  stop : Tells lit 256
theorem final_dyn {xs data lit dist : List Int} {ts : List Tok} {M : Nat} (hw : WB xs (dynB lit dist ts)) (hc : Codable lit dist) (htk : ∀ t ∈ ts, TokOk lit dist t) (hex : expandF M ts [] = (data, 0)) : FinalOf xs data := fun pre out most f hm => by
  obtain ⟨w1, w2⟩ := wb_bytes hw
  have hat := at_behind (pre := pre) (wb_at hw)
  rw [Nat.add_zero] at hat
  have hxl : (pre ++ xs).length = pre.length + xs.length := List.length_append
  have hl3 : (dynB lit dist ts).length = 3 + ((headB lit dist).length + (toksB lit dist ts ++ cbit lit 256).length) := by unfold dynB; rw [List.length_append, List.length_append]; rfl
  obtain ⟨a1, a2⟩ := at_app.1 hat
  obtain ⟨a3, a4⟩ := at_app.1 a2
  rw [show ([1, 0, 1] : List Int) = [1] ++ [0, 1] from rfl] at a1
  obtain ⟨b1, b2⟩ := at_app.1 a1
  have n1 : numB (pre ++ xs) (8 * pre.length) 1 = 1 := num_of_at b1 (by decide) (by decide) (by decide)
  have n2 : numB (pre ++ xs) (8 * pre.length + 1) 2 = 2 := num_of_at b2 (by decide) (by decide) (by decide)
  have hh : headF (pre ++ xs) (8 * pre.length + 3) = (lit, dist, (headB lit dist).length, 0) := hc.may.read (p := 8 * pre.length + 3) (by omega) a3
  have hce : codesE (headF (pre ++ xs) (8 * pre.length + 3)) = 0 := by
    rw [hh]; unfold codesE
    have := hc.stop.2.1
    rw [if_neg (by simp), if_neg (by simp only []; omega), if_neg (by simp only []; rw [hc.litC]; decide), if_neg]
    rintro ⟨h1, h2⟩; exact h2 (hc.distC h1)
  have hs := sym_final (xs := pre ++ xs) (pre := pre) (out := out) (data := data) (most := most) (p := 8 * pre.length + 3 + (headB lit dist).length) (q := 0) hc.litC htk hc.stop hex hm a4 (by omega)
  refine ⟨8 * pre.length + 3 + (headB lit dist).length + (toksB lit dist ts ++ cbit lit 256).length, ?_, ?_⟩
  · rw [blks_last (by omega) n1, n2, blockF, if_neg (by decide), if_neg (by decide), if_pos rfl, if_neg (by rw [hce]; decide), hh]
    exact hs
  · omega
/-! Stored blocks. -/
def storB (b : Int) (data : List Int) : List Int := [b, (data.length : Int) % 256, (data.length : Int) / 256, 255 - (data.length : Int) % 256, 255 - (data.length : Int) / 256] ++ data
theorem storB_len (b : Int) (data : List Int) : (storB b data).length = 5 + data.length := by unfold storB; rw [List.length_append]; rfl
theorem numB_at8 (bs : List Int) (j : Nat) (hb : 0 ≤ nth bs j ∧ nth bs j ≤ 255) : numB bs (8 * j) 8 = nth bs j := by
  rw [numB_byte bs (8 * j) 8 (by omega), show 8 * j / 8 = j by omega, show 8 * j % 8 = 0 by omega]
  omega
theorem stor_at (bs : List Int) (most : Nat) : ∀ (data out : List Int) (j : Nat), (∀ i, i < data.length → nth bs (j + i) = nth data i) → (∀ x ∈ data, 0 ≤ x ∧ x ≤ 255) → j + data.length ≤ bs.length → out.length + data.length ≤ most →
    storF bs most data.length out (8 * j) = (out ++ data, 8 * (j + data.length), 0)
  | [], out, j, _, _, _, _ => by simp [storF]
  | x :: data, out, j, h, hb, hl, hm => by
    rw [List.length_cons] at *
    have h0 : nth bs j = x := by simpa [nth] using h 0 (by omega)
    have hx := hb x List.mem_cons_self
    rw [storF, if_neg (by omega), if_neg (by omega), numB_at8 bs j (by rw [h0]; exact hx), h0, show 8 * j + 8 = 8 * (j + 1) by omega,
      stor_at bs most data (out ++ [x]) (j + 1) (fun i hi => by
        have := h (i + 1) (by omega)
        rw [show j + 1 + i = j + (i + 1) by omega, this]; simp [nth]) (fun y hy => hb y (List.mem_cons_of_mem _ hy)) (by omega) (by rw [List.length_append, List.length_singleton]; omega)]
    rw [List.append_assoc]
    simp only [List.singleton_append, Prod.mk.injEq, and_true, true_and]
    omega
theorem stored_at (pre post data out : List Int) (b : Int) (most : Nat) (hb : b = 0 ∨ b = 1) (hd : ∀ x ∈ data, 0 ≤ x ∧ x ≤ 255) (hl : data.length ≤ 65535) (hm : out.length + data.length ≤ most) :
    numB (pre ++ (storB b data ++ post)) (8 * pre.length) 1 = b ∧ numB (pre ++ (storB b data ++ post)) (8 * pre.length + 1) 2 = 0 ∧
    storedF (pre ++ (storB b data ++ post)) most out (8 * pre.length + 3) = (out ++ data, 8 * (pre.length + 5 + data.length), 0) := by
  obtain ⟨bs, hbs⟩ : ∃ bs, bs = pre ++ (storB b data ++ post) := ⟨_, rfl⟩
  have hlen : bs.length = pre.length + 5 + data.length + post.length := by rw [hbs, List.length_append, List.length_append, storB_len]; omega
  have hat : ∀ i, i < 5 + data.length → nth bs (pre.length + i) = nth (storB b data) i := fun i hi => by
    rw [hbs, nth_append_right, nth_append_left _ _ _ (by rw [storB_len]; exact hi)]
  have e0 : nth bs pre.length = b := by simpa [storB, nth] using hat 0 (by omega)
  have e1 : nth bs (pre.length + 1) = (data.length : Int) % 256 := by simpa [storB, nth] using hat 1 (by omega)
  have e2 : nth bs (pre.length + 2) = (data.length : Int) / 256 := by simpa [storB, nth] using hat 2 (by omega)
  have e3 : nth bs (pre.length + 3) = 255 - (data.length : Int) % 256 := by simpa [storB, nth] using hat 3 (by omega)
  have e4 : nth bs (pre.length + 4) = 255 - (data.length : Int) / 256 := by simpa [storB, nth] using hat 4 (by omega)
  have ed : ∀ i, i < data.length → nth bs (pre.length + 5 + i) = nth data i := fun i hi => by
    rw [Nat.add_assoc, hat (5 + i) (by omega)]
    have := nth_append_right [b, (data.length : Int) % 256, (data.length : Int) / 256, 255 - (data.length : Int) % 256, 255 - (data.length : Int) / 256] data i
    exact this
  rw [← hbs]
  have n1 : numB bs (8 * pre.length) 1 = b := by
    rw [numB_byte bs _ 1 (by omega), show 8 * pre.length / 8 = pre.length by omega, show 8 * pre.length % 8 = 0 by omega, e0]
    rcases hb with rfl | rfl <;> decide
  have n2 : numB bs (8 * pre.length + 1) 2 = 0 := by
    rw [numB_byte bs _ 2 (by omega), show (8 * pre.length + 1) / 8 = pre.length by omega, show (8 * pre.length + 1) % 8 = 1 by omega, e0]
    rcases hb with rfl | rfl <;> decide
  refine ⟨n1, n2, ?_⟩
  have hal : alignF (8 * pre.length + 3) = 8 * (pre.length + 1) := by unfold alignF; omega
  have m1 := numB_at8 bs (pre.length + 1) (by rw [e1]; omega)
  have m2 := numB_at8 bs (pre.length + 2) (by rw [e2]; omega)
  have m3 := numB_at8 bs (pre.length + 3) (by rw [e3]; omega)
  have m4 := numB_at8 bs (pre.length + 4) (by rw [e4]; omega)
  have p1 : numB bs (8 * (pre.length + 1)) 16 = data.length := by
    rw [show (16 : Nat) = 8 + 8 from rfl, numB_add, m1, show 8 * (pre.length + 1) + 8 = 8 * (pre.length + 2) by omega, m2, e1, e2]
    show (data.length : Int) % 256 + (data.length : Int) / 256 * 256 = _
    omega
  have p2 : numB bs (8 * (pre.length + 1) + 16) 16 = 65535 - data.length := by
    rw [show 8 * (pre.length + 1) + 16 = 8 * (pre.length + 3) by omega, show (16 : Nat) = 8 + 8 from rfl, numB_add, m3, show 8 * (pre.length + 3) + 8 = 8 * (pre.length + 4) by omega, m4, e3, e4]
    show 255 - (data.length : Int) % 256 + (255 - (data.length : Int) / 256) * 256 = _
    omega
  unfold storedF
  rw [hal, p1, p2, if_neg (by omega), if_neg (by omega), if_neg (by omega), Int.toNat_natCast, show 8 * (pre.length + 1) + 32 = 8 * (pre.length + 5) by omega,
    stor_at bs most data out (pre.length + 5) ed hd (by omega) hm]
theorem final_stored {data : List Int} (hd : ∀ x ∈ data, 0 ≤ x ∧ x ≤ 255) (hl : data.length ≤ 65535) : FinalOf (storB 1 data) data := fun pre out most f hm => by
  obtain ⟨a1, a2, a3⟩ := stored_at pre [] data out 1 most (.inr rfl) hd hl hm
  rw [List.append_nil] at a1 a2 a3
  refine ⟨8 * (pre.length + 5 + data.length), ?_, ?_⟩
  · rw [blks_last (by rw [List.length_append, storB_len]; omega) a1, a2, blockF, if_pos rfl, a3]
  · rw [storB_len]; omega
/-- Blocks ahead of the last one. -/
theorem stored_then {data : List Int} (hd : ∀ x ∈ data, 0 ≤ x ∧ x ≤ 255) (hl : data.length ≤ 65535) {xs rest : List Int} (h : FinalOf xs rest) (pre out : List Int) (most f : Nat) (hm : out.length + data.length ≤ most) :
    blksF (pre ++ (storB 0 data ++ xs)) most (f + 1) out (8 * pre.length) = blksF ((pre ++ storB 0 data) ++ xs) most f (out ++ data) (8 * (pre ++ storB 0 data).length) := by
  obtain ⟨a1, a2, a3⟩ := stored_at pre xs data out 0 most (.inl rfl) hd hl hm
  have hl2 : (pre ++ (storB 0 data ++ xs)).length = pre.length + (5 + data.length + xs.length) := by rw [List.length_append, List.length_append, storB_len]
  rw [blksF, if_neg (by omega), if_neg (by omega), a2, blockF, if_pos rfl, a3, if_neg (by simp), a1, if_pos rfl, List.append_assoc, List.length_append, storB_len]
  simp only [Nat.add_assoc]
/-- All that is told: stored blocks, and a last one. -/
def storedL (ps : List (List Int)) : List Int := ps.flatMap (storB 0)
theorem blocks_then {xs rest : List Int} (h : FinalOf xs rest) : ∀ (ps : List (List Int)), (∀ p ∈ ps, (∀ x ∈ p, 0 ≤ x ∧ x ≤ 255) ∧ p.length ≤ 65535) → ∀ (pre out : List Int) (most f : Nat), out.length + (ps.flatten.length + rest.length) ≤ most → ps.length ≤ f →
    ∃ q, blksF (pre ++ (storedL ps ++ xs)) most (f + 1) out (8 * pre.length) = (out ++ (ps.flatten ++ rest), q, 0) ∧ (q + 7) / 8 = pre.length + ((storedL ps).length + xs.length)
  | [], _, pre, out, most, f, hm, hf => by
    obtain ⟨q, h1, h2⟩ := h pre out most f (by simpa using hm)
    exact ⟨q, by simpa [storedL] using h1, by simpa [storedL] using h2⟩
  | p :: ps, hp, pre, out, most, f, hm, hf => by
    obtain ⟨a1, a2⟩ := hp p List.mem_cons_self
    rw [List.flatten_cons, List.length_append] at hm
    rw [List.length_cons] at hf
    obtain ⟨f', rfl⟩ : ∃ f', f = f' + 1 := ⟨f - 1, by omega⟩
    obtain ⟨q, h1, h2⟩ := blocks_then h ps (fun r hr => hp r (List.mem_cons_of_mem _ hr)) (pre ++ storB 0 p) (out ++ p) most f' (by rw [List.length_append]; omega) (by omega)
    have e : storedL (p :: ps) = storB 0 p ++ storedL ps := by simp [storedL]
    refine ⟨q, ?_, ?_⟩
    · have hs : ∀ ys, blksF (pre ++ (storB 0 p ++ ys)) most (f' + 1 + 1) out (8 * pre.length) = blksF ((pre ++ storB 0 p) ++ ys) most (f' + 1) (out ++ p) (8 * (pre ++ storB 0 p).length) := fun ys => by
        obtain ⟨b1, b2, b3⟩ := stored_at pre ys p out 0 most (.inl rfl) a1 a2 (by omega)
        have hl2 : (pre ++ (storB 0 p ++ ys)).length = pre.length + (5 + p.length + ys.length) := by rw [List.length_append, List.length_append, storB_len]
        rw [blksF, if_neg (by omega), if_neg (by omega), b2, blockF, if_pos rfl, b3, if_neg (by simp), b1, if_pos rfl, List.append_assoc, List.length_append, storB_len]
        simp only [Nat.add_assoc]
      rw [e, List.append_assoc, hs, h1, List.flatten_cons, List.append_assoc, List.append_assoc]
    · rw [h2, e, List.length_append, List.length_append]; omega
theorem storedL_len : ∀ ps : List (List Int), (storedL ps).length = 5 * ps.length + ps.flatten.length
  | [] => rfl
  | p :: ps => by
    have e : storedL (p :: ps) = storB 0 p ++ storedL ps := by simp [storedL]
    rw [e, List.length_append, storB_len, storedL_len ps, List.flatten_cons, List.length_append, List.length_cons]; omega
theorem blocks_infl {xs rest : List Int} (h : FinalOf xs rest) {ps : List (List Int)} (hp : ∀ p ∈ ps, (∀ x ∈ p, 0 ≤ x ∧ x ≤ 255) ∧ p.length ≤ 65535) {most : Int} (h0 : ((ps.flatten.length + rest.length : Nat) : Int) ≤ most) (h1 : most ≤ 16384) :
    inflR (storedL ps ++ xs) most = (ps.flatten ++ rest, (storedL ps ++ xs).length, 0) := by
  have hl := storedL_len ps
  obtain ⟨q, hq, h8⟩ := blocks_then h ps hp [] [] most.toNat (8 * (storedL ps ++ xs).length) (by simp only [List.length_nil]; omega) (by rw [List.length_append]; omega)
  have e : inflF (storedL ps ++ xs) most.toNat = (ps.flatten ++ rest, q, 0) := by unfold inflF; simpa using hq
  rw [inflR_of (by omega) h1 (by rw [e]), e, List.length_append]
  simp only [List.length_nil, Nat.zero_add] at h8
  rw [h8]
end Go.Proofs.YtkpabdjniiepkaaGreatDoor
