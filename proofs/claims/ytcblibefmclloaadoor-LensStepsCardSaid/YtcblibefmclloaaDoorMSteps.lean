/- What is packed is unpacked as the same: plain lists. -/
import Derived.Test.YtcblibefmclloaaDoorMPack
import Derived.Test.YtcblibefmclloaaDoorMAdd
namespace Go.Proofs.YtcblibefmclloaaDoor
theorem last_rep (l : List Int) (v : Int) (k : Nat) (h : 1 ≤ k) : (l ++ List.replicate k v).getD ((l ++ List.replicate k v).length - 1) 0 = v := by
  rw [List.getD_eq_getElem?_getD, List.getElem?_append_right (by simp; omega), List.getElem?_replicate]
  rw [if_pos (by simp; omega)]; rfl
/-- A list with what many steps say, or nothing. -/
def more (l : List Int) (k : Nat) (v : Int) (r : List (Int × Int)) (m : Int) : Option (List Int) :=
  if ((l.length + k : Nat) : Int) ≤ m then unpackTo (l ++ List.replicate k v) r m else none
theorem more_zero (l : List Int) (v : Int) (r : List (Int × Int)) (m : Int) (h : (l.length : Int) ≤ m) : more l 0 v r m = unpackTo l r m := by
  rw [more, if_pos (by simpa using h)]; simp
theorem unpackTo_one {l : List Int} {s e v m : Int} {k : Nat} {r : List (Int × Int)} (h : sayF l s e = some (v, k)) : unpackTo l ((s, e) :: r) m = more l k v r m := by
  rw [more]
  by_cases hm : ((l.length + k : Nat) : Int) ≤ m
  · rw [if_pos hm]; exact unpackTo_cons (addF_some h hm)
  · rw [if_neg hm]; exact unpackTo_stop (addF_many h (by omega))
theorem more_more {l : List Int} {j k : Nat} {v m : Int} {r : List (Int × Int)} : (if ((l.length + j : Nat) : Int) ≤ m then more (l ++ List.replicate j v) k v r m else none) = more l (j + k) v r m := by
  simp only [more, List.length_append, List.length_replicate, List.append_assoc, List.replicate_append_replicate]
  by_cases h : ((l.length + (j + k) : Nat) : Int) ≤ m
  · rw [if_pos (by omega), if_pos (by omega), if_pos h]
  · rw [if_neg h]
    split
    · rw [if_neg (by omega)]
    · rfl
/-- Steps that say a value many times. -/
theorem unpack_reps (fr sym top : Nat) (v : Int) (P : List Int → Prop) (h0 : 0 < fr) (h1 : fr ≤ top) (hP : ∀ l k, P l → P (l ++ List.replicate k v))
    (hs : ∀ l k, P l → fr ≤ k → k ≤ top → sayF l sym ((k : Int) - fr) = some (v, k)) (n : Nat) :
    ∀ l r m, P l → (l.length : Int) ≤ m → unpackTo l (reps fr sym top n ++ r) m = more l (n - left fr top n) v r m := by
  induction n using Nat.strongRecOn with
  | _ n ih =>
    intro l r m hp hm
    have hle := reps_len fr sym top n h0 (by omega)
    by_cases h : fr ≤ n
    · rw [reps_ge h0 (by omega) h, left_ge h0 (by omega) h, List.cons_append]
      have hsy := hs l (min n top) hp (by omega) (by omega)
      rw [unpackTo_one hsy, more]
      have hle2 := reps_len fr sym top (n - min n top) h0 (by omega)
      rw [show n - left fr top (n - min n top) = min n top + (n - min n top - left fr top (n - min n top)) by omega, ← more_more]
      by_cases hm2 : ((l.length + min n top : Nat) : Int) ≤ m
      · rw [if_pos hm2, if_pos hm2]
        exact ih _ (by omega) _ r m (hP _ _ hp) (by rw [List.length_append, List.length_replicate]; exact hm2)
      · rw [if_neg hm2, if_neg hm2]
    · rw [reps_lt (by omega), left_lt (by omega), Nat.sub_self, more_zero _ _ _ _ hm]; rfl
theorem unpack_lits (v : Int) (h0 : 0 ≤ v) (h15 : v ≤ 15) (n : Nat) : ∀ l r m, (l.length : Int) ≤ m → unpackTo l (List.replicate n (v, (0 : Int)) ++ r) m = more l n v r m := by
  induction n with
  | zero => intro l r m hm; rw [more_zero _ _ _ _ hm]; rfl
  | succ n ih =>
    intro l r m hm
    rw [List.replicate_succ, List.cons_append, unpackTo_one (sayF_lit h0 h15), more, Nat.add_comm n 1, ← more_more]
    by_cases hm2 : ((l.length + 1 : Nat) : Int) ≤ m
    · rw [if_pos hm2, if_pos hm2]
      exact ih _ r m (by rw [List.length_append, List.length_replicate]; exact hm2)
    · rw [if_neg hm2, if_neg hm2]
theorem more_then {l : List Int} {j k : Nat} {v m : Int} {r : List (Int × Int)} {X : List Int → Option (List Int)} (hX : ∀ l', (l'.length : Int) ≤ m → X l' = more l' k v r m) :
    (if ((l.length + j : Nat) : Int) ≤ m then X (l ++ List.replicate j v) else none) = more l (j + k) v r m := by
  rw [← more_more]
  by_cases h : ((l.length + j : Nat) : Int) ≤ m
  · rw [if_pos h, if_pos h]; exact hX _ (by rw [List.length_append, List.length_replicate]; exact h)
  · rw [if_neg h, if_neg h]
theorem unpack_z (n : Nat) (l : List Int) (r : List (Int × Int)) (m : Int) (hm : (l.length : Int) ≤ m) : unpackTo l (zsteps n ++ r) m = more l n 0 r m := by
  have h18 := unpack_reps 11 18 138 0 (fun _ => True) (by omega) (by omega) (fun _ _ _ => trivial) (fun l k _ h1 h2 => by
    rw [show ((18 : Nat) : Int) = 18 from rfl, sayF_18 (by omega) (by omega)]; congr 2; omega) n
  have h17 := fun n' => unpack_reps 3 17 10 0 (fun _ => True) (by omega) (by omega) (fun _ _ _ => trivial) (fun l k _ h1 h2 => by
    rw [show ((17 : Nat) : Int) = 17 from rfl, sayF_17 (by omega) (by omega)]; congr 2; omega) n'
  have l1 := reps_len 11 18 138 n (by omega) (by omega)
  have l2 := reps_len 3 17 10 (left 11 138 n) (by omega) (by omega)
  rw [zsteps, List.append_assoc, List.append_assoc, h18 l _ m trivial hm, more]
  rw [more_then (k := left 11 138 n) (r := r) (X := fun l' => unpackTo l' (reps 3 17 10 (left 11 138 n) ++ (List.replicate (left 3 10 (left 11 138 n)) (0, 0) ++ r)) m)]
  · rw [show n - left 11 138 n + left 11 138 n = n by omega]
  · intro l' hl'
    show unpackTo l' _ m = _
    rw [h17 _ l' _ m trivial hl', more]
    rw [more_then (k := left 3 10 (left 11 138 n)) (r := r) (X := fun l' => unpackTo l' (List.replicate (left 3 10 (left 11 138 n)) (0, 0) ++ r) m) (fun l'' h => unpack_lits 0 (by omega) (by omega) _ l'' r m h)]
    rw [show left 11 138 n - left 3 10 (left 11 138 n) + left 3 10 (left 11 138 n) = left 11 138 n by omega]
theorem unpack_v (v : Int) (h0 : 0 ≤ v) (h15 : v ≤ 15) (n : Nat) (hn : 1 ≤ n) (l : List Int) (r : List (Int × Int)) (m : Int) (hm : (l.length : Int) ≤ m) : unpackTo l (vsteps v n ++ r) m = more l n v r m := by
  have h16 := unpack_reps 3 16 6 v (fun l => l ≠ [] ∧ l.getD (l.length - 1) 0 = v) (by omega) (by omega) (fun l k hp => by
      rcases Nat.eq_zero_or_pos k with rfl | hk
      · simpa using hp
      · exact ⟨by simp [hp.1], last_rep l v k hk⟩)
    (fun l k hp h1 h2 => by
      rw [show ((16 : Nat) : Int) = 16 from rfl, sayF_16 (by omega) (by omega) hp.1, hp.2]; congr 2; omega) (n - 1)
  have l1 := reps_len 3 16 6 (n - 1) (by omega) (by omega)
  rw [vsteps, List.cons_append, unpackTo_one (sayF_lit h0 h15), more]
  by_cases hm2 : ((l.length + 1 : Nat) : Int) ≤ m
  · rw [if_pos hm2, List.append_assoc]
    rw [h16 (l ++ List.replicate 1 v) _ m ⟨by simp, last_rep l v 1 (by omega)⟩ (by rw [List.length_append, List.length_replicate]; exact hm2), more]
    rw [more_then (k := left 3 6 (n - 1)) (r := r) (X := fun l' => unpackTo l' (List.replicate (left 3 6 (n - 1)) (v, 0) ++ r) m) (fun l'' h => unpack_lits v h0 h15 _ l'' r m h)]
    rw [show n - 1 - left 3 6 (n - 1) + left 3 6 (n - 1) = n - 1 by omega]
    have := more_more (l := l) (j := 1) (k := n - 1) (v := v) (m := m) (r := r)
    rw [if_pos hm2] at this
    rw [this, show 1 + (n - 1) = n by omega]
  · rw [if_neg hm2, more, if_neg (by omega)]
theorem unpack_r (v : Int) (h0 : 0 ≤ v) (h15 : v ≤ 15) (n : Nat) (hn : 1 ≤ n) (l : List Int) (r : List (Int × Int)) (m : Int) (hm : (l.length : Int) ≤ m) : unpackTo l (rsteps v n ++ r) m = more l n v r m := by
  unfold rsteps
  split
  · rename_i h; subst h; exact unpack_z n l r m hm
  · exact unpack_v v h0 h15 n hn l r m hm
theorem run_split (v : Int) (r : List Int) : v :: r = List.replicate (runN v (v :: r)) v ++ (v :: r).drop (runN v (v :: r)) := by
  have h := runN_get v (v :: r)
  have hl := runN_le v (v :: r)
  have e : (v :: r).take (runN v (v :: r)) = List.replicate (runN v (v :: r)) v := by
    refine List.ext_getElem (by rw [List.length_take, List.length_replicate]; omega) fun i h1 h2 => ?_
    have hi : i < runN v (v :: r) := by simpa using h2
    have := h i hi
    rw [List.getD_eq_getElem?_getD, List.getElem?_eq_getElem (by omega)] at this
    simpa using this
  rw [← e, List.take_append_drop]
theorem unpack_pack (xs : List Int) : ∀ (l : List Int) (m : Int), (∀ x ∈ xs, 0 ≤ x ∧ x ≤ 15) → (l.length : Int) ≤ m →
    unpackTo l (packF xs) m = if ((l.length + xs.length : Nat) : Int) ≤ m then some (l ++ xs) else none := by
  induction h : xs.length using Nat.strongRecOn generalizing xs with
  | _ n ih =>
    intro l m hx hm
    match xs, h with
    | [], h =>
      simp at h; subst h
      rw [packF_nil, unpackTo, if_pos (by simpa using hm)]; simp
    | v :: r, h =>
      have h1 := runN_head v r
      have h2 := runN_le v (v :: r)
      have hv := hx v (by simp)
      have hsp := run_split v r
      have hlen : ((v :: r).drop (runN v (v :: r))).length = n - runN v (v :: r) := by rw [List.length_drop, h]
      rw [packF, unpack_r v hv.1 hv.2 _ h1 l _ m hm, more]
      by_cases hm2 : ((l.length + runN v (v :: r) : Nat) : Int) ≤ m
      · rw [if_pos hm2, ih _ (by omega) _ hlen _ m (fun x hx' => hx x (List.mem_of_mem_drop hx')) (by rw [List.length_append, List.length_replicate]; exact hm2)]
        rw [List.length_append, List.length_replicate, List.append_assoc, ← hsp]
        by_cases hm3 : ((l.length + n : Nat) : Int) ≤ m
        · rw [if_pos (by omega), if_pos hm3]
        · rw [if_neg (by omega), if_neg hm3]
      · rw [if_neg hm2, if_neg (by omega)]
/-- Unpacked into as many lengths as there were: the same. -/
theorem unpackF_pack (xs : List Int) (hx : ∀ x ∈ xs, 0 ≤ x ∧ x ≤ 15) (h : xs.length ≤ 316) : unpackF (packF xs) xs.length = (xs, 0) := by
  have := unpack_pack xs [] xs.length hx (by simp)
  rw [if_pos (by simp)] at this
  exact unpackF_ok (by omega) (by omega) this (by simp)
theorem unpackF_less (xs : List Int) (hx : ∀ x ∈ xs, 0 ≤ x ∧ x ≤ 15) (h : xs.length ≤ 316) : unpackF (packF xs) ((xs.length : Int) - 1) = ([], if xs.length = 0 then 1 else 41) := by
  by_cases h0 : xs.length = 0
  · rw [if_pos h0]; exact unpackF_arg (by omega)
  · rw [if_neg h0]
    have := unpack_pack xs [] ((xs.length : Int) - 1) hx (by simp; omega)
    rw [if_neg (by simp; omega)] at this
    exact unpackF_none (by omega) (by omega) this
theorem unpackF_more (xs : List Int) (hx : ∀ x ∈ xs, 0 ≤ x ∧ x ≤ 15) (h : xs.length ≤ 316) : unpackF (packF xs) ((xs.length : Int) + 1) = ([], if xs.length = 316 then 1 else 41) := by
  by_cases h0 : xs.length = 316
  · rw [if_pos h0]; exact unpackF_arg (by omega)
  · rw [if_neg h0]
    have := unpack_pack xs [] ((xs.length : Int) + 1) hx (by simp; omega)
    rw [if_pos (by simp; omega)] at this
    exact unpackF_few (by omega) (by omega) this (by simp; omega)
end Go.Proofs.YtcblibefmclloaaDoor
