/- What packing lengths gives: plain lists. -/
set_option linter.unusedVariables false
set_option linter.unusedSimpArgs false
namespace Go.Proofs.YtcblibefmclloaaDoor

/-- How many times a number stands at the head. -/
def runN (v : Int) : List Int → Nat
  | [] => 0
  | x :: r => if x = v then runN v r + 1 else 0
theorem runN_le (v : Int) (l : List Int) : runN v l ≤ l.length := by
  induction l with
  | nil => simp [runN]
  | cons x r ih => simp only [runN, List.length_cons]; split <;> omega
theorem runN_head (x : Int) (r : List Int) : 1 ≤ runN x (x :: r) := by simp [runN]
theorem runN_of (v : Int) (l : List Int) : ∀ n, n ≤ l.length → (∀ j, j < n → l.getD j 0 = v) → (n < l.length → l.getD n 0 ≠ v) → runN v l = n := by
  induction l with
  | nil => intro n hn _ _; simp at hn; subst hn; rfl
  | cons x r ih =>
    intro n hn h1 h2
    cases n with
    | zero =>
      have := h2 (by simp)
      simp at this
      simp [runN, this]
    | succ n =>
      have e : x = v := by simpa using h1 0 (by omega)
      have := ih n (by simpa using hn) (fun j hj => by simpa using h1 (j + 1) (by omega)) (fun h => by simpa using h2 (by simpa using h))
      simp [runN, e, this]
theorem runN_get (v : Int) (l : List Int) : ∀ j, j < runN v l → l.getD j 0 = v := by
  induction l with
  | nil => intro j hj; simp [runN] at hj
  | cons x r ih =>
    intro j hj
    simp only [runN] at hj
    split at hj
    · cases j with
      | zero => simpa
      | succ j => simpa using ih j (by omega)
    · omega
/-- Steps that say many. -/
def reps (fr sym top n : Nat) : List (Int × Int) :=
  if h : 0 < fr ∧ 0 < top ∧ fr ≤ n then ((sym : Int), ((min n top : Nat) : Int) - (fr : Int)) :: reps fr sym top (n - min n top) else []
termination_by n
decreasing_by have := h.1; have := h.2; omega
def left (fr top n : Nat) : Nat :=
  if h : 0 < fr ∧ 0 < top ∧ fr ≤ n then left fr top (n - min n top) else n
termination_by n
decreasing_by have := h.1; have := h.2; omega
theorem reps_ge {fr sym top n : Nat} (h0 : 0 < fr) (h1 : 0 < top) (h : fr ≤ n) : reps fr sym top n = ((sym : Int), ((min n top : Nat) : Int) - (fr : Int)) :: reps fr sym top (n - min n top) := by
  rw [reps, dif_pos ⟨h0, h1, h⟩]
theorem reps_lt {fr sym top n : Nat} (h : n < fr) : reps fr sym top n = [] := by
  rw [reps, dif_neg (by omega)]
theorem left_ge {fr top n : Nat} (h0 : 0 < fr) (h1 : 0 < top) (h : fr ≤ n) : left fr top n = left fr top (n - min n top) := by
  rw [left, dif_pos ⟨h0, h1, h⟩]
theorem left_lt {fr top n : Nat} (h : n < fr) : left fr top n = n := by
  rw [left, dif_neg (by omega)]
theorem left_le (fr top n : Nat) (h0 : 0 < fr) (h1 : 0 < top) : left fr top n < fr := by
  induction n using Nat.strongRecOn with
  | _ n ih =>
    by_cases h : fr ≤ n
    · rw [left_ge h0 h1 h]; exact ih _ (by omega)
    · rw [left_lt (by omega)]; omega
theorem reps_len (fr sym top n : Nat) (h0 : 0 < fr) (h1 : 0 < top) : (reps fr sym top n).length + left fr top n ≤ n := by
  induction n using Nat.strongRecOn with
  | _ n ih =>
    by_cases h : fr ≤ n
    · rw [reps_ge h0 h1 h, left_ge h0 h1 h]
      have := ih (n - min n top) (by omega)
      simp only [List.length_cons]; omega
    · rw [reps_lt (by omega), left_lt (by omega)]; simp
theorem reps_step {fr sym top m r : Nat} {es : List (Int × Int)} (h0 : 0 < fr) (h1 : 0 < top) (h : fr ≤ r) (hA : reps fr sym top m = es ++ reps fr sym top r) (hL : left fr top m = left fr top r) {q : Int} {r' : Nat} (hq : q = ((min r top : Nat) : Int) - (fr : Int)) (hr : r' = r - min r top) :
    reps fr sym top m = (es ++ [((sym : Int), q)]) ++ reps fr sym top r' ∧ left fr top m = left fr top r' := by
  subst hq; subst hr
  rw [hA, hL, reps_ge h0 h1 h, left_ge h0 h1 h]
  simp
theorem reps_stop {fr sym top m r : Nat} {es : List (Int × Int)} (h : r < fr) (hA : reps fr sym top m = es ++ reps fr sym top r) (hL : left fr top m = left fr top r) :
    reps fr sym top m = es ∧ left fr top m = r := by
  rw [hA, hL, reps_lt h, left_lt h]; simp
theorem zlast_ge {r : Nat} (h : 3 ≤ r) (h2 : r < 11) : reps 3 17 10 r = [(17, (r : Int) - 3)] ∧ left 3 10 r = 0 := by
  rw [reps_ge (by omega) (by omega) h, left_ge (by omega) (by omega) h, show min r 10 = r by omega, Nat.sub_self, reps_lt (by omega), left_lt (by omega)]
  exact ⟨rfl, rfl⟩
theorem zlast_lt {r : Nat} (h : r < 3) : reps 3 17 10 r = [] ∧ left 3 10 r = r := ⟨reps_lt h, left_lt h⟩
def zsteps (n : Nat) : List (Int × Int) := reps 11 18 138 n ++ (reps 3 17 10 (left 11 138 n) ++ List.replicate (left 3 10 (left 11 138 n)) (0, 0))
def vsteps (v : Int) (n : Nat) : List (Int × Int) := (v, 0) :: (reps 3 16 6 (n - 1) ++ List.replicate (left 3 6 (n - 1)) (v, 0))
def rsteps (v : Int) (n : Nat) : List (Int × Int) := if v = 0 then zsteps n else vsteps v n
theorem rsteps_len (v : Int) (n : Nat) (h : 1 ≤ n) : (rsteps v n).length ≤ n := by
  unfold rsteps
  split
  · have h1 := reps_len 11 18 138 n (by omega) (by omega)
    have h2 := reps_len 3 17 10 (left 11 138 n) (by omega) (by omega)
    simp only [zsteps, List.length_append, List.length_replicate]; omega
  · have h1 := reps_len 3 16 6 (n - 1) (by omega) (by omega)
    simp only [vsteps, List.length_cons, List.length_append, List.length_replicate]; omega
/-- The steps that say a list. -/
def packF (l : List Int) : List (Int × Int) :=
  match l with
  | [] => []
  | v :: r => rsteps v (runN v (v :: r)) ++ packF ((v :: r).drop (runN v (v :: r)))
termination_by l.length
decreasing_by have := runN_head v r; simp only [List.length_drop, List.length_cons]; omega
theorem packF_nil : packF [] = [] := by rw [packF]
theorem packF_len (l : List Int) : (packF l).length ≤ l.length := by
  induction h : l.length using Nat.strongRecOn generalizing l with
  | _ n ih =>
    match l, h with
    | [], _ => rw [packF_nil]; simp
    | v :: r, h =>
      have h1 := runN_head v r
      have h2 := runN_le v (v :: r)
      have h3 := rsteps_len v _ h1
      have h4 := ih _ (by rw [← h, List.length_drop]; omega) ((v :: r).drop (runN v (v :: r))) rfl
      rw [packF, List.length_append]
      rw [List.length_drop] at h4
      omega
/-- At a place: the run that begins there, then the rest. -/
theorem packF_at (xs : List Int) (i n : Nat) (hi : i < xs.length) (hn : i + n ≤ xs.length) (h1 : ∀ j, j < n → xs.getD (i + j) 0 = xs.getD i 0) (h2 : i + n < xs.length → xs.getD (i + n) 0 ≠ xs.getD i 0) :
    packF (xs.drop i) = rsteps (xs.getD i 0) n ++ packF (xs.drop (i + n)) := by
  have e : xs.drop i = xs.getD i 0 :: xs.drop (i + 1) := by
    rw [List.drop_eq_getElem_cons hi]; simp [List.getD, hi]
  have hr : runN (xs.getD i 0) (xs.drop i) = n := by
    refine runN_of _ _ n (by rw [List.length_drop]; omega) (fun j hj => ?_) (fun h => ?_)
    · have := h1 j hj
      simpa [List.getD, List.getElem?_drop] using this
    · have := h2 (by rw [List.length_drop] at h; omega)
      simpa [List.getD, List.getElem?_drop] using this
  rw [e] at hr ⊢
  rw [packF, hr]
  rw [← e, List.drop_drop]
end Go.Proofs.YtcblibefmclloaaDoor
