/- Stable sorting of packs by weight: plain lists. -/
import Derived.Test.YtcblibefmclloaaMRot
set_option linter.unusedVariables false
set_option linter.unusedSimpArgs false
namespace Go.Proofs.Ytcblibefmclloaa
def srt (l : List Pk) : Prop := l.Pairwise (fun p q => p.w ≤ q.w)
/-- The packs of one weight, in their order. -/
def ofW (v : Int) (l : List Pk) : List Pk := l.filter (fun p => decide (p.w = v))
/-- The same packs, those of one weight in the same order. -/
def same (r l : List Pk) : Prop := r.Perm l ∧ ∀ v, ofW v r = ofW v l
theorem same.refl (l : List Pk) : same l l := ⟨List.Perm.refl _, fun _ => rfl⟩
theorem same.trans {a b c : List Pk} (h : same a b) (k : same b c) : same a c := ⟨h.1.trans k.1, fun v => (h.2 v).trans (k.2 v)⟩
theorem same.symm {a b : List Pk} (h : same a b) : same b a := ⟨h.1.symm, fun v => (h.2 v).symm⟩
theorem ofW_app (v : Int) (a b : List Pk) : ofW v (a ++ b) = ofW v a ++ ofW v b := List.filter_append ..
theorem same.app {a b c d : List Pk} (h : same a b) (k : same c d) : same (a ++ c) (b ++ d) := ⟨h.1.append k.1, fun v => by rw [ofW_app, ofW_app, h.2, k.2]⟩
theorem same.len {a b : List Pk} (h : same a b) : a.length = b.length := h.1.length_eq
theorem ofW_nil_of {v : Int} {l : List Pk} (h : ∀ p ∈ l, p.w ≠ v) : ofW v l = [] := by
  unfold ofW
  rw [List.filter_eq_nil_iff]
  intro p hp
  simpa using h p hp
/-- Two parts of other weights may be exchanged. -/
theorem same_swap (u v : List Pk) (h : ∀ p ∈ u, ∀ q ∈ v, p.w ≠ q.w) : same (v ++ u) (u ++ v) := by
  refine ⟨List.perm_append_comm, fun x => ?_⟩
  rw [ofW_app, ofW_app]
  by_cases hx : ∃ p ∈ u, p.w = x
  · obtain ⟨p, hp, rfl⟩ := hx
    rw [ofW_nil_of (l := v) (fun q hq => fun e => h p hp q hq e.symm)]; simp
  · rw [ofW_nil_of (l := u) (fun p hp e => hx ⟨p, hp, e⟩)]; simp
/-- Sorted, those of one weight in their order. -/
def SS (r l : List Pk) : Prop := srt r ∧ same r l
theorem srt_app {a b : List Pk} (ha : srt a) (hb : srt b) (h : ∀ p ∈ a, ∀ q ∈ b, p.w ≤ q.w) : srt (a ++ b) := List.pairwise_append.2 ⟨ha, hb, fun p hp q hq => h p hp q hq⟩
theorem srt_left {a b : List Pk} (h : srt (a ++ b)) : srt a := (List.pairwise_append.1 h).1
theorem srt_right {a b : List Pk} (h : srt (a ++ b)) : srt b := (List.pairwise_append.1 h).2.1
theorem srt_le {a b : List Pk} (h : srt (a ++ b)) : ∀ p ∈ a, ∀ q ∈ b, p.w ≤ q.w := fun p hp q hq => (List.pairwise_append.1 h).2.2 p hp q hq
theorem srt_nil : srt [] := List.Pairwise.nil
theorem srt_one (p : Pk) : srt [p] := List.pairwise_singleton _ _
theorem SS.len {r l : List Pk} (h : SS r l) : r.length = l.length := h.2.len
theorem SS.mem {r l : List Pk} (h : SS r l) {p : Pk} : p ∈ r ↔ p ∈ l := h.2.1.mem_iff
theorem SS.of_same {r l l' : List Pk} (h : SS r l) (k : same l l') : SS r l' := ⟨h.1, h.2.trans k⟩
/-- One more, put at its place. -/
theorem ss_insert {t1 t2 l : List Pk} {e : Pk} (h : SS (t1 ++ t2) l) (h1 : ∀ p ∈ t1, p.w ≤ e.w) (h2 : ∀ p ∈ t2, e.w < p.w) : SS (t1 ++ e :: t2) (l ++ [e]) := by
  refine ⟨srt_app (srt_left h.1) ?_ ?_, ?_⟩
  · exact List.pairwise_cons.2 ⟨fun p hp => Int.le_of_lt (h2 p hp), srt_right h.1⟩
  · intro p hp q hq
    rcases List.mem_cons.1 hq with rfl | hq
    · exact h1 p hp
    · exact srt_le h.1 p hp q hq
  · refine same.trans ?_ (h.2.app (same.refl [e]))
    rw [List.append_assoc]
    refine (same.refl t1).app ?_
    exact same_swap t2 [e] (fun p hp q hq => by rw [List.mem_singleton.1 hq]; have := h2 p hp; omega)
/-- What is sorted is known by its packs. -/
theorem srt_eq {r : List Pk} : ∀ {l : List Pk}, srt r → srt l → same r l → r = l := by
  induction r with
  | nil => intro l _ _ h; exact (List.length_eq_zero_iff.1 h.len.symm).symm
  | cons p r ih =>
    intro l hr hl h
    match l, h, hl with
    | [], h, _ => have := h.len; simp at this
    | q :: l, h, hl =>
      have hw : p.w = q.w := by
        have h1 : p ∈ q :: l := h.1.mem_iff.1 (List.mem_cons_self ..)
        have h2 : q ∈ p :: r := h.1.mem_iff.2 (List.mem_cons_self ..)
        have a1 : q.w ≤ p.w := by
          rcases List.mem_cons.1 h1 with rfl | h1
          · exact Int.le_refl _
          · exact (List.pairwise_cons.1 hl).1 p h1
        have a2 : p.w ≤ q.w := by
          rcases List.mem_cons.1 h2 with rfl | h2
          · exact Int.le_refl _
          · exact (List.pairwise_cons.1 hr).1 q h2
        omega
      have hv := h.2 p.w
      unfold ofW at hv
      rw [List.filter_cons_of_pos (by simp), List.filter_cons_of_pos (by simp [hw])] at hv
      injection hv with e1 e2
      subst e1
      refine congrArg (p :: ·) (ih (List.pairwise_cons.1 hr).2 (List.pairwise_cons.1 hl).2 ⟨(List.perm_cons p).1 h.1, fun v => ?_⟩)
      have hv := h.2 v
      unfold ofW at hv ⊢
      by_cases e : p.w = v
      · rw [List.filter_cons_of_pos (by simpa using e), List.filter_cons_of_pos (by simpa using e)] at hv
        injection hv
      · rw [List.filter_cons_of_neg (by simpa using e), List.filter_cons_of_neg (by simpa using e)] at hv
        exact hv
theorem swp_adj (A B : List Pk) (p q : Pk) : swp (A ++ p :: q :: B) A.length (A.length + 1) = A ++ q :: p :: B := by
  have h1 : kth (A ++ p :: q :: B) A.length = p := by rw [kth_app, if_neg (by omega), Nat.sub_self]; rfl
  have h2 : kth (A ++ p :: q :: B) (A.length + 1) = q := by rw [kth_app, if_neg (by omega), show A.length + 1 - A.length = 1 by omega]; rfl
  rw [swp, h1, h2, List.set_append_right _ _ (by omega), Nat.sub_self, List.set_append_right _ _ (by omega), show A.length + 1 - A.length = 1 by omega]
  rfl
theorem swp_adj' (A B : List Pk) (p q : Pk) : swp (A ++ p :: q :: B) (A.length + 1) A.length = A ++ q :: p :: B := by
  have h1 : kth (A ++ p :: q :: B) A.length = p := by rw [kth_app, if_neg (by omega), Nat.sub_self]; rfl
  have h2 : kth (A ++ p :: q :: B) (A.length + 1) = q := by rw [kth_app, if_neg (by omega), show A.length + 1 - A.length = 1 by omega]; rfl
  rw [swp, h1, h2, List.set_append_right _ _ (by omega), show A.length + 1 - A.length = 1 by omega, List.set_append_right _ _ (by omega), Nat.sub_self]
  rfl
end Go.Proofs.Ytcblibefmclloaa
