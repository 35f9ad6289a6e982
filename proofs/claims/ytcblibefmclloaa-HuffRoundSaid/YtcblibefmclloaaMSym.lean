/- Merging by halves: plain lists. -/
import Derived.Test.YtcblibefmclloaaSymRight
set_option linter.unusedVariables false
set_option linter.unusedSimpArgs false
namespace Go.Proofs.Ytcblibefmclloaa
theorem kth_s {x s t y : List Pk} {a m k : Nat} (h1 : a = x.length) (h2 : m = x.length + s.length) (g1 : a ≤ k) (g2 : k < m) : kth (x ++ (s ++ (t ++ y))) k = kth s (k - a) := by
  rw [kth_app, if_neg (by omega), kth_app, if_pos (by omega)]
  congr 1; omega
theorem kth_t {x s t y : List Pk} {m b k : Nat} (h2 : m = x.length + s.length) (h3 : b = x.length + s.length + t.length) (g1 : m ≤ k) (g2 : k < b) : kth (x ++ (s ++ (t ++ y))) k = kth t (k - m) := by
  rw [kth_app, if_neg (by omega), kth_app, if_neg (by omega), kth_app, if_pos (by omega)]
  congr 1; omega
/-- Where the search begins and ends. -/
def symC (a m b M st0 r0 : Nat) : Prop := (M < m ∧ st0 + b = M + m ∧ r0 = M) ∨ (m ≤ M ∧ st0 = a ∧ r0 = m)
theorem symC_bd {a m b M st0 r0 : Nat} (h : symC a m b M st0 r0) (hM : M = (a + b) / 2) (h1 : a < m) (h2 : m < b) : a ≤ st0 ∧ st0 ≤ r0 ∧ r0 ≤ m ∧ r0 ≤ M ∧ M < b ∧ (∀ c, st0 ≤ c → c < r0 → m ≤ M + m - 1 - c ∧ M + m - 1 - c < b) := by
  rcases h with ⟨h, h3, h4⟩ | ⟨h, h3, h4⟩
  · exact ⟨by omega, by omega, by omega, by omega, by omega, fun c g1 g2 => by omega⟩
  · exact ⟨by omega, by omega, by omega, by omega, by omega, fun c g1 g2 => by omega⟩
theorem sym_mono {x s t y : List Pk} {a m b M st0 r0 : Nat} (h1 : a = x.length) (h2 : m = x.length + s.length) (h3 : b = x.length + s.length + t.length) (hs : srt s) (ht : srt t) (hM : M = (a + b) / 2) (ha : a < m) (hb : m < b) (hc : symC a m b M st0 r0)
    {k h : Nat} (g1 : st0 ≤ k) (g2 : k ≤ h) (g3 : h < r0) (hp : (kth (x ++ (s ++ (t ++ y))) h).w ≤ (kth (x ++ (s ++ (t ++ y))) (M + m - 1 - h)).w) : (kth (x ++ (s ++ (t ++ y))) k).w ≤ (kth (x ++ (s ++ (t ++ y))) (M + m - 1 - k)).w := by
  obtain ⟨c1, c2, c3, c4, c5, c6⟩ := symC_bd hc hM ha hb
  have d1 := c6 k g1 (by omega)
  have d2 := c6 h (by omega) g3
  rw [kth_s h1 h2 (by omega) (by omega), kth_t h2 h3 d1.1 d1.2]
  rw [kth_s h1 h2 (by omega) (by omega), kth_t h2 h3 d2.1 d2.2] at hp
  have e1 := kth_mono hs (i := k - a) (j := h - a) (by omega) (by omega)
  have e2 := kth_mono ht (i := M + m - 1 - h - m) (j := M + m - 1 - k - m) (by omega) (by omega)
  omega
theorem sym_split {x s t y : List Pk} {a m b M st0 st r0 : Nat} (h1 : a = x.length) (h2 : m = x.length + s.length) (h3 : b = x.length + s.length + t.length) (hs : srt s) (ht : srt t) (hM : M = (a + b) / 2) (ha : a < m) (hb : m < b) (hc : symC a m b M st0 r0)
    (hT : Turn (fun c => (kth (x ++ (s ++ (t ++ y))) c).w ≤ (kth (x ++ (s ++ (t ++ y))) (M + m - 1 - c)).w) st0 st st r0) :
    ∃ s1 s2 t1 t2, s = s1 ++ s2 ∧ t = t1 ++ t2 ∧ a + s1.length = st ∧ st + t1.length = M ∧ (∀ p ∈ t1, ∀ q ∈ s2, p.w < q.w) ∧ (∀ p ∈ s1, ∀ q ∈ t2, p.w ≤ q.w) := by
  obtain ⟨c1, c2, c3, c4, c5, c6⟩ := symC_bd hc hM ha hb
  have T1 := hT.a
  have T3 := hT.c
  refine ⟨s.take (st - a), s.drop (st - a), t.take (M - st), t.drop (M - st), (List.take_append_drop _ _).symm, (List.take_append_drop _ _).symm, by rw [List.length_take]; omega, ?_, ?_, ?_⟩
  · rw [List.length_take]
    rcases hc with ⟨h, h4, h5⟩ | ⟨h, h4, h5⟩ <;> omega
  · intro p hp q hq
    obtain ⟨i, hi, rfl⟩ := mem_kth hp
    obtain ⟨j, hj, rfl⟩ := mem_kth hq
    rw [List.length_take] at hi
    rw [List.length_drop] at hj
    rw [kth_take (by omega), kth_drop]
    have hst : st < r0 := by rcases hc with ⟨h, h4, h5⟩ | ⟨h, h4, h5⟩ <;> omega
    have d := c6 st (by omega) hst
    have := hT.no st (Nat.le_refl _) hst
    rw [kth_s h1 h2 (by omega) (by omega), kth_t h2 h3 d.1 d.2] at this
    have e1 := kth_mono hs (i := st - a) (j := st - a + j) (by omega) (by omega)
    have e2 := kth_mono ht (i := i) (j := M + m - 1 - st - m) (by omega) (by omega)
    omega
  · intro p hp q hq
    obtain ⟨i, hi, rfl⟩ := mem_kth hp
    obtain ⟨j, hj, rfl⟩ := mem_kth hq
    rw [List.length_take] at hi
    rw [List.length_drop] at hj
    rw [kth_take (by omega), kth_drop]
    have hst : st0 < st := by rcases hc with ⟨h, h4, h5⟩ | ⟨h, h4, h5⟩ <;> omega
    have d := c6 (st - 1) (by omega) (by omega)
    have := hT.yes (st - 1) (by omega) (by omega)
    rw [kth_s h1 h2 (by omega) (by omega), kth_t h2 h3 d.1 d.2] at this
    have e1 := kth_mono hs (i := i) (j := st - 1 - a) (by omega) (by omega)
    have e2 := kth_mono ht (i := M + m - 1 - (st - 1) - m) (j := M - st + j) (by omega) (by omega)
    omega
theorem sym_join {s1 s2 t1 t2 r1 r2 : List Pk} (hs : srt (s1 ++ s2)) (ht : srt (t1 ++ t2)) (f1 : ∀ p ∈ t1, ∀ q ∈ s2, p.w < q.w) (f2 : ∀ p ∈ s1, ∀ q ∈ t2, p.w ≤ q.w) (h1 : SS r1 (s1 ++ t1)) (h2 : SS r2 (s2 ++ t2)) : SS (r1 ++ r2) (s1 ++ s2 ++ (t1 ++ t2)) := by
  refine ⟨srt_app h1.1 h2.1 ?_, ?_⟩
  · intro p hp q hq
    rcases List.mem_append.1 (h1.mem.1 hp) with hp | hp <;> rcases List.mem_append.1 (h2.mem.1 hq) with hq | hq
    · exact srt_le hs p hp q hq
    · exact f2 p hp q hq
    · exact Int.le_of_lt (f1 p hp q hq)
    · exact srt_le ht p hp q hq
  · refine (h1.2.app h2.2).trans ?_
    have e1 : s1 ++ t1 ++ (s2 ++ t2) = s1 ++ ((t1 ++ s2) ++ t2) := by simp
    have e2 : s1 ++ s2 ++ (t1 ++ t2) = s1 ++ ((s2 ++ t1) ++ t2) := by simp
    rw [e1, e2]
    refine (same.refl s1).app (same.app ?_ (same.refl t2))
    exact same_swap s2 t1 (fun p hp q hq => by have := f1 q hq p hp; omega)
theorem ss_left_nil {t : List Pk} (h : srt t) : SS t ([] ++ t) := ⟨h, same.refl _⟩
theorem ss_right_nil {t : List Pk} (h : srt t) : SS t (t ++ []) := by rw [List.append_nil]; exact ⟨h, same.refl _⟩
end Go.Proofs.Ytcblibefmclloaa
