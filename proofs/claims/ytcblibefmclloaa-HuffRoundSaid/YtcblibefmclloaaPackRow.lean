/- Rows of packs with their symbols, in memory. -/
import Derived.Test.YtcblibefmclloaaPackApp
import Derived.Test.YtcblibefmclloaaMLim
import Derived.Test.YtcblibefmclloaaStableSort
import Derived.Deep.Onto
set_option linter.unusedVariables false
set_option linter.unusedSimpArgs false
namespace Go.Proofs.Ytcblibefmclloaa
open Go.RowKit
/-- The numbers that stand at a slice. -/
def rdS (w : World) (p : Pk) : List Int := (List.range p.n).map fun j => match p.a with
  | some a => match w.cell? ⟨a.block, a.off + j, none⟩ with
    | some (.int _ x) => x
    | _ => 0
  | none => 0
def absW (w : World) (p : Pk) : PP := (p.w, rdS w p)
def sv (p : Pk) : Value := .slice p.a p.n p.c
/-- A pack's symbols lie in memory of their own. -/
def Sy (w : World) (base : Nat) (ok : Nat → Prop) (p : Pk) : Prop := 0 < p.n ∧ ∃ xs, w.ownsRow base 3 1 (sv p) p.n (ints .i64 xs) ∧ ∀ g, (sv p).ownBlock = some g → ok g
theorem rdS_own {w : World} {base : Nat} {p : Pk} {xs : List Int} (h : w.ownsRow base 3 1 (sv p) p.n (ints .i64 xs)) : rdS w p = xs := by
  obtain ⟨A, c, hv, hr, -, -⟩ := own_ri h
  unfold sv at hv
  injection hv with h1 h2 h3
  have hl := hr.len
  refine List.ext_getElem (by simp [rdS, hl]) fun j h4 h5 => ?_
  have hj : j < p.n := by omega
  obtain ⟨b, o, ha, hc⟩ := hr.at hj
  rw [← h1] at ha
  simp only [rdS, List.getElem_map, List.getElem_range, ha, hc]
  exact nth_lt h5
theorem Sy.own {w : World} {base : Nat} {ok : Nat → Prop} {p : Pk} (h : Sy w base ok p) : w.ownsRow base 3 1 (sv p) p.n (ints .i64 (rdS w p)) := by
  obtain ⟨_, xs, h1, _⟩ := h
  rw [rdS_own h1]; exact h1
theorem own_int_block {w : World} {base : Nat} {e : TypeId} {size n : Nat} {v : Value} {xs : List Value} (h : w.ownsRow base e size v n xs) {g : Nat} (hg : v.ownBlock = some g) : ∃ cs, w.heap[g]? = some (.cells cs e (0, 0)) := by
  rcases h.2 with ⟨rfl, _⟩ | ⟨g', cap, cur, rfl, hb, hh, _⟩
  · simp [Value.ownBlock] at hg
  · have : g' = g := by simpa [Value.ownBlock] using hg
    subst this
    exact ⟨_, hh⟩
/-- What is no number's block may turn. -/
theorem Sy.keeps {w w' : World} {base : Nat} {ok : Nat → Prop} {p : Pk} {S : List Nat} (h : Sy w base ok p) (hk : Keeps S w w') (hS : ∀ g ∈ S, ¬ (ok g ∧ ∃ cs, w.heap[g]? = some (.cells cs 3 (0, 0)))) : Sy w' base ok p ∧ rdS w' p = rdS w p := by
  obtain ⟨hp, xs, ho, hok⟩ := h
  have ho2 := own_keeps ho hk (fun g hg hm => hS g hm ⟨hok g hg, own_int_block ho hg⟩)
  exact ⟨⟨hp, xs, ho2, hok⟩, by rw [rdS_own ho2, rdS_own ho]⟩
theorem Sy.mono {w : World} {base base' : Nat} {ok ok' : Nat → Prop} {p : Pk} (h : Sy w base ok p) (hb : base' ≤ base) (ho : ∀ g, base ≤ g → g < w.heap.size → ok g → ok' g) : Sy w base' ok' p := by
  obtain ⟨hp, xs, h1, h2⟩ := h
  exact ⟨hp, xs, h1.mono hb, fun g hg => ho g (own_lo h1 g hg) (own_hi h1 g hg) (h2 g hg)⟩
theorem own_form {w : World} {base : Nat} {e : TypeId} {size n : Nat} {v : Value} {xs : List Value} (h : w.ownsRow base e size v n xs) : ∃ A c, v = .slice A n c := by
  rcases h.2 with ⟨rfl, rfl⟩ | ⟨g, cap, cur, rfl, _⟩
  · exact ⟨_, _, rfl⟩
  · exact ⟨_, _, rfl⟩
theorem own_form2 {w : World} {base : Nat} {e : TypeId} {size n : Nat} {v : Value} {xs : List Value} (h : w.ownsRow base e size v n xs) : ∃ A c, v = .slice A n c ∧ n ≤ c := by
  rcases h.2 with ⟨rfl, rfl⟩ | ⟨g, cap, cur, rfl, _, _, hc, _⟩
  · exact ⟨_, _, rfl, Nat.le_refl _⟩
  · exact ⟨_, _, rfl, hc⟩
/-- A row of packs. -/
structure PR (w : World) (base : Nat) (ok : Nat → Prop) (b2 : Nat) (v : Value) (L : List Pk) (X : List PP) : Prop where
  own : w.ownsRow b2 64 2 v L.length (kcells L)
  sy : ∀ p ∈ L, Sy w base ok p
  ab : L.map (absW w) = X
theorem PR.nil (w : World) (base : Nat) (ok : Nat → Prop) (b2 : Nat) : PR w base ok b2 (.slice none 0 0) [] [] := ⟨World.ownsRow_nil _ _ _ _, by simp, rfl⟩
theorem PR.len {w : World} {base b2 : Nat} {ok : Nat → Prop} {v : Value} {L : List Pk} {X : List PP} (h : PR w base ok b2 v L X) : X.length = L.length := by rw [← h.ab, List.length_map]
theorem sy_ab {w w' : World} {base : Nat} {ok : Nat → Prop} {L : List Pk} (h : ∀ p ∈ L, Sy w' base ok p ∧ rdS w' p = rdS w p) : L.map (absW w') = L.map (absW w) :=
  List.map_congr_left fun p hp => by unfold absW; rw [(h p hp).2]
theorem PR.keeps {w w' : World} {base b2 : Nat} {ok : Nat → Prop} {v : Value} {L : List Pk} {X : List PP} {S : List Nat} (h : PR w base ok b2 v L X) (hk : Keeps S w w') (hv : ∀ g, v.ownBlock = some g → g ∉ S) (hS : ∀ g ∈ S, ¬ (ok g ∧ ∃ cs, w.heap[g]? = some (.cells cs 3 (0, 0)))) : PR w' base ok b2 v L X :=
  ⟨own_keeps h.own hk hv, fun p hp => ((h.sy p hp).keeps hk hS).1, by rw [sy_ab (fun p hp => (h.sy p hp).keeps hk hS)]; exact h.ab⟩
theorem PR.dr {w w' : World} {base b2 : Nat} {ok : Nat → Prop} {v : Value} {L : List Pk} {X : List PP} (h : PR w base ok b2 v L X) (hk : Keeps [] w w') : PR w' base ok b2 v L X := h.keeps hk (by simp) (by simp)
theorem PR.mono {w : World} {base b2 : Nat} {ok ok' : Nat → Prop} {v : Value} {L : List Pk} {X : List PP} (h : PR w base ok b2 v L X) (ho : ∀ g, base ≤ g → g < w.heap.size → ok g → ok' g) : PR w base ok' b2 v L X :=
  ⟨h.own, fun p hp => (h.sy p hp).mono (Nat.le_refl _) ho, h.ab⟩
/-- Sorted packs, sorted symbols. -/
theorem ss_abs {w : World} {r L : List Pk} (h : SS r L) : r.map (absW w) = sortP (L.map (absW w)) := by
  refine sortW_eq Prod.fst ?_ ⟨h.2.1.map _, fun v => ?_⟩
  · unfold Srt
    rw [List.pairwise_map]
    exact h.1
  · have := h.2.2 v
    unfold ofW at this
    rw [List.filter_map, List.filter_map]
    exact congrArg (List.map (absW w)) this
theorem okW_of {w : World} {L : List Pk} (h : ∀ x ∈ L.map (absW w), 0 ≤ x.1 ∧ x.1 ≤ 100000000000000000) : okW L := okW_mem.2 fun p hp => h (absW w p) (List.mem_map_of_mem hp)
/-- Sorting a row. -/
theorem PR.sort {w : World} {base b2 : Nat} {ok : Nat → Prop} {v : Value} {L : List Pk} {X : List PP} (h : PR w base ok b2 v L X) (hp : 0 < L.length) (hn : L.length ≤ 1000000) (hw : ∀ x ∈ X, 0 ≤ x.1 ∧ x.1 ≤ 100000000000000000) :
    Calls Try.prog 34 #[v, theCmp] w fun e w' => e = .returned (.tuple #[]) ∧ ∃ g r, v.ownBlock = some g ∧ b2 ≤ g ∧ PR w' base ok b2 v r (sortP X) ∧ Keeps [g] w w' ∧ r.length = L.length ∧ ∃ cs, w.heap[g]? = some (.cells cs 64 (0, 0)) := by
  obtain ⟨g, c, R, rfl, hl, hg, hb, hback⟩ := own_pb h.own hp
  refine (sort_calls w g L R _ c hb hl.symm (okW_of (w := w) (by rw [h.ab]; exact hw)) (by omega)).mono ?_
  rintro e w' ⟨rfl, r, hr, hb', hk⟩
  have hS : ∀ x ∈ [g], ¬ (ok x ∧ ∃ cs, w.heap[x]? = some (.cells cs 3 (0, 0))) := by
    intro x hx
    rw [List.mem_singleton.1 hx]
    rintro ⟨_, cs, hc⟩
    rw [show w.heap[g]? = some (.cells (kcells L ++ R).toArray 64 (0, 0)) from hb] at hc
    injection hc with hc
    injection hc with _ h2
    exact absurd h2 (by decide)
  have hsy : ∀ p ∈ r, Sy w' base ok p ∧ rdS w' p = rdS w p := fun p hp' => (h.sy p (hr.mem.1 hp')).keeps hk hS
  refine ⟨rfl, g, r, rfl, hg, ⟨?_, fun p hp' => (hsy p hp').1, ?_⟩, hk, hr.len, _, hb⟩
  · have := hback w' r hb' hr.len
    rw [hr.len]; exact this
  · rw [sy_ab hsy, ss_abs hr, h.ab]
def ob (v : Value) : List Nat := v.ownBlock.toList
theorem mem_ob {v : Value} {g : Nat} : g ∈ ob v ↔ v.ownBlock = some g := by unfold ob; cases v.ownBlock <;> simp [eq_comm]
theorem grown_keeps {w w' : World} {v : Value} (h : w.grownBy w' v.ownBlock) : Keeps (ob v) w w' :=
  (Keeps.refl (ob v) w).grown h (fun k hk => Or.inl (mem_ob.2 hk))
theorem Sy.grown {w w' : World} {base b2 n : Nat} {ok : Nat → Prop} {p : Pk} {v : Value} {L : List Pk} (h : Sy w base ok p) (hv : w.ownsRow b2 64 2 v n (kcells L)) (hg : w.grownBy w' v.ownBlock) : Sy w' base ok p ∧ rdS w' p = rdS w p := by
  refine h.keeps (grown_keeps hg) fun g hgm => ?_
  rintro ⟨_, cs, hc⟩
  obtain ⟨cs', hc'⟩ := own_int_block hv (mem_ob.1 hgm)
  rw [hc'] at hc
  injection hc with hc
  injection hc with _ h2
  exact absurd h2 (by decide)
theorem PR.cells {w : World} {base b2 : Nat} {ok : Nat → Prop} {v : Value} {L : List Pk} {X : List PP} (h : PR w base ok b2 v L X) (hp : 0 < L.length) :
    ∃ g c, v = .slice (some ⟨g, 0, none⟩) L.length c ∧ b2 ≤ g ∧ g < w.heap.size ∧ v.ownBlock = some g ∧ ∀ j, j < L.length → w.cell? ⟨g, j * 2, none⟩ = some (.int .i64 (kth L j).w) ∧ w.cell? ⟨g, j * 2 + 1, none⟩ = some (.slice (kth L j).a (kth L j).n (kth L j).c) := by
  obtain ⟨g, c, rfl, hg, hb, hc⟩ := own_cells h.own hp (by decide)
  refine ⟨g, c, rfl, hb, hg, rfl, fun j hj => ?_⟩
  have := kcells_get L [] j hj
  rw [List.append_nil] at this
  exact ⟨hc _ _ this.1, hc _ _ this.2⟩
theorem PR.ath {w : World} {base b2 : Nat} {ok : Nat → Prop} {v : Value} {L : List Pk} {X : List PP} (h : PR w base ok b2 v L X) {j : Nat} (hj : j < L.length) : (X.getD j (0, [])) = absW w (kth L j) := by
  rw [← h.ab, List.getD_eq_getElem?_getD, List.getElem?_map, List.getElem?_eq_getElem hj, kth_lt hj]; rfl
/-- A pack's symbols are read. -/
theorem Sy.reads {w : World} {base : Nat} {ok : Nat → Prop} {p : Pk} (h : Sy w base ok p) : RI .i64 w p.a p.n (rdS w p) ∧ ∃ g, p.a = some ⟨g, 0, none⟩ ∧ base ≤ g ∧ g < w.heap.size ∧ ok g := by
  have ho := h.own
  obtain ⟨g, c, hv, hg, hb, hc⟩ := own_cells ho h.1 (by decide)
  obtain ⟨A, c', hv', hr, -, -⟩ := own_ri ho
  unfold sv at hv hv'
  injection hv with h1 h2 h3
  injection hv' with h4 h5 h6
  subst h4
  obtain ⟨_, xs, ho2, hok⟩ := h
  exact ⟨hr, g, h1, hb, hg, hok g (by unfold sv; rw [h1]; rfl)⟩
theorem pack_no_int {w : World} {base b2 : Nat} {ok : Nat → Prop} {v : Value} {L : List Pk} {X : List PP} (h : PR w base ok b2 v L X) : ∀ g ∈ ob v, ¬ (ok g ∧ ∃ cs, w.heap[g]? = some (.cells cs 3 (0, 0))) := by
  rintro g hg ⟨_, cs, hc⟩
  obtain ⟨cs', hc'⟩ := own_int_block h.own (mem_ob.1 hg)
  rw [hc'] at hc
  injection hc with hc
  injection hc with _ h2
  exact absurd h2 (by decide)
/-- Another row was written to. -/
theorem PR.other {w w' : World} {base b2 b3 : Nat} {ok : Nat → Prop} {v v' : Value} {L L' : List Pk} {X X' : List PP} (h : PR w base ok b2 v L X) (h' : PR w base ok b3 v' L' X') (hk : Keeps (ob v') w w') (hne : ∀ g, v.ownBlock = some g → g < b3) : PR w' base ok b2 v L X :=
  h.keeps hk (fun g hg hm => by have := own_lo h'.own g (mem_ob.1 hm); have := hne g hg; omega) (pack_no_int h')
/-- A row with one pack more. -/
theorem PR.snoc {w w2 w3 : World} {base b2 : Nat} {ok : Nat → Prop} {v v' : Value} {L : List Pk} {X : List PP} {p : Pk} (h : PR w base ok b2 v L X) (hk : Keeps [] w w2) (hp : Sy w2 base ok p)
    (ho : w3.ownsRow b2 64 2 v' (L.length + 1) (kcells (L ++ [p]))) (hg : w2.grownBy w3 v.ownBlock) : PR w3 base ok b2 v' (L ++ [p]) (X ++ [absW w2 p]) := by
  have h2 := h.dr hk
  refine ⟨by rw [List.length_append]; exact ho, fun q hq => ?_, ?_⟩
  · rcases List.mem_append.1 hq with hq | hq
    · exact ((h2.sy q hq).grown h2.own hg).1
    · rw [List.mem_singleton.1 hq]; exact (hp.grown h2.own hg).1
  · rw [List.map_append, ← h2.ab, sy_ab (fun q hq => (h2.sy q hq).grown h2.own hg)]
    congr 1
    show [absW w3 p] = [absW w2 p]
    unfold absW; rw [(hp.grown h2.own hg).2]
theorem own_of_blk {w : World} {base g n : Nat} {xs : List Int} (h : Blk w g 3 (ints .i64 xs)) (hl : xs.length = n) (hb : base ≤ g) (hn : n ≤ 1000000000) : w.ownsRow base 3 1 (.slice (some ⟨g, 0, none⟩) n n) n (ints .i64 xs) :=
  ⟨by simp [ints, hl], .inr ⟨g, n, _, rfl, hb, h, Nat.le_refl _, by unfold maxLen; omega, by simp [ints, hl], by rw [List.toList_toArray, List.take_of_length_le (by simp [ints, hl])]⟩⟩
theorem sy_new {w : World} {base b : Nat} {ok : Nat → Prop} {x k : Int} (hb : base ≤ b) (h : w.heap[b]? = some (.cells #[.int .i64 k] 3 (0, 0))) (ho : ok b) : Sy w base ok ⟨x, some ⟨b, 0, none⟩, 1, 1⟩ ∧ absW w ⟨x, some ⟨b, 0, none⟩, 1, 1⟩ = (x, [k]) := by
  have o : w.ownsRow base 3 1 (sv ⟨x, some ⟨b, 0, none⟩, 1, 1⟩) 1 (ints .i64 [k]) := ⟨rfl, .inr ⟨b, 1, #[.int .i64 k], rfl, hb, h, Nat.le_refl _, by unfold maxLen; omega, rfl, rfl⟩⟩
  exact ⟨⟨Nat.one_pos, [k], o, fun g hg => by have : b = g := by simpa [sv, Value.ownBlock] using hg
                                              subst this; exact ho⟩, by unfold absW; rw [rdS_own o]⟩
end Go.Proofs.Ytcblibefmclloaa
