import Derived.Test.YtcblibefmclloaaDoorIAllE
import Derived.Test.YtcblibefmclloaaDoorIAllA
import Derived.Test.YtcblibefmclloaaDoorIAllF
import Derived.Deep.Onto
import Derived.Test.YtcblibefmclloaaDoorIAllD
import Derived.Test.YtcblibefmclloaaDoorIAllB
import Derived.Deep.RegionLaw
import Derived.Test.YtcblibefmclloaaDoorIAllC
/- Rows of packs with their symbols, in memory. -/
set_option linter.unusedVariables false
set_option linter.unusedSimpArgs false
namespace Go.Proofs.YtcblibefmclloaaDoor
open Go.RowKit
/-- The numbers that stand at a slice. -/
def rdS (w : World) (p : Pk) : List Int := (List.range p.n).map fun j => match p.a with
  | some a => match w.cell? ⟨a.block, a.off + j, none⟩ with
    | some (.int _ x) => x
    | _ => 0
  | none => 0
def absW (w : World) (p : Pk) : PP := (p.w, rdS w p)
def sv (p : Pk) : Value := .slice p.a p.n p.c
/-- A pack's symbols lie in memory of their own. -/
def Sy (w : World) (base : Nat) (ok : Nat → Prop) (p : Pk) : Prop := 0 < p.n ∧ ∃ xs, w.ownsRow base 3 1 (sv p) p.n (ints .i64 xs) ∧ ∀ g, (sv p).ownBlock = some g → ok g
theorem rdS_own {w : World} {base : Nat} {p : Pk} {xs : List Int} (h : w.ownsRow base 3 1 (sv p) p.n (ints .i64 xs)) : rdS w p = xs := by
  obtain ⟨A, c, hv, hr, -, -⟩ := own_ri h
  unfold sv at hv
  injection hv with h1 h2 h3
  have hl := hr.len
  refine List.ext_getElem (by simp [rdS, hl]) fun j h4 h5 => ?_
  have hj : j < p.n := by omega
  obtain ⟨b, o, ha, hc⟩ := hr.at hj
  rw [← h1] at ha
  simp only [rdS, List.getElem_map, List.getElem_range, ha, hc]
  exact nth_lt h5
theorem Sy.own {w : World} {base : Nat} {ok : Nat → Prop} {p : Pk} (h : Sy w base ok p) : w.ownsRow base 3 1 (sv p) p.n (ints .i64 (rdS w p)) := by
  obtain ⟨_, xs, h1, _⟩ := h
  rw [rdS_own h1]; exact h1
theorem own_int_block {w : World} {base : Nat} {e : TypeId} {size n : Nat} {v : Value} {xs : List Value} (h : w.ownsRow base e size v n xs) {g : Nat} (hg : v.ownBlock = some g) : ∃ cs, w.heap[g]? = some (.cells cs e (0, 0)) := by
  rcases h.2 with ⟨rfl, _⟩ | ⟨g', cap, cur, rfl, hb, hh, _⟩
  · simp [Value.ownBlock] at hg
  · have : g' = g := by simpa [Value.ownBlock] using hg
    subst this
    exact ⟨_, hh⟩
/-- What is no number's block may turn. -/
theorem Sy.keeps {w w' : World} {base : Nat} {ok : Nat → Prop} {p : Pk} {S : List Nat} (h : Sy w base ok p) (hk : Keeps S w w') (hS : ∀ g ∈ S, ¬ (ok g ∧ ∃ cs, w.heap[g]? = some (.cells cs 3 (0, 0)))) : Sy w' base ok p ∧ rdS w' p = rdS w p := by
  obtain ⟨hp, xs, ho, hok⟩ := h
  have ho2 := own_keeps ho hk (fun g hg hm => hS g hm ⟨hok g hg, own_int_block ho hg⟩)
  exact ⟨⟨hp, xs, ho2, hok⟩, by rw [rdS_own ho2, rdS_own ho]⟩
theorem Sy.mono {w : World} {base base' : Nat} {ok ok' : Nat → Prop} {p : Pk} (h : Sy w base ok p) (hb : base' ≤ base) (ho : ∀ g, base ≤ g → g < w.heap.size → ok g → ok' g) : Sy w base' ok' p := by
  obtain ⟨hp, xs, h1, h2⟩ := h
  exact ⟨hp, xs, h1.mono hb, fun g hg => ho g (own_lo h1 g hg) (own_hi h1 g hg) (h2 g hg)⟩
theorem own_form {w : World} {base : Nat} {e : TypeId} {size n : Nat} {v : Value} {xs : List Value} (h : w.ownsRow base e size v n xs) : ∃ A c, v = .slice A n c := by
  rcases h.2 with ⟨rfl, rfl⟩ | ⟨g, cap, cur, rfl, _⟩
  · exact ⟨_, _, rfl⟩
  · exact ⟨_, _, rfl⟩
theorem own_form2 {w : World} {base : Nat} {e : TypeId} {size n : Nat} {v : Value} {xs : List Value} (h : w.ownsRow base e size v n xs) : ∃ A c, v = .slice A n c ∧ n ≤ c := by
  rcases h.2 with ⟨rfl, rfl⟩ | ⟨g, cap, cur, rfl, _, _, hc, _⟩
  · exact ⟨_, _, rfl, Nat.le_refl _⟩
  · exact ⟨_, _, rfl, hc⟩
/-- A row of packs. -/
structure PR (w : World) (base : Nat) (ok : Nat → Prop) (b2 : Nat) (v : Value) (L : List Pk) (X : List PP) : Prop where
  own : w.ownsRow b2 136 2 v L.length (kcells L)
  sy : ∀ p ∈ L, Sy w base ok p
  ab : L.map (absW w) = X
theorem PR.nil (w : World) (base : Nat) (ok : Nat → Prop) (b2 : Nat) : PR w base ok b2 (.slice none 0 0) [] [] := ⟨World.ownsRow_nil _ _ _ _, by simp, rfl⟩
theorem PR.len {w : World} {base b2 : Nat} {ok : Nat → Prop} {v : Value} {L : List Pk} {X : List PP} (h : PR w base ok b2 v L X) : X.length = L.length := by rw [← h.ab, List.length_map]
theorem sy_ab {w w' : World} {base : Nat} {ok : Nat → Prop} {L : List Pk} (h : ∀ p ∈ L, Sy w' base ok p ∧ rdS w' p = rdS w p) : L.map (absW w') = L.map (absW w) :=
  List.map_congr_left fun p hp => by unfold absW; rw [(h p hp).2]
theorem PR.keeps {w w' : World} {base b2 : Nat} {ok : Nat → Prop} {v : Value} {L : List Pk} {X : List PP} {S : List Nat} (h : PR w base ok b2 v L X) (hk : Keeps S w w') (hv : ∀ g, v.ownBlock = some g → g ∉ S) (hS : ∀ g ∈ S, ¬ (ok g ∧ ∃ cs, w.heap[g]? = some (.cells cs 3 (0, 0)))) : PR w' base ok b2 v L X :=
  ⟨own_keeps h.own hk hv, fun p hp => ((h.sy p hp).keeps hk hS).1, by rw [sy_ab (fun p hp => (h.sy p hp).keeps hk hS)]; exact h.ab⟩
theorem PR.dr {w w' : World} {base b2 : Nat} {ok : Nat → Prop} {v : Value} {L : List Pk} {X : List PP} (h : PR w base ok b2 v L X) (hk : Keeps [] w w') : PR w' base ok b2 v L X := h.keeps hk (by simp) (by simp)
theorem PR.mono {w : World} {base b2 : Nat} {ok ok' : Nat → Prop} {v : Value} {L : List Pk} {X : List PP} (h : PR w base ok b2 v L X) (ho : ∀ g, base ≤ g → g < w.heap.size → ok g → ok' g) : PR w base ok' b2 v L X :=
  ⟨h.own, fun p hp => (h.sy p hp).mono (Nat.le_refl _) ho, h.ab⟩
/-- Sorted packs, sorted symbols. -/
theorem ss_abs {w : World} {r L : List Pk} (h : SS r L) : r.map (absW w) = sortP (L.map (absW w)) := by
  refine sortW_eq Prod.fst ?_ ⟨h.2.1.map _, fun v => ?_⟩
  · unfold Srt
    rw [List.pairwise_map]
    exact h.1
  · have := h.2.2 v
    unfold ofW at this
    rw [List.filter_map, List.filter_map]
    exact congrArg (List.map (absW w)) this
theorem okW_of {w : World} {L : List Pk} (h : ∀ x ∈ L.map (absW w), 0 ≤ x.1 ∧ x.1 ≤ 100000000000000000) : okW L := okW_mem.2 fun p hp => h (absW w p) (List.mem_map_of_mem hp)
/-- Sorting a row. -/
theorem PR.sort {w : World} {base b2 : Nat} {ok : Nat → Prop} {v : Value} {L : List Pk} {X : List PP} (h : PR w base ok b2 v L X) (hp : 0 < L.length) (hn : L.length ≤ 1000000) (hw : ∀ x ∈ X, 0 ≤ x.1 ∧ x.1 ≤ 100000000000000000) :
    Calls Tryd.prog 98 #[v, theCmp] w fun e w' => e = .returned (.tuple #[]) ∧ ∃ g r, v.ownBlock = some g ∧ b2 ≤ g ∧ PR w' base ok b2 v r (sortP X) ∧ Keeps [g] w w' ∧ r.length = L.length ∧ ∃ cs, w.heap[g]? = some (.cells cs 136 (0, 0)) := by
  obtain ⟨g, c, R, rfl, hl, hg, hb, hback⟩ := own_pb h.own hp
  refine (sort_calls w g L R _ c hb hl.symm (okW_of (w := w) (by rw [h.ab]; exact hw)) (by omega)).mono ?_
  rintro e w' ⟨rfl, r, hr, hb', hk⟩
  have hS : ∀ x ∈ [g], ¬ (ok x ∧ ∃ cs, w.heap[x]? = some (.cells cs 3 (0, 0))) := by
    intro x hx
    rw [List.mem_singleton.1 hx]
    rintro ⟨_, cs, hc⟩
    rw [show w.heap[g]? = some (.cells (kcells L ++ R).toArray 136 (0, 0)) from hb] at hc
    injection hc with hc
    injection hc with _ h2
    exact absurd h2 (by decide)
  have hsy : ∀ p ∈ r, Sy w' base ok p ∧ rdS w' p = rdS w p := fun p hp' => (h.sy p (hr.mem.1 hp')).keeps hk hS
  refine ⟨rfl, g, r, rfl, hg, ⟨?_, fun p hp' => (hsy p hp').1, ?_⟩, hk, hr.len, _, hb⟩
  · have := hback w' r hb' hr.len
    rw [hr.len]; exact this
  · rw [sy_ab hsy, ss_abs hr, h.ab]
def ob (v : Value) : List Nat := v.ownBlock.toList
theorem mem_ob {v : Value} {g : Nat} : g ∈ ob v ↔ v.ownBlock = some g := by unfold ob; cases v.ownBlock <;> simp [eq_comm]
theorem grown_keeps {w w' : World} {v : Value} (h : w.grownBy w' v.ownBlock) : Keeps (ob v) w w' :=
  (Keeps.refl (ob v) w).grown h (fun k hk => Or.inl (mem_ob.2 hk))
theorem Sy.grown {w w' : World} {base b2 n : Nat} {ok : Nat → Prop} {p : Pk} {v : Value} {L : List Pk} (h : Sy w base ok p) (hv : w.ownsRow b2 136 2 v n (kcells L)) (hg : w.grownBy w' v.ownBlock) : Sy w' base ok p ∧ rdS w' p = rdS w p := by
  refine h.keeps (grown_keeps hg) fun g hgm => ?_
  rintro ⟨_, cs, hc⟩
  obtain ⟨cs', hc'⟩ := own_int_block hv (mem_ob.1 hgm)
  rw [hc'] at hc
  injection hc with hc
  injection hc with _ h2
  exact absurd h2 (by decide)
theorem PR.cells {w : World} {base b2 : Nat} {ok : Nat → Prop} {v : Value} {L : List Pk} {X : List PP} (h : PR w base ok b2 v L X) (hp : 0 < L.length) :
    ∃ g c, v = .slice (some ⟨g, 0, none⟩) L.length c ∧ b2 ≤ g ∧ g < w.heap.size ∧ v.ownBlock = some g ∧ ∀ j, j < L.length → w.cell? ⟨g, j * 2, none⟩ = some (.int .i64 (kth L j).w) ∧ w.cell? ⟨g, j * 2 + 1, none⟩ = some (.slice (kth L j).a (kth L j).n (kth L j).c) := by
  obtain ⟨g, c, rfl, hg, hb, hc⟩ := own_cells h.own hp (by decide)
  refine ⟨g, c, rfl, hb, hg, rfl, fun j hj => ?_⟩
  have := kcells_get L [] j hj
  rw [List.append_nil] at this
  exact ⟨hc _ _ this.1, hc _ _ this.2⟩
theorem PR.ath {w : World} {base b2 : Nat} {ok : Nat → Prop} {v : Value} {L : List Pk} {X : List PP} (h : PR w base ok b2 v L X) {j : Nat} (hj : j < L.length) : (X.getD j (0, [])) = absW w (kth L j) := by
  rw [← h.ab, List.getD_eq_getElem?_getD, List.getElem?_map, List.getElem?_eq_getElem hj, kth_lt hj]; rfl
/-- A pack's symbols are read. -/
theorem Sy.reads {w : World} {base : Nat} {ok : Nat → Prop} {p : Pk} (h : Sy w base ok p) : RI .i64 w p.a p.n (rdS w p) ∧ ∃ g, p.a = some ⟨g, 0, none⟩ ∧ base ≤ g ∧ g < w.heap.size ∧ ok g := by
  have ho := h.own
  obtain ⟨g, c, hv, hg, hb, hc⟩ := own_cells ho h.1 (by decide)
  obtain ⟨A, c', hv', hr, -, -⟩ := own_ri ho
  unfold sv at hv hv'
  injection hv with h1 h2 h3
  injection hv' with h4 h5 h6
  subst h4
  obtain ⟨_, xs, ho2, hok⟩ := h
  exact ⟨hr, g, h1, hb, hg, hok g (by unfold sv; rw [h1]; rfl)⟩
theorem pack_no_int {w : World} {base b2 : Nat} {ok : Nat → Prop} {v : Value} {L : List Pk} {X : List PP} (h : PR w base ok b2 v L X) : ∀ g ∈ ob v, ¬ (ok g ∧ ∃ cs, w.heap[g]? = some (.cells cs 3 (0, 0))) := by
  rintro g hg ⟨_, cs, hc⟩
  obtain ⟨cs', hc'⟩ := own_int_block h.own (mem_ob.1 hg)
  rw [hc'] at hc
  injection hc with hc
  injection hc with _ h2
  exact absurd h2 (by decide)
/-- Another row was written to. -/
theorem PR.other {w w' : World} {base b2 b3 : Nat} {ok : Nat → Prop} {v v' : Value} {L L' : List Pk} {X X' : List PP} (h : PR w base ok b2 v L X) (h' : PR w base ok b3 v' L' X') (hk : Keeps (ob v') w w') (hne : ∀ g, v.ownBlock = some g → g < b3) : PR w' base ok b2 v L X :=
  h.keeps hk (fun g hg hm => by have := own_lo h'.own g (mem_ob.1 hm); have := hne g hg; omega) (pack_no_int h')
/-- A row with one pack more. -/
theorem PR.snoc {w w2 w3 : World} {base b2 : Nat} {ok : Nat → Prop} {v v' : Value} {L : List Pk} {X : List PP} {p : Pk} (h : PR w base ok b2 v L X) (hk : Keeps [] w w2) (hp : Sy w2 base ok p)
    (ho : w3.ownsRow b2 136 2 v' (L.length + 1) (kcells (L ++ [p]))) (hg : w2.grownBy w3 v.ownBlock) : PR w3 base ok b2 v' (L ++ [p]) (X ++ [absW w2 p]) := by
  have h2 := h.dr hk
  refine ⟨by rw [List.length_append]; exact ho, fun q hq => ?_, ?_⟩
  · rcases List.mem_append.1 hq with hq | hq
    · exact ((h2.sy q hq).grown h2.own hg).1
    · rw [List.mem_singleton.1 hq]; exact (hp.grown h2.own hg).1
  · rw [List.map_append, ← h2.ab, sy_ab (fun q hq => (h2.sy q hq).grown h2.own hg)]
    congr 1
    show [absW w3 p] = [absW w2 p]
    unfold absW; rw [(hp.grown h2.own hg).2]
theorem own_of_blk {w : World} {base g n : Nat} {xs : List Int} (h : Blk w g 3 (ints .i64 xs)) (hl : xs.length = n) (hb : base ≤ g) (hn : n ≤ 1000000000) : w.ownsRow base 3 1 (.slice (some ⟨g, 0, none⟩) n n) n (ints .i64 xs) :=
  ⟨by simp [ints, hl], .inr ⟨g, n, _, rfl, hb, h, Nat.le_refl _, by unfold maxLen; omega, by simp [ints, hl], by rw [List.toList_toArray, List.take_of_length_le (by simp [ints, hl])]⟩⟩
theorem sy_new {w : World} {base b : Nat} {ok : Nat → Prop} {x k : Int} (hb : base ≤ b) (h : w.heap[b]? = some (.cells #[.int .i64 k] 3 (0, 0))) (ho : ok b) : Sy w base ok ⟨x, some ⟨b, 0, none⟩, 1, 1⟩ ∧ absW w ⟨x, some ⟨b, 0, none⟩, 1, 1⟩ = (x, [k]) := by
  have o : w.ownsRow base 3 1 (sv ⟨x, some ⟨b, 0, none⟩, 1, 1⟩) 1 (ints .i64 [k]) := ⟨rfl, .inr ⟨b, 1, #[.int .i64 k], rfl, hb, h, Nat.le_refl _, by unfold maxLen; omega, rfl, rfl⟩⟩
  exact ⟨⟨Nat.one_pos, [k], o, fun g hg => by have : b = g := by simpa [sv, Value.ownBlock] using hg
                                              subst this; exact ho⟩, by unfold absW; rw [rdS_own o]⟩
end Go.Proofs.YtcblibefmclloaaDoor

set_option linter.unusedVariables false
set_option linter.unusedSimpArgs false
namespace Go.Proofs.YtcblibefmclloaaDoor
open Go.RowKit
/-- What limiting is to give. -/
def Limited (w : World) (r : List Int × Int) (e : Ending) (w' : World) : Prop :=
  ∃ v, e = .returned (.tuple #[v, .int .i64 r.2]) ∧ w'.ownsRow w.heap.size 3 1 v r.1.length (ints .i64 r.1) ∧ Below w.heap.size w w'
theorem limited_err (w w' : World) (r : List Int × Int) (e : Int) (hr : r = ([], e)) (h : Below w.heap.size w w') : Limited w r (.returned (.tuple #[.slice none 0 0, .int .i64 e])) w' := by
  subst hr
  exact ⟨_, rfl, World.ownsRow_nil _ _ _ _, h⟩
theorem limited_ok {w w' : World} {r : List Int × Int} {v : Value} {n : Nat} {ls : List Int} (hr : r = (ls, 0)) (hl : ls.length = n) (ho : w'.ownsRow w.heap.size 3 1 v n (ints .i64 ls)) (h : Below w.heap.size w w') : Limited w r (.returned (.tuple #[v, .int .i64 0])) w' := by
  subst hr hl
  exact ⟨_, rfl, ho, h⟩
set_option maxRecDepth 100000 in
set_option maxHeartbeats 1000000 in
theorem limit_arg (w : World) (A : Option Addr) (n c : Nat) (l : List Int) (most : Int) (hl : l.length = n) (hb : n = 0 ∨ 288 < n ∨ most < 1 ∨ 15 < most) :
    Calls Tryd.prog 72 #[.slice A n c, .int .i64 most] w (Limited w (limF l most)) := by
  have HR : Hid (limF l most = ([], 1)) := by show _ = _; rw [limF, if_pos (by omega)]
  by_cases h0 : n = 0
  · subst h0
    clear hb hl
    go_enter Tryd.func72, Tryd.ntmps72
    go_wp2_with fail
    go_ret2
    exact limited_err _ _ _ _ HR.out (Below.refl _ _)
  · have e0 : ((n : Int) == 0) = false := by simp; omega
    by_cases h1 : 288 < n
    · have e1 : decide (288 < n) = true := by simpa using h1
      clear hb hl
      go_enter Tryd.func72, Tryd.ntmps72
      go_wp2_with fail
      go_ret2
      exact limited_err _ _ _ _ HR.out (Below.refl _ _)
    · have e1 : decide (288 < n) = false := by simpa using h1
      by_cases h2 : most < 1
      · have e2 : decide (most < 1) = true := by simpa using h2
        clear hb hl
        go_enter Tryd.func72, Tryd.ntmps72
        go_wp2_with fail
        go_ret2
        exact limited_err _ _ _ _ HR.out (Below.refl _ _)
      · have e2 : decide (most < 1) = false := by simpa using h2
        have e3 : decide (15 < most) = true := by simp; omega
        clear hb hl
        go_enter Tryd.func72, Tryd.ntmps72
        go_wp2_with fail
        go_ret2
        exact limited_err _ _ _ _ HR.out (Below.refl _ _)
theorem any_snocM (l : List Int) (k : Nat) (h : k < l.length) : (l.take (k + 1)).any badCount = ((l.take k).any badCount || badCount (nth l k)) := by
  rw [take_snoc' l k h, List.any_append]; simp
theorem leaves_snoc (l : List Int) (k : Nat) (h : k < l.length) : leavesF (l.take (k + 1)) 0 = leavesF (l.take k) 0 ++ if 0 < nth l k then [(nth l k, [(k : Int)])] else [] := by
  rw [take_snoc' l k h, leavesF_snoc]
  simp [List.length_take, Nat.min_eq_left (Nat.le_of_lt h)]
theorem any_hitM (l : List Int) (k : Nat) (h : k < l.length) (hb : badCount (nth l k) = true) : l.any badCount = true := by
  rw [List.any_eq_true]
  rw [nth_lt h] at hb
  exact ⟨_, List.getElem_mem h, hb⟩
set_option maxRecDepth 100000 in
set_option maxHeartbeats 4000000 in
theorem limit_rest (w : World) (A : Option Addr) (n c : Nat) (l : List Int) (m : Nat) (hl : RI .i64 w A n l) (h0 : 0 < n) (h1 : n ≤ 288) (h2 : 1 ≤ m) (h3 : m ≤ 15) :
    Calls Tryd.prog 72 #[.slice A n c, .int .i64 m] w (Limited w (limF l m)) := by
  have hll := hl.len
  have HL := Lib.hid hl
  have HLL := Lib.hid hll
  have HR : Hid (limF l m = if l.any badCount then ([], 1) else if 2 ^ m < (leavesF l 0).length then ([], 30) else (limLens l m, 0)) := by
    show _ = _; rw [limF, if_neg (by omega)]; simp
  clear hl hll
  have e0 : ((n : Int) == 0) = false := by simp; omega
  have e1 : decide (288 < n) = false := by simp; omega
  have e2 : decide ((m : Int) < 1) = false := by simp; omega
  have e3 : decide ((15 : Int) < m) = false := by simp; omega
  go_enter Tryd.func72, Tryd.ntmps72
  go_wp2_with fail
  clear e0 e1 e2 e3
  go_loopw [6, 36] (fun v i wr => ∃ (k : Nat) (L : List Pk), k ≤ n ∧ i = .int .i64 k ∧ L.length ≤ k ∧ Hid ((l.take k).any badCount = false) ∧ Hid (PR wr w.heap.size (fun _ => True) w.heap.size v L (leavesF (l.take k) 0)) ∧ Hid (Below w.heap.size w wr)) (fun _ i _ => n - (intOf i).toNat)
  case atStart => exact ⟨0, [], by omega, rfl, by simp, Lib.hid (by simp), Lib.hid (PR.nil _ _ _ _), Lib.hid (Below.refl _ _)⟩
  case round =>
    obtain ⟨k, L, hk, rfl, hLk, HA, HP, HW⟩ := hrel
    by_cases hlt : k < n
    · obtain ⟨b, o, rfl, hc⟩ := HL.out.at hlt
      have hc := (Keeps.of_below (S := []) HW.out).cell (by simp) hc
      have as1 := any_snocM l k (by have := HLL.out; omega)
      have ls := leaves_snoc l k (by have := HLL.out; omega)
      rw [HA.out] at as1
      have AS := Lib.hid as1
      have LS := Lib.hid ls
      clear as1 ls
      by_cases hneg : nth l k < 0
      · have e1 : decide (nth l k < 0) = true := by simpa using hneg
        have HR2 : Hid (limF l m = ([], 1)) := by show _ = _; rw [HR.out, if_pos (any_hitM l k (by have := HLL.out; omega) (by simp [badCount]; omega))]
        go_wp2_with fail
        go_ret2
        exact limited_err _ _ _ _ HR2.out HW.out
      · have e1 : decide (nth l k < 0) = false := by simpa using hneg
        by_cases hbig : 1000000000000 < nth l k
        · have e2 : decide (1000000000000 < nth l k) = true := by simpa using hbig
          have HR2 : Hid (limF l m = ([], 1)) := by show _ = _; rw [HR.out, if_pos (any_hitM l k (by have := HLL.out; omega) (by simp [badCount]; omega))]
          go_wp2_with fail
          go_ret2
          exact limited_err _ _ _ _ HR2.out HW.out
        · have e2 : decide (1000000000000 < nth l k) = false := by simpa using hbig
          have HB : Hid ((l.take (k + 1)).any badCount = false) := by show _ = _; rw [AS.out]; simp [badCount]; omega
          by_cases hz : 0 < nth l k
          · have e3 : decide (0 < nth l k) = true := by simpa using hz
            have hsz := HW.out.size
            have HO := Lib.hid HP.out.own
            obtain ⟨vA, vc, rfl⟩ := own_form HO.out
            go_wp2_with (at_builtin; refine app_pack rfl (.tmp 49) (.tmp 54) rfl w.heap.size _ L.length L rfl ?c0 (wr.heap.size + 1) ⟨nth l k, some ⟨wr.heap.size, 0, none⟩, 1, 1⟩ ?c5 ?c1 ?c2 ?c3 ?c4 ?_)
            case c0 => exact own_keeps HO.out (((Keeps.refl [] wr).alloc _).alloc _) (by simp)
            case c3 => omega
            case c4 => omega
            intro v' w1 h1 hg
            have hk2 : Keeps [] wr ((wr.alloc (.cells #[.int .i64 k] 3)).alloc (.cells #[.int .i64 (nth l k), .slice (some ⟨wr.heap.size, 0, none⟩) 1 1] 136)) := ((Keeps.refl [] wr).alloc _).alloc _
            obtain ⟨hs1, hs2⟩ := sy_new (w := (wr.alloc (.cells #[.int .i64 k] 3)).alloc (.cells #[.int .i64 (nth l k), .slice (some ⟨wr.heap.size, 0, none⟩) 1 1] 136)) (x := nth l k) (k := (k : Int)) (ok := fun _ => True) hsz (Blk.alloc (blk_new wr 3 [.int .i64 k]) _) trivial
            have hp2 := HP.out.snoc hk2 hs1 h1 hg
            rw [hs2] at hp2
            have HP2 : Hid (PR w1 w.heap.size (fun _ => True) w.heap.size v' (L ++ [⟨nth l k, some ⟨wr.heap.size, 0, none⟩, 1, 1⟩]) (leavesF (l.take (k + 1)) 0)) := by
              show PR _ _ _ _ _ _ _; rw [LS.out, if_pos hz]; exact hp2
            have HW2 := Lib.hid (((HW.out.alloc hsz _).alloc (by simp; omega) _).grown hg (by simp; omega) (fun g hg => own_lo HO.out g hg))
            clear h1 hg hk2 hs1 hs2 hp2
            go_wp2_with fail
            go_roundw
            case rel => exact ⟨k + 1, _, by omega, by go_num, by rw [List.length_append]; simp; omega, HB, HP2, HW2⟩
            case measure => simp [intOf]; omega
          · have e3 : decide (0 < nth l k) = false := by simpa using hz
            go_wp2_with fail
            go_roundw
            case rel => exact ⟨k + 1, L, by omega, by go_num, by omega, HB, by rw [LS.out, if_neg hz, List.append_nil]; exact HP, HW⟩
            case measure => simp [intOf]; omega
    · obtain rfl : k = n := by omega
      have htk : l.take k = l := List.take_of_length_le (by have := HLL.out; omega)
      rw [htk] at HA HP
      obtain ⟨b1, b2, b3, b4, b5⟩ := leaves_bd l HA.out 0
      have HR2 : Hid (limF l m = if 2 ^ m < (leavesF l 0).length then ([], 30) else (limLens l m, 0)) := by show _ = _; rw [HR.out, if_neg (by rw [HA.out]; simp)]
      have hlen := HP.out.len
      obtain ⟨P, hP⟩ : ∃ P : Nat, P = 2 ^ m := ⟨_, rfl⟩
      have hP2 : (2 : Int) ^ m = (P : Int) := by rw [hP]; simp
      have hPb : P ≤ 32768 := by rw [hP]; exact Nat.pow_le_pow_right (by decide) h3
      have HPP := Lib.hid hP
      have HLEN := Lib.hid hlen
      have B1 := Lib.hid b1
      have B2 := Lib.hid b2
      have B3 := Lib.hid b3
      have B5 := Lib.hid b5
      clear hP hlen b1 b2 b3 b5 htk HR
      obtain ⟨vA, vc, rfl⟩ := own_form HP.out.own
      by_cases hov : P < L.length
      · have e1 : decide (P < L.length) = true := by simpa using hov
        have HR3 : Hid (limF l m = ([], 30)) := by show _ = _; rw [HR2.out, if_pos (by rw [HLEN.out, ← HPP.out]; exact hov)]
        go_wp2_with fail
        go_ret2
        exact limited_err _ _ _ _ HR3.out HW.out
      · have e1 : decide (P < L.length) = false := by simpa using hov
        have HR3 : Hid (limF l m = (limLens l m, 0)) := by show _ = _; rw [HR2.out, if_neg (by rw [HLEN.out, ← HPP.out]; exact hov)]
        have hmk := fun w => make_ints (P := Tryd.prog) w 22 3 .i64 8 Tryd.underlying22 info_int (k : Int) k rfl (by omega) (by omega)
        clear HR2
        by_cases hl1 : L.length = 1
        · have e2 : ((L.length : Int) == 1) = true := by simp; omega
          have e3 : decide (L.length < 2) = true := by simp; omega
          obtain ⟨g, c', hv, hg, hg2, hob, hcell⟩ := HP.out.cells (by omega)
          injection hv with hv1 hv2 hv3
          subst hv1
          obtain ⟨p1, p2⟩ := hcell 0 (by omega)
          have hx := HP.out.ath (j := 0) (by omega)
          have hsy := HP.out.sy (kth L 0) (kth_mem (by omega))
          obtain ⟨hri, gs, hpa, hgs, hgs2, -⟩ := hsy.reads
          have hpn := hsy.1
          generalize kth L 0 = p at *
          obtain ⟨pw, pa, pn, pcap⟩ := p
          dsimp only at hpa hpn p1 p2 hri
          subst hpa
          have hs0 := hri.cell gs 0 rfl 0 hpn
          have hsl : leavesF l 0 = [((pw, rdS wr ⟨pw, some ⟨gs, 0, none⟩, pn, pcap⟩) : PP)] := by
            have hlen := HLEN.out
            match hLL : leavesF l 0, hlen with
            | [x], _ => rw [hLL] at hx; rw [show x = _ from hx]; rfl
            | [], h => simp at h; omega
            | x :: y :: r, h => simp at h; omega
          have hB3 := B3.out
          have hB5 := B5.out
          rw [hsl] at hB3 hB5
          have hrl : (rdS wr ⟨pw, some ⟨gs, 0, none⟩, pn, pcap⟩).length = 1 := by simpa [sumS] using hB3
          have hrd : rdS wr ⟨pw, some ⟨gs, 0, none⟩, pn, pcap⟩ = [nth (rdS wr ⟨pw, some ⟨gs, 0, none⟩, pn, pcap⟩) 0] := by
            match hm : rdS wr ⟨pw, some ⟨gs, 0, none⟩, pn, pcap⟩, hrl with
            | [s], _ => rfl
          have hsr := hB5 _ (List.mem_singleton.2 rfl) (nth (rdS wr ⟨pw, some ⟨gs, 0, none⟩, pn, pcap⟩) 0) (by rw [hrd]; simp [nth])
          obtain ⟨s, hs⟩ := Int.eq_ofNat_of_zero_le (show 0 ≤ nth (rdS wr ⟨pw, some ⟨gs, 0, none⟩, pn, pcap⟩) 0 by omega)
          rw [hs] at hrd hsr hs0
          have hsk : s < k := by have := HLL.out; omega
          have HRES : Hid (limLens l m = cntF k ([] ++ [(s : Int)])) := by
            show _ = _
            unfold limLens
            rw [hsl, hrd, HLL.out]
            rfl
          have p2' := ((Keeps.refl [] wr).alloc (.cells (ints .i64 (List.replicate k 0)).toArray 3)).cell (by simp) p2
          have hs0' := ((Keeps.refl [] wr).alloc (.cells (ints .i64 (List.replicate k 0)).toArray 3)).cell (by simp) hs0
          have hbz := blk_new wr 3 (ints .i64 (List.replicate k 0))
          have c0 : (wr.alloc (.cells (ints .i64 (List.replicate k 0)).toArray 3)).cell? ⟨wr.heap.size, s, none⟩ = some (.int .i64 0) := by rw [hbz.cell, ints_getElem?]; simp [hsk]
          have f0 := hbz.frozen s
          have HBS := Lib.hid (blk_new wr 3 ((ints .i64 (List.replicate k 0)).set s (.int .i64 1)))
          clear hcell p1 p2 hx hsy hri hs0 hsl hB3 hB5 hrl hrd hsr hs hbz
          have HBW := Lib.hid (HW.out.alloc HW.out.size (.cells ((ints .i64 (List.replicate k 0)).set s (.int .i64 1)).toArray 3))
          have hwz := HW.out.size
          go_wp2_with fail
          go_ret2
          refine limited_ok (v := .slice (some ⟨wr.heap.size, 0, none⟩) k k) HR3.out (by rw [HRES.out, cntF_len]) ?_ HBW.out
          have hz : cntF k ([] ++ [(s : Int)]) = (List.replicate k 0).set s 1 := by
            rw [cntF_snoc k [] s hsk, cntF_nil]
            congr 1
            simp [nth, hsk]
          rw [HRES.out, hz]
          refine own_of_blk ?_ (by simp) hwz (by omega)
          rw [← show (ints .i64 (List.replicate k 0)).set s (.int .i64 1) = ints .i64 ((List.replicate k 0).set s 1) by simp [ints, List.map_set]]
          exact HBS.out
        · have e2 : ((L.length : Int) == 1) = false := by simp; omega
          by_cases hl2 : L.length < 2
          · have e3 : decide (L.length < 2) = true := by simpa using hl2
            have hz : Hid (limLens l m = List.replicate k 0) := by
              show _ = _
              have h0 : leavesF l 0 = [] := List.eq_nil_of_length_eq_zero (by rw [HLEN.out]; omega)
              unfold limLens
              rw [h0, HLL.out]
              exact cntF_nil k
            have HBW := Lib.hid (HW.out.alloc HW.out.size (.cells (ints .i64 (List.replicate k 0)).toArray 3))
            have HBS := Lib.hid (blk_new wr 3 (ints .i64 (List.replicate k 0)))
            have hwz := HW.out.size
            go_wp2_with fail
            go_ret2
            refine limited_ok (v := .slice (some ⟨wr.heap.size, 0, none⟩) k k) HR3.out (by rw [hz.out, List.length_replicate]) ?_ HBW.out
            rw [hz.out]
            exact own_of_blk HBS.out (by simp) hwz (by omega)
          · have e3 : decide (L.length < 2) = false := by simpa using hl2
            have hwz := HW.out.size
            have HP1 := Lib.hid ((HP.out.mono (ok' := fun g => g ≠ wr.heap.size) (fun g _ hg _ => Nat.ne_of_lt hg)).dr ((Keeps.refl [] wr).alloc (.cells (ints .i64 (List.replicate k 0)).toArray 3)))
            have HBZ := Lib.hid (blk_new wr 3 (ints .i64 (List.replicate k 0)))
            have HBW := Lib.hid (HW.out.alloc HW.out.size (.cells (ints .i64 (List.replicate k 0)).toArray 3))
            have hvlt := Lib.hid (fun g (h : (Value.slice vA L.length vc).ownBlock = some g) => own_hi HP.out.own g h)
            have B2' : Hid (sumW (leavesF l 0) ≤ 288000000000000) := by have := B2.out; have := HLL.out; show _ ≤ _; omega
            have B3' : Hid (sumS (leavesF l 0) ≤ 288) := by have := B3.out; have := HLL.out; show _ ≤ _; omega
            have HKP : Hid (L.length ≤ 2 ^ m) := by show _ ≤ _; rw [← HPP.out]; omega
            go_wp2_with fail
            refine (HP1.out.sort (by omega) (by omega) (leaf_ok B1.out B2'.out)).mono ?_
            rintro _ w2 ⟨rfl, g, r, hvg, hbg, hpr, hkp, hrl, -⟩
            have hgk : g < wr.heap.size := hvlt.out g hvg
            have HP2 := Lib.hid hpr
            have HBZ2 := Lib.hid (HBZ.out.keeps hkp (by simp; omega))
            have HBW2 : Hid (Below w.heap.size w w2) := Lib.hid (((Keeps.of_below HBW.out).then hkp (fun x hx => Or.inr (by simp at hx; omega)) : Keeps [] w w2).below)
            have hz2 : wr.heap.size < w2.heap.size := HBZ2.out.lt
            have HGK := Lib.hid hgk
            have HVG := Lib.hid hvg
            have HRL := Lib.hid hrl
            clear hpr hkp HP HP1 HBZ HBW hrl hvg hbg hvlt HW HA
            generalize hgo : wr.heap.size = go at *
            obtain ⟨wo, rfl⟩ : ∃ wo : World, wo = w2 := ⟨_, rfl⟩
            go_wp2_with fail
            go_loopw [11, 84] (fun v i wx => ∃ (t : Nat) (Ll : List Pk), t ≤ m ∧ i = .int .i64 t ∧ Hid (PR wx w.heap.size (fun x => x ≠ go) w.heap.size v Ll (levelF (sortP (leavesF l 0)) t)) ∧ Hid (PR wx w.heap.size (fun x => x ≠ go) w.heap.size (.slice vA L.length vc) r (sortP (leavesF l 0))) ∧ Hid (Blk wx go 3 (ints .i64 (List.replicate k 0))) ∧ Hid (Below w.heap.size w wx) ∧ Hid (wo.heap.size ≤ wx.heap.size)) (fun _ i _ => m - (intOf i).toNat)
            case atStart => exact ⟨0, [], by omega, rfl, Lib.hid (PR.nil _ _ _ _), HP2, HBZ2, HBW2, Lib.hid (Nat.le_refl _)⟩
            case round =>
              obtain ⟨t, Ll, ht, rfl, HPl, HPv, HBZ, HBW, HWO⟩ := hrel
              obtain ⟨wu, rfl⟩ : ∃ wu : World, wu = wr := ⟨_, rfl⟩
              obtain ⟨lA, lc, rfl, hlc⟩ := own_form2 HPl.out.own
              have hlvl := HPl.out.len
              by_cases hlt : t < m
              · have hlb : Ll.length ≤ 576 := by
                  have := (level_bd (sortP (leavesF l 0)) (sortP_pos B1.out) t).2.2.2
                  rw [sortP_len, HLEN.out] at this
                  omega
                have HLVL := Lib.hid hlvl
                clear hlvl
                go_wp2_with fail
                refine (clone_calls _ _ _ _ r (by have := HPv.out.own; rwa [HRL.out] at this) (by omega) (by omega)).mono ?_
                rintro _ w3 ⟨v3, rfl, ho3, hb3⟩
                have K3 := Lib.hid (Keeps.of_below (S := []) hb3)
                have hz3 := hb3.size
                have HPl3 := Lib.hid (HPl.out.dr K3.out)
                have HPv3 := Lib.hid (HPv.out.dr K3.out)
                have HBZ3 := Lib.hid (HBZ.out.keeps K3.out (by simp))
                have HBW3 := Lib.hid (HBW.out.trans (hb3.mono HBW.out.size))
                have HPn : Hid (PR w3 w.heap.size (fun x => x ≠ go) wu.heap.size v3 r (sortP (leavesF l 0) ++ (pairsF (levelF (sortP (leavesF l 0)) t)).take 0)) := by
                  rw [List.take_zero, List.append_nil]
                  exact ⟨by rw [HRL.out]; exact ho3, HPv3.out.sy, HPv3.out.ab⟩
                have HLO := Lib.hid (fun x (h : (Value.slice lA Ll.length lc).ownBlock = some x) => own_hi HPl.out.own x h)
                have HLV := Lib.hid (fun x (h : (Value.slice vA L.length vc).ownBlock = some x) => own_hi HPv.out.own x h)
                have HGO := Lib.hid HBZ.out.lt
                have hbu := HBW.out.size
                have HWQ : Hid (wo.heap.size ≤ w3.heap.size) := Lib.hid (Nat.le_trans HWO.out hz3)
                clear ho3 hb3 HPl HPv HBZ HBW
                obtain ⟨wq, rfl⟩ : ∃ wq : World, wq = w3 := ⟨_, rfl⟩
                go_wp2_with fail
                go_loopw [12, 13] (fun v i wx => ∃ (I j : Nat) (Lc : List Pk), i = .int .i64 I ∧ I ≤ 600 ∧ Lc.length ≤ 1000 ∧ Hid (I = 2 * j) ∧ Hid (PR wx w.heap.size (fun x => x ≠ go) wu.heap.size v Lc (sortP (leavesF l 0) ++ (pairsF (levelF (sortP (leavesF l 0)) t)).take j)) ∧ Hid (PR wx w.heap.size (fun x => x ≠ go) w.heap.size (.slice lA Ll.length lc) Ll (levelF (sortP (leavesF l 0)) t)) ∧ Hid (PR wx w.heap.size (fun x => x ≠ go) w.heap.size (.slice vA L.length vc) r (sortP (leavesF l 0))) ∧ Hid (Blk wx go 3 (ints .i64 (List.replicate k 0))) ∧ Hid (Below w.heap.size w wx) ∧ Hid (wq.heap.size ≤ wx.heap.size)) (fun _ i _ => (1000 - intOf i).toNat)
                case atStart => exact ⟨0, 0, r, rfl, by omega, by rw [HRL.out]; omega, Lib.hid rfl, HPn, HPl3, HPv3, HBZ3, HBW3, Lib.hid (Nat.le_refl _)⟩
                case round =>
                  clear HPn HPl3 HPv3 HBZ3 HBW3
                  obtain ⟨I, j, Lc, rfl, hI, hLc, HI, HPc, HPl, HPv, HBZ, HBW, HWX⟩ := hrel
                  obtain ⟨cA, cc, rfl⟩ := own_form HPc.out.own
                  by_cases hlt2 : I + 1 < Ll.length
                  · have e5 : decide ((I : Int) + 1 < (Ll.length : Int)) = true := by simp; omega
                    obtain ⟨gl, c', hv, hgl, hgl2, hob, hcell⟩ := HPl.out.cells (by omega)
                    injection hv with hv1 hv2 hv3
                    subst hv1
                    subst hv3
                    obtain ⟨p1, p2⟩ := hcell I (by omega)
                    obtain ⟨q1, q2⟩ := hcell (I + 1) hlt2
                    have hxp := HPl.out.ath (j := I) (by omega)
                    have hxq := HPl.out.ath (j := I + 1) hlt2
                    have hsp := HPl.out.sy (kth Ll I) (kth_mem (by omega))
                    have hsq := HPl.out.sy (kth Ll (I + 1)) (kth_mem hlt2)
                    have hxl := HPl.out.len
                    have hpn := hsp.1
                    have okp := level_ok B1.out B2'.out B3'.out (t := t) (by omega) (absW wr (kth Ll I)) (by rw [← hxp, List.getD_eq_getElem?_getD, List.getElem?_eq_getElem (by omega)]; exact List.getElem_mem _)
                    have okq := level_ok B1.out B2'.out B3'.out (t := t) (by omega) (absW wr (kth Ll (I + 1))) (by rw [← hxq, List.getD_eq_getElem?_getD, List.getElem?_eq_getElem (by omega)]; exact List.getElem_mem _)
                    have HTK : Hid ((pairsF (levelF (sortP (leavesF l 0)) t)).take (j + 1) = (pairsF (levelF (sortP (leavesF l 0)) t)).take j ++ [((absW wr (kth Ll I)).1 + (absW wr (kth Ll (I + 1))).1, (absW wr (kth Ll I)).2 ++ (absW wr (kth Ll (I + 1))).2)]) := by
                      have := pairsF_take (levelF (sortP (leavesF l 0)) t) j (by have := HI.out; omega)
                      unfold pth2 at this
                      rw [← HI.out, hxp, hxq] at this
                      exact this
                    generalize kth Ll I = p at *
                    generalize kth Ll (I + 1) = q at *
                    obtain ⟨pw, pa, pn, pcap⟩ := p
                    obtain ⟨qw, qa, qn, qcap⟩ := q
                    obtain ⟨hrp, gp, hpa, hgp, hgp2, -⟩ := hsp.reads
                    obtain ⟨hrq, gq, hqa, hgq, hgq2, -⟩ := hsq.reads
                    dsimp only at hpa hqa p1 p2 q1 q2 hrp hrq hpn
                    subst hpa
                    subst hqa
                    have lp := hrp.len
                    have lq := hrq.len
                    have okp1 : 0 < pw := okp.1
                    have okp2 : pw ≤ 100000000000000000 := okp.2.1
                    have okq1 : 0 < qw := okq.1
                    have okq2 : qw ≤ 100000000000000000 := okq.2.1
                    have okp3 : pn ≤ 4320 := by rw [← lp]; exact okp.2.2
                    have okq3 : qn ≤ 4320 := by rw [← lq]; exact okq.2.2
                    have e6 : IntKind.i64.wrap (pw + qw) = pw + qw := IntWalk.i64_in _ (by omega)
                    have e7 : IntKind.i64.wrap ((I : Int) + 1) = (I : Int) + 1 := IntWalk.i64_in _ (by omega)
                    have e8 : ((I : Int) + 1).toNat = I + 1 := by omega
                    have e9 : (0 : Int) ≤ (I : Int) + 1 := by omega
                    have e10 : (I : Int) + 1 < (Ll.length : Int) := by omega
                    have e11 : (I : Int) < (Ll.length : Int) := by omega
                    have HRP := Lib.hid hrp
                    have HRQ := Lib.hid hrq
                    have hwq := HWX.out
                    have hbz := HBW.out.size
                    have HGZ := Lib.hid HBZ.out.lt
                    have NOB : Hid (gl ∉ ob (.slice cA Lc.length cc)) := fun hm => by have q1 := own_lo HPc.out.own gl (mem_ob.1 hm); have q2 := HLO.out gl rfl; omega
                    clear okp okq hrp hrq lp lq hsp hsq hxp hxq hcell hxl
                    go_wp2_with fail
                    go_region_held3 (fun w' => w'.cell? ⟨gl, I * 2, none⟩ = some (.int .i64 pw) ∧ w'.cell? ⟨gl, I * 2 + 1, none⟩ = some (.slice (some ⟨gp, 0, none⟩) pn pcap) ∧ w'.cell? ⟨gl, (I + 1) * 2, none⟩ = some (.int .i64 qw) ∧ w'.cell? ⟨gl, (I + 1) * 2 + 1, none⟩ = some (.slice (some ⟨gq, 0, none⟩) qn qcap))
                      (first | go_keep | (exact ⟨by assumption, by assumption, by assumption, by assumption⟩))
                      (first
                        | (go_at_call 71; refine (concat_from wr _ wr.heap.size (some ⟨gp, 0, none⟩) (some ⟨gq, 0, none⟩) pn qn pcap qcap _ _ (by repeat (first | exact Keeps.refl _ _ | apply Keeps.drewN | apply Keeps.drew | apply Keeps.alloc)) (by simp) (by simp) HRP.out HRQ.out nofun nofun (fun ad h => ⟨gp, 0, (Option.some.inj h).symm⟩) (fun ad h => ⟨gq, 0, (Option.some.inj h).symm⟩) (by omega) (by omega)).mono ?_; rintro _ w1 ⟨A5, c5, rfl, ho5, hk5⟩; have hz5 := hk5.size; have r1 := hk5.cell (by simp) p1; have r2 := hk5.cell (by simp) p2; have r3 := hk5.cell (by simp) q1; have r4 := hk5.cell (by simp) q2)
                        | (refine step_pack rfl (.tmp 95) (.tmp 122) rfl wu.heap.size _ Lc.length Lc rfl (own_keeps HPc.out.own (hk5.alloc _) (by simp)) w1.heap.size ⟨pw + qw, A5, pn + qn, c5⟩ rfl (by simp) (by simp) (by omega) (by simp; omega) ?_; intro g6 c6 w6 ho6 hg6; have hk6 : Keeps (ob (.slice cA Lc.length cc)) wr w6 := ((hk5.alloc _).mono (by simp)).trans (grown_keeps hg6); have t1 := hk6.cell NOB.out p1; have t2 := hk6.cell NOB.out p2; have t3 := hk6.cell NOB.out q1; have t4 := hk6.cell NOB.out q2))
                    have hK7 : Keeps [] wr (w1.alloc (.cells #[.int .i64 (pw + qw), .slice A5 (pn + qn) c5] 136)) := hk5.alloc _
                    have hsn : Sy w1 w.heap.size (fun x => x ≠ go) ⟨pw + qw, A5, pn + qn, c5⟩ :=
                      ⟨by show 0 < pn + qn; omega, _, ho5.mono hbz, fun x hx => by have q1 := own_lo ho5 x hx; have q2 := HGZ.out; show x ≠ go; omega⟩
                    have hrd := rdS_own (p := ⟨pw + qw, A5, pn + qn, c5⟩) ho5
                    have hsn2 := hsn.keeps ((Keeps.refl [] w1).alloc (.cells #[.int .i64 (pw + qw), .slice A5 (pn + qn) c5] 136)) (by simp)
                    have hsnoc := HPc.out.snoc hK7 hsn2.1 ho6 hg6
                    have hab : absW (w1.alloc (.cells #[.int .i64 (pw + qw), .slice A5 (pn + qn) c5] 136)) ⟨pw + qw, A5, pn + qn, c5⟩ = ((absW wr ⟨pw, some ⟨gp, 0, none⟩, pn, pcap⟩).1 + (absW wr ⟨qw, some ⟨gq, 0, none⟩, qn, qcap⟩).1, (absW wr ⟨pw, some ⟨gp, 0, none⟩, pn, pcap⟩).2 ++ (absW wr ⟨qw, some ⟨gq, 0, none⟩, qn, qcap⟩).2) := by
                      unfold absW; rw [hsn2.2, hrd]
                    rw [hab, List.append_assoc, ← HTK.out] at hsnoc
                    have HPc6 := Lib.hid hsnoc
                    have HPl6 := Lib.hid (HPl.out.other HPc.out hk6 HLO.out)
                    have HPv6 := Lib.hid (HPv.out.other HPc.out hk6 HLV.out)
                    have HBZ6 := Lib.hid (HBZ.out.keeps hk6 (fun hm => by have q1 := own_lo HPc.out.own go (mem_ob.1 hm); have q2 := HGO.out; omega))
                    have HBW6 : Hid (Below w.heap.size w w6) := Lib.hid (((Keeps.of_below HBW.out).then hk6 (fun x hm => Or.inr (by have q1 := own_lo HPc.out.own x (mem_ob.1 hm); omega)) : Keeps [] w w6).below)
                    have HWX6 : Hid (wq.heap.size ≤ w6.heap.size) := Lib.hid (Nat.le_trans HWX.out hk6.size)
                    clear hK7 hsn hrd hsn2 hsnoc hab hk6 hg6 ho6 t1 t2 t3 t4 HPc HPl HPv HBZ HBW HWX
                    go_wp2_with fail
                    go_roundw
                    case rel => exact ⟨I + 2, j + 1, Lc ++ [⟨pw + qw, A5, pn + qn, c5⟩], by go_num, by omega, by have hq := HPc6.out.len; rw [List.length_append, sortP_len, HLEN.out, List.length_take] at hq; have := HI.out; omega, Lib.hid (by have := HI.out; omega), HPc6, HPl6, HPv6, HBZ6, HBW6, HWX6⟩
                    case measure => simp [intOf]; omega
                  · have e5 : decide ((I : Int) + 1 < (Ll.length : Int)) = false := by simp; omega
                    have HDN : Hid (sortP (leavesF l 0) ++ (pairsF (levelF (sortP (leavesF l 0)) t)).take j = sortP (leavesF l 0) ++ pairsF (levelF (sortP (leavesF l 0)) t)) := by
                      show _ = _; rw [pairsF_done _ j (by rw [HLVL.out]; have := HI.out; omega)]
                    have HPc2 : Hid (PR wr w.heap.size (fun x => x ≠ go) wu.heap.size (.slice cA Lc.length cc) Lc (sortP (leavesF l 0) ++ pairsF (levelF (sortP (leavesF l 0)) t))) := by have := HPc.out; rwa [HDN.out] at this
                    have hlc0 : 0 < Lc.length := by have hq := HPc2.out.len; rw [List.length_append, sortP_len, HLEN.out] at hq; omega
                    have hwq := HWX.out
                    go_wp2_with fail
                    refine (HPc2.out.sort hlc0 (by omega) (level_next_ok B1.out B2'.out B3'.out (by omega))).mono ?_
                    rintro _ w7 ⟨rfl, g7, r7, hg7, hb7, hpr7, hk7, hl7, -⟩
                    have hobv : ob (Value.slice cA Lc.length cc) = [g7] := by unfold ob; rw [hg7]; rfl
                    have hk8 : Keeps (ob (Value.slice cA Lc.length cc)) wr w7 := by rw [hobv]; exact hk7
                    have HPv7 := Lib.hid (HPv.out.other HPc2.out hk8 HLV.out)
                    have HBZ7 := Lib.hid (HBZ.out.keeps hk7 (by have := HGO.out; simp; omega))
                    have HBW7 : Hid (Below w.heap.size w w7) := Lib.hid (((Keeps.of_below HBW.out).then hk7 (fun x hm => Or.inr (by simp at hm; omega)) : Keeps [] w w7).below)
                    have HWO7 : Hid (wo.heap.size ≤ w7.heap.size) := Lib.hid (Nat.le_trans HWQ.out (Nat.le_trans hwq hk7.size))
                    have HPl7 : Hid (PR w7 w.heap.size (fun x => x ≠ go) w.heap.size (.slice cA Lc.length cc) r7 (levelF (sortP (leavesF l 0)) (t + 1))) := Lib.hid ⟨hpr7.own.mono hbu, hpr7.sy, hpr7.ab⟩
                    clear hpr7 hk7 hk8 hobv hl7 hg7 hb7 HPc HPl HPv HBZ HBW
                    go_wp2_with fail
                    refine ⟨⟨t + 1, r7, by omega, by go_num, HPl7, HPv7, HBZ7, HBW7, HWO7⟩, by simp [intOf]; omega⟩
              · obtain rfl : t = m := by omega
                have hlen2 := level_len (leavesF l 0) t (by rw [HLEN.out]; omega) (by rw [HLEN.out]; exact HKP.out)
                rw [HLEN.out, hlvl] at hlen2
                obtain ⟨Q, hQ⟩ : ∃ Q : Nat, Q = 2 * L.length - 2 := ⟨_, rfl⟩
                have s1 : 2 * (L.length : Int) - 2 = (Q : Int) := by omega
                have s2 : Q ≤ lc := by omega
                have s3 : Q ≤ Ll.length := by omega
                have s4 : 0 < Q := by omega
                have HQ := Lib.hid hQ
                have HINR : Hid (inR k (levelF (sortP (leavesF l 0)) t)) := by
                  refine level_inR _ (fun p hp s hs => ?_) t
                  have := B5.out p ((sortP_perm _).mem_iff.1 hp) s hs
                  have h5 := HLL.out
                  omega
                have HLVL := Lib.hid hlvl
                have HBZ0 : Hid (Blk wu go 3 (ints .i64 (cntF k (((levelF (sortP (leavesF l 0)) t).take 0).flatMap Prod.snd)))) := by
                  rw [List.take_zero, List.flatMap_nil, cntF_nil]; exact HBZ
                clear hQ hlen2 hlvl HBZ
                go_wp2_with fail
                go_loopw [136] (fun i wx => ∃ q : Nat, q ≤ Q ∧ i = .int .i64 q ∧ Hid (PR wx w.heap.size (fun x => x ≠ go) w.heap.size (.slice lA Ll.length lc) Ll (levelF (sortP (leavesF l 0)) t)) ∧ Hid (Blk wx go 3 (ints .i64 (cntF k (((levelF (sortP (leavesF l 0)) t).take q).flatMap Prod.snd)))) ∧ Hid (Below w.heap.size w wx)) (fun i _ => Q - (intOf i).toNat)
                case atStart => exact ⟨0, by omega, rfl, HPl, HBZ0, HBW⟩
                case round =>
                  clear HPl HBZ0 HBW
                  obtain ⟨q, hq, rfl, HPl, HBZ, HBW⟩ := hrel
                  by_cases hlt3 : q < Q
                  · obtain ⟨gl, c', hv, hgl, hgl2, hob, hcell⟩ := HPl.out.cells (by omega)
                    injection hv with hv1 hv2 hv3
                    subst hv1
                    subst hv3
                    obtain ⟨p1, p2⟩ := hcell q (by omega)
                    have hxp := HPl.out.ath (j := q) (by omega)
                    have hsp := HPl.out.sy (kth Ll q) (kth_mem (by omega))
                    have hpn := hsp.1
                    have hxl := HPl.out.len
                    have hmem : absW wr (kth Ll q) ∈ levelF (sortP (leavesF l 0)) t := by rw [← hxp, List.getD_eq_getElem?_getD, List.getElem?_eq_getElem (by omega)]; exact List.getElem_mem _
                    have HTK : Hid (((levelF (sortP (leavesF l 0)) t).take (q + 1)).flatMap Prod.snd = ((levelF (sortP (leavesF l 0)) t).take q).flatMap Prod.snd ++ (absW wr (kth Ll q)).2) := by
                      show _ = _
                      rw [List.take_succ_eq_append_getElem (by omega), List.flatMap_append, ← hxp, List.getD_eq_getElem?_getD, List.getElem?_eq_getElem (by omega)]
                      simp
                    have hin := HINR.out _ hmem
                    have okp := (level_ok B1.out B2'.out B3'.out (t := t) (by omega) _ hmem).2.2
                    generalize kth Ll q = p at *
                    obtain ⟨pw, pa, pn, pcap⟩ := p
                    obtain ⟨hrp, gp, hpa, hgp, hgp2, hgo2⟩ := hsp.reads
                    dsimp only at hpa p1 p2 hrp hpn hgo2
                    subst hpa
                    have HSY : Hid (∃ xs, xs = rdS wr ⟨pw, some ⟨gp, 0, none⟩, pn, pcap⟩) := ⟨_, rfl⟩
                    obtain ⟨xs, hxs⟩ := HSY.out
                    have hxs2 : (absW wr ⟨pw, some ⟨gp, 0, none⟩, pn, pcap⟩).2 = xs := hxs.symm
                    rw [← hxs] at hrp
                    rw [hxs2] at hin okp
                    have HTK2 : Hid (((levelF (sortP (leavesF l 0)) t).take (q + 1)).flatMap Prod.snd = ((levelF (sortP (leavesF l 0)) t).take q).flatMap Prod.snd ++ xs) := by show _ = _; rw [HTK.out, hxs2]
                    have HRP := Lib.hid hrp
                    have HIN := Lib.hid hin
                    have hpn2 : pn ≤ 4320 := by rw [← hrp.len]; exact okp
                    have HPA := Lib.hid (HPl.out.dr ((Keeps.refl [] wr).alloc (.cells #[.int .i64 pw, .slice (some ⟨gp, 0, none⟩) pn pcap] 136)))
                    have HRPA := Lib.hid (hrp.keeps ((Keeps.refl [] wr).alloc (.cells #[.int .i64 pw, .slice (some ⟨gp, 0, none⟩) pn pcap] 136)) (off_nil _))
                    have HBZA : Hid (Blk (wr.alloc (.cells #[.int .i64 pw, .slice (some ⟨gp, 0, none⟩) pn pcap] 136)) go 3 (ints .i64 (cntF k (((levelF (sortP (leavesF l 0)) t).take q).flatMap Prod.snd ++ xs.take 0)))) := by
                      rw [List.take_zero, List.append_nil]; exact HBZ.out.alloc _
                    have HOKL : Hid (¬ (Value.slice (some ⟨gl, 0, none⟩) Ll.length lc).ownBlock = some go) := fun h => by
                      obtain ⟨cs, hcs⟩ := own_int_block HPl.out.own h
                      rw [show wr.heap[go]? = some (.cells _ 3 (0, 0)) from HBZ.out] at hcs
                      injection hcs with hcs
                      injection hcs with _ h2
                      exact absurd h2 (by decide)
                    have HBWA := Lib.hid (HBW.out.alloc HBW.out.size (.cells #[.int .i64 pw, .slice (some ⟨gp, 0, none⟩) pn pcap] 136))
                    clear hcell hxp hsp hxl hmem hin okp hxs2 HTK hrp HSY hxs HPl HBZ HBW
                    go_wp2_with fail
                    go_loopw [143] (fun i wx => ∃ j : Nat, j ≤ pn ∧ i = .int .i64 j ∧ Hid (PR wx w.heap.size (fun x => x ≠ go) w.heap.size (.slice (some ⟨gl, 0, none⟩) Ll.length lc) Ll (levelF (sortP (leavesF l 0)) t)) ∧ Hid (RI .i64 wx (some ⟨gp, 0, none⟩) pn xs) ∧ Hid (Blk wx go 3 (ints .i64 (cntF k (((levelF (sortP (leavesF l 0)) t).take q).flatMap Prod.snd ++ xs.take j)))) ∧ Hid (Below w.heap.size w wx)) (fun i _ => pn - (intOf i).toNat)
                    case atStart => exact ⟨0, by omega, rfl, HPA, HRPA, HBZA, HBWA⟩
                    case round =>
                      clear HPA HRPA HBZA HBWA
                      obtain ⟨j, hj, rfl, HPl, HRP2, HBZ, HBW⟩ := hrel
                      by_cases hlt4 : j < pn
                      · have hc := HRP2.out.cell gp 0 rfl j hlt4
                        rw [Nat.zero_add] at hc
                        have hs := HIN.out (nth xs j) (by have := HRP.out.len; rw [nth_lt (by omega)]; exact List.getElem_mem _)
                        have HT1 : Hid (xs.take (j + 1) = xs.take j ++ [nth xs j]) := take_snoc' xs j (by have := HRP.out.len; omega)
                        obtain ⟨s, hs0⟩ := Int.eq_ofNat_of_zero_le hs.1
                        rw [hs0] at hc
                        have hsk : s < k := by have := hs.2; rw [hs0] at this; omega
                        have HT2 : Hid (xs.take (j + 1) = xs.take j ++ [(s : Int)]) := by have := HT1.out; rwa [hs0] at this
                        clear hs hs0 HT1
                        have hbd : (((levelF (sortP (leavesF l 0)) t).take q).flatMap Prod.snd ++ xs.take j).length ≤ 10000000 := by
                          have h1 := flat_len (X := (levelF (sortP (leavesF l 0)) t).take q) (fun x hx => (level_ok B1.out B2'.out B3'.out (t := t) (by omega) x (List.mem_of_mem_take hx)).2.2)
                          rw [List.length_take] at h1
                          rw [List.length_append, List.length_take]
                          have := HQ.out
                          omega
                        have HTJ : Hid (((levelF (sortP (leavesF l 0)) t).take q).flatMap Prod.snd ++ xs.take (j + 1) = (((levelF (sortP (leavesF l 0)) t).take q).flatMap Prod.snd ++ xs.take j) ++ [(s : Int)]) := by show _ = _; rw [HT2.out, List.append_assoc]
                        generalize ((levelF (sortP (leavesF l 0)) t).take q).flatMap Prod.snd ++ xs.take j = S0 at *
                        obtain ⟨x0, x1⟩ := cnt_bd k S0 s hsk
                        have HC2 := Lib.hid (cntF_snoc k S0 s hsk)
                        have hc0 : wr.cell? ⟨go, s, none⟩ = some (.int .i64 (nth (cntF k S0) s)) := by
                          rw [HBZ.out.cell, ints_getElem?]
                          have := cntF_len k S0
                          simp [nth, List.getD, show s < (cntF k S0).length by omega]
                        have hf0 := HBZ.out.frozen s
                        generalize nth (cntF k S0) s = x at *
                        have HKG : Hid (Keeps [go] wr (wr.setCell ⟨go, s, none⟩ (.int .i64 (x + 1)))) := Lib.hid ((Keeps.refl _ _).setCell (Or.inl (by simp)) _)
                        have HPlK := Lib.hid (HPl.out.keeps HKG.out (fun g hg hm => by rw [List.mem_singleton.1 hm] at hg; exact HOKL.out hg) (fun g hg h => by rw [List.mem_singleton.1 hg] at h; exact h.1 rfl))
                        have HRPK := Lib.hid (HRP2.out.keeps HKG.out (fun ad h => by obtain rfl := Option.some.inj h; simpa using hgo2))
                        have HBZK := Lib.hid (HBZ.out.set s (.int .i64 (x + 1)))
                        have HBWK := Lib.hid (HBW.out.setCell (p := ⟨go, s, none⟩) hwz (.int .i64 (x + 1)))
                        have x2 : x ≤ 10000000 := by omega
                        clear hbd HPl HRP2 HBZ HBW x1
                        go_wp2_with fail
                        refine ⟨⟨j + 1, by omega, by go_num, HPlK, HRPK, Lib.hid ?_, HBWK⟩, by simp [intOf]; omega⟩
                        rw [HTJ.out, HC2.out]
                        have := HBZK.out
                        rw [show (ints .i64 (cntF k S0)).set s (.int .i64 (x + 1)) = ints .i64 ((cntF k S0).set s (x + 1)) by simp [ints, List.map_set]] at this
                        exact this
                      · obtain rfl : j = pn := by omega
                        have hxt : xs.take j = xs := List.take_of_length_le (by have := HRP.out.len; omega)
                        have HBZ2 : Hid (Blk wr go 3 (ints .i64 (cntF k (((levelF (sortP (leavesF l 0)) t).take (q + 1)).flatMap Prod.snd)))) := by
                          have := HBZ.out; rw [hxt, ← HTK2.out] at this; exact this
                        clear hxt HBZ
                        go_wp2_with fail
                        refine ⟨⟨q + 1, by omega, by go_num, HPl, HBZ2, HBW⟩, by simp [intOf]; omega⟩
                  · obtain rfl : q = Q := by omega
                    have HRES : Hid (limLens l t = cntF k (((levelF (sortP (leavesF l 0)) t).take q).flatMap Prod.snd)) := by
                      show _ = _
                      unfold limLens
                      rw [if_neg (by rw [HLEN.out]; omega), HLL.out, HLEN.out, HQ.out]
                    go_wp2_with fail
                    go_ret2
                    refine limited_ok (v := .slice (some ⟨go, 0, none⟩) k k) HR3.out (by rw [HRES.out, cntF_len]) ?_ HBW.out
                    rw [HRES.out]
                    exact own_of_blk HBZ.out (cntF_len _ _) hwz (by omega)
/-- Limited lengths. -/
theorem limit_calls (w : World) (A : Option Addr) (n c : Nat) (l : List Int) (most : Int) (hl : RI .i64 w A n l) :
    Calls Tryd.prog 72 #[.slice A n c, .int .i64 most] w (Limited w (limF l most)) := by
  by_cases h : n = 0 ∨ 288 < n ∨ most < 1 ∨ 15 < most
  · exact limit_arg w A n c l most hl.len h
  · obtain ⟨m, rfl⟩ := Int.eq_ofNat_of_zero_le (show 0 ≤ most by omega)
    exact limit_rest w A n c l m hl (by omega) (by omega) (by omega) (by omega)
end Go.Proofs.YtcblibefmclloaaDoor

set_option linter.unusedVariables false
set_option linter.unusedSimpArgs false
namespace Go.Proofs.YtcblibefmclloaaDoor
open Go.RowKit
theorem arr19 : Tryd.prog.underlying 77 = some (.array (Tryd.prog.arrayLen 77) (Tryd.prog.elem 77)) := by kernel_rfl
theorem len19 : Tryd.prog.arrayLen 77 = 19 := by kernel_rfl
theorem elem19 : Tryd.prog.elem 77 = 3 := by kernel_rfl
theorem slice_arr (w : World) (b mn : Nat) (h : mn ≤ 19) : (Instr.sliceAt 77 (.pointer (some ⟨b, 0, none⟩)) none (some (.int .i64 mn)) none).run Tryd.prog w = .ok (.slice (some ⟨b, 0, none⟩) mn 19) w := by
  rw [run_sliceAt_array_h w 77 ⟨b, 0, none⟩ arr19 .i64 (mn : Int) (by omega) (by rw [len19]; omega), elem19, len19]
  obtain ⟨i0, hi, hz0, hz1, hz2⟩ := info_parts info_int
  simp [sizeOf, typeInfo, hi, hz1, slicedAt, go_sem]
end Go.Proofs.YtcblibefmclloaaDoor

set_option linter.unusedVariables false
set_option linter.unusedSimpArgs false
namespace Go.Proofs.YtcblibefmclloaaDoor
open Go.RowKit
/-- A block of one cell, not frozen. -/
structure Box (w : World) (b : Nat) (v : Value) : Prop where
  cell : w.cell? ⟨b, 0, none⟩ = some v
  free : w.frozen? ⟨b, 0, none⟩ = false
theorem Box.lt {w : World} {b : Nat} {v : Value} (h : Box w b v) : b < w.heap.size := World.block_lt_of_cell? _ _ h.cell
theorem Box.keeps {S : List Nat} {w w' : World} {b : Nat} {v : Value} (h : Box w b v) (hk : Keeps S w w') (hn : b ∉ S) : Box w' b v :=
  ⟨hk.cell (p := ⟨b, 0, none⟩) hn h.cell, (hk.frozen (p := ⟨b, 0, none⟩) h.lt hn).trans h.free⟩
theorem Box.set {w : World} {b : Nat} {v : Value} (h : Box w b v) (u : Value) : Box (w.setCell ⟨b, 0, none⟩ u) b u :=
  ⟨World.cell?_setCell_same' _ _ _ (by rw [h.cell]; rfl), by simpa using h.free⟩
/-- What the head's reader holds: the reader, its box, the box of what is wrong. -/
structure Hd (w : World) (rb eb g : Nat) (A : Option Addr) (c : Nat) (bs : List Int) (p : Nat) (e : Int) : Prop where
  rd : Rdr w g A c bs p
  bxr : Box w rb (.pointer (some ⟨g, 0, none⟩))
  bxe : Box w eb (.int .i64 e)
  hgr : g < rb
  hre : rb < eb
  ha : ∀ a, A = some a → a.block < rb
theorem Hd.offE {w : World} {rb eb g : Nat} {A : Option Addr} {c : Nat} {bs : List Int} {p : Nat} {e : Int} (h : Hd w rb eb g A c bs p e) : Off [eb] A := by
  intro a ha; have := h.ha a ha; have := h.hre; simp; omega
theorem Hd.take {w w' : World} {rb eb g : Nat} {A : Option Addr} {c : Nat} {bs : List Int} {p q : Nat} {e : Int} (h : Hd w rb eb g A c bs p e) (hr : Rdr w' g A c bs q) (hk : Keeps [g] w w') : Hd w' rb eb g A c bs q e :=
  ⟨hr, h.bxr.keeps hk (by have := h.hgr; simp; omega), h.bxe.keeps hk (by have := h.hgr; have := h.hre; simp; omega), h.hgr, h.hre, h.ha⟩
theorem Hd.keeps {S : List Nat} {w w' : World} {rb eb g : Nat} {A : Option Addr} {c : Nat} {bs : List Int} {p : Nat} {e : Int} (h : Hd w rb eb g A c bs p e) (hk : Keeps S w w') (h1 : g ∉ S) (h2 : rb ∉ S) (h3 : eb ∉ S) (h4 : Off S A) : Hd w' rb eb g A c bs p e :=
  ⟨h.rd.keeps hk h1 h4, h.bxr.keeps hk h2, h.bxe.keeps hk h3, h.hgr, h.hre, h.ha⟩
theorem Hd.set {w : World} {rb eb g : Nat} {A : Option Addr} {c : Nat} {bs : List Int} {p : Nat} {e : Int} (h : Hd w rb eb g A c bs p e) (e' : Int) : Hd (w.setCell ⟨eb, 0, none⟩ (.int .i64 e')) rb eb g A c bs p e' :=
  have hk : Keeps [eb] w (w.setCell ⟨eb, 0, none⟩ (.int .i64 e')) := (Keeps.refl _ _).setCell (Or.inl (by simp)) _
  ⟨h.rd.keeps hk (by have := h.hgr; have := h.hre; simp; omega) h.offE, h.bxr.keeps hk (by have := h.hre; simp; omega), h.bxe.set _, h.hgr, h.hre, h.ha⟩
set_option maxHeartbeats 400000 in
theorem read1_ok (w : World) (rb eb g : Nat) (A : Option Addr) (c : Nat) (bs : List Int) (p n : Nat) (e : Int) (h : Hd w rb eb g A c bs p e) (hn : n ≤ 32) (hf : p + n ≤ 8 * bs.length) :
    Calls Tryd.prog 79 #[.int .i64 n, .pointer (some ⟨rb, 0, none⟩), .pointer (some ⟨eb, 0, none⟩)] w fun r w' => r = .returned (.int .i64 (numB bs p n)) ∧ Hd w' rb eb g A c bs (p + n) e ∧ Keeps [g, eb] w w' := by
  have c1 := h.bxr.cell
  have H := Lib.hid h
  clear h
  have hb := numB_lt bs p n
  have hb2 := pow32 n hn
  have e1 : IntKind.i64.wrap (numB bs p n) = numB bs p n := IntWalk.i64_in _ (by omega)
  go_enter Tryd.func79, Tryd.ntmps79
  go_wp2_with fail
  refine (take_calls _ _ _ _ _ _ _ H.out.rd hn hf).mono ?_
  rintro r w' ⟨rfl, hr2, hk⟩
  have h2 := H.out.take hr2 hk
  have c2 := h2.bxe.cell
  have f2 := h2.bxe.free
  have H2 := Lib.hid h2
  have HK := Lib.hid hk
  clear hr2 hk c1 h2 H
  by_cases he : e = 0
  · subst he
    go_wp2_with fail
    go_ret
    exact ⟨rfl, H2.out.set 0, (HK.out.mono (by simp)).setCell (Or.inl (by simp)) _⟩
  · have e2 : (e == 0) = false := by simpa using he
    go_wp2_with fail
    go_ret
    exact ⟨rfl, H2.out, HK.out.mono (by simp)⟩
set_option maxHeartbeats 400000 in
theorem read1_end (w : World) (rb eb g : Nat) (A : Option Addr) (c : Nat) (bs : List Int) (p n : Nat) (e : Int) (h : Hd w rb eb g A c bs p e) (hn : n ≤ 32) (hf : 8 * bs.length < p + n) :
    Calls Tryd.prog 79 #[.int .i64 n, .pointer (some ⟨rb, 0, none⟩), .pointer (some ⟨eb, 0, none⟩)] w fun r w' => r = .returned (.int .i64 0) ∧ Hd w' rb eb g A c bs p (if e = 0 then 10 else e) ∧ Keeps [g, eb] w w' := by
  have c1 := h.bxr.cell
  have H := Lib.hid h
  clear h
  go_enter Tryd.func79, Tryd.ntmps79
  go_wp2_with fail
  refine (take_end _ _ _ _ _ _ _ H.out.rd hn hf).mono ?_
  rintro r w' ⟨rfl, hk⟩
  have h2 := H.out.keeps hk.keeps (S := []) (by simp) (by simp) (by simp) (off_nil _)
  have c2 := h2.bxe.cell
  have f2 := h2.bxe.free
  have H2 := Lib.hid h2
  have HK := Lib.hid hk
  clear hk c1 h2 H
  by_cases he : e = 0
  · subst he
    go_wp2_with fail
    go_ret
    exact ⟨rfl, by first | exact H2.out.set 10 | (rw [if_pos rfl]; exact H2.out.set 10), (HK.out.keeps).setCell (Or.inl (by simp)) _⟩
  · have e2 : (e == 0) = false := by simpa using he
    go_wp2_with fail
    go_ret
    exact ⟨rfl, by first | exact H2.out | (rw [if_neg he]; exact H2.out), HK.out.keeps⟩
end Go.Proofs.YtcblibefmclloaaDoor

set_option linter.unusedVariables false
set_option linter.unusedSimpArgs false
namespace Go.Proofs.YtcblibefmclloaaDoor
open Go.RowKit
set_option maxRecDepth 100000 in
set_option maxHeartbeats 1000000 in
theorem read_bad (w : World) (g : Nat) (A : Option Addr) (c : Nat) (bs : List Int) (p : Nat) (hr : Rdr w g A c bs p) (ha : ∀ a, A = some a → a.block < w.heap.size) (hf : p + 14 ≤ 8 * bs.length) (hbad : 29 < numB bs p 5 ∨ 29 < numB bs (p + 5) 5) :
    Calls Tryd.prog 58 #[.pointer (some ⟨g, 0, none⟩)] w fun r w' => r = .returned (.tuple #[.slice none 0 0, .slice none 0 0, .int .i64 40]) ∧ Rdr w' g A c bs (p + 14) ∧ Keeps [g] w w' := by
  have hg := hr.lt
  have H0 : Hid (Hd ((w.alloc (.cells #[.pointer (some ⟨g, 0, none⟩)] 38)).alloc (.cells #[.int .i64 0] 26)) w.heap.size (w.heap.size + 1) g A c bs p 0) := by
    have k1 : Keeps [] w ((w.alloc (.cells #[.pointer (some ⟨g, 0, none⟩)] 38)).alloc (.cells #[.int .i64 0] 26)) := ((Keeps.refl [] w).alloc _).alloc _
    exact ⟨hr.dr k1, ⟨by simp, by simp⟩, ⟨by simp, by simp⟩, hg, by omega, ha⟩
  have K0 : Hid (Keeps [g, w.heap.size + 1] w ((w.alloc (.cells #[.pointer (some ⟨g, 0, none⟩)] 38)).alloc (.cells #[.int .i64 0] 26))) := ((Keeps.refl _ w).alloc _).alloc _
  have b1 := numB_lt bs p 5
  have b2 := numB_lt bs (p + 5) 5
  have b3 := numB_lt bs (p + 10) 4
  have p5 : (2 : Int) ^ 5 = 32 := rfl
  have p4 : (2 : Int) ^ 4 = 16 := rfl
  rw [p5] at b1 b2
  rw [p4] at b3
  clear hr ha p5 p4
  go_enter Tryd.func58, Tryd.ntmps58
  go_wp2_with fail
  refine (read1_ok _ _ _ g A c bs p 5 0 H0.out (by omega) (by omega)).mono ?_
  rintro r w1 ⟨rfl, h1, k1⟩
  have H1 := Lib.hid h1
  have K1 := Lib.hid (K0.out.trans k1)
  clear h1 k1 H0 K0
  go_wp2_with fail
  refine (read1_ok _ _ _ g A c bs (p + 5) 5 0 H1.out (by omega) (by omega)).mono ?_
  rintro r w2 ⟨rfl, h1, k1⟩
  have H2 := Lib.hid h1
  have K2 := Lib.hid (K1.out.then k1 (by simp))
  clear h1 k1 H1 K1
  go_wp2_with fail
  refine (read1_ok _ _ _ g A c bs (p + 5 + 5) 4 0 H2.out (by omega) (by omega)).mono ?_
  rintro r w3 ⟨rfl, h1, k1⟩
  have ce := h1.bxe.cell
  have fe := h1.bxe.free
  have H3 := Lib.hid h1
  have K3 := Lib.hid (K2.out.then k1 (by simp))
  clear h1 k1 H2 K2
  by_cases hb1 : 29 < numB bs p 5
  · go_wp2_with fail
    have H4 := Lib.hid (H3.out.set 40)
    have c4 := H4.out.bxe.cell
    refine bodyPost_ret (v := .tuple #[.slice none 0 0, .slice none 0 0, .int .i64 40]) (by simp [results, Tryd.results58, go_sem, c4]) rfl ⟨rfl, H4.out.rd, ?_⟩
    exact ⟨K3.out.os, K3.out.tape, K3.out.output, by simpa [World.setCell] using K3.out.size, fun k hk hn => ((K3.out.setCell (p := ⟨w.heap.size + 1, 0, none⟩) (Or.inl (by simp)) (.int .i64 40)).block k hk (by simp at hn ⊢; omega))⟩
  · have hb2 : 29 < numB bs (p + 5) 5 := by omega
    go_wp2_with fail
    have H4 := Lib.hid (H3.out.set 40)
    have c4 := H4.out.bxe.cell
    refine bodyPost_ret (v := .tuple #[.slice none 0 0, .slice none 0 0, .int .i64 40]) (by simp [results, Tryd.results58, go_sem, c4]) rfl ⟨rfl, H4.out.rd, ?_⟩
    exact ⟨K3.out.os, K3.out.tape, K3.out.output, by simpa [World.setCell] using K3.out.size, fun k hk hn => ((K3.out.setCell (p := ⟨w.heap.size + 1, 0, none⟩) (Or.inl (by simp)) (.int .i64 40)).block k hk (by simp at hn ⊢; omega))⟩
end Go.Proofs.YtcblibefmclloaaDoor

set_option linter.unusedVariables false
set_option linter.unusedSimpArgs false
namespace Go.Proofs.YtcblibefmclloaaDoor
open Go.RowKit
set_option maxRecDepth 100000 in
set_option maxHeartbeats 1000000 in
theorem readHead_bad (w : World) (g : Nat) (A : Option Addr) (c : Nat) (bs : List Int) (p : Nat) (hr : Rdr w g A c bs p) (ha : ∀ a, A = some a → a.block < w.heap.size) (hf : p + 14 ≤ 8 * bs.length) (hbad : 29 < numB bs p 5 ∨ 29 < numB bs (p + 5) 5) :
    Calls Tryd.prog 25 #[.pointer (some ⟨g, 0, none⟩)] w fun r w' => r = .returned (.tuple #[.slice none 0 0, .slice none 0 0, .int .i64 40]) ∧ Rdr w' g A c bs p ∧ Keeps [g] w w' := by
  have HR := Lib.hid hr
  have hsz := hr.size
  clear hr
  go_enter Tryd.func25, Tryd.ntmps25
  go_wp2_with fail
  refine (gone_calls _ _ _ _ _ _ HR.out).mono ?_
  rintro r w1 ⟨rfl, hd⟩
  have H1 := Lib.hid (HR.out.dr hd.keeps)
  have K1 := Lib.hid (hd.keeps (S := [g]))
  have HA1 : Hid (∀ a, A = some a → a.block < w1.heap.size) := fun a h => Nat.lt_of_lt_of_le (ha a h) (hd.keeps (S := [])).size
  clear hd HR ha
  go_wp2_with fail
  refine (read_bad _ _ _ _ _ _ H1.out HA1.out hf hbad).mono ?_
  rintro r w2 ⟨rfl, h2, k2⟩
  have H2 := Lib.hid h2
  have K2 := Lib.hid (K1.out.trans k2)
  clear h2 k2 H1 K1 HA1 hbad
  go_wp2_with fail
  refine (gone_calls _ _ _ _ _ _ H2.out).mono ?_
  rintro r w3 ⟨rfl, hd⟩
  have H3 := Lib.hid (H2.out.dr hd.keeps)
  have K3 := Lib.hid (K2.out.trans (hd.keeps (S := [g])))
  clear hd H2 K2
  go_wp2_with fail
  refine (back_calls' _ _ _ _ _ _ 14 _ (by omega) H3.out (by omega)).mono ?_
  rintro r w4 ⟨rfl, h4, k4⟩
  have H4 := Lib.hid h4
  have K4 := Lib.hid (K3.out.trans k4)
  clear h4 k4 H3 K3
  go_wp2_with fail
  go_ret3
  exact ⟨rfl, by simpa using H4.out, K4.out⟩
end Go.Proofs.YtcblibefmclloaaDoor

set_option linter.unusedVariables false
set_option linter.unusedSimpArgs false
namespace Go.Proofs.YtcblibefmclloaaDoor
open Go.RowKit
set_option maxRecDepth 100000 in
set_option maxHeartbeats 1000000 in
theorem mul64_calls (w : World) (m : Nat) (hm : m ≤ 1000000) :
    Calls Tryd.prog 114 #[.int .u64 1, .int .u64 m] w fun e w' => e = .returned (.tuple #[.int .u64 0, .int .u64 m]) ∧ w = w' := by
  have e1 : Go.bits .and .u64 1 4294967295 = 1 := by rw [u64_mask32 _ (by omega) (by omega)]; rfl
  have e2 : Go.bits .and .u64 0 4294967295 = 0 := by rw [u64_mask32 _ (by omega) (by omega)]; rfl
  have e3 : Go.bits .and .u64 (m : Int) 4294967295 = m := by rw [u64_mask32 _ (by omega) (by omega)]; omega
  have e4 : IntKind.u64.wrap (m : Int) = m := wraps_u64 _ (by omega) (by omega)
  have e5 : (m : Int) / 4294967296 = 0 := by omega
  have e6 : IntKind.u64.wrap 0 = 0 := rfl
  go_enter Tryd.func114, Tryd.ntmps114
  go_wp2
  go_ret2
  exact ⟨rfl, rfl⟩
set_option maxRecDepth 100000 in
set_option maxHeartbeats 1000000 in
theorem mul_calls (w : World) (m : Nat) (hm : m ≤ 1000000) :
    Calls Tryd.prog 104 #[.int .u64 1, .int .u64 m] w fun e w' => e = .returned (.tuple #[.int .u64 0, .int .u64 m]) ∧ w = w' := by
  go_enter Tryd.func104, Tryd.ntmps104
  go_wp2_with fail
  refine (mul64_calls _ _ hm).mono ?_
  rintro e w' ⟨rfl, rfl⟩
  go_wp2_with fail
  go_ret2
  exact ⟨rfl, rfl⟩
end Go.Proofs.YtcblibefmclloaaDoor

set_option linter.unusedVariables false
set_option linter.unusedSimpArgs false
namespace Go.Proofs.YtcblibefmclloaaDoor
open Go.RowKit
theorem ints_one (k : IntKind) (xs : List Int) : ∀ v ∈ ints k xs, v.oneCell' = true := by
  intro u hu; simp only [ints, List.mem_map] at hu; obtain ⟨x, _, rfl⟩ := hu; rfl
theorem rep_src {w : World} {g t k m : Nat} {v : Int} (h : Blk w g t (ints .i64 (List.replicate k v ++ List.replicate m 0))) (j : Nat) (hj : j ≤ k) :
    ∀ i u, (ints .i64 (List.replicate j v))[i]? = some u → w.cell? ((⟨g, 0, none⟩ : Addr).add i) = some u := by
  intro i u hu
  have hi : i < j := by have := (List.getElem?_eq_some_iff.1 hu).1; simpa [ints] using this
  rw [add_plain, h.cell]
  rw [ints_getElem?] at hu ⊢
  rw [List.getElem?_append_left (by simp; omega)]
  simpa [hi, show i < k by omega] using hu
theorem rep_fit {k m q : Nat} {v : Int} (h2 : q ≤ m - k) (h : k < m) : k + (ints .i64 (List.replicate q v)).length ≤ (ints .i64 (List.replicate k v ++ List.replicate (m - k) 0)).length := by
  simp [ints]; omega
theorem rep_splice {k m q : Nat} {v : Int} (h2 : q ≤ m - k) (h : k < m) : splice (ints .i64 (List.replicate k v ++ List.replicate (m - k) 0)) k (ints .i64 (List.replicate q v)) = ints .i64 (List.replicate (k + q) v ++ List.replicate (m - (k + q)) 0) := by
  have e1 : List.replicate (k + q) v = List.replicate k v ++ List.replicate q v := by simp
  rw [e1]
  simp only [splice, ints, List.map_append, List.map_replicate, List.length_replicate, List.append_assoc]
  rw [List.take_append_of_le_length (by simp), List.drop_append]
  simp
  omega
set_option maxRecDepth 100000 in
set_option maxHeartbeats 1000000 in
theorem repeat_calls (w : World) (b c m : Nat) (v : Int) (hc : w.cell? ⟨b, 0, none⟩ = some (.int .i64 v)) (hm1 : 1 ≤ m) (hm : m ≤ 1000000) :
    Calls Tryd.prog 77 #[.slice (some ⟨b, 0, none⟩) 1 c, .int .i64 m] w fun e w' => ∃ g, e = .returned (.slice (some ⟨g, 0, none⟩) m m) ∧ Blk w' g 3 (ints .i64 (List.replicate m v)) ∧ w.heap.size ≤ g ∧ Below w.heap.size w w' := by
  have hbl : b < w.heap.size := World.block_lt_of_cell? _ _ hc
  have e0 : IntKind.u64.wrap (m : Int) = m := wraps_u64 _ (by omega) (by omega)
  have e1 : IntKind.u64.wrap 1 = 1 := rfl
  have e2 : decide ((0 : Int) < 0) = false := rfl
  have e4 : decide ((m : Int) < 0) = false := by simp
  have hmk := fun w => make_ints (P := Tryd.prog) w 22 3 .i64 8 Tryd.underlying22 info_int (m : Int) m rfl (by omega) (by omega)
  go_enter Tryd.func77, Tryd.ntmps77
  go_wp2_with fail
  refine (mul_calls _ _ hm).mono ?_
  rintro e w' ⟨rfl, rfl⟩
  have e3 : decide ((9223372036854775807 : Int) < (m : Int)) = false := by simp; omega
  go_wp2_with (with_reducible refine wpList_copy_splice rfl (.tmp 31) (.tmp 32) _ _ rfl 3 Tryd.underlying22 size_int _ _ _ _ _ _ rfl rfl w.heap.size 0 (ints .i64 (List.replicate m 0)) 3 ?h1 (ints .i64 [v]) ?h2 ?h3 ?h4 ?h5 w.heap.size w ?h6 (Nat.le_refl _) ?_)
  case h1 => exact blk_new w _ _
  case h2 => exact (Nat.min_eq_left hm1).symm
  case h3 =>
    intro _ j u hu
    match j, hu with
    | 0, hu =>
      simp [ints] at hu
      subst hu
      exact hc
    | j + 1, hu => simp [ints] at hu
  case h4 => simp [ints]; omega
  case h5 => intro u hu; simp only [ints, List.mem_map] at hu; obtain ⟨x, _, rfl⟩ := hu; rfl
  case h6 => exact (Below.refl _ _).alloc (Nat.le_refl _) _
  intro w1 hg1 hb1
  have hB : Blk w1 w.heap.size 3 (splice (ints .i64 (List.replicate m 0)) 0 (ints .i64 [v])) := hg1.out
  have hsp : splice (ints .i64 (List.replicate m 0)) 0 (ints .i64 [v]) = ints .i64 (List.replicate 1 v ++ List.replicate (m - 1) 0) := by
    simp [splice, ints]
  rw [hsp] at hB
  clear hg1 hsp hmk hc
  have HB := Lib.hid hB
  have HW := Lib.hid hb1
  clear hB hb1 e0 e1 e2 e3 e4
  go_wp2_with fail
  go_loopw [8] (fun v8 wr => ∃ k : Nat, 1 ≤ k ∧ k ≤ m ∧ v8 = .int .i64 k ∧ Hid (Blk wr w.heap.size 3 (ints .i64 (List.replicate k v ++ List.replicate (m - k) 0))) ∧ Hid (Below w.heap.size w wr)) (fun v8 _ => m - (intOf v8).toNat)
  case atStart => exact ⟨1, by omega, by omega, by go_num, HB, HW⟩
  case round =>
    clear HB HW
    obtain ⟨k, hk1, hk, rfl, HB, HW⟩ := hrel
    by_cases hlt : k < m
    · go_wp2_with fail
      have HLT := Lib.hid hlt
      obtain ⟨q, hq⟩ : ∃ q, q = Nat.min k (m - k) := ⟨_, rfl⟩
      have hq1 : 1 ≤ q := by rw [hq]; exact Nat.le_min.2 ⟨hk1, by omega⟩
      have hq2 : q ≤ m - k := by rw [hq]; exact Nat.min_le_right _ _
      have hq3 : q ≤ k := by rw [hq]; exact Nat.min_le_left _ _
      have HQ := Lib.hid hq
      clear hq
      have hlen : (ints .i64 (List.replicate q v)).length = q := by simp [ints]
      have HLEN := Lib.hid hlen
      have e2 : IntKind.i64.wrap ((k : Int) + (q : Int)) = (k : Int) + (q : Int) := IntWalk.i64_in _ (by omega)
      have e9 : ¬ m = k := by omega
      have HN := Lib.hid e9
      go_region_law (refine step_copy_splice rfl (.tmp 41) (.tmp 44) _ _ rfl 3 Tryd.underlying22 size_int (some ⟨w.heap.size, k, none⟩) (some ⟨w.heap.size, 0, none⟩) (m - k) (m - k) k m (by simp [Act.eval, Act.put, HN.out]) (by simp [Act.eval, Act.put]) w.heap.size k (ints .i64 (List.replicate k v ++ List.replicate (m - k) 0)) 3 (by exact HB.out) (ints .i64 (List.replicate q v)) (by exact HLEN.out.trans HQ.out) (fun _ => ⟨rfl, _, rfl, by exact rep_src HB.out _ hq3⟩) (by exact rep_fit hq2 HLT.out) (by exact ints_one _ _) w.heap.size w (by exact HW.out.drew) (Nat.le_refl _) ?_; intro w4 hg4 hb4)
      all_goals
        have hB4 : Blk w4 w.heap.size 3 (splice (ints .i64 (List.replicate k v ++ List.replicate (m - k) 0)) k (ints .i64 (List.replicate q v))) := hg4.out
        rw [rep_splice hq2 HLT.out] at hB4
        have HB4 := Lib.hid hB4
        have HW4 := Lib.hid hb4
        clear hB4 hb4 hg4 HB HW e9 hlen e2
        go_wp2_with fail
        go_roundw
        case rel => exact ⟨.int .i64 ((k : Int) + q), _, _, _, _, _, _, _, _, _, _, _, _, _, ⟨k + q, by omega, by omega, by go_num, HB4, HW4⟩, rfl⟩
        case measure =>
          show m - (intOf (.int .i64 ((k : Int) + q))).toNat < m - (intOf (.int .i64 (k : Int))).toNat
          simp [intOf]; omega
    · go_wp2_with fail
      obtain rfl : k = m := by omega
      go_ret
      exact ⟨_, rfl, by simpa using HB.out, Nat.le_refl _, HW.out⟩
theorem repeat_calls' (w : World) (b c m : Nat) (mi v : Int) (hmi : mi = m) (hc : w.cell? ⟨b, 0, none⟩ = some (.int .i64 v)) (hm1 : 1 ≤ m) (hm : m ≤ 1000000) :
    Calls Tryd.prog 77 #[.slice (some ⟨b, 0, none⟩) 1 c, .int .i64 mi] w fun e w' => ∃ g, e = .returned (.slice (some ⟨g, 0, none⟩) m m) ∧ Blk w' g 3 (ints .i64 (List.replicate m v)) ∧ w.heap.size ≤ g ∧ Below w.heap.size w w' := by
  subst hmi
  exact repeat_calls w b c m v hc hm1 hm
end Go.Proofs.YtcblibefmclloaaDoor

set_option linter.unusedVariables false
set_option linter.unusedSimpArgs false
namespace Go.Proofs.YtcblibefmclloaaDoor
open Go.RowKit
/-- 's = append(s, ys...)' of numbers, on a row of one's own. -/
theorem app_ints {ops : Array Oper} {rest : List Oper} {o : Oper} {a : Act} {Q : Exit → Act → World → Prop} {w : World} (hgd : o.guard = none) (s x : Operand)
    (ho : o.op = .call { callee := .builtin .append, args := #[s, x], argTypes := #[22, 22] })
    (base : Nat) (v : Value) (n : Nat) (xs : List Int) (hs : a.eval s = v) (hown : w.ownsRow base 3 1 v n (ints .i64 xs))
    (g m c : Nat) (ys : List Int) (hx : a.eval x = .slice (some ⟨g, 0, none⟩) m c) (hy : RI .i64 w (some ⟨g, 0, none⟩) m ys)
    (hn : n + m ≤ 1000000) (hbase : base ≤ w.heap.size)
    (h : ∀ v' w', w'.ownsRow base 3 1 v' (n + m) (ints .i64 (xs ++ ys)) → w.grownBy w' v.ownBlock → wpList Tryd.prog ops Q rest (a.put o.dst v') w') : wpList Tryd.prog ops Q (o :: rest) a w := by
  obtain ⟨i0, hi, hz0, hz1, hz2⟩ := info_parts info_int
  refine wpList_append_own _ hgd s x 22 ho base 3 i0 (.int .i64 0) 1 8 Tryd.underlying22 hi hz0 hz1 hz2 rfl (by decide) v n (ints .i64 xs) hs hown ⟨g, 0, none⟩ m c (ints .i64 ys) hx (by simp [ints, hy.len]) ?_ (ints_one _ _) (by unfold maxLen; omega) (by omega) hbase ?_
  · intro j u hu
    have hj : j < m := by have := (List.getElem?_eq_some_iff.1 hu).1; have := hy.len; simp [ints] at *; omega
    rw [add_plain]
    have hc := hy.cell g 0 rfl j hj
    rw [Nat.zero_add] at hc
    rw [hc, ← hu, ints_getElem?]
    simp [nth, List.getD, show j < ys.length by have := hy.len; omega]
  · intro v' w' h2 h3 _
    have e : ints .i64 (xs ++ ys) = ints .i64 xs ++ ints .i64 ys := by simp [ints]
    rw [e] at h
    exact h v' w' h2 h3
/-- What adding a step answers. -/
def Added (w : World) (base : Nat) (r : Option (List Int)) (e : Ending) (w' : World) : Prop :=
  match r with
  | some l => ∃ v, e = .returned (.tuple #[v, .bool true]) ∧ w'.ownsRow base 3 1 v l.length (ints .i64 l) ∧ Below base w w'
  | none => e = .returned (.tuple #[.slice none 0 0, .bool false]) ∧ Below base w w'
set_option maxRecDepth 100000 in
set_option maxHeartbeats 1000000 in
theorem add_bad (w : World) (base len c : Nat) (A : Option Addr) (l : List Int) (sym extra n : Int) (hb : base ≤ w.heap.size) (hs : sym < 0 ∨ 18 < sym) :
    Calls Tryd.prog 56 #[.slice A len c, .agg #[.int .i64 sym, .int .i64 extra], .int .i64 n] w (Added w base (addF l sym extra n)) := by
  have hr : addF l sym extra n = none := addF_none (by rcases hs with h | h; exact sayF_lit_none (by omega) (Or.inl h); exact sayF_big h)
  rw [hr]
  clear hr
  rcases hs with h | h
  · have e1 : decide (sym < 0) = true := by simpa using h
    go_enter Tryd.func56, Tryd.ntmps56
    go_wp2_with fail
    go_quiet (fail)
    go_wp2_with fail
    go_ret2
    exact ⟨rfl, (((Keeps.refl [] w).alloc _).drewN _).below.mono hb⟩
  · have e1 : decide (sym < 0) = false := by simp; omega
    have e2 : decide (19 ≤ sym) = true := by simp; omega
    go_enter Tryd.func56, Tryd.ntmps56
    go_wp2_with fail
    go_quiet (fail)
    go_wp2_with fail
    go_ret2
    exact ⟨rfl, (((Keeps.refl [] w).alloc _).drewN _).below.mono hb⟩
set_option maxRecDepth 100000 in
set_option maxHeartbeats 1000000 in
theorem add_neg (w : World) (base len c : Nat) (A : Option Addr) (l : List Int) (sym extra n : Int) (hb : base ≤ w.heap.size) (h0 : 0 ≤ sym) (h18 : sym ≤ 18) (hs : extra < 0) :
    Calls Tryd.prog 56 #[.slice A len c, .agg #[.int .i64 sym, .int .i64 extra], .int .i64 n] w (Added w base (addF l sym extra n)) := by
  have hr : addF l sym extra n = none := addF_none (by
    rcases (by omega : sym ≤ 15 ∨ sym = 16 ∨ sym = 17 ∨ sym = 18) with h | rfl | rfl | rfl
    · exact sayF_lit_none (by omega) (Or.inr (by omega))
    · exact sayF_16_none (Or.inl hs)
    · exact sayF_17_none (Or.inl hs)
    · exact sayF_18_none (Or.inl hs))
  rw [hr]
  clear hr
  have e1 : decide (sym < 0) = false := by simp; omega
  have e2 : decide (19 ≤ sym) = false := by simp; omega
  have e3 : decide (extra < 0) = true := by simpa using hs
  go_enter Tryd.func56, Tryd.ntmps56
  go_wp2_with fail
  go_quiet (fail)
  go_wp2_with fail
  go_ret2
  exact ⟨rfl, (((Keeps.refl [] w).alloc _).drewN _).below.mono hb⟩
/-- Of literal lengths: no more is said. -/
theorem wide0 (s : Nat) (h : s ≤ 15) : nth wideL s = 0 := by
  rcases (by omega : s = 0 ∨ s = 1 ∨ s = 2 ∨ s = 3 ∨ s = 4 ∨ s = 5 ∨ s = 6 ∨ s = 7 ∨ s = 8 ∨ s = 9 ∨ s = 10 ∨ s = 11 ∨ s = 12 ∨ s = 13 ∨ s = 14 ∨ s = 15) with rfl | rfl | rfl | rfl | rfl | rfl | rfl | rfl | rfl | rfl | rfl | rfl | rfl | rfl | rfl | rfl <;> rfl
set_option maxRecDepth 100000 in
set_option maxHeartbeats 1000000 in
theorem add_over (w : World) (base len c : Nat) (A : Option Addr) (l : List Int) (s : Nat) (extra n : Int) (hb : base ≤ w.heap.size) (ht : Tabs w) (h0 : 0 ≤ extra)
    (hs : s ≤ 15 ∧ 1 ≤ extra ∨ s = 16 ∧ 4 ≤ extra ∨ s = 17 ∧ 8 ≤ extra ∨ s = 18 ∧ 128 ≤ extra) :
    Calls Tryd.prog 56 #[.slice A len c, .agg #[.int .i64 s, .int .i64 extra], .int .i64 n] w (Added w base (addF l s extra n)) := by
  have e1 : decide ((s : Int) < 0) = false := by simp
  have e2 : decide (19 ≤ (s : Int)) = false := by simp; omega
  have e3 : decide (extra < 0) = false := by simp; omega
  have hl : (s : Int) < 19 := by omega
  have hc := ht.wid.cell _ _ rfl s (by omega)
  rw [Nat.zero_add] at hc
  clear ht
  rcases hs with ⟨h, hs⟩ | ⟨rfl, hs⟩ | ⟨rfl, hs⟩ | ⟨rfl, hs⟩
  · have hr : addF l s extra n = none := addF_none (sayF_lit_none (by omega) (Or.inr (by omega)))
    rw [hr]
    clear hr
    rw [wide0 s h] at hc
    have hc' := fun o => ((Keeps.refl [] w).alloc o).cell (by simp) hc
    clear hc
    have e4 : decide (1 ≤ extra) = true := by simpa using hs
    go_enter Tryd.func56, Tryd.ntmps56
    go_wp2_with fail
    go_quiet (fail)
    go_wp2_with fail
    go_ret2
    exact ⟨rfl, (((Keeps.refl [] w).alloc _).drewN _).below.mono hb⟩
  · have hr : addF l ((16 : Nat) : Int) extra n = none := addF_none (sayF_16_none (Or.inr (Or.inl (by omega))))
    rw [hr]
    clear hr
    rw [show nth wideL 16 = 2 from rfl] at hc
    have hc' := fun o => ((Keeps.refl [] w).alloc o).cell (by simp) hc
    clear hc
    have e4 : decide (4 ≤ extra) = true := by simpa using hs
    go_enter Tryd.func56, Tryd.ntmps56
    go_wp2_with fail
    go_quiet (fail)
    go_wp2_with fail
    go_ret2
    exact ⟨rfl, (((Keeps.refl [] w).alloc _).drewN _).below.mono hb⟩
  · have hr : addF l ((17 : Nat) : Int) extra n = none := addF_none (sayF_17_none (Or.inr (by omega)))
    rw [hr]
    clear hr
    rw [show nth wideL 17 = 3 from rfl] at hc
    have hc' := fun o => ((Keeps.refl [] w).alloc o).cell (by simp) hc
    clear hc
    have e4 : decide (8 ≤ extra) = true := by simpa using hs
    go_enter Tryd.func56, Tryd.ntmps56
    go_wp2_with fail
    go_quiet (fail)
    go_wp2_with fail
    go_ret2
    exact ⟨rfl, (((Keeps.refl [] w).alloc _).drewN _).below.mono hb⟩
  · have hr : addF l ((18 : Nat) : Int) extra n = none := addF_none (sayF_18_none (Or.inr (by omega)))
    rw [hr]
    clear hr
    rw [show nth wideL 18 = 7 from rfl] at hc
    have hc' := fun o => ((Keeps.refl [] w).alloc o).cell (by simp) hc
    clear hc
    have e4 : decide (128 ≤ extra) = true := by simpa using hs
    go_enter Tryd.func56, Tryd.ntmps56
    go_wp2_with fail
    go_quiet (fail)
    go_wp2_with fail
    go_ret2
    exact ⟨rfl, (((Keeps.refl [] w).alloc _).drewN _).below.mono hb⟩
set_option maxRecDepth 100000 in
set_option maxHeartbeats 1000000 in
/-- '16' with nothing to say again. -/
theorem add_first (w : World) (base c : Nat) (A : Option Addr) (extra n : Int) (hb : base ≤ w.heap.size) (ht : Tabs w) (h0 : 0 ≤ extra) (h3 : extra ≤ 3) :
    Calls Tryd.prog 56 #[.slice A 0 c, .agg #[.int .i64 16, .int .i64 extra], .int .i64 n] w (Added w base (addF [] 16 extra n)) := by
  have hr : addF [] 16 extra n = none := addF_none (sayF_16_none (Or.inr (Or.inr rfl)))
  rw [hr]
  clear hr
  have e3 : decide (extra < 0) = false := by simp; omega
  have e4 : decide (4 ≤ extra) = false := by simp; omega
  have hc := ht.wid.cell _ _ rfl 16 (by omega)
  rw [Nat.zero_add, show nth wideL 16 = 2 from rfl] at hc
  have hd := ht.fro.cell _ _ rfl 16 (by omega)
  rw [Nat.zero_add, show nth fromL 16 = 3 from rfl] at hd
  have hc' := fun o => ((Keeps.refl [] w).alloc o).cell (by simp) hc
  have hd' := fun o => ((Keeps.refl [] w).alloc o).cell (by simp) hd
  have e2 : IntKind.i64.wrap (3 + extra) = 3 + extra := IntWalk.i64_in _ (by omega)
  clear hc hd ht
  go_enter Tryd.func56, Tryd.ntmps56
  go_wp2_with fail
  go_quiet (fail)
  go_wp2_with fail
  go_quiet (fail)
  go_wp2_with fail
  go_ret2
  exact ⟨rfl, (((Keeps.refl [] w).alloc _).drewN _).below.mono hb⟩
end Go.Proofs.YtcblibefmclloaaDoor

set_option linter.unusedVariables false
set_option linter.unusedSimpArgs false
namespace Go.Proofs.YtcblibefmclloaaDoor
open Go.RowKit
theorem rep_ri {w : World} {g t m : Nat} {v : Int} (h : Blk w g t (ints .i64 (List.replicate m v))) : RI .i64 w (some ⟨g, 0, none⟩) m (List.replicate m v) := by
  have := Blk.ri (ys := []) (xs := List.replicate m v) (by simpa using h)
  simpa using this
set_option maxRecDepth 100000 in
set_option maxHeartbeats 1000000 in
theorem add_good (w : World) (base len : Nat) (u : Value) (l : List Int) (s : Nat) (extra n v : Int) (k : Nat) (hb : base ≤ w.heap.size) (ht : Tabs w) (hu : w.ownsRow base 3 1 u len (ints .i64 l)) (hlen : len ≤ 1000) (hsay : sayF l s extra = some (v, k)) :
    Calls Tryd.prog 56 #[u, .agg #[.int .i64 s, .int .i64 extra], .int .i64 n] w (Added w base (addF l s extra n)) := by
  obtain ⟨A, c, rfl, hri, hcap, hblk⟩ := own_ri hu
  have hll : l.length = len := hri.len
  have hkp := sayF_pos hsay
  have HS := Lib.hid hsay
  have HU := Lib.hid hu
  clear hu
  have HC : Hid (s ≤ 15 ∧ extra = 0 ∧ v = s ∧ k = 1 ∨ s = 16 ∧ 0 ≤ extra ∧ extra ≤ 3 ∧ 1 ≤ len ∧ v = nth l (len - 1) ∧ (k : Int) = 3 + extra ∨ s = 17 ∧ 0 ≤ extra ∧ extra ≤ 7 ∧ v = 0 ∧ (k : Int) = 3 + extra ∨ s = 18 ∧ 0 ≤ extra ∧ extra ≤ 127 ∧ v = 0 ∧ (k : Int) = 11 + extra) := by
    simp only [sayF] at hsay
    split at hsay
    · rename_i h; simp at hsay; exact Or.inl ⟨by omega, h.2.2, hsay.1.symm, hsay.2.symm⟩
    · split at hsay
      · rename_i h; simp at hsay
        have : 1 ≤ l.length := by
          rcases Nat.eq_zero_or_pos l.length with h' | h'
          · exact absurd (List.eq_nil_of_length_eq_zero h') h.2.2.2
          · exact h'
        exact Or.inr (Or.inl ⟨by omega, h.2.1, h.2.2.1, by omega, by rw [← hll]; simpa [nth] using hsay.1.symm, by omega⟩)
      · split at hsay
        · rename_i h; simp at hsay; exact Or.inr (Or.inr (Or.inl ⟨by omega, h.2.1, h.2.2, hsay.1.symm, by omega⟩))
        · split at hsay
          · rename_i h; simp at hsay; exact Or.inr (Or.inr (Or.inr ⟨by omega, h.2.1, h.2.2, hsay.1.symm, by omega⟩))
          · simp at hsay
  clear hsay
  have hglob : ∀ (j : Nat) (o : Obj), j < 19 → (w.alloc o).cell? ⟨2, j, none⟩ = some (.int .i64 (nth wideL j)) ∧ (w.alloc o).cell? ⟨0, j, none⟩ = some (.int .i64 (nth fromL j)) := fun j o hj => by
    have h1 := ht.wid.cell _ _ rfl j hj
    have h2 := ht.fro.cell _ _ rfl j hj
    rw [Nat.zero_add] at h1 h2
    exact ⟨((Keeps.refl [] w).alloc o).cell (by simp) h1, ((Keeps.refl [] w).alloc o).cell (by simp) h2⟩
  have HR := Lib.hid hri
  clear ht hri hll
  have e1 : decide ((s : Int) < 0) = false := by simp
  rcases HC.out with ⟨hs, rfl, hv, hk0⟩ | ⟨rfl, hx0, hx3, hl1, hv, hk⟩ | ⟨rfl, hx0, hx3, hv, hk⟩ | ⟨rfl, hx0, hx3, hv, hk⟩
  case' inl =>
    have hk1 : (k : Int) ≤ 1 := by omega
    have hk2 : 1 ≤ (k : Int) := by omega
    have HV := Lib.hid hv
    clear hv hk0
    have e2 : decide (19 ≤ (s : Int)) = false := by simp; omega
    have hl : (s : Int) < 19 := by omega
    have hc := fun o => (hglob s o (by omega)).1
    rw [wide0 s hs] at hc
    have e5 : decide (15 < (s : Int)) = false := by simp; omega
    have e6 : ((s : Int) == 16) = false := by simp; omega
    clear hglob HC
    go_enter Tryd.func56, Tryd.ntmps56
    go_wp2_with fail
    go_quiet (fail)
    go_upto_region 10 with (fail)
  case' inr.inl =>
    have hk1 : (k : Int) ≤ 3 + extra := by omega
    have hk2 : 3 + extra ≤ (k : Int) := by omega
    have HV := Lib.hid hv
    clear hv hk
    have e3 : decide (extra < 0) = false := by simp; omega
    have e4 : decide (4 ≤ extra) = false := by simp; omega
    have hc := fun o => (hglob 16 o (by omega)).1
    have hd := fun o => (hglob 16 o (by omega)).2
    rw [show nth wideL 16 = 2 from rfl] at hc
    rw [show nth fromL 16 = 3 from rfl] at hd
    have e2 : IntKind.i64.wrap (3 + extra) = 3 + extra := IntWalk.i64_in _ (by omega)
    obtain ⟨b, o, rfl, hlast⟩ := HR.out.at (show len - 1 < len by omega)
    have hlast' := fun ob => ((Keeps.refl [] w).alloc ob).cell (by simp) hlast
    have e7 : ((len : Int) == 0) = false := by simp; omega
    have e8 : ((len : Int) - 1).toNat = len - 1 := by omega
    clear hglob HC hlast
    go_enter Tryd.func56, Tryd.ntmps56
    go_wp2_with fail
    go_quiet (fail)
    go_wp2_with fail
    go_quiet (fail)
    go_upto_region 10 with (fail)
  case' inr.inr.inl =>
    have hk1 : (k : Int) ≤ 3 + extra := by omega
    have hk2 : 3 + extra ≤ (k : Int) := by omega
    have HV := Lib.hid hv
    clear hv hk
    have e3 : decide (extra < 0) = false := by simp; omega
    have e4 : decide (8 ≤ extra) = false := by simp; omega
    have hc := fun o => (hglob 17 o (by omega)).1
    have hd := fun o => (hglob 17 o (by omega)).2
    rw [show nth wideL 17 = 3 from rfl] at hc
    rw [show nth fromL 17 = 3 from rfl] at hd
    have e2 : IntKind.i64.wrap (3 + extra) = 3 + extra := IntWalk.i64_in _ (by omega)
    clear hglob HC
    go_enter Tryd.func56, Tryd.ntmps56
    go_wp2_with fail
    go_quiet (fail)
    go_wp2_with fail
    go_quiet (fail)
    go_upto_region 10 with (fail)
  case' inr.inr.inr =>
    have hk1 : (k : Int) ≤ 11 + extra := by omega
    have hk2 : 11 + extra ≤ (k : Int) := by omega
    have HV := Lib.hid hv
    clear hv hk
    have e3 : decide (extra < 0) = false := by simp; omega
    have e4 : decide (128 ≤ extra) = false := by simp; omega
    have hc := fun o => (hglob 18 o (by omega)).1
    have hd := fun o => (hglob 18 o (by omega)).2
    rw [show nth wideL 18 = 7 from rfl] at hc
    rw [show nth fromL 18 = 11 from rfl] at hd
    have e2 : IntKind.i64.wrap (11 + extra) = 11 + extra := IntWalk.i64_in _ (by omega)
    clear hglob HC
    go_enter Tryd.func56, Tryd.ntmps56
    go_wp2_with fail
    go_quiet (fail)
    go_wp2_with fail
    go_quiet (fail)
    go_upto_region 10 with (fail)
  all_goals
    by_cases hn : n < (len : Int) + (k : Int)
    · go_wp2_with fail
      go_ret2
      rw [addF_many HS.out (by have := HR.out.len; omega)]
      exact ⟨rfl, Keeps.below (by repeat (first | exact Keeps.refl _ _ | apply Keeps.drewN | apply Keeps.alloc)) |>.mono hb⟩
    · go_wp2_with fail
      refine (repeat_calls' _ _ _ k _ v (by omega) (by rw [HV.out]; go_simp) (by omega) (by omega)).mono ?_
      rintro e w6 ⟨g, rfl, hB, hg, hb6⟩
      have hK : Keeps [] w w6 := Keeps.trans (by repeat (first | exact Keeps.refl _ _ | apply Keeps.drewN | apply Keeps.alloc)) (Keeps.of_below hb6)
      have hO := own_keeps HU.out hK (by simp)
      have hRI := rep_ri hB
      have hsz : base ≤ w6.heap.size := Nat.le_trans hb hK.size
      have HO := Lib.hid hO
      have HRI := Lib.hid hRI
      have HK := Lib.hid hK
      clear hB hb6 hO hRI hK hg
      go_wp2_with (at_builtin; refine app_ints rfl (.tmp 63) (.tmp 67) rfl base _ _ _ rfl HO.out g k k (List.replicate k v) rfl HRI.out (by omega) hsz ?_)
      intro v' w7 h7 hg7
      have H7 := Lib.hid h7
      have HG := Lib.hid hg7
      clear h7 hg7
      go_wp2_with fail
      go_ret2
      rw [addF_some HS.out (by have := HR.out.len; omega)]
      refine ⟨v', rfl, ?_, ?_⟩
      · rw [show (l ++ List.replicate k v).length = len + k by have := HR.out.len; simp; omega]; exact H7.out
      · exact ((HK.out.below.mono hb).grown HG.out hsz (fun k hk => (HU.out.lt k hk).1))
end Go.Proofs.YtcblibefmclloaaDoor
