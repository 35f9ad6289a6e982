import Derived.Test.YtcblibefmclloaaDoorIAllH
import Derived.Test.YtcblibefmclloaaDoorIAllB
import Derived.Test.YtcblibefmclloaaDoorIAllC
import Derived.BigQuiet
import Derived.Test.YtcblibefmclloaaDoorIAllA
import Derived.Test.YtcblibefmclloaaDoorIAllG
set_option linter.unusedVariables false
set_option linter.unusedSimpArgs false
namespace Go.Proofs.YtcblibefmclloaaDoor
open Go.RowKit
theorem headF_n {bs : List Int} {p : Nat} (h : (headF bs p).2.2.2 ≠ 0) : (headF bs p).2.2.1 = 0 := by
  unfold headF at h ⊢
  split
  · rfl
  split
  · rfl
  split
  · rfl
  split
  · rfl
  split
  · rfl
  · next h1 h2 h3 h4 h5 =>
    rw [if_neg h1, if_neg h2, if_neg h3, if_neg h4, if_neg h5] at h
    exact absurd rfl h
theorem stepsF_len (codes bs : List Int) (N : Int) (hN : 0 ≤ N) : ∀ f l q, (l.length : Int) ≤ N → ((stepsF codes bs N f l q).1.length : Int) ≤ N
  | 0, l, q, h => h
  | f + 1, l, q, h => by
    rw [stepsF]
    split
    · exact h
    split
    · simpa using hN
    split
    · simpa using hN
    split
    · simpa using hN
    · next l' haf => exact stepsF_len codes bs N hN f l' _ (addF_grows haf).2.1
theorem litF_le (bs : List Int) (p : Nat) : litF bs p ≤ 288 := by
  have := numB_lt bs p 5
  unfold litF
  have e : (2 : Int) ^ 5 = 32 := rfl
  omega
theorem distF_le (bs : List Int) (p : Nat) : distF bs p ≤ 32 := by
  have := numB_lt bs (p + 5) 5
  unfold distF
  have e : (2 : Int) ^ 5 = 32 := rfl
  omega
theorem headF_len (bs : List Int) (p : Nat) : (headF bs p).1.length ≤ 320 ∧ (headF bs p).2.1.length ≤ 320 := by
  have h := stepsF_len (codesH bs p) bs ((litF bs p + distF bs p : Nat) : Int) (Int.natCast_nonneg _) (litF bs p + distF bs p) [] (p + 14 + 3 * manyF bs p) (by simp; omega)
  have hr : ((readR bs p).1.length : Int) ≤ ((litF bs p + distF bs p : Nat) : Int) := h
  have h1 := litF_le bs p
  have h2 := distF_le bs p
  unfold headF
  split
  · simp
  split
  · simp
  split
  · simp
  split
  · simp
  split
  · simp
  · simp only [List.length_take, List.length_drop]; omega
theorem headF_n_le (bs : List Int) (p : Nat) (hp : p ≤ 8 * bs.length) : True := trivial
set_option maxRecDepth 100000 in
set_option maxHeartbeats 1000000 in
theorem lensRead_calls (w : World) (g : Nat) (A : Option Addr) (c : Nat) (bs : List Int) (p : Nat) (hT : Tabs w) (hg : gtop ≤ g) (hr : Rdr w g A c bs p) (ha : ∀ a, A = some a → a.block < w.heap.size) :
    Calls Tryd.prog 25 #[.pointer (some ⟨g, 0, none⟩)] w fun e w' => ∃ v1 v2, e = .returned (.tuple #[v1, v2, .int .i64 (headF bs p).2.2.2]) ∧ w'.ownsRow w.heap.size 3 1 v1 (headF bs p).1.length (ints .i64 (headF bs p).1) ∧
      w'.ownsRow w.heap.size 3 1 v2 (headF bs p).2.1.length (ints .i64 (headF bs p).2.1) ∧ Rdr w' g A c bs (p + (headF bs p).2.2.1) ∧ Keeps [g] w w' := by
  have HR := Lib.hid hr
  have HT := Lib.hid hT
  have hsz := hr.size
  clear hr hT
  go_enter Tryd.func25, Tryd.ntmps25
  go_wp2_with fail
  refine (gone_calls _ _ _ _ _ _ HR.out).mono ?_
  rintro r w1 ⟨rfl, hd⟩
  have hk1 := hd.keeps (S := [])
  have H1 := Lib.hid (HR.out.dr hk1)
  have T1 := Lib.hid (HT.out.keeps hk1 (by simp))
  have K1 := Lib.hid (hd.keeps (S := [g]))
  have HA1 : Hid (∀ a, A = some a → a.block < w1.heap.size) := Lib.hid (fun a h => Nat.lt_of_lt_of_le (ha a h) hk1.size)
  have S1 : Hid (w.heap.size ≤ w1.heap.size) := Lib.hid hk1.size
  clear hd HR HT ha hk1
  go_wp2_with fail
  refine (read_calls _ _ _ _ _ _ T1.out hg H1.out HA1.out).mono ?_
  rintro _ w2 ⟨v1, v2, q, rfl, ho1, ho2, hr2, hpq, hq, hk2⟩
  have HO1 := Lib.hid (ho1.mono S1.out)
  have HO2 := Lib.hid (ho2.mono S1.out)
  have H2 := Lib.hid hr2
  have K2 := Lib.hid (K1.out.trans hk2)
  have HGW : Hid (g < w1.heap.size) := Lib.hid H1.out.lt
  have HOW1 := Lib.hid ho1
  have HOW2 := Lib.hid ho2
  have hqT := hr2.le
  clear ho1 ho2 hr2 hk2 H1 K1 T1 HA1
  by_cases her : (headF bs p).2.2.2 = 0
  · have HQ := Lib.hid (hq her)
    have e1 : ((headF bs p).2.2.2 != 0) = false := by simp [her]
    have HER := Lib.hid her
    clear hq
    obtain ⟨A1, c1, rfl⟩ := own_form' HO1.out
    obtain ⟨A2, c2, rfl⟩ := own_form' HO2.out
    go_wp2_with fail
    go_ret3
    exact ⟨_, _, by first | rfl | (rw [HER.out]; rfl), HO1.out, HO2.out, by rw [← HQ.out]; exact H2.out, K2.out⟩
  · have HN := Lib.hid (headF_n her)
    have e1 : ((headF bs p).2.2.2 != 0) = true := by simpa using her
    obtain ⟨A1, c1, rfl⟩ := own_form' HO1.out
    obtain ⟨A2, c2, rfl⟩ := own_form' HO2.out
    clear hq
    generalize hE : (headF bs p).2.2.2 = er at *
    go_wp2_with fail
    refine (gone_calls _ _ _ _ _ _ H2.out).mono ?_
    rintro r w3 ⟨rfl, hd⟩
    have H3 := Lib.hid (H2.out.dr hd.keeps)
    have K3 := Lib.hid (K2.out.trans (hd.keeps (S := [g])))
    have O1 := Lib.hid (own_keeps HOW1.out (hd.keeps (S := [])) (by simp))
    have O2 := Lib.hid (own_keeps HOW2.out (hd.keeps (S := [])) (by simp))
    have e2 : IntKind.i64.wrap ((q : Int) - (p : Int)) = ((q - p : Nat) : Int) := by rw [show (q : Int) - (p : Int) = ((q - p : Nat) : Int) by omega]; exact IntWalk.i64_in _ (by omega)
    clear hd H2 K2 HO1 HO2 HOW1 HOW2
    go_wp2_with fail
    refine (back_calls' _ _ _ _ _ q (q - p) _ (by first | rfl | omega) H3.out (by omega)).mono ?_
    rintro r w4 ⟨rfl, h4, k4⟩
    have H4 := Lib.hid h4
    have K4 := Lib.hid (K3.out.trans k4)
    have P1 := Lib.hid (own_keeps O1.out k4 (fun x hx hm => by have := (O1.out.lt x hx).1; rw [List.mem_singleton.1 hm] at this; have := HGW.out; omega))
    have P2 := Lib.hid (own_keeps O2.out k4 (fun x hx hm => by have := (O2.out.lt x hx).1; rw [List.mem_singleton.1 hm] at this; have := HGW.out; omega))
    clear h4 k4 H3 K3 O1 O2
    go_wp2_with fail
    go_ret3
    refine ⟨_, _, by rw [hE]; rfl, P1.out.mono S1.out, P2.out.mono S1.out, ?_, K4.out⟩
    rw [HN.out]
    have := H4.out
    rwa [show q - (q - p) = p + 0 by omega] at this
end Go.Proofs.YtcblibefmclloaaDoor

set_option linter.unusedVariables false
set_option linter.unusedSimpArgs false
/-! An append that also tells where the row lies behind it. -/
namespace Go.Proofs.YtcblibefmclloaaDoor
open Go.RowKit
/-- A row of bytes whose room holds bytes, too. -/
def AllU8 (w : World) (v : Value) : Prop := ∀ k, v.ownBlock = some k → ∃ cur : Array Value, w.heap[k]? = some (.cells cur 5 (0, 0)) ∧ ∀ u ∈ cur.toList, ∃ n, u = .int .u8 n
theorem AllU8.nil (w : World) : AllU8 w (.slice none 0 0) := fun k hk => by simp [Value.ownBlock] at hk
theorem AllU8.keeps {w w' : World} {v : Value} {S : List Nat} (h : AllU8 w v) (hk : Keeps S w w') (hS : ∀ k, v.ownBlock = some k → k ∉ S) : AllU8 w' v := fun k hv => by
  obtain ⟨cur, h1, h2⟩ := h k hv
  exact ⟨cur, hk.heap h1 (hS k hv), h2⟩
theorem zeroCells_u8 (n : Nat) : ∀ u ∈ (Builtin.zeroCells (Value.int .u8 0).cells n).toList, ∃ k, u = .int .u8 k := by
  intro u hu
  have hz : (Value.int .u8 0).cells = #[.int .u8 0] := rfl
  rw [hz] at hu
  simp only [Builtin.zeroCells, Array.toList_map, List.mem_map] at hu
  obtain ⟨i, _, rfl⟩ := hu
  exact ⟨0, by simp [Nat.mod_one]⟩
theorem ints_u8 {xs : List Int} : ∀ u ∈ ints .u8 xs, ∃ k, u = .int .u8 k := by
  intro u hu
  simp only [ints, List.mem_map] at hu
  obtain ⟨x, _, rfl⟩ := hu
  exact ⟨x, rfl⟩
theorem run_append_u8 {P : Program} (w : World) (base : Nat) (t ty : TypeId) (i : TypeInfo) (bytes : Nat) (ht : P.underlying t = some (.slice 5)) (hi : P.info? 5 = some i) (hz : i.zero = some (.int .u8 0))
    (hsize : i.size = 1) (hby : i.bytes = bytes)
    (v : Value) (n : Nat) (xs : List Value) (hown : w.ownsRow base 5 1 v n xs)
    (a : Addr) (m c : Nat) (ys : List Int) (hl : (ints .u8 ys).length = m * 1) (hnews : ∀ j u, (ints .u8 ys)[j]? = some u → w.cell? (a.add j) = some u) (h1 : ∀ u ∈ ints .u8 ys, u.oneCell' = true)
    (h63 : n + m ≤ maxLen) (hbytes : (n + m) * bytes ≤ 140737488355328) (hU : AllU8 w v) :
    ∃ v' w', (Builtin.append_ #[t, t] ty #[v, .slice (some a) m c]).run P w = .ok v' w' ∧ AllU8 w' v' := by
  rw [← hsize] at hown hl
  subst hby
  have hsmall : n + m ≤ 9223372036854775807 := by simp only [maxLen] at h63; omega
  have new : ∀ (cells : List Value) (k N cap : Nat), (∀ u ∈ cells, ∃ k, u = .int .u8 k) → AllU8 (w.drew.alloc (.cells (cells.toArray ++ Builtin.zeroCells (Value.int .u8 0).cells k) 5)) (.slice (some ⟨w.heap.size, 0, none⟩) N cap) := fun cells k N cap hc => by
    intro b hb
    have e : w.heap.size = b := by simpa [Value.ownBlock] using hb
    subst e
    refine ⟨_, heap_alloc_new w.drew _, fun u hu => ?_⟩
    rw [Array.toList_append] at hu
    rcases List.mem_append.1 hu with h | h
    · exact hc u h
    · exact zeroCells_u8 k u h
  rcases hown.2 with ⟨rfl, rfl⟩ | ⟨g, cap, cur, rfl, hbg, hg, hnc, hcm, hcs, htake⟩
  · by_cases hm : m = 0
    · subst hm
      have hn : ints .u8 ys = [] := List.eq_nil_of_length_eq_zero (by simpa using hl)
      refine ⟨.slice none 0 0, w, ?_, hU⟩
      simp [Builtin.append_, run_underlying ht, sizeOf, typeInfo, hi, Builtin.lenOf, Builtin.firstCells, loadCells, loadCellsFrom]
    · have hr := run_append_nil (P := P) w t ty 5 i (.int .u8 0) ht hi hz a m c (ints .u8 ys) hl hnews (by omega) (by omega) (by have hb := hbytes; simp only [Nat.zero_add] at hb; omega)
      exact ⟨_, _, hr, new _ _ _ _ ints_u8⟩
  · obtain ⟨cur', hg', hall⟩ := hU g rfl
    have hcc : cur' = cur := by
      rw [hg] at hg'
      injection hg' with hg'
      injection hg' with hg' _ _
      exact hg'.symm
    subst hcc
    by_cases hroom : n + m ≤ cap
    · have hfit : n * i.size + (ints .u8 ys).length ≤ cur'.size := by rw [hl, hcs, ← Nat.add_mul]; exact Nat.mul_le_mul_right _ hroom
      have hr := run_append_room (P := P) w t ty 5 i ht hi g n cap cur' hg a m c (ints .u8 ys) hl hnews h1 hroom hfit
      refine ⟨_, _, hr, fun b hb => ?_⟩
      have e : g = b := by simpa [Value.ownBlock] using hb
      subst e
      refine ⟨_, setRow_heap w g cur' _ 5 _ hg, fun u hu => ?_⟩
      simp only [List.mem_append] at hu
      rcases hu with (h | h) | h
      · exact hall u (List.mem_of_mem_take h)
      · exact ints_u8 u h
      · exact hall u (List.mem_of_mem_drop h)
    · have holds : ∀ j u, xs[j]? = some u → w.cell? ((⟨g, 0, none⟩ : Addr).add j) = some u := hown.cells (g := g) rfl
      have hr := run_append_grow (P := P) w t ty 5 i (.int .u8 0) ht hi hz ⟨g, 0, none⟩ n cap xs hown.1 holds a m c (ints .u8 ys) hl hnews (by omega) (by omega) (growslice_fits (by omega) hbytes)
      refine ⟨_, _, hr, ?_⟩
      have hc : ∀ u ∈ xs ++ ints .u8 ys, ∃ k, u = .int .u8 k := by
        intro u hu
        rcases List.mem_append.1 hu with h | h
        · rw [← htake] at h; exact hall u (List.mem_of_mem_take h)
        · exact ints_u8 u h
      have := new (xs ++ ints .u8 ys) (grownCap w (n + m) cap 5 - (n + m)) (n + m) (grownCap w (n + m) cap 5) hc
      rwa [show (xs ++ ints .u8 ys).toArray = xs.toArray ++ (ints .u8 ys).toArray by simp] at this
theorem run_append_where {P : Program} (w : World) (base : Nat) (t ty e : TypeId) (i : TypeInfo) (z : Value) (size bytes : Nat) (ht : P.underlying t = some (.slice e)) (hi : P.info? e = some i) (hz : i.zero = some z)
    (hsize : i.size = size) (hby : i.bytes = bytes) (hzs : z.cells.size = size) (hsz : 0 < size)
    (v : Value) (n : Nat) (xs : List Value) (hown : w.ownsRow base e size v n xs)
    (a : Addr) (m c : Nat) (news : List Value) (hl : news.length = m * size) (hnews : ∀ j u, news[j]? = some u → w.cell? (a.add j) = some u) (h1 : ∀ u ∈ news, u.oneCell' = true)
    (h63 : n + m ≤ maxLen) (hbytes : (n + m) * bytes ≤ 140737488355328) :
    ∃ v' w', (Builtin.append_ #[t, t] ty #[v, .slice (some a) m c]).run P w = .ok v' w' ∧ (v'.ownBlock = v.ownBlock ∨ v'.ownBlock = some w.heap.size) := by
  subst hsize
  subst hby
  have hsmall : n + m ≤ 9223372036854775807 := by simp only [maxLen] at h63; omega
  rcases hown.2 with ⟨rfl, rfl⟩ | ⟨g, cap, cur, rfl, hbg, hg, hnc, hcm, hcs, htake⟩
  · by_cases hm : m = 0
    · subst hm
      have hn : news = [] := List.eq_nil_of_length_eq_zero (by simpa using hl)
      subst hn
      refine ⟨.slice none 0 0, w, ?_, .inl rfl⟩
      simp [Builtin.append_, run_underlying ht, sizeOf, typeInfo, hi, Builtin.lenOf, Builtin.firstCells, loadCells, loadCellsFrom]
    · have hr := run_append_nil (P := P) w t ty e i z ht hi hz a m c news hl hnews (by omega) (by omega) (by have hb := hbytes; simp only [Nat.zero_add] at hb; omega)
      exact ⟨_, _, hr, .inr rfl⟩
  · by_cases hroom : n + m ≤ cap
    · have hfit : n * i.size + news.length ≤ cur.size := by rw [hl, hcs, ← Nat.add_mul]; exact Nat.mul_le_mul_right _ hroom
      have hr := run_append_room (P := P) w t ty e i ht hi g n cap cur hg a m c news hl hnews h1 hroom hfit
      exact ⟨_, _, hr, .inl rfl⟩
    · have holds : ∀ j u, xs[j]? = some u → w.cell? ((⟨g, 0, none⟩ : Addr).add j) = some u := hown.cells (g := g) rfl
      have hr := run_append_grow (P := P) w t ty e i z ht hi hz ⟨g, 0, none⟩ n cap xs hown.1 holds a m c news hl hnews (by omega) (by omega) (growslice_fits (by omega) hbytes)
      exact ⟨_, _, hr, .inr rfl⟩
theorem app_bytesU {ops : Array Oper} {rest : List Oper} {o : Oper} {a : Act} {Q : Exit → Act → World → Prop} {w : World} (hgd : o.guard = none) (s x : Operand)
    (ho : o.op = .call { callee := .builtin .append, args := #[s, x], argTypes := #[37, 37] })
    (base : Nat) (v : Value) (n : Nat) (xs : List Int) (hs : a.eval s = v) (hown : w.ownsRow base 5 1 v n (ints .u8 xs))
    (A : Option Addr) (m c : Nat) (ys : List Int) (hx : a.eval x = .slice A m c) (hy : RI .u8 w A m ys) (hnil : A = none → m = 0 ∧ c = 0)
    (hn : n + m ≤ 8000000000) (hbase : base ≤ w.heap.size)
    (h : ∀ v' w', w'.ownsRow base 5 1 v' (n + m) (ints .u8 (xs ++ ys)) → w.grownBy w' v.ownBlock → (v'.ownBlock = v.ownBlock ∨ v'.ownBlock = some w.heap.size) → (AllU8 w v → AllU8 w' v') → wpList Tryd.prog ops Q rest (a.put o.dst v') w') : wpList Tryd.prog ops Q (o :: rest) a w := by
  obtain ⟨i0, hi, hz0, hz1, hz2⟩ := info_parts info_u8
  cases A with
  | none =>
    obtain ⟨rfl, rfl⟩ := hnil rfl
    obtain rfl : ys = [] := List.eq_nil_of_length_eq_zero hy.len
    refine wpList_append_own_none hgd s x 37 ho base 5 i0 1 Tryd.underlying37 hi v n (ints .u8 xs) hs hown hx ?_
    exact h v w (by simpa using hown) ⟨rfl, rfl, rfl, Nat.le_refl _, fun _ _ _ => rfl⟩ (.inl rfl) id
  | some ad =>
    have hnews : ∀ j u, (ints .u8 ys)[j]? = some u → w.cell? (ad.add j) = some u := by
      intro j u hu
      have hj : j < m := by have := (List.getElem?_eq_some_iff.1 hu).1; have := hy.len; simp [ints] at *; omega
      obtain ⟨b, of, hab⟩ := hy.hd (by omega)
      obtain rfl := Option.some.inj hab
      rw [add_plain2]
      have hc := hy.cell b of rfl j hj
      rw [hc, ← hu, ints_getElem?]
      simp [nth, List.getD, show j < ys.length by have := hy.len; omega]
    obtain ⟨v', w', hr, h2, h3, -⟩ := run_append_own (P := Tryd.prog) w base 37 o.type 5 i0 (.int .u8 0) 1 1 Tryd.underlying37 hi hz0 hz1 hz2 rfl (by decide) v n (ints .u8 xs) hown ad m c (ints .u8 ys) (by simp [ints, hy.len]) hnews (ints_one' _ _) (by unfold maxLen; omega) (by omega) hbase
    obtain ⟨v2, w2, hr2, h4⟩ := run_append_where (P := Tryd.prog) w base 37 o.type 5 i0 (.int .u8 0) 1 1 Tryd.underlying37 hi hz0 hz1 hz2 rfl (by decide) v n (ints .u8 xs) hown ad m c (ints .u8 ys) (by simp [ints, hy.len]) hnews (ints_one' _ _) (by unfold maxLen; omega) (by omega)
    rw [hr] at hr2
    injection hr2 with e1 e2
    subst e1
    have hu8 : AllU8 w v → AllU8 w' v' := fun hU => by
      obtain ⟨v3, w3, hr3, h5⟩ := run_append_u8 (P := Tryd.prog) w base 37 o.type i0 1 Tryd.underlying37 hi hz0 hz1 hz2 v n (ints .u8 xs) hown ad m c ys (by simp [ints, hy.len]) hnews (ints_one' _ _) (by unfold maxLen; omega) (by omega) hU
      rw [hr] at hr3
      injection hr3 with e3 e4
      subst e3
      subst e4
      exact h5
    refine wpList_plain hgd fun K hK => ?_
    unfold Oper.wp execOp
    simp only [ho, resolve, invoke, builtin, Sem.run_bind, Sem.run_pure, Result.andThen_ok, List.map_toArray, List.map_cons, List.map_nil, hs, hx, hr]
    have e : ints .u8 (xs ++ ys) = ints .u8 xs ++ ints .u8 ys := by simp [ints]
    rw [e] at h
    exact hK _ _ (h v' w' h2 h3 h4 hu8)
theorem app_bytesB {ops : Array Oper} {rest : List Oper} {o : Oper} {a : Act} {Q : Exit → Act → World → Prop} {w : World} (hgd : o.guard = none) (s x : Operand)
    (ho : o.op = .call { callee := .builtin .append, args := #[s, x], argTypes := #[37, 37] })
    (base : Nat) (v : Value) (n : Nat) (xs : List Int) (hs : a.eval s = v) (hown : w.ownsRow base 5 1 v n (ints .u8 xs))
    (A : Option Addr) (m c : Nat) (ys : List Int) (hx : a.eval x = .slice A m c) (hy : RI .u8 w A m ys) (hnil : A = none → m = 0 ∧ c = 0)
    (hn : n + m ≤ 8000000000) (hbase : base ≤ w.heap.size)
    (h : ∀ v' w', w'.ownsRow base 5 1 v' (n + m) (ints .u8 (xs ++ ys)) → w.grownBy w' v.ownBlock → (v'.ownBlock = v.ownBlock ∨ v'.ownBlock = some w.heap.size) → wpList Tryd.prog ops Q rest (a.put o.dst v') w') : wpList Tryd.prog ops Q (o :: rest) a w := by
  obtain ⟨i0, hi, hz0, hz1, hz2⟩ := info_parts info_u8
  cases A with
  | none =>
    obtain ⟨rfl, rfl⟩ := hnil rfl
    obtain rfl : ys = [] := List.eq_nil_of_length_eq_zero hy.len
    refine wpList_append_own_none hgd s x 37 ho base 5 i0 1 Tryd.underlying37 hi v n (ints .u8 xs) hs hown hx ?_
    exact h v w (by simpa using hown) ⟨rfl, rfl, rfl, Nat.le_refl _, fun _ _ _ => rfl⟩ (.inl rfl)
  | some ad =>
    have hnews : ∀ j u, (ints .u8 ys)[j]? = some u → w.cell? (ad.add j) = some u := by
      intro j u hu
      have hj : j < m := by have := (List.getElem?_eq_some_iff.1 hu).1; have := hy.len; simp [ints] at *; omega
      obtain ⟨b, of, hab⟩ := hy.hd (by omega)
      obtain rfl := Option.some.inj hab
      rw [add_plain2]
      have hc := hy.cell b of rfl j hj
      rw [hc, ← hu, ints_getElem?]
      simp [nth, List.getD, show j < ys.length by have := hy.len; omega]
    obtain ⟨v', w', hr, h2, h3, -⟩ := run_append_own (P := Tryd.prog) w base 37 o.type 5 i0 (.int .u8 0) 1 1 Tryd.underlying37 hi hz0 hz1 hz2 rfl (by decide) v n (ints .u8 xs) hown ad m c (ints .u8 ys) (by simp [ints, hy.len]) hnews (ints_one' _ _) (by unfold maxLen; omega) (by omega) hbase
    obtain ⟨v2, w2, hr2, h4⟩ := run_append_where (P := Tryd.prog) w base 37 o.type 5 i0 (.int .u8 0) 1 1 Tryd.underlying37 hi hz0 hz1 hz2 rfl (by decide) v n (ints .u8 xs) hown ad m c (ints .u8 ys) (by simp [ints, hy.len]) hnews (ints_one' _ _) (by unfold maxLen; omega) (by omega)
    rw [hr] at hr2
    injection hr2 with e1 e2
    subst e1
    refine wpList_plain hgd fun K hK => ?_
    unfold Oper.wp execOp
    simp only [ho, resolve, invoke, builtin, Sem.run_bind, Sem.run_pure, Result.andThen_ok, List.map_toArray, List.map_cons, List.map_nil, hs, hx, hr]
    have e : ints .u8 (xs ++ ys) = ints .u8 xs ++ ints .u8 ys := by simp [ints]
    rw [e] at h
    exact hK _ _ (h v' w' h2 h3 h4)
end Go.Proofs.YtcblibefmclloaaDoor

set_option linter.unusedVariables false
set_option linter.unusedSimpArgs false
namespace Go.Proofs.YtcblibefmclloaaDoor
open Go.RowKit
/-- Bytes that are being inflated. -/
structure IR (w : World) (g gr : Nat) (A : Option Addr) (c : Nat) (bs : List Int) (p most : Nat) (out : List Int) : Prop where
  rd : Rdr w gr A c bs p
  box : ∃ v, Blk w g 98 [.pointer (some ⟨gr, 0, none⟩), v, .int .i64 most] ∧ w.ownsRow (g + 1) 5 1 v out.length (ints .u8 out)
  lt : gr < g
  data : ∀ a, A = some a → a.block < g
  cap : out.length ≤ most
  mx : most ≤ 16384
  u8 : ∀ v, w.cell? ⟨g, 1, none⟩ = some v → AllU8 w v
/-- Nothing else turned. -/
structure KT (g gr : Nat) (w w' : World) : Prop where
  os : w'.os = w.os
  tape : w'.tape = w.tape
  output : w'.output = w.output
  size : w.heap.size ≤ w'.heap.size
  same : ∀ k, k < w.heap.size → k ≠ g → k ≠ gr → (k < g ∨ ¬ U8 w k) → w'.heap[k]? = w.heap[k]?
theorem KT.refl (g gr : Nat) (w : World) : KT g gr w w := ⟨rfl, rfl, rfl, Nat.le_refl _, fun _ _ _ _ _ => rfl⟩
theorem KT.trans {g gr : Nat} {a b c : World} (h : KT g gr a b) (k : KT g gr b c) : KT g gr a c :=
  ⟨k.os.trans h.os, k.tape.trans h.tape, k.output.trans h.output, Nat.le_trans h.size k.size, fun x hx h1 h2 h3 => by
    have e := h.same x hx h1 h2 h3
    rw [k.same x (by have := h.size; omega) h1 h2 (h3.imp id (fun hn ⟨cur, fr, hc⟩ => hn ⟨cur, fr, by rw [← e]; exact hc⟩)), e]⟩
theorem KT.of_keeps {g gr : Nat} {S : List Nat} {w w' : World} (h : Keeps S w w') (hS : ∀ x ∈ S, x = g ∨ x = gr) : KT g gr w w' :=
  ⟨h.os, h.tape, h.output, h.size, fun k hk h1 h2 _ => h.block k hk (fun hm => by rcases hS k hm with h | h <;> omega)⟩
theorem KT.keeps {g gr : Nat} {w w1 w2 : World} (hk : Keeps [] w w1) (h : KT g gr w1 w2) (hg : w.heap.size ≤ g) (hr : w.heap.size ≤ gr) : Keeps [] w w2 :=
  ⟨h.os.trans hk.os, h.tape.trans hk.tape, h.output.trans hk.output, Nat.le_trans hk.size h.size, fun k hk2 _ =>
    (h.same k (by have := hk.size; omega) (by omega) (by omega) (.inl (by omega))).trans (hk.block k hk2 (by simp))⟩
theorem KT.set {g gr : Nat} {w w' : World} (h : KT g gr w w') (j : Nat) (v : Value) : KT g gr w (w'.setCell ⟨g, j, none⟩ v) :=
  h.trans (KT.of_keeps (S := [g]) ((Keeps.refl [g] w').setCell (p := ⟨g, j, none⟩) (Or.inl (by simp)) v) (fun x hx => .inl (List.mem_singleton.1 hx)))
theorem KT.grown {g gr : Nat} {w w1 w2 : World} {row : Option Nat} (h : KT g gr w w1) (hg : w1.grownBy w2 row) (hr : ∀ k, row = some k → U8 w1 k ∧ g < k) : KT g gr w w2 :=
  h.trans ⟨hg.os, hg.tape, hg.output, hg.size, fun k hk _ _ h3 => hg.block k hk (fun e => by
    obtain ⟨a, b⟩ := hr k e.symm
    rcases h3 with h3 | h3
    · omega
    · exact h3 a)⟩
theorem IR.glt {w : World} {g gr c p most : Nat} {A : Option Addr} {bs out : List Int} (h : IR w g gr A c bs p most out) : g < w.heap.size := by
  obtain ⟨v, h1, _⟩ := h.box; exact h1.lt
theorem IR.u8v {w : World} {g gr c p most : Nat} {A : Option Addr} {bs out : List Int} (h : IR w g gr A c bs p most out) {v x y : Value} (hb : Blk w g 98 [x, v, y]) : AllU8 w v := h.u8 v (by have := hb.cell 1; simpa using this)
theorem u8_same {w' : World} {g : Nat} {v x y : Value} (hb : Blk w' g 98 [x, v, y]) (hu : AllU8 w' v) : ∀ u, w'.cell? ⟨g, 1, none⟩ = some u → AllU8 w' u := fun u hc => by
  have h := hb.cell 1
  simp only [List.getElem?_cons_zero, List.getElem?_cons_succ] at h
  rw [h] at hc
  injection hc with hc
  subst hc
  exact hu
theorem IR.keeps {w w' : World} {g gr c p most : Nat} {A : Option Addr} {bs out : List Int} (h : IR w g gr A c bs p most out) (hk : Keeps [] w w') : IR w' g gr A c bs p most out := by
  obtain ⟨v, h1, h2⟩ := h.box
  exact ⟨h.rd.dr hk, ⟨v, h1.keeps hk (by simp), own_keeps h2 hk (by simp)⟩, h.lt, h.data, h.cap, h.mx, u8_same (h1.keeps hk (by simp)) ((h.u8v h1).keeps hk (by simp))⟩
theorem IR.read {w w' : World} {g gr c p q most : Nat} {A : Option Addr} {bs out : List Int} (h : IR w g gr A c bs p most out) (hr : Rdr w' gr A c bs q) (hk : Keeps [gr] w w') : IR w' g gr A c bs q most out := by
  obtain ⟨v, h1, h2⟩ := h.box
  have := h.lt
  exact ⟨hr, ⟨v, h1.keeps hk (by simp; omega), own_keeps h2 hk (fun x hx hm => by have := own_lo h2 x hx; rw [List.mem_singleton.1 hm] at this; omega)⟩, h.lt, h.data, h.cap, h.mx, u8_same (h1.keeps hk (by simp; omega)) ((h.u8v h1).keeps hk (fun x hx hm => by have := own_lo h2 x hx; rw [List.mem_singleton.1 hm] at this; omega))⟩
theorem grown_keepsI {w w' : World} {row : Option Nat} (h : w.grownBy w' row) : Keeps row.toList w w' :=
  ⟨h.os, h.tape, h.output, h.size, fun k hk hm => h.block k hk (fun e => hm (Option.mem_toList.2 e.symm))⟩
theorem own_kt {w w' : World} {g gr base n size : Nat} {t : TypeId} {v : Value} {xs : List Value} (ht : t ≠ 5) (hb : g < base) (hr : gr < base) (h : w.ownsRow base t size v n xs) (hp : KT g gr w w') : w'.ownsRow base t size v n xs := by
  obtain ⟨h1, h2⟩ := h
  refine ⟨h1, ?_⟩
  rcases h2 with h2 | ⟨b, cap, cur, hv, hb2, hh, r⟩
  · exact Or.inl h2
  · refine Or.inr ⟨b, cap, cur, hv, hb2, ?_, r⟩
    rw [hp.same b (Array.getElem?_eq_some_iff.1 hh).1 (by omega) (by omega) (.inr fun ⟨c, f, hc⟩ => ?_), hh]
    rw [hh] at hc
    injection hc with hc
    injection hc with _ h2 _
    exact ht h2
theorem blk_kt {w w' : World} {g gr k : Nat} {t : TypeId} {cs : List Value} (ht : t ≠ 5) (hk : k ≠ g) (hr : k ≠ gr) (h : Blk w k t cs) (hp : KT g gr w w') : Blk w' k t cs := by
  refine (hp.same k h.lt hk hr (.inr fun ⟨c, f, hc⟩ => ?_)).trans h
  have h2 : w.heap[k]? = _ := h
  rw [h2] at hc
  injection hc with hc
  injection hc with _ h3 _
  exact ht h3
theorem cell_kt {w w' : World} {g gr : Nat} (hp : KT g gr w w') {a : Addr} {v : Value} (h : w.cell? a = some v) (h1 : a.block < g) (h2 : a.block ≠ gr) : w'.cell? a = some v := by
  have hb := World.block_lt_of_cell? _ _ h
  have e := hp.same a.block hb (by omega) h2 (.inl h1)
  have k : Keeps [g, gr] ({ w with heap := w.heap } : World) w := Keeps.refl _ _
  unfold World.cell? at h ⊢
  rw [e]; exact h
theorem ri_kt {w w' : World} {g gr n : Nat} {k : IntKind} {A : Option Addr} {xs : List Int} (h : RI k w A n xs) (hp : KT g gr w w') (ho : ∀ a, A = some a → a.block < g ∧ a.block ≠ gr) : RI k w' A n xs :=
  ⟨h.len, h.hd, fun b o ha j hj => cell_kt hp (h.cell b o ha j hj) (ho _ ha).1 (ho _ ha).2⟩
theorem tabs_kt {w w' : World} {g gr : Nat} (h : Tabs w) (hp : KT g gr w w') (h3 : gtop ≤ gr) (hg : gr < g) : Tabs w' := by
  have := glt
  exact ⟨ri_kt h.fro hp (by rintro a ⟨⟩; constructor <;> simp only [] <;> omega), ri_kt h.wid hp (by rintro a ⟨⟩; constructor <;> simp only [] <;> omega), ri_kt h.ord hp (by rintro a ⟨⟩; constructor <;> simp only [] <;> omega)⟩
/-! Small functions. -/
set_option maxRecDepth 100000 in
set_option maxHeartbeats 400000 in
theorem end_calls (w : World) (e o : Int) : Calls Tryd.prog 115 #[.int .i64 e, .int .i64 o] w fun r w' => r = .returned (.int .i64 (endF e o)) ∧ Dr w w' := by
  by_cases h0 : e = 0
  · subst h0
    go_enter Tryd.func115, Tryd.ntmps115
    go_wp2_with fail
    go_ret
    exact ⟨rfl, 0, rfl⟩
  · by_cases h1 : e = 10
    · subst h1
      go_enter Tryd.func115, Tryd.ntmps115
      go_wp2_with fail
      go_ret
      exact ⟨rfl, 0, rfl⟩
    · have HE : Hid (endF e o = o) := Lib.hid (by unfold endF; rw [if_neg h0, if_neg h1])
      have e0 : (e == 0) = false := by simpa using h0
      have e1 : (e == 10) = false := by simpa using h1
      have e0' : decide (e = 0) = false := by simpa using h0
      have e1' : decide (e = 10) = false := by simpa using h1
      go_enter Tryd.func115, Tryd.ntmps115
      go_wp2_with fail
      go_ret
      rw [HE.out]
      exact ⟨rfl, 0, rfl⟩
/-- What taking a number answers. -/
def Took (w : World) (g gr : Nat) (A : Option Addr) (c : Nat) (bs : List Int) (p most : Nat) (out : List Int) (n : Nat) (e : Ending) (w' : World) : Prop :=
  (p + n ≤ 8 * bs.length ∧ e = .returned (.tuple #[.int .i64 (numB bs p n), .int .i64 0]) ∧ IR w' g gr A c bs (p + n) most out ∧ KT g gr w w') ∨
  (8 * bs.length < p + n ∧ e = .returned (.tuple #[.int .i64 0, .int .i64 55]) ∧ IR w' g gr A c bs p most out ∧ KT g gr w w')
set_option maxRecDepth 100000 in
set_option maxHeartbeats 400000 in
theorem itake_calls (w : World) (g gr : Nat) (A : Option Addr) (c : Nat) (bs : List Int) (p most : Nat) (out : List Int) (n : Nat) (h : IR w g gr A c bs p most out) (hn : n ≤ 16) :
    Calls Tryd.prog 105 #[.pointer (some ⟨g, 0, none⟩), .int .i64 n] w (Took w g gr A c bs p most out n) := by
  have H := Lib.hid h
  obtain ⟨v, hblk, -⟩ := h.box
  have c0 := hblk.cell 0
  simp only [List.getElem?_cons_zero] at c0
  have hgr := h.lt
  clear hblk h
  go_enter Tryd.func105, Tryd.ntmps105
  by_cases hf : p + n ≤ 8 * bs.length
  · obtain ⟨n0, n1⟩ := numB_lt bs p n
    have h16 : (2 : Int) ^ n ≤ 65536 := pow16 n hn
    go_wp2_with fail
    refine (take_calls w gr A c bs p n H.out.rd (by omega) hf).mono ?_
    rintro _ w1 ⟨rfl, hr, hk⟩
    have H1 := Lib.hid (H.out.read hr hk)
    have K1 : Hid (KT g gr w w1) := Lib.hid (KT.of_keeps hk (fun x hx => .inr (List.mem_singleton.1 hx)))
    clear hr hk H c0
    have s1 : IntKind.i64.wrap (numB bs p n) = numB bs p n := IntWalk.i64_in _ (by omega)
    have HF := Lib.hid hf
    clear n1 h16
    generalize hx : numB bs p n = x at *
    have HX := Lib.hid hx
    clear hx
    go_wp2_with fail
    refine (end_calls w1 0 0).mono ?_
    rintro _ w2 ⟨rfl, hd⟩
    have H2 := Lib.hid (H1.out.keeps (hd.keeps (S := [])))
    have K2 := Lib.hid (K1.out.trans (KT.of_keeps (hd.keeps (S := [])) (by simp)))
    clear hd H1 K1
    go_wp2_with fail
    go_ret2
    exact .inl ⟨HF.out, by rw [HX.out]; rfl, H2.out, K2.out⟩
  · have HF : Hid (8 * bs.length < p + n) := Lib.hid (by omega)
    go_wp2_with fail
    refine (take_end w gr A c bs p n H.out.rd (by omega) (by omega)).mono ?_
    rintro _ w1 ⟨rfl, hd⟩
    have H1 := Lib.hid (H.out.keeps (hd.keeps (S := [])))
    have K1 : Hid (KT g gr w w1) := Lib.hid (KT.of_keeps (hd.keeps (S := [])) (by simp))
    clear hd H c0
    go_wp2_with fail
    refine (end_calls w1 10 10).mono ?_
    rintro _ w2 ⟨rfl, hd⟩
    have H2 := Lib.hid (H1.out.keeps (hd.keeps (S := [])))
    have K2 := Lib.hid (K1.out.trans (KT.of_keeps (hd.keeps (S := [])) (by simp)))
    clear hd H1 K1
    go_wp2_with fail
    go_ret2
    exact .inr ⟨HF.out, rfl, H2.out, K2.out⟩
set_option maxRecDepth 100000 in
set_option maxHeartbeats 400000 in
theorem align_calls (w : World) (gr : Nat) (A : Option Addr) (c : Nat) (bs : List Int) (p : Nat) (hr : Rdr w gr A c bs p) :
    Calls Tryd.prog 116 #[.pointer (some ⟨gr, 0, none⟩)] w fun e w' => e = .returned (.int .i64 0) ∧ Rdr w' gr A c bs (alignF p) ∧ Keeps [gr] w w' := by
  have hb := hr.blk
  have h1 := hb.cell 1
  have f1 := hb.frozen 1
  simp only [List.getElem?_cons_succ, List.getElem?_cons_zero] at h1
  have hle := hr.le
  have hsz := hr.size
  have HR := Lib.hid hr
  clear hb hr
  have s1 : IntKind.i64.wrap ((p : Int) + 7) = (p : Int) + 7 := IntWalk.i64_in _ (by omega)
  have s2 : ((p : Int) + 7).tdiv 8 = (((p + 7) / 8 : Nat) : Int) := by rw [Int.tdiv_eq_ediv_of_nonneg (by omega)]; omega
  have s3 : IntKind.i64.wrap ((((p + 7) / 8 : Nat) : Int) * 8) = (((p + 7) / 8 * 8 : Nat) : Int) := by
    rw [IntWalk.i64_in _ (by omega)]; omega
  go_enter Tryd.func116, Tryd.ntmps116
  go_wp2_with fail
  have HA : Hid (alignF p ≤ 8 * bs.length) := Lib.hid (by unfold alignF; omega)
  have HE : Hid (((p : Int) + 7) / 8 * 8 = ((alignF p : Nat) : Int)) := Lib.hid (by unfold alignF; omega)
  go_ret
  rw [HE.out]
  exact ⟨rfl, HR.out.move HA.out, (Keeps.refl [gr] w).setCell (p := ⟨gr, 1, none⟩) (Or.inl (by simp)) _⟩
set_option maxRecDepth 100000 in
set_option maxHeartbeats 1000000 in
theorem lay_calls (w : World) (g gr : Nat) (A : Option Addr) (c : Nat) (bs : List Int) (p most : Nat) (out : List Int) (x : Int) (h : IR w g gr A c bs p most out) :
    Calls Tryd.prog 117 #[.pointer (some ⟨g, 0, none⟩), .int .u8 x] w fun e w' =>
      (most ≤ out.length ∧ e = .returned (.int .i64 56) ∧ IR w' g gr A c bs p most out ∧ KT g gr w w') ∨ (out.length < most ∧ e = .returned (.int .i64 0) ∧ IR w' g gr A c bs p most (out ++ [x]) ∧ KT g gr w w') := by
  have H := Lib.hid h
  obtain ⟨v, hblk, hown⟩ := h.box
  obtain ⟨vA, vc, rfl⟩ := own_formW hown
  have c1 := hblk.cell 1
  have c2 := hblk.cell 2
  simp only [List.getElem?_cons_zero, List.getElem?_cons_succ] at c1 c2
  have f1 := hblk.frozen 1
  have hlt := hblk.lt
  have hcap := h.cap
  have hmx := h.mx
  have HU := Lib.hid (h.u8v hblk)
  have HB := Lib.hid hblk
  have HO := Lib.hid hown
  clear hblk hown h
  go_enter Tryd.func117, Tryd.ntmps117
  obtain ⟨L, hL⟩ : ∃ L, L = out.length := ⟨_, rfl⟩
  have HL := Lib.hid hL
  rw [← hL] at HO c1 HB HU hcap ⊢
  clear hL
  by_cases hm : most ≤ L
  · have e1 : decide (most ≤ L) = true := by simpa using hm
    have e1' : decide ((most : Int) ≤ (L : Int)) = true := by simp; omega
    go_upto_region 1 with (fail)
    go_quiet (fail)
    go_wp2_with fail
    go_ret
    exact .inl ⟨hm, rfl, H.out.keeps ((Keeps.refl [] w).drewN nq), KT.of_keeps ((Keeps.refl [] w).drewN nq) (by simp)⟩
  · have e1 : decide (most ≤ L) = false := by simpa using hm
    have e1' : decide ((most : Int) ≤ (L : Int)) = false := by simp; omega
    go_upto_region 1 with (fail)
    go_quiet (fail)
    have hkq : Keeps [] w (w.drewN nq) := (Keeps.refl [] w).drewN nq
    obtain ⟨wq, hwq⟩ : ∃ z, z = w.drewN nq := ⟨_, rfl⟩
    rw [← hwq] at hkq ⊢
    clear hwq
    have ka : Keeps [] wq (wq.alloc (.cells #[.int .u8 x] 5)) := (Keeps.refl [] wq).alloc _
    have HOA := Lib.hid (own_keeps HO.out (hkq.trans ka) (by simp))
    have HBA := Lib.hid (HB.out.keeps (hkq.trans ka) (by simp))
    have HQ := Lib.hid (H.out.keeps (hkq.trans ka))
    have HUA := Lib.hid (HU.out.keeps (hkq.trans ka) (by simp))
    have HKA : Hid (KT g gr w (wq.alloc (.cells #[.int .u8 x] 5))) := Lib.hid (KT.of_keeps (hkq.trans ka) (by simp))
    have HRI : Hid (RI .u8 (wq.alloc (.cells #[.int .u8 x] 5)) (some ⟨wq.heap.size, 0, none⟩) 1 [x]) := Lib.hid (Blk.ri (xs := [x]) (ys := []) (k := .u8) (by simpa [ints] using blk_new wq 5 (ints .u8 [x])))
    have c1' := hkq.cell (by simp) c1
    have hltq : g < wq.heap.size := Nat.lt_of_lt_of_le hlt hkq.size
    clear c1 c2 f1 hkq ka HO HB H HU e1
    go_wp2_with (at_builtin; refine app_bytesU rfl (.tmp 19) (.tmp 21) rfl (g + 1) _ _ out rfl (by exact HOA.out) _ 1 1 [x] rfl (by exact HRI.out) (by simp) (by omega) ?c4 ?_)
    case c4 => simp; omega
    intro v1 w1 ho1 hg1 _ hu1
    have HU1 := Lib.hid (hu1 HUA.out)
    clear hu1
    have hg0 : ∀ k, (Value.slice vA L vc).ownBlock = some k → g + 1 ≤ k := fun k hk => (HOA.out.lt k hk).1
    have hblk1 : Blk w1 g 98 [.pointer (some ⟨gr, 0, none⟩), .slice vA L vc, .int .i64 most] := (hg1.block g (Nat.lt_trans hltq (by simp)) (fun e => by have := hg0 g e.symm; omega)).trans HBA.out
    have kg := grown_keepsI hg1
    have HR1 := Lib.hid (HQ.out.rd.keeps kg (fun hm => by have := hg0 gr (Option.mem_toList.1 hm); have := HQ.out.lt; omega) (fun a ha hm => by have := hg0 a.block (Option.mem_toList.1 hm); have := HQ.out.data a ha; omega))
    have K1 := Lib.hid (HKA.out.grown hg1 (fun k hk => ⟨own_u8 HOA.out k hk, hg0 k hk⟩))
    have HO1 := Lib.hid ho1
    have HB1 := Lib.hid hblk1
    obtain ⟨vB, vd, rfl⟩ : ∃ A c, v1 = .slice A (L + 1) c := own_formW ho1
    have c1 := hblk1.cell 1
    simp only [List.getElem?_cons_zero, List.getElem?_cons_succ] at c1
    have f1 := hblk1.frozen 1
    clear HOA HBA HKA HRI c1' kg hg1 ho1 hblk1 hg0
    go_wp2_with fail
    go_ret
    have hs := (HB1.out.set 1 (.slice vB (L + 1) vd))
    simp only [List.set_cons_succ, List.set_cons_zero] at hs
    have ks : Keeps [g] w1 (w1.setCell ⟨g, 1, none⟩ (.slice vB (L + 1) vd)) := (Keeps.refl [g] w1).setCell (p := ⟨g, 1, none⟩) (Or.inl (by simp)) _
    have hgr := HQ.out.lt
    refine .inr ⟨by omega, rfl, ⟨HR1.out.keeps ks (by simp; omega) (fun a ha hm => by have := HQ.out.data a ha; rw [List.mem_singleton.1 hm] at this; omega), ⟨_, hs, ?_⟩, hgr, HQ.out.data, ?_, hmx, u8_same hs (HU1.out.keeps ks (fun x hx hm => by have := own_lo HO1.out x hx; rw [List.mem_singleton.1 hm] at this; omega))⟩, K1.out.set 1 _⟩
    · rw [List.length_append, List.length_singleton, ← HL.out]
      exact ownsRow_setCell_below HO1.out (a := ⟨g, 1, none⟩) (Nat.lt_succ_self g) _
    · rw [List.length_append, List.length_singleton, ← HL.out]; omega
end Go.Proofs.YtcblibefmclloaaDoor

set_option linter.unusedVariables false
set_option linter.unusedSimpArgs false
namespace Go.Proofs.YtcblibefmclloaaDoor
open Go.RowKit
/-- What a part of inflating gives. -/
def Part (w : World) (g gr : Nat) (A : Option Addr) (c : Nat) (bs : List Int) (most : Nat) (r : IRes) (e : Ending) (w' : World) : Prop :=
  ∃ q, e = .returned (.int .i64 r.2.2) ∧ IR w' g gr A c bs q most r.1 ∧ KT g gr w w' ∧ (r.2.2 = 0 → q = r.2.1)
theorem part_ok {w w' : World} {g gr c most q : Nat} {A : Option Addr} {bs out : List Int} {r : IRes} (hr : r = (out, q, 0)) (h : IR w' g gr A c bs q most out) (k : KT g gr w w') : Part w g gr A c bs most r (.returned (.int .i64 0)) w' := by
  subst hr; exact ⟨q, rfl, h, k, fun _ => rfl⟩
theorem part_err {w w' : World} {g gr c most q : Nat} {A : Option Addr} {bs out : List Int} {r : IRes} {e : Int} (hr : r = (out, 0, e)) (he : e ≠ 0) (h : IR w' g gr A c bs q most out) (k : KT g gr w w') : Part w g gr A c bs most r (.returned (.int .i64 e)) w' := by
  subst hr; exact ⟨q, rfl, h, k, fun h => absurd h he⟩
theorem xor_16 (m : Int) (h0 : 0 ≤ m) (h1 : m < 65536) : Go.bits .xor .i64 m 65535 = 65535 - m := by
  obtain ⟨k, rfl⟩ := Int.eq_ofNat_of_zero_le h0
  have hk : k < 65536 := by omega
  have hx : k ^^^ 65535 < 2 ^ 62 := Nat.lt_of_lt_of_le (Nat.xor_lt_two_pow (show k < 2 ^ 16 by omega) (by decide : 65535 < 2 ^ 16)) (by decide)
  have e : k ^^^ 65535 = 65535 - k := by
    apply Nat.eq_of_testBit_eq
    intro i
    have h2 := Nat.testBit_two_pow_sub_succ (show k < 2 ^ 16 by omega) i
    rw [show 2 ^ 16 - (k + 1) = 65535 - k by omega] at h2
    rw [Nat.testBit_xor, h2, show (65535 : Nat) = 2 ^ 16 - 1 from rfl, Nat.testBit_two_pow_sub_one]
    by_cases hi : i < 16
    · simp [hi]
    · have : k.testBit i = false := Nat.testBit_lt_two_pow (Nat.lt_of_lt_of_le (show k < 2 ^ 16 by omega) (Nat.pow_le_pow_right (by decide) (by omega)))
      simp [hi, this]
  have e2 : Go.bits .xor .i64 (k : Int) ((65535 : Nat) : Int) = ((k ^^^ 65535 : Nat) : Int) := by
    simp only [Go.bits, BitVec.ofInt_natCast, BitVec.toNat_xor, BitVec.toNat_ofNat, show k % 2 ^ IntKind.i64.bits = k from Nat.mod_eq_of_lt (Nat.lt_of_lt_of_le (show k < 2 ^ 16 by omega) (by decide)), show 65535 % 2 ^ IntKind.i64.bits = 65535 from rfl]
    exact IntWalk.i64_in _ (by rw [e]; omega)
  rw [show (65535 : Int) = ((65535 : Nat) : Int) from rfl]
  refine Eq.trans e2 ?_
  rw [e]
  omega
set_option maxRecDepth 100000 in
set_option maxHeartbeats 1000000 in
theorem stored_calls (w : World) (g gr : Nat) (A : Option Addr) (c : Nat) (bs : List Int) (p most : Nat) (out : List Int) (h : IR w g gr A c bs p most out) :
    Calls Tryd.prog 106 #[.pointer (some ⟨g, 0, none⟩)] w (Part w g gr A c bs most (storedF bs most out p)) := by
  have H := Lib.hid h
  obtain ⟨v, hblk, -⟩ := h.box
  have c0 := hblk.cell 0
  simp only [List.getElem?_cons_zero] at c0
  clear hblk h
  go_enter Tryd.func106, Tryd.ntmps106
  go_wp2_with fail
  refine (align_calls w gr A c bs p H.out.rd).mono ?_
  rintro _ w1 ⟨rfl, hr, hk⟩
  have H1 := Lib.hid (H.out.read hr hk)
  have K1 : Hid (KT g gr w w1) := Lib.hid (KT.of_keeps hk (fun x hx => .inr (List.mem_singleton.1 hx)))
  clear hr hk H c0
  obtain ⟨a, ha⟩ : ∃ a, a = alignF p := ⟨_, rfl⟩
  have HA := Lib.hid ha
  rw [← ha] at H1
  clear ha
  go_wp2_with fail
  refine (itake_calls w1 g gr A c bs a most out 16 H1.out (by omega)).mono ?_
  rintro _ w2 (⟨hf, rfl, h2, k2⟩ | ⟨hf, rfl, h2, k2⟩)
  rotate_left
  · have HR : Hid (storedF bs most out p = (out, 0, 55)) := Lib.hid (by unfold storedF; rw [← HA.out, if_pos hf])
    have H2 := Lib.hid h2
    have K2 := Lib.hid (K1.out.trans k2)
    clear h2 k2 H1 K1
    go_wp2_with fail
    go_ret
    exact part_err HR.out (by decide) H2.out K2.out
  have H2 := Lib.hid h2
  have K2 := Lib.hid (K1.out.trans k2)
  clear h2 k2 H1 K1
  obtain ⟨n0, n1⟩ := numB_lt bs a 16
  rw [show (2 : Int) ^ 16 = 65536 from rfl] at n1
  obtain ⟨N, hN⟩ : ∃ N : Nat, numB bs a 16 = N := ⟨(numB bs a 16).toNat, by omega⟩
  have HN := Lib.hid hN
  rw [hN] at n1 ⊢
  clear hN n0
  go_wp2_with fail
  refine (itake_calls w2 g gr A c bs (a + 16) most out 16 H2.out (by omega)).mono ?_
  rintro _ w3 (⟨hf3, rfl, h3, k3⟩ | ⟨hf3, rfl, h3, k3⟩)
  rotate_left
  · have HR : Hid (storedF bs most out p = (out, 0, 55)) := Lib.hid (by unfold storedF; rw [← HA.out, if_neg (by omega), if_pos (by omega)])
    have H3 := Lib.hid h3
    have K3 := Lib.hid (K2.out.trans k3)
    clear h3 k3 H2 K2
    go_wp2_with fail
    go_ret
    exact part_err HR.out (by decide) H3.out K3.out
  have H3 := Lib.hid h3
  have K3 := Lib.hid (K2.out.trans k3)
  clear h3 k3 H2 K2
  obtain ⟨m0, m1⟩ := numB_lt bs (a + 16) 16
  rw [show (2 : Int) ^ 16 = 65536 from rfl] at m1
  obtain ⟨M, hM⟩ : ∃ M : Nat, numB bs (a + 16) 16 = M := ⟨(numB bs (a + 16) 16).toNat, by omega⟩
  have HM := Lib.hid hM
  rw [hM] at m0 m1 ⊢
  clear hM
  have X := xor_16 M m0 m1
  by_cases hs : (N : Int) = 65535 - (M : Int)
  · have e1 : ((N : Int) != 65535 - (M : Int)) = false := by simpa using hs
    have HR : Hid (storedF bs most out p = storF bs most N out (a + 32)) := Lib.hid (by
      unfold storedF
      rw [← HA.out, if_neg (by omega), if_neg (by omega), HN.out, HM.out, if_neg (by omega), Int.toNat_natCast])
    clear hs m0 m1
    go_wp2_with fail
    clear X e1
    go_loopw [35] (fun iv wr => ∃ (i q : Nat) (o : List Int), i ≤ N ∧ iv = .int .i64 i ∧ Hid (storF bs most N out (a + 32) = storF bs most (N - i) o q) ∧ Hid (IR wr g gr A c bs q most o) ∧ Hid (KT g gr w wr)) (fun iv _ => N - (intOf iv).toNat)
    case atStart => exact ⟨0, a + 32, out, by omega, rfl, Lib.hid rfl, by rw [show a + 32 = a + 16 + 16 by omega]; exact H3, K3⟩
    case round =>
      clear H3 K3
      obtain ⟨i, q, o, hi, rfl, HS, H, K⟩ := hrel
      by_cases hlt : i < N
      · have e0 : decide (i < N) = true := by simpa using hlt
        have HS' : Hid (storF bs most (N - i) o q = if 8 * bs.length < q + 8 then (o, 0, 55) else if most ≤ o.length then (o, 0, 56) else storF bs most (N - (i + 1)) (o ++ [numB bs q 8]) (q + 8)) := Lib.hid (by rw [show N - i = (N - (i + 1)) + 1 by omega, storF])
        go_wp2_with fail
        refine (itake_calls wr g gr A c bs q most o 8 H.out (by omega)).mono ?_
        rintro _ w4 (⟨hf4, rfl, h4, k4⟩ | ⟨hf4, rfl, h4, k4⟩)
        · have H4 := Lib.hid h4
          have K4 := Lib.hid (K.out.trans k4)
          have HF := Lib.hid hf4
          clear h4 k4 H K hf4
          obtain ⟨b0, b1⟩ := numB_lt bs q 8
          rw [show (2 : Int) ^ 8 = 256 from rfl] at b1
          obtain ⟨x, hx⟩ : ∃ x, x = numB bs q 8 := ⟨_, rfl⟩
          rw [← hx] at b0 b1 HS' ⊢
          have HX := Lib.hid hx
          clear hx
          have s1 : IntKind.u8.wrap x = x := by rw [IntKind.wrap_u8]; omega
          go_wp2_with fail
          refine (lay_calls w4 g gr A c bs (q + 8) most o x H4.out).mono ?_
          rintro _ w5 (⟨hm, rfl, h5, k5⟩ | ⟨hm, rfl, h5, k5⟩)
          · have H5 := Lib.hid h5
            have K5 := Lib.hid (K4.out.trans k5)
            have HE : Hid (storedF bs most out p = (o, 0, 56)) := Lib.hid (by rw [HR.out, HS.out, HS'.out, if_neg (by have := HF.out; omega), if_pos hm])
            clear h5 k5 H4 K4 HS HS' HR
            go_wp2_with fail
            go_ret
            exact part_err HE.out (by decide) H5.out K5.out
          · have H5 := Lib.hid h5
            have K5 := Lib.hid (K4.out.trans k5)
            have HS2 : Hid (storF bs most N out (a + 32) = storF bs most (N - (i + 1)) (o ++ [x]) (q + 8)) := Lib.hid (by rw [HS.out, HS'.out, if_neg (by have := HF.out; omega), if_neg (by omega)])
            clear h5 k5 H4 K4 HS HS'
            go_wp2_with fail
            go_roundw
            case rel => exact ⟨i + 1, q + 8, o ++ [x], by omega, by go_num, HS2, H5, K5⟩
            case measure => simp [intOf]; omega
        · have H4 := Lib.hid h4
          have K4 := Lib.hid (K.out.trans k4)
          have HE : Hid (storedF bs most out p = (o, 0, 55)) := Lib.hid (by rw [HR.out, HS.out, HS'.out, if_pos hf4])
          clear h4 k4 H K hf4 HS HS' HR
          go_wp2_with fail
          go_ret
          exact part_err HE.out (by decide) H4.out K4.out
      · obtain rfl : i = N := by omega
        have e0 : decide (i < i) = false := by simp
        have HE : Hid (storedF bs most out p = (o, q, 0)) := Lib.hid (by rw [HR.out, HS.out, Nat.sub_self, storF])
        clear HS HR
        go_wp2_with fail
        go_ret
        exact part_ok HE.out H.out K.out
  · have e1 : ((N : Int) != 65535 - (M : Int)) = true := by simpa using hs
    have HR : Hid (storedF bs most out p = (out, 0, 51)) := Lib.hid (by
      unfold storedF
      rw [← HA.out, if_neg (by omega), if_neg (by omega), HN.out, HM.out, if_pos (by omega)])
    clear hs m0 m1
    go_wp2_with fail
    go_ret
    exact part_err HR.out (by decide) H3.out K3.out
end Go.Proofs.YtcblibefmclloaaDoor

set_option linter.unusedVariables false
set_option linter.unusedSimpArgs false
namespace Go.Proofs.YtcblibefmclloaaDoor
open Go.RowKit
theorem any_iff (l : List Int) : anyUsed l = true ↔ ∃ j, j < l.length ∧ 0 < nth l j := by
  unfold anyUsed
  rw [List.any_eq_true]
  constructor
  · rintro ⟨x, hx, h⟩
    obtain ⟨j, hj, rfl⟩ := List.getElem_of_mem hx
    exact ⟨j, hj, by rw [nth_lt hj]; simpa using h⟩
  · rintro ⟨j, hj, h⟩
    exact ⟨l[j], List.getElem_mem _, by rw [nth_lt hj] at h; simpa using h⟩
/-- The greatest of some numbers: is it above 0? -/
def MaxP (w : World) (l : List Int) (e : Ending) (w' : World) : Prop := ∃ m : Int, e = .returned (.int .i64 m) ∧ decide (0 < m) = anyUsed l ∧ Dr w w'
theorem max_done {w w' : World} {l : List Int} {m : Int} (h : 0 < m ↔ ∃ j, j < l.length ∧ 0 < nth l j) (hd : Dr w w') : MaxP w l (.returned (.int .i64 m)) w' := by
  refine ⟨m, rfl, ?_, hd⟩
  rw [Bool.eq_iff_iff, any_iff, decide_eq_true_iff]
  exact h
set_option maxRecDepth 100000 in
set_option maxHeartbeats 400000 in
theorem max_calls (w : World) (A : Option Addr) (n c : Nat) (l : List Int) (hl : RI .i64 w A n l) (h1 : 1 ≤ n) (hn : n ≤ 140737488355328) :
    Calls Tryd.prog 125 #[.slice A n c] w (MaxP w l) := by
  have HL := Lib.hid hl
  have HLL := Lib.hid hl.len
  obtain ⟨b, o, rfl, hc0⟩ := hl.at (show 0 < n by omega)
  rw [Nat.add_zero] at hc0
  clear hl
  have e0 : decide (n < 1) = false := by simp; omega
  have e0' : decide ((n : Int) < 1) = false := by simp; omega
  go_enter Tryd.func125, Tryd.ntmps125
  go_wp2_with fail
  clear hc0 e0 e0'
  go_loopw [3, 4] (fun mv iv wr => ∃ (m : Int) (k : Nat), 1 ≤ k ∧ k ≤ n ∧ iv = .int .i64 k ∧ mv = .int .i64 m ∧ Hid (0 < m ↔ ∃ j, j < k ∧ 0 < nth l j) ∧ Hid (Dr w wr)) (fun _ iv _ => n - (intOf iv).toNat)
  case atStart => exact ⟨nth l 0, 1, by omega, by omega, rfl, rfl, Lib.hid ⟨fun h => ⟨0, by omega, h⟩, fun ⟨j, hj, h⟩ => by rwa [show j = 0 by omega] at h⟩, Lib.hid (Dr.refl w)⟩
  case round =>
    obtain ⟨m, k, hk1, hk, rfl, rfl, HM, HD⟩ := hrel
    by_cases hlt : k < n
    · have e1 : decide (k < n) = true := by simpa using hlt
      have hc := (HL.out.keeps (HD.out.keeps (S := [])) (off_nil _)).cell b o rfl k hlt
      obtain ⟨x, hx⟩ : ∃ x, x = nth l k := ⟨_, rfl⟩
      have HX := Lib.hid hx
      rw [← hx] at hc
      clear hx
      go_wp2_with fail
      go_roundw
      case rel =>
        refine ⟨_, k + 1, by omega, by omega, by go_num, rfl, Lib.hid ?_, HD⟩
        constructor
        · intro h
          by_cases hm : 0 < m
          · obtain ⟨j, hj, h2⟩ := HM.out.1 hm
            exact ⟨j, by omega, h2⟩
          · exact ⟨k, by omega, by rw [← HX.out]; first | omega | (split at h <;> omega)⟩
        · rintro ⟨j, hj, h2⟩
          by_cases hjk : j = k
          · subst hjk; rw [← HX.out] at h2; first | omega | (split <;> omega)
          · have := HM.out.2 ⟨j, by omega, h2⟩; first | omega | (split <;> omega)
      case measure => simp [intOf]; omega
    · obtain rfl : k = n := by omega
      have e1 : decide (k < k) = false := by simp
      go_wp2_with fail
      go_ret
      exact max_done (by rw [HLL.out]; exact HM.out) HD.out
set_option maxRecDepth 100000 in
theorem iused_calls (w : World) (A : Option Addr) (n c : Nat) (l : List Int) (hl : RI .i64 w A n l) (h1 : 1 ≤ n) (hn : n ≤ 140737488355328) :
    Calls Tryd.prog 118 #[.slice A n c] w fun e w' => e = .returned (.bool (anyUsed l)) ∧ Dr w w' := by
  have HL := Lib.hid hl
  clear hl
  go_enter Tryd.func118, Tryd.ntmps118
  go_wp2_with fail
  refine (max_calls w A n c l HL.out h1 hn).mono ?_
  rintro _ w1 ⟨m, rfl, hm, hd⟩
  have HD := Lib.hid hd
  clear hd
  have HM := Lib.hid hm
  clear hm
  go_wp2_with fail
  go_ret
  rw [HM.out]
  exact ⟨rfl, HD.out⟩
/-! The lists of kind 1. -/
def fixGo (k : Nat) : Int := if k < 144 ∨ 279 < k then 8 else if k < 256 then 9 else 7
def fixL (n : Nat) : List Int := (List.range n).map fixGo
theorem fixL_succ (n : Nat) : fixL (n + 1) = fixL n ++ [fixGo n] := by unfold fixL; rw [List.range_succ]; simp
theorem fixL_len (n : Nat) : (fixL n).length = n := by simp [fixL]
theorem fixL_all : fixL 288 = fixLit := by decide +kernel
theorem fix_info : checkF fixLit = 0 ∧ checkF fixDist = 0 ∧ anyUsed fixDist = true ∧ fixLit.length = 288 ∧ fixDist.length = 32 := by decide +kernel
set_option maxRecDepth 100000 in
set_option maxHeartbeats 1000000 in
theorem fixed_calls (w : World) : Calls Tryd.prog 108 #[] w fun e w' => ∃ v1 g2, e = .returned (.tuple #[v1, .slice (some ⟨g2, 0, none⟩) 32 32]) ∧ w'.ownsRow w.heap.size 3 1 v1 288 (ints .i64 fixLit) ∧ Blk w' g2 3 (ints .i64 fixDist) ∧ w.heap.size ≤ g2 ∧ Below w.heap.size w w' := by
  go_enter Tryd.func108, Tryd.ntmps108
  go_wp2_with fail
  go_loopw [0, 3] (fun u i wr => ∃ k : Nat, k ≤ 288 ∧ i = .int .i64 k ∧ Hid (wr.ownsRow w.heap.size 3 1 u k (ints .i64 (fixL k))) ∧ Hid (Below w.heap.size w wr)) (fun _ i _ => 288 - (intOf i).toNat)
  case atStart => exact ⟨0, by omega, rfl, Lib.hid (World.ownsRow_nil _ _ _ _), Below.refl _ _⟩
  case round =>
    obtain ⟨k, hk, rfl, HO, HW⟩ := hrel
    have hsz := HW.out.size
    by_cases hlt : k < 288
    · have e0 : decide ((k : Int) < 288) = true := by simp; omega
      have fin : ∀ x, fixGo k = x → ∀ (v1 : Value) (w1 : World), w1.ownsRow w.heap.size 3 1 v1 (k + 1) (ints .i64 (fixL k ++ [x])) → w1.ownsRow w.heap.size 3 1 v1 (k + 1) (ints .i64 (fixL (k + 1))) := fun x hx v1 w1 h => by rw [fixL_succ, hx]; exact h
      have HF := Lib.hid fin
      clear fin
      have HRI : ∀ x, Hid (RI .i64 (wr.alloc (.cells #[.int .i64 x] 3)) (some ⟨wr.heap.size, 0, none⟩) 1 [x]) := fun x => Lib.hid (ri_one _ _ _ _)
      have HR8 := HRI 8
      have HR9 := HRI 9
      have HR7 := HRI 7
      clear HRI
      by_cases h144 : k < 144
      · have e1 : decide ((k : Int) < 144) = true := by simp; omega
        go_wp2_with (at_builtin; refine app_intsG rfl (.tmp 16) (.tmp 17) rfl w.heap.size _ k (fixL k) rfl (HO.out.alloc _) (some ⟨wr.heap.size, 0, none⟩) 1 1 [8] rfl (by exact HR8.out) ?c1 ?c2 (by omega) ?c3 ?_)
        case c1 => simp
        case c2 => intro ad h; exact ⟨_, _, (Option.some.inj h).symm⟩
        case c3 => simp; omega
        intro v' w1 h1 hg
        have HO1 := Lib.hid (HF.out 8 (by unfold fixGo; rw [if_pos (by omega)]) _ _ h1)
        have HB1 := Lib.hid ((HW.out.alloc (by omega) _).grown hg (by simp; omega) (fun k hk => (HO.out.lt k hk).1))
        clear HO HW h1 hg HF
        go_wp2_with fail
        go_roundw
        case rel => exact ⟨k + 1, by omega, by go_num, HO1, HB1⟩
        case measure => simp [intOf]; omega
      · have e1 : decide ((k : Int) < 144) = false := by simp; omega
        by_cases h279 : 279 < k
        · have e2 : decide (279 < (k : Int)) = true := by simp; omega
          go_wp2_with (at_builtin; refine app_intsG rfl (.tmp 16) (.tmp 17) rfl w.heap.size _ k (fixL k) rfl (HO.out.alloc _) (some ⟨wr.heap.size, 0, none⟩) 1 1 [8] rfl (by exact HR8.out) ?d1 ?d2 (by omega) ?d3 ?_)
          case d1 => simp
          case d2 => intro ad h; exact ⟨_, _, (Option.some.inj h).symm⟩
          case d3 => simp; omega
          intro v' w1 h1 hg
          have HO1 := Lib.hid (HF.out 8 (by unfold fixGo; rw [if_pos (by omega)]) _ _ h1)
          have HB1 := Lib.hid ((HW.out.alloc (by omega) _).grown hg (by simp; omega) (fun k hk => (HO.out.lt k hk).1))
          clear HO HW h1 hg HF
          go_wp2_with fail
          go_roundw
          case rel => exact ⟨k + 1, by omega, by go_num, HO1, HB1⟩
          case measure => simp [intOf]; omega
        · have e2 : decide (279 < (k : Int)) = false := by simp; omega
          by_cases h256 : k < 256
          · have e3 : decide ((k : Int) < 256) = true := by simp; omega
            go_wp2_with (at_builtin; refine app_intsG rfl (.tmp 22) (.tmp 23) rfl w.heap.size _ k (fixL k) rfl (HO.out.alloc _) (some ⟨wr.heap.size, 0, none⟩) 1 1 [9] rfl (by exact HR9.out) ?f1 ?f2 (by omega) ?f3 ?_)
            case f1 => simp
            case f2 => intro ad h; exact ⟨_, _, (Option.some.inj h).symm⟩
            case f3 => simp; omega
            intro v' w1 h1 hg
            have HO1 := Lib.hid (HF.out 9 (by unfold fixGo; rw [if_neg (by omega), if_pos (by omega)]) _ _ h1)
            have HB1 := Lib.hid ((HW.out.alloc (by omega) _).grown hg (by simp; omega) (fun k hk => (HO.out.lt k hk).1))
            clear HO HW h1 hg HF
            go_wp2_with fail
            go_roundw
            case rel => exact ⟨k + 1, by omega, by go_num, HO1, HB1⟩
            case measure => simp [intOf]; omega
          · have e3 : decide ((k : Int) < 256) = false := by simp; omega
            go_wp2_with (at_builtin; refine app_intsG rfl (.tmp 6) (.tmp 7) rfl w.heap.size _ k (fixL k) rfl (HO.out.alloc _) (some ⟨wr.heap.size, 0, none⟩) 1 1 [7] rfl (by exact HR7.out) ?g1 ?g2 (by omega) ?g3 ?_)
            case g1 => simp
            case g2 => intro ad h; exact ⟨_, _, (Option.some.inj h).symm⟩
            case g3 => simp; omega
            intro v' w1 h1 hg
            have HO1 := Lib.hid (HF.out 7 (by unfold fixGo; rw [if_neg (by omega), if_neg (by omega)]) _ _ h1)
            have HB1 := Lib.hid ((HW.out.alloc (by omega) _).grown hg (by simp; omega) (fun k hk => (HO.out.lt k hk).1))
            clear HO HW h1 hg HF
            go_wp2_with fail
            go_roundw
            case rel => exact ⟨k + 1, by omega, by go_num, HO1, HB1⟩
            case measure => simp [intOf]; omega
    · obtain rfl : k = 288 := by omega
      have e0 : decide (((288 : Nat) : Int) < 288) = false := by decide
      have HO1 : Hid (wr.ownsRow w.heap.size 3 1 _ 288 (ints .i64 fixLit)) := Lib.hid (by have := HO.out; rwa [fixL_all] at this)
      clear HO
      go_wp2_with fail
      refine (repeat_calls' _ wr.heap.size 1 32 32 5 rfl (by simp) (by omega) (by omega)).mono ?_
      rintro _ w2 ⟨g2, rfl, hb2, hg2, hB2⟩
      have HB2 := Lib.hid hb2
      have hz : wr.heap.size < g2 := by simp at hg2; omega
      have HW2 := Lib.hid ((HW.out.alloc hsz (.cells #[.int .i64 5] 3)).trans (hB2.mono (by simp; omega)))
      have hO2 := own_keeps HO1.out ((Keeps.refl [] wr).alloc (.cells #[.int .i64 5] 3)) (by simp)
      have HO2 := Lib.hid (own_keeps hO2 (Keeps.of_below hB2 (S := [])) (by simp))
      clear hb2 hg2 hB2 hO2 HO1 HW
      go_wp2_with fail
      go_ret2
      exact ⟨_, _, rfl, HO2.out, HB2.out, by omega, HW2.out⟩
end Go.Proofs.YtcblibefmclloaaDoor

set_option linter.unusedVariables false
set_option linter.unusedSimpArgs false
/-! Plain: what stands behind the bytes does not matter to what is inflated. -/
namespace Go.Proofs.YtcblibefmclloaaDoor
theorem bitAt_pre (bs m : List Int) (i : Nat) (h : i < 8 * bs.length) : bitAt (bs ++ m) i = bitAt bs i := by
  unfold bitAt; rw [nth_append_left _ _ _ (by omega)]
theorem numB_pre (bs m : List Int) (p : Nat) : ∀ n, p + n ≤ 8 * bs.length → numB (bs ++ m) p n = numB bs p n
  | 0, _ => rfl
  | n + 1, h => by rw [numB, numB, numB_pre bs m p n (by omega), bitAt_pre _ _ _ (by omega)]
theorem len_pre (bs m : List Int) : 8 * bs.length ≤ 8 * (bs ++ m).length := by rw [List.length_append]; omega
theorem decGo_pre (l bs m : List Int) (p : Nat) : ∀ f n x, (decGo l bs p f n x).2.1 ≠ 10 → decGo l (bs ++ m) p f n x = decGo l bs p f n x
  | 0, n, x, _ => rfl
  | f + 1, n, x, h => by
    have hl := len_pre bs m
    rw [decGo] at h
    by_cases h1 : p + n + 1 ≤ 8 * bs.length
    · rw [if_pos h1] at h
      rw [decGo, decGo, if_pos h1, if_pos (by omega), bitAt_pre _ _ _ (by omega)]
      split
      · rfl
      · next h2 => rw [if_neg h2] at h; exact decGo_pre l bs m p f _ _ h
    · rw [if_neg h1] at h; exact absurd rfl h
theorem decGo_cut (l bs m : List Int) (p : Nat) : ∀ f n x, (decGo l (bs ++ m) p f n x).2.1 = 0 → n < (decGo l (bs ++ m) p f n x).2.2 ∧ (p + (decGo l (bs ++ m) p f n x).2.2 ≤ 8 * bs.length → decGo l bs p f n x = decGo l (bs ++ m) p f n x)
  | 0, n, x, h => by simp [decGo] at h
  | f + 1, n, x, h => by
    rw [decGo] at h ⊢
    by_cases h1 : p + n + 1 ≤ 8 * (bs ++ m).length
    · rw [if_pos h1] at h ⊢
      split
      · next h2 =>
        refine ⟨Nat.lt_succ_self n, fun hp => ?_⟩
        have hp : p + (n + 1) ≤ 8 * bs.length := hp
        rw [decGo, if_pos (by omega), ← bitAt_pre bs m _ (by omega), if_pos h2]
      · next h2 =>
        rw [if_neg h2] at h
        obtain ⟨a, b⟩ := decGo_cut l bs m p f _ _ h
        refine ⟨by omega, fun hp => ?_⟩
        rw [decGo, if_pos (by omega), ← bitAt_pre bs m _ (by omega), if_neg h2]; exact b hp
    · rw [if_neg h1] at h; simp at h
theorem decF_pre (l bs m : List Int) (p : Nat) (h : (decF l bs p).2.1 ≠ 10) : decF l (bs ++ m) p = decF l bs p := decGo_pre l bs m p _ _ _ h
theorem decF_cut (l bs m : List Int) (p : Nat) (h : (decF l (bs ++ m) p).2.1 = 0) (hp : p + (decF l (bs ++ m) p).2.2 ≤ 8 * bs.length) : decF l bs p = decF l (bs ++ m) p := (decGo_cut l bs m p _ _ _ h).2 hp
theorem end55 {e o : Int} (ho : o ≠ 55) (h : endF e o = 55) : e = 10 := by
  unfold endF at h
  split at h
  · cases h
  split at h
  · assumption
  · exact absurd h ho
/-! What is laid only grows. -/
theorem storF_grow (bs : List Int) (most : Nat) : ∀ n out p, out <+: (storF bs most n out p).1
  | 0, out, p => List.prefix_refl _
  | n + 1, out, p => by
    rw [storF]
    split
    · exact List.prefix_refl _
    split
    · exact List.prefix_refl _
    · exact (List.prefix_append _ _).trans (storF_grow bs most n _ _)
theorem storedF_grow (bs : List Int) (most : Nat) (out : List Int) (p : Nat) : out <+: (storedF bs most out p).1 := by
  unfold storedF
  split
  · exact List.prefix_refl _
  split
  · exact List.prefix_refl _
  split
  · exact List.prefix_refl _
  · exact storF_grow _ _ _ _ _
theorem layN_grow (far most : Nat) : ∀ n out, out <+: (layN far most n out).1
  | 0, out => List.prefix_refl _
  | n + 1, out => by
    rw [layN]
    split
    · exact List.prefix_refl _
    · exact (List.prefix_append _ _).trans (layN_grow far most n _)
theorem copyF_grow (dist bs : List Int) (most s : Nat) (out : List Int) (p : Nat) : out <+: (copyF dist bs most s out p).1 := by
  unfold copyF
  repeat' split
  all_goals first | exact List.prefix_refl _ | exact layN_grow _ _ _ _
theorem symF_grow (lit dist bs : List Int) (most : Nat) : ∀ f out p, out <+: (symF lit dist bs most f out p).1
  | 0, out, p => List.prefix_refl _
  | f + 1, out, p => by
    rw [symF]
    split
    · exact List.prefix_refl _
    split
    · exact List.prefix_refl _
    split
    · split
      · exact List.prefix_refl _
      · exact (List.prefix_append _ _).trans (symF_grow lit dist bs most f _ _)
    split
    · exact copyF_grow _ _ _ _ _ _
    · exact (copyF_grow _ _ _ _ _ _).trans (symF_grow lit dist bs most f _ _)
theorem blockF_grow (bs : List Int) (most : Nat) (kind : Int) (out : List Int) (p : Nat) : out <+: (blockF bs most kind out p).1 := by
  unfold blockF
  split
  · exact storedF_grow _ _ _ _
  split
  · exact symF_grow _ _ _ _ _ _ _
  split
  · split
    · exact List.prefix_refl _
    · exact symF_grow _ _ _ _ _ _ _
  · exact List.prefix_refl _
theorem blksF_grow (bs : List Int) (most : Nat) : ∀ f out p, out <+: (blksF bs most f out p).1
  | 0, out, p => List.prefix_refl _
  | f + 1, out, p => by
    rw [blksF]
    split
    · exact List.prefix_refl _
    split
    · exact List.prefix_refl _
    split
    · exact blockF_grow _ _ _ _ _
    split
    · exact (blockF_grow _ _ _ _ _).trans (blksF_grow bs most f _ _)
    · exact blockF_grow _ _ _ _ _
/-! With more bytes behind. -/
def Ext (r r' : IRes) : Prop := (r.2.2 ≠ 55 → r' = r) ∧ (r.2.2 = 55 → r.1 <+: r'.1)
theorem Ext.same {r r' : IRes} (h : r' = r) : Ext r r' := ⟨fun _ => h, fun _ => by rw [h]; exact List.prefix_refl _⟩
theorem Ext.fin {out : List Int} {r' : IRes} (h : out <+: r'.1) : Ext (out, 0, 55) r' := ⟨fun h => absurd rfl h, fun _ => h⟩
theorem storF_ext (bs m : List Int) (most : Nat) : ∀ n out p, Ext (storF bs most n out p) (storF (bs ++ m) most n out p)
  | 0, out, p => Ext.same rfl
  | n + 1, out, p => by
    have hl := len_pre bs m
    by_cases h1 : 8 * bs.length < p + 8
    · rw [storF, if_pos h1]; exact Ext.fin (storF_grow _ _ _ _ _)
    · rw [storF, storF, if_neg h1, if_neg (show ¬ 8 * (bs ++ m).length < p + 8 by omega), numB_pre _ _ _ _ (by omega)]
      split
      · exact Ext.same rfl
      · exact storF_ext bs m most n _ _
theorem storedF_ext (bs m : List Int) (most : Nat) (out : List Int) (p : Nat) : Ext (storedF bs most out p) (storedF (bs ++ m) most out p) := by
  have hl := len_pre bs m
  by_cases h1 : 8 * bs.length < alignF p + 16
  · rw [show storedF bs most out p = (out, 0, 55) by unfold storedF; rw [if_pos h1]]; exact Ext.fin (storedF_grow _ _ _ _)
  by_cases h2 : 8 * bs.length < alignF p + 32
  · rw [show storedF bs most out p = (out, 0, 55) by unfold storedF; rw [if_neg h1, if_pos h2]]; exact Ext.fin (storedF_grow _ _ _ _)
  unfold storedF
  rw [if_neg h1, if_neg h2, if_neg (show ¬ 8 * (bs ++ m).length < alignF p + 16 by omega), if_neg (show ¬ 8 * (bs ++ m).length < alignF p + 32 by omega), numB_pre bs m (alignF p) 16 (by omega), numB_pre bs m (alignF p + 16) 16 (by omega)]
  split
  · exact Ext.same rfl
  · exact storF_ext _ _ _ _ _ _
theorem copyF_ext (dist bs m : List Int) (most s : Nat) (out : List Int) (p : Nat) : Ext (copyF dist bs most s out p) (copyF dist (bs ++ m) most s out p) := by
  have hl := len_pre bs m
  by_cases h1 : 285 < s
  · unfold copyF; rw [if_pos h1, if_pos h1]; exact Ext.same rfl
  by_cases h2 : 8 * bs.length < p + lenK s
  · rw [show copyF dist bs most s out p = (out, 0, 55) by unfold copyF; rw [if_neg h1, if_pos h2]]; exact Ext.fin (copyF_grow _ _ _ _ _ _)
  by_cases h3 : anyUsed dist = false
  · unfold copyF; rw [if_neg h1, if_neg h2, if_pos h3, if_neg h1, if_neg (by omega), if_pos h3]; exact Ext.same rfl
  by_cases h4 : (decF dist bs (p + lenK s)).2.1 = 10
  · rw [show copyF dist bs most s out p = (out, 0, 55) by unfold copyF; rw [if_neg h1, if_neg h2, if_neg h3, if_pos (by rw [h4]; decide), h4]; rfl]; exact Ext.fin (copyF_grow _ _ _ _ _ _)
  have hd := decF_pre dist bs m (p + lenK s) h4
  by_cases h5 : (decF dist bs (p + lenK s)).2.1 ≠ 0
  · unfold copyF; rw [hd, if_neg h1, if_neg h2, if_neg h3, if_pos h5, if_neg h1, if_neg (by omega), if_neg h3, if_pos h5]; exact Ext.same rfl
  by_cases h6 : 29 < (decF dist bs (p + lenK s)).1
  · unfold copyF; rw [hd, if_neg h1, if_neg h2, if_neg h3, if_neg h5, if_pos h6, if_neg h1, if_neg (by omega), if_neg h3, if_neg h5, if_pos h6]; exact Ext.same rfl
  by_cases h7 : 8 * bs.length < p + lenK s + (decF dist bs (p + lenK s)).2.2 + distK (decF dist bs (p + lenK s)).1.toNat
  · rw [show copyF dist bs most s out p = (out, 0, 55) by unfold copyF; rw [if_neg h1, if_neg h2, if_neg h3, if_neg h5, if_neg h6, if_pos h7]]; exact Ext.fin (copyF_grow _ _ _ _ _ _)
  refine Ext.same ?_
  unfold copyF
  rw [hd, if_neg h1, if_neg (show ¬ 8 * (bs ++ m).length < p + lenK s by omega), if_neg h3, if_neg h5, if_neg h6, if_neg (show ¬ 8 * (bs ++ m).length < p + lenK s + (decF dist bs (p + lenK s)).2.2 + distK (decF dist bs (p + lenK s)).1.toNat by omega), if_neg h1, if_neg h2, if_neg h3, if_neg h5, if_neg h6, if_neg h7,
    numB_pre bs m p (lenK s) (by omega), numB_pre bs m _ (distK (decF dist bs (p + lenK s)).1.toNat) (by omega)]
theorem symF_ext (lit dist bs m : List Int) (most : Nat) : ∀ f f' out p, p ≤ 8 * bs.length → 8 * bs.length - p < f → 8 * (bs ++ m).length - p < f' → Ext (symF lit dist bs most f out p) (symF lit dist (bs ++ m) most f' out p)
  | 0, f', out, p, _, h, _ => by omega
  | f + 1, 0, out, p, _, _, h => by omega
  | f + 1, f' + 1, out, p, hp, hf, hf' => by
    have hl := len_pre bs m
    by_cases h4 : (decF lit bs p).2.1 = 10
    · rw [show symF lit dist bs most (f + 1) out p = (out, 0, 55) by rw [symF, if_pos (by rw [h4]; decide), h4]; rfl]; exact Ext.fin (symF_grow _ _ _ _ _ _ _)
    have hd := decF_pre lit bs m p h4
    rw [symF, symF, hd]
    by_cases h5 : (decF lit bs p).2.1 ≠ 0
    · rw [if_pos h5, if_pos h5]; exact Ext.same rfl
    rw [if_neg h5, if_neg h5]
    obtain ⟨a1, a2, -⟩ := dec_adv lit bs p hp (by omega)
    by_cases h6 : (decF lit bs p).1 = 256
    · rw [if_pos h6, if_pos h6]; exact Ext.same rfl
    rw [if_neg h6, if_neg h6]
    by_cases h7 : (decF lit bs p).1 < 256
    · rw [if_pos h7, if_pos h7]
      split
      · exact Ext.same rfl
      · exact symF_ext lit dist bs m most f f' _ _ a2 (by omega) (by omega)
    rw [if_neg h7, if_neg h7]
    have hc := copyF_ext dist bs m most (decF lit bs p).1.toNat out (p + (decF lit bs p).2.2)
    by_cases h8 : (copyF dist bs most (decF lit bs p).1.toNat out (p + (decF lit bs p).2.2)).2.2 = 55
    · rw [if_pos (show (copyF dist bs most (decF lit bs p).1.toNat out (p + (decF lit bs p).2.2)).2.2 ≠ 0 by rw [h8]; decide)]
      refine ⟨fun h => absurd h8 h, fun _ => ?_⟩
      split
      · exact hc.2 h8
      · exact (hc.2 h8).trans (symF_grow _ _ _ _ _ _ _)
    rw [hc.1 h8]
    split
    · exact Ext.same rfl
    · next h9 =>
      obtain ⟨b1, b2⟩ := copyF_pos dist bs most (decF lit bs p).1.toNat out _ a2 (by omega)
      exact symF_ext lit dist bs m most f f' _ _ b2 (by omega) (by omega)
/-! Heads. -/
theorem cL_pre (bs m : List Int) (p : Nat) : ∀ k, p + 3 * k ≤ 8 * bs.length → cL (bs ++ m) p k = cL bs p k
  | 0, _ => rfl
  | k + 1, h => by rw [cL, cL, cL_pre bs m p k (by omega), numB_pre _ _ _ _ (by omega)]
theorem stepsF_pre (codes bs m : List Int) (N : Int) : ∀ f l q, (stepsF codes bs N f l q).2.2 ≠ 10 → stepsF codes (bs ++ m) N f l q = stepsF codes bs N f l q
  | 0, l, q, _ => rfl
  | f + 1, l, q, h => by
    have hl := len_pre bs m
    by_cases h1 : N ≤ l.length
    · rw [stepsF, if_pos h1, stepsF, if_pos h1]
    rw [stepsF, if_neg h1] at h
    rw [stepsF, if_neg h1, stepsF, if_neg h1]
    by_cases h2 : (decF codes bs q).2.1 ≠ 0
    · rw [if_pos h2] at h
      rw [decF_pre codes bs m q h, if_pos h2, if_pos h2]
    rw [if_neg h2] at h
    rw [decF_pre codes bs m q (by omega), if_neg h2]
    by_cases h3 : 8 * bs.length < q + (decF codes bs q).2.2 + wN (decF codes bs q).1
    · rw [if_pos h3] at h; exact absurd rfl h
    rw [if_neg h3] at h
    rw [if_neg h3, if_neg (by omega), if_neg h2, numB_pre _ _ _ _ (by omega)]
    split at h
    · rfl
    · next l' ha => exact stepsF_pre codes bs m N f l' _ h
theorem stepsF_cut (codes bs m : List Int) (N : Int) : ∀ f l q, (stepsF codes (bs ++ m) N f l q).2.2 = 0 → q ≤ (stepsF codes (bs ++ m) N f l q).2.1 ∧ ((stepsF codes (bs ++ m) N f l q).2.1 ≤ 8 * bs.length → stepsF codes bs N f l q = stepsF codes (bs ++ m) N f l q)
  | 0, l, q, _ => ⟨Nat.le_refl _, fun _ => rfl⟩
  | f + 1, l, q, h => by
    by_cases h1 : N ≤ l.length
    · rw [stepsF, if_pos h1, stepsF, if_pos h1]; exact ⟨Nat.le_refl _, fun _ => rfl⟩
    rw [stepsF, if_neg h1] at h
    rw [stepsF, if_neg h1, stepsF, if_neg h1]
    by_cases h2 : (decF codes (bs ++ m) q).2.1 ≠ 0
    · rw [if_pos h2] at h; exact absurd h h2
    rw [if_neg h2] at h ⊢
    by_cases h3 : 8 * (bs ++ m).length < q + (decF codes (bs ++ m) q).2.2 + wN (decF codes (bs ++ m) q).1
    · rw [if_pos h3] at h; simp at h
    rw [if_neg h3] at h ⊢
    split at h
    · simp at h
    · next l' ha =>
      obtain ⟨a, b⟩ := stepsF_cut codes bs m N f l' _ h
      refine ⟨by omega, fun hp => ?_⟩
      have hd := decF_cut codes bs m q (by omega) (by omega)
      rw [hd, if_neg h2, if_neg (by omega), ← numB_pre bs m _ _ (by omega), ha]
      exact b hp
theorem headF_pre (bs m : List Int) (p : Nat) (h : (headF bs p).2.2.2 ≠ 10) : headF (bs ++ m) p = headF bs p := by
  have hl := len_pre bs m
  unfold headF at h
  by_cases h1 : 8 * bs.length < p + 14
  · rw [if_pos h1] at h; exact absurd rfl h
  rw [if_neg h1] at h
  have n1 := numB_pre bs m p 5 (by omega)
  have n2 := numB_pre bs m (p + 5) 5 (by omega)
  have em : manyF (bs ++ m) p = manyF bs p := by unfold manyF; rw [numB_pre _ _ _ _ (by omega)]
  have el : litF (bs ++ m) p = litF bs p := by unfold litF; rw [n1]
  have ed : distF (bs ++ m) p = distF bs p := by unfold distF; rw [n2]
  unfold headF
  rw [if_neg h1, if_neg (show ¬ 8 * (bs ++ m).length < p + 14 by omega), n1, n2, em]
  by_cases h2 : 29 < numB bs p 5 ∨ 29 < numB bs (p + 5) 5
  · rw [if_pos h2, if_pos h2]
  rw [if_neg h2] at h
  rw [if_neg h2, if_neg h2]
  by_cases h3 : 8 * bs.length < p + 14 + 3 * manyF bs p
  · rw [if_pos h3] at h; exact absurd rfl h
  rw [if_neg h3] at h
  rw [if_neg h3, if_neg (by omega)]
  have ec : codesH (bs ++ m) p = codesH bs p := by unfold codesH; rw [em, cL_pre _ _ _ _ (by omega)]
  rw [ec]
  by_cases h4 : checkF (codesH bs p) ≠ 0
  · rw [if_pos h4, if_pos h4]
  rw [if_neg h4] at h
  rw [if_neg h4, if_neg h4]
  have er : (readR bs p).2.2 ≠ 10 → readR (bs ++ m) p = readR bs p := fun hr => by
    unfold readR; rw [ec, el, ed, em]; exact stepsF_pre _ _ _ _ _ _ _ hr
  by_cases h5 : (readR bs p).2.2 ≠ 0
  · rw [if_pos h5] at h
    rw [er h, if_pos h5, if_pos h5]
  · rw [er (by omega), el]
theorem headF_cut (bs m : List Int) (p : Nat) (h : (headF (bs ++ m) p).2.2.2 = 0) (hp : p + (headF (bs ++ m) p).2.2.1 ≤ 8 * bs.length) : headF bs p = headF (bs ++ m) p := by
  have hl := len_pre bs m
  unfold headF at h hp
  by_cases h1 : 8 * (bs ++ m).length < p + 14
  · rw [if_pos h1] at h; simp at h
  rw [if_neg h1] at h hp
  by_cases h2 : 29 < numB (bs ++ m) p 5 ∨ 29 < numB (bs ++ m) (p + 5) 5
  · rw [if_pos h2] at h; simp at h
  rw [if_neg h2] at h hp
  by_cases h3 : 8 * (bs ++ m).length < p + 14 + 3 * manyF (bs ++ m) p
  · rw [if_pos h3] at h; simp at h
  rw [if_neg h3] at h hp
  by_cases h4 : checkF (codesH (bs ++ m) p) ≠ 0
  · rw [if_pos h4] at h; exact absurd h h4
  rw [if_neg h4] at h hp
  by_cases h5 : (readR (bs ++ m) p).2.2 ≠ 0
  · rw [if_pos h5] at h; exact absurd h h5
  rw [if_neg h5] at h hp
  obtain ⟨a, b⟩ := stepsF_cut (codesH (bs ++ m) p) bs m ((litF (bs ++ m) p + distF (bs ++ m) p : Nat) : Int) (litF (bs ++ m) p + distF (bs ++ m) p) [] (p + 14 + 3 * manyF (bs ++ m) p) (by
    have : (readR (bs ++ m) p).2.2 = 0 := by omega
    exact this)
  change _ ≤ (readR (bs ++ m) p).2.1 at a
  change (readR (bs ++ m) p).2.1 ≤ _ → _ = readR (bs ++ m) p at b
  simp only [] at hp
  have hq : (readR (bs ++ m) p).2.1 ≤ 8 * bs.length := by omega
  have n1 := numB_pre bs m p 5 (by omega)
  have n2 := numB_pre bs m (p + 5) 5 (by omega)
  have em : manyF (bs ++ m) p = manyF bs p := by unfold manyF; rw [numB_pre _ _ _ _ (by omega)]
  have el : litF (bs ++ m) p = litF bs p := by unfold litF; rw [n1]
  have ed : distF (bs ++ m) p = distF bs p := by unfold distF; rw [n2]
  have ec : codesH (bs ++ m) p = codesH bs p := by unfold codesH; rw [em, cL_pre _ _ _ _ (by omega)]
  have er : readR bs p = readR (bs ++ m) p := by rw [← b hq, ec, el, ed, em]; rfl
  refine (headF_pre bs m p ?_).symm
  unfold headF
  rw [if_neg (by omega), ← n1, ← n2, if_neg h2, ← em, if_neg (by omega), ← ec, if_neg h4, er, if_neg h5]
  exact (by decide : (0 : Int) ≠ 10)
theorem headF_adv (bs : List Int) (p : Nat) (h : (headF bs p).2.2.2 = 0) : p + (headF bs p).2.2.1 ≤ 8 * bs.length := by
  have hm : ∀ f l q, q ≤ 8 * bs.length → (stepsF (codesH bs p) bs ((litF bs p + distF bs p : Nat) : Int) f l q).2.2 = 0 → (stepsF (codesH bs p) bs ((litF bs p + distF bs p : Nat) : Int) f l q).2.1 ≤ 8 * bs.length := by
    intro f
    induction f with
    | zero => intro l q hq _; exact hq
    | succ f ih =>
      intro l q hq h
      rw [stepsF] at h ⊢
      split
      · exact hq
      next h1 =>
      rw [if_neg h1] at h
      split
      · exact hq
      next h2 =>
      rw [if_neg h2] at h
      split
      · exact hq
      next h3 =>
      rw [if_neg h3] at h
      split
      · exact hq
      · next l' ha => rw [ha] at h; exact ih l' _ (by omega) h
  unfold headF at h ⊢
  split
  · next h1 => rw [if_pos h1] at h; simp at h
  next h1 =>
  rw [if_neg h1] at h
  split
  · next h2 => rw [if_pos h2] at h; simp at h
  next h2 =>
  rw [if_neg h2] at h
  split
  · next h3 => rw [if_pos h3] at h; simp at h
  next h3 =>
  rw [if_neg h3] at h
  split
  · next h4 => rw [if_pos h4] at h; exact absurd h h4
  next h4 =>
  rw [if_neg h4] at h
  split
  · next h5 => rw [if_pos h5] at h; exact absurd h h5
  · next h5 =>
    have := hm (litF bs p + distF bs p) [] (p + 14 + 3 * manyF bs p) (by omega) (by have : (readR bs p).2.2 = 0 := by omega
                                                                                    exact this)
    change (readR bs p).2.1 ≤ _ at this
    simp only []
    omega
/-! Blocks. -/
theorem codesE_zero {h : List Int × List Int × Nat × Int} (he : codesE h = 0) : h.2.2.2 = 0 := by
  unfold codesE at he
  split at he
  · next h1 => exact endF_zero (by decide) he
  · omega
theorem codesE_55 {h : List Int × List Int × Nat × Int} (he : codesE h = 55) : h.2.2.2 = 10 := by
  unfold codesE at he
  split at he
  · exact end55 (by decide) he
  · repeat' split at he
    all_goals simp at he
theorem blockF_pos (bs : List Int) (most : Nat) (kind : Int) (out : List Int) (p : Nat) (hp : p ≤ 8 * bs.length) (h : (blockF bs most kind out p).2.2 = 0) : p ≤ (blockF bs most kind out p).2.1 ∧ (blockF bs most kind out p).2.1 ≤ 8 * bs.length := by
  unfold blockF at h ⊢
  split
  · next h1 => rw [if_pos h1] at h; exact storedF_pos _ _ _ _ h
  next h1 =>
  rw [if_neg h1] at h
  split
  · next h2 => rw [if_pos h2] at h; exact symF_pos _ _ _ _ _ _ _ hp h
  next h2 =>
  rw [if_neg h2] at h
  split
  · next h3 =>
    rw [if_pos h3] at h
    split
    · next h4 => rw [if_pos h4] at h; exact absurd h h4
    · next h4 =>
      rw [if_neg h4] at h
      have ha := headF_adv bs p (codesE_zero (by omega))
      have := symF_pos _ _ _ _ _ _ _ ha h
      omega
  · next h3 => rw [if_neg h3] at h; simp at h
theorem blockF_ext (bs m : List Int) (most : Nat) (kind : Int) (out : List Int) (p : Nat) (hp : p ≤ 8 * bs.length) : Ext (blockF bs most kind out p) (blockF (bs ++ m) most kind out p) := by
  unfold blockF
  split
  · exact storedF_ext _ _ _ _ _
  split
  · exact symF_ext _ _ _ _ _ _ _ _ _ hp (by omega) (by omega)
  split
  · by_cases h1 : (headF bs p).2.2.2 = 10
    · have he : codesE (headF bs p) = 55 := by unfold codesE; rw [if_pos (by rw [h1]; decide), h1]; rfl
      rw [if_pos (by rw [he]; decide), he]
      refine Ext.fin ?_
      split
      · exact List.prefix_refl _
      · exact symF_grow _ _ _ _ _ _ _
    · rw [headF_pre bs m p h1]
      split
      · exact Ext.same rfl
      · next h2 =>
        have ha := headF_adv bs p (codesE_zero (by omega))
        exact symF_ext _ _ _ _ _ _ _ _ _ ha (by omega) (by omega)
  · exact Ext.same rfl
theorem blksF_ext (bs m : List Int) (most : Nat) : ∀ f f' out p, p ≤ 8 * bs.length → 8 * bs.length - p < f → 8 * (bs ++ m).length - p < f' → Ext (blksF bs most f out p) (blksF (bs ++ m) most f' out p)
  | 0, f', out, p, _, h, _ => by omega
  | f + 1, 0, out, p, _, _, h => by omega
  | f + 1, f' + 1, out, p, hp, hf, hf' => by
    have hl := len_pre bs m
    by_cases h1 : 8 * bs.length < p + 1
    · rw [blksF, if_pos h1]; exact Ext.fin (blksF_grow _ _ _ _ _)
    by_cases h2 : 8 * bs.length < p + 3
    · rw [blksF, if_neg h1, if_pos h2]; exact Ext.fin (blksF_grow _ _ _ _ _)
    rw [blksF, blksF, if_neg h1, if_neg h2, if_neg (show ¬ 8 * (bs ++ m).length < p + 1 by omega), if_neg (show ¬ 8 * (bs ++ m).length < p + 3 by omega), numB_pre bs m (p + 1) 2 (by omega), numB_pre bs m p 1 (by omega)]
    have hb := blockF_ext bs m most (numB bs (p + 1) 2) out (p + 3) (by omega)
    by_cases h8 : (blockF bs most (numB bs (p + 1) 2) out (p + 3)).2.2 = 55
    · rw [if_pos (show (blockF bs most (numB bs (p + 1) 2) out (p + 3)).2.2 ≠ 0 by rw [h8]; decide)]
      refine ⟨fun h => absurd h8 h, fun _ => ?_⟩
      split
      · exact hb.2 h8
      split
      · exact (hb.2 h8).trans (blksF_grow _ _ _ _ _)
      · exact hb.2 h8
    rw [hb.1 h8]
    split
    · exact Ext.same rfl
    · next h9 =>
      obtain ⟨b1, b2⟩ := blockF_pos bs most (numB bs (p + 1) 2) out (p + 3) (by omega) (by omega)
      split
      · exact blksF_ext bs m most f f' _ _ b2 (by omega) (by omega)
      · exact Ext.same rfl
theorem inflF_ext (bs m : List Int) (most : Nat) : Ext (inflF bs most) (inflF (bs ++ m) most) := blksF_ext bs m most _ _ _ _ (by omega) (by omega) (by omega)
theorem blksF_pos (bs : List Int) (most : Nat) : ∀ f out p, p ≤ 8 * bs.length → (blksF bs most f out p).2.2 = 0 → p ≤ (blksF bs most f out p).2.1 ∧ (blksF bs most f out p).2.1 ≤ 8 * bs.length
  | 0, out, p, hp, h => by simp [blksF] at h
  | f + 1, out, p, hp, h => by
    rw [blksF] at h ⊢
    split
    · next h1 => rw [if_pos h1] at h; simp at h
    next h1 =>
    rw [if_neg h1] at h
    split
    · next h2 => rw [if_pos h2] at h; simp at h
    next h2 =>
    rw [if_neg h2] at h
    split
    · next h3 => rw [if_pos h3] at h; exact absurd h h3
    next h3 =>
    rw [if_neg h3] at h
    obtain ⟨b1, b2⟩ := blockF_pos bs most (numB bs (p + 1) 2) out (p + 3) (by omega) (by omega)
    split
    · next h4 =>
      rw [if_pos h4] at h
      have := blksF_pos bs most f _ _ b2 h
      omega
    · omega
theorem inflF_pos (bs : List Int) (most : Nat) (h : (inflF bs most).2.2 = 0) : (inflF bs most).2.1 ≤ 8 * bs.length := (blksF_pos bs most _ _ _ (Nat.zero_le _) h).2
end Go.Proofs.YtcblibefmclloaaDoor

set_option linter.unusedVariables false
set_option linter.unusedSimpArgs false
namespace Go.Proofs.YtcblibefmclloaaDoor
open Go.RowKit
theorem stepsF_full (codes bs : List Int) (N : Int) : ∀ f l q, N ≤ ((l.length + f : Nat) : Int) → (stepsF codes bs N f l q).2.2 = 0 → N ≤ (stepsF codes bs N f l q).1.length
  | 0, l, q, hf, h => by simpa [stepsF] using hf
  | f + 1, l, q, hf, h => by
    rw [stepsF] at h ⊢
    split
    · assumption
    next h1 =>
    rw [if_neg h1] at h
    split
    · next h2 => rw [if_pos h2] at h; exact absurd h h2
    next h2 =>
    rw [if_neg h2] at h
    split
    · next h3 => rw [if_pos h3] at h; simp at h
    next h3 =>
    rw [if_neg h3] at h
    split
    · next ha => rw [ha] at h; simp at h
    · next l' ha =>
      rw [ha] at h
      have := (addF_grows ha).1
      exact stepsF_full codes bs N f l' _ (by omega) h
theorem head_full {bs : List Int} {p : Nat} (h : (headF bs p).2.2.2 = 0) : (headF bs p).1.length = litF bs p ∧ (headF bs p).2.1.length = distF bs p := by
  unfold headF at h ⊢
  split
  · next h1 => rw [if_pos h1] at h; simp at h
  next h1 =>
  rw [if_neg h1] at h
  split
  · next h2 => rw [if_pos h2] at h; simp at h
  next h2 =>
  rw [if_neg h2] at h
  split
  · next h3 => rw [if_pos h3] at h; simp at h
  next h3 =>
  rw [if_neg h3] at h
  split
  · next h4 => rw [if_pos h4] at h; exact absurd h h4
  next h4 =>
  rw [if_neg h4] at h
  split
  · next h5 => rw [if_pos h5] at h; exact absurd h h5
  · next h5 =>
    have hf := stepsF_full (codesH bs p) bs ((litF bs p + distF bs p : Nat) : Int) (litF bs p + distF bs p) [] (p + 14 + 3 * manyF bs p) (by simp) (by
      have : (readR bs p).2.2 = 0 := by omega
      exact this)
    have hl := stepsF_len (codesH bs p) bs ((litF bs p + distF bs p : Nat) : Int) (Int.natCast_nonneg _) (litF bs p + distF bs p) [] (p + 14 + 3 * manyF bs p) (by simp; omega)
    change _ ≤ ((readR bs p).1.length : Int) at hf
    change ((readR bs p).1.length : Int) ≤ _ at hl
    simp only [List.length_take, List.length_drop]
    omega
/-- What reading the lists of kind 2 gives. -/
def HeadP (w : World) (g gr : Nat) (A : Option Addr) (c : Nat) (bs : List Int) (most : Nat) (out : List Int) (p : Nat) (h : List Int × List Int × Nat × Int) (e : Ending) (w' : World) : Prop :=
  (codesE h ≠ 0 ∧ ∃ q, e = .returned (.tuple #[.slice none 0 0, .slice none 0 0, .int .i64 (codesE h)]) ∧ IR w' g gr A c bs q most out ∧ KT g gr w w') ∨
  (codesE h = 0 ∧ ∃ v1 v2, e = .returned (.tuple #[v1, v2, .int .i64 0]) ∧ w'.ownsRow w.heap.size 3 1 v1 h.1.length (ints .i64 h.1) ∧ w'.ownsRow w.heap.size 3 1 v2 h.2.1.length (ints .i64 h.2.1) ∧
    IR w' g gr A c bs (p + h.2.2.1) most out ∧ KT g gr w w')
theorem headP_err {w w' : World} {g gr c most p q : Nat} {A : Option Addr} {bs out : List Int} {h : List Int × List Int × Nat × Int} {e : Int} (hh : codesE h = e) (he : e ≠ 0) (hi : IR w' g gr A c bs q most out) (k : KT g gr w w') :
    HeadP w g gr A c bs most out p h (.returned (.tuple #[.slice none 0 0, .slice none 0 0, .int .i64 e])) w' := by
  subst hh; exact .inl ⟨he, q, rfl, hi, k⟩
set_option maxRecDepth 100000 in
set_option maxHeartbeats 1000000 in
theorem head_calls (w : World) (g gr : Nat) (A : Option Addr) (c : Nat) (bs : List Int) (p most : Nat) (out : List Int) (hT : Tabs w) (hg : gtop ≤ gr) (h : IR w g gr A c bs p most out) :
    Calls Tryd.prog 109 #[.pointer (some ⟨g, 0, none⟩)] w (HeadP w g gr A c bs most out p (headF bs p)) := by
  have H := Lib.hid h
  have HT := Lib.hid hT
  obtain ⟨v, hblk, -⟩ := h.box
  have hglt := h.glt
  have HA : Hid (∀ a, A = some a → a.block < w.heap.size) := Lib.hid (fun a ha => Nat.lt_trans (h.data a ha) hglt)
  have c0 := hblk.cell 0
  simp only [List.getElem?_cons_zero] at c0
  have HGR := Lib.hid (show gr < w.heap.size from Nat.lt_trans h.lt hglt)
  clear hblk h hT
  have hcR := lensRead_calls w gr A c bs p HT.out hg H.out.rd HA.out
  have hfull := @head_full bs p
  obtain ⟨hd, hhd⟩ : ∃ h, h = headF bs p := ⟨_, rfl⟩
  rw [← hhd] at hcR hfull ⊢
  clear hhd
  obtain ⟨L1, L2, nn, er⟩ := hd
  simp only [] at hcR hfull
  have HF := Lib.hid hfull
  clear hfull
  go_enter Tryd.func109, Tryd.ntmps109
  go_wp2_with fail
  refine hcR.mono ?_
  rintro _ w1 ⟨v1, v2, rfl, ho1, ho2, hr1, hk1⟩
  have H1 := Lib.hid (H.out.read hr1 hk1)
  have K1 : Hid (KT g gr w w1) := Lib.hid (KT.of_keeps hk1 (fun x hx => .inr (List.mem_singleton.1 hx)))
  have HO1 := Lib.hid ho1
  have HO2 := Lib.hid ho2
  clear ho1 ho2 hr1 hk1 H c0 hcR HT HA
  by_cases her : er = 0
  · subst her
    obtain ⟨hl1, hl2⟩ := HF.out rfl
    have b1 : 257 ≤ L1.length := by rw [hl1]; unfold litF; omega
    have b2 : L1.length ≤ 288 := by rw [hl1]; exact litF_le _ _
    have b3 : 1 ≤ L2.length := by rw [hl2]; unfold distF; omega
    have b4 : L2.length ≤ 32 := by rw [hl2]; exact distF_le _ _
    clear hl1 hl2 HF
    obtain ⟨A1, c1, rfl, hri1, -, -⟩ := own_ri HO1.out
    obtain ⟨A2, c2, rfl, hri2, -, -⟩ := own_ri HO2.out
    have HR1 := Lib.hid hri1
    have HR2 := Lib.hid hri2
    obtain ⟨bb, oo, hAA, hc⟩ := hri1.at (show 256 < L1.length by omega)
    subst hAA
    clear hri1 hri2
    obtain ⟨n1, hn1⟩ : ∃ n, n = L1.length := ⟨_, rfl⟩
    obtain ⟨n2, hn2⟩ : ∃ n, n = L2.length := ⟨_, rfl⟩
    have HN1 := Lib.hid hn1
    have HN2 := Lib.hid hn2
    rw [← hn1] at b1 b2 HO1 HR1 ⊢
    rw [← hn2] at b3 b4 HO2 HR2 ⊢
    clear hn1 hn2
    obtain ⟨x, hx⟩ : ∃ x, x = nth L1 256 := ⟨_, rfl⟩
    rw [← hx] at hc
    have HX := Lib.hid hx
    clear hx
    by_cases hx0 : x = 0
    · subst hx0
      have HE : Hid (codesE (L1, L2, nn, 0) = 52) := Lib.hid (by unfold codesE; rw [if_neg (by simp), if_pos (by rw [← HX.out])])
      go_wp2_with fail
      go_ret3
      exact headP_err HE.out (by decide) H1.out K1.out
    · have e1 : (x == 0) = false := by simpa using hx0
      have e1' : decide (x = 0) = false := by simpa using hx0
      have HX0 := Lib.hid hx0
      clear hx0
      go_wp2_with fail
      refine (check_calls w1 _ n1 c1 L1 HR1.out (by omega)).mono ?_
      rintro _ w2 ⟨rfl, hd2⟩
      have hk2 := hd2.keeps (S := [])
      have H2 := Lib.hid (H1.out.keeps hk2)
      have K2 := Lib.hid (K1.out.trans (KT.of_keeps hk2 (by simp)))
      have HR22 := Lib.hid (HR2.out.keeps hk2 (off_nil _))
      have HO12 := Lib.hid (own_keeps HO1.out hk2 (by simp))
      have HO22 := Lib.hid (own_keeps HO2.out hk2 (by simp))
      clear hd2 hk2 H1 K1 HR1 HR2 HO1 HO2 hc
      by_cases hc1 : checkF L1 = 0
      · have HC1 := Lib.hid hc1
        rw [hc1]
        clear hc1
        go_wp2_with fail
        refine (iused_calls w2 _ n2 c2 L2 HR22.out b3 (by omega)).mono ?_
        rintro _ w3 ⟨rfl, hd3⟩
        have hk3 := hd3.keeps (S := [])
        have H3 := Lib.hid (H2.out.keeps hk3)
        have K3 := Lib.hid (K2.out.trans (KT.of_keeps hk3 (by simp)))
        have HR23 := Lib.hid (HR22.out.keeps hk3 (off_nil _))
        have HO13 := Lib.hid (own_keeps HO12.out hk3 (by simp))
        have HO23 := Lib.hid (own_keeps HO22.out hk3 (by simp))
        clear hd3 hk3 H2 K2 HR22 HO12 HO22
        by_cases hu : anyUsed L2 = true
        · have HU := Lib.hid hu
          rw [hu]
          clear hu
          go_wp2_with fail
          refine (check_calls w3 _ n2 c2 L2 HR23.out (by omega)).mono ?_
          rintro _ w4 ⟨rfl, hd4⟩
          have hk4 := hd4.keeps (S := [])
          have H4 := Lib.hid (H3.out.keeps hk4)
          have K4 := Lib.hid (K3.out.trans (KT.of_keeps hk4 (by simp)))
          have HO14 := Lib.hid (own_keeps HO13.out hk4 (by simp))
          have HO24 := Lib.hid (own_keeps HO23.out hk4 (by simp))
          clear hd4 hk4 H3 K3 HR23 HO13 HO23
          by_cases hc2 : checkF L2 = 0
          · have HE : Hid (codesE (L1, L2, nn, 0) = 0) := Lib.hid (by unfold codesE; rw [if_neg (by simp), if_neg (by rw [← HX.out]; exact HX0.out), if_neg (by rw [HC1.out]; simp), if_neg (by rintro ⟨_, h⟩; exact h hc2)])
            rw [hc2]
            clear hc2
            go_wp2_with fail
            go_ret3
            exact .inr ⟨HE.out, _, _, rfl, by rw [← HN1.out]; exact HO14.out, by rw [← HN2.out]; exact HO24.out, H4.out, K4.out⟩
          · have HE : Hid (codesE (L1, L2, nn, 0) = 52) := Lib.hid (by unfold codesE; rw [if_neg (by simp), if_neg (by rw [← HX.out]; exact HX0.out), if_neg (by rw [HC1.out]; simp), if_pos ⟨HU.out, hc2⟩])
            have e2 : (checkF L2 != 0) = true := by simpa using hc2
            generalize checkF L2 = y at *
            clear hc2
            go_wp2_with fail
            go_ret3
            exact headP_err HE.out (by decide) H4.out K4.out
        · have hu : anyUsed L2 = false := by simpa using hu
          have HE : Hid (codesE (L1, L2, nn, 0) = 0) := Lib.hid (by unfold codesE; rw [if_neg (by simp), if_neg (by rw [← HX.out]; exact HX0.out), if_neg (by rw [HC1.out]; simp), if_neg (by rintro ⟨h, _⟩; rw [hu] at h; cases h)])
          rw [hu]
          clear hu
          go_wp2_with fail
          go_ret3
          exact .inr ⟨HE.out, _, _, rfl, by rw [← HN1.out]; exact HO13.out, by rw [← HN2.out]; exact HO23.out, H3.out, K3.out⟩
      · have HE : Hid (codesE (L1, L2, nn, 0) = 52) := Lib.hid (by unfold codesE; rw [if_neg (by simp), if_neg (by rw [← HX.out]; exact HX0.out), if_pos hc1])
        have e2 : (checkF L1 != 0) = true := by simpa using hc1
        generalize checkF L1 = y at *
        clear hc1
        go_wp2_with fail
        go_ret3
        exact headP_err HE.out (by decide) H2.out K2.out
  · have HE : Hid (codesE (L1, L2, nn, er) = endF er 52) := Lib.hid (by unfold codesE; rw [if_pos her])
    have HN : Hid (endF er 52 ≠ 0) := Lib.hid (fun h => her (endF_zero (by decide) h))
    have e1 : (er != 0) = true := by simpa using her
    clear her HF
    go_wp2_with fail
    refine (end_calls w1 er 52).mono ?_
    rintro _ w2 ⟨rfl, hd⟩
    have H2 := Lib.hid (H1.out.keeps (hd.keeps (S := [])))
    have K2 := Lib.hid (K1.out.trans (KT.of_keeps (hd.keeps (S := [])) (by simp)))
    clear hd H1 K1
    generalize endF er 52 = y at *
    go_wp2_with fail
    go_ret3
    exact headP_err HE.out HN.out H2.out K2.out
end Go.Proofs.YtcblibefmclloaaDoor
