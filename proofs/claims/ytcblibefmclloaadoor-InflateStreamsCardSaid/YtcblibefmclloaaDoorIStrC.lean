import Derived.Test.YtcblibefmclloaaDoorIStrB
import Derived.Test.YtcblibefmclloaaDoorIStrA
import Derived.RegionTactic
import Derived.BigQuiet
import Derived.WalkMore
import Derived.BigRegion
import Derived.Deep.Heap
import Derived.Laws.CopyOwn
import Derived.Laws.OwnMore
import Derived.Deep.AppendLies
set_option linter.unusedVariables false
set_option linter.unusedSimpArgs false
namespace Go.Proofs.YtcblibefmclloaaDoor
open Go.RowKit
/-- A decoder that lies before a place. -/
def DecT (w : World) (g top : Nat) (l : List Int) : Prop :=
  ∃ A c, DB w g (lowL (lenCnt l) 16) (lenCnt l) (atL l 16) (.slice A (symsB l 16).length c) (longN l 16) ∧ RI .i64 w A (symsB l 16).length (symsB l 16) ∧ g < top ∧ ∀ x, A = some x → x.block < top
theorem DecT.keeps {w w' : World} {g top : Nat} {l : List Int} {K : List Nat} (h : DecT w g top l) (hk : Keeps K w w') (hK : ∀ x ∈ K, top ≤ x) : DecT w' g top l := by
  obtain ⟨A, c, h1, h2, h3, h4⟩ := h
  refine ⟨A, c, h1.keeps hk (fun hm => by have := hK g hm; omega), h2.keeps hk (fun x hx hm => by have := hK x.block hm; have := h4 x hx; omega), h3, h4⟩
theorem Dec.top {w : World} {g : Nat} {l : List Int} (h : Dec w g l) : DecT w g w.heap.size l := by
  obtain ⟨v, h1, h2⟩ := h
  obtain ⟨A, c, rfl, hr, _, ha⟩ := own_ri h2
  exact ⟨A, c, h1, hr, h1.lt, fun x hx => (ha x hx).2.1⟩
/-- A decoder apart from a reader's block. -/
def DecN (w : World) (g gr : Nat) (l : List Int) : Prop :=
  ∃ A c, DB w g (lowL (lenCnt l) 16) (lenCnt l) (atL l 16) (.slice A (symsB l 16).length c) (longN l 16) ∧ RI .i64 w A (symsB l 16).length (symsB l 16) ∧ g ≠ gr ∧ ∀ x, A = some x → x.block ≠ gr
theorem DecN.keeps {w w' : World} {g gr : Nat} {l : List Int} {K : List Nat} (h : DecN w g gr l) (hk : Keeps K w w') (hK : ∀ x ∈ K, x = gr) : DecN w' g gr l := by
  obtain ⟨A, c, h1, h2, h3, h4⟩ := h
  exact ⟨A, c, h1.keeps hk (fun hm => h3 (hK g hm)), h2.keeps hk (fun x hx hm => h4 x hx (hK x.block hm)), h3, h4⟩
theorem DecT.apart {w : World} {g top gr : Nat} {l : List Int} (h : DecT w g top l) (ht : top ≤ gr) : DecN w g gr l := by
  obtain ⟨A, c, h1, h2, h3, h4⟩ := h
  exact ⟨A, c, h1, h2, by omega, fun x hx => by have := h4 x hx; omega⟩
theorem Dec.apart {w : World} {g gr : Nat} {l : List Int} (h : Dec w g l) (hg : gr < g) : DecN w g gr l := by
  obtain ⟨v, h1, h2⟩ := h
  obtain ⟨A, c, rfl, hr, _, ha⟩ := own_ri h2
  exact ⟨A, c, h1, hr, by omega, fun x hx => by have := (ha x hx).1; omega⟩
/-- What is read next: from the code so far, so many bits of it taken. -/
def decGo (l bs : List Int) (p : Nat) : Nat → Nat → Int → Int × Int × Nat
  | 0, _, _ => (0, 32, 0)
  | f + 1, n, x => if p + n + 1 ≤ 8 * bs.length then
      if 0 ≤ 2 * x + bitAt bs (p + n) - lowF (lenCnt l) (n + 1) ∧ 2 * x + bitAt bs (p + n) - lowF (lenCnt l) (n + 1) < nth (lenCnt l) (n + 1) then
        (nth (symsB l 16) ((symsB l (n + 1)).length + (2 * x + bitAt bs (p + n) - lowF (lenCnt l) (n + 1)).toNat), 0, n + 1)
      else decGo l bs p f (n + 1) (2 * x + bitAt bs (p + n))
    else (0, 10, 0)
def decF (l bs : List Int) (p : Nat) : Int × Int × Nat := decGo l bs p (longN l 16) 0 0
theorem or_bit64 (v b : Int) (h0 : 0 ≤ v) (h : v < 65536) (hb : 0 ≤ b ∧ b ≤ 1) : Go.bits .or .i64 (v * 2) b = 2 * v + b := by
  have := bits_join .i64 62 (by decide) wraps_i64 1 (v * 2) b (by omega) (by omega) (by omega) (by omega) (by omega) (by omega)
  rw [this]; omega
theorem take1_calls (w : World) (g : Nat) (A : Option Addr) (c : Nat) (bs : List Int) (p : Nat) (hr : Rdr w g A c bs p) (hf : p + 1 ≤ 8 * bs.length) :
    Calls Tryd.prog 49 #[.pointer (some ⟨g, 0, none⟩), .int .i64 1] w fun e w' => e = .returned (.tuple #[.int .u32 (bitAt bs p), .int .i64 0]) ∧ Rdr w' g A c bs (p + 1) ∧ Keeps [g] w w' := by
  have := take_calls w g A c bs p 1 hr (by omega) hf
  simpa [numB] using this
theorem take1_end (w : World) (g : Nat) (A : Option Addr) (c : Nat) (bs : List Int) (p : Nat) (hr : Rdr w g A c bs p) (hf : 8 * bs.length < p + 1) :
    Calls Tryd.prog 49 #[.pointer (some ⟨g, 0, none⟩), .int .i64 1] w fun e w' => e = .returned (.tuple #[.int .u32 0, .int .i64 10]) ∧ Dr w w' := by
  have := take_end w g A c bs p 1 hr (by omega) hf
  simpa using this
/-- What reading a symbol is to give. -/
def Nexted (w : World) (gr : Nat) (A : Option Addr) (c : Nat) (bs : List Int) (p : Nat) (r : Int × Int × Nat) (e : Ending) (w' : World) : Prop :=
  e = .returned (.tuple #[.int .i64 r.1, .int .i64 r.2.1]) ∧ Rdr w' gr A c bs (p + r.2.2) ∧ Keeps [gr] w w'
theorem nexted {w w' : World} {gr : Nat} {A : Option Addr} {c : Nat} {bs : List Int} {p k : Nat} {r : Int × Int × Nat} {s e : Int} (hr : r = (s, e, k)) (h : Rdr w' gr A c bs (p + k)) (hk : Keeps [gr] w w') :
    Nexted w gr A c bs p r (.returned (.tuple #[.int .i64 s, .int .i64 e])) w' := by
  subst hr; exact ⟨rfl, h, hk⟩
set_option maxRecDepth 100000 in
set_option maxHeartbeats 1000000 in
theorem nextN_calls (w : World) (g gr : Nat) (l : List Int) (A : Option Addr) (c : Nat) (bs : List Int) (p : Nat) (hd : DecN w g gr l) (hr : Rdr w gr A c bs p) (hl : l.length ≤ 288) :
    Calls Tryd.prog 81 #[.pointer (some ⟨g, 0, none⟩), .pointer (some ⟨gr, 0, none⟩)] w (Nexted w gr A c bs p (decF l bs p)) := by
  have HD := Lib.hid hd
  have HR := Lib.hid hr
  have HL := Lib.hid hl
  have hLL : longN l 16 < 16 := (longN_le l 16).resolve_right (by omega)
  obtain ⟨L, hL⟩ : ∃ L, L = longN l 16 := ⟨_, rfl⟩
  rw [← hL] at hLL
  have HLn := Lib.hid hL
  clear hd hr hl hL
  go_enter Tryd.func81, Tryd.ntmps81
  go_wp2_with fail
  go_step3
  go_wp2_with fail
  go_step3
  go_wp2_with fail
  go_loopw [6, 7, 8] (fun ev xv nv wr => ∃ (n : Nat) (x : Int), n ≤ L ∧ ev = .int .i64 32 ∧ nv = .int .i64 n ∧ xv = .int .i64 x ∧ 0 ≤ x ∧ x < 32768 ∧ Hid (x < 2 ^ n) ∧ Hid (decF l bs p = decGo l bs p (L - n) n x) ∧ Hid (Rdr wr gr A c bs (p + n)) ∧ Hid (Keeps [gr] w wr)) (fun _ _ nv _ => L - (intOf nv).toNat)
  case atStart => exact ⟨0, 0, by omega, rfl, rfl, rfl, by omega, by omega, Lib.hid (by simp), Lib.hid (by rw [HLn.out]; rfl), HR, Lib.hid (Keeps.refl _ _)⟩
  case round =>
    clear HR
    obtain ⟨n, x, hn, rfl, rfl, rfl, hx0, hx1, HX, HDF, HR, HK⟩ := hrel
    have HD1 := Lib.hid (HD.out.keeps HK.out (fun y hy => List.mem_singleton.1 hy))
    obtain ⟨sA, sc, hdb, hri, hgt, hat⟩ := HD1.out
    obtain ⟨q1, q2⟩ := hdb.syms
    rw [← HLn.out] at q2
    have HDB := Lib.hid hdb
    have HRI := Lib.hid hri
    have HAT := Lib.hid hat
    clear hdb hri hat q1
    by_cases hlt : n < L
    · have e0 : decide (n < L) = true := by simpa using hlt
      by_cases hend : p + n + 1 ≤ 8 * bs.length
      · have HEND := Lib.hid hend
        clear hend
        go_wp2_with fail
        refine (take1_calls _ _ _ _ _ _ HR.out HEND.out).mono ?_
        rintro _ w2 ⟨rfl, hr2, hk2⟩
        have HR2 : Hid (Rdr w2 gr A c bs (p + (n + 1))) := Lib.hid (by rw [← Nat.add_assoc]; exact hr2)
        have HK2 := Lib.hid (HK.out.trans hk2)
        have HD2 := Lib.hid (HD.out.keeps HK2.out (fun y hy => List.mem_singleton.1 hy))
        clear hr2 hk2 HK HR HD1 HDB HRI HAT q2
        obtain ⟨sA, sc, hdb, hri, hgt, hat⟩ := HD2.out
        obtain ⟨q1, q2⟩ := hdb.syms
        have q3 := hdb.code (j := n + 1) (by omega)
        have q4 := hdb.count (j := n + 1) (by omega)
        have q5 := hdb.at (j := n + 1) (by omega)
        rw [atL_at l (n + 1) (by omega) (by omega)] at q5
        rw [show nth (lowL (lenCnt l) 16) (n + 1) = lowF (lenCnt l) (n + 1) by unfold lowL; rw [nth_map_range _ _ _ (by omega), if_pos (by omega)]] at q3
        rw [← HLn.out] at q2
        have HRI := Lib.hid hri
        clear hdb hri hat
        have hgo : Hid (decF l bs p = if 0 ≤ 2 * x + bitAt bs (p + n) - lowF (lenCnt l) (n + 1) ∧ 2 * x + bitAt bs (p + n) - lowF (lenCnt l) (n + 1) < nth (lenCnt l) (n + 1) then
            (nth (symsB l 16) ((symsB l (n + 1)).length + (2 * x + bitAt bs (p + n) - lowF (lenCnt l) (n + 1)).toNat), 0, n + 1)
          else decGo l bs p (L - (n + 1)) (n + 1) (2 * x + bitAt bs (p + n))) := by
          show _ = _
          rw [HDF.out, show L - n = (L - (n + 1)) + 1 by omega, decGo, if_pos HEND.out]
        have hsa : Hid (∀ k : Nat, (k : Int) < nth (lenCnt l) (n + 1) → (symsB l (n + 1)).length + k < (symsB l 16).length) := Lib.hid (fun k hk => (symsB_at l (n + 1) (by omega) (by omega) k hk).1)
        obtain ⟨b0, b1⟩ := bitAt_le bs (p + n)
        obtain ⟨l0, l1⟩ := lowF_small l HL.out (n + 1) (by omega)
        obtain ⟨c0, c1⟩ := lenCnt_bd l (n + 1) (by omega)
        have c2 : nth (lenCnt l) (n + 1) ≤ 288 := by have := HL.out; omega
        have hy1 : Hid (2 * x + bitAt bs (p + n) < 2 ^ (n + 1)) := by show _ < _; have := HX.out; rw [Int.pow_succ]; omega
        have hp : (2 : Int) ^ (n + 1) ≤ 32768 := by
          have : (2 : Nat) ^ (n + 1) ≤ 2 ^ 15 := Nat.pow_le_pow_right (by decide) (by omega)
          exact_mod_cast this
        have hy2 : 2 * x + bitAt bs (p + n) < 32768 := by have := hy1.out; omega
        clear hp c1 HDF
        generalize bitAt bs (p + n) = b at *
        generalize lowF (lenCnt l) (n + 1) = lo at *
        generalize nth (lenCnt l) (n + 1) = ct at *
        have e4 : Go.bits .or .i64 (x * 2) b = 2 * x + b := or_bit64 x b hx0 (by omega) ⟨b0, b1⟩
        by_cases hk0 : 0 ≤ 2 * x + b - lo
        · obtain ⟨K, hK⟩ : ∃ K : Nat, 2 * x + b - lo = K := ⟨(2 * x + b - lo).toNat, by omega⟩
          by_cases hk1 : (K : Int) < ct
          · have HRES : Hid (decF l bs p = (nth (symsB l 16) ((symsB l (n + 1)).length + K), 0, n + 1)) := by
              show _ = _
              rw [hgo.out, hK, if_pos ⟨by omega, hk1⟩, Int.toNat_natCast]
            have hin := hsa.out K hk1
            obtain ⟨sb, so, rfl, hcell⟩ := HRI.out.at hin
            have HIN := Lib.hid hin
            have d2 : decide ((K : Int) < ct) = true := by simpa using hk1
            have hS16 : (symsB l 16).length ≤ 4608 := Nat.le_trans (symsB_len l 16) (by have := HL.out; omega)
            generalize hS : (symsB l (n + 1)).length = S at *
            generalize hSS : (symsB l 16).length = SS at *
            have s1 : ((S : Int) + (K : Int)).toNat = S + K := by omega
            have s2 : (0 : Int) ≤ (S : Int) + (K : Int) := by omega
            have s3 : (S : Int) + (K : Int) < (SS : Int) := by omega
            clear hS hSS hin
            have s7 : IntKind.i64.wrap ((S : Int) + (K : Int)) = (S : Int) + (K : Int) := IntWalk.i64_in _ (by omega)
            have s4 : (0 : Int) ≤ (n : Int) + 1 := by omega
            have s5 : (n : Int) + 1 < 16 := by omega
            have s6 : ((n : Int) + 1).toNat = n + 1 := by omega
            go_wp2_with fail
            go_quiet (fail)
            go_wp2_with fail
            go_ret2
            exact nexted HRES.out (HR2.out.dr ((Keeps.refl [] w2).drewN _)) (HK2.out.drewN _)
          · have HRES : Hid (decF l bs p = decGo l bs p (L - (n + 1)) (n + 1) (2 * x + b)) := by
              show _ = _
              rw [hgo.out, hK, if_neg (fun h => hk1 h.2)]
            have d2 : decide ((K : Int) < ct) = false := by simpa using hk1
            clear hgo hsa
            go_wp2_with fail
            go_roundw
            case rel => exact ⟨n + 1, 2 * x + b, by omega, rfl, by go_num, rfl, by omega, hy2, hy1, HRES, HR2, HK2⟩
            case measure => simp [intOf]; omega
        · have HRES : Hid (decF l bs p = decGo l bs p (L - (n + 1)) (n + 1) (2 * x + b)) := by
            show _ = _
            rw [hgo.out, if_neg (fun h => hk0 h.1)]
          have d2 : decide (0 ≤ 2 * x + b - lo) = false := by simpa using hk0
          clear hgo hsa
          go_wp2_with fail
          go_roundw
          case rel => exact ⟨n + 1, 2 * x + b, by omega, rfl, by go_num, rfl, by omega, hy2, hy1, HRES, HR2, HK2⟩
          case measure => simp [intOf]; omega
      · have HEND := Lib.hid hend
        clear hend
        have HRES : Hid (decF l bs p = (0, 10, 0)) := by
          show _ = _
          rw [HDF.out, show L - n = (L - n - 1) + 1 by omega, decGo, if_neg HEND.out]
        go_wp2_with fail
        refine (take1_end _ _ _ _ _ _ HR.out (by have := HEND.out; omega)).mono ?_
        rintro _ w2 ⟨rfl, hd2⟩
        have HR2 := Lib.hid (HR.out.dr (hd2.keeps (S := [])))
        have HK2 := Lib.hid (HK.out.trans (hd2.keeps (S := [gr])))
        clear hd2
        go_wp2_with fail
        refine (back_calls _ _ _ _ _ _ n HR2.out (by omega)).mono ?_
        rintro _ w3 ⟨rfl, hr3, hk3⟩
        have HR3 := Lib.hid hr3
        have HK3 := Lib.hid (HK2.out.trans hk3)
        clear hr3 hk3
        go_wp2_with fail
        go_ret2
        exact nexted HRES.out (by have := HR3.out; rwa [Nat.add_sub_cancel] at this) HK3.out
    · obtain rfl : n = L := by omega
      have HRES : Hid (decF l bs p = (0, 32, 0)) := by show _ = _; rw [HDF.out, Nat.sub_self]; rfl
      go_wp2_with fail
      refine (back_calls _ _ _ _ _ _ n HR.out (by omega)).mono ?_
      rintro _ w3 ⟨rfl, hr3, hk3⟩
      have HR3 := Lib.hid hr3
      have HK3 := Lib.hid (HK.out.trans hk3)
      clear hr3 hk3
      go_wp2_with fail
      go_ret2
      exact nexted HRES.out (by have := HR3.out; rwa [Nat.add_sub_cancel] at this) HK3.out
theorem next_calls (w : World) (g top gr : Nat) (l : List Int) (A : Option Addr) (c : Nat) (bs : List Int) (p : Nat) (hd : DecT w g top l) (hr : Rdr w gr A c bs p) (ht : top ≤ gr) (hl : l.length ≤ 288) :
    Calls Tryd.prog 81 #[.pointer (some ⟨g, 0, none⟩), .pointer (some ⟨gr, 0, none⟩)] w (Nexted w gr A c bs p (decF l bs p)) := nextN_calls w g gr l A c bs p (hd.apart ht) hr hl
end Go.Proofs.YtcblibefmclloaaDoor

/- Rows of bytes, in memory. -/
set_option linter.unusedVariables false
set_option linter.unusedSimpArgs false
namespace Go.Proofs.YtcblibefmclloaaDoor
open Go.RowKit
def rth (rs : List (List Int)) (j : Nat) : List Int := rs.getD j []
theorem rth_lt {rs : List (List Int)} {j : Nat} (h : j < rs.length) : rth rs j = rs[j] := by simp [rth, List.getD, h]
/-- A block of slices, each of bytes in memory behind it. -/
def RB (w : World) (g n : Nat) (rs : List (List Int)) : Prop :=
  rs.length = n ∧ ∃ vs : List Value, vs.length = n ∧ Blk w g 37 vs ∧ ∀ j v, vs[j]? = some v → w.ownsRow (g + 1) 5 1 v (rth rs j).length (ints .u8 (rth rs j))
theorem RB.len {w : World} {g n : Nat} {rs : List (List Int)} (h : RB w g n rs) : rs.length = n := h.1
theorem RB.lt {w : World} {g n : Nat} {rs : List (List Int)} (h : RB w g n rs) : g < w.heap.size := by
  obtain ⟨_, vs, _, h2, _⟩ := h; exact h2.lt
theorem RB.keeps {w w' : World} {g n : Nat} {rs : List (List Int)} {S : List Nat} (h : RB w g n rs) (hk : Keeps S w w') (hS : ∀ x ∈ S, x < g ∨ w.heap.size ≤ x) : RB w' g n rs := by
  obtain ⟨h0, vs, h1, h2, h3⟩ := h
  refine ⟨h0, vs, h1, h2.keeps hk (fun hm => by have := h2.lt; rcases hS g hm with h | h <;> omega), fun j v hv => own_keeps (h3 j v hv) hk fun x hx hm => ?_⟩
  have a := own_lo (h3 j v hv) x hx
  have b := own_hi (h3 j v hv) x hx
  rcases hS x hm with h | h <;> omega
theorem RB.below {w w' : World} {g n : Nat} {rs : List (List Int)} (h : RB w g n rs) (hk : Below w.heap.size w w') : RB w' g n rs := h.keeps (Keeps.of_below (S := []) hk) (by simp)
theorem RB.set {w : World} {g n : Nat} {rs : List (List Int)} (h : RB w g n rs) (i : Nat) (v : Value) (row : List Int) (ho : w.ownsRow (g + 1) 5 1 v row.length (ints .u8 row)) :
    RB (w.setCell ⟨g, i, none⟩ v) g n (rs.set i row) := by
  obtain ⟨h0, vs, h1, h2, h3⟩ := h
  have hk : Keeps [g] w (w.setCell ⟨g, i, none⟩ v) := (Keeps.refl [g] w).setCell (Or.inl (by simp)) v
  have hne : ∀ {u : Value} {m : Nat} {xs : List Value}, w.ownsRow (g + 1) 5 1 u m xs → ∀ x, u.ownBlock = some x → x ∉ [g] := fun ho x hx hm => by
    have := own_lo ho x hx; rw [List.mem_singleton.1 hm] at this; omega
  refine ⟨by simp [h0], vs.set i v, by simp [h1], h2.set i v, fun j u hu => ?_⟩
  rw [List.getElem?_set] at hu
  by_cases e : i = j
  · subst e
    by_cases hj : i < vs.length
    · rw [if_pos rfl, if_pos hj] at hu
      obtain rfl := Option.some.inj hu
      have : rth (rs.set i row) i = row := by simp [rth, List.getD, show i < rs.length by omega]
      rw [this]
      exact own_keeps ho hk (hne ho)
    · rw [if_pos rfl, if_neg hj] at hu; simp at hu
  · rw [if_neg e] at hu
    have : rth (rs.set i row) j = rth rs j := by simp [rth, List.getD, e]
    rw [this]
    exact own_keeps (h3 j u hu) hk (hne (h3 j u hu))
theorem RB.new (w : World) (n : Nat) : RB (w.alloc (.cells (List.replicate n (Value.slice none 0 0)).toArray 37 (0, 0))) w.heap.size n (List.replicate n []) := by
  refine ⟨by simp, _, by simp, blk_new w _ _, fun j v hv => ?_⟩
  have hj : j < n := by
    have := (List.getElem?_eq_some_iff.1 hv).1; simpa using this
  have e : v = .slice none 0 0 := by
    rw [List.getElem?_eq_getElem (by simpa using hj)] at hv; simpa using hv.symm
  have e2 : rth (List.replicate n []) j = [] := by simp [rth, List.getD, hj]
  rw [e, e2]
  exact World.ownsRow_nil _ _ _ _
theorem RB.at {w : World} {g n : Nat} {rs : List (List Int)} (h : RB w g n rs) {j : Nat} (hj : j < n) :
    ∃ A c, w.cell? ⟨g, j, none⟩ = some (.slice A (rth rs j).length c) ∧ RI .u8 w A (rth rs j).length (rth rs j) ∧ (∀ a, A = some a → g + 1 ≤ a.block ∧ a.block < w.heap.size) := by
  obtain ⟨h0, vs, h1, h2, h3⟩ := h
  obtain ⟨A, c, e, hr, _, ha⟩ := own_ri (h3 j _ (List.getElem?_eq_getElem (by omega)))
  refine ⟨A, c, ?_, hr, fun a h => ⟨(ha a h).1, (ha a h).2.1⟩⟩
  rw [h2.cell, List.getElem?_eq_getElem (by omega), e]
theorem RB.free {w : World} {g n : Nat} {rs : List (List Int)} (h : RB w g n rs) (j : Nat) : w.frozen? ⟨g, j, none⟩ = false := by
  obtain ⟨_, vs, _, h2, _⟩ := h; exact h2.frozen j
theorem info_row : (Tryd.prog.info? 37).map (fun i => (i.zero, i.size, i.bytes)) = some (some (.slice none 0 0), 1, 24) := by kernel_rfl
set_option maxRecDepth 100000 in
/-- 'make([][]byte, n)'. -/
theorem make_rows (w : World) (n : Nat) (hn : n ≤ 1000000) :
    (Instr.makeSlice 89 (.int .i64 n) (.int .i64 n)).run Tryd.prog w = .ok (.slice (some ⟨w.heap.size, 0, none⟩) n n) (w.alloc (.cells (List.replicate n (Value.slice none 0 0)).toArray 37)) := by
  obtain ⟨i, hi, hz, hs, hb⟩ := info_parts info_row
  have e1 : (i.bytes : Int) * (n : Int) ≤ 281474976710656 := by rw [hb]; omega
  rw [run_make w 89 37 i _ Tryd.underlying89 hi hz .i64 .i64 n n (by omega) (Int.le_refl _) e1 (by omega)]
  simp only [Int.toNat_natCast]
  congr 4
  rw [hs, Nat.mul_one]
  apply Array.toList_inj.1
  show (madeCells #[.slice none 0 0] n).toList = _
  rw [toList_madeCells_one]
end Go.Proofs.YtcblibefmclloaaDoor

set_option linter.unusedVariables false
set_option linter.unusedSimpArgs false
/-! Plain mathematics: the reference's reading of a symbol, and that the decoder's is the same. -/
namespace Go.Proofs.YtcblibefmclloaaDoor
/-- How many bits of a row are those from a place on. -/
def agr (row bits : List Int) (p : Nat) : Nat → Nat → Nat
  | 0, n => n
  | f + 1, n => if n < row.length ∧ p + n < bits.length ∧ nth row n = nth bits (p + n) then agr row bits p f (n + 1) else n
def agrN (row bits : List Int) (p : Nat) : Nat := agr row bits p row.length 0
/-- The reference's reading: symbol, bits, what is wrong. -/
def nextG (rows : List (List Int)) (bits : List Int) (p : Nat) : Nat → Nat → Bool → Int × Nat × Int
  | 0, _, b => (0, 0, if b then 10 else 32)
  | f + 1, i, b => if (rth rows i).length = 0 then nextG rows bits p f (i + 1) b else
      if agrN (rth rows i) bits p = (rth rows i).length then (i, (rth rows i).length, 0)
      else nextG rows bits p f (i + 1) (b || decide (p + agrN (rth rows i) bits p = bits.length))
def nextR (rows : List (List Int)) (bits : List Int) (p : Nat) : Int × Nat × Int := nextG rows bits p rows.length 0 false
theorem agr_spec (row bits : List Int) (p : Nat) : ∀ f n, n + f = row.length → n ≤ agr row bits p f n ∧ agr row bits p f n ≤ row.length ∧ (∀ t, n ≤ t → t < agr row bits p f n → p + t < bits.length ∧ nth row t = nth bits (p + t)) ∧
    (agr row bits p f n = row.length ∨ bits.length ≤ p + agr row bits p f n ∨ nth row (agr row bits p f n) ≠ nth bits (p + agr row bits p f n))
  | 0, n, h => by
    unfold agr
    exact ⟨Nat.le_refl _, by omega, fun t h1 h2 => by omega, .inl (by omega)⟩
  | f + 1, n, h => by
    unfold agr
    split
    · next hc =>
      obtain ⟨h1, h2, h3, h4⟩ := agr_spec row bits p f (n + 1) (by omega)
      refine ⟨by omega, h2, fun t ht1 ht2 => ?_, h4⟩
      by_cases ht : t = n
      · subst ht; exact ⟨hc.2.1, hc.2.2⟩
      · exact h3 t (by omega) ht2
    · next hc =>
      refine ⟨Nat.le_refl _, by omega, fun t h1 h2 => by omega, ?_⟩
      by_cases h1 : bits.length ≤ p + n
      · exact .inr (.inl h1)
      · refine .inr (.inr fun h2 => hc ⟨by omega, by omega, h2⟩)
theorem agrN_spec (row bits : List Int) (p : Nat) : agrN row bits p ≤ row.length ∧ (∀ t, t < agrN row bits p → p + t < bits.length ∧ nth row t = nth bits (p + t)) ∧
    (agrN row bits p = row.length ∨ bits.length ≤ p + agrN row bits p ∨ nth row (agrN row bits p) ≠ nth bits (p + agrN row bits p)) := by
  obtain ⟨_, h2, h3, h4⟩ := agr_spec row bits p row.length 0 (by omega)
  exact ⟨h2, fun t ht => h3 t (by omega) ht, h4⟩
theorem agrN_full {row bits : List Int} {p : Nat} (h : ∀ t, t < row.length → p + t < bits.length ∧ nth row t = nth bits (p + t)) : agrN row bits p = row.length := by
  obtain ⟨h1, _, h3⟩ := agrN_spec row bits p
  rcases Nat.lt_or_ge (agrN row bits p) row.length with hlt | hge
  · obtain ⟨a, b⟩ := h _ hlt
    rcases h3 with h3 | h3 | h3
    · omega
    · omega
    · exact absurd b h3
  · omega
theorem nextG_hit (rows : List (List Int)) (bits : List Int) (p j : Nat) (hj : 0 < (rth rows j).length) (ha : agrN (rth rows j) bits p = (rth rows j).length) :
    ∀ f i b, i ≤ j → j < i + f → (∀ t, t < j → 0 < (rth rows t).length → agrN (rth rows t) bits p ≠ (rth rows t).length) → nextG rows bits p f i b = ((j : Int), (rth rows j).length, 0)
  | 0, i, b, h1, h2, _ => by omega
  | f + 1, i, b, h1, h2, h3 => by
    rw [nextG]
    by_cases hi : i = j
    · subst hi
      rw [if_neg (by omega), if_pos ha]
    · by_cases hz : (rth rows i).length = 0
      · rw [if_pos hz]; exact nextG_hit rows bits p j hj ha f (i + 1) b (by omega) (by omega) h3
      · rw [if_neg hz, if_neg (h3 i (by omega) (by omega))]
        exact nextG_hit rows bits p j hj ha f (i + 1) _ (by omega) (by omega) h3
theorem nextG_begins (rows : List (List Int)) (bits : List Int) (p : Nat) :
    ∀ f i b, (∀ t, i ≤ t → t < i + f → 0 < (rth rows t).length → agrN (rth rows t) bits p ≠ (rth rows t).length) → (b = true ∨ ∃ j, i ≤ j ∧ j < i + f ∧ 0 < (rth rows j).length ∧ p + agrN (rth rows j) bits p = bits.length) → nextG rows bits p f i b = (0, 0, 10)
  | 0, i, b, h1, h2 => by
    rcases h2 with rfl | ⟨j, a, b, _⟩
    · rfl
    · omega
  | f + 1, i, b, h1, h2 => by
    rw [nextG]
    by_cases hz : (rth rows i).length = 0
    · rw [if_pos hz]
      refine nextG_begins rows bits p f (i + 1) b (fun t a b => h1 t (by omega) (by omega)) ?_
      rcases h2 with rfl | ⟨j, a, b, c, d⟩
      · exact .inl rfl
      · refine .inr ⟨j, ?_, by omega, c, d⟩
        rcases Nat.lt_or_ge i j with h | h
        · omega
        · obtain rfl : i = j := by omega
          omega
    · rw [if_neg hz, if_neg (h1 i (by omega) (by omega) (by omega))]
      refine nextG_begins rows bits p f (i + 1) _ (fun t a b => h1 t (by omega) (by omega)) ?_
      rcases h2 with rfl | ⟨j, a, b, c, d⟩
      · exact .inl rfl
      · rcases Nat.lt_or_ge i j with h | h
        · exact .inr ⟨j, by omega, by omega, c, d⟩
        · obtain rfl : i = j := by omega
          exact .inl (by simp [d])
theorem nextG_none (rows : List (List Int)) (bits : List Int) (p : Nat) :
    ∀ f i, (∀ t, i ≤ t → t < i + f → 0 < (rth rows t).length → agrN (rth rows t) bits p ≠ (rth rows t).length ∧ p + agrN (rth rows t) bits p ≠ bits.length) → nextG rows bits p f i false = (0, 0, 32)
  | 0, i, h1 => rfl
  | f + 1, i, h1 => by
    rw [nextG]
    by_cases hz : (rth rows i).length = 0
    · rw [if_pos hz]
      exact nextG_none rows bits p f (i + 1) (fun t a b => h1 t (by omega) (by omega))
    · obtain ⟨a, b⟩ := h1 i (by omega) (by omega) (by omega)
      rw [if_neg hz, if_neg a, decide_eq_false b]
      exact nextG_none rows bits p f (i + 1) (fun t a b => h1 t (by omega) (by omega))
/-! Places of codes. -/
theorem posF_le (l : List Int) (n : Nat) (hn : n < 16) (h1 : 1 ≤ n) (i : Nat) : ∀ d, i + d ≤ l.length → posF l n i ≤ posF l n (i + d)
  | 0, _ => Int.le_refl _
  | d + 1, h => by
    have := posF_le l n hn h1 i d (by omega)
    by_cases hx : nth l (i + d) = n
    · have := posF_step l n (i + d) hn h1 (by omega) hx
      rw [← Nat.add_assoc]; omega
    · have := posF_skip l n (i + d) hn (by omega) hx
      rw [← Nat.add_assoc]; omega
theorem codeI_bd (l : List Int) (n j : Nat) (hn : n < 16) (h1 : 1 ≤ n) (hj : j < l.length) (h : nth l j = n) : lowF (lenCnt l) n ≤ codeI l j ∧ codeI l j < lowF (lenCnt l) n + nth (lenCnt l) n := by
  rw [posF_code l n j h]
  have a := posF_step l n j hn h1 hj h
  have b := posF_le l n hn h1 (j + 1) (l.length - (j + 1)) (by omega)
  rw [show j + 1 + (l.length - (j + 1)) = l.length by omega] at b
  have c : posF l n l.length = lowF (lenCnt l) n + nth (lenCnt l) n := by
    unfold posF; rw [List.take_length]
  have d := cntN_nn l n j hn
  unfold cntN at d
  refine ⟨?_, by omega⟩
  unfold posF; omega
theorem codeI_ne (l : List Int) (n i j : Nat) (hn : n < 16) (h1 : 1 ≤ n) (hij : i < j) (hj : j < l.length) (hi : nth l i = n) (hj' : nth l j = n) : codeI l i < codeI l j := by
  rw [posF_code l n i hi, posF_code l n j hj']
  have a := posF_step l n i hn h1 (by omega) hi
  have b := posF_le l n hn h1 (i + 1) (j - (i + 1)) (by omega)
  rw [show i + 1 + (j - (i + 1)) = j by omega] at b
  omega
/-! How much of all codes is taken. -/
def partN (n : Nat) (x : Int) : Nat := if 0 < x ∧ x ≤ n then 2 ^ (15 - x).toNat else 0
def takenN (l : List Int) (n : Nat) : Nat := (l.map (partN n)).sum
theorem lenCnt_cons (x : Int) (l : List Int) (n : Nat) (hn : n < 16) : nth (lenCnt (x :: l)) n = nth (lenCnt l) n + if 0 < x ∧ x = (n : Int) then 1 else 0 := by
  unfold lenCnt
  rw [cntF_nth _ _ _ hn, cntF_nth _ _ _ hn]
  by_cases h0 : 0 < x
  · rw [List.filter_cons_of_pos (by simpa using h0), List.count_cons]
    by_cases hx : x = n
    · rw [if_pos (c := 0 < x ∧ x = n) ⟨h0, hx⟩, show (x == (n : Int)) = true by simpa using hx]; simp
    · rw [if_neg (c := 0 < x ∧ x = n) (fun h => hx h.2), show (x == (n : Int)) = false by simpa using hx]; simp
  · rw [List.filter_cons_of_neg (by simpa using h0), if_neg (c := 0 < x ∧ x = n) (fun h => h0 h.1)]; simp
theorem lenCnt_zero (l : List Int) : nth (lenCnt l) 0 = 0 := by
  induction l with
  | nil => unfold lenCnt; rw [cntF_nth _ _ _ (by omega)]; simp
  | cons x l ih =>
    rw [lenCnt_cons x l 0 (by omega), ih, if_neg (by omega)]; rfl
theorem takenN_zero (l : List Int) : takenN l 0 = 0 := by
  induction l with
  | nil => rfl
  | cons x l ih =>
    unfold takenN at *
    rw [List.map_cons, List.sum_cons, ih]; unfold partN; rw [if_neg (by omega)]
theorem takenN_succ (l : List Int) (n : Nat) (hn : n < 15) : (takenN l (n + 1) : Int) = takenN l n + nth (lenCnt l) (n + 1) * 2 ^ (15 - (n + 1)) := by
  induction l with
  | nil => unfold lenCnt; rw [cntF_nth _ _ _ (by omega)]; simp [takenN]
  | cons x l ih =>
    rw [lenCnt_cons x l (n + 1) (by omega)]
    have e : ∀ m, takenN (x :: l) m = partN m x + takenN l m := fun m => by unfold takenN; rw [List.map_cons, List.sum_cons]
    rw [e, e]
    push_cast
    rw [ih, Int.add_mul]
    have : (partN (n + 1) x : Int) = partN n x + (if 0 < x ∧ x = (n : Int) + 1 then 1 else 0) * 2 ^ (15 - (n + 1)) := by
      unfold partN
      by_cases hx : x = (n : Int) + 1
      · rw [if_pos (by omega), if_neg (by omega), if_pos (by omega), hx, show ((15 : Int) - ((n : Int) + 1)).toNat = 15 - (n + 1) by omega]; simp
      · rw [if_neg (c := 0 < x ∧ x = (n : Int) + 1) (fun h => hx h.2), Int.zero_mul, Int.add_zero]
        by_cases h2 : 0 < x ∧ x ≤ n
        · rw [if_pos h2, if_pos (by omega)]
        · rw [if_neg h2, if_neg (by push_cast; omega)]
    rw [this, show 15 - (n + 1) = 14 - n by omega]
    omega
theorem taken_low (l : List Int) : ∀ n, n ≤ 15 → (takenN l n : Int) = (lowF (lenCnt l) n + nth (lenCnt l) n) * 2 ^ (15 - n)
  | 0, _ => by rw [takenN_zero, lenCnt_zero]; simp [lowF]
  | n + 1, h => by
    have key : ∀ a b c K : Int, (a + b) * (K * 2) + c * K = (2 * (a + b) + c) * K := fun a b c K => by
      rw [Int.add_mul (2 * (a + b)), Int.mul_comm K 2, ← Int.mul_assoc, Int.mul_comm (a + b) 2]
    rw [takenN_succ l n (by omega), taken_low l n (by omega), lowF, show 15 - n = (15 - (n + 1)) + 1 by omega, Int.pow_succ]
    exact key _ _ _ _
theorem taken_mono (l : List Int) (n : Nat) : takenN l n ≤ takenN l (n + 1) := by
  induction l with
  | nil => exact Nat.le_refl _
  | cons x l ih =>
    unfold takenN at *
    rw [List.map_cons, List.sum_cons, List.map_cons, List.sum_cons]
    have : partN n x ≤ partN (n + 1) x := by
      unfold partN
      by_cases h : 0 < x ∧ x ≤ n
      · rw [if_pos h, if_pos (by push_cast; omega)]; exact Nat.le_refl _
      · rw [if_neg h]; exact Nat.zero_le _
    omega
theorem taken_mono' (l : List Int) (n : Nat) : ∀ d, takenN l n ≤ takenN l (n + d)
  | 0 => Nat.le_refl _
  | d + 1 => Nat.le_trans (taken_mono' l n d) (taken_mono l (n + d))
theorem taken_all (l : List Int) (h : l.all okLen = true) : takenN l 15 = measF l := by
  induction l with
  | nil => rfl
  | cons x l ih =>
    rw [List.all_cons, Bool.and_eq_true] at h
    have := ih h.2
    unfold takenN measF at *
    rw [List.map_cons, List.sum_cons, List.map_cons, List.sum_cons, this]
    congr 1
    have hx := h.1
    unfold okLen at hx
    simp only [Bool.and_eq_true, decide_eq_true_eq] at hx
    unfold partN part
    by_cases h0 : 0 < x
    · rw [if_pos ⟨h0, by push_cast; omega⟩, if_pos h0]
    · rw [if_neg (fun h => h0 h.1), if_neg h0]
theorem taken_top (l : List Int) : ∀ d, longN l 16 + d ≤ 15 → takenN l (longN l 16 + d) = takenN l (longN l 16)
  | 0, _ => rfl
  | d + 1, h => by
    have ih := taken_top l d (by omega)
    have a := takenN_succ l (longN l 16 + d) (by omega)
    have b := longN_top l 16 (longN l 16 + d + 1) (by omega) (by omega)
    have c := lenCnt_bd l (longN l 16 + d + 1) (by omega)
    have e : nth (lenCnt l) (longN l 16 + d + 1) = 0 := by omega
    rw [e, Int.zero_mul, Int.add_zero, ih] at a
    rw [← Nat.add_assoc]; omega
/-- No more codes than may be. -/
theorem kraft_le {l : List Int} (hc : checkF l = 0) (n : Nat) (hn : n ≤ 15) : lowF (lenCnt l) n + nth (lenCnt l) n ≤ 2 ^ n := by
  have hm : measF l ≤ 32768 := by
    unfold checkF at hc
    repeat' split at hc
    all_goals first | omega | (exfalso; revert hc; decide) | skip
  have h1 := taken_low l n hn
  have h2 := taken_mono' l n (15 - n)
  rw [show n + (15 - n) = 15 by omega, taken_all l (check_ok hc).2] at h2
  have h3 : (takenN l n : Int) ≤ 2 ^ n * 2 ^ (15 - n) := by
    rw [← Int.pow_add, show n + (15 - n) = 15 by omega]; omega
  rw [h1] at h3
  exact Int.le_of_mul_le_mul_right h3 (pow_cast _)
end Go.Proofs.YtcblibefmclloaaDoor

set_option linter.unusedVariables false
set_option linter.unusedSimpArgs false
/-! Plain mathematics: a decoder reads what the document says. -/
namespace Go.Proofs.YtcblibefmclloaaDoor
/-- The number of the next bits, the first bit highest. -/
def xv (bs : List Int) (p : Nat) : Nat → Int
  | 0 => 0
  | n + 1 => 2 * xv bs p n + bitAt bs (p + n)
theorem xv_bd (bs : List Int) (p : Nat) : ∀ n, 0 ≤ xv bs p n ∧ xv bs p n < 2 ^ n
  | 0 => by simp [xv]
  | n + 1 => by
    have := xv_bd bs p n
    have := bitAt_le bs (p + n)
    rw [xv, Int.pow_succ]; omega
theorem div_half (c : Int) (m k : Nat) (h : k < m) : c / 2 ^ (m - k) = c / 2 ^ (m - (k + 1)) / 2 := by
  rw [show m - k = (m - (k + 1)) + 1 by omega, Int.pow_succ, Int.mul_comm, Int.ediv_ediv_of_nonneg (by have := pow_cast (m - (k + 1)); omega), Int.mul_comm]
theorem pre_iff (c : Int) (m : Nat) (h0 : 0 ≤ c) (hc : c < 2 ^ m) (bs : List Int) (p : Nat) : ∀ k, k ≤ m → ((∀ t, t < k → nth (msbF c m) t = bitAt bs (p + t)) ↔ c / 2 ^ (m - k) = xv bs p k)
  | 0, _ => by
    rw [Nat.sub_zero, Int.ediv_eq_zero_of_lt h0 hc]
    exact ⟨fun _ => rfl, fun _ t ht => by omega⟩
  | k + 1, h => by
    have ih := pre_iff c m h0 hc bs p k (by omega)
    have e := div_half c m k (by omega)
    have en := msbF_nth c m k (by omega)
    rw [show m - 1 - k = m - (k + 1) by omega] at en
    have hb := bitAt_le bs (p + k)
    rw [xv]
    constructor
    · intro hall
      have h1 := ih.1 (fun t ht => hall t (by omega))
      have h2 := hall k (by omega)
      rw [en] at h2
      rw [e] at h1
      omega
    · intro hd t ht
      by_cases hk : t = k
      · subst hk; rw [en]; omega
      · exact ih.2 (by rw [e]; omega) t (by omega)
theorem rows_rth (l : List Int) (j m : Nat) (hj : j < l.length) (h1 : 1 ≤ m) (h : nth l j = m) : rth (rowsF l) j = msbF (codeI l j) m := by
  rw [rth_lt (by rw [rowsF_len]; exact hj)]
  simp only [rowsF, List.getElem_map, List.getElem_range]
  rw [if_pos (by omega), h]; rfl
theorem rows_none (l : List Int) (j : Nat) (hj : j < l.length) (h : ¬ 0 < nth l j) : rth (rowsF l) j = [] := by
  rw [rth_lt (by rw [rowsF_len]; exact hj)]
  simp only [rowsF, List.getElem_map, List.getElem_range]
  rw [if_neg h]
theorem row_len {l : List Int} (hok : l.all okLen = true) (j : Nat) (hj : j < l.length) (h : 0 < (rth (rowsF l) j).length) : ∃ m : Nat, 1 ≤ m ∧ m ≤ 15 ∧ nth l j = m ∧ rth (rowsF l) j = msbF (codeI l j) m := by
  by_cases h0 : 0 < nth l j
  · have hx := List.all_eq_true.1 hok (nth l j) (by rw [nth_lt hj]; exact List.getElem_mem _)
    unfold okLen at hx
    simp only [Bool.and_eq_true, decide_eq_true_eq] at hx
    obtain ⟨m, hm⟩ := Int.eq_ofNat_of_zero_le hx.1
    exact ⟨m, by omega, by omega, hm, rows_rth l j m hj (by omega) hm⟩
  · rw [rows_none l j hj h0] at h; simp at h
/-- A row stands there just if the number of so many bits is its code. -/
theorem full_iff {l : List Int} (hc : checkF l = 0) (bs : List Int) (p T : Nat) (j m : Nat) (hj : j < l.length) (h1 : 1 ≤ m) (h15 : m ≤ 15) (h : nth l j = m) :
    agrN (rth (rowsF l) j) (bitsP bs T) p = (rth (rowsF l) j).length ↔ p + m ≤ T ∧ xv bs p m = codeI l j := by
  have hb := codeI_bd l m j (by omega) h1 hj h
  have hk := kraft_le hc m h15
  have hl0 := (lowF_small l (check_ok hc).1 m (by omega)).1
  rw [rows_rth l j m hj h1 h]
  have hp := pre_iff (codeI l j) m (by omega) (by omega) bs p m (Nat.le_refl _)
  rw [Nat.sub_self, Int.pow_zero, Int.ediv_one] at hp
  rw [msbF_len]
  constructor
  · intro ha
    obtain ⟨_, h2, _⟩ := agrN_spec (msbF (codeI l j) m) (bitsP bs T) p
    rw [ha] at h2
    have hT : p + m ≤ T := by
      have := (h2 (m - 1) (by omega)).1
      rw [bitsP_len] at this; omega
    refine ⟨hT, (hp.1 fun t ht => ?_).symm⟩
    rw [(h2 t ht).2, bitsP_nth _ _ _ (by omega)]
  · intro ⟨hT, hx⟩
    have := hp.2 hx.symm
    have := agrN_full (row := msbF (codeI l j) m) (bits := bitsP bs T) (p := p) (fun t ht => by
      rw [msbF_len] at ht
      rw [bitsP_len, bitsP_nth _ _ _ (by omega)]
      exact ⟨by omega, this t ht⟩)
    rw [this, msbF_len]
/-! A code that may be is complete, or has one symbol. -/
theorem used_none (l : List Int) (h : usedF l = 0) : measF l = 0 := by
  induction l with
  | nil => rfl
  | cons x l ih =>
    unfold usedF at h
    by_cases hx : 0 < x
    · rw [List.filter_cons_of_pos (by simpa using hx)] at h; simp at h
    · rw [List.filter_cons_of_neg (by simpa using hx)] at h
      have := ih h
      unfold measF at *
      rw [List.map_cons, List.sum_cons, this, part_zero x hx]
theorem used_one (l : List Int) (hok : l.all okLen = true) (h : usedF l = 1) (hm : measF l = 16384) : 1 ≤ nth (lenCnt l) 1 := by
  induction l with
  | nil => simp [usedF] at h
  | cons x l ih =>
    rw [List.all_cons, Bool.and_eq_true] at hok
    rw [lenCnt_cons x l 1 (by omega)]
    have hn := (lenCnt_bd l 1 (by omega)).1
    have hms : measF (x :: l) = part x + measF l := by unfold measF; rw [List.map_cons, List.sum_cons]
    rw [hms] at hm
    unfold usedF at h
    by_cases hx : 0 < x
    · rw [List.filter_cons_of_pos (by simpa using hx), List.length_cons] at h
      have := used_none l (by unfold usedF; omega)
      have hx1 : x = 1 := by
        have h15 := hok.1
        unfold okLen at h15
        simp only [Bool.and_eq_true, decide_eq_true_eq] at h15
        have hp : part x = 2 ^ 14 := by rw [this] at hm; omega
        unfold part at hp
        rw [if_pos hx] at hp
        have := (Nat.pow_right_inj (by decide)).1 hp
        omega
      rw [if_pos ⟨hx, by simpa using hx1⟩]; omega
    · rw [List.filter_cons_of_neg (by simpa using hx)] at h
      rw [part_zero x hx, Nat.zero_add] at hm
      have := ih hok.2 h hm
      split <;> omega
theorem longN_15 (l : List Int) : longN l 16 ≤ 15 := by have := longN_le l 16; omega
theorem code_full {l : List Int} (hc : checkF l = 0) : lowF (lenCnt l) (longN l 16) + nth (lenCnt l) (longN l 16) = 2 ^ longN l 16 ∨ (1 ≤ nth (lenCnt l) 1 ∧ longN l 16 ≤ 1) := by
  have hL := longN_15 l
  have hok := (check_ok hc).2
  have ht := taken_top l (15 - longN l 16) (by omega)
  rw [show longN l 16 + (15 - longN l 16) = 15 by omega, taken_all l hok] at ht
  have hlo := taken_low l (longN l 16) hL
  have hm : measF l = 32768 ∨ (usedF l = 1 ∧ measF l = 16384) := by
    unfold checkF at hc
    repeat' split at hc
    all_goals first | (left; assumption) | (right; assumption) | (exfalso; revert hc; decide)
  rcases hm with hm | ⟨hu, hm⟩
  · left
    rw [← ht, hm] at hlo
    have e : ((32768 : Nat) : Int) = 2 ^ longN l 16 * 2 ^ (15 - longN l 16) := by rw [← Int.pow_add, show longN l 16 + (15 - longN l 16) = 15 by omega]; rfl
    rw [e] at hlo
    exact (Int.eq_of_mul_eq_mul_right (Int.ne_of_gt (pow_cast _)) hlo).symm
  · right
    have h1 := used_one l hok hu hm
    refine ⟨h1, ?_⟩
    rcases Nat.lt_or_ge 1 (longN l 16) with h2 | h2
    · exfalso
      have a := taken_low l 1 (by omega)
      have b := taken_mono' l 1 (longN l 16 - 1 - 1)
      have c := takenN_succ l (longN l 16 - 1) (by omega)
      rw [show longN l 16 - 1 + 1 = longN l 16 by omega] at c
      rw [show 1 + (longN l 16 - 1 - 1) = longN l 16 - 1 by omega] at b
      have d : 0 < nth (lenCnt l) (longN l 16) := (longN_has l 16).resolve_left (by omega)
      have e : 0 < nth (lenCnt l) (longN l 16) * 2 ^ (15 - longN l 16) := Int.mul_pos d (pow_cast _)
      simp only [lowF, lenCnt_zero] at a
      omega
    · exact h2
/-- Bits that end within no code begin one. -/
theorem some_begins {l : List Int} (hc : checkF l = 0) (bs : List Int) (p n : Nat) (hn : n < longN l 16) (hx : lowF (lenCnt l) n + nth (lenCnt l) n ≤ xv bs p n) :
    ∃ j m : Nat, j < l.length ∧ n < m ∧ m ≤ 15 ∧ nth l j = m ∧ codeI l j = xv bs p n * 2 ^ (m - n) := by
  have hL := longN_15 l
  rcases code_full hc with hf | ⟨h1, h2⟩
  · have key : ∀ d, n + d ≤ longN l 16 → (∃ j m : Nat, j < l.length ∧ n < m ∧ m ≤ 15 ∧ nth l j = m ∧ codeI l j = xv bs p n * 2 ^ (m - n)) ∨ lowF (lenCnt l) (n + d) + nth (lenCnt l) (n + d) ≤ xv bs p n * 2 ^ d := by
      intro d
      induction d with
      | zero => intro _; right; rw [Int.pow_zero, Int.mul_one]; exact hx
      | succ d ih =>
        intro hd
        rcases ih (by omega) with h | h
        · exact .inl h
        · by_cases hlt : xv bs p n * 2 ^ (d + 1) < lowF (lenCnt l) (n + (d + 1)) + nth (lenCnt l) (n + (d + 1))
          · left
            have e : xv bs p n * 2 ^ (d + 1) = 2 * (xv bs p n * 2 ^ d) := by rw [Int.pow_succ, ← Int.mul_assoc, Int.mul_comm]
            have hlo : lowF (lenCnt l) (n + (d + 1)) ≤ xv bs p n * 2 ^ (d + 1) := by
              rw [e, ← Nat.add_assoc, lowF]; omega
            obtain ⟨k, hk⟩ := Int.eq_ofNat_of_zero_le (Int.sub_nonneg.2 hlo)
            obtain ⟨_, j, a, b, c, f⟩ := symsB_at l (n + (d + 1)) (by omega) (by omega) k (by omega)
            refine ⟨j, n + (d + 1), a, by omega, by omega, c, ?_⟩
            rw [f, show n + (d + 1) - n = d + 1 by omega]; omega
          · exact .inr (by omega)
    rcases key (longN l 16 - n) (by omega) with h | h
    · exact h
    · exfalso
      rw [show n + (longN l 16 - n) = longN l 16 by omega, hf] at h
      have := Int.mul_lt_mul_of_pos_right (xv_bd bs p n).2 (pow_cast (longN l 16 - n))
      rw [← Int.pow_add, show n + (longN l 16 - n) = longN l 16 by omega] at this
      omega
  · obtain rfl : n = 0 := by omega
    obtain ⟨_, j, a, b, c, f⟩ := symsB_at l 1 (by omega) (by omega) 0 (by omega)
    refine ⟨j, 1, a, by omega, by omega, c, ?_⟩
    rw [f]; simp [xv, lowF, lenCnt_zero]
/-- What the decoder reads, said by its codes. -/
theorem dec_spec (l bs : List Int) (p : Nat) : ∀ f n, n + f = longN l 16 → p + n ≤ 8 * bs.length → (∀ m, m ≤ n → lowF (lenCnt l) m + nth (lenCnt l) m ≤ xv bs p m) →
    (∃ j m : Nat, j < l.length ∧ 1 ≤ m ∧ m ≤ 15 ∧ nth l j = m ∧ codeI l j = xv bs p m ∧ p + m ≤ 8 * bs.length ∧ (∀ i, i < m → lowF (lenCnt l) i + nth (lenCnt l) i ≤ xv bs p i) ∧ decGo l bs p f n (xv bs p n) = ((j : Int), 0, m)) ∨
    (∃ k, k < longN l 16 ∧ p + k = 8 * bs.length ∧ (∀ m, m ≤ k → lowF (lenCnt l) m + nth (lenCnt l) m ≤ xv bs p m) ∧ decGo l bs p f n (xv bs p n) = (0, 10, 0)) ∨
    (p + longN l 16 ≤ 8 * bs.length ∧ (∀ m, m ≤ longN l 16 → lowF (lenCnt l) m + nth (lenCnt l) m ≤ xv bs p m) ∧ decGo l bs p f n (xv bs p n) = (0, 32, 0))
  | 0, n, hn, hp, hx => by
    obtain rfl : n = longN l 16 := by omega
    exact .inr (.inr ⟨hp, hx, rfl⟩)
  | f + 1, n, hn, hp, hx => by
    have hL := longN_15 l
    rw [decGo]
    by_cases he : p + n + 1 ≤ 8 * bs.length
    · rw [if_pos he]
      have hlo : lowF (lenCnt l) (n + 1) ≤ xv bs p (n + 1) := by
        have := hx n (Nat.le_refl _)
        have := bitAt_le bs (p + n)
        rw [xv, lowF]; omega
      rw [show 2 * xv bs p n + bitAt bs (p + n) = xv bs p (n + 1) from rfl]
      by_cases hk : xv bs p (n + 1) - lowF (lenCnt l) (n + 1) < nth (lenCnt l) (n + 1)
      · rw [if_pos ⟨by omega, hk⟩]
        left
        obtain ⟨k, hk'⟩ := Int.eq_ofNat_of_zero_le (Int.sub_nonneg.2 hlo)
        rw [hk'] at hk ⊢
        obtain ⟨_, j, a, b, c, d⟩ := symsB_at l (n + 1) (by omega) (by omega) k hk
        refine ⟨j, n + 1, a, by omega, by omega, c, by rw [d]; omega, by omega, fun i hi => hx i (by omega), ?_⟩
        rw [Int.toNat_natCast, b]
      · rw [if_neg (fun h => hk h.2)]
        refine dec_spec l bs p f (n + 1) (by omega) (by omega) (fun m hm => ?_)
        by_cases hmn : m ≤ n
        · exact hx m hmn
        · obtain rfl : m = n + 1 := by omega
          omega
    · rw [if_neg he]
      exact .inr (.inl ⟨n, by omega, by omega, hx, rfl⟩)
/-- What stands behind a code that is read is no code. -/
theorem above (l bs : List Int) (p m : Nat) (h : xv bs p m < lowF (lenCnt l) m + nth (lenCnt l) m) : ∀ d, xv bs p (m + (d + 1)) < lowF (lenCnt l) (m + (d + 1))
  | 0 => by
    have := bitAt_le bs (p + m)
    rw [xv, lowF]; omega
  | d + 1 => by
    have ih := above l bs p m h d
    by_cases hq : 0 ≤ nth (lenCnt l) (m + (d + 1))
    · have := bitAt_le bs (p + (m + (d + 1)))
      rw [← Nat.add_assoc m, xv, lowF]; omega
    · exfalso
      apply hq
      by_cases h16 : m + (d + 1) < 16
      · exact (lenCnt_bd l _ h16).1
      · have : (lenCnt l)[m + (d + 1)]? = none := List.getElem?_eq_none (by rw [lenCnt_len]; omega)
        simp [nth, List.getD, this]
theorem next_same {l : List Int} (hc : checkF l = 0) (bs : List Int) (p : Nat) (hp : p ≤ 8 * bs.length) :
    nextR (rowsF l) (bitsP bs (8 * bs.length)) p = ((decF l bs p).1, (decF l bs p).2.2, (decF l bs p).2.1) := by
  have hok := (check_ok hc).2
  have hno : ∀ k, (∀ m, m ≤ k → lowF (lenCnt l) m + nth (lenCnt l) m ≤ xv bs p m) → ∀ t m : Nat, t < l.length → m ≤ k → 1 ≤ m → nth l t = m → m ≤ 15 → xv bs p m ≠ codeI l t := fun k hk t m ht hm h1 hx h15 he => by
    have := codeI_bd l m t (by omega) h1 ht hx
    have := hk m hm
    omega
  have hs := dec_spec l bs p (longN l 16) 0 (by omega) (by omega) (fun m hm => by
    obtain rfl : m = 0 := by omega
    simp [xv, lowF, lenCnt_zero])
  rw [show decGo l bs p (longN l 16) 0 (xv bs p 0) = decF l bs p from rfl] at hs
  rcases hs with ⟨j, m, hj, h1, h15, hjm, hcode, hend, hpre, hr⟩ | ⟨k, hk, hend, hpre, hr⟩ | ⟨hend, hpre, hr⟩
  · rw [hr]
    have hrow := rows_rth l j m hj h1 hjm
    have hb := codeI_bd l m j (by omega) h1 hj hjm
    have := nextG_hit (rowsF l) (bitsP bs (8 * bs.length)) p j (by rw [hrow, msbF_len]; omega) ((full_iff hc bs p _ j m hj h1 h15 hjm).2 ⟨hend, hcode.symm⟩) (rowsF l).length 0 false (by omega) (by rw [rowsF_len]; omega) (fun t ht h0 ha => by
      obtain ⟨mt, a, b, c, _⟩ := row_len hok t (by omega) h0
      obtain ⟨_, hx⟩ := (full_iff hc bs p _ t mt (by omega) a b c).1 ha
      have hbt := codeI_bd l mt t (by omega) a (by omega) c
      rcases Nat.lt_trichotomy mt m with h | h | h
      · have := hpre mt h; omega
      · subst h
        have := codeI_ne l mt t j (by omega) a ht hj c hjm
        omega
      · have := above l bs p m (by omega) (mt - m - 1)
        rw [show m + (mt - m - 1 + 1) = mt by omega] at this
        omega)
    unfold nextR
    rw [this, hrow, msbF_len]
  · rw [hr]
    have hL := longN_15 l
    unfold nextR
    refine nextG_begins _ _ _ _ _ _ (fun t _ ht h0 ha => ?_) (.inr ?_)
    · rw [rowsF_len, Nat.zero_add] at ht
      obtain ⟨mt, a, b, c, _⟩ := row_len hok t ht h0
      obtain ⟨h2, hx⟩ := (full_iff hc bs p _ t mt ht a b c).1 ha
      exact hno k hpre t mt ht (by omega) a c b hx
    · obtain ⟨j, m, hj, hm, h15, hjm, hcode⟩ := some_begins hc bs p k hk (hpre k (Nat.le_refl _))
      have hrow := rows_rth l j m hj (by omega) hjm
      have hb := codeI_bd l m j (by omega) (by omega) hj hjm
      have hkr := kraft_le hc m h15
      have hx0 := (xv_bd bs p k).1
      have hc0 : 0 ≤ codeI l j := by have := (lowF_small l (check_ok hc).1 m (by omega)).1; omega
      refine ⟨j, by omega, by rw [rowsF_len]; omega, by rw [hrow, msbF_len]; omega, ?_⟩
      rw [hrow, bitsP_len]
      have hag := (pre_iff (codeI l j) m hc0 (by omega) bs p k (by omega)).2 (by rw [hcode]; exact Int.mul_ediv_cancel _ (Int.ne_of_gt (pow_cast _)))
      obtain ⟨s1, s2, s3⟩ := agrN_spec (msbF (codeI l j) m) (bitsP bs (8 * bs.length)) p
      rw [msbF_len, bitsP_len] at s3
      rcases Nat.lt_trichotomy (agrN (msbF (codeI l j) m) (bitsP bs (8 * bs.length)) p) k with h | h | h
      · rcases s3 with s3 | s3 | s3
        · omega
        · omega
        · exfalso; apply s3; rw [bitsP_nth _ _ _ (by omega)]; exact hag _ h
      · omega
      · have := (s2 k h).1
        rw [bitsP_len] at this; omega
  · rw [hr]
    unfold nextR
    refine nextG_none _ _ _ _ _ (fun t _ ht h0 => ?_)
    rw [rowsF_len, Nat.zero_add] at ht
    obtain ⟨mt, a, b, c, hrow⟩ := row_len hok t ht h0
    have hmt : mt ≤ longN l 16 := by
      rcases Nat.lt_or_ge (longN l 16) mt with h | h
      · exfalso
        have hb := codeI_bd l mt t (by omega) a ht c
        have := longN_top l 16 mt h (by omega)
        omega
      · exact h
    have hne : agrN (rth (rowsF l) t) (bitsP bs (8 * bs.length)) p ≠ (rth (rowsF l) t).length := fun ha => hno _ hpre t mt ht hmt a c b ((full_iff hc bs p _ t mt ht a b c).1 ha).2
    refine ⟨hne, ?_⟩
    obtain ⟨s1, _, _⟩ := agrN_spec (rth (rowsF l) t) (bitsP bs (8 * bs.length)) p
    rw [bitsP_len]
    have : (rth (rowsF l) t).length = mt := by rw [hrow, msbF_len]
    omega
end Go.Proofs.YtcblibefmclloaaDoor

/- What a step says: plain lists. -/
set_option linter.unusedVariables false
set_option linter.unusedSimpArgs false
namespace Go.Proofs.YtcblibefmclloaaDoor
/-- Which length a step says, and how many times. -/
def sayF (l : List Int) (sym extra : Int) : Option (Int × Nat) :=
  if 0 ≤ sym ∧ sym ≤ 15 ∧ extra = 0 then some (sym, 1)
  else if sym = 16 ∧ 0 ≤ extra ∧ extra ≤ 3 ∧ l ≠ [] then some (l.getD (l.length - 1) 0, extra.toNat + 3)
  else if sym = 17 ∧ 0 ≤ extra ∧ extra ≤ 7 then some (0, extra.toNat + 3)
  else if sym = 18 ∧ 0 ≤ extra ∧ extra ≤ 127 then some (0, extra.toNat + 11)
  else none
/-- Lengths with those that a step says, n in all at most. -/
def addF (l : List Int) (sym extra n : Int) : Option (List Int) :=
  match sayF l sym extra with
  | some (v, k) => if ((l.length + k : Nat) : Int) ≤ n then some (l ++ List.replicate k v) else none
  | none => none
theorem sayF_lit {l : List Int} {sym : Int} (h0 : 0 ≤ sym) (h1 : sym ≤ 15) : sayF l sym 0 = some (sym, 1) := by
  rw [sayF, if_pos ⟨h0, h1, rfl⟩]
theorem sayF_lit_none {l : List Int} {sym extra : Int} (h1 : sym ≤ 15) (h2 : sym < 0 ∨ extra ≠ 0) : sayF l sym extra = none := by
  rw [sayF, if_neg (by rintro ⟨a, b, c⟩; rcases h2 with h | h; omega; exact h c), if_neg (by omega), if_neg (by omega), if_neg (by omega)]
theorem sayF_16 {l : List Int} {extra : Int} (h0 : 0 ≤ extra) (h1 : extra ≤ 3) (h : l ≠ []) : sayF l 16 extra = some (l.getD (l.length - 1) 0, extra.toNat + 3) := by
  rw [sayF, if_neg (by omega), if_pos ⟨rfl, h0, h1, h⟩]
theorem sayF_16_none {l : List Int} {extra : Int} (h : extra < 0 ∨ 3 < extra ∨ l = []) : sayF l 16 extra = none := by
  rw [sayF, if_neg (by omega), if_neg (by rintro ⟨_, a, b, c⟩; rcases h with h | h | h; omega; omega; exact c h), if_neg (by omega), if_neg (by omega)]
theorem sayF_17 {l : List Int} {extra : Int} (h0 : 0 ≤ extra) (h1 : extra ≤ 7) : sayF l 17 extra = some (0, extra.toNat + 3) := by
  rw [sayF, if_neg (by omega), if_neg (by omega), if_pos ⟨rfl, h0, h1⟩]
theorem sayF_17_none {l : List Int} {extra : Int} (h : extra < 0 ∨ 7 < extra) : sayF l 17 extra = none := by
  rw [sayF, if_neg (by omega), if_neg (by omega), if_neg (by omega), if_neg (by omega)]
theorem sayF_18 {l : List Int} {extra : Int} (h0 : 0 ≤ extra) (h1 : extra ≤ 127) : sayF l 18 extra = some (0, extra.toNat + 11) := by
  rw [sayF, if_neg (by omega), if_neg (by omega), if_neg (by omega), if_pos ⟨rfl, h0, h1⟩]
theorem sayF_18_none {l : List Int} {extra : Int} (h : extra < 0 ∨ 127 < extra) : sayF l 18 extra = none := by
  rw [sayF, if_neg (by omega), if_neg (by omega), if_neg (by omega), if_neg (by omega)]
theorem sayF_big {l : List Int} {sym extra : Int} (h : 18 < sym) : sayF l sym extra = none := by
  rw [sayF, if_neg (by omega), if_neg (by omega), if_neg (by omega), if_neg (by omega)]
theorem sayF_pos {l : List Int} {sym extra v : Int} {k : Nat} (h : sayF l sym extra = some (v, k)) : 1 ≤ k ∧ k ≤ 138 := by
  simp only [sayF] at h
  split at h
  · simp at h; omega
  · split at h
    · simp at h; omega
    · split at h
      · simp at h; omega
      · split at h
        · simp at h; omega
        · simp at h
theorem addF_none {l : List Int} {sym extra n : Int} (h : sayF l sym extra = none) : addF l sym extra n = none := by rw [addF, h]
theorem addF_many {l : List Int} {sym extra n v : Int} {k : Nat} (h : sayF l sym extra = some (v, k)) (hn : n < ((l.length + k : Nat) : Int)) : addF l sym extra n = none := by
  rw [addF, h]; exact if_neg (by omega)
theorem addF_some {l : List Int} {sym extra n v : Int} {k : Nat} (h : sayF l sym extra = some (v, k)) (hn : ((l.length + k : Nat) : Int) ≤ n) : addF l sym extra n = some (l ++ List.replicate k v) := by
  rw [addF, h]; exact if_pos hn
theorem addF_len {l l' : List Int} {sym extra n : Int} (h : addF l sym extra n = some l') : l.length < l'.length ∧ (l'.length : Int) ≤ n := by
  simp only [addF] at h
  split at h
  · rename_i v k hs
    have := sayF_pos hs
    split at h
    · injection h with h; subst h; simp only [List.length_append, List.length_replicate]; omega
    · simp at h
  · simp at h
/-- Lengths with those that steps say. -/
def unpackTo (l : List Int) : List (Int × Int) → Int → Option (List Int)
  | [], _ => some l
  | s :: r, n => match addF l s.1 s.2 n with
    | some l' => unpackTo l' r n
    | none => none
/-- Unpacking: the lengths, and what is wrong. -/
def unpackF (xs : List (Int × Int)) (n : Int) : List Int × Int :=
  if n < 0 ∨ 316 < n then ([], 1) else match unpackTo [] xs n with
    | none => ([], 41)
    | some l => if (l.length : Int) < n then ([], 41) else (l, 0)
theorem unpackF_arg {xs : List (Int × Int)} {n : Int} (h : n < 0 ∨ 316 < n) : unpackF xs n = ([], 1) := if_pos h
theorem unpackF_none {xs : List (Int × Int)} {n : Int} (h0 : 0 ≤ n) (h1 : n ≤ 316) (h : unpackTo [] xs n = none) : unpackF xs n = ([], 41) := by
  rw [unpackF, if_neg (by omega), h]
theorem unpackF_few {xs : List (Int × Int)} {n : Int} {l : List Int} (h0 : 0 ≤ n) (h1 : n ≤ 316) (h : unpackTo [] xs n = some l) (hl : (l.length : Int) < n) : unpackF xs n = ([], 41) := by
  rw [unpackF, if_neg (by omega), h]; exact if_pos hl
theorem unpackF_ok {xs : List (Int × Int)} {n : Int} {l : List Int} (h0 : 0 ≤ n) (h1 : n ≤ 316) (h : unpackTo [] xs n = some l) (hl : ¬ (l.length : Int) < n) : unpackF xs n = (l, 0) := by
  rw [unpackF, if_neg (by omega), h]; exact if_neg hl
theorem unpackTo_cons {l : List Int} {s : Int × Int} {r : List (Int × Int)} {n : Int} {l' : List Int} (h : addF l s.1 s.2 n = some l') : unpackTo l (s :: r) n = unpackTo l' r n := by
  rw [unpackTo, h]
theorem unpackTo_stop {l : List Int} {s : Int × Int} {r : List (Int × Int)} {n : Int} (h : addF l s.1 s.2 n = none) : unpackTo l (s :: r) n = none := by
  rw [unpackTo, h]
end Go.Proofs.YtcblibefmclloaaDoor

set_option linter.unusedVariables false
set_option linter.unusedSimpArgs false
/-! Plain: how a head is read. -/
namespace Go.Proofs.YtcblibefmclloaaDoor
/-- How many bits a step's number has. -/
def wN (sym : Int) : Nat := if sym = 16 then 2 else if sym = 17 then 3 else if sym = 18 then 7 else 0
theorem wN_le (s : Int) : wN s ≤ 7 := by unfold wN; split; omega; split; omega; split <;> omega
theorem wN_tab (j : Nat) (h : j < 19) : nth wideL j = (wN (j : Int) : Int) := by
  rcases (by omega : j < 16 ∨ j = 16 ∨ j = 17 ∨ j = 18) with h | rfl | rfl | rfl
  · have : wN (j : Int) = 0 := by unfold wN; rw [if_neg (by omega), if_neg (by omega), if_neg (by omega)]
    rw [this]
    revert h; revert j
    decide
  · rfl
  · rfl
  · rfl
/-- What is read of a symbol stays in its bounds. -/
theorem dec_bd (l bs : List Int) (p : Nat) (hp : p ≤ 8 * bs.length) : ((decF l bs p).2.1 = 0 ∧ ∃ j : Nat, (decF l bs p).1 = j ∧ j < l.length ∧ p + (decF l bs p).2.2 ≤ 8 * bs.length) ∨
    ((decF l bs p).2.1 ≠ 0 ∧ (decF l bs p).1 = 0 ∧ (decF l bs p).2.2 = 0) := by
  have hs := dec_spec l bs p (longN l 16) 0 (by omega) (by omega) (fun m hm => by
    obtain rfl : m = 0 := by omega
    simp [xv, lowF, lenCnt_zero])
  rw [show decGo l bs p (longN l 16) 0 (xv bs p 0) = decF l bs p from rfl] at hs
  rcases hs with ⟨j, m, hj, _, _, _, _, hend, _, hr⟩ | ⟨k, _, _, _, hr⟩ | ⟨_, _, hr⟩
  · rw [hr]; exact .inl ⟨rfl, j, rfl, hj, hend⟩
  · rw [hr]; exact .inr ⟨by decide, rfl, rfl⟩
  · rw [hr]; exact .inr ⟨by decide, rfl, rfl⟩
/-- The codes of the steps: so many are read. -/
def cL (bs : List Int) (p : Nat) : Nat → List Int
  | 0 => List.replicate 19 0
  | k + 1 => (cL bs p k).set (nth orderL k).toNat (numB bs (p + 3 * k) 3)
theorem cL_len (bs : List Int) (p : Nat) : ∀ k, (cL bs p k).length = 19
  | 0 => by simp [cL]
  | k + 1 => by rw [cL, List.length_set, cL_len bs p k]
def stepsF (codes bs : List Int) (N : Int) : Nat → List Int → Nat → List Int × Nat × Int
  | 0, l, q => (l, q, 0)
  | f + 1, l, q =>
    if N ≤ l.length then (l, q, 0)
    else if (decF codes bs q).2.1 ≠ 0 then ([], q, (decF codes bs q).2.1)
    else if 8 * bs.length < q + (decF codes bs q).2.2 + wN (decF codes bs q).1 then ([], q, 10)
    else match addF l (decF codes bs q).1 (numB bs (q + (decF codes bs q).2.2) (wN (decF codes bs q).1)) N with
      | none => ([], q, 41)
      | some l' => stepsF codes bs N f l' (q + (decF codes bs q).2.2 + wN (decF codes bs q).1)
theorem stepsF_done (codes bs : List Int) (N : Int) (f : Nat) (l : List Int) (q : Nat) (h : N ≤ l.length) : stepsF codes bs N f l q = (l, q, 0) := by
  cases f with
  | zero => rfl
  | succ f => rw [stepsF, if_pos h]
theorem addF_grows {l l' : List Int} {s e n : Int} (h : addF l s e n = some l') : l.length + 1 ≤ l'.length ∧ (l'.length : Int) ≤ n ∧ l'.length ≤ l.length + 138 := by
  unfold addF at h
  cases hs : sayF l s e with
  | none => rw [hs] at h; cases h
  | some p =>
    obtain ⟨v, k⟩ := p
    rw [hs] at h
    have hk := sayF_pos hs
    simp only [] at h
    split at h
    · next hle =>
      obtain rfl := Option.some.inj h
      rw [List.length_append, List.length_replicate]; omega
    · cases h
/-- How many codes there are; how many lengths. -/
def manyF (bs : List Int) (p : Nat) : Nat := (numB bs (p + 10) 4).toNat + 4
def litF (bs : List Int) (p : Nat) : Nat := (numB bs p 5).toNat + 257
def distF (bs : List Int) (p : Nat) : Nat := (numB bs (p + 5) 5).toNat + 1
def codesH (bs : List Int) (p : Nat) : List Int := cL bs (p + 14) (manyF bs p)
def readR (bs : List Int) (p : Nat) : List Int × Nat × Int := stepsF (codesH bs p) bs ((litF bs p + distF bs p : Nat) : Int) (litF bs p + distF bs p) [] (p + 14 + 3 * manyF bs p)
/-- A head that is read: two lists, how many bits, what is wrong. -/
def headF (bs : List Int) (p : Nat) : List Int × List Int × Nat × Int :=
  if 8 * bs.length < p + 14 then ([], [], 0, 10)
  else if 29 < numB bs p 5 ∨ 29 < numB bs (p + 5) 5 then ([], [], 0, 40)
  else if 8 * bs.length < p + 14 + 3 * manyF bs p then ([], [], 0, 10)
  else if checkF (codesH bs p) ≠ 0 then ([], [], 0, checkF (codesH bs p))
  else if (readR bs p).2.2 ≠ 0 then ([], [], 0, (readR bs p).2.2)
  else ((readR bs p).1.take (litF bs p), (readR bs p).1.drop (litF bs p), (readR bs p).2.1 - p, 0)
theorem manyF_le (bs : List Int) (p : Nat) : manyF bs p ≤ 19 := by
  have := numB_lt bs (p + 10) 4
  unfold manyF
  have e : (2 : Int) ^ 4 = 16 := rfl
  omega
theorem order_lt (k : Nat) (h : k < 19) : 0 ≤ nth orderL k ∧ nth orderL k < 19 := by revert h; revert k; decide
theorem head_err {bs : List Int} {p : Nat} {e : Int} (h1 : ¬ 8 * bs.length < p + 14) (h2 : ¬ (29 < numB bs p 5 ∨ 29 < numB bs (p + 5) 5)) (h3 : ¬ 8 * bs.length < p + 14 + 3 * manyF bs p) (h4 : checkF (codesH bs p) = 0) (h5 : (readR bs p).2.2 = e) (he : e ≠ 0) : headF bs p = ([], [], 0, e) := by
  unfold headF
  rw [if_neg h1, if_neg h2, if_neg h3, if_neg (by rw [h4]; simp), if_pos (by rw [h5]; exact he), h5]
theorem head_ok {bs l : List Int} {p q : Nat} (h1 : ¬ 8 * bs.length < p + 14) (h2 : ¬ (29 < numB bs p 5 ∨ 29 < numB bs (p + 5) 5)) (h3 : ¬ 8 * bs.length < p + 14 + 3 * manyF bs p) (h4 : checkF (codesH bs p) = 0) (h5 : readR bs p = (l, q, 0)) : headF bs p = (l.take (litF bs p), l.drop (litF bs p), q - p, 0) := by
  unfold headF
  rw [if_neg h1, if_neg h2, if_neg h3, if_neg (by rw [h4]; simp), h5]
  rfl
end Go.Proofs.YtcblibefmclloaaDoor

set_option linter.unusedVariables false
set_option linter.unusedSimpArgs false
/-! Plain: how bytes are inflated. A result: what is laid, the place, what is wrong (the place is told only where nothing is). -/
namespace Go.Proofs.YtcblibefmclloaaDoor
abbrev IRes := List Int × Nat × Int
def endF (e other : Int) : Int := if e = 0 then 0 else if e = 10 then 55 else other
/-- Bytes of a stored block. -/
def storF (bs : List Int) (most : Nat) : Nat → List Int → Nat → IRes
  | 0, out, p => (out, p, 0)
  | n + 1, out, p => if 8 * bs.length < p + 8 then (out, 0, 55) else if most ≤ out.length then (out, 0, 56) else storF bs most n (out ++ [numB bs p 8]) (p + 8)
def alignF (p : Nat) : Nat := (p + 7) / 8 * 8
def storedF (bs : List Int) (most : Nat) (out : List Int) (p : Nat) : IRes :=
  if 8 * bs.length < alignF p + 16 then (out, 0, 55)
  else if 8 * bs.length < alignF p + 32 then (out, 0, 55)
  else if numB bs (alignF p) 16 + numB bs (alignF p + 16) 16 ≠ 65535 then (out, 0, 51)
  else storF bs most (numB bs (alignF p) 16).toNat out (alignF p + 32)
/-- Copied bytes. -/
def layN (far most : Nat) : Nat → List Int → List Int × Int
  | 0, out => (out, 0)
  | n + 1, out => if most ≤ out.length then (out, 56) else layN far most n (out ++ [nth out (out.length - far)])
def lenK (s : Nat) : Nat := if s < 265 ∨ s = 285 then 0 else (s - 261) / 4
def lenBase (s : Nat) : Nat := if s < 265 then s - 254 else if s = 285 then 258 else 3 + (4 + (s - 261) % 4) * 2 ^ lenK s
def distK (d : Nat) : Nat := if d < 4 then 0 else d / 2 - 1
def distBase (d : Nat) : Nat := if d < 4 then d + 1 else 1 + (2 + d % 2) * 2 ^ distK d
def anyUsed (l : List Int) : Bool := l.any fun x => decide (0 < x)
/-- The rest of a copy, behind its symbol. -/
def copyF (dist bs : List Int) (most s : Nat) (out : List Int) (p : Nat) : IRes :=
  if 285 < s then (out, 0, 53)
  else if 8 * bs.length < p + lenK s then (out, 0, 55)
  else if anyUsed dist = false then (out, 0, 53)
  else if (decF dist bs (p + lenK s)).2.1 ≠ 0 then (out, 0, endF (decF dist bs (p + lenK s)).2.1 53)
  else if 29 < (decF dist bs (p + lenK s)).1 then (out, 0, 53)
  else if 8 * bs.length < p + lenK s + (decF dist bs (p + lenK s)).2.2 + distK (decF dist bs (p + lenK s)).1.toNat then (out, 0, 55)
  else if (out.length : Int) < distBase (decF dist bs (p + lenK s)).1.toNat + numB bs (p + lenK s + (decF dist bs (p + lenK s)).2.2) (distK (decF dist bs (p + lenK s)).1.toNat) then (out, 0, 54)
  else if (layN ((distBase (decF dist bs (p + lenK s)).1.toNat : Int) + numB bs (p + lenK s + (decF dist bs (p + lenK s)).2.2) (distK (decF dist bs (p + lenK s)).1.toNat)).toNat most (lenBase s + (numB bs p (lenK s)).toNat) out).2 ≠ 0 then
    ((layN ((distBase (decF dist bs (p + lenK s)).1.toNat : Int) + numB bs (p + lenK s + (decF dist bs (p + lenK s)).2.2) (distK (decF dist bs (p + lenK s)).1.toNat)).toNat most (lenBase s + (numB bs p (lenK s)).toNat) out).1, 0, 56)
  else ((layN ((distBase (decF dist bs (p + lenK s)).1.toNat : Int) + numB bs (p + lenK s + (decF dist bs (p + lenK s)).2.2) (distK (decF dist bs (p + lenK s)).1.toNat)).toNat most (lenBase s + (numB bs p (lenK s)).toNat) out).1, p + lenK s + (decF dist bs (p + lenK s)).2.2 + distK (decF dist bs (p + lenK s)).1.toNat, 0)
/-- A block's symbols. -/
def symF (lit dist bs : List Int) (most : Nat) : Nat → List Int → Nat → IRes
  | 0, out, _ => (out, 0, 55)
  | f + 1, out, p =>
    if (decF lit bs p).2.1 ≠ 0 then (out, 0, endF (decF lit bs p).2.1 53)
    else if (decF lit bs p).1 = 256 then (out, p + (decF lit bs p).2.2, 0)
    else if (decF lit bs p).1 < 256 then
      if most ≤ out.length then (out, 0, 56) else symF lit dist bs most f (out ++ [(decF lit bs p).1]) (p + (decF lit bs p).2.2)
    else if (copyF dist bs most (decF lit bs p).1.toNat out (p + (decF lit bs p).2.2)).2.2 ≠ 0 then copyF dist bs most (decF lit bs p).1.toNat out (p + (decF lit bs p).2.2)
    else symF lit dist bs most f (copyF dist bs most (decF lit bs p).1.toNat out (p + (decF lit bs p).2.2)).1 (copyF dist bs most (decF lit bs p).1.toNat out (p + (decF lit bs p).2.2)).2.1
def fixLit : List Int := List.replicate 144 8 ++ List.replicate 112 9 ++ List.replicate 24 7 ++ List.replicate 8 8
def fixDist : List Int := List.replicate 32 5
/-- The lists of a block of kind 2; the place; what is wrong. -/
def codesE (h : List Int × List Int × Nat × Int) : Int :=
  if h.2.2.2 ≠ 0 then endF h.2.2.2 52
  else if nth h.1 256 = 0 then 52
  else if checkF h.1 ≠ 0 then 52
  else if anyUsed h.2.1 = true ∧ checkF h.2.1 ≠ 0 then 52
  else 0
def blockF (bs : List Int) (most : Nat) (kind : Int) (out : List Int) (p : Nat) : IRes :=
  if kind = 0 then storedF bs most out p
  else if kind = 1 then symF fixLit fixDist bs most (8 * bs.length + 1) out p
  else if kind = 2 then
    if codesE (headF bs p) ≠ 0 then (out, 0, codesE (headF bs p))
    else symF (headF bs p).1 (headF bs p).2.1 bs most (8 * bs.length + 1) out (p + (headF bs p).2.2.1)
  else (out, 0, 50)
def blksF (bs : List Int) (most : Nat) : Nat → List Int → Nat → IRes
  | 0, out, _ => (out, 0, 55)
  | f + 1, out, p =>
    if 8 * bs.length < p + 1 then (out, 0, 55)
    else if 8 * bs.length < p + 3 then (out, 0, 55)
    else if (blockF bs most (numB bs (p + 1) 2) out (p + 3)).2.2 ≠ 0 then blockF bs most (numB bs (p + 1) 2) out (p + 3)
    else if numB bs p 1 = 0 then blksF bs most f (blockF bs most (numB bs (p + 1) 2) out (p + 3)).1 (blockF bs most (numB bs (p + 1) 2) out (p + 3)).2.1
    else blockF bs most (numB bs (p + 1) 2) out (p + 3)
def inflF (bs : List Int) (most : Nat) : IRes := blksF bs most (8 * bs.length + 1) [] 0
/-- What inflating answers. -/
def inflR (bs : List Int) (most : Int) : List Int × Nat × Int :=
  if most < 0 ∨ 16384 < most then ([], 0, 1)
  else if (inflF bs most.toNat).2.2 ≠ 0 then ([], 0, (inflF bs most.toNat).2.2)
  else ((inflF bs most.toNat).1, ((inflF bs most.toNat).2.1 + 7) / 8, 0)
/-! Places: a result that is right stands behind where it began, and in the bits. -/
theorem storF_pos (bs : List Int) (most : Nat) : ∀ n out p, p ≤ 8 * bs.length → (storF bs most n out p).2.2 = 0 → p ≤ (storF bs most n out p).2.1 ∧ (storF bs most n out p).2.1 ≤ 8 * bs.length
  | 0, out, p, hp, h => ⟨Nat.le_refl _, hp⟩
  | n + 1, out, p, hp, h => by
    rw [storF] at h ⊢
    split
    · next h1 => rw [if_pos h1] at h; simp at h
    · next h1 =>
      rw [if_neg h1] at h
      split
      · next h2 => rw [if_pos h2] at h; simp at h
      · next h2 =>
        rw [if_neg h2] at h
        have := storF_pos bs most n _ (p + 8) (by omega) h
        omega
theorem storedF_pos (bs : List Int) (most : Nat) (out : List Int) (p : Nat) (h : (storedF bs most out p).2.2 = 0) : p ≤ (storedF bs most out p).2.1 ∧ (storedF bs most out p).2.1 ≤ 8 * bs.length := by
  unfold storedF at h ⊢
  split
  · next h1 => rw [if_pos h1] at h; simp at h
  next h1 =>
  rw [if_neg h1] at h
  split
  · next h2 => rw [if_pos h2] at h; simp at h
  next h2 =>
  rw [if_neg h2] at h
  split
  · next h3 => rw [if_pos h3] at h; simp at h
  next h3 =>
  rw [if_neg h3] at h
  have := storF_pos bs most _ _ (alignF p + 32) (by omega) h
  unfold alignF at *
  omega
theorem dec_adv (l bs : List Int) (p : Nat) (hp : p ≤ 8 * bs.length) (h : (decF l bs p).2.1 = 0) : 1 ≤ (decF l bs p).2.2 ∧ p + (decF l bs p).2.2 ≤ 8 * bs.length ∧ 0 ≤ (decF l bs p).1 ∧ (decF l bs p).1 < l.length := by
  have hs := dec_spec l bs p (longN l 16) 0 (by omega) (by omega) (fun m hm => by
    obtain rfl : m = 0 := by omega
    simp [xv, lowF, lenCnt_zero])
  rw [show decGo l bs p (longN l 16) 0 (xv bs p 0) = decF l bs p from rfl] at hs
  rcases hs with ⟨j, m, hj, h1, _, _, _, hend, _, hr⟩ | ⟨k, _, _, _, hr⟩ | ⟨_, _, hr⟩
  · rw [hr]; exact ⟨h1, hend, by simp, by simp; omega⟩
  · rw [hr] at h; simp at h
  · rw [hr] at h; simp at h
theorem endF_zero {e o : Int} (ho : o ≠ 0) (h : endF e o = 0) : e = 0 := by
  unfold endF at h
  split at h
  · assumption
  split at h
  · cases h
  · exact absurd h ho
theorem copyF_pos (dist bs : List Int) (most s : Nat) (out : List Int) (p : Nat) (hp : p ≤ 8 * bs.length) (h : (copyF dist bs most s out p).2.2 = 0) : p ≤ (copyF dist bs most s out p).2.1 ∧ (copyF dist bs most s out p).2.1 ≤ 8 * bs.length := by
  unfold copyF at h ⊢
  split
  · next h1 => rw [if_pos h1] at h; simp at h
  next h1 =>
  rw [if_neg h1] at h
  split
  · next h2 => rw [if_pos h2] at h; simp at h
  next h2 =>
  rw [if_neg h2] at h
  split
  · next h3 => rw [if_pos h3] at h; simp at h
  next h3 =>
  rw [if_neg h3] at h
  split
  · next h4 => rw [if_pos h4] at h; exact absurd (endF_zero (by decide) h) h4
  next h4 =>
  rw [if_neg h4] at h
  split
  · next h5 => rw [if_pos h5] at h; simp at h
  next h5 =>
  rw [if_neg h5] at h
  split
  · next h6 => rw [if_pos h6] at h; simp at h
  next h6 =>
  rw [if_neg h6] at h
  split
  · next h7 => rw [if_pos h7] at h; simp at h
  next h7 =>
  rw [if_neg h7] at h
  split
  · next h8 => rw [if_pos h8] at h; simp at h
  next h8 =>
  simp only []
  omega
theorem symF_pos (lit dist bs : List Int) (most : Nat) : ∀ f out p, p ≤ 8 * bs.length → (symF lit dist bs most f out p).2.2 = 0 → p ≤ (symF lit dist bs most f out p).2.1 ∧ (symF lit dist bs most f out p).2.1 ≤ 8 * bs.length
  | 0, out, p, hp, h => by simp [symF] at h
  | f + 1, out, p, hp, h => by
    rw [symF] at h ⊢
    split
    · next h1 => rw [if_pos h1] at h; exact absurd (endF_zero (by decide) h) h1
    next h1 =>
    rw [if_neg h1] at h
    obtain ⟨a1, a2, -⟩ := dec_adv lit bs p hp (by omega)
    split
    · simp only []; omega
    next h2 =>
    rw [if_neg h2] at h
    split
    · next h3 =>
      rw [if_pos h3] at h
      split
      · next h4 => rw [if_pos h4] at h; simp at h
      · next h4 =>
        rw [if_neg h4] at h
        have := symF_pos lit dist bs most f _ _ a2 h
        omega
    next h3 =>
    rw [if_neg h3] at h
    split
    · next h5 => rw [if_pos h5] at h; exact absurd h h5
    · next h5 =>
      rw [if_neg h5] at h
      obtain ⟨b1, b2⟩ := copyF_pos dist bs most (decF lit bs p).1.toNat out _ a2 (by omega)
      have := symF_pos lit dist bs most f _ _ b2 h
      omega
end Go.Proofs.YtcblibefmclloaaDoor

set_option linter.unusedVariables false
set_option linter.unusedSimpArgs false
/-! Bits that are laid into bytes: plain mathematics, then the writer's walks. -/
namespace Go.Proofs.YtcblibefmclloaaDoor
open Go.RowKit
def vbits (r : Int) (k : Nat) : List Int := (List.range k).map fun t => r / 2 ^ t % 2
theorem vbits_len (r : Int) (k : Nat) : (vbits r k).length = k := by simp [vbits]
theorem vbits_nth (r : Int) (k t : Nat) (h : t < k) : nth (vbits r k) t = r / 2 ^ t % 2 := by simp [vbits, nth, List.getD, h]
theorem vbits_add (r : Int) (j k : Nat) : vbits r (j + k) = vbits r j ++ vbits (r / 2 ^ j) k := by
  unfold vbits
  rw [List.range_add, List.map_append, List.map_map]
  congr 1
  refine List.map_congr_left fun t _ => ?_
  simp only [Function.comp]
  rw [Int.pow_add, div_div _ _ _ (pow_cast _)]
/-- Bytes hold these bits, and no more. -/
structure WB (xs bl : List Int) : Prop where
  len : xs.length = (bl.length + 7) / 8
  byte : ∀ j, 0 ≤ nth xs j ∧ nth xs j ≤ 255
  top : bl.length % 8 ≠ 0 → nth xs (bl.length / 8) < 2 ^ (bl.length % 8)
  bit : ∀ i, i < bl.length → bitAt xs i = nth bl i
theorem WB.zero : WB [] [] := ⟨rfl, fun j => by simp [nth], fun h => absurd rfl h, fun i h => by simp at h⟩
/-- The bytes, one more if the last is full. -/
def padF (xs bl : List Int) : List Int := if bl.length % 8 = 0 then xs ++ [0] else xs
theorem pad_len {xs bl : List Int} (h : WB xs bl) : (padF xs bl).length = bl.length / 8 + 1 := by
  unfold padF
  have := h.len
  split
  · rw [List.length_append, List.length_singleton]; omega
  · omega
theorem pad_nth {xs bl : List Int} (h : WB xs bl) (j : Nat) : nth (padF xs bl) j = nth xs j := by
  unfold padF
  split
  · by_cases hj : j < xs.length
    · simp [nth, List.getD, List.getElem?_append_left hj]
    · by_cases hj2 : j = xs.length
      · subst hj2; simp [nth, List.getD]
      · simp [nth, List.getD, List.getElem?_eq_none (show xs.length ≤ j by omega), List.getElem?_eq_none (show (xs ++ [0]).length ≤ j by simp; omega)]
  · rfl
theorem pad_last {xs bl : List Int} (h : WB xs bl) : 0 ≤ nth (padF xs bl) (bl.length / 8) ∧ nth (padF xs bl) (bl.length / 8) < 2 ^ (bl.length % 8) := by
  rw [pad_nth h]
  refine ⟨(h.byte _).1, ?_⟩
  by_cases h8 : bl.length % 8 = 0
  · have : nth xs (bl.length / 8) = 0 := by
      have := h.len
      simp [nth, List.getD, List.getElem?_eq_none (show xs.length ≤ bl.length / 8 by omega)]
    rw [this]; exact pow_cast _
  · exact h.top h8
theorem nth_set_eq (xs : List Int) (i : Nat) (y : Int) (h : i < xs.length) : nth (xs.set i y) i = y := by simp [nth, List.getD, h]
theorem nth_set_ne (xs : List Int) (i j : Nat) (y : Int) (h : j ≠ i) : nth (xs.set i y) j = nth xs j := by simp [nth, List.getD, List.getElem?_set_ne (Ne.symm h)]
theorem mod_div_mod (r : Int) (k t : Nat) (h : t < k) : r % 2 ^ k / 2 ^ t % 2 = r / 2 ^ t % 2 := by
  have e : r = r % 2 ^ k + 2 ^ (k - t - 1) * 2 * (r / 2 ^ k) * 2 ^ t := by
    have h1 := Int.emod_add_mul_ediv r (2 ^ k)
    have h2 : (2 : Int) ^ k = 2 ^ (k - t - 1) * 2 * 2 ^ t := by rw [← Int.pow_succ, ← Int.pow_add]; congr 1; omega
    rw [Int.mul_assoc (2 ^ (k - t - 1) * 2), Int.mul_comm (r / 2 ^ k), ← Int.mul_assoc, ← h2]
    omega
  have h3 : r / 2 ^ t = r % 2 ^ k / 2 ^ t + 2 ^ (k - t - 1) * 2 * (r / 2 ^ k) := by
    conv => lhs; rw [e]
    exact Int.add_mul_ediv_right _ _ (Int.ne_of_gt (pow_cast t))
  rw [h3, Int.mul_comm (2 ^ (k - t - 1)) 2, Int.mul_assoc 2]
  omega
theorem pad_step {xs bl : List Int} (h : WB xs bl) (r : Int) (k : Nat) (h1 : 1 ≤ k) (hk : bl.length % 8 + k ≤ 8) :
    WB ((padF xs bl).set (bl.length / 8) (nth (padF xs bl) (bl.length / 8) + r % 2 ^ k * 2 ^ (bl.length % 8))) (bl ++ vbits r k) := by
  have hpl := pad_len h
  obtain ⟨x0, x1⟩ := pad_last h
  have hpn := pad_nth h
  have hby := h.byte
  generalize hX : padF xs bl = X at *
  obtain ⟨s, hs⟩ : ∃ s, s = bl.length % 8 := ⟨_, rfl⟩
  obtain ⟨q, hq⟩ : ∃ q, q = bl.length / 8 := ⟨_, rfl⟩
  rw [← hs] at hk x1 ⊢
  rw [← hq] at hpl x0 x1 ⊢
  have hL : bl.length = 8 * q + s := by omega
  have hr0 := Int.emod_nonneg r (show (2 : Int) ^ k ≠ 0 from Int.ne_of_gt (pow_cast k))
  have hr1 := Int.emod_lt_of_pos r (pow_cast k)
  have hps := pow_cast s
  generalize hx : nth X q = x at *
  obtain ⟨y, hy⟩ : ∃ y, y = x + r % 2 ^ k * 2 ^ s := ⟨_, rfl⟩
  rw [← hy]
  have y0 : 0 ≤ y := by rw [hy]; have := Int.mul_nonneg hr0 (Int.le_of_lt hps); omega
  have y1 : y < 2 ^ (s + k) := by
    have a : r % 2 ^ k * 2 ^ s ≤ (2 ^ k - 1) * 2 ^ s := Int.mul_le_mul_of_nonneg_right (by omega) (Int.le_of_lt hps)
    rw [Int.sub_mul, Int.one_mul, ← Int.pow_add, Nat.add_comm k s] at a
    omega
  have y2 := pow_le8 (s + k) hk
  have ydiv : y / 2 ^ s = r % 2 ^ k := by
    rw [hy, Int.add_mul_ediv_right _ _ (Int.ne_of_gt hps), Int.ediv_eq_zero_of_lt x0 x1]; omega
  refine ⟨?_, fun j => ?_, fun h8 => ?_, fun i hi => ?_⟩
  · rw [List.length_set, hpl, List.length_append, vbits_len]; omega
  · by_cases hj : j = q
    · subst hj; rw [nth_set_eq _ _ _ (by omega)]; omega
    · rw [nth_set_ne _ _ _ _ hj, hpn]; exact hby j
  · rw [List.length_append, vbits_len] at h8 ⊢
    rw [show (bl.length + k) / 8 = q by omega, nth_set_eq _ _ _ (by omega), show (bl.length + k) % 8 = s + k by omega]
    exact y1
  · rw [List.length_append, vbits_len] at hi
    by_cases hlt : i < bl.length
    · rw [show nth (bl ++ vbits r k) i = nth bl i by simp [nth, List.getD, List.getElem?_append_left hlt], ← h.bit i hlt]
      unfold bitAt
      by_cases hj : i / 8 = q
      · rw [hj, nth_set_eq _ _ _ (by omega), ← hpn, hx, hy]
        have ht : i % 8 < s := by omega
        generalize i % 8 = t at *
        have e : (2 : Int) ^ s = 2 ^ (s - t - 1) * 2 * 2 ^ t := by rw [← Int.pow_succ, ← Int.pow_add]; congr 1; omega
        rw [e, ← Int.mul_assoc, Int.add_mul_ediv_right _ _ (Int.ne_of_gt (pow_cast t)), ← Int.mul_assoc]
        omega
      · rw [nth_set_ne _ _ _ _ hj, hpn]
    · obtain ⟨t, rfl⟩ : ∃ t, i = bl.length + t := ⟨i - bl.length, by omega⟩
      have e2 : nth (bl ++ vbits r k) (bl.length + t) = nth (vbits r k) t := by simp [nth, List.getD, List.getElem?_append_right]
      rw [e2, vbits_nth _ _ _ (by omega)]
      unfold bitAt
      rw [show (bl.length + t) / 8 = q by omega, show (bl.length + t) % 8 = s + t by omega, nth_set_eq _ _ _ (by omega), Int.pow_add, ← div_div _ _ _ hps, ydiv, mod_div_mod r k t (by omega)]
theorem put_byte (x r : Int) (k s : Nat) (hx : 0 ≤ x) (hx1 : x < 2 ^ s) (hr : 0 ≤ r) (hr1 : r < 4294967296) (hk : s + k ≤ 8) :
    Go.bits .or .u8 x (IntKind.u8.wrap (IntKind.u8.wrap (Go.bits .and .u64 r (2 ^ k - 1)) * 2 ^ s)) = x + r % 2 ^ k * 2 ^ s := by
  have hps := pow_cast s
  have h0 := Int.emod_nonneg r (show (2 : Int) ^ k ≠ 0 from Int.ne_of_gt (pow_cast k))
  have h1 := Int.emod_lt_of_pos r (pow_cast k)
  have hk8 := pow_le8 k (by omega)
  have hsk := pow_le8 (s + k) hk
  have hs8 := pow_le8 s (by omega)
  have a0 : 0 ≤ r % 2 ^ k * 2 ^ s := Int.mul_nonneg h0 (Int.le_of_lt hps)
  have a1 : r % 2 ^ k * 2 ^ s < 256 := by
    have a : r % 2 ^ k * 2 ^ s ≤ (2 ^ k - 1) * 2 ^ s := Int.mul_le_mul_of_nonneg_right (by omega) (Int.le_of_lt hps)
    rw [Int.sub_mul, Int.one_mul, ← Int.pow_add, Nat.add_comm k s] at a
    omega
  rw [bits_mask .u64 64 (by decide) wraps_u64 k (by omega) r hr (by omega), wraps_u8 _ h0 (by omega), wraps_u8 _ a0 (by omega)]
  have hj := bits_join .u8 8 (by decide) wraps_u8 s (r % 2 ^ k * 2 ^ s) x a0 (by simp) (by omega) hx hx1 (by omega)
  obtain ⟨a, ha⟩ := Int.eq_ofNat_of_zero_le a0
  obtain ⟨b, rfl⟩ := Int.eq_ofNat_of_zero_le hx
  rw [ha] at hj a1 ⊢
  have ha' : a < 2 ^ 8 := by omega
  have hb' : b < 2 ^ 8 := by omega
  rw [(bits_nat .u8 8 (by decide) wraps_u8 a b ha' hb').2] at hj
  rw [(bits_nat .u8 8 (by decide) wraps_u8 b a hb' ha').2, Nat.or_comm, hj]
  omega
theorem put_byte2 (x r : Int) (k s : Nat) (hx : 0 ≤ x) (hx1 : x < 2 ^ s) (hr : 0 ≤ r) (hr1 : r < 4294967296) (hk : s + k ≤ 8) :
    Go.bits .or .u8 x (Go.bits .and .u64 r (IntKind.u64.wrap (IntKind.u64.wrap (2 ^ k) - 1)) % 256 * 2 ^ s % 256) = x + r % 2 ^ k * 2 ^ s := by
  have h := put_byte x r k s hx hx1 hr hr1 hk
  have e : ∀ n : Int, IntKind.u8.wrap n = n % 256 := fun n => by simp [IntKind.wrap, IntKind.bits, IntKind.signed]
  have hp := pow_cast k
  have hp8 := pow_le8 k (by omega)
  rw [wraps_u64 (2 ^ k) (by omega) (by omega), wraps_u64 (2 ^ k - 1) (by omega) (by omega)]
  rw [e, e] at h
  exact h

/-- A writer: its block, and a row of bytes behind it that hold these bits. -/
def Wtr (w : World) (g : Nat) (bl : List Int) : Prop :=
  ∃ (xs : List Int) (v : Value) (n : Nat), n = xs.length ∧ Blk w g 110 [v, .int .i64 bl.length] ∧ w.ownsRow (g + 1) 5 1 v n (ints .u8 xs) ∧ WB xs bl
theorem Wtr.lt {w : World} {g : Nat} {bl : List Int} (h : Wtr w g bl) : g < w.heap.size := by
  obtain ⟨_, _, _, _, h, _⟩ := h; exact h.lt
theorem Wtr.keeps {w w' : World} {g : Nat} {bl : List Int} {K : List Nat} (h : Wtr w g bl) (hk : Keeps K w w') (hK : ∀ x ∈ K, x < g ∨ w.heap.size ≤ x) : Wtr w' g bl := by
  obtain ⟨xs, v, n, h0, h1, h2, h3⟩ := h
  refine ⟨xs, v, n, h0, h1.keeps hk (fun hm => by have := h1.lt; rcases hK g hm with h | h <;> omega), own_keeps h2 hk fun x hx hm => ?_, h3⟩
  have a := own_lo h2 x hx
  have b := own_hi h2 x hx
  rcases hK x hm with h | h <;> omega
set_option maxRecDepth 100000 in
set_option maxHeartbeats 400000 in
theorem newWriter_calls (w : World) :
    Calls Tryd.prog 45 #[] w fun e w' => e = .returned (.pointer (some ⟨w.heap.size, 0, none⟩)) ∧ Wtr w' w.heap.size [] ∧ Below w.heap.size w w' := by
  go_enter Tryd.func45, Tryd.ntmps45
  go_wp2_with fail
  go_ret
  exact ⟨rfl, ⟨[], .slice none 0 0, 0, rfl, blk_new w 110 [.slice none 0 0, .int .i64 0], World.ownsRow_nil _ _ _ _, WB.zero⟩, (Below.refl _ w).alloc (Nat.le_refl _) _⟩
/-- A block of bytes. -/
def U8 (w : World) (k : Nat) : Prop := ∃ cur fr, w.heap[k]? = some (.cells cur 5 fr)
theorem own_u8 {w : World} {base size n : Nat} {v : Value} {xs : List Value} (h : w.ownsRow base 5 size v n xs) : ∀ k, v.ownBlock = some k → U8 w k := by
  intro k hk
  rcases h.2 with ⟨rfl, _⟩ | ⟨g, cap, cur, rfl, _, hh, _⟩
  · cases hk
  · obtain rfl := Option.some.inj hk
    exact ⟨_, _, hh⟩
/-- Nothing has turned but a writer's block, and blocks of bytes. -/
structure PT (g : Nat) (w w' : World) : Prop where
  size : w.heap.size ≤ w'.heap.size
  same : ∀ k, k < w.heap.size → k ≠ g → ¬ U8 w k → w'.heap[k]? = w.heap[k]?
theorem PT.refl (g : Nat) (w : World) : PT g w w := ⟨Nat.le_refl _, fun _ _ _ _ => rfl⟩
theorem PT.step {g : Nat} {w w1 w2 : World} (h : PT g w w1) (hs : w1.heap.size ≤ w2.heap.size) (h2 : ∀ k, k < w1.heap.size → k ≠ g → ¬ U8 w1 k → w2.heap[k]? = w1.heap[k]?) : PT g w w2 :=
  ⟨Nat.le_trans h.size hs, fun k hk hg hu => by
    have e := h.same k hk hg hu
    rw [h2 k (Nat.lt_of_lt_of_le hk h.size) hg (fun ⟨c, f, hc⟩ => hu ⟨c, f, by rw [← e]; exact hc⟩), e]⟩
theorem PT.trans {g : Nat} {w w1 w2 : World} (h : PT g w w1) (k : PT g w1 w2) : PT g w w2 := h.step k.size k.same
theorem PT.alloc {g : Nat} {w w1 : World} (h : PT g w w1) (o : Obj) : PT g w (w1.alloc o) := h.step (by simp) (fun k hk _ _ => Go.Deep.blk_alloc_lt _ _ _ hk)
theorem PT.drew {g : Nat} {w w1 : World} (h : PT g w w1) : PT g w w1.drew := h.step (Nat.le_refl _) (fun _ _ _ _ => rfl)
theorem PT.setG {g : Nat} {w w1 : World} (h : PT g w w1) (i : Nat) (v : Value) : PT g w (w1.setCell ⟨g, i, none⟩ v) := h.step (by simp [World.setCell]) (fun k _ hg _ => Go.Deep.blk_setCell_other _ _ _ _ hg)
theorem PT.setU {g : Nat} {w w1 : World} (h : PT g w w1) {b : Nat} (hb : U8 w1 b) (i : Nat) (v : Value) : PT g w (w1.setCell ⟨b, i, none⟩ v) := h.step (by simp [World.setCell]) (fun k _ _ hu => Go.Deep.blk_setCell_other _ _ _ _ (fun e => hu (by rw [e]; exact hb)))
theorem PT.grown {g : Nat} {w w1 w2 : World} {row : Option Nat} (h : PT g w w1) (hg : w1.grownBy w2 row) (hr : ∀ k, row = some k → U8 w1 k) : PT g w w2 := h.step hg.size (fun k hk _ hu => hg.block k hk (fun e => hu (hr k e.symm)))
theorem own_formW {w : World} {base : Nat} {e : TypeId} {size n : Nat} {v : Value} {xs : List Value} (h : w.ownsRow base e size v n xs) : ∃ A c, v = .slice A n c := by
  rcases h.2 with ⟨rfl, rfl⟩ | ⟨g, cap, cur, rfl, _⟩
  · exact ⟨_, _, rfl⟩
  · exact ⟨_, _, rfl⟩
set_option maxRecDepth 100000 in
set_option maxHeartbeats 4000000 in
theorem put_calls (w : World) (g : Nat) (bl : List Int) (x : Int) (m : Nat) (hw : Wtr w g bl) (hx : 0 ≤ x) (hx1 : x < 4294967296) (hm : m ≤ 32) (hxm : x / 2 ^ m = 0) (hb : bl.length ≤ 100000000) :
    Calls Tryd.prog 46 #[.pointer (some ⟨g, 0, none⟩), .int .u32 x, .int .i64 m] w fun e w' => e = .returned (.int .i64 0) ∧ Wtr w' g (bl ++ vbits x m) ∧ Below g w w' ∧ PT g w w' := by
  have HW := Lib.hid hw
  have HXM := Lib.hid hxm
  clear hw hxm
  go_enter Tryd.func46, Tryd.ntmps46
  have e1 : decide ((m : Int) < 0) = false := by simp
  have e2 : decide (32 < m) = false := by simp; omega
  have e3 : decide ((32 : Int) < (m : Int)) = false := by simp; omega
  have e4 : (x / 2 ^ m != 0) = false := by simpa using HXM.out
  go_wp2_with fail
  go_step3
  go_wp2_with fail
  go_step3
  go_wp2_with fail
  clear e1 e2 e3 e4
  have HW0 : Hid (Wtr w g (bl ++ vbits x 0)) := Lib.hid (by simpa [vbits] using HW.out)
  clear HW
  go_loopw [2, 7] (fun nv rv wr => ∃ j : Nat, j ≤ m ∧ nv = .int .i64 ((m : Int) - j) ∧ rv = .int .u64 (x / 2 ^ j) ∧ Hid (Wtr wr g (bl ++ vbits x j)) ∧ Hid (Below g w wr) ∧ Hid (PT g w wr)) (fun nv _ _ => (intOf nv).toNat)
  case atStart => exact ⟨0, by omega, by simp, by simp, HW0, Lib.hid (Below.refl _ _), Lib.hid (PT.refl _ _)⟩
  case round =>
    clear HW0
    obtain ⟨j, hj, rfl, rfl, HW, HB, HP⟩ := hrel
    by_cases hjm : j < m
    · have e1 : ((m : Int) - j == 0) = false := by simp; omega
      obtain ⟨xs, v, n2, hn2, hblk, hown, hwb⟩ := HW.out
      have hlen : (bl ++ vbits x j).length = bl.length + j := by rw [List.length_append, vbits_len]
      obtain ⟨L, hL⟩ : ∃ L, L = bl.length + j := ⟨_, rfl⟩
      have hLb : L ≤ 100000032 := by omega
      rw [hlen, ← hL] at hblk
      have HL := Lib.hid hL
      have HLEN : Hid ((bl ++ vbits x j).length = L) := Lib.hid (by rw [hlen, hL])
      have hr0 : 0 ≤ x / 2 ^ j := Int.ediv_nonneg hx (Int.le_of_lt (pow_cast j))
      have hr1 : x / 2 ^ j < 4294967296 := Int.lt_of_le_of_lt (Int.ediv_le_self _ hx) hx1
      obtain ⟨k, hk⟩ : ∃ k : Nat, (if 8 - (L : Int) % 8 < (m : Int) - j then 8 - (L : Int) % 8 else (m : Int) - j) = (k : Int) := ⟨min (m - j) (8 - L % 8), by split <;> omega⟩
      have hk1 : 1 ≤ k := by split at hk <;> omega
      have hk8 : L % 8 + k ≤ 8 := by split at hk <;> omega
      have hkm : j + k ≤ m := by split at hk <;> omega
      have s5 : (0 : Int) ≤ (L : Int) % 8 := by omega
      have s6 : (L : Int) % 8 < 8 := by omega
      have s7 : (0 : Int) ≤ (L : Int) := by omega
      have hnext : Hid (x / 2 ^ j / 2 ^ k = x / 2 ^ (j + k)) := Lib.hid (by rw [div_div _ _ _ (pow_cast j), ← Int.pow_add])
      have hstep : Hid (WB ((padF xs (bl ++ vbits x j)).set (L / 8) (nth (padF xs (bl ++ vbits x j)) (L / 8) + x / 2 ^ j % 2 ^ k * 2 ^ (L % 8))) (bl ++ vbits x (j + k))) := Lib.hid (by
        have := pad_step hwb (x / 2 ^ j) k hk1 (by rw [HLEN.out]; exact hk8)
        rw [HLEN.out, List.append_assoc, ← vbits_add] at this
        exact this)
      have hplen : Hid ((padF xs (bl ++ vbits x j)).length = L / 8 + 1) := Lib.hid (by rw [pad_len hwb, HLEN.out])
      have hplast : Hid (0 ≤ nth (padF xs (bl ++ vbits x j)) (L / 8) ∧ nth (padF xs (bl ++ vbits x j)) (L / 8) < 2 ^ (L % 8)) := Lib.hid (by have := pad_last hwb; rwa [HLEN.out] at this)
      have hpad : Hid (padF xs (bl ++ vbits x j) = if L % 8 = 0 then xs ++ [0] else xs) := Lib.hid (by unfold padF; rw [HLEN.out])
      clear hlen hwb hL HLEN
      generalize padF xs (bl ++ vbits x j) = X at *
      have h0 := hblk.cell 0
      have h1 := hblk.cell 1
      simp only [List.getElem?_cons_zero, List.getElem?_cons_succ] at h0 h1
      have hf0 := hblk.frozen 0
      have hf1 := hblk.frozen 1
      by_cases h8 : L % 8 = 0
      · have e2 : ((L : Int) % 8 == 0) = true := by simp; omega
        have hX : X = xs ++ [0] := by have := hpad.out; rwa [if_pos h8] at this
        have hxl : xs.length = L / 8 := by have := hplen.out; rw [hX, List.length_append, List.length_singleton] at this; omega
        have hlt := hblk.lt
        have HOA : Hid ((wr.alloc (.cells #[.int .u8 0] 5)).ownsRow (g + 1) 5 1 v n2 (ints .u8 xs)) := Lib.hid (own_keeps hown ((Keeps.refl [] wr).alloc _) (by simp))
        have HRI : Hid (RI .u8 (wr.alloc (.cells #[.int .u8 0] 5)) (some ⟨wr.heap.size, 0, none⟩) 1 [0]) := Lib.hid (Blk.ri (xs := [0]) (ys := []) (k := .u8) (by simpa [ints] using blk_new wr 5 (ints .u8 [0])))
        have HBA := Lib.hid (HB.out.alloc (Nat.le_of_lt hlt) (.cells #[.int .u8 0] 5))
        have HPA := Lib.hid (HP.out.alloc (.cells #[.int .u8 0] 5))
        have HBK := Lib.hid (hblk.keeps ((Keeps.refl [] wr).alloc (.cells #[.int .u8 0] 5)) (by simp))
        have hn2b : n2 ≤ 100000032 := by omega
        have HN2 : Hid (n2 = L / 8) := Lib.hid (by rw [hn2, hxl])
        obtain ⟨vA, vc, rfl⟩ : ∃ A c, v = .slice A n2 c := own_formW hown
        clear hown hblk hn2 HW hpad
        go_wp2_with (at_builtin; refine app_bytes rfl (.tmp 40) (.tmp 41) rfl (g + 1) _ _ xs rfl (by exact HOA.out) _ 1 1 [0] rfl (by exact HRI.out) (by simp) (by omega) ?c4 ?_)
        case c4 => simp; omega
        intro v1 w1 ho1 hg1
        have hg0 : ∀ k, (Value.slice vA n2 vc).ownBlock = some k → g + 1 ≤ k := fun k hk => (HOA.out.lt k hk).1
        have hblk1 : Blk w1 g 110 [.slice vA n2 vc, .int .i64 L] := (hg1.block g (Nat.lt_trans hlt (by simp)) (fun e => by have := hg0 g e.symm; omega)).trans HBK.out
        have HB1 := Lib.hid (HBA.out.grown hg1 (by simp; omega) (fun k hk => by have := hg0 k hk; omega))
        have HP1 := Lib.hid (HPA.out.grown hg1 (own_u8 HOA.out))
        clear HPA HP
        rw [← hX, HN2.out] at ho1
        have ho1' : w1.ownsRow (g + 1) 5 1 v1 (L / 8 + 1) (ints .u8 X) := ho1
        obtain ⟨rb, cap, rfl, hrb1, hrb2⟩ := ho1'.form (by omega)
        have c0 := hblk1.cell 0
        have c1 := hblk1.cell 1
        simp only [List.getElem?_cons_zero, List.getElem?_cons_succ] at c0 c1
        have cf0 := hblk1.frozen 0
        have hS1 := ownsRow_setCell_below ho1' (a := ⟨g, 0, none⟩) (Nat.lt_succ_self g) (.slice (some ⟨rb, 0, none⟩) (L / 8 + 1) cap)
        have hS2 := hblk1.set 0 (.slice (some ⟨rb, 0, none⟩) (L / 8 + 1) cap)
        have hS3 := HB1.out.setCell (p := ⟨g, 0, none⟩) (Nat.le_refl g) (.slice (some ⟨rb, 0, none⟩) (L / 8 + 1) cap)
        have hP4 := HP1.out.setG 0 (.slice (some ⟨rb, 0, none⟩) (L / 8 + 1) cap)
        have hS4 : rb < (w1.setCell ⟨g, 0, none⟩ (.slice (some ⟨rb, 0, none⟩) (L / 8 + 1) cap)).heap.size := by simpa [World.setCell] using hrb2
        simp only [List.set_cons_zero] at hS2
        have HS := Lib.hid (And.intro hS1 (And.intro hS2 (And.intro hS3 hP4)))
        clear hS1 hS2 hS3 hP4 HP1 h0 h1 hf0 hf1 HOA HRI HBA HBK hblk1 ho1 ho1' HB1 hg1 HB hrb2
        go_upto_region 9 with (fail)
        obtain ⟨hown, hblk, hHB, hHP⟩ := HS.out
        clear HS c0 c1 cf0 hg0 HN2 hX hxl h8 e2
        generalize w1.setCell ⟨g, 0, none⟩ (.slice (some ⟨rb, 0, none⟩) (L / 8 + 1) cap) = ws at *
        have HB := Lib.hid hHB
        have HP := Lib.hid hHP
        have hrb2 := hS4
        have h0 := hblk.cell 0
        have h1 := hblk.cell 1
        simp only [List.getElem?_cons_zero, List.getElem?_cons_succ] at h0 h1
        have hf0 := hblk.frozen 0
        have hf1 := hblk.frozen 1
        clear hHB hHP hS4
        have hcl := hown.cellAt (L / 8) (by omega)
        have hfr := hown.frozenAt (L / 8)
        rw [show (ints .u8 X)[L / 8]? = some (.int .u8 (nth X (L / 8))) by rw [ints_getElem?]; simp [nth, List.getD, show L / 8 < X.length by rw [hplen.out]; omega]] at hcl
        have HST := Lib.hid (hown.stored (L / 8) (.int .u8 (nth X (L / 8) + x / 2 ^ j % 2 ^ k * 2 ^ (L % 8))))
        have T := Lib.hid (put_byte2 (nth X (L / 8)) (x / 2 ^ j) k (L % 8) hplast.out.1 hplast.out.2 hr0 hr1 hk8)
        have HBLK := Lib.hid hblk
        have HU := Lib.hid (own_u8 hown rb rfl)
        clear hown hblk
        have t1 : ((L : Int) % 8).toNat = L % 8 := by omega
        have t2 : (((L / 8 + 1 : Nat) : Int) - 1).toNat = L / 8 := by omega
        have t3 : (0 : Int) ≤ ((L / 8 + 1 : Nat) : Int) - 1 := by omega
        have t4 : ((L / 8 + 1 : Nat) : Int) - 1 < ((L / 8 + 1 : Nat) : Int) := by omega
        have hnb : rb ≠ g := by omega
        generalize nth X (L / 8) = b at *
        generalize x / 2 ^ j = r at *
        have hqb : L / 8 ≤ 100000032 := by omega
        generalize L / 8 = q at *
        have t5 : IntKind.i64.wrap (q : Int) = (q : Int) := IntWalk.i64_in _ (by omega)
        have t6 : (q : Int) < (q : Int) + 1 := by omega
        have t7 : (0 : Int) ≤ (q : Int) := by omega
        have t8 : (q : Int) < ((q + 1 : Nat) : Int) := by omega
        clear t2 t3 t4
        go_upto_region 10 with (fail)
        clear hk
        go_region
        rw [T.out]
        have hk2 : Keeps [rb] ws (ws.setCell ⟨rb, q, none⟩ (.int .u8 (b + r % 2 ^ k * 2 ^ (L % 8)))) := (Keeps.refl [rb] ws).setCell (p := ⟨rb, q, none⟩) (Or.inl (by simp)) _
        have hblk2 := HBLK.out.keeps hk2 (by simpa using Ne.symm hnb)
        have HB2 := Lib.hid (HB.out.setCell (p := ⟨rb, q, none⟩) (show g ≤ rb by omega) (.int .u8 (b + r % 2 ^ k * 2 ^ (L % 8))))
        have HP2 := Lib.hid (HP.out.setU HU.out q (.int .u8 (b + r % 2 ^ k * 2 ^ (L % 8))))
        obtain ⟨ho2, -⟩ := HST.out
        rw [show (ints .u8 X).set q (.int .u8 (b + r % 2 ^ k * 2 ^ (L % 8))) = ints .u8 (X.set q (b + r % 2 ^ k * 2 ^ (L % 8))) by simp [ints, List.map_set]] at ho2
        generalize ws.setCell ⟨rb, q, none⟩ (.int .u8 (b + r % 2 ^ k * 2 ^ (L % 8))) = w2 at *
        have h1' := hblk2.cell 1
        simp only [List.getElem?_cons_zero, List.getElem?_cons_succ] at h1'
        have hf1' := hblk2.frozen 1
        have HBLK2 := Lib.hid hblk2
        have HOWN2 := Lib.hid ho2
        have v1 : IntKind.i64.wrap ((L : Int) + k) = (L : Int) + k := IntWalk.i64_in _ (by omega)
        have v2 : IntKind.i64.wrap ((m : Int) - j - k) = (m : Int) - j - k := IntWalk.i64_in _ (by omega)
        clear hk2 hblk2 ho2 h0 h1 hf0 hf1 hfr hcl HBLK HST T HB HP HU
        go_wp2_with fail
        go_roundw
        case rel =>
          refine ⟨j + k, hkm, by go_num, by rw [← hnext.out], Lib.hid ?_, Lib.hid ?_, Lib.hid (HP2.out.drew.setG 1 _)⟩
          · refine ⟨_, _, _, ?_, ?_, ownsRow_setCell_below HOWN2.out.drew (a := ⟨g, 1, none⟩) (Nat.lt_succ_self g) _, hstep.out⟩
            · rw [List.length_set, hplen.out]
            · have := (HBLK2.out.keeps (Keeps.refl [] w2).drew (by simp)).set 1 (.int .i64 ((L : Int) + k))
              rw [show (bl ++ vbits x (j + k)).length = L + k by rw [List.length_append, vbits_len, HL.out]; omega]
              exact this
          · exact (HB2.out.trans ((Keeps.refl [] w2).drew.below.mono (Nat.le_of_lt HBLK2.out.lt))).setCell (p := ⟨g, 1, none⟩) (Nat.le_refl g) _
        case measure => simp [intOf]; omega
      · have e2 : ((L : Int) % 8 == 0) = false := by simp; omega
        have hX : X = xs := by have := hpad.out; rwa [if_neg h8] at this
        subst hX
        have hn3 : n2 = L / 8 + 1 := by rw [hn2, hplen.out]
        subst hn3
        obtain ⟨rb, cap, rfl, hrb1, hrb2⟩ := hown.form (by omega)
        obtain ⟨ws, hws⟩ : ∃ ws : World, ws = wr := ⟨_, rfl⟩
        rw [← hws] at hown hblk HB HP h0 h1 hf0 hf1 hrb2 ⊢
        clear hws HW
        have hcl := hown.cellAt (L / 8) (by omega)
        have hfr := hown.frozenAt (L / 8)
        rw [show (ints .u8 X)[L / 8]? = some (.int .u8 (nth X (L / 8))) by rw [ints_getElem?]; simp [nth, List.getD, show L / 8 < X.length by rw [hplen.out]; omega]] at hcl
        have HST := Lib.hid (hown.stored (L / 8) (.int .u8 (nth X (L / 8) + x / 2 ^ j % 2 ^ k * 2 ^ (L % 8))))
        have T := Lib.hid (put_byte2 (nth X (L / 8)) (x / 2 ^ j) k (L % 8) hplast.out.1 hplast.out.2 hr0 hr1 hk8)
        have HBLK := Lib.hid hblk
        have HU := Lib.hid (own_u8 hown rb rfl)
        clear hown hblk hn2 hpad
        have t1 : ((L : Int) % 8).toNat = L % 8 := by omega
        have t2 : (((L / 8 + 1 : Nat) : Int) - 1).toNat = L / 8 := by omega
        have t3 : (0 : Int) ≤ ((L / 8 + 1 : Nat) : Int) - 1 := by omega
        have t4 : ((L / 8 + 1 : Nat) : Int) - 1 < ((L / 8 + 1 : Nat) : Int) := by omega
        have hnb : rb ≠ g := by omega
        generalize nth X (L / 8) = b at *
        generalize x / 2 ^ j = r at *
        have hqb : L / 8 ≤ 100000032 := by omega
        generalize L / 8 = q at *
        have t5 : IntKind.i64.wrap (q : Int) = (q : Int) := IntWalk.i64_in _ (by omega)
        have t6 : (q : Int) < (q : Int) + 1 := by omega
        have t7 : (0 : Int) ≤ (q : Int) := by omega
        have t8 : (q : Int) < ((q + 1 : Nat) : Int) := by omega
        clear t2 t3 t4
        go_upto_region 10 with (fail)
        clear hk
        go_region
        rw [T.out]
        have hk2 : Keeps [rb] ws (ws.setCell ⟨rb, q, none⟩ (.int .u8 (b + r % 2 ^ k * 2 ^ (L % 8)))) := (Keeps.refl [rb] ws).setCell (p := ⟨rb, q, none⟩) (Or.inl (by simp)) _
        have hblk2 := HBLK.out.keeps hk2 (by simpa using Ne.symm hnb)
        have HB2 := Lib.hid (HB.out.setCell (p := ⟨rb, q, none⟩) (show g ≤ rb by omega) (.int .u8 (b + r % 2 ^ k * 2 ^ (L % 8))))
        have HP2 := Lib.hid (HP.out.setU HU.out q (.int .u8 (b + r % 2 ^ k * 2 ^ (L % 8))))
        obtain ⟨ho2, -⟩ := HST.out
        rw [show (ints .u8 X).set q (.int .u8 (b + r % 2 ^ k * 2 ^ (L % 8))) = ints .u8 (X.set q (b + r % 2 ^ k * 2 ^ (L % 8))) by simp [ints, List.map_set]] at ho2
        generalize ws.setCell ⟨rb, q, none⟩ (.int .u8 (b + r % 2 ^ k * 2 ^ (L % 8))) = w2 at *
        have h1' := hblk2.cell 1
        simp only [List.getElem?_cons_zero, List.getElem?_cons_succ] at h1'
        have hf1' := hblk2.frozen 1
        have HBLK2 := Lib.hid hblk2
        have HOWN2 := Lib.hid ho2
        have v1 : IntKind.i64.wrap ((L : Int) + k) = (L : Int) + k := IntWalk.i64_in _ (by omega)
        have v2 : IntKind.i64.wrap ((m : Int) - j - k) = (m : Int) - j - k := IntWalk.i64_in _ (by omega)
        clear hk2 hblk2 ho2 h0 h1 hf0 hf1 hfr hcl HBLK HST T HB HP HU
        go_wp2_with fail
        go_roundw
        case rel =>
          refine ⟨j + k, hkm, by go_num, by rw [← hnext.out], Lib.hid ?_, Lib.hid ?_, Lib.hid (HP2.out.drew.setG 1 _)⟩
          · refine ⟨_, _, _, ?_, ?_, ownsRow_setCell_below HOWN2.out.drew (a := ⟨g, 1, none⟩) (Nat.lt_succ_self g) _, hstep.out⟩
            · rw [List.length_set, hplen.out]
            · have := (HBLK2.out.keeps (Keeps.refl [] w2).drew (by simp)).set 1 (.int .i64 ((L : Int) + k))
              rw [show (bl ++ vbits x (j + k)).length = L + k by rw [List.length_append, vbits_len, HL.out]; omega]
              exact this
          · exact (HB2.out.trans ((Keeps.refl [] w2).drew.below.mono (Nat.le_of_lt HBLK2.out.lt))).setCell (p := ⟨g, 1, none⟩) (Nat.le_refl g) _
        case measure => simp [intOf]; omega
    · obtain rfl : j = m := by omega
      have e1 : ((j : Int) - j == 0) = true := by simp
      go_wp2_with fail
      dsimp only [Exit.noGoto]
      go_ret
      exact ⟨rfl, HW.out, HB.out, HP.out⟩

theorem size_u8b : (Tryd.prog.info? 5).map (·.size) = some 1 := by kernel_rfl
set_option maxRecDepth 100000 in
set_option maxHeartbeats 400000 in
theorem bytes_calls (w : World) (g : Nat) (bl : List Int) (hw : Wtr w g bl) (hb : bl.length ≤ 100000000) :
    Calls Tryd.prog 48 #[.pointer (some ⟨g, 0, none⟩)] w fun e w' => ∃ (n : Nat) (xs : List Int), e = .returned (.slice (some ⟨w.heap.size, 0, none⟩) n n) ∧ RI .u8 w' (some ⟨w.heap.size, 0, none⟩) n xs ∧ WB xs bl ∧ Below w.heap.size w w' := by
  obtain ⟨xs, v, n, hn, hblk, hown, hwb⟩ := hw
  obtain ⟨A, c, rfl⟩ := own_formW hown
  obtain ⟨A', c', hv, hri, -, -⟩ := own_ri hown
  injection hv with h1 h2 h3
  subst h1
  subst h3
  have hnb : n ≤ 12500001 := by have := hwb.len; omega
  have h0 := hblk.cell 0
  simp only [List.getElem?_cons_zero] at h0
  have hlt := hblk.lt
  have LX : Hid (xs.length = n) := Lib.hid hn.symm
  have HX := Lib.hid hri
  have HWB := Lib.hid hwb
  clear hown hri hwb hn hblk
  have hmk := fun w => make_ints (P := Tryd.prog) w 37 5 .u8 1 Tryd.underlying37 info_u8 (n : Int) n rfl (by omega) (by omega)
  go_enter Tryd.func48, Tryd.ntmps48
  go_wp2_with (with_reducible refine wpList_copy_splice rfl (.tmp 12) (.tmp 16) _ _ rfl 5 Tryd.underlying37 size_u8b _ _ _ _ _ _ rfl rfl w.heap.size 0 (ints .u8 (List.replicate n 0)) 5 ?h1 (ints .u8 xs) ?h2 ?h3 ?h4 ?h5 w.heap.size w ?h6 (Nat.le_refl _) ?_)
  case h1 => first | exact blk_new w _ _ | exact (Array.getElem?_eq_some_iff.1 (blk_new w 5 (ints .u8 (List.replicate n 0)))).2
  case h2 => have := LX.out; simp [ints]; omega
  case h3 =>
    intro hp
    obtain ⟨a, o, ha⟩ := HX.out.hd (by have := LX.out; simpa [ints, this] using hp)
    refine ⟨_, ha, fun j v hv => ?_⟩
    have hj : j < n := by have := LX.out; have := (List.getElem?_eq_some_iff.1 hv).1; simp [ints] at this; omega
    have hc := HX.out.cell a o ha j hj
    have e : (ints .u8 xs)[j]? = some (.int .u8 (nth xs j)) := by rw [ints_getElem?]; simp [nth, List.getD, show j < xs.length from by have := LX.out; omega]
    rw [e] at hv
    rw [← Option.some.inj hv, add_plain2]
    exact (Keeps.refl [] w).alloc _ |>.cell (by simp) hc
  case h4 => have := LX.out; simp [ints]; omega
  case h5 => intro v hv; simp only [ints, List.mem_map] at hv; obtain ⟨x, _, rfl⟩ := hv; rfl
  case h6 => exact (Below.refl _ _).alloc (Nat.le_refl _) _
  intro w1 hg1 hb1
  have hB : Blk w1 w.heap.size 5 (splice (ints .u8 (List.replicate n 0)) 0 (ints .u8 xs)) := hg1.out
  have hsp : splice (ints .u8 (List.replicate n 0)) 0 (ints .u8 xs) = ints .u8 (xs ++ []) := by
    have := LX.out
    simp [splice, ints, this]
  rw [hsp] at hB
  have HR2 := Lib.hid hB.ri
  have HB1 := Lib.hid hb1
  clear hg1 hsp hB hmk hb1
  go_wp2
  go_ret
  exact ⟨n, xs, rfl, by have := HR2.out; rwa [LX.out] at this, HWB.out, HB1.out⟩
end Go.Proofs.YtcblibefmclloaaDoor
