import Derived.Test.YtcblibefmclloaaDoorIStrG
import Derived.Laws.AppendOwnNone
import Derived.Laws.OwnMore
import Derived.Lib.SliceRun
import Derived.Test.YtcblibefmclloaaDoorIStrC
import Derived.Test.YtcblibefmclloaaDoorIStrB
import Derived.Deep.RegionWith
import Derived.BigQuiet
set_option linter.unusedVariables false
set_option linter.unusedSimpArgs false
namespace Go.Proofs.YtcblibefmclloaaDoor
open Go.RowKit
/-- 's = append(s, ys...)' of numbers, whatever slice the source is. -/
theorem app_any {ops : Array Oper} {rest : List Oper} {o : Oper} {a : Act} {Q : Exit → Act → World → Prop} {w : World} (hgd : o.guard = none) (s x : Operand)
    (ho : o.op = .call { callee := .builtin .append, args := #[s, x], argTypes := #[22, 22] })
    (base : Nat) (v : Value) (n : Nat) (xs : List Int) (hs : a.eval s = v) (hown : w.ownsRow base 3 1 v n (ints .i64 xs))
    (A : Option Addr) (m c : Nat) (ys : List Int) (hx : a.eval x = .slice A m c) (hy : RI .i64 w A m ys) (hnil : A = none → m = 0 ∧ c = 0) (hpl : ∀ ad, A = some ad → ∃ b o, ad = ⟨b, o, none⟩)
    (hn : n + m ≤ 1000000) (hbase : base ≤ w.heap.size)
    (h : ∀ v' w', w'.ownsRow base 3 1 v' (n + m) (ints .i64 (xs ++ ys)) → w.grownBy w' v.ownBlock → wpList Tryd.prog ops Q rest (a.put o.dst v') w') : wpList Tryd.prog ops Q (o :: rest) a w := by
  obtain ⟨i0, hi, hz0, hz1, hz2⟩ := info_parts info_int
  cases A with
  | none =>
    obtain ⟨rfl, rfl⟩ := hnil rfl
    obtain rfl : ys = [] := List.eq_nil_of_length_eq_zero hy.len
    refine wpList_append_own_none hgd s x 22 ho base 3 i0 1 Tryd.underlying22 hi v n (ints .i64 xs) hs hown hx ?_
    exact h v w (by simpa using hown) ⟨rfl, rfl, rfl, Nat.le_refl _, fun _ _ _ => rfl⟩
  | some ad =>
    obtain ⟨b, of, rfl⟩ := hpl ad rfl
    refine wpList_append_own _ hgd s x 22 ho base 3 i0 (.int .i64 0) 1 8 Tryd.underlying22 hi hz0 hz1 hz2 rfl (by decide) v n (ints .i64 xs) hs hown ⟨b, of, none⟩ m c (ints .i64 ys) hx (by simp [ints, hy.len]) ?_ (ints_one _ _) (by unfold maxLen; omega) (by omega) hbase ?_
    · intro j u hu
      have hj : j < m := by have := (List.getElem?_eq_some_iff.1 hu).1; have := hy.len; simp [ints] at *; omega
      rw [add_plain2]
      have hc := hy.cell b of rfl j hj
      rw [hc, ← hu, ints_getElem?]
      simp [nth, List.getD, show j < ys.length by have := hy.len; omega]
    · intro v' w' h2 h3 _
      have e : ints .i64 (xs ++ ys) = ints .i64 xs ++ ints .i64 ys := by simp [ints]
      rw [e] at h
      exact h v' w' h2 h3
/-- What adding a step answers by the document. -/
def WithV (w : World) (r : Option (List Int)) (e : Ending) (w' : World) : Prop :=
  match r with
  | some l => ∃ v, e = .returned (.tuple #[v, .int .i64 0]) ∧ w'.ownsRow w.heap.size 3 1 v l.length (ints .i64 l) ∧ Below w.heap.size w w'
  | none => e = .returned (.tuple #[.slice none 0 0, .int .i64 41]) ∧ Below w.heap.size w w'
theorem new_ri (w : World) (t : TypeId) (v : Int) : RI .i64 (w.alloc (.cells #[.int .i64 v] t)) (some ⟨w.heap.size, 0, none⟩) 1 [v] := by
  have h : Blk (w.alloc (.cells (ints .i64 [v]).toArray t (0, 0))) w.heap.size t (ints .i64 ([v] ++ [])) := blk_new w t _
  exact h.ri
set_option maxRecDepth 100000 in
set_option maxHeartbeats 1000000 in
theorem with_calls (w : World) (len c : Nat) (A : Option Addr) (l : List Int) (sym extra n : Int) (hl : RI .i64 w A len l) (hn : len ≤ 1000) (hnil : A = none → len = 0 ∧ c = 0) (hpl : ∀ ad, A = some ad → ∃ b o, ad = ⟨b, o, none⟩) :
    Calls Tryd.prog 57 #[.slice A len c, .agg #[.int .i64 sym, .int .i64 extra], .int .i64 n] w (WithV w (addF l sym extra n)) := by
  have HL := Lib.hid hl
  have HNIL := Lib.hid hnil
  have HPL := Lib.hid hpl
  clear hl hnil hpl
  go_enter Tryd.func57, Tryd.ntmps57
  go_wp2_with fail
  refine (says_calls _ _ _ _ l _ _ (HL.out.keeps ((Keeps.refl _ _).alloc _) (off_nil _)) (by omega)).mono ?_
  rintro e w1 ⟨rfl, hk⟩
  have HK := Lib.hid ((Keeps.refl [] w).alloc _ |>.trans hk)
  clear hk
  cases hs : sayF l sym extra with
  | none =>
    have HR := Lib.hid (addF_none (n := n) hs)
    rw [saidV]
    clear hs
    go_wp2_with fail
    go_ret2
    rw [HR.out]
    exact ⟨rfl, HK.out.below⟩
  | some p =>
    obtain ⟨v, k⟩ := p
    have hkp := sayF_pos hs
    have HS := Lib.hid hs
    rw [saidV]
    clear hs
    by_cases hm : n < (len : Int) + (k : Int)
    · have HR := Lib.hid (addF_many (n := n) HS.out (by have := HL.out.len; omega))
      go_wp2_with fail
      go_ret2
      rw [HR.out]
      exact ⟨rfl, HK.out.below⟩
    · have HR := Lib.hid (addF_some (n := n) HS.out (by have := HL.out.len; omega))
      have hsz := HK.out.size
      go_wp2_with (at_builtin; refine app_any rfl (.tmp 30) (.tmp 31) rfl w.heap.size _ _ [] rfl (World.ownsRow_nil _ _ _ _) A len c l rfl (HL.out.keeps HK.out (off_nil _)) HNIL.out HPL.out (by omega) hsz ?_)
      intro v1 w2 h1 hg1
      have H1 := Lib.hid h1
      have HB1 := Lib.hid (HK.out.below.grown hg1 hsz (fun k hk => by simp [Value.ownBlock] at hk))
      clear h1 hg1
      go_wp2_with fail
      go_loopw [11, 12] (fun u i wr => ∃ j : Nat, j ≤ k ∧ i = .int .i64 j ∧ Hid (wr.ownsRow w.heap.size 3 1 u (len + j) (ints .i64 (l ++ List.replicate j v))) ∧ Hid (Below w.heap.size w wr)) (fun _ i _ => k - (intOf i).toNat)
      case atStart => exact ⟨0, by omega, rfl, Lib.hid (by simpa using H1.out), HB1⟩
      case round =>
        clear H1 HB1
        obtain ⟨j, hj, rfl, HO, HW⟩ := hrel
        have hsz2 := HW.out.size
        by_cases hlt : j < k
        · go_wp2_with (at_builtin; refine app_ints rfl (.tmp 38) (.tmp 40) rfl w.heap.size _ _ _ rfl (HO.out.alloc _) wr.heap.size 1 1 [v] rfl (new_ri _ _ _) (by omega) (by simp; omega) ?_)
          intro v1 w2 h1 hg1
          have H1 := Lib.hid h1
          have HB1 := Lib.hid ((HW.out.alloc (by omega) _).grown hg1 (by simp; omega) (fun k hk => (HO.out.lt k hk).1))
          clear h1 hg1 HO HW
          go_wp2_with fail
          go_roundw
          case rel => exact ⟨j + 1, by omega, by go_num, Lib.hid (by rw [List.replicate_succ']; simpa [Nat.add_assoc] using H1.out), HB1⟩
          case measure => simp [intOf]; omega
        · obtain rfl : j = k := by omega
          go_wp2_with fail
          go_ret2
          rw [HR.out]
          refine ⟨_, rfl, ?_, HW.out⟩
          rw [show (l ++ List.replicate j v).length = len + j by have := HL.out.len; simp; omega]
          exact HO.out
end Go.Proofs.YtcblibefmclloaaDoor

set_option linter.unusedVariables false
set_option linter.unusedSimpArgs false
namespace Go.Proofs.YtcblibefmclloaaDoor
open Go.RowKit
def sLen : Value → Nat
  | .slice _ n _ => n
  | _ => 0
set_option maxRecDepth 100000 in
set_option maxHeartbeats 400000 in
theorem cloneI_calls (w : World) (A : Option Addr) (n c : Nat) (xs : List Int) (hx : RI .i64 w A n xs) (hnil : A = none → n = 0 ∧ c = 0) (hpl : ∀ ad, A = some ad → ∃ b o, ad = ⟨b, o, none⟩) (hn : n ≤ 100000) :
    Calls Tryd.prog 82 #[.slice A n c] w fun e w' => ∃ v, e = .returned v ∧ w'.ownsRow w.heap.size 3 1 v n (ints .i64 xs) ∧ Below w.heap.size w w' := by
  have HX := Lib.hid hx
  have HP := Lib.hid hpl
  clear hx hpl
  go_enter Tryd.func82, Tryd.ntmps82
  cases A with
  | none =>
    obtain ⟨rfl, rfl⟩ := hnil rfl
    obtain rfl : xs = [] := List.eq_nil_of_length_eq_zero HX.out.len
    have hq := fun w => Lib.run_eql_slice_nil (P := Tryd.prog) w 22 3 none 0 0 0 0 Tryd.underlying22
    go_wp2_with fail
    go_ret
    exact ⟨_, rfl, World.ownsRow_nil _ _ _ _, Below.refl _ _⟩
  | some ad =>
    obtain ⟨b, o, rfl⟩ := HP.out ad rfl
    have hq := fun w => Lib.run_eql_slice_nil (P := Tryd.prog) w 22 3 (some ⟨b, o, none⟩) n c 0 0 Tryd.underlying22
    have HO : Hid ((w.alloc (.cells #[] 3)).ownsRow w.heap.size 3 1 (.slice (some ⟨w.heap.size, 0, none⟩) 0 0) 0 (ints .i64 [])) := Lib.hid (World.ownsRow_lit w #[] 0 (Nat.le_refl _) (by decide) rfl)
    have HR := Lib.hid (HX.out.keeps ((Keeps.refl [] w).alloc (.cells #[] 3)) (off_nil _))
    go_wp2_with (at_builtin; refine app_any rfl (.tmp 5) (.tmp 6) rfl w.heap.size _ _ [] rfl (by exact HO.out) (some ⟨b, o, none⟩) n c xs rfl (by exact HR.out) (by simp) (by intro ad h; exact ⟨_, _, (Option.some.inj h).symm⟩) (by omega) (by simp) ?_)
    intro v1 w1 ho1 hg1
    have HB1 := Lib.hid ((((Below.refl w.heap.size w).alloc (Nat.le_refl _) (.cells #[] 3))).grown hg1 (by simp) (fun k hk => (HO.out.lt k hk).1))
    have HO1 := Lib.hid ho1
    clear ho1 hg1
    go_wp2_with fail
    go_ret
    exact ⟨_, rfl, by simpa using HO1.out, HB1.out⟩
end Go.Proofs.YtcblibefmclloaaDoor

set_option linter.unusedVariables false
set_option linter.unusedSimpArgs false
namespace Go.Proofs.YtcblibefmclloaaDoor
open Go.RowKit
theorem own_full {w : World} {base : Nat} {e : TypeId} {v : Value} {n : Nat} {k : IntKind} {xs : List Int} (h : w.ownsRow base e 1 v n (ints k xs)) :
    ∃ A c, v = .slice A n c ∧ RI k w A n xs ∧ n ≤ c ∧ (A = none → n = 0 ∧ c = 0) ∧ (∀ ad, A = some ad → ∃ b o, ad = ⟨b, o, none⟩) ∧ (∀ a, A = some a → base ≤ a.block ∧ a.block < w.heap.size) := by
  obtain ⟨A, c, rfl, h1, h2, h3⟩ := own_ri h
  refine ⟨A, c, rfl, h1, h2, ?_, ?_, fun a ha => ⟨(h3 a ha).1, (h3 a ha).2.1⟩⟩
  · rintro rfl
    rcases h.2 with ⟨h4, h5⟩ | ⟨g, cap, cur, h4, _⟩
    · injection h4 with _ _ h6
      exact ⟨h5, h6⟩
    · injection h4 with h6; cases h6
  · rintro ad rfl
    rcases h.2 with ⟨h4, h5⟩ | ⟨g, cap, cur, h4, _⟩
    · injection h4 with h6; cases h6
    · injection h4 with h6; injection h6 with h7; exact ⟨g, 0, h7⟩
set_option maxRecDepth 100000 in
set_option maxHeartbeats 1000000 in
theorem refUnpack_calls (w : World) (A : Option Addr) (m c : Nat) (xs : List (Int × Int)) (n : Int) (hx : RP w A m xs) (hm : m ≤ 140737488355328) :
    Calls Tryd.prog 22 #[.slice A m c, .int .i64 n] w (Unpacked w (unpackF xs n)) := by
  have HX := Lib.hid hx
  clear hx
  by_cases h0 : n < 0
  · have e1 : decide (n < 0) = true := by simpa using h0
    go_enter Tryd.func22, Tryd.ntmps22
    go_wp2_with fail
    go_ret2
    exact unpacked_nil _ _ _ _ (unpackF_arg (Or.inl h0)) (Below.refl _ _)
  · have e1 : decide (n < 0) = false := by simpa using h0
    by_cases h1 : 316 < n
    · have e2 : decide (316 < n) = true := by simpa using h1
      go_enter Tryd.func22, Tryd.ntmps22
      go_wp2_with fail
      go_ret2
      exact unpacked_nil _ _ _ _ (unpackF_arg (Or.inr h1)) (Below.refl _ _)
    · have e2 : decide (316 < n) = false := by simpa using h1
      go_enter Tryd.func22, Tryd.ntmps22
      go_wp2_with fail
      clear e1 e2
      go_loopw [6, 7] (fun u i wr => ∃ (k : Nat) (l : List Int), k ≤ m ∧ i = .int .i64 k ∧ (l.length : Int) ≤ n ∧ Hid (wr.ownsRow w.heap.size 3 1 u l.length (ints .i64 l)) ∧ Hid (unpackTo [] xs n = unpackTo l (xs.drop k) n) ∧ Hid (Below w.heap.size w wr)) (fun _ i _ => m - (intOf i).toNat)
      case atStart => exact ⟨0, [], by omega, rfl, by simp; omega, Lib.hid (World.ownsRow_nil _ _ _ _), Lib.hid (by simp), Lib.hid (Below.refl _ _)⟩
      case round =>
        obtain ⟨k, l, hk, rfl, hl, HO, HP, HW⟩ := hrel
        by_cases hlt : k < m
        · obtain ⟨b, o, rfl⟩ := HX.out.hd (by omega)
          obtain ⟨c1, c2⟩ := HX.out.cell b o rfl k hlt
          have hd := pth_drop (show k < xs.length by have := HX.out.len; omega)
          have c1' := (Keeps.of_below (S := []) HW.out).cell (by simp) c1
          have c2' := (Keeps.of_below (S := []) HW.out).cell (by simp) c2
          have HD := Lib.hid hd
          clear c1 c2 hd
          have hsz := HW.out.size
          obtain ⟨A1, cc, rfl, hri, hcap, hnil, hpl, hblk⟩ := own_full HO.out
          have HRI := Lib.hid hri
          have HN := Lib.hid hnil
          have HPL := Lib.hid hpl
          clear hri hblk hcap hnil hpl
          go_wp2_with fail
          refine (with_calls _ _ _ _ l _ _ n HRI.out (by omega) HN.out HPL.out).mono ?_
          intro e w2 ha
          have hp := HP.out
          rw [HD.out] at hp
          cases hadd : addF l (pth xs k).1 (pth xs k).2 n with
          | none =>
            rw [hadd] at ha
            obtain ⟨rfl, hb⟩ := ha
            rw [unpackTo_stop hadd] at hp
            have HP2 := Lib.hid hp
            have HB := Lib.hid (HW.out.trans (hb.mono hsz))
            clear hp hb hadd
            go_wp2_with fail
            go_ret2
            exact unpacked_nil _ _ _ _ (unpackF_none (by omega) (by omega) HP2.out) HB.out
          | some l' =>
            rw [hadd] at ha
            obtain ⟨v', rfl, ho, hb⟩ := ha
            rw [unpackTo_cons hadd] at hp
            have hlen := addF_len hadd
            have HP2 := Lib.hid hp
            have HB := Lib.hid (HW.out.trans (hb.mono hsz))
            have HO2 := Lib.hid (ho.mono hsz)
            clear hp hb hadd ho
            go_wp2_with fail
            go_roundw
            case rel => exact ⟨k + 1, l', by omega, by go_num, hlen.2, HO2, HP2, HB⟩
            case measure => simp [intOf]; omega
        · obtain rfl : k = m := by omega
          have hp := HP.out
          rw [List.drop_eq_nil_of_le (by have := HX.out.len; omega), unpackTo] at hp
          have HP2 := Lib.hid hp
          clear hp
          obtain ⟨A1, cc, rfl, hri, hcap, hblk⟩ := own_ri HO.out
          clear hri hcap hblk
          by_cases hfew : (l.length : Int) < n
          · have e5 : decide ((l.length : Int) < n) = true := by simpa using hfew
            go_wp2_with fail
            go_ret2
            exact unpacked_nil _ _ _ _ (unpackF_few (by omega) (by omega) HP2.out hfew) HW.out
          · have e5 : decide ((l.length : Int) < n) = false := by simpa using hfew
            go_wp2_with fail
            go_ret2
            rw [unpackF_ok (by omega) (by omega) HP2.out (by omega)]
            exact ⟨_, rfl, HO.out, HW.out⟩
end Go.Proofs.YtcblibefmclloaaDoor

set_option linter.unusedVariables false
set_option linter.unusedSimpArgs false
namespace Go.Proofs.YtcblibefmclloaaDoor
open Go.RowKit
/-- Reading bits, whatever has gone wrong before. -/
def TookP (w : World) (rb eb g : Nat) (A : Option Addr) (c q n : Nat) (e : Int) (bs : List Int) (r : Ending) (w' : World) : Prop :=
  ∃ (v : Int) (q' : Nat) (e' : Int), r = .returned (.int .i64 v) ∧ Hd w' rb eb g A c bs q' e' ∧ Keeps [g, eb] w w' ∧ 0 ≤ v ∧ v < 256 ∧ q ≤ q' ∧
    ((e = 0 ∧ q + n ≤ 8 * bs.length ∧ e' = 0 ∧ v = numB bs q n ∧ q' = q + n) ∨ ((e ≠ 0 ∨ 8 * bs.length < q + n) ∧ e' = 10))
theorem read1_any (w : World) (rb eb g : Nat) (A : Option Addr) (c q n : Nat) (e : Int) (bs : List Int) (h : Hd w rb eb g A c bs q e) (he : e = 0 ∨ e = 10) (hn : n ≤ 8) :
    Calls Tryd.prog 79 #[.int .i64 n, .pointer (some ⟨rb, 0, none⟩), .pointer (some ⟨eb, 0, none⟩)] w (TookP w rb eb g A c q n e bs) := by
  obtain ⟨n0, n1⟩ := numB_lt bs q n
  have n2 := pow_le8 n hn
  by_cases hf : q + n ≤ 8 * bs.length
  · refine (read1_ok w rb eb g A c bs q n e h (by omega) hf).mono ?_
    rintro r w' ⟨rfl, h1, h2⟩
    refine ⟨_, _, _, rfl, h1, h2, n0, by omega, by omega, ?_⟩
    rcases he with rfl | rfl
    · exact .inl ⟨rfl, hf, rfl, rfl, rfl⟩
    · exact .inr ⟨.inl (by decide), rfl⟩
  · refine (read1_end w rb eb g A c bs q n e h (by omega) (by omega)).mono ?_
    rintro r w' ⟨rfl, h1, h2⟩
    refine ⟨_, _, _, rfl, h1, h2, by omega, by omega, Nat.le_refl _, .inr ⟨.inr (by omega), ?_⟩⟩
    rcases he with rfl | rfl <;> rfl
theorem Keeps.under {S : List Nat} {w w1 w2 : World} {B : Nat} (h : Keeps S w w1) (hb : Below B w1 w2) (hB : w.heap.size ≤ B) : Keeps S w w2 :=
  ⟨hb.os.trans h.os, hb.tape.trans h.tape, hb.output.trans h.output, Nat.le_trans h.size hb.size, fun k hk hs => (hb.block k (by omega)).trans (h.block k hk hs)⟩
theorem Rdr.below {w w' : World} {B g : Nat} {A : Option Addr} {c : Nat} {bs : List Int} {p : Nat} (h : Rdr w g A c bs p) (hb : Below B w w') (hg : g < B) (ha : ∀ a, A = some a → a.block < B) : Rdr w' g A c bs p :=
  ⟨(hb.block g hg).trans h.blk, h.ri.below hb ha, h.off, h.le, h.byte, h.size⟩
theorem codes_moreP {T q q' i p o : Nat} {E E' v : Int} {bs cs : List Int}
    (hcL : cL bs (p + 14) (i + 1) = (cL bs (p + 14) i).set o (numB bs (p + 14 + 3 * i) 3))
    (hI : (p + 14 + 3 * i ≤ T ∧ E = 0 ∧ q = p + 14 + 3 * i ∧ cs = cL bs (p + 14) i) ∨ (T < p + 14 + 3 * i ∧ E = 10))
    (hc : (E = 0 ∧ q + 3 ≤ T ∧ E' = 0 ∧ v = numB bs q 3 ∧ q' = q + 3) ∨ ((E ≠ 0 ∨ T < q + 3) ∧ E' = 10)) :
    (E' = 0 ∨ E' = 10) ∧ ((p + 14 + 3 * (i + 1) ≤ T ∧ E' = 0 ∧ q' = p + 14 + 3 * (i + 1) ∧ cs.set o v = cL bs (p + 14) (i + 1)) ∨ (T < p + 14 + 3 * (i + 1) ∧ E' = 10)) := by
  refine ⟨by omega, ?_⟩
  rcases hI with ⟨a1, rfl, rfl, rfl⟩ | ⟨a1, rfl⟩
  · rcases hc with ⟨_, b1, rfl, rfl, rfl⟩ | ⟨b1, rfl⟩
    · exact .inl ⟨by omega, rfl, by omega, hcL.symm⟩
    · exact .inr ⟨by omega, rfl⟩
  · rcases hc with ⟨b0, _⟩ | ⟨_, rfl⟩
    · exact absurd b0 (by decide)
    · exact .inr ⟨by omega, rfl⟩
theorem keeps_ge {g eb : Nat} {w w1 w2 : World} (h : Keeps [g] w w1) (hk : Keeps [g, eb] w1 w2) (he : w.heap.size ≤ eb) : Keeps [g] w w2 := h.then hk (fun x hx => by
  rcases List.mem_cons.1 hx with rfl | hx
  · exact Or.inl (by simp)
  · rw [List.mem_singleton.1 hx]; exact Or.inr he)
/-- What the head's inner reading is to give. -/
def ReadP (w : World) (g : Nat) (A : Option Addr) (c : Nat) (bs : List Int) (p : Nat) (h : List Int × List Int × Nat × Int) (e : Ending) (w' : World) : Prop :=
  ∃ (v1 v2 : Value) (q : Nat), e = .returned (.tuple #[v1, v2, .int .i64 h.2.2.2]) ∧ w'.ownsRow w.heap.size 3 1 v1 h.1.length (ints .i64 h.1) ∧ w'.ownsRow w.heap.size 3 1 v2 h.2.1.length (ints .i64 h.2.1) ∧
    Rdr w' g A c bs q ∧ p ≤ q ∧ (h.2.2.2 = 0 → q = p + h.2.2.1) ∧ Keeps [g] w w'
theorem readP_err {w w' : World} {g : Nat} {A : Option Addr} {c : Nat} {bs : List Int} {p q : Nat} {h : List Int × List Int × Nat × Int} {e : Int} (hh : h = ([], [], 0, e)) (he : e ≠ 0) (hr : Rdr w' g A c bs q) (hp : p ≤ q) (hk : Keeps [g] w w') :
    ReadP w g A c bs p h (.returned (.tuple #[.slice none 0 0, .slice none 0 0, .int .i64 e])) w' := by
  subst hh
  exact ⟨_, _, q, rfl, World.ownsRow_nil _ _ _ _, World.ownsRow_nil _ _ _ _, hr, hp, fun h => absurd h he, hk⟩
set_option maxRecDepth 100000 in
set_option maxHeartbeats 4000000 in
theorem read_calls (w : World) (g : Nat) (A : Option Addr) (c : Nat) (bs : List Int) (p : Nat) (hT : Tabs w) (hg : gtop ≤ g) (hr : Rdr w g A c bs p) (ha : ∀ a, A = some a → a.block < w.heap.size) :
    Calls Tryd.prog 58 #[.pointer (some ⟨g, 0, none⟩)] w (ReadP w g A c bs p (headF bs p)) := by
  have hglt := hr.lt
  have hple := hr.le
  have hsz := hr.size
  obtain ⟨rb, hrb⟩ : ∃ x, x = w.heap.size := ⟨_, rfl⟩
  obtain ⟨eb, heb⟩ : ∃ x, x = w.heap.size + 1 := ⟨_, rfl⟩
  obtain ⟨w0, hw0⟩ : ∃ w0, w0 = (w.alloc (.cells #[.pointer (some ⟨g, 0, none⟩)] 38)).alloc (.cells #[.int .i64 0] 26) := ⟨_, rfl⟩
  have k1 : Keeps [] w w0 := by rw [hw0]; exact ((Keeps.refl [] w).alloc _).alloc _
  have H0 : Hid (Hd w0 rb eb g A c bs p 0) := by
    rw [hrb, heb, hw0]
    exact Lib.hid ⟨by rw [← hw0]; exact hr.dr k1, ⟨by simp, by simp⟩, ⟨by simp, by simp⟩, by omega, by omega, ha⟩
  have K0 := Lib.hid (k1.mono (by simp) : Keeps [g] w w0)
  have HT := Lib.hid hT
  have HRB : Hid (w.heap.size ≤ rb) := Lib.hid (by omega)
  have HEB : Hid (w.heap.size ≤ eb) := Lib.hid (by omega)
  have HA := Lib.hid ha
  have hre : rb < eb := by omega
  have hgr : g < rb := by omega
  clear hr ha hT k1
  go_enter Tryd.func58, Tryd.ntmps58
  go_wp2_with fail
  change Calls _ _ #[.int .i64 5, .pointer (some ⟨w.heap.size, 0, none⟩), .pointer (some ⟨w.heap.size + 1, 0, none⟩)] ((w.alloc (.cells #[.pointer (some ⟨g, 0, none⟩)] 38)).alloc (.cells #[.int .i64 0] 26)) _
  rw [← hw0, ← heb, ← hrb]
  clear hw0 hrb heb
  refine (read1_any _ _ _ _ _ _ p 5 0 bs H0.out (.inl rfl) (by omega)).mono ?_
  rintro _ w1 ⟨v1, q1, E1, rfl, hh1, hk1, v10, v11, hq1, hc1⟩
  have H1 := Lib.hid hh1
  have K1 := Lib.hid (K0.out.then hk1 (fun x hx => by
    rcases List.mem_cons.1 hx with rfl | hx
    · exact Or.inl (by simp)
    · rw [List.mem_singleton.1 hx]; exact Or.inr HEB.out))
  have hE1 : E1 = 0 ∨ E1 = 10 := by omega
  clear hh1 hk1 H0 K0
  go_wp2_with fail
  refine (read1_any _ _ _ _ _ _ q1 5 E1 bs H1.out hE1 (by omega)).mono ?_
  rintro _ w2 ⟨v2, q2, E2, rfl, hh1, hk1, v20, v21, hq2, hc2⟩
  have H2 := Lib.hid hh1
  have K2 := Lib.hid (K1.out.then hk1 (fun x hx => by
    rcases List.mem_cons.1 hx with rfl | hx
    · exact Or.inl (by simp)
    · rw [List.mem_singleton.1 hx]; exact Or.inr HEB.out))
  have hE2 : E2 = 0 ∨ E2 = 10 := by omega
  clear hh1 hk1 H1 K1
  go_wp2_with fail
  refine (read1_any _ _ _ _ _ _ q2 4 E2 bs H2.out hE2 (by omega)).mono ?_
  rintro _ w3 ⟨v3, q3, E3, rfl, hh1, hk1, v30, v31, hq3, hc3⟩
  have H3 := Lib.hid hh1
  have K3 := Lib.hid (K2.out.then hk1 (fun x hx => by
    rcases List.mem_cons.1 hx with rfl | hx
    · exact Or.inl (by simp)
    · rw [List.mem_singleton.1 hx]; exact Or.inr HEB.out))
  have hpq : p ≤ q3 := by omega
  have HC : Hid ((p + 14 ≤ 8 * bs.length ∧ E3 = 0 ∧ v1 = numB bs p 5 ∧ v2 = numB bs (p + 5) 5 ∧ v3 = numB bs (p + 10) 4 ∧ q3 = p + 14) ∨ (8 * bs.length < p + 14 ∧ E3 = 10)) := by
    rcases hc1 with ⟨_, a1, rfl, rfl, rfl⟩ | ⟨a1, rfl⟩
    · rcases hc2 with ⟨_, a2, rfl, rfl, rfl⟩ | ⟨a2, rfl⟩
      · rcases hc3 with ⟨_, a3, rfl, rfl, rfl⟩ | ⟨a3, rfl⟩
        · exact Lib.hid (.inl ⟨by omega, rfl, rfl, rfl, rfl, rfl⟩)
        · exact Lib.hid (.inr ⟨by omega, rfl⟩)
      · exact Lib.hid (.inr ⟨by omega, by omega⟩)
    · exact Lib.hid (.inr ⟨by omega, by omega⟩)
  clear hh1 hk1 H2 K2 hc1 hc2 hc3 hE1 hE2 hq1 hq2 hq3
  have ce := H3.out.bxe.cell
  have fe := H3.out.bxe.free
  rcases HC.out with ⟨hfit, rfl, hv1, hv2, hv3, rfl⟩ | ⟨hend, rfl⟩
  · clear HC
    have HV1 := Lib.hid hv1
    have HV2 := Lib.hid hv2
    have HV3 := Lib.hid hv3
    clear hv1 hv2 hv3
    by_cases hb1 : 286 < 257 + v1
    · have HRES : Hid (headF bs p = ([], [], 0, 40)) := Lib.hid (by unfold headF; rw [if_neg (by omega), if_pos (by left; have := HV1.out; omega)])
      have e1 : decide (286 < 257 + v1) = true := by simpa using hb1
      go_wp2_with fail
      have H4 := H3.out.set 40
      have c4 := H4.bxe.cell
      exact bodyPost_ret (v := .tuple #[.slice none 0 0, .slice none 0 0, .int .i64 40]) (by simp [results, Tryd.results58, go_sem, c4]) rfl (readP_err HRES.out (by first | decide | assumption) H4.rd hpq (K3.out.setCell (p := ⟨eb, 0, none⟩) (Or.inr HEB.out) _))
    have e1 : decide (286 < 257 + v1) = false := by simpa using hb1
    by_cases hb2 : 30 < 1 + v2
    · have HRES : Hid (headF bs p = ([], [], 0, 40)) := Lib.hid (by unfold headF; rw [if_neg (by omega), if_pos (by right; have := HV2.out; omega)])
      have e2 : decide (30 < 1 + v2) = true := by simpa using hb2
      go_wp2_with fail
      have H4 := H3.out.set 40
      have c4 := H4.bxe.cell
      exact bodyPost_ret (v := .tuple #[.slice none 0 0, .slice none 0 0, .int .i64 40]) (by simp [results, Tryd.results58, go_sem, c4]) rfl (readP_err HRES.out (by first | decide | assumption) H4.rd hpq (K3.out.setCell (p := ⟨eb, 0, none⟩) (Or.inr HEB.out) _))
    have e2 : decide (30 < 1 + v2) = false := by simpa using hb2
    have HNB : Hid (¬ (29 < numB bs p 5 ∨ 29 < numB bs (p + 5) 5)) := Lib.hid (by have := HV1.out; have := HV2.out; omega)
    obtain ⟨mn, hmn⟩ : ∃ mn, mn = manyF bs p := ⟨_, rfl⟩
    have hmn2 : 4 + v3 = (mn : Int) := by rw [hmn]; unfold manyF; rw [← HV3.out]; omega
    have hmn3 : mn ≤ 19 := by rw [hmn]; exact manyF_le bs p
    have HMN := Lib.hid hmn
    obtain ⟨lit, hlit⟩ : ∃ x, x = litF bs p := ⟨_, rfl⟩
    obtain ⟨dist, hdist⟩ : ∃ x, x = distF bs p := ⟨_, rfl⟩
    have hl2 : 257 + v1 = (lit : Int) := by rw [hlit]; unfold litF; rw [← HV1.out]; omega
    have hd2 : 1 + v2 = (dist : Int) := by rw [hdist]; unfold distF; rw [← HV2.out]; omega
    have hlb : lit ≤ 286 := by omega
    have hdb : dist ≤ 30 := by omega
    have hd1 : 1 ≤ dist := by omega
    have HLI := Lib.hid hlit
    have HDI := Lib.hid hdist
    clear hmn hlit hdist HV1 HV2 HV3
    have e1' : decide (286 < (lit : Int)) = false := by simp; omega
    have e2' : decide (30 < (dist : Int)) = false := by simp; omega
    clear e1 e2 v10 v11 v20 v21 hb1 hb2
    have hmk := fun w => make_ints (P := Tryd.prog) w 22 3 .i64 8 Tryd.underlying22 info_int 19 19 rfl (by omega) (by omega)
    obtain ⟨gc, hgc⟩ : ∃ x, x = w3.heap.size := ⟨_, rfl⟩
    obtain ⟨w4, hw4⟩ : ∃ x, x = w3.alloc (.cells (ints .i64 (List.replicate 19 0)).toArray 3) := ⟨_, rfl⟩
    have hk4 : Keeps [] w3 w4 := by rw [hw4]; exact (Keeps.refl [] w3).alloc _
    have HC4 : Hid (Blk w4 gc 3 (ints .i64 (cL bs (p + 14) 0))) := by rw [hw4, hgc]; exact Lib.hid (blk_new w3 _ _)
    have H4 := Lib.hid (H3.out.keeps hk4 (by simp) (by simp) (by simp) (off_nil _))
    have K4 := Lib.hid (K3.out.trans (hk4.mono (by simp)))
    have hgce : eb < gc := by have := H3.out.bxe.lt; omega
    have hgcg : gc ≠ g := by omega
    have HGC : Hid (w.heap.size ≤ gc) := Lib.hid (by have := HEB.out; omega)
    clear hk4 H3 K3
    have hsl := fun w => slice_arr w 1 mn hmn3
    go_upto_region 10 with (fail)
    change Code.wp _ _ _ _ (w3.alloc (.cells (ints .i64 (List.replicate 19 0)).toArray 3))
    rw [← hw4, ← hgc]
    clear hw4 hgc hmk
    go_wp2_with fail
    go_loopw [43] (fun iv wr => ∃ (i q : Nat) (E : Int) (cs : List Int), i ≤ mn ∧ iv = .int .i64 i ∧ cs.length = 19 ∧ p ≤ q ∧ (E = 0 ∨ E = 10) ∧ Hid ((p + 14 + 3 * i ≤ 8 * bs.length ∧ E = 0 ∧ q = p + 14 + 3 * i ∧ cs = cL bs (p + 14) i) ∨ (8 * bs.length < p + 14 + 3 * i ∧ E = 10)) ∧
      Hid (Blk wr gc 3 (ints .i64 cs)) ∧ Hid (Hd wr rb eb g A c bs q E) ∧ Hid (Keeps [g] w wr)) (fun iv _ => mn - (intOf iv).toNat)
    case atStart => exact ⟨0, p + 14, 0, cL bs (p + 14) 0, by omega, rfl, cL_len _ _ _, by omega, .inl rfl, Lib.hid (.inl ⟨by omega, rfl, rfl, rfl⟩), HC4, H4, K4⟩
    case round =>
      clear HC4 H4 K4
      obtain ⟨i, q, E, cs, hi, rfl, hcl, hq, hE, HI, HC, H, HK⟩ := hrel
      by_cases hlt : i < mn
      · have e0 : decide (i < mn) = true := by simpa using hlt
        obtain ⟨o0, o1⟩ := order_lt i (by omega)
        have ho := (HT.out.keeps HK.out (fun x hx => by rw [List.mem_singleton.1 hx]; exact hg)).ord.cell _ _ rfl i (by omega)
        rw [Nat.zero_add] at ho
        have HCL : Hid (cL bs (p + 14) (i + 1) = (cL bs (p + 14) i).set (nth orderL i).toNat (numB bs (p + 14 + 3 * i) 3)) := Lib.hid rfl
        obtain ⟨o, hoo⟩ : ∃ o : Nat, nth orderL i = o := ⟨(nth orderL i).toNat, by omega⟩
        rw [hoo] at ho o1 HCL
        rw [Int.toNat_natCast] at HCL
        have ho19 : o < 19 := by omega
        clear hoo o0 o1
        go_wp2_with fail
        refine (read1_any _ _ _ _ _ _ q 3 E bs H.out hE (by omega)).mono ?_
        rintro _ w5 ⟨v, q', E', rfl, hh5, hk5, hv0, hv1, hq', hc'⟩
        have hb5 := HC.out.keeps hk5 (by simp; omega)
        have hc5 := hb5.cell o
        rw [show (ints .i64 cs)[o]? = some (.int .i64 (nth cs o)) by rw [ints_getElem?]; simp [nth, List.getD, show o < cs.length by omega]] at hc5
        have hf5 := hb5.frozen o
        obtain ⟨hE', hI'⟩ := codes_moreP HCL.out HI.out hc'
        have HI' := Lib.hid hI'
        have ks : Keeps [gc] w5 (w5.setCell ⟨gc, o, none⟩ (.int .i64 v)) := (Keeps.refl [gc] w5).setCell (p := ⟨gc, o, none⟩) (Or.inl (by simp)) _
        have HC' : Hid (Blk (w5.setCell ⟨gc, o, none⟩ (.int .i64 v)) gc 3 (ints .i64 (cs.set o v))) := Lib.hid (by
          have := hb5.set o (.int .i64 v)
          rwa [show (ints .i64 cs).set o (.int .i64 v) = ints .i64 (cs.set o v) by simp [ints, List.map_set]] at this)
        have H' := Lib.hid (hh5.keeps ks (by simpa using Ne.symm hgcg) (by simp; omega) (by simp; omega) (fun a ha hm => by have := HA.out a ha; rw [List.mem_singleton.1 hm] at this; have := HGC.out; omega))
        have HK' := Lib.hid ((keeps_ge HK.out hk5 HEB.out).setCell (p := ⟨gc, o, none⟩) (Or.inr HGC.out) (.int .i64 v))
        clear hh5 hk5 hb5 hI' hc' ks HC H HK HI HCL ho
        go_wp2_with fail
        go_roundw
        case rel => exact ⟨i + 1, q', E', cs.set o v, by omega, by go_num, by rw [List.length_set]; exact hcl, by omega, hE', HI', HC', H', HK'⟩
        case measure => simp [intOf]; omega
      · obtain rfl : i = mn := by omega
        have e0 : decide (i < i) = false := by simp
        have ce := H.out.bxe.cell
        have fe := H.out.bxe.free
        rcases HI.out with ⟨hf3, rfl, rfl, rfl⟩ | ⟨hend, rfl⟩
        · clear HI
          obtain ⟨cd, hcd⟩ : ∃ cd, cd = cL bs (p + 14) i := ⟨_, rfl⟩
          have hcl' : cd.length = 19 := by rw [hcd]; exact cL_len _ _ _
          have HCD : Hid (cd = codesH bs p) := Lib.hid (by rw [hcd]; unfold codesH; rw [← HMN.out])
          rw [← hcd] at HC
          have HCR : Hid (RI .i64 wr (some ⟨gc, 0, none⟩) 19 cd) := Lib.hid (by
            have := Blk.ri (xs := cd) (ys := []) (by rw [List.append_nil]; exact HC.out)
            rwa [hcl'] at this)
          have HF3 : Hid (¬ (8 * bs.length < p + 14 + 3 * manyF bs p)) := Lib.hid (by rw [← HMN.out]; omega)
          have HQ : Hid (p + 14 + 3 * i = p + 14 + 3 * manyF bs p) := Lib.hid (by rw [← HMN.out])
          have HF1 : Hid (¬ 8 * bs.length < p + 14) := Lib.hid (by omega)
          clear hcd HC hcl
          obtain ⟨wc, hwc⟩ : ∃ x : World, x = wr := ⟨_, rfl⟩
          rw [← hwc] at H HK HCR ce fe ⊢
          clear hwc
          go_wp2_with fail
          refine (new_calls wc _ _ _ cd HCR.out (by omega)).mono ?_
          rintro e w6 ⟨hb6, hmade⟩
          have hk6 := Keeps.of_below hb6 (S := [])
          have H6 := Lib.hid (H.out.keeps hk6 (by simp) (by simp) (by simp) (off_nil _))
          have K6 := Lib.hid (HK.out.trans (hk6.mono (by simp)))
          have c6 := H6.out.bxe.cell
          have f6 := H6.out.bxe.free
          have hgd : g < wc.heap.size := H.out.rd.lt
          have hebd : eb < wc.heap.size := H.out.bxe.lt
          clear ce fe H HK HCR hb6 hk6
          by_cases hck : checkF cd = 0
          · rw [if_pos hck] at hmade
            obtain ⟨gd, rfl, hd, hgd2⟩ := hmade
            have HCK := Lib.hid hck
            obtain ⟨w7, hw7⟩ : ∃ x, x = w6.setCell ⟨eb, 0, none⟩ (.int .i64 0) := ⟨_, rfl⟩
            have hk7 : Keeps [eb] w6 w7 := by rw [hw7]; exact (Keeps.refl [eb] w6).setCell (p := ⟨eb, 0, none⟩) (Or.inl (by simp)) _
            have H7 : Hid (Hd w7 rb eb g A c bs (p + 14 + 3 * i) 0) := by rw [hw7]; exact Lib.hid (H6.out.set 0)
            have K7 : Hid (Keeps [g] w w7) := by rw [hw7]; exact Lib.hid (K6.out.setCell (p := ⟨eb, 0, none⟩) (Or.inr HEB.out) _)
            have D7 := Lib.hid (Dec.apart (gr := g) (show Dec w7 gd cd from DSt.keeps hd hk7 (fun x hx => by rw [List.mem_singleton.1 hx]; exact Or.inl (by omega))) (by omega))
            have T7 := Lib.hid (HT.out.keeps K7.out (fun x hx => by rw [List.mem_singleton.1 hx]; exact hg))
            obtain ⟨b0, hb0⟩ : ∃ x, x = w7.heap.size := ⟨_, rfl⟩
            have c7 := H7.out.bxe.cell
            obtain ⟨N, hN⟩ : ∃ N, N = lit + dist := ⟨_, rfl⟩
            have HRR0 : Hid (readR bs p = stepsF cd bs N N [] (p + 14 + 3 * i)) := Lib.hid (by
              unfold readR
              rw [← HCD.out, HQ.out, hN, HLI.out, HDI.out])
            have hNb : N ≤ 316 := by omega
            have hN3 : IntKind.i64.wrap ((lit : Int) + (dist : Int)) = (N : Int) := by rw [show (lit : Int) + (dist : Int) = (N : Int) by omega]; exact IntWalk.i64_in _ (by omega)
            have hLN : lit < N := by omega
            have HE1 : Hid (∀ e, (readR bs p).2.2 = e → e ≠ 0 → headF bs p = ([], [], 0, e)) := Lib.hid (fun e h he => head_err HF1.out HNB.out HF3.out (by rw [← HCD.out]; exact HCK.out) h he)
            have HE2 : Hid (∀ l q, readR bs p = (l, q, 0) → headF bs p = (l.take lit, l.drop lit, q - p, 0)) := Lib.hid (fun l q h => by rw [HLI.out]; exact head_ok HF1.out HNB.out HF3.out (by rw [← HCD.out]; exact HCK.out) h)
            have hpi : p ≤ p + 14 + 3 * i := by omega
            have hb0w : w.heap.size ≤ b0 := by rw [hb0]; exact K7.out.size
            have hb0g : g < b0 := by omega
            have hb0e : eb < b0 := by rw [hb0]; exact H7.out.bxe.lt
            have HW7 : Hid (Keeps [g] w7 w7) := Lib.hid (Keeps.refl _ _)
            clear hN hck hd hk7 e1' e2' hl2 hd2 hmn2 HF3 HQ HCD HLI HDI HNB HMN H6 K6 HF1
            go_wp2_with fail
            rw [← hw7]
            clear hw7
            go_loopw [13] (fun lv wr => ∃ (f q len cc : Nat) (l : List Int) (AL : Option Addr), lv = .slice AL len cc ∧ len ≤ N ∧ N ≤ len + f ∧ p ≤ q ∧ Hid (readR bs p = stepsF cd bs N f l q) ∧ Hid (wr.ownsRow b0 3 1 (.slice AL len cc) len (ints .i64 l)) ∧
              Hid (Rdr wr g A c bs q) ∧ Hid (Keeps [g] w7 wr)) (fun lv _ => N - sLen lv)
            case atStart => exact ⟨N, p + 14 + 3 * i, 0, 0, [], none, rfl, by omega, by omega, hpi, HRR0, Lib.hid (World.ownsRow_nil _ _ _ _), Lib.hid H7.out.rd, HW7⟩
            case round =>
              clear HRR0 HW7
              obtain ⟨f, q, len, cc, l, AL, rfl, hlen, hf, hpq', HRD, HLO, HR, HK⟩ := hrel
              have HLEN : Hid (l.length = len) := Lib.hid (by have := HLO.out.1; simpa [ints] using this)
              by_cases hlt2 : len < N
              · have e4 : decide ((len : Int) < (N : Int)) = true := by simp; omega
                obtain ⟨f', rfl⟩ : ∃ f', f = f' + 1 := ⟨f - 1, by omega⟩
                have HUN : Hid (readR bs p = if (decF cd bs q).2.1 ≠ 0 then ([], q, (decF cd bs q).2.1)
                    else if 8 * bs.length < q + (decF cd bs q).2.2 + wN (decF cd bs q).1 then ([], q, 10)
                    else match addF l (decF cd bs q).1 (numB bs (q + (decF cd bs q).2.2) (wN (decF cd bs q).1)) N with
                      | none => ([], q, 41)
                      | some l' => stepsF cd bs N f' l' (q + (decF cd bs q).2.2 + wN (decF cd bs q).1)) := Lib.hid (by
                  rw [HRD.out, stepsF, if_neg (by rw [HLEN.out]; omega)]
                  rfl)
                have hqT := HR.out.le
                clear HRD
                obtain ⟨wl, hwl⟩ : ∃ x : World, x = wr := ⟨_, rfl⟩
                rw [← hwl] at HLO HR HK ⊢
                clear hwl
                have kr := (H7.out.bxr.keeps HK.out (by simp; omega)).cell
                go_wp2_with fail
                refine (nextN_calls wl gd g cd A c bs q (D7.out.keeps HK.out (fun x hx => List.mem_singleton.1 hx)) HR.out (by omega)).mono ?_
                rintro _ w8 ⟨rfl, hr8, hk8⟩
                have HK8 := Lib.hid (HK.out.trans hk8)
                have HLO8 := Lib.hid (own_keeps HLO.out hk8 (fun x hx hm => by have := (HLO.out.lt x hx).1; rw [List.mem_singleton.1 hm] at this; omega))
                have HR8 := Lib.hid hr8
                have HBD := Lib.hid (dec_bd cd bs q hqT)
                clear hr8 hk8 HR HK HLO kr
                generalize decF cd bs q = d at *
                obtain ⟨sy0, er, k⟩ := d
                have HR8' : Hid (Rdr w8 g A c bs (q + k)) := HR8
                simp only [] at HBD HUN
                have b8 := H7.out.bxe.keeps HK8.out (by simp; omega)
                have ce8 := b8.cell
                have fe8 := b8.free
                have hse : ∀ (W : World) (e : Int), Keeps [eb] W (W.setCell ⟨eb, 0, none⟩ (.int .i64 e)) := fun W e => (Keeps.refl [eb] W).setCell (p := ⟨eb, 0, none⟩) (Or.inl (by simp)) _
                have hoE : Off [eb] A := fun a ha hm => by have := HA.out a ha; rw [List.mem_singleton.1 hm] at this; have := HEB.out; omega
                have hge : g ∉ [eb] := by simp; omega
                by_cases her : er = 0
                · subst her
                  obtain ⟨j, rfl, hj, hpk⟩ : ∃ j : Nat, sy0 = j ∧ j < 19 ∧ q + k ≤ 8 * bs.length := by
                    rcases HBD.out with ⟨_, j, h1, h2, h3⟩ | ⟨h, _⟩
                    · exact ⟨j, h1, by omega, h3⟩
                    · exact absurd rfl h
                  clear HBD HR8
                  have kr := (H7.out.bxr.keeps HK8.out (by simp; omega)).cell
                  have kw := (T7.out.keeps HK8.out (fun x hx => by rw [List.mem_singleton.1 hx]; exact hg)).wid.cell _ _ rfl j (by omega)
                  rw [Nat.zero_add, wN_tab j hj] at kw
                  have hw7 := wN_le (j : Int)
                  obtain ⟨W, hW⟩ : ∃ W, W = wN (j : Int) := ⟨_, rfl⟩
                  rw [← hW] at kw hw7 HUN
                  have s1 : (j : Int) < 19 := by omega
                  have s2 : (0 : Int) ≤ (j : Int) := by omega
                  have s3 : IntKind.i64.wrap (j : Int) = (j : Int) := IntWalk.i64_in _ (by omega)
                  clear hW
                  by_cases hov : 8 * bs.length < q + k + W
                  · have HRES := Lib.hid (HE1.out 10 (by rw [HUN.out, if_neg (by simp), if_pos hov]) (by decide))
                    clear HUN
                    go_wp2_with fail
                    go_region_with (first | (go_at_call 49; refine (take_end _ g A c bs (q + k) W (HR8'.out.dr (Keeps.refl [] w8).drew) (by omega) (by omega)).mono ?_; rintro _ w9 ⟨rfl, hd9⟩))
                    all_goals (
                      have HK9 := HK8.out.trans (((Keeps.refl [g] w8).drew).trans (hd9.keeps (S := [g])))
                      have HR9 := (HR8'.out.dr (Keeps.refl [] w8).drew).dr (hd9.keeps (S := []))
                      have b9 := H7.out.bxe.keeps HK9 (by simp; omega)
                      have ce9 := b9.cell
                      have fe9 := b9.free
                      go_wp2_with fail
                      have c4 := (b9.set (.int .i64 10)).cell
                      exact bodyPost_ret (v := .tuple #[.slice none 0 0, .slice none 0 0, .int .i64 10]) (by simp [results, Tryd.results58, go_sem, c4]) rfl (readP_err HRES.out (by decide) (HR9.keeps (hse _ _) hge hoE) (by omega) ((K7.out.trans HK9).setCell (p := ⟨eb, 0, none⟩) (Or.inr HEB.out) _)))
                  · have HUN2 : Hid (readR bs p = match addF l (j : Int) (numB bs (q + k) W) N with
                      | none => ([], q, 41)
                      | some l' => stepsF cd bs N f' l' (q + k + W)) := Lib.hid (by rw [HUN.out, if_neg (by simp), if_neg hov])
                    clear HUN
                    obtain ⟨n0, n1⟩ := numB_lt bs (q + k) W
                    have n2 := pow_le8 W (by omega)
                    have hex : Hid (numB bs (q + k) W = numB bs (q + k) W) := Lib.hid rfl
                    have e5 : IntKind.i64.wrap (numB bs (q + k) W) = numB bs (q + k) W := IntWalk.i64_in _ (by omega)
                    go_wp2_with fail
                    go_region_with (first | (go_at_call 49; refine (take_calls _ g A c bs (q + k) W (HR8'.out.dr (Keeps.refl [] w8).drew) (by omega) (by omega)).mono ?_; rintro _ w9 ⟨rfl, hr9, hk9⟩))
                    all_goals (
                      have HK9 := Lib.hid (HK8.out.trans (((Keeps.refl [g] w8).drew).trans hk9))
                      have HR9 := Lib.hid hr9
                      have HLO9 := Lib.hid (own_keeps HLO8.out (((Keeps.refl [g] w8).drew).trans hk9) (fun x hx hm => by have := (HLO8.out.lt x hx).1; rw [List.mem_singleton.1 hm] at this; omega))
                      have HT9 := Lib.hid (T7.out.keeps HK9.out (fun x hx => by rw [List.mem_singleton.1 hx]; exact hg))
                      have hb9 : b0 ≤ w9.heap.size := by rw [hb0]; exact HK9.out.size
                      clear hr9 hk9 HK8 HLO8 HR8' kr kw ce8 fe8 b8 hov
                      generalize numB bs (q + k) W = ex at *
                      generalize hqq : q + k + W = q2 at *
                      have hpq2 : p ≤ q2 := by omega
                      go_wp2_with fail
                      refine (add_calls w9 b0 len _ l j ex N hb9 HT9.out HLO9.out (by omega)).mono ?_
                      intro e w10 hv
                      have hw70 : w7.heap.size ≤ b0 := by omega
                      have hAb : ∀ a, A = some a → a.block < b0 := fun a ha => by have := HA.out a ha; omega
                      cases haf : addF l (j : Int) ex N with
                      | none =>
                        rw [haf] at hv
                        obtain ⟨rfl, hb10⟩ := hv
                        have HRES := Lib.hid (HE1.out 41 (by rw [HUN2.out, haf]) (by decide))
                        have HK10 := HK9.out.under hb10 hw70
                        have HR10 := HR9.out.below hb10 hb0g hAb
                        have b10 := H7.out.bxe.keeps HK10 (by simp; omega)
                        have ce10 := b10.cell
                        have fe10 := b10.free
                        go_wp2_with fail
                        have c4 := (b10.set (.int .i64 41)).cell
                        exact bodyPost_ret (v := .tuple #[.slice none 0 0, .slice none 0 0, .int .i64 41]) (by simp [results, Tryd.results58, go_sem, c4]) rfl (readP_err HRES.out (by decide) (HR10.keeps (hse _ _) hge hoE) (by omega) ((K7.out.trans HK10).setCell (p := ⟨eb, 0, none⟩) (Or.inr HEB.out) _))
                      | some l' =>
                        rw [haf] at hv
                        obtain ⟨v10, rfl, ho10, hb10⟩ := hv
                        obtain ⟨g1, g2, -⟩ := addF_grows haf
                        obtain ⟨A10, c10, rfl⟩ := own_form' ho10
                        have HRD10 : Hid (readR bs p = stepsF cd bs N f' l' q2) := Lib.hid (by rw [HUN2.out, haf])
                        have HK10 := Lib.hid (HK9.out.under hb10 hw70)
                        have HR10 := Lib.hid (HR9.out.below hb10 hb0g hAb)
                        have HLO10 := Lib.hid ho10
                        have hlen' := HLEN.out
                        clear ho10 hb10 HK9 HR9 HLO9 HT9 HUN2
                        go_wp2_with fail
                        go_roundw
                        case rel => exact ⟨f', q2, l'.length, c10, l', A10, rfl, by omega, by omega, hpq2, HRD10, HLO10, HR10, HK10⟩
                        case measure => simp [sLen]; omega)
                · have HRES := Lib.hid (HE1.out er (by rw [HUN.out, if_pos her]) her)
                  have e5 : (er != 0) = true := by simpa using her
                  clear HUN HBD
                  go_wp2_with fail
                  have c4 := (b8.set (.int .i64 er)).cell
                  exact bodyPost_ret (v := .tuple #[.slice none 0 0, .slice none 0 0, .int .i64 er]) (by simp [results, Tryd.results58, go_sem, c4]) rfl (readP_err HRES.out her (HR8'.out.keeps (hse _ _) hge hoE) (by omega) ((K7.out.trans HK8.out).setCell (p := ⟨eb, 0, none⟩) (Or.inr HEB.out) _))
              · obtain rfl : len = N := by omega
                have e4 : decide ((len : Int) < (len : Int)) = false := by simp
                have HRES := Lib.hid (HE2.out l q (by rw [HRD.out, stepsF_done _ _ _ _ _ _ (by rw [HLEN.out]; omega)]))
                obtain ⟨A9, c9, hv9, hri9, hcap9, -, -, hbk9⟩ := own_full HLO.out
                injection hv9 with hv1 hv2 hv3
                subst hv1
                subst hv3
                obtain ⟨ab, ao, rfl⟩ := hri9.hd (by omega)
                have hr0 := hri9.keeps (Keeps.refl [] wr).drew (off_nil _)
                have hr1 : RI .i64 wr.drew (some ⟨ab, ao, none⟩) lit (l.take lit) := hr0.take (by omega)
                have hl2' : (l.drop lit).length = len - lit := by rw [List.length_drop, HLEN.out]
                have hr2 : RI .i64 wr.drew (some ⟨ab, ao + lit, none⟩) (len - lit) (l.drop lit) := ⟨hl2', fun _ => ⟨_, _, rfl⟩, fun b' o' ha j hj => by
                  injection ha with ha; injection ha with h1 h2 h3; subst h1; subst h2
                  have := hr0.cell ab ao rfl (lit + j) (by omega)
                  rw [show ao + lit + j = ao + (lit + j) by omega, this]
                  simp [nth, List.getD]⟩
                have HR1 := Lib.hid hr1
                have HR2 := Lib.hid hr2
                have t2 : (0 : Int) ≤ (lit : Int) := by omega
                have t3 : (lit : Int) ≤ (len : Int) := by omega
                have t4 : (lit : Int) ≤ (cc : Int) := by omega
                have t5 : lit ≤ len := by omega
                have t6 : lit ≤ cc := by omega
                have t7 : ¬ cc = lit := by omega
                have t8 : ¬ lit = cc := by omega
                have hwlt : w7.heap.size ≤ wr.heap.size := HK.out.size
                have b8 := H7.out.bxe.keeps HK.out (by simp; omega)
                have HB8 := Lib.hid b8
                clear HRD hri9 hv2 hr0 hr1 hr2 b8
                go_wp2_with fail
                go_region_with (first
                  | (go_at_call_of 82 (some (Addr.mk ab ao none)); refine (cloneI_calls _ _ _ _ (l.take lit) (by first | exact HR1.out | exact HR1.out.keeps (Keeps.of_below hbB) (off_nil _)) (by simp) (by intro ad h; exact ⟨_, _, (Option.some.inj h).symm⟩) (by omega)).mono ?_; rintro _ wA ⟨vA, rfl, hoA, hbA⟩; have bxA : Box wA eb (.int .i64 0) := (by first | exact HB8.out.keeps ((Keeps.refl [] wr).drew.trans (Keeps.of_below hbA)) (by simp) | exact bxB.keeps (Keeps.of_below (S := []) hbA) (by simp)); have ceA := bxA.cell; have feA := bxA.free)
                  | (go_at_call_of 82 (some (Addr.mk ab (ao + lit) none)); refine (cloneI_calls _ _ _ _ (l.drop lit) (by first | exact HR2.out | exact HR2.out.keeps (Keeps.of_below hbA) (off_nil _)) (by simp) (by intro ad h; exact ⟨_, _, (Option.some.inj h).symm⟩) (by omega)).mono ?_; rintro _ wB ⟨vB, rfl, hoB, hbB⟩; have bxB : Box wB eb (.int .i64 0) := (by first | exact HB8.out.keeps ((Keeps.refl [] wr).drew.trans (Keeps.of_below hbB)) (by simp) | exact bxA.keeps (Keeps.of_below (S := []) hbB) (by simp)); have ceB := bxB.cell; have feB := bxB.free))
                all_goals (
                  have kA : Keeps [] wr wA := (Keeps.refl [] wr).drew.trans (Keeps.of_below hbA)
                  have kB : Keeps [] wA wB := Keeps.of_below hbB
                  have hwr : wr.heap.size ≤ wA.heap.size := kA.size
                  have hebw : eb < wr.heap.size := by omega
                  have kS : Keeps [eb] wB (wB.setCell ⟨eb, 0, none⟩ (.int .i64 0)) := (Keeps.refl [eb] wB).setCell (p := ⟨eb, 0, none⟩) (Or.inl (by simp)) _
                  have oA := own_keeps (own_keeps hoA kB (by simp)) kS (fun x hx hm => by
                    have h1 := (hoA.lt x hx).1
                    rw [List.mem_singleton.1 hm] at h1
                    have h2 : wr.heap.size ≤ eb := h1
                    omega)
                  have oB := own_keeps hoB kS (fun x hx hm => by
                    have h1 := (hoB.lt x hx).1
                    rw [List.mem_singleton.1 hm] at h1
                    omega)
                  have hR := (((HR.out.dr kA).dr kB).keeps kS (by simp; omega) (fun a ha hm => by have := HA.out a ha; rw [List.mem_singleton.1 hm] at this; have := HEB.out; omega))
                  have hKK : Keeps [g] w (wB.setCell ⟨eb, 0, none⟩ (.int .i64 0)) := (((K7.out.trans HK.out).trans (kA.mono (by simp))).trans (kB.mono (by simp))).setCell (p := ⟨eb, 0, none⟩) (Or.inr HEB.out) _
                  have hww : w.heap.size ≤ wr.heap.size := by omega
                  have c4 := (bxB.set (.int .i64 0)).cell
                  have hl1 : (l.take lit).length = lit := by rw [List.length_take, HLEN.out]; omega
                  go_wp2_with fail
                  refine bodyPost_ret (v := .tuple #[vA, vB, .int .i64 0]) (by simp [results, Tryd.results58, go_sem, c4]) rfl ?_
                  rw [HRES.out]
                  exact ⟨vA, vB, q, rfl, by rw [hl1]; exact oA.mono hww, by rw [hl2']; exact oB.mono (by omega), hR, hpq', fun _ => by simp only []; omega, hKK⟩)
          · rw [if_neg hck] at hmade
            subst hmade
            have HRES : Hid (headF bs p = ([], [], 0, checkF cd)) := Lib.hid (by unfold headF; rw [if_neg HF1.out, if_neg HNB.out, if_neg HF3.out, ← HCD.out, if_pos hck])
            have e3 : (checkF cd != 0) = true := by simpa using hck
            generalize checkF cd = er at *
            go_wp2_with fail
            go_region
            go_wp2_with fail
            have H8 := (((H6.out.set er).set er).keeps (Keeps.refl [] _).drew (by simp) (by simp) (by simp) (off_nil _))
            have c4 := H8.bxe.cell
            exact bodyPost_ret (v := .tuple #[.slice none 0 0, .slice none 0 0, .int .i64 er]) (by simp [results, Tryd.results58, go_sem, c4]) rfl (readP_err HRES.out hck H8.rd (by omega) ((K6.out.setCell (p := ⟨eb, 0, none⟩) (Or.inr HEB.out) _).setCell (p := ⟨eb, 0, none⟩) (Or.inr HEB.out) _).drew)

        · have HRES : Hid (headF bs p = ([], [], 0, 10)) := Lib.hid (by unfold headF; rw [if_neg (by omega), if_neg HNB.out, ← HMN.out, if_pos hend])
          clear HI
          go_wp2_with fail
          go_region
          go_wp2_with fail
          have H5 := (H.out.set 10).keeps (Keeps.refl [] _).drew (by simp) (by simp) (by simp) (off_nil _)
          have c4 := H5.bxe.cell
          exact bodyPost_ret (v := .tuple #[.slice none 0 0, .slice none 0 0, .int .i64 10]) (by simp [results, Tryd.results58, go_sem, c4]) rfl (readP_err HRES.out (by first | decide | assumption) H5.rd hq (HK.out.setCell (p := ⟨eb, 0, none⟩) (Or.inr HEB.out) _).drew)
  · have HRES : Hid (headF bs p = ([], [], 0, 10)) := Lib.hid (by unfold headF; rw [if_pos hend])
    clear HC
    go_wp2_with fail
    go_region
    go_wp2_with fail
    have H4 := (H3.out.set 10).keeps (Keeps.refl [] _).drew (by simp) (by simp) (by simp) (off_nil _)
    have c4 := H4.bxe.cell
    exact bodyPost_ret (v := .tuple #[.slice none 0 0, .slice none 0 0, .int .i64 10]) (by simp [results, Tryd.results58, go_sem, c4]) rfl (readP_err HRES.out (by first | decide | assumption) H4.rd hpq (K3.out.setCell (p := ⟨eb, 0, none⟩) (Or.inr HEB.out) _).drew)
end Go.Proofs.YtcblibefmclloaaDoor

set_option linter.unusedVariables false
set_option linter.unusedSimpArgs false
namespace Go.Proofs.YtcblibefmclloaaDoor
open Go.RowKit
theorem headF_n {bs : List Int} {p : Nat} (h : (headF bs p).2.2.2 ≠ 0) : (headF bs p).2.2.1 = 0 := by
  unfold headF at h ⊢
  split
  · rfl
  split
  · rfl
  split
  · rfl
  split
  · rfl
  split
  · rfl
  · next h1 h2 h3 h4 h5 =>
    rw [if_neg h1, if_neg h2, if_neg h3, if_neg h4, if_neg h5] at h
    exact absurd rfl h
theorem stepsF_len (codes bs : List Int) (N : Int) (hN : 0 ≤ N) : ∀ f l q, (l.length : Int) ≤ N → ((stepsF codes bs N f l q).1.length : Int) ≤ N
  | 0, l, q, h => h
  | f + 1, l, q, h => by
    rw [stepsF]
    split
    · exact h
    split
    · simpa using hN
    split
    · simpa using hN
    split
    · simpa using hN
    · next l' haf => exact stepsF_len codes bs N hN f l' _ (addF_grows haf).2.1
theorem litF_le (bs : List Int) (p : Nat) : litF bs p ≤ 288 := by
  have := numB_lt bs p 5
  unfold litF
  have e : (2 : Int) ^ 5 = 32 := rfl
  omega
theorem distF_le (bs : List Int) (p : Nat) : distF bs p ≤ 32 := by
  have := numB_lt bs (p + 5) 5
  unfold distF
  have e : (2 : Int) ^ 5 = 32 := rfl
  omega
theorem headF_len (bs : List Int) (p : Nat) : (headF bs p).1.length ≤ 320 ∧ (headF bs p).2.1.length ≤ 320 := by
  have h := stepsF_len (codesH bs p) bs ((litF bs p + distF bs p : Nat) : Int) (Int.natCast_nonneg _) (litF bs p + distF bs p) [] (p + 14 + 3 * manyF bs p) (by simp; omega)
  have hr : ((readR bs p).1.length : Int) ≤ ((litF bs p + distF bs p : Nat) : Int) := h
  have h1 := litF_le bs p
  have h2 := distF_le bs p
  unfold headF
  split
  · simp
  split
  · simp
  split
  · simp
  split
  · simp
  split
  · simp
  · simp only [List.length_take, List.length_drop]; omega
theorem headF_n_le (bs : List Int) (p : Nat) (hp : p ≤ 8 * bs.length) : True := trivial
set_option maxRecDepth 100000 in
set_option maxHeartbeats 1000000 in
theorem lensRead_calls (w : World) (g : Nat) (A : Option Addr) (c : Nat) (bs : List Int) (p : Nat) (hT : Tabs w) (hg : gtop ≤ g) (hr : Rdr w g A c bs p) (ha : ∀ a, A = some a → a.block < w.heap.size) :
    Calls Tryd.prog 25 #[.pointer (some ⟨g, 0, none⟩)] w fun e w' => ∃ v1 v2, e = .returned (.tuple #[v1, v2, .int .i64 (headF bs p).2.2.2]) ∧ w'.ownsRow w.heap.size 3 1 v1 (headF bs p).1.length (ints .i64 (headF bs p).1) ∧
      w'.ownsRow w.heap.size 3 1 v2 (headF bs p).2.1.length (ints .i64 (headF bs p).2.1) ∧ Rdr w' g A c bs (p + (headF bs p).2.2.1) ∧ Keeps [g] w w' := by
  have HR := Lib.hid hr
  have HT := Lib.hid hT
  have hsz := hr.size
  clear hr hT
  go_enter Tryd.func25, Tryd.ntmps25
  go_wp2_with fail
  refine (gone_calls _ _ _ _ _ _ HR.out).mono ?_
  rintro r w1 ⟨rfl, hd⟩
  have hk1 := hd.keeps (S := [])
  have H1 := Lib.hid (HR.out.dr hk1)
  have T1 := Lib.hid (HT.out.keeps hk1 (by simp))
  have K1 := Lib.hid (hd.keeps (S := [g]))
  have HA1 : Hid (∀ a, A = some a → a.block < w1.heap.size) := Lib.hid (fun a h => Nat.lt_of_lt_of_le (ha a h) hk1.size)
  have S1 : Hid (w.heap.size ≤ w1.heap.size) := Lib.hid hk1.size
  clear hd HR HT ha hk1
  go_wp2_with fail
  refine (read_calls _ _ _ _ _ _ T1.out hg H1.out HA1.out).mono ?_
  rintro _ w2 ⟨v1, v2, q, rfl, ho1, ho2, hr2, hpq, hq, hk2⟩
  have HO1 := Lib.hid (ho1.mono S1.out)
  have HO2 := Lib.hid (ho2.mono S1.out)
  have H2 := Lib.hid hr2
  have K2 := Lib.hid (K1.out.trans hk2)
  have HGW : Hid (g < w1.heap.size) := Lib.hid H1.out.lt
  have HOW1 := Lib.hid ho1
  have HOW2 := Lib.hid ho2
  have hqT := hr2.le
  clear ho1 ho2 hr2 hk2 H1 K1 T1 HA1
  by_cases her : (headF bs p).2.2.2 = 0
  · have HQ := Lib.hid (hq her)
    have e1 : ((headF bs p).2.2.2 != 0) = false := by simp [her]
    have HER := Lib.hid her
    clear hq
    obtain ⟨A1, c1, rfl⟩ := own_form' HO1.out
    obtain ⟨A2, c2, rfl⟩ := own_form' HO2.out
    go_wp2_with fail
    go_ret3
    exact ⟨_, _, by first | rfl | (rw [HER.out]; rfl), HO1.out, HO2.out, by rw [← HQ.out]; exact H2.out, K2.out⟩
  · have HN := Lib.hid (headF_n her)
    have e1 : ((headF bs p).2.2.2 != 0) = true := by simpa using her
    obtain ⟨A1, c1, rfl⟩ := own_form' HO1.out
    obtain ⟨A2, c2, rfl⟩ := own_form' HO2.out
    clear hq
    generalize hE : (headF bs p).2.2.2 = er at *
    go_wp2_with fail
    refine (gone_calls _ _ _ _ _ _ H2.out).mono ?_
    rintro r w3 ⟨rfl, hd⟩
    have H3 := Lib.hid (H2.out.dr hd.keeps)
    have K3 := Lib.hid (K2.out.trans (hd.keeps (S := [g])))
    have O1 := Lib.hid (own_keeps HOW1.out (hd.keeps (S := [])) (by simp))
    have O2 := Lib.hid (own_keeps HOW2.out (hd.keeps (S := [])) (by simp))
    have e2 : IntKind.i64.wrap ((q : Int) - (p : Int)) = ((q - p : Nat) : Int) := by rw [show (q : Int) - (p : Int) = ((q - p : Nat) : Int) by omega]; exact IntWalk.i64_in _ (by omega)
    clear hd H2 K2 HO1 HO2 HOW1 HOW2
    go_wp2_with fail
    refine (back_calls' _ _ _ _ _ q (q - p) _ (by first | rfl | omega) H3.out (by omega)).mono ?_
    rintro r w4 ⟨rfl, h4, k4⟩
    have H4 := Lib.hid h4
    have K4 := Lib.hid (K3.out.trans k4)
    have P1 := Lib.hid (own_keeps O1.out k4 (fun x hx hm => by have := (O1.out.lt x hx).1; rw [List.mem_singleton.1 hm] at this; have := HGW.out; omega))
    have P2 := Lib.hid (own_keeps O2.out k4 (fun x hx hm => by have := (O2.out.lt x hx).1; rw [List.mem_singleton.1 hm] at this; have := HGW.out; omega))
    clear h4 k4 H3 K3 O1 O2
    go_wp2_with fail
    go_ret3
    refine ⟨_, _, by rw [hE]; rfl, P1.out.mono S1.out, P2.out.mono S1.out, ?_, K4.out⟩
    rw [HN.out]
    have := H4.out
    rwa [show q - (q - p) = p + 0 by omega] at this
end Go.Proofs.YtcblibefmclloaaDoor

set_option linter.unusedVariables false
set_option linter.unusedSimpArgs false
/-! An append that also tells where the row lies behind it. -/
namespace Go.Proofs.YtcblibefmclloaaDoor
open Go.RowKit
/-- A row of bytes whose room holds bytes, too. -/
def AllU8 (w : World) (v : Value) : Prop := ∀ k, v.ownBlock = some k → ∃ cur : Array Value, w.heap[k]? = some (.cells cur 5 (0, 0)) ∧ ∀ u ∈ cur.toList, ∃ n, u = .int .u8 n
theorem AllU8.nil (w : World) : AllU8 w (.slice none 0 0) := fun k hk => by simp [Value.ownBlock] at hk
theorem AllU8.keeps {w w' : World} {v : Value} {S : List Nat} (h : AllU8 w v) (hk : Keeps S w w') (hS : ∀ k, v.ownBlock = some k → k ∉ S) : AllU8 w' v := fun k hv => by
  obtain ⟨cur, h1, h2⟩ := h k hv
  exact ⟨cur, hk.heap h1 (hS k hv), h2⟩
theorem zeroCells_u8 (n : Nat) : ∀ u ∈ (Builtin.zeroCells (Value.int .u8 0).cells n).toList, ∃ k, u = .int .u8 k := by
  intro u hu
  have hz : (Value.int .u8 0).cells = #[.int .u8 0] := rfl
  rw [hz] at hu
  simp only [Builtin.zeroCells, Array.toList_map, List.mem_map] at hu
  obtain ⟨i, _, rfl⟩ := hu
  exact ⟨0, by simp [Nat.mod_one]⟩
theorem ints_u8 {xs : List Int} : ∀ u ∈ ints .u8 xs, ∃ k, u = .int .u8 k := by
  intro u hu
  simp only [ints, List.mem_map] at hu
  obtain ⟨x, _, rfl⟩ := hu
  exact ⟨x, rfl⟩
theorem run_append_u8 {P : Program} (w : World) (base : Nat) (t ty : TypeId) (i : TypeInfo) (bytes : Nat) (ht : P.underlying t = some (.slice 5)) (hi : P.info? 5 = some i) (hz : i.zero = some (.int .u8 0))
    (hsize : i.size = 1) (hby : i.bytes = bytes)
    (v : Value) (n : Nat) (xs : List Value) (hown : w.ownsRow base 5 1 v n xs)
    (a : Addr) (m c : Nat) (ys : List Int) (hl : (ints .u8 ys).length = m * 1) (hnews : ∀ j u, (ints .u8 ys)[j]? = some u → w.cell? (a.add j) = some u) (h1 : ∀ u ∈ ints .u8 ys, u.oneCell' = true)
    (h63 : n + m ≤ maxLen) (hbytes : (n + m) * bytes ≤ 140737488355328) (hU : AllU8 w v) :
    ∃ v' w', (Builtin.append_ #[t, t] ty #[v, .slice (some a) m c]).run P w = .ok v' w' ∧ AllU8 w' v' := by
  rw [← hsize] at hown hl
  subst hby
  have hsmall : n + m ≤ 9223372036854775807 := by simp only [maxLen] at h63; omega
  have new : ∀ (cells : List Value) (k N cap : Nat), (∀ u ∈ cells, ∃ k, u = .int .u8 k) → AllU8 (w.drew.alloc (.cells (cells.toArray ++ Builtin.zeroCells (Value.int .u8 0).cells k) 5)) (.slice (some ⟨w.heap.size, 0, none⟩) N cap) := fun cells k N cap hc => by
    intro b hb
    have e : w.heap.size = b := by simpa [Value.ownBlock] using hb
    subst e
    refine ⟨_, heap_alloc_new w.drew _, fun u hu => ?_⟩
    rw [Array.toList_append] at hu
    rcases List.mem_append.1 hu with h | h
    · exact hc u h
    · exact zeroCells_u8 k u h
  rcases hown.2 with ⟨rfl, rfl⟩ | ⟨g, cap, cur, rfl, hbg, hg, hnc, hcm, hcs, htake⟩
  · by_cases hm : m = 0
    · subst hm
      have hn : ints .u8 ys = [] := List.eq_nil_of_length_eq_zero (by simpa using hl)
      refine ⟨.slice none 0 0, w, ?_, hU⟩
      simp [Builtin.append_, run_underlying ht, sizeOf, typeInfo, hi, Builtin.lenOf, Builtin.firstCells, loadCells, loadCellsFrom]
    · have hr := run_append_nil (P := P) w t ty 5 i (.int .u8 0) ht hi hz a m c (ints .u8 ys) hl hnews (by omega) (by omega) (by have hb := hbytes; simp only [Nat.zero_add] at hb; omega)
      exact ⟨_, _, hr, new _ _ _ _ ints_u8⟩
  · obtain ⟨cur', hg', hall⟩ := hU g rfl
    have hcc : cur' = cur := by
      rw [hg] at hg'
      injection hg' with hg'
      injection hg' with hg' _ _
      exact hg'.symm
    subst hcc
    by_cases hroom : n + m ≤ cap
    · have hfit : n * i.size + (ints .u8 ys).length ≤ cur'.size := by rw [hl, hcs, ← Nat.add_mul]; exact Nat.mul_le_mul_right _ hroom
      have hr := run_append_room (P := P) w t ty 5 i ht hi g n cap cur' hg a m c (ints .u8 ys) hl hnews h1 hroom hfit
      refine ⟨_, _, hr, fun b hb => ?_⟩
      have e : g = b := by simpa [Value.ownBlock] using hb
      subst e
      refine ⟨_, setRow_heap w g cur' _ 5 _ hg, fun u hu => ?_⟩
      simp only [List.mem_append] at hu
      rcases hu with (h | h) | h
      · exact hall u (List.mem_of_mem_take h)
      · exact ints_u8 u h
      · exact hall u (List.mem_of_mem_drop h)
    · have holds : ∀ j u, xs[j]? = some u → w.cell? ((⟨g, 0, none⟩ : Addr).add j) = some u := hown.cells (g := g) rfl
      have hr := run_append_grow (P := P) w t ty 5 i (.int .u8 0) ht hi hz ⟨g, 0, none⟩ n cap xs hown.1 holds a m c (ints .u8 ys) hl hnews (by omega) (by omega) (growslice_fits (by omega) hbytes)
      refine ⟨_, _, hr, ?_⟩
      have hc : ∀ u ∈ xs ++ ints .u8 ys, ∃ k, u = .int .u8 k := by
        intro u hu
        rcases List.mem_append.1 hu with h | h
        · rw [← htake] at h; exact hall u (List.mem_of_mem_take h)
        · exact ints_u8 u h
      have := new (xs ++ ints .u8 ys) (grownCap w (n + m) cap 5 - (n + m)) (n + m) (grownCap w (n + m) cap 5) hc
      rwa [show (xs ++ ints .u8 ys).toArray = xs.toArray ++ (ints .u8 ys).toArray by simp] at this
theorem run_append_where {P : Program} (w : World) (base : Nat) (t ty e : TypeId) (i : TypeInfo) (z : Value) (size bytes : Nat) (ht : P.underlying t = some (.slice e)) (hi : P.info? e = some i) (hz : i.zero = some z)
    (hsize : i.size = size) (hby : i.bytes = bytes) (hzs : z.cells.size = size) (hsz : 0 < size)
    (v : Value) (n : Nat) (xs : List Value) (hown : w.ownsRow base e size v n xs)
    (a : Addr) (m c : Nat) (news : List Value) (hl : news.length = m * size) (hnews : ∀ j u, news[j]? = some u → w.cell? (a.add j) = some u) (h1 : ∀ u ∈ news, u.oneCell' = true)
    (h63 : n + m ≤ maxLen) (hbytes : (n + m) * bytes ≤ 140737488355328) :
    ∃ v' w', (Builtin.append_ #[t, t] ty #[v, .slice (some a) m c]).run P w = .ok v' w' ∧ (v'.ownBlock = v.ownBlock ∨ v'.ownBlock = some w.heap.size) := by
  subst hsize
  subst hby
  have hsmall : n + m ≤ 9223372036854775807 := by simp only [maxLen] at h63; omega
  rcases hown.2 with ⟨rfl, rfl⟩ | ⟨g, cap, cur, rfl, hbg, hg, hnc, hcm, hcs, htake⟩
  · by_cases hm : m = 0
    · subst hm
      have hn : news = [] := List.eq_nil_of_length_eq_zero (by simpa using hl)
      subst hn
      refine ⟨.slice none 0 0, w, ?_, .inl rfl⟩
      simp [Builtin.append_, run_underlying ht, sizeOf, typeInfo, hi, Builtin.lenOf, Builtin.firstCells, loadCells, loadCellsFrom]
    · have hr := run_append_nil (P := P) w t ty e i z ht hi hz a m c news hl hnews (by omega) (by omega) (by have hb := hbytes; simp only [Nat.zero_add] at hb; omega)
      exact ⟨_, _, hr, .inr rfl⟩
  · by_cases hroom : n + m ≤ cap
    · have hfit : n * i.size + news.length ≤ cur.size := by rw [hl, hcs, ← Nat.add_mul]; exact Nat.mul_le_mul_right _ hroom
      have hr := run_append_room (P := P) w t ty e i ht hi g n cap cur hg a m c news hl hnews h1 hroom hfit
      exact ⟨_, _, hr, .inl rfl⟩
    · have holds : ∀ j u, xs[j]? = some u → w.cell? ((⟨g, 0, none⟩ : Addr).add j) = some u := hown.cells (g := g) rfl
      have hr := run_append_grow (P := P) w t ty e i z ht hi hz ⟨g, 0, none⟩ n cap xs hown.1 holds a m c news hl hnews (by omega) (by omega) (growslice_fits (by omega) hbytes)
      exact ⟨_, _, hr, .inr rfl⟩
theorem app_bytesU {ops : Array Oper} {rest : List Oper} {o : Oper} {a : Act} {Q : Exit → Act → World → Prop} {w : World} (hgd : o.guard = none) (s x : Operand)
    (ho : o.op = .call { callee := .builtin .append, args := #[s, x], argTypes := #[37, 37] })
    (base : Nat) (v : Value) (n : Nat) (xs : List Int) (hs : a.eval s = v) (hown : w.ownsRow base 5 1 v n (ints .u8 xs))
    (A : Option Addr) (m c : Nat) (ys : List Int) (hx : a.eval x = .slice A m c) (hy : RI .u8 w A m ys) (hnil : A = none → m = 0 ∧ c = 0)
    (hn : n + m ≤ 8000000000) (hbase : base ≤ w.heap.size)
    (h : ∀ v' w', w'.ownsRow base 5 1 v' (n + m) (ints .u8 (xs ++ ys)) → w.grownBy w' v.ownBlock → (v'.ownBlock = v.ownBlock ∨ v'.ownBlock = some w.heap.size) → (AllU8 w v → AllU8 w' v') → wpList Tryd.prog ops Q rest (a.put o.dst v') w') : wpList Tryd.prog ops Q (o :: rest) a w := by
  obtain ⟨i0, hi, hz0, hz1, hz2⟩ := info_parts info_u8
  cases A with
  | none =>
    obtain ⟨rfl, rfl⟩ := hnil rfl
    obtain rfl : ys = [] := List.eq_nil_of_length_eq_zero hy.len
    refine wpList_append_own_none hgd s x 37 ho base 5 i0 1 Tryd.underlying37 hi v n (ints .u8 xs) hs hown hx ?_
    exact h v w (by simpa using hown) ⟨rfl, rfl, rfl, Nat.le_refl _, fun _ _ _ => rfl⟩ (.inl rfl) id
  | some ad =>
    have hnews : ∀ j u, (ints .u8 ys)[j]? = some u → w.cell? (ad.add j) = some u := by
      intro j u hu
      have hj : j < m := by have := (List.getElem?_eq_some_iff.1 hu).1; have := hy.len; simp [ints] at *; omega
      obtain ⟨b, of, hab⟩ := hy.hd (by omega)
      obtain rfl := Option.some.inj hab
      rw [add_plain2]
      have hc := hy.cell b of rfl j hj
      rw [hc, ← hu, ints_getElem?]
      simp [nth, List.getD, show j < ys.length by have := hy.len; omega]
    obtain ⟨v', w', hr, h2, h3, -⟩ := run_append_own (P := Tryd.prog) w base 37 o.type 5 i0 (.int .u8 0) 1 1 Tryd.underlying37 hi hz0 hz1 hz2 rfl (by decide) v n (ints .u8 xs) hown ad m c (ints .u8 ys) (by simp [ints, hy.len]) hnews (ints_one' _ _) (by unfold maxLen; omega) (by omega) hbase
    obtain ⟨v2, w2, hr2, h4⟩ := run_append_where (P := Tryd.prog) w base 37 o.type 5 i0 (.int .u8 0) 1 1 Tryd.underlying37 hi hz0 hz1 hz2 rfl (by decide) v n (ints .u8 xs) hown ad m c (ints .u8 ys) (by simp [ints, hy.len]) hnews (ints_one' _ _) (by unfold maxLen; omega) (by omega)
    rw [hr] at hr2
    injection hr2 with e1 e2
    subst e1
    have hu8 : AllU8 w v → AllU8 w' v' := fun hU => by
      obtain ⟨v3, w3, hr3, h5⟩ := run_append_u8 (P := Tryd.prog) w base 37 o.type i0 1 Tryd.underlying37 hi hz0 hz1 hz2 v n (ints .u8 xs) hown ad m c ys (by simp [ints, hy.len]) hnews (ints_one' _ _) (by unfold maxLen; omega) (by omega) hU
      rw [hr] at hr3
      injection hr3 with e3 e4
      subst e3
      subst e4
      exact h5
    refine wpList_plain hgd fun K hK => ?_
    unfold Oper.wp execOp
    simp only [ho, resolve, invoke, builtin, Sem.run_bind, Sem.run_pure, Result.andThen_ok, List.map_toArray, List.map_cons, List.map_nil, hs, hx, hr]
    have e : ints .u8 (xs ++ ys) = ints .u8 xs ++ ints .u8 ys := by simp [ints]
    rw [e] at h
    exact hK _ _ (h v' w' h2 h3 h4 hu8)
theorem app_bytesB {ops : Array Oper} {rest : List Oper} {o : Oper} {a : Act} {Q : Exit → Act → World → Prop} {w : World} (hgd : o.guard = none) (s x : Operand)
    (ho : o.op = .call { callee := .builtin .append, args := #[s, x], argTypes := #[37, 37] })
    (base : Nat) (v : Value) (n : Nat) (xs : List Int) (hs : a.eval s = v) (hown : w.ownsRow base 5 1 v n (ints .u8 xs))
    (A : Option Addr) (m c : Nat) (ys : List Int) (hx : a.eval x = .slice A m c) (hy : RI .u8 w A m ys) (hnil : A = none → m = 0 ∧ c = 0)
    (hn : n + m ≤ 8000000000) (hbase : base ≤ w.heap.size)
    (h : ∀ v' w', w'.ownsRow base 5 1 v' (n + m) (ints .u8 (xs ++ ys)) → w.grownBy w' v.ownBlock → (v'.ownBlock = v.ownBlock ∨ v'.ownBlock = some w.heap.size) → wpList Tryd.prog ops Q rest (a.put o.dst v') w') : wpList Tryd.prog ops Q (o :: rest) a w := by
  obtain ⟨i0, hi, hz0, hz1, hz2⟩ := info_parts info_u8
  cases A with
  | none =>
    obtain ⟨rfl, rfl⟩ := hnil rfl
    obtain rfl : ys = [] := List.eq_nil_of_length_eq_zero hy.len
    refine wpList_append_own_none hgd s x 37 ho base 5 i0 1 Tryd.underlying37 hi v n (ints .u8 xs) hs hown hx ?_
    exact h v w (by simpa using hown) ⟨rfl, rfl, rfl, Nat.le_refl _, fun _ _ _ => rfl⟩ (.inl rfl)
  | some ad =>
    have hnews : ∀ j u, (ints .u8 ys)[j]? = some u → w.cell? (ad.add j) = some u := by
      intro j u hu
      have hj : j < m := by have := (List.getElem?_eq_some_iff.1 hu).1; have := hy.len; simp [ints] at *; omega
      obtain ⟨b, of, hab⟩ := hy.hd (by omega)
      obtain rfl := Option.some.inj hab
      rw [add_plain2]
      have hc := hy.cell b of rfl j hj
      rw [hc, ← hu, ints_getElem?]
      simp [nth, List.getD, show j < ys.length by have := hy.len; omega]
    obtain ⟨v', w', hr, h2, h3, -⟩ := run_append_own (P := Tryd.prog) w base 37 o.type 5 i0 (.int .u8 0) 1 1 Tryd.underlying37 hi hz0 hz1 hz2 rfl (by decide) v n (ints .u8 xs) hown ad m c (ints .u8 ys) (by simp [ints, hy.len]) hnews (ints_one' _ _) (by unfold maxLen; omega) (by omega) hbase
    obtain ⟨v2, w2, hr2, h4⟩ := run_append_where (P := Tryd.prog) w base 37 o.type 5 i0 (.int .u8 0) 1 1 Tryd.underlying37 hi hz0 hz1 hz2 rfl (by decide) v n (ints .u8 xs) hown ad m c (ints .u8 ys) (by simp [ints, hy.len]) hnews (ints_one' _ _) (by unfold maxLen; omega) (by omega)
    rw [hr] at hr2
    injection hr2 with e1 e2
    subst e1
    refine wpList_plain hgd fun K hK => ?_
    unfold Oper.wp execOp
    simp only [ho, resolve, invoke, builtin, Sem.run_bind, Sem.run_pure, Result.andThen_ok, List.map_toArray, List.map_cons, List.map_nil, hs, hx, hr]
    have e : ints .u8 (xs ++ ys) = ints .u8 xs ++ ints .u8 ys := by simp [ints]
    rw [e] at h
    exact hK _ _ (h v' w' h2 h3 h4)
end Go.Proofs.YtcblibefmclloaaDoor

set_option linter.unusedVariables false
set_option linter.unusedSimpArgs false
namespace Go.Proofs.YtcblibefmclloaaDoor
open Go.RowKit
/-- Bytes that are being inflated. -/
structure IR (w : World) (g gr : Nat) (A : Option Addr) (c : Nat) (bs : List Int) (p most : Nat) (out : List Int) : Prop where
  rd : Rdr w gr A c bs p
  box : ∃ v, Blk w g 98 [.pointer (some ⟨gr, 0, none⟩), v, .int .i64 most] ∧ w.ownsRow (g + 1) 5 1 v out.length (ints .u8 out)
  lt : gr < g
  data : ∀ a, A = some a → a.block < g
  cap : out.length ≤ most
  mx : most ≤ 16384
  u8 : ∀ v, w.cell? ⟨g, 1, none⟩ = some v → AllU8 w v
/-- Nothing else turned. -/
structure KT (g gr : Nat) (w w' : World) : Prop where
  os : w'.os = w.os
  tape : w'.tape = w.tape
  output : w'.output = w.output
  size : w.heap.size ≤ w'.heap.size
  same : ∀ k, k < w.heap.size → k ≠ g → k ≠ gr → (k < g ∨ ¬ U8 w k) → w'.heap[k]? = w.heap[k]?
theorem KT.refl (g gr : Nat) (w : World) : KT g gr w w := ⟨rfl, rfl, rfl, Nat.le_refl _, fun _ _ _ _ _ => rfl⟩
theorem KT.trans {g gr : Nat} {a b c : World} (h : KT g gr a b) (k : KT g gr b c) : KT g gr a c :=
  ⟨k.os.trans h.os, k.tape.trans h.tape, k.output.trans h.output, Nat.le_trans h.size k.size, fun x hx h1 h2 h3 => by
    have e := h.same x hx h1 h2 h3
    rw [k.same x (by have := h.size; omega) h1 h2 (h3.imp id (fun hn ⟨cur, fr, hc⟩ => hn ⟨cur, fr, by rw [← e]; exact hc⟩)), e]⟩
theorem KT.of_keeps {g gr : Nat} {S : List Nat} {w w' : World} (h : Keeps S w w') (hS : ∀ x ∈ S, x = g ∨ x = gr) : KT g gr w w' :=
  ⟨h.os, h.tape, h.output, h.size, fun k hk h1 h2 _ => h.block k hk (fun hm => by rcases hS k hm with h | h <;> omega)⟩
theorem KT.keeps {g gr : Nat} {w w1 w2 : World} (hk : Keeps [] w w1) (h : KT g gr w1 w2) (hg : w.heap.size ≤ g) (hr : w.heap.size ≤ gr) : Keeps [] w w2 :=
  ⟨h.os.trans hk.os, h.tape.trans hk.tape, h.output.trans hk.output, Nat.le_trans hk.size h.size, fun k hk2 _ =>
    (h.same k (by have := hk.size; omega) (by omega) (by omega) (.inl (by omega))).trans (hk.block k hk2 (by simp))⟩
theorem KT.set {g gr : Nat} {w w' : World} (h : KT g gr w w') (j : Nat) (v : Value) : KT g gr w (w'.setCell ⟨g, j, none⟩ v) :=
  h.trans (KT.of_keeps (S := [g]) ((Keeps.refl [g] w').setCell (p := ⟨g, j, none⟩) (Or.inl (by simp)) v) (fun x hx => .inl (List.mem_singleton.1 hx)))
theorem KT.grown {g gr : Nat} {w w1 w2 : World} {row : Option Nat} (h : KT g gr w w1) (hg : w1.grownBy w2 row) (hr : ∀ k, row = some k → U8 w1 k ∧ g < k) : KT g gr w w2 :=
  h.trans ⟨hg.os, hg.tape, hg.output, hg.size, fun k hk _ _ h3 => hg.block k hk (fun e => by
    obtain ⟨a, b⟩ := hr k e.symm
    rcases h3 with h3 | h3
    · omega
    · exact h3 a)⟩
theorem IR.glt {w : World} {g gr c p most : Nat} {A : Option Addr} {bs out : List Int} (h : IR w g gr A c bs p most out) : g < w.heap.size := by
  obtain ⟨v, h1, _⟩ := h.box; exact h1.lt
theorem IR.u8v {w : World} {g gr c p most : Nat} {A : Option Addr} {bs out : List Int} (h : IR w g gr A c bs p most out) {v x y : Value} (hb : Blk w g 98 [x, v, y]) : AllU8 w v := h.u8 v (by have := hb.cell 1; simpa using this)
theorem u8_same {w' : World} {g : Nat} {v x y : Value} (hb : Blk w' g 98 [x, v, y]) (hu : AllU8 w' v) : ∀ u, w'.cell? ⟨g, 1, none⟩ = some u → AllU8 w' u := fun u hc => by
  have h := hb.cell 1
  simp only [List.getElem?_cons_zero, List.getElem?_cons_succ] at h
  rw [h] at hc
  injection hc with hc
  subst hc
  exact hu
theorem IR.keeps {w w' : World} {g gr c p most : Nat} {A : Option Addr} {bs out : List Int} (h : IR w g gr A c bs p most out) (hk : Keeps [] w w') : IR w' g gr A c bs p most out := by
  obtain ⟨v, h1, h2⟩ := h.box
  exact ⟨h.rd.dr hk, ⟨v, h1.keeps hk (by simp), own_keeps h2 hk (by simp)⟩, h.lt, h.data, h.cap, h.mx, u8_same (h1.keeps hk (by simp)) ((h.u8v h1).keeps hk (by simp))⟩
theorem IR.read {w w' : World} {g gr c p q most : Nat} {A : Option Addr} {bs out : List Int} (h : IR w g gr A c bs p most out) (hr : Rdr w' gr A c bs q) (hk : Keeps [gr] w w') : IR w' g gr A c bs q most out := by
  obtain ⟨v, h1, h2⟩ := h.box
  have := h.lt
  exact ⟨hr, ⟨v, h1.keeps hk (by simp; omega), own_keeps h2 hk (fun x hx hm => by have := own_lo h2 x hx; rw [List.mem_singleton.1 hm] at this; omega)⟩, h.lt, h.data, h.cap, h.mx, u8_same (h1.keeps hk (by simp; omega)) ((h.u8v h1).keeps hk (fun x hx hm => by have := own_lo h2 x hx; rw [List.mem_singleton.1 hm] at this; omega))⟩
theorem grown_keepsI {w w' : World} {row : Option Nat} (h : w.grownBy w' row) : Keeps row.toList w w' :=
  ⟨h.os, h.tape, h.output, h.size, fun k hk hm => h.block k hk (fun e => hm (Option.mem_toList.2 e.symm))⟩
theorem own_kt {w w' : World} {g gr base n size : Nat} {t : TypeId} {v : Value} {xs : List Value} (ht : t ≠ 5) (hb : g < base) (hr : gr < base) (h : w.ownsRow base t size v n xs) (hp : KT g gr w w') : w'.ownsRow base t size v n xs := by
  obtain ⟨h1, h2⟩ := h
  refine ⟨h1, ?_⟩
  rcases h2 with h2 | ⟨b, cap, cur, hv, hb2, hh, r⟩
  · exact Or.inl h2
  · refine Or.inr ⟨b, cap, cur, hv, hb2, ?_, r⟩
    rw [hp.same b (Array.getElem?_eq_some_iff.1 hh).1 (by omega) (by omega) (.inr fun ⟨c, f, hc⟩ => ?_), hh]
    rw [hh] at hc
    injection hc with hc
    injection hc with _ h2 _
    exact ht h2
theorem blk_kt {w w' : World} {g gr k : Nat} {t : TypeId} {cs : List Value} (ht : t ≠ 5) (hk : k ≠ g) (hr : k ≠ gr) (h : Blk w k t cs) (hp : KT g gr w w') : Blk w' k t cs := by
  refine (hp.same k h.lt hk hr (.inr fun ⟨c, f, hc⟩ => ?_)).trans h
  have h2 : w.heap[k]? = _ := h
  rw [h2] at hc
  injection hc with hc
  injection hc with _ h3 _
  exact ht h3
theorem cell_kt {w w' : World} {g gr : Nat} (hp : KT g gr w w') {a : Addr} {v : Value} (h : w.cell? a = some v) (h1 : a.block < g) (h2 : a.block ≠ gr) : w'.cell? a = some v := by
  have hb := World.block_lt_of_cell? _ _ h
  have e := hp.same a.block hb (by omega) h2 (.inl h1)
  have k : Keeps [g, gr] ({ w with heap := w.heap } : World) w := Keeps.refl _ _
  unfold World.cell? at h ⊢
  rw [e]; exact h
theorem ri_kt {w w' : World} {g gr n : Nat} {k : IntKind} {A : Option Addr} {xs : List Int} (h : RI k w A n xs) (hp : KT g gr w w') (ho : ∀ a, A = some a → a.block < g ∧ a.block ≠ gr) : RI k w' A n xs :=
  ⟨h.len, h.hd, fun b o ha j hj => cell_kt hp (h.cell b o ha j hj) (ho _ ha).1 (ho _ ha).2⟩
theorem tabs_kt {w w' : World} {g gr : Nat} (h : Tabs w) (hp : KT g gr w w') (h3 : gtop ≤ gr) (hg : gr < g) : Tabs w' := by
  have := glt
  exact ⟨ri_kt h.fro hp (by rintro a ⟨⟩; constructor <;> simp only [] <;> omega), ri_kt h.wid hp (by rintro a ⟨⟩; constructor <;> simp only [] <;> omega), ri_kt h.ord hp (by rintro a ⟨⟩; constructor <;> simp only [] <;> omega)⟩
/-! Small functions. -/
set_option maxRecDepth 100000 in
set_option maxHeartbeats 400000 in
theorem end_calls (w : World) (e o : Int) : Calls Tryd.prog 115 #[.int .i64 e, .int .i64 o] w fun r w' => r = .returned (.int .i64 (endF e o)) ∧ Dr w w' := by
  by_cases h0 : e = 0
  · subst h0
    go_enter Tryd.func115, Tryd.ntmps115
    go_wp2_with fail
    go_ret
    exact ⟨rfl, 0, rfl⟩
  · by_cases h1 : e = 10
    · subst h1
      go_enter Tryd.func115, Tryd.ntmps115
      go_wp2_with fail
      go_ret
      exact ⟨rfl, 0, rfl⟩
    · have HE : Hid (endF e o = o) := Lib.hid (by unfold endF; rw [if_neg h0, if_neg h1])
      have e0 : (e == 0) = false := by simpa using h0
      have e1 : (e == 10) = false := by simpa using h1
      have e0' : decide (e = 0) = false := by simpa using h0
      have e1' : decide (e = 10) = false := by simpa using h1
      go_enter Tryd.func115, Tryd.ntmps115
      go_wp2_with fail
      go_ret
      rw [HE.out]
      exact ⟨rfl, 0, rfl⟩
/-- What taking a number answers. -/
def Took (w : World) (g gr : Nat) (A : Option Addr) (c : Nat) (bs : List Int) (p most : Nat) (out : List Int) (n : Nat) (e : Ending) (w' : World) : Prop :=
  (p + n ≤ 8 * bs.length ∧ e = .returned (.tuple #[.int .i64 (numB bs p n), .int .i64 0]) ∧ IR w' g gr A c bs (p + n) most out ∧ KT g gr w w') ∨
  (8 * bs.length < p + n ∧ e = .returned (.tuple #[.int .i64 0, .int .i64 55]) ∧ IR w' g gr A c bs p most out ∧ KT g gr w w')
set_option maxRecDepth 100000 in
set_option maxHeartbeats 400000 in
theorem itake_calls (w : World) (g gr : Nat) (A : Option Addr) (c : Nat) (bs : List Int) (p most : Nat) (out : List Int) (n : Nat) (h : IR w g gr A c bs p most out) (hn : n ≤ 16) :
    Calls Tryd.prog 105 #[.pointer (some ⟨g, 0, none⟩), .int .i64 n] w (Took w g gr A c bs p most out n) := by
  have H := Lib.hid h
  obtain ⟨v, hblk, -⟩ := h.box
  have c0 := hblk.cell 0
  simp only [List.getElem?_cons_zero] at c0
  have hgr := h.lt
  clear hblk h
  go_enter Tryd.func105, Tryd.ntmps105
  by_cases hf : p + n ≤ 8 * bs.length
  · obtain ⟨n0, n1⟩ := numB_lt bs p n
    have h16 : (2 : Int) ^ n ≤ 65536 := pow16 n hn
    go_wp2_with fail
    refine (take_calls w gr A c bs p n H.out.rd (by omega) hf).mono ?_
    rintro _ w1 ⟨rfl, hr, hk⟩
    have H1 := Lib.hid (H.out.read hr hk)
    have K1 : Hid (KT g gr w w1) := Lib.hid (KT.of_keeps hk (fun x hx => .inr (List.mem_singleton.1 hx)))
    clear hr hk H c0
    have s1 : IntKind.i64.wrap (numB bs p n) = numB bs p n := IntWalk.i64_in _ (by omega)
    have HF := Lib.hid hf
    clear n1 h16
    generalize hx : numB bs p n = x at *
    have HX := Lib.hid hx
    clear hx
    go_wp2_with fail
    refine (end_calls w1 0 0).mono ?_
    rintro _ w2 ⟨rfl, hd⟩
    have H2 := Lib.hid (H1.out.keeps (hd.keeps (S := [])))
    have K2 := Lib.hid (K1.out.trans (KT.of_keeps (hd.keeps (S := [])) (by simp)))
    clear hd H1 K1
    go_wp2_with fail
    go_ret2
    exact .inl ⟨HF.out, by rw [HX.out]; rfl, H2.out, K2.out⟩
  · have HF : Hid (8 * bs.length < p + n) := Lib.hid (by omega)
    go_wp2_with fail
    refine (take_end w gr A c bs p n H.out.rd (by omega) (by omega)).mono ?_
    rintro _ w1 ⟨rfl, hd⟩
    have H1 := Lib.hid (H.out.keeps (hd.keeps (S := [])))
    have K1 : Hid (KT g gr w w1) := Lib.hid (KT.of_keeps (hd.keeps (S := [])) (by simp))
    clear hd H c0
    go_wp2_with fail
    refine (end_calls w1 10 10).mono ?_
    rintro _ w2 ⟨rfl, hd⟩
    have H2 := Lib.hid (H1.out.keeps (hd.keeps (S := [])))
    have K2 := Lib.hid (K1.out.trans (KT.of_keeps (hd.keeps (S := [])) (by simp)))
    clear hd H1 K1
    go_wp2_with fail
    go_ret2
    exact .inr ⟨HF.out, rfl, H2.out, K2.out⟩
set_option maxRecDepth 100000 in
set_option maxHeartbeats 400000 in
theorem align_calls (w : World) (gr : Nat) (A : Option Addr) (c : Nat) (bs : List Int) (p : Nat) (hr : Rdr w gr A c bs p) :
    Calls Tryd.prog 116 #[.pointer (some ⟨gr, 0, none⟩)] w fun e w' => e = .returned (.int .i64 0) ∧ Rdr w' gr A c bs (alignF p) ∧ Keeps [gr] w w' := by
  have hb := hr.blk
  have h1 := hb.cell 1
  have f1 := hb.frozen 1
  simp only [List.getElem?_cons_succ, List.getElem?_cons_zero] at h1
  have hle := hr.le
  have hsz := hr.size
  have HR := Lib.hid hr
  clear hb hr
  have s1 : IntKind.i64.wrap ((p : Int) + 7) = (p : Int) + 7 := IntWalk.i64_in _ (by omega)
  have s2 : ((p : Int) + 7).tdiv 8 = (((p + 7) / 8 : Nat) : Int) := by rw [Int.tdiv_eq_ediv_of_nonneg (by omega)]; omega
  have s3 : IntKind.i64.wrap ((((p + 7) / 8 : Nat) : Int) * 8) = (((p + 7) / 8 * 8 : Nat) : Int) := by
    rw [IntWalk.i64_in _ (by omega)]; omega
  go_enter Tryd.func116, Tryd.ntmps116
  go_wp2_with fail
  have HA : Hid (alignF p ≤ 8 * bs.length) := Lib.hid (by unfold alignF; omega)
  have HE : Hid (((p : Int) + 7) / 8 * 8 = ((alignF p : Nat) : Int)) := Lib.hid (by unfold alignF; omega)
  go_ret
  rw [HE.out]
  exact ⟨rfl, HR.out.move HA.out, (Keeps.refl [gr] w).setCell (p := ⟨gr, 1, none⟩) (Or.inl (by simp)) _⟩
set_option maxRecDepth 100000 in
set_option maxHeartbeats 1000000 in
theorem lay_calls (w : World) (g gr : Nat) (A : Option Addr) (c : Nat) (bs : List Int) (p most : Nat) (out : List Int) (x : Int) (h : IR w g gr A c bs p most out) :
    Calls Tryd.prog 117 #[.pointer (some ⟨g, 0, none⟩), .int .u8 x] w fun e w' =>
      (most ≤ out.length ∧ e = .returned (.int .i64 56) ∧ IR w' g gr A c bs p most out ∧ KT g gr w w') ∨ (out.length < most ∧ e = .returned (.int .i64 0) ∧ IR w' g gr A c bs p most (out ++ [x]) ∧ KT g gr w w') := by
  have H := Lib.hid h
  obtain ⟨v, hblk, hown⟩ := h.box
  obtain ⟨vA, vc, rfl⟩ := own_formW hown
  have c1 := hblk.cell 1
  have c2 := hblk.cell 2
  simp only [List.getElem?_cons_zero, List.getElem?_cons_succ] at c1 c2
  have f1 := hblk.frozen 1
  have hlt := hblk.lt
  have hcap := h.cap
  have hmx := h.mx
  have HU := Lib.hid (h.u8v hblk)
  have HB := Lib.hid hblk
  have HO := Lib.hid hown
  clear hblk hown h
  go_enter Tryd.func117, Tryd.ntmps117
  obtain ⟨L, hL⟩ : ∃ L, L = out.length := ⟨_, rfl⟩
  have HL := Lib.hid hL
  rw [← hL] at HO c1 HB HU hcap ⊢
  clear hL
  by_cases hm : most ≤ L
  · have e1 : decide (most ≤ L) = true := by simpa using hm
    have e1' : decide ((most : Int) ≤ (L : Int)) = true := by simp; omega
    go_upto_region 1 with (fail)
    go_quiet (fail)
    go_wp2_with fail
    go_ret
    exact .inl ⟨hm, rfl, H.out.keeps ((Keeps.refl [] w).drewN nq), KT.of_keeps ((Keeps.refl [] w).drewN nq) (by simp)⟩
  · have e1 : decide (most ≤ L) = false := by simpa using hm
    have e1' : decide ((most : Int) ≤ (L : Int)) = false := by simp; omega
    go_upto_region 1 with (fail)
    go_quiet (fail)
    have hkq : Keeps [] w (w.drewN nq) := (Keeps.refl [] w).drewN nq
    obtain ⟨wq, hwq⟩ : ∃ z, z = w.drewN nq := ⟨_, rfl⟩
    rw [← hwq] at hkq ⊢
    clear hwq
    have ka : Keeps [] wq (wq.alloc (.cells #[.int .u8 x] 5)) := (Keeps.refl [] wq).alloc _
    have HOA := Lib.hid (own_keeps HO.out (hkq.trans ka) (by simp))
    have HBA := Lib.hid (HB.out.keeps (hkq.trans ka) (by simp))
    have HQ := Lib.hid (H.out.keeps (hkq.trans ka))
    have HUA := Lib.hid (HU.out.keeps (hkq.trans ka) (by simp))
    have HKA : Hid (KT g gr w (wq.alloc (.cells #[.int .u8 x] 5))) := Lib.hid (KT.of_keeps (hkq.trans ka) (by simp))
    have HRI : Hid (RI .u8 (wq.alloc (.cells #[.int .u8 x] 5)) (some ⟨wq.heap.size, 0, none⟩) 1 [x]) := Lib.hid (Blk.ri (xs := [x]) (ys := []) (k := .u8) (by simpa [ints] using blk_new wq 5 (ints .u8 [x])))
    have c1' := hkq.cell (by simp) c1
    have hltq : g < wq.heap.size := Nat.lt_of_lt_of_le hlt hkq.size
    clear c1 c2 f1 hkq ka HO HB H HU e1
    go_wp2_with (at_builtin; refine app_bytesU rfl (.tmp 19) (.tmp 21) rfl (g + 1) _ _ out rfl (by exact HOA.out) _ 1 1 [x] rfl (by exact HRI.out) (by simp) (by omega) ?c4 ?_)
    case c4 => simp; omega
    intro v1 w1 ho1 hg1 _ hu1
    have HU1 := Lib.hid (hu1 HUA.out)
    clear hu1
    have hg0 : ∀ k, (Value.slice vA L vc).ownBlock = some k → g + 1 ≤ k := fun k hk => (HOA.out.lt k hk).1
    have hblk1 : Blk w1 g 98 [.pointer (some ⟨gr, 0, none⟩), .slice vA L vc, .int .i64 most] := (hg1.block g (Nat.lt_trans hltq (by simp)) (fun e => by have := hg0 g e.symm; omega)).trans HBA.out
    have kg := grown_keepsI hg1
    have HR1 := Lib.hid (HQ.out.rd.keeps kg (fun hm => by have := hg0 gr (Option.mem_toList.1 hm); have := HQ.out.lt; omega) (fun a ha hm => by have := hg0 a.block (Option.mem_toList.1 hm); have := HQ.out.data a ha; omega))
    have K1 := Lib.hid (HKA.out.grown hg1 (fun k hk => ⟨own_u8 HOA.out k hk, hg0 k hk⟩))
    have HO1 := Lib.hid ho1
    have HB1 := Lib.hid hblk1
    obtain ⟨vB, vd, rfl⟩ : ∃ A c, v1 = .slice A (L + 1) c := own_formW ho1
    have c1 := hblk1.cell 1
    simp only [List.getElem?_cons_zero, List.getElem?_cons_succ] at c1
    have f1 := hblk1.frozen 1
    clear HOA HBA HKA HRI c1' kg hg1 ho1 hblk1 hg0
    go_wp2_with fail
    go_ret
    have hs := (HB1.out.set 1 (.slice vB (L + 1) vd))
    simp only [List.set_cons_succ, List.set_cons_zero] at hs
    have ks : Keeps [g] w1 (w1.setCell ⟨g, 1, none⟩ (.slice vB (L + 1) vd)) := (Keeps.refl [g] w1).setCell (p := ⟨g, 1, none⟩) (Or.inl (by simp)) _
    have hgr := HQ.out.lt
    refine .inr ⟨by omega, rfl, ⟨HR1.out.keeps ks (by simp; omega) (fun a ha hm => by have := HQ.out.data a ha; rw [List.mem_singleton.1 hm] at this; omega), ⟨_, hs, ?_⟩, hgr, HQ.out.data, ?_, hmx, u8_same hs (HU1.out.keeps ks (fun x hx hm => by have := own_lo HO1.out x hx; rw [List.mem_singleton.1 hm] at this; omega))⟩, K1.out.set 1 _⟩
    · rw [List.length_append, List.length_singleton, ← HL.out]
      exact ownsRow_setCell_below HO1.out (a := ⟨g, 1, none⟩) (Nat.lt_succ_self g) _
    · rw [List.length_append, List.length_singleton, ← HL.out]; omega
end Go.Proofs.YtcblibefmclloaaDoor

set_option linter.unusedVariables false
set_option linter.unusedSimpArgs false
namespace Go.Proofs.YtcblibefmclloaaDoor
open Go.RowKit
/-- What a part of inflating gives. -/
def Part (w : World) (g gr : Nat) (A : Option Addr) (c : Nat) (bs : List Int) (most : Nat) (r : IRes) (e : Ending) (w' : World) : Prop :=
  ∃ q, e = .returned (.int .i64 r.2.2) ∧ IR w' g gr A c bs q most r.1 ∧ KT g gr w w' ∧ (r.2.2 = 0 → q = r.2.1)
theorem part_ok {w w' : World} {g gr c most q : Nat} {A : Option Addr} {bs out : List Int} {r : IRes} (hr : r = (out, q, 0)) (h : IR w' g gr A c bs q most out) (k : KT g gr w w') : Part w g gr A c bs most r (.returned (.int .i64 0)) w' := by
  subst hr; exact ⟨q, rfl, h, k, fun _ => rfl⟩
theorem part_err {w w' : World} {g gr c most q : Nat} {A : Option Addr} {bs out : List Int} {r : IRes} {e : Int} (hr : r = (out, 0, e)) (he : e ≠ 0) (h : IR w' g gr A c bs q most out) (k : KT g gr w w') : Part w g gr A c bs most r (.returned (.int .i64 e)) w' := by
  subst hr; exact ⟨q, rfl, h, k, fun h => absurd h he⟩
theorem xor_16 (m : Int) (h0 : 0 ≤ m) (h1 : m < 65536) : Go.bits .xor .i64 m 65535 = 65535 - m := by
  obtain ⟨k, rfl⟩ := Int.eq_ofNat_of_zero_le h0
  have hk : k < 65536 := by omega
  have hx : k ^^^ 65535 < 2 ^ 62 := Nat.lt_of_lt_of_le (Nat.xor_lt_two_pow (show k < 2 ^ 16 by omega) (by decide : 65535 < 2 ^ 16)) (by decide)
  have e : k ^^^ 65535 = 65535 - k := by
    apply Nat.eq_of_testBit_eq
    intro i
    have h2 := Nat.testBit_two_pow_sub_succ (show k < 2 ^ 16 by omega) i
    rw [show 2 ^ 16 - (k + 1) = 65535 - k by omega] at h2
    rw [Nat.testBit_xor, h2, show (65535 : Nat) = 2 ^ 16 - 1 from rfl, Nat.testBit_two_pow_sub_one]
    by_cases hi : i < 16
    · simp [hi]
    · have : k.testBit i = false := Nat.testBit_lt_two_pow (Nat.lt_of_lt_of_le (show k < 2 ^ 16 by omega) (Nat.pow_le_pow_right (by decide) (by omega)))
      simp [hi, this]
  have e2 : Go.bits .xor .i64 (k : Int) ((65535 : Nat) : Int) = ((k ^^^ 65535 : Nat) : Int) := by
    simp only [Go.bits, BitVec.ofInt_natCast, BitVec.toNat_xor, BitVec.toNat_ofNat, show k % 2 ^ IntKind.i64.bits = k from Nat.mod_eq_of_lt (Nat.lt_of_lt_of_le (show k < 2 ^ 16 by omega) (by decide)), show 65535 % 2 ^ IntKind.i64.bits = 65535 from rfl]
    exact IntWalk.i64_in _ (by rw [e]; omega)
  rw [show (65535 : Int) = ((65535 : Nat) : Int) from rfl]
  refine Eq.trans e2 ?_
  rw [e]
  omega
set_option maxRecDepth 100000 in
set_option maxHeartbeats 1000000 in
theorem stored_calls (w : World) (g gr : Nat) (A : Option Addr) (c : Nat) (bs : List Int) (p most : Nat) (out : List Int) (h : IR w g gr A c bs p most out) :
    Calls Tryd.prog 106 #[.pointer (some ⟨g, 0, none⟩)] w (Part w g gr A c bs most (storedF bs most out p)) := by
  have H := Lib.hid h
  obtain ⟨v, hblk, -⟩ := h.box
  have c0 := hblk.cell 0
  simp only [List.getElem?_cons_zero] at c0
  clear hblk h
  go_enter Tryd.func106, Tryd.ntmps106
  go_wp2_with fail
  refine (align_calls w gr A c bs p H.out.rd).mono ?_
  rintro _ w1 ⟨rfl, hr, hk⟩
  have H1 := Lib.hid (H.out.read hr hk)
  have K1 : Hid (KT g gr w w1) := Lib.hid (KT.of_keeps hk (fun x hx => .inr (List.mem_singleton.1 hx)))
  clear hr hk H c0
  obtain ⟨a, ha⟩ : ∃ a, a = alignF p := ⟨_, rfl⟩
  have HA := Lib.hid ha
  rw [← ha] at H1
  clear ha
  go_wp2_with fail
  refine (itake_calls w1 g gr A c bs a most out 16 H1.out (by omega)).mono ?_
  rintro _ w2 (⟨hf, rfl, h2, k2⟩ | ⟨hf, rfl, h2, k2⟩)
  rotate_left
  · have HR : Hid (storedF bs most out p = (out, 0, 55)) := Lib.hid (by unfold storedF; rw [← HA.out, if_pos hf])
    have H2 := Lib.hid h2
    have K2 := Lib.hid (K1.out.trans k2)
    clear h2 k2 H1 K1
    go_wp2_with fail
    go_ret
    exact part_err HR.out (by decide) H2.out K2.out
  have H2 := Lib.hid h2
  have K2 := Lib.hid (K1.out.trans k2)
  clear h2 k2 H1 K1
  obtain ⟨n0, n1⟩ := numB_lt bs a 16
  rw [show (2 : Int) ^ 16 = 65536 from rfl] at n1
  obtain ⟨N, hN⟩ : ∃ N : Nat, numB bs a 16 = N := ⟨(numB bs a 16).toNat, by omega⟩
  have HN := Lib.hid hN
  rw [hN] at n1 ⊢
  clear hN n0
  go_wp2_with fail
  refine (itake_calls w2 g gr A c bs (a + 16) most out 16 H2.out (by omega)).mono ?_
  rintro _ w3 (⟨hf3, rfl, h3, k3⟩ | ⟨hf3, rfl, h3, k3⟩)
  rotate_left
  · have HR : Hid (storedF bs most out p = (out, 0, 55)) := Lib.hid (by unfold storedF; rw [← HA.out, if_neg (by omega), if_pos (by omega)])
    have H3 := Lib.hid h3
    have K3 := Lib.hid (K2.out.trans k3)
    clear h3 k3 H2 K2
    go_wp2_with fail
    go_ret
    exact part_err HR.out (by decide) H3.out K3.out
  have H3 := Lib.hid h3
  have K3 := Lib.hid (K2.out.trans k3)
  clear h3 k3 H2 K2
  obtain ⟨m0, m1⟩ := numB_lt bs (a + 16) 16
  rw [show (2 : Int) ^ 16 = 65536 from rfl] at m1
  obtain ⟨M, hM⟩ : ∃ M : Nat, numB bs (a + 16) 16 = M := ⟨(numB bs (a + 16) 16).toNat, by omega⟩
  have HM := Lib.hid hM
  rw [hM] at m0 m1 ⊢
  clear hM
  have X := xor_16 M m0 m1
  by_cases hs : (N : Int) = 65535 - (M : Int)
  · have e1 : ((N : Int) != 65535 - (M : Int)) = false := by simpa using hs
    have HR : Hid (storedF bs most out p = storF bs most N out (a + 32)) := Lib.hid (by
      unfold storedF
      rw [← HA.out, if_neg (by omega), if_neg (by omega), HN.out, HM.out, if_neg (by omega), Int.toNat_natCast])
    clear hs m0 m1
    go_wp2_with fail
    clear X e1
    go_loopw [35] (fun iv wr => ∃ (i q : Nat) (o : List Int), i ≤ N ∧ iv = .int .i64 i ∧ Hid (storF bs most N out (a + 32) = storF bs most (N - i) o q) ∧ Hid (IR wr g gr A c bs q most o) ∧ Hid (KT g gr w wr)) (fun iv _ => N - (intOf iv).toNat)
    case atStart => exact ⟨0, a + 32, out, by omega, rfl, Lib.hid rfl, by rw [show a + 32 = a + 16 + 16 by omega]; exact H3, K3⟩
    case round =>
      clear H3 K3
      obtain ⟨i, q, o, hi, rfl, HS, H, K⟩ := hrel
      by_cases hlt : i < N
      · have e0 : decide (i < N) = true := by simpa using hlt
        have HS' : Hid (storF bs most (N - i) o q = if 8 * bs.length < q + 8 then (o, 0, 55) else if most ≤ o.length then (o, 0, 56) else storF bs most (N - (i + 1)) (o ++ [numB bs q 8]) (q + 8)) := Lib.hid (by rw [show N - i = (N - (i + 1)) + 1 by omega, storF])
        go_wp2_with fail
        refine (itake_calls wr g gr A c bs q most o 8 H.out (by omega)).mono ?_
        rintro _ w4 (⟨hf4, rfl, h4, k4⟩ | ⟨hf4, rfl, h4, k4⟩)
        · have H4 := Lib.hid h4
          have K4 := Lib.hid (K.out.trans k4)
          have HF := Lib.hid hf4
          clear h4 k4 H K hf4
          obtain ⟨b0, b1⟩ := numB_lt bs q 8
          rw [show (2 : Int) ^ 8 = 256 from rfl] at b1
          obtain ⟨x, hx⟩ : ∃ x, x = numB bs q 8 := ⟨_, rfl⟩
          rw [← hx] at b0 b1 HS' ⊢
          have HX := Lib.hid hx
          clear hx
          have s1 : IntKind.u8.wrap x = x := by rw [IntKind.wrap_u8]; omega
          go_wp2_with fail
          refine (lay_calls w4 g gr A c bs (q + 8) most o x H4.out).mono ?_
          rintro _ w5 (⟨hm, rfl, h5, k5⟩ | ⟨hm, rfl, h5, k5⟩)
          · have H5 := Lib.hid h5
            have K5 := Lib.hid (K4.out.trans k5)
            have HE : Hid (storedF bs most out p = (o, 0, 56)) := Lib.hid (by rw [HR.out, HS.out, HS'.out, if_neg (by have := HF.out; omega), if_pos hm])
            clear h5 k5 H4 K4 HS HS' HR
            go_wp2_with fail
            go_ret
            exact part_err HE.out (by decide) H5.out K5.out
          · have H5 := Lib.hid h5
            have K5 := Lib.hid (K4.out.trans k5)
            have HS2 : Hid (storF bs most N out (a + 32) = storF bs most (N - (i + 1)) (o ++ [x]) (q + 8)) := Lib.hid (by rw [HS.out, HS'.out, if_neg (by have := HF.out; omega), if_neg (by omega)])
            clear h5 k5 H4 K4 HS HS'
            go_wp2_with fail
            go_roundw
            case rel => exact ⟨i + 1, q + 8, o ++ [x], by omega, by go_num, HS2, H5, K5⟩
            case measure => simp [intOf]; omega
        · have H4 := Lib.hid h4
          have K4 := Lib.hid (K.out.trans k4)
          have HE : Hid (storedF bs most out p = (o, 0, 55)) := Lib.hid (by rw [HR.out, HS.out, HS'.out, if_pos hf4])
          clear h4 k4 H K hf4 HS HS' HR
          go_wp2_with fail
          go_ret
          exact part_err HE.out (by decide) H4.out K4.out
      · obtain rfl : i = N := by omega
        have e0 : decide (i < i) = false := by simp
        have HE : Hid (storedF bs most out p = (o, q, 0)) := Lib.hid (by rw [HR.out, HS.out, Nat.sub_self, storF])
        clear HS HR
        go_wp2_with fail
        go_ret
        exact part_ok HE.out H.out K.out
  · have e1 : ((N : Int) != 65535 - (M : Int)) = true := by simpa using hs
    have HR : Hid (storedF bs most out p = (out, 0, 51)) := Lib.hid (by
      unfold storedF
      rw [← HA.out, if_neg (by omega), if_neg (by omega), HN.out, HM.out, if_pos (by omega)])
    clear hs m0 m1
    go_wp2_with fail
    go_ret
    exact part_err HR.out (by decide) H3.out K3.out
end Go.Proofs.YtcblibefmclloaaDoor
