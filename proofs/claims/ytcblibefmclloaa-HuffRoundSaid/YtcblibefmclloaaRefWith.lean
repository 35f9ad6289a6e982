import Derived.Test.YtcblibefmclloaaMLeast
import Derived.Test.YtcblibefmclloaaGrow
import Derived.Deep.Onto
set_option linter.unusedVariables false
set_option linter.unusedSimpArgs false
namespace Go.Proofs.Ytcblibefmclloaa
open Go.RowKit
theorem hd_of {k : IntKind} {w : World} {A : Option Addr} {n : Nat} {xs : List Int} (h : RI k w A n xs) (hp : 0 < n) : ∀ ad, A = some ad → ∃ b o, ad = ⟨b, o, none⟩ := fun ad ha => by
  obtain ⟨b, o, hb⟩ := h.hd hp
  rw [hb] at ha
  exact ⟨b, o, (Option.some.inj ha).symm⟩
/-- An owned row as an argument. -/
theorem own_arg {w : World} {base : Nat} {e : TypeId} {v : Value} {n : Nat} {k : IntKind} {xs : List Int} (h : w.ownsRow base e 1 v n (ints k xs)) :
    ∃ A c, v = .slice A n c ∧ RI k w A n xs ∧ (A = none → n = 0 ∧ c = 0) ∧ (∀ ad, A = some ad → ∃ b o, ad = ⟨b, o, none⟩) ∧ n ≤ c := by
  have h' := h
  obtain ⟨A, c, hv, hr, hc, _⟩ := own_ri h
  refine ⟨A, c, hv, hr, fun ha => ?_, fun ad ha => ?_, hc⟩
  · rcases h'.2 with ⟨hv2, hn⟩ | ⟨g, cap, cur, hv2, _⟩
    · rw [hv] at hv2; injection hv2 with _ h1 h2; exact ⟨h1, h2⟩
    · rw [hv, ha] at hv2; injection hv2 with h1; cases h1
  · rcases h'.2 with ⟨hv2, hn⟩ | ⟨g, cap, cur, hv2, _⟩
    · rw [hv, ha] at hv2; injection hv2 with h1; cases h1
    · rw [hv, ha] at hv2; injection hv2 with h1; exact ⟨_, _, Option.some.inj h1⟩
/-- Where one more belongs. -/
def cutW (x : Int) : List Int → Nat
  | [] => 0
  | q :: r => if q ≤ x then cutW x r + 1 else 0
theorem cutW_le (x : Int) (l : List Int) : cutW x l ≤ l.length := by
  induction l with
  | nil => exact Nat.le_refl _
  | cons q r ih => unfold cutW; split <;> simp <;> omega
theorem withF_cut (x : Int) (l : List Int) : withF x l = l.take (cutW x l) ++ [x] ++ l.drop (cutW x l) := by
  unfold withF
  induction l with
  | nil => rfl
  | cons q r ih =>
    rw [insW, cutW]
    by_cases h : q ≤ x
    · rw [if_pos (show id q ≤ id x from h), if_pos h, ih]; rfl
    · rw [if_neg (show ¬ id q ≤ id x from h), if_neg h]; rfl
theorem cutW_at (x : Int) (l : List Int) : ∀ k, k < cutW x l → nth l k ≤ x := by
  induction l with
  | nil => intro k h; simp [cutW] at h
  | cons q r ih =>
    intro k h
    unfold cutW at h
    split at h
    · next hq =>
      match k with
      | 0 => simpa [nth] using hq
      | k + 1 => have := ih k (by omega); simpa [nth] using this
    · omega
theorem cutW_end (x : Int) (l : List Int) (h : cutW x l < l.length) : ¬ nth l (cutW x l) ≤ x := by
  induction l with
  | nil => simp at h
  | cons q r ih =>
    unfold cutW at h ⊢
    split
    · next hq =>
      rw [if_pos hq] at h
      have := ih (by simpa using h)
      simpa [nth] using this
    · next hq => simpa [nth] using hq
theorem withF_len (x : Int) (l : List Int) : (withF x l).length = l.length + 1 := by
  rw [withF_cut]; have := cutW_le x l; simp; omega
theorem RI.drop {k : IntKind} {w : World} {b o : Nat} {n : Nat} {xs : List Int} (h : RI k w (some ⟨b, o, none⟩) n xs) {m : Nat} (hm : m ≤ n) : RI k w (some ⟨b, o + m, none⟩) (n - m) (xs.drop m) :=
  ⟨by rw [List.length_drop, h.len], fun _ => ⟨_, _, rfl⟩, fun b' o' ha j hj => by
    injection ha with ha; injection ha with h1 h2 h3; subst h1; subst h2
    have := h.cell b o rfl (m + j) (by omega)
    rw [show o + m + j = o + (m + j) by omega, this]
    simp [nth, List.getD]⟩
theorem ri_one2 (w : World) (k : IntKind) (t : TypeId) (x : Int) : RI k (w.alloc (.cells #[.int k x] t)) (some ⟨w.heap.size, 0, none⟩) 1 [x] :=
  Blk.ri (xs := [x]) (ys := []) (k := k) (by simpa [ints] using blk_new w t (ints k [x]))
set_option maxRecDepth 100000 in
set_option maxHeartbeats 1000000 in
theorem with_calls (w : World) (A : Option Addr) (n c : Nat) (l : List Int) (x : Int) (hl : RI .i64 w A n l) (hnil : A = none → n = 0 ∧ c = 0) (hpl : ∀ ad, A = some ad → ∃ b o, ad = ⟨b, o, none⟩) (hcap : n ≤ c) (hn : n ≤ 1000000) :
    Calls Try.prog 40 #[.slice A n c, .int .i64 x] w fun e w' => ∃ v, e = .returned v ∧ w'.ownsRow w.heap.size 3 1 v (n + 1) (ints .i64 (withF x l)) ∧ Below w.heap.size w w' := by
  have HL := Lib.hid hl
  have HLL := Lib.hid hl.len
  have HN := Lib.hid hnil
  have HP := Lib.hid hpl
  clear hl hnil hpl
  obtain ⟨K, hK⟩ : ∃ K, K = cutW x l := ⟨_, rfl⟩
  have hKn : K ≤ n := by rw [hK, ← HLL.out]; exact cutW_le x l
  have HKE := Lib.hid hK
  clear hK
  go_enter Try.func40, Try.ntmps40
  go_wp2_with fail
  go_loopw [5] (fun kv wr => ∃ k : Nat, k ≤ K ∧ kv = .int .i64 k ∧ Hid (Dr w wr)) (fun kv _ => K - (intOf kv).toNat)
  case atStart => exact ⟨0, by omega, rfl, Lib.hid ⟨0, rfl⟩⟩
  case round =>
    obtain ⟨k, hk, rfl, HD⟩ := hrel
    obtain ⟨q, rfl⟩ := HD.out
    clear HD
    by_cases hlt : k < K
    · have e0 : decide (k < n) = true := by simp; omega
      obtain ⟨b, o, rfl, hc⟩ := HL.out.at (j := k) (by omega)
      have e1 : decide (nth l k ≤ x) = true := by
        have := cutW_at x l k (by rw [← HKE.out]; exact hlt)
        simpa using this
      generalize nth l k = y at *
      go_wp2_with fail
      go_roundw
      case rel => exact ⟨k + 1, by omega, by go_num, Lib.hid ⟨_, rfl⟩⟩
      case measure => simp [intOf]; omega
    · obtain rfl : k = K := by omega
      have hstop : k = n ∨ (k < n ∧ ¬ nth l k ≤ x) := by
        rcases Nat.lt_or_ge k n with h | h
        · right
          refine ⟨h, ?_⟩
          have := cutW_end x l (by rw [← HKE.out, HLL.out]; exact h)
          rwa [← HKE.out] at this
        · left; omega
      have HRES : Hid (withF x l = l.take k ++ [x] ++ l.drop k) := by
        show _ = _
        rw [withF_cut, ← HKE.out]
      have HB0 : Hid (Below w.heap.size w (w.drewN q)) := Lib.hid ((Keeps.refl [] w).drewN q).below
      clear HKE hk hlt
      have HST := Lib.hid hstop
      clear hstop
      cases A with
      | none =>
        obtain ⟨rfl, rfl⟩ := HN.out rfl
        obtain rfl : k = 0 := by omega
        obtain rfl : l = [] := List.eq_nil_of_length_eq_zero HLL.out
        have hs0 : w.heap.size ≤ (w.drewN q).heap.size := HB0.out.size
        go_wp2_with (at_builtin; refine app_ints rfl (.tmp 21) (.tmp 24) rfl w.heap.size _ _ [] rfl (World.ownsRow_nil _ _ _ _) none 0 0 [] rfl ⟨rfl, by omega, by simp⟩ (fun _ => ⟨rfl, rfl⟩) (by simp) (by omega) hs0 ?_)
        intro v1 w1 ho1 hg1
        have HB1 := Lib.hid (HB0.out.grown hg1 hs0 (fun k hk => by simp [Value.ownBlock] at hk))
        obtain ⟨A1, c1, rfl, _, _, _⟩ := own_arg ho1
        have HO1 := Lib.hid ho1
        clear ho1 hg1
        have hs1 := HB1.out.size
        have HOA : Hid ((w1.alloc (.cells #[.int .i64 x] 3)).ownsRow w.heap.size 3 1 (.slice A1 0 c1) 0 (ints .i64 [])) := Lib.hid (own_keeps HO1.out ((Keeps.refl [] w1).alloc _) (by simp))
        have HRI : Hid (RI .i64 (w1.alloc (.cells #[.int .i64 x] 3)) (some ⟨w1.heap.size, 0, none⟩) 1 [x]) := Lib.hid (ri_one2 w1 .i64 3 x)
        have HBA : Hid (Below w.heap.size w (w1.alloc (.cells #[.int .i64 x] 3))) := Lib.hid (HB1.out.alloc hs1 _)
        clear HO1 HB1
        go_wp2_with (at_builtin; refine app_ints rfl (.tmp 26) (.tmp 28) rfl w.heap.size _ _ _ rfl (by exact HOA.out) _ 1 1 [x] rfl (by exact HRI.out) (by simp) (by simp) (by omega) ?c4 ?_)
        case c4 => first | (simp; omega) | omega
        intro v2 w2 ho2 hg2
        have HB2 := Lib.hid (HBA.out.grown hg2 (by simp; omega) (fun k hk => (HOA.out.lt k hk).1))
        obtain ⟨A2, c2, rfl, _, _, _⟩ := own_arg ho2
        have HO2 := Lib.hid ho2
        have hs2 := HB2.out.size
        clear ho2 hg2 HOA HRI HBA hs1
        go_wp2_with (at_builtin; refine app_ints rfl (.tmp 30) (.tmp 33) rfl w.heap.size _ _ _ rfl (by exact HO2.out) none 0 0 [] rfl ⟨rfl, by omega, by simp⟩ (fun _ => ⟨rfl, rfl⟩) (by simp) (by omega) hs2 ?_)
        intro v3 w3 ho3 hg3
        have HB3 := Lib.hid (HB2.out.grown hg3 hs2 (fun k hk => (HO2.out.lt k hk).1))
        have HO3 := Lib.hid ho3
        clear ho3 hg3 HO2 HB2
        go_wp2_with fail
        go_ret
        refine ⟨_, rfl, ?_, HB3.out⟩
        rw [HRES.out]; simpa using HO3.out
      | some ad =>
        obtain ⟨b, o, rfl⟩ := HP.out ad rfl
        have hs0 : w.heap.size ≤ (w.drewN q).heap.size := HB0.out.size
        have HLq := Lib.hid (HL.out.keeps ((Keeps.refl [] w).drewN q) (off_nil _))
        rcases HST.out with hkn | ⟨hlt2, hnx⟩
        · subst hkn
          have e0 : decide (k < k) = false := by simp
          go_wp2_with (at_builtin; refine app_ints rfl (.tmp 21) (.tmp 24) rfl w.heap.size _ _ [] rfl (World.ownsRow_nil _ _ _ _) (some ⟨b, o, none⟩) k c (l.take k) rfl (HLq.out.take hKn) (by simp) (by intro ad h; exact ⟨_, _, (Option.some.inj h).symm⟩) (by omega) hs0 ?_)
          intro v1 w1 ho1 hg1
          have HB1 := Lib.hid (HB0.out.grown hg1 hs0 (fun k hk => by simp [Value.ownBlock] at hk))
          obtain ⟨A1, c1, rfl, _, _, _⟩ := own_arg ho1
          have HO1 := Lib.hid ho1
          have hs1 := HB1.out.size
          have HOA : Hid ((w1.alloc (.cells #[.int .i64 x] 3)).ownsRow w.heap.size 3 1 (.slice A1 k c1) k (ints .i64 (l.take k))) := Lib.hid (own_keeps HO1.out ((Keeps.refl [] w1).alloc _) (by simp))
          have HRI : Hid (RI .i64 (w1.alloc (.cells #[.int .i64 x] 3)) (some ⟨w1.heap.size, 0, none⟩) 1 [x]) := Lib.hid (ri_one2 w1 .i64 3 x)
          have HBA : Hid (Below w.heap.size w (w1.alloc (.cells #[.int .i64 x] 3))) := Lib.hid (HB1.out.alloc hs1 _)
          clear ho1 hg1 HO1 HB1
          go_wp2_with (at_builtin; refine app_ints rfl (.tmp 26) (.tmp 28) rfl w.heap.size _ _ _ rfl (by exact HOA.out) _ 1 1 [x] rfl (by exact HRI.out) (by simp) (by simp) (by omega) ?c4 ?_)
          case c4 => first | (simp; omega) | omega
          intro v2 w2 ho2 hg2
          have HB2 := Lib.hid (HBA.out.grown hg2 (by simp; omega) (fun k hk => (HOA.out.lt k hk).1))
          obtain ⟨A2, c2, rfl, _, _, _⟩ := own_arg ho2
          have HO2 := Lib.hid ho2
          have hs2 := HB2.out.size
          have HL0 : ∀ oo, RI .i64 w2 (some ⟨b, oo, none⟩) 0 [] := fun oo => ⟨rfl, fun h => absurd h (by omega), fun _ _ _ j hj => by omega⟩
          clear ho2 hg2 HOA HRI HBA hs1
          by_cases hck : c = k
          · obtain rfl : k = c := hck.symm
            go_wp2_with (at_builtin; refine app_ints rfl (.tmp 30) (.tmp 33) rfl w.heap.size _ _ _ rfl (by exact HO2.out) (some ⟨b, o, none⟩) 0 0 [] rfl (by exact HL0 _) (by simp) (by intro ad h; exact ⟨_, _, (Option.some.inj h).symm⟩) (by omega) hs2 ?_)
            intro v3 w3 ho3 hg3
            have HB3 := Lib.hid (HB2.out.grown hg3 hs2 (fun k hk => (HO2.out.lt k hk).1))
            have HO3 := Lib.hid ho3
            clear ho3 hg3 HO2 HB2
            go_wp2_with fail
            go_ret
            refine ⟨_, rfl, ?_, HB3.out⟩
            rw [HRES.out, show l.drop k = [] from List.drop_eq_nil_of_le (by rw [HLL.out]; exact Nat.le_refl _)]
            simpa using HO3.out
          · have hck' : k < c := by omega
            go_wp2_with (at_builtin; refine app_ints rfl (.tmp 30) (.tmp 33) rfl w.heap.size _ _ _ rfl (by exact HO2.out) (some ⟨b, o + k, none⟩) 0 (c - k) [] rfl (by exact HL0 _) (by simp) (by intro ad h; exact ⟨_, _, (Option.some.inj h).symm⟩) (by omega) hs2 ?_)
            intro v3 w3 ho3 hg3
            have HB3 := Lib.hid (HB2.out.grown hg3 hs2 (fun k hk => (HO2.out.lt k hk).1))
            have HO3 := Lib.hid ho3
            clear ho3 hg3 HO2 HB2
            go_wp2_with fail
            go_ret
            refine ⟨_, rfl, ?_, HB3.out⟩
            rw [HRES.out, show l.drop k = [] from List.drop_eq_nil_of_le (by rw [HLL.out]; exact Nat.le_refl _)]
            simpa using HO3.out
        · have e0 : decide (k < n) = true := by simpa using hlt2
          have e1 : decide (nth l k ≤ x) = false := by simpa using hnx
          have hc := HL.out.cell b o rfl k hlt2
          generalize hy : nth l k = y at *
          clear hnx
          go_wp2_with (at_builtin; refine app_ints rfl (.tmp 21) (.tmp 24) rfl w.heap.size _ _ [] rfl (World.ownsRow_nil _ _ _ _) (some ⟨b, o, none⟩) k c (l.take k) rfl (HLq.out.take hKn) (by simp) (by intro ad h; exact ⟨_, _, (Option.some.inj h).symm⟩) (by omega) hs0 ?_)
          intro v1 w1 ho1 hg1
          have HB1 := Lib.hid (HB0.out.grown hg1 hs0 (fun k hk => by simp [Value.ownBlock] at hk))
          obtain ⟨A1, c1, rfl, _, _, _⟩ := own_arg ho1
          have HO1 := Lib.hid ho1
          have hs1 := HB1.out.size
          have HOA : Hid ((w1.alloc (.cells #[.int .i64 x] 3)).ownsRow w.heap.size 3 1 (.slice A1 k c1) k (ints .i64 (l.take k))) := Lib.hid (own_keeps HO1.out ((Keeps.refl [] w1).alloc _) (by simp))
          have HRI : Hid (RI .i64 (w1.alloc (.cells #[.int .i64 x] 3)) (some ⟨w1.heap.size, 0, none⟩) 1 [x]) := Lib.hid (ri_one2 w1 .i64 3 x)
          have HBA : Hid (Below w.heap.size w (w1.alloc (.cells #[.int .i64 x] 3))) := Lib.hid (HB1.out.alloc hs1 _)
          clear ho1 hg1 HO1 HB1
          go_wp2_with (at_builtin; refine app_ints rfl (.tmp 26) (.tmp 28) rfl w.heap.size _ _ _ rfl (by exact HOA.out) _ 1 1 [x] rfl (by exact HRI.out) (by simp) (by simp) (by omega) ?c4 ?_)
          case c4 => first | (simp; omega) | omega
          intro v2 w2 ho2 hg2
          have HB2 := Lib.hid (HBA.out.grown hg2 (by simp; omega) (fun k hk => (HOA.out.lt k hk).1))
          obtain ⟨A2, c2, rfl, _, _, _⟩ := own_arg ho2
          have HO2 := Lib.hid ho2
          have hs2 := HB2.out.size
          have HLd := Lib.hid ((HL.out.keeps (Keeps.of_below (S := []) HB2.out) (off_nil _)).drop hKn)
          clear ho2 hg2 HOA HRI HBA hs1
          go_wp2_with (at_builtin; refine app_ints rfl (.tmp 30) (.tmp 33) rfl w.heap.size _ _ _ rfl (by exact HO2.out) (some ⟨b, o + k, none⟩) (n - k) (c - k) (l.drop k) rfl (by exact HLd.out) (by simp) (by intro ad h; exact ⟨_, _, (Option.some.inj h).symm⟩) (by omega) hs2 ?_)
          intro v3 w3 ho3 hg3
          have HB3 := Lib.hid (HB2.out.grown hg3 hs2 (fun k hk => (HO2.out.lt k hk).1))
          have HO3 := Lib.hid ho3
          clear ho3 hg3 HO2 HB2
          go_wp2_with fail
          go_ret
          refine ⟨_, rfl, ?_, HB3.out⟩
          have := HO3.out
          rw [show k + 1 + (n - k) = n + 1 by omega] at this
          rw [HRES.out, show l.take k ++ [x] ++ l.drop k = l.take k ++ x :: l.drop k by simp]; exact this
end Go.Proofs.Ytcblibefmclloaa
