import Derived.Test.YtkpabdjniiepkaaDoorDflL
import Derived.Test.YtkpabdjniiepkaaDoorDflG
import Derived.Deep.Slices
import Derived.Test.YtkpabdjniiepkaaDoorDflJ
import Derived.Test.YtkpabdjniiepkaaDoorDflB
import Derived.Test.YtkpabdjniiepkaaDoorDflK
import Derived.RegionTactic
import Derived.BigRegion
import Derived.Test.YtkpabdjniiepkaaDoorDflH
set_option linter.unusedVariables false
set_option linter.constructorNameAsVariable false
set_option linter.unusedSimpArgs false
namespace Go.Proofs.YtkpabdjniiepkaaDoor
open Go.ChangeShapes Go.WideShapes Go.ChangeAt Go.RowKit
set_option maxRecDepth 100000 in
/-- Where a slice that came in lies: in a block that there is. -/
theorem okWide_off {W : World} {base : Nat} {t e : TypeId} {A : Option Addr} {l c : Nat} (ht : Tryd.prog.underlying t = some (.slice e)) (h : Value.okWide Tryd.prog W .any base t (.slice A l c)) : ∀ a, A = some a → a.block < W.heap.size := by
  rintro a rfl
  simp only [Value.okWide, ht, Cell.okWide, Cell.ok] at h
  obtain ⟨-, -, -, -, row, cells, hs, -⟩ := h
  have hs' := hs
  simp only [World.shape?] at hs'
  by_cases hlt : a.block < W.heap.size
  · exact hlt
  · have : W.heap[a.block]? = none := by simp; omega
    simp [this] at hs'
end Go.Proofs.YtkpabdjniiepkaaDoor

/- A slice of tokens that came in. -/
set_option linter.unusedVariables false
set_option linter.unusedSimpArgs false
namespace Go.Proofs.YtkpabdjniiepkaaDoor
open Go.ChangeShapes Go.WideShapes Go.ChangeAt Go.RowKit
set_option maxRecDepth 100000 in
theorem toks_came {H : Type} {enc : TypeId × Value → H} {W : World} {a0 : Option Addr} {len0 cap0 : Nat} {d : DataW H} {p : List MemPlace}
    (h : DataW.Trod enc Tryd.prog W 0 (fun _ => true) true 31 (Value.slice a0 len0 cap0) d p) :
    ∃ xs, RT W a0 len0 xs ∧ len0 ≤ maxLen ∧ LitOk xs ∧ (a0 = none → len0 = 0 ∧ cap0 = 0) := by
  obtain ⟨fuel, hf⟩ := h
  rcases Go.Deep.open_slice Tryd.underlying31 hf with ⟨hcs, _⟩ | ⟨a, len, cap, m, n, D, Pl, hcs, _, hl, hm, hmm, _, hcell⟩
  · simp [Value.cells] at hcs
    obtain ⟨rfl, rfl, rfl⟩ := hcs
    exact ⟨[], ⟨rfl, by omega, by simp⟩, by omega, by simp [LitOk], fun _ => ⟨rfl, rfl⟩⟩
  · simp [Value.cells] at hcs
    obtain ⟨rfl, rfl, rfl⟩ := hcs
    have hm' : m = cap0 := by simpa using hmm
    have ce : Tryd.prog.cellsOf 33 = 3 := by kernel_rfl
    have c0 : Tryd.prog.cellsOf 5 = 1 := by kernel_rfl
    have c1 : Tryd.prog.cellsOf 3 = 1 := by kernel_rfl
    have each : ∀ i, i < len0 → ∃ q : Tok, (W.cell? (a.add (i * 3)) = some (.int .u8 q.1) ∧ W.cell? (a.add (i * 3 + 1)) = some (.int .i64 q.2.1) ∧ W.cell? (a.add (i * 3 + 2)) = some (.int .i64 q.2.2)) ∧ 0 ≤ q.1 ∧ q.1 ≤ 255 := by
      intro i hi
      obtain ⟨cs', h1, h2⟩ := hcell i (by omega)
      rw [ce] at h1
      obtain ⟨_, hlen, hc⟩ := World.cells?_some h1
      obtain ⟨xs, k, hk, hxy, _, hxl, hf⟩ := DataW.trod_struct Tryd.underlying33 h2
      match xs, hxl, cs', hlen with
      | [y0, y1, y2], _, [v0, v1, v2], _ =>
        have g0 := hf 0 _ rfl
        have g1 := hf 1 _ rfl
        have g2 := hf 2 _ rfl
        simp [c0, c1] at g0 g1 g2
        have e0 := hc 0 (by omega)
        have e1 := hc 1 (by omega)
        have e2 := hc 2 (by omega)
        rw [Go.Deep.add_add] at e0 e1 e2
        obtain ⟨n0, q0, _, w0⟩ := DataW.trod_int (k := .u8) Tryd.underlying5 g0
        obtain ⟨n1, q1, _, _⟩ := DataW.trod_int (k := .i64) Tryd.underlying3 g1
        obtain ⟨n2, q2, _, _⟩ := DataW.trod_int (k := .i64) Tryd.underlying3 g2
        injection q0 with q0; injection q1 with q1; injection q2 with q2
        subst q0 q1 q2
        have hb := byte_ofwf (zs := [n0]) (by simpa using w0) 0
        exact ⟨(n0, n1, n2), ⟨by simpa using e0, by simpa using e1, by simpa using e2⟩, by simpa [nth] using hb⟩
    let f : Nat → Tok := fun i => if h : i < len0 then Classical.choose (each i h) else (0, 0, 0)
    have hfs : ∀ i, i < len0 → (W.cell? (a.add (i * 3)) = some (.int .u8 (f i).1) ∧ W.cell? (a.add (i * 3 + 1)) = some (.int .i64 (f i).2.1) ∧ W.cell? (a.add (i * 3 + 2)) = some (.int .i64 (f i).2.2)) ∧ 0 ≤ (f i).1 ∧ (f i).1 ≤ 255 := by
      intro i hi
      simp only [f, hi, dite_true]
      exact Classical.choose_spec (each i hi)
    refine ⟨(List.range len0).map f, ⟨by simp, fun hp => ?_, fun b o ha j hj => ?_⟩, by omega, fun t ht => ?_, by simp⟩
    · obtain ⟨b, off, spot⟩ := a
      have hspot : spot = none := by simpa [Addr.add] using World.cell?_spot (hfs 0 hp).1.1
      subst hspot
      exact ⟨_, _, rfl⟩
    · obtain rfl := Option.some.inj ha
      have hp : tth ((List.range len0).map f) j = f j := by simp [tth, List.getD, hj]
      rw [hp, Nat.add_assoc, Nat.add_assoc, ← add_plain2, ← add_plain2, ← add_plain2]
      exact (hfs j hj).1
    · obtain ⟨i, hi, rfl⟩ := List.mem_map.1 ht
      exact (hfs i (List.mem_range.1 hi)).2
end Go.Proofs.YtkpabdjniiepkaaDoor

set_option linter.unusedVariables false
set_option linter.unusedSimpArgs false
/-! ref07.fixed. -/
namespace Go.Proofs.YtkpabdjniiepkaaDoor
open Go.RowKit
set_option maxRecDepth 100000 in
set_option maxHeartbeats 1000000 in
theorem r7fixed_calls (w : World) : Calls Tryd.prog 44 #[] w fun e w' => ∃ v1 v2, e = .returned (.tuple #[v1, v2]) ∧ w'.ownsRow w.heap.size 3 1 v1 288 (ints .i64 fixLit) ∧ w'.ownsRow w.heap.size 3 1 v2 32 (ints .i64 fixDist) ∧ Below w.heap.size w w' := by
  go_enter Tryd.func44, Tryd.ntmps44
  go_wp2_with fail
  go_loopw [2, 3] (fun u i wr => ∃ k : Nat, k ≤ 288 ∧ i = .int .i64 k ∧ Hid (wr.ownsRow w.heap.size 3 1 u k (ints .i64 (fixL k))) ∧ Hid (Below w.heap.size w wr)) (fun _ i _ => 288 - (intOf i).toNat)
  case atStart => exact ⟨0, by omega, rfl, Lib.hid (World.ownsRow_nil _ _ _ _), Below.refl _ _⟩
  case round =>
    obtain ⟨k, hk, rfl, HO, HW⟩ := hrel
    have hsz := HW.out.size
    by_cases hlt : k < 288
    · have e0 : decide ((k : Int) < 288) = true := by simp; omega
      have fin : ∀ x, fixGo k = x → ∀ (v1 : Value) (w1 : World), w1.ownsRow w.heap.size 3 1 v1 (k + 1) (ints .i64 (fixL k ++ [x])) → w1.ownsRow w.heap.size 3 1 v1 (k + 1) (ints .i64 (fixL (k + 1))) := fun x hx v1 w1 h => by rw [fixL_succ, hx]; exact h
      have HF := Lib.hid fin
      clear fin
      have HRI : ∀ x, Hid (RI .i64 (wr.alloc (.cells #[.int .i64 x] 3)) (some ⟨wr.heap.size, 0, none⟩) 1 [x]) := fun x => Lib.hid (ri_one _ _ _ _)
      have HR8 := HRI 8
      have HR9 := HRI 9
      have HR7 := HRI 7
      clear HRI
      by_cases h144 : k < 144
      · have e1 : decide ((k : Int) < 144) = true := by simp; omega
        go_wp2_with (at_builtin; refine app_intsG rfl (.tmp 16) (.tmp 17) rfl w.heap.size _ k (fixL k) rfl (HO.out.alloc _) (some ⟨wr.heap.size, 0, none⟩) 1 1 [8] rfl (by exact HR8.out) ?c1 ?c2 (by omega) ?c3 ?_)
        case c1 => simp
        case c2 => intro ad h; exact ⟨_, _, (Option.some.inj h).symm⟩
        case c3 => simp; omega
        intro v' w1 h1 hg
        have HO1 := Lib.hid (HF.out 8 (by unfold fixGo; rw [if_pos (by omega)]) _ _ h1)
        have HB1 := Lib.hid ((HW.out.alloc (by omega) _).grown hg (by simp; omega) (fun k hk => (HO.out.lt k hk).1))
        clear HO HW h1 hg HF
        go_wp2_with fail
        go_roundw
        case rel => exact ⟨k + 1, by omega, by go_num, HO1, HB1⟩
        case measure => simp [intOf]; omega
      · have e1 : decide ((k : Int) < 144) = false := by simp; omega
        by_cases h256 : k < 256
        · have e2 : decide ((k : Int) < 256) = true := by simp; omega
          go_wp2_with (at_builtin; refine app_intsG rfl (.tmp 22) (.tmp 23) rfl w.heap.size _ k (fixL k) rfl (HO.out.alloc _) (some ⟨wr.heap.size, 0, none⟩) 1 1 [9] rfl (by exact HR9.out) ?d1 ?d2 (by omega) ?d3 ?_)
          case d1 => simp
          case d2 => intro ad h; exact ⟨_, _, (Option.some.inj h).symm⟩
          case d3 => simp; omega
          intro v' w1 h1 hg
          have HO1 := Lib.hid (HF.out 9 (by unfold fixGo; rw [if_neg (by omega), if_pos (by omega)]) _ _ h1)
          have HB1 := Lib.hid ((HW.out.alloc (by omega) _).grown hg (by simp; omega) (fun k hk => (HO.out.lt k hk).1))
          clear HO HW h1 hg HF
          go_wp2_with fail
          go_roundw
          case rel => exact ⟨k + 1, by omega, by go_num, HO1, HB1⟩
          case measure => simp [intOf]; omega
        · have e2 : decide ((k : Int) < 256) = false := by simp; omega
          by_cases h280 : k < 280
          · have e3 : decide ((k : Int) < 280) = true := by simp; omega
            go_wp2_with (at_builtin; refine app_intsG rfl (.tmp 28) (.tmp 29) rfl w.heap.size _ k (fixL k) rfl (HO.out.alloc _) (some ⟨wr.heap.size, 0, none⟩) 1 1 [7] rfl (by exact HR7.out) ?f1 ?f2 (by omega) ?f3 ?_)
            case f1 => simp
            case f2 => intro ad h; exact ⟨_, _, (Option.some.inj h).symm⟩
            case f3 => simp; omega
            intro v' w1 h1 hg
            have HO1 := Lib.hid (HF.out 7 (by unfold fixGo; rw [if_neg (by omega), if_neg (by omega)]) _ _ h1)
            have HB1 := Lib.hid ((HW.out.alloc (by omega) _).grown hg (by simp; omega) (fun k hk => (HO.out.lt k hk).1))
            clear HO HW h1 hg HF
            go_wp2_with fail
            go_roundw
            case rel => exact ⟨k + 1, by omega, by go_num, HO1, HB1⟩
            case measure => simp [intOf]; omega
          · have e3 : decide ((k : Int) < 280) = false := by simp; omega
            go_wp2_with (at_builtin; refine app_intsG rfl (.tmp 10) (.tmp 11) rfl w.heap.size _ k (fixL k) rfl (HO.out.alloc _) (some ⟨wr.heap.size, 0, none⟩) 1 1 [8] rfl (by exact HR8.out) ?g1 ?g2 (by omega) ?g3 ?_)
            case g1 => simp
            case g2 => intro ad h; exact ⟨_, _, (Option.some.inj h).symm⟩
            case g3 => simp; omega
            intro v' w1 h1 hg
            have HO1 := Lib.hid (HF.out 8 (by unfold fixGo; rw [if_pos (by omega)]) _ _ h1)
            have HB1 := Lib.hid ((HW.out.alloc (by omega) _).grown hg (by simp; omega) (fun k hk => (HO.out.lt k hk).1))
            clear HO HW h1 hg HF
            go_wp2_with fail
            go_roundw
            case rel => exact ⟨k + 1, by omega, by go_num, HO1, HB1⟩
            case measure => simp [intOf]; omega
    · obtain rfl : k = 288 := by omega
      have e0 : decide (((288 : Nat) : Int) < 288) = false := by decide
      obtain ⟨w2, hw2⟩ : ∃ x : World, x = wr := ⟨_, rfl⟩
      rw [← hw2] at HO HW hsz ⊢
      clear hw2
      have HO1 : Hid (w2.ownsRow w.heap.size 3 1 _ 288 (ints .i64 fixLit)) := Lib.hid (by have := HO.out; rwa [fixL_all] at this)
      clear HO
      go_wp2_with fail
      go_loopw [4, 5] (fun u i wr => ∃ k : Nat, k ≤ 32 ∧ i = .int .i64 k ∧ Hid (wr.ownsRow w2.heap.size 3 1 u k (ints .i64 (List.replicate k 5))) ∧ Hid (Below w2.heap.size w2 wr)) (fun _ i _ => 32 - (intOf i).toNat)
      case atStart => exact ⟨0, by omega, rfl, Lib.hid (World.ownsRow_nil _ _ _ _), Below.refl _ _⟩
      case round =>
        obtain ⟨k, hk, rfl, HO, HW2⟩ := hrel
        have hsz2 := HW2.out.size
        by_cases hlt2 : k < 32
        · have e2 : decide ((k : Int) < 32) = true := by simp; omega
          have HR5 := Lib.hid (ri_one wr .i64 3 5)
          go_wp2_with (at_builtin; refine app_intsG rfl (.tmp 35) (.tmp 36) rfl w2.heap.size _ k (List.replicate k 5) rfl (HO.out.alloc _) (some ⟨wr.heap.size, 0, none⟩) 1 1 [5] rfl (by exact HR5.out) ?k1 ?k2 (by omega) ?k3 ?_)
          case k1 => simp
          case k2 => intro ad h; exact ⟨_, _, (Option.some.inj h).symm⟩
          case k3 => simp; omega
          intro v' w1 h1 hg
          have HO3 : Hid (w1.ownsRow w2.heap.size 3 1 v' (k + 1) (ints .i64 (List.replicate (k + 1) 5))) := Lib.hid (by rw [List.replicate_succ']; exact h1)
          have HB1 := Lib.hid ((HW2.out.alloc (by omega) _).grown hg (by simp; omega) (fun k hk => (HO.out.lt k hk).1))
          clear HO HW2 h1 hg
          go_wp2_with fail
          go_roundw
          case rel =>
            refine ⟨_, _, _, _, _, _, _, _, _, ⟨k + 1, by omega, ?n, HO3, HB1⟩, rfl⟩
            case n => go_num
          case measure => simp [intOf]; omega
        · obtain rfl : k = 32 := by omega
          have e2 : decide (((32 : Nat) : Int) < 32) = false := by decide
          have HO4 := Lib.hid (own_keeps HO1.out (Keeps.of_below HW2.out (S := [])) (by simp))
          have HW4 := Lib.hid (HW.out.trans (HW2.out.mono hsz))
          go_wp2_with fail
          go_ret2
          exact ⟨_, _, rfl, HO4.out, HO.out.mono hsz, HW4.out⟩
end Go.Proofs.YtkpabdjniiepkaaDoor

set_option linter.unusedVariables false
set_option linter.unusedSimpArgs false
/-! ref07.Length, ref07.Distance. -/
namespace Go.Proofs.YtkpabdjniiepkaaDoor
open Go.RowKit
def lbF (s : Nat) : Nat := if s = 285 then 259 else lenBase s
def dbF (s : Nat) : Nat := if s = 30 then 32769 else distBase s
theorem rlen7_calls_tab : ∀ s, s < 285 → 257 ≤ s → lenK s = (if 264 < s then (s - 261) / 4 else 0) ∧ lbF (s + 1) = lbF s + 2 ^ lenK s ∧ lenK s ≤ 5 := by decide +kernel
theorem rdist7_calls_tab : ∀ s, s < 30 → 0 ≤ s → distK s = (if 3 < s then (s - 2) / 2 else 0) ∧ dbF (s + 1) = dbF s + 2 ^ distK s ∧ distK s ≤ 13 := by decide +kernel
theorem lb_mono : ∀ a, a < 285 → ∀ b, b ≤ 285 → 257 ≤ a → a < b → lbF a + 2 ^ lenK a ≤ lbF b := by decide +kernel
theorem rlen7_calls_hit (n s : Nat) (h : n < 258) (h1 : 3 ≤ n) (hlt : s < 285) (hs0 : 257 ≤ s) (hle : lbF s ≤ n) (hh : n < lbF s + 2 ^ lenK s) : lsym n = s ∧ lmore n = n - lbF s ∧ lk n = lenK s := by
  obtain ⟨a0, a1, a2, a3, a4, a5⟩ := len_tab n (by omega) h1
  have h285 : lsym n ≠ 285 := fun e => by
    rw [e, show lenBase 285 = 258 from rfl] at a3
    omega
  have hb : lbF (lsym n) = lenBase (lsym n) := if_neg h285
  have a3' : lbF (lsym n) + lmore n = n := by rw [hb]; exact a3
  have a4' : lmore n < 2 ^ lenK (lsym n) := by rw [a2]; exact a4
  have e : lsym n = s := by
    rcases Nat.lt_trichotomy (lsym n) s with h | h | h
    · have := lb_mono (lsym n) (by omega) s (by omega) a0 h; omega
    · exact h
    · have := lb_mono s hlt (lsym n) a1 hs0 h; omega
  rw [← a2, e]
  rw [e] at a3'
  exact ⟨rfl, by omega, rfl⟩
theorem db_mono : ∀ a, a < 30 → ∀ b, b ≤ 30 → a < b → dbF a + 2 ^ distK a ≤ dbF b := by decide +kernel
theorem rdist7_calls_hit (n s : Nat) (h1 : 1 ≤ n) (h2 : n ≤ 32768) (hlt : s < 30) (hs0 : 0 ≤ s) (hle : dbF s ≤ n) (hh : n < dbF s + 2 ^ distK s) : dsym n = s ∧ dmore n = n - dbF s ∧ dk n = distK s := by
  obtain ⟨a1, a2, a3, a4, a5⟩ := dist_tab n h1 h2
  have hb : dbF (dsym n) = distBase (dsym n) := if_neg (by omega)
  have a3' : dbF (dsym n) + dmore n = n := by rw [hb]; exact a3
  have a4' : dmore n < 2 ^ distK (dsym n) := by rw [a2]; exact a4
  have e : dsym n = s := by
    rcases Nat.lt_trichotomy (dsym n) s with h | h | h
    · have := db_mono (dsym n) (by omega) s (by omega) h; omega
    · exact h
    · have := db_mono s hlt (dsym n) (by omega) h; omega
  rw [← a2, e]
  rw [e] at a3'
  exact ⟨rfl, by omega, rfl⟩
set_option maxRecDepth 100000 in
set_option maxHeartbeats 2000000 in
theorem rlen7_calls (w : World) (n : Nat) (h1 : 3 ≤ n) (h2 : n ≤ 258) :
    Calls Tryd.prog 47 #[.int .i64 n] w fun e w' => e = .returned (.tuple #[.int .i64 (lsym n : Nat), .int .i64 (lmore n : Nat), .int .i64 (lk n : Nat)]) ∧ Dr w w' := by
  by_cases h258 : n = 258
  · subst h258
    go_enter Tryd.func47, Tryd.ntmps47
    go_wp2_with fail
    go_ret3
    exact ⟨rfl, ⟨0, rfl⟩⟩
  have x0 : decide ((n : Int) = 258) = false := by simp; omega
  have x0' : ((n : Int) == 258) = false := by simp; omega
  go_enter Tryd.func47, Tryd.ntmps47
  go_wp2_with fail
  go_loopw [5, 6] (fun bv sv wr => ∃ (s : Nat), 257 ≤ s ∧ s ≤ 285 ∧ bv = .int .i64 (lbF s : Nat) ∧ sv = .int .i64 s ∧ lbF s ≤ n ∧ Hid (Dr w wr)) (fun _ sv _ => 285 - (intOf sv).toNat)
  case atStart => exact ⟨257, by omega, by omega, rfl, rfl, by show lbF 257 ≤ n; rw [show lbF 257 = 3 from rfl]; omega, Lib.hid (Dr.refl w)⟩
  case round =>
    obtain ⟨s, hs0, hs1, rfl, rfl, hle, HD⟩ := hrel
    by_cases hlt : s < 285
    · have e1 : decide ((s : Int) < 285) = true := by simp; omega
      obtain ⟨t1, t2, t3⟩ := rlen7_calls_tab s hlt hs0
      have HF : Hid (n < lbF s + 2 ^ lenK s → lsym n = s ∧ lmore n = n - lbF s ∧ lk n = lenK s) := Lib.hid (fun h => rlen7_calls_hit n s (by omega) h1 hlt hs0 hle h)
      have HN : Hid (lbF s + 2 ^ lenK s ≤ n → lbF (s + 1) = lbF s + 2 ^ lenK s ∧ lbF (s + 1) ≤ n) := Lib.hid (fun h => ⟨t2, by omega⟩)
      generalize lbF s = B at *
      generalize hK : lenK s = K at *
      clear t2
      by_cases hb : 264 < s
      · have e2 : decide (264 < (s : Int)) = true := by simp; omega
        have e3 : IntKind.i64.wrap ((s : Int) - 261) = (s : Int) - 261 := IntWalk.i64_in _ (by omega)
        have e4 : ((s : Int) - 261) / 4 = (K : Int) := by rw [if_pos hb] at t1; omega
        have e5 : IntKind.i64.wrap (K : Int) = (K : Int) := IntWalk.i64_in _ (by omega)
        clear t1
        go_wp2_with fail
        go_loopw [8, 9] (fun wv iv wi => ∃ (i : Nat), i ≤ K ∧ wv = .int .i64 ((2 ^ i : Nat) : Int) ∧ iv = .int .i64 i ∧ Hid (Dr w wi)) (fun _ iv _ => K - (intOf iv).toNat)
        case atStart => exact ⟨0, by omega, rfl, rfl, HD⟩
        case round =>
          clear HD
          obtain ⟨i, hi, rfl, rfl, HD⟩ := hrel
          by_cases hik : i < K
          · have y1 : decide (i < K) = true := by simpa using hik
            have hpw : 2 ^ (i + 1) ≤ 2 ^ 13 := Nat.pow_le_pow_right (by omega) (by omega)
            have hps : 2 ^ (i + 1) = 2 * 2 ^ i := by rw [Nat.pow_succ]; omega
            generalize hP : 2 ^ i = P at *
            have y2 : IntKind.i64.wrap (2 * (P : Int)) = 2 * (P : Int) := IntWalk.i64_in _ (by omega)
            go_wp2_with fail
            go_roundw
            case rel => exact ⟨i + 1, by omega, by rw [hps]; go_num, by go_num, Lib.hid (by first | exact HD.out | exact HD.out.step _)⟩
            case measure => simp [intOf]; omega
          · obtain rfl : i = K := by omega
            have y1 : decide (i < i) = false := by simp
            have hP13 : 2 ^ i ≤ 2 ^ 13 := Nat.pow_le_pow_right (by omega) (by omega)
            generalize hP : 2 ^ i = P at *
            have y2 : IntKind.i64.wrap ((B : Int) + (P : Int)) = (B : Int) + (P : Int) := IntWalk.i64_in _ (by omega)
            by_cases hin : n < B + P
            · have y3 : decide ((n : Int) < (B : Int) + (P : Int)) = true := by simp; omega
              have y4 : IntKind.i64.wrap ((n : Int) - (B : Int)) = (n : Int) - (B : Int) := IntWalk.i64_in _ (by omega)
              obtain ⟨r1, r2, r3⟩ := HF.out hin
              have R1 := Lib.hid r1
              have R2 : Hid (((lmore n : Nat) : Int) = (n : Int) - (B : Int)) := Lib.hid (by rw [r2]; omega)
              have R3 := Lib.hid r3
              clear r1 r2 r3
              go_wp2_with fail
              go_ret3
              rw [R1.out, R2.out, R3.out]
              exact ⟨by rw [← e4]; rfl, HD.out⟩
            · have y3 : decide ((n : Int) < (B : Int) + (P : Int)) = false := by simp; omega
              obtain ⟨r1, r2⟩ := HN.out (by omega)
              have R1 : Hid (((lbF (s + 1) : Nat) : Int) = (B : Int) + (P : Int)) := Lib.hid (by rw [r1]; omega)
              have hr2 : lbF (s + 1) ≤ n := by omega
              clear r1 r2
              go_wp2_with fail
              go_roundw
              case rel => exact ⟨s + 1, by omega, by omega, by rw [R1.out], by go_num, hr2, HD⟩
              case measure => simp [intOf]; omega
      · have e2 : decide (264 < (s : Int)) = false := by simp; omega
        have hK0 : K = 0 := by rw [if_neg hb] at t1; omega
        clear t1
        subst hK0
        have y2 : IntKind.i64.wrap ((B : Int) + 1) = (B : Int) + 1 := IntWalk.i64_in _ (by omega)
        have hone : 2 ^ 0 = 1 := rfl
        by_cases hin : n < B + 1
        · have y3 : decide ((n : Int) < (B : Int) + 1) = true := by simp; omega
          have y4 : IntKind.i64.wrap ((n : Int) - (B : Int)) = (n : Int) - (B : Int) := IntWalk.i64_in _ (by omega)
          obtain ⟨r1, r2, r3⟩ := HF.out (by rw [hone]; exact hin)
          have R1 := Lib.hid r1
          have R2 : Hid (((lmore n : Nat) : Int) = (n : Int) - (B : Int)) := Lib.hid (by rw [r2]; omega)
          have R3 := Lib.hid r3
          clear r1 r2 r3
          go_wp2_with fail
          refine wp_loop_rounds 1 ?_
          rw [rounds_succ]
          go_wp2_with fail
          go_ret3
          rw [R1.out, R2.out, R3.out]
          exact ⟨rfl, HD.out⟩
        · have y3 : decide ((n : Int) < (B : Int) + 1) = false := by simp; omega
          obtain ⟨r1, r2⟩ := HN.out (by omega)
          have R1 : Hid (((lbF (s + 1) : Nat) : Int) = (B : Int) + 1) := Lib.hid (by rw [r1]; omega)
          have hr2 : lbF (s + 1) ≤ n := by omega
          clear r1 r2
          go_wp2_with fail
          refine wp_loop_rounds 1 ?_
          rw [rounds_succ]
          go_wp2_with fail
          go_roundw
          case rel => exact ⟨s + 1, by omega, by omega, by rw [R1.out], by go_num, hr2, HD⟩
          case measure => simp [intOf]; omega
    · obtain rfl : s = 285 := by omega
      exfalso
      rw [show lbF 285 = 259 from rfl] at hle
      omega

set_option maxRecDepth 100000 in
set_option maxHeartbeats 2000000 in
theorem rdist7_calls (w : World) (n : Nat) (h1 : 1 ≤ n) (h2 : n ≤ 32768) :
    Calls Tryd.prog 48 #[.int .i64 n] w fun e w' => e = .returned (.tuple #[.int .i64 (dsym n : Nat), .int .i64 (dmore n : Nat), .int .i64 (dk n : Nat)]) ∧ Dr w w' := by
  go_enter Tryd.func48, Tryd.ntmps48
  go_wp2_with fail
  go_loopw [5, 6] (fun bv sv wr => ∃ (s : Nat), 0 ≤ s ∧ s ≤ 30 ∧ bv = .int .i64 (dbF s : Nat) ∧ sv = .int .i64 s ∧ dbF s ≤ n ∧ Hid (Dr w wr)) (fun _ sv _ => 30 - (intOf sv).toNat)
  case atStart => exact ⟨0, by omega, by omega, rfl, rfl, by show dbF 0 ≤ n; rw [show dbF 0 = 1 from rfl]; omega, Lib.hid (Dr.refl w)⟩
  case round =>
    obtain ⟨s, hs0, hs1, rfl, rfl, hle, HD⟩ := hrel
    by_cases hlt : s < 30
    · have e1 : decide ((s : Int) < 30) = true := by simp; omega
      obtain ⟨t1, t2, t3⟩ := rdist7_calls_tab s hlt hs0
      have HF : Hid (n < dbF s + 2 ^ distK s → dsym n = s ∧ dmore n = n - dbF s ∧ dk n = distK s) := Lib.hid (fun h => rdist7_calls_hit n s h1 h2 hlt hs0 hle h)
      have HN : Hid (dbF s + 2 ^ distK s ≤ n → dbF (s + 1) = dbF s + 2 ^ distK s ∧ dbF (s + 1) ≤ n) := Lib.hid (fun h => ⟨t2, by omega⟩)
      generalize dbF s = B at *
      generalize hK : distK s = K at *
      clear t2
      by_cases hb : 3 < s
      · have e2 : decide (3 < (s : Int)) = true := by simp; omega
        have e3 : IntKind.i64.wrap ((s : Int) - 2) = (s : Int) - 2 := IntWalk.i64_in _ (by omega)
        have e4 : ((s : Int) - 2) / 2 = (K : Int) := by rw [if_pos hb] at t1; omega
        have e5 : IntKind.i64.wrap (K : Int) = (K : Int) := IntWalk.i64_in _ (by omega)
        clear t1
        go_wp2_with fail
        go_loopw [8, 9] (fun wv iv wi => ∃ (i : Nat), i ≤ K ∧ wv = .int .i64 ((2 ^ i : Nat) : Int) ∧ iv = .int .i64 i ∧ Hid (Dr w wi)) (fun _ iv _ => K - (intOf iv).toNat)
        case atStart => exact ⟨0, by omega, rfl, rfl, HD⟩
        case round =>
          clear HD
          obtain ⟨i, hi, rfl, rfl, HD⟩ := hrel
          by_cases hik : i < K
          · have y1 : decide (i < K) = true := by simpa using hik
            have hpw : 2 ^ (i + 1) ≤ 2 ^ 13 := Nat.pow_le_pow_right (by omega) (by omega)
            have hps : 2 ^ (i + 1) = 2 * 2 ^ i := by rw [Nat.pow_succ]; omega
            generalize hP : 2 ^ i = P at *
            have y2 : IntKind.i64.wrap (2 * (P : Int)) = 2 * (P : Int) := IntWalk.i64_in _ (by omega)
            go_wp2_with fail
            go_roundw
            case rel => exact ⟨i + 1, by omega, by rw [hps]; go_num, by go_num, Lib.hid (by first | exact HD.out | exact HD.out.step _)⟩
            case measure => simp [intOf]; omega
          · obtain rfl : i = K := by omega
            have y1 : decide (i < i) = false := by simp
            have hP13 : 2 ^ i ≤ 2 ^ 13 := Nat.pow_le_pow_right (by omega) (by omega)
            generalize hP : 2 ^ i = P at *
            have y2 : IntKind.i64.wrap ((B : Int) + (P : Int)) = (B : Int) + (P : Int) := IntWalk.i64_in _ (by omega)
            by_cases hin : n < B + P
            · have y3 : decide ((n : Int) < (B : Int) + (P : Int)) = true := by simp; omega
              have y4 : IntKind.i64.wrap ((n : Int) - (B : Int)) = (n : Int) - (B : Int) := IntWalk.i64_in _ (by omega)
              obtain ⟨r1, r2, r3⟩ := HF.out hin
              have R1 := Lib.hid r1
              have R2 : Hid (((dmore n : Nat) : Int) = (n : Int) - (B : Int)) := Lib.hid (by rw [r2]; omega)
              have R3 := Lib.hid r3
              clear r1 r2 r3
              go_wp2_with fail
              go_ret3
              rw [R1.out, R2.out, R3.out]
              exact ⟨by rw [← e4]; rfl, HD.out⟩
            · have y3 : decide ((n : Int) < (B : Int) + (P : Int)) = false := by simp; omega
              obtain ⟨r1, r2⟩ := HN.out (by omega)
              have R1 : Hid (((dbF (s + 1) : Nat) : Int) = (B : Int) + (P : Int)) := Lib.hid (by rw [r1]; omega)
              have hr2 : dbF (s + 1) ≤ n := by omega
              clear r1 r2
              go_wp2_with fail
              go_roundw
              case rel => exact ⟨s + 1, by omega, by omega, by rw [R1.out], by go_num, hr2, HD⟩
              case measure => simp [intOf]; omega
      · have e2 : decide (3 < (s : Int)) = false := by simp; omega
        have hK0 : K = 0 := by rw [if_neg hb] at t1; omega
        clear t1
        subst hK0
        have y2 : IntKind.i64.wrap ((B : Int) + 1) = (B : Int) + 1 := IntWalk.i64_in _ (by omega)
        have hone : 2 ^ 0 = 1 := rfl
        by_cases hin : n < B + 1
        · have y3 : decide ((n : Int) < (B : Int) + 1) = true := by simp; omega
          have y4 : IntKind.i64.wrap ((n : Int) - (B : Int)) = (n : Int) - (B : Int) := IntWalk.i64_in _ (by omega)
          obtain ⟨r1, r2, r3⟩ := HF.out (by rw [hone]; exact hin)
          have R1 := Lib.hid r1
          have R2 : Hid (((dmore n : Nat) : Int) = (n : Int) - (B : Int)) := Lib.hid (by rw [r2]; omega)
          have R3 := Lib.hid r3
          clear r1 r2 r3
          go_wp2_with fail
          refine wp_loop_rounds 1 ?_
          rw [rounds_succ]
          go_wp2_with fail
          go_ret3
          rw [R1.out, R2.out, R3.out]
          exact ⟨rfl, HD.out⟩
        · have y3 : decide ((n : Int) < (B : Int) + 1) = false := by simp; omega
          obtain ⟨r1, r2⟩ := HN.out (by omega)
          have R1 : Hid (((dbF (s + 1) : Nat) : Int) = (B : Int) + 1) := Lib.hid (by rw [r1]; omega)
          have hr2 : dbF (s + 1) ≤ n := by omega
          clear r1 r2
          go_wp2_with fail
          refine wp_loop_rounds 1 ?_
          rw [rounds_succ]
          go_wp2_with fail
          go_roundw
          case rel => exact ⟨s + 1, by omega, by omega, by rw [R1.out], by go_num, hr2, HD⟩
          case measure => simp [intOf]; omega
    · obtain rfl : s = 30 := by omega
      exfalso
      rw [show dbF 30 = 32769 from rfl] at hle
      omega

end Go.Proofs.YtkpabdjniiepkaaDoor

set_option linter.unusedVariables false
set_option linter.unusedSimpArgs false
namespace Go.Proofs.YtkpabdjniiepkaaDoor
open Go.RowKit
theorem rowsF_at (l : List Int) (i : Nat) (h : i < l.length) : rth (rowsF l) i = msbF (codeI l i) (nth l i).toNat := by
  rw [rth_lt (by rw [rowsF_len]; exact h)]
  simp only [rowsF, List.getElem_map, List.getElem_range]
  by_cases hz : 0 < nth l i
  · rw [if_pos hz]
  · rw [if_neg hz, show (nth l i).toNat = 0 by omega]; rfl
theorem outL_nth (l : List Int) (i : Nat) (h : i < l.length) : nth (outL l i) i = 0 := by
  unfold outL; rw [nth_map_range _ _ _ h, if_neg (by omega)]
theorem set_nth (xs : List Int) (i : Nat) (h : i < xs.length) : xs.set i (nth xs i) = xs := by
  rw [nth_lt h]; exact List.set_getElem_self h
theorem outL_any (l : List Int) (i : Nat) (h : i < l.length) : outL l (i + 1) = (outL l i).set i (revF (codeI l i) (nth l i).toNat) := by
  by_cases hz : 0 < nth l i
  · exact outL_step l i h hz
  · rw [outL_skip l i hz, show (nth l i).toNat = 0 by omega]
    show _ = (outL l i).set i 0
    rw [← outL_nth l i h, set_nth _ _ (by rw [outL_len]; exact h)]
theorem outL_none (l : List Int) (i : Nat) (h : i < l.length) : (outL l i).set i (revF (codeI l i) 0) = outL l i := by
  show (outL l i).set i 0 = _
  rw [← outL_nth l i h, set_nth _ _ (by rw [outL_len]; exact h)]
set_option maxRecDepth 100000 in
set_option maxHeartbeats 1000000 in
theorem refCodes_calls (w : World) (A : Option Addr) (n c : Nat) (l : List Int) (hl : RI .i64 w A n l) (hn : n ≤ 140737488355328) :
    Calls Tryd.prog 45 #[.slice A n c] w (Coded w (codesF l)) := by
  have HL := Lib.hid hl
  have HLL := Lib.hid hl.len
  clear hl
  go_enter Tryd.func45, Tryd.ntmps45
  go_wp2_with fail
  refine (refCheck_calls _ _ _ _ l HL.out hn).mono ?_
  rintro _ w1 ⟨rfl, hd⟩
  have HD := Lib.hid hd
  clear hd
  by_cases hc : checkF l = 0
  · have e1 : (checkF l != 0) = false := by simp [hc]
    have HR : Hid (codesF l = (outL l l.length, 0)) := if_pos hc
    have hok := check_ok hc
    have HOK := Lib.hid hok.2
    have hn288 : n ≤ 288 := by rw [← HLL.out]; exact hok.1
    have HL1 := Lib.hid (HL.out.keeps (HD.out.keeps (S := [])) (off_nil _))
    clear hc hok
    go_wp2_with fail
    refine (rows_calls _ _ _ _ l HL1.out hn288 HOK.out).mono ?_
    rintro _ w2 ⟨rfl, hrb, hb⟩
    obtain ⟨g, hg⟩ : ∃ g, g = w1.heap.size := ⟨_, rfl⟩
    rw [← hg] at hrb hb ⊢
    have HB := Lib.hid ((HD.out.keeps (S := [])).below.trans ((hg ▸ hb).mono (HD.out.keeps (S := [])).size))
    have HRB := Lib.hid hrb
    have HG : Hid (w.heap.size ≤ g) := by rw [hg]; exact Lib.hid (HD.out.keeps (S := [])).size
    clear hb hrb hg
    have hmk := fun w => make_ints (P := Tryd.prog) w 68 57 .u32 4 Tryd.underlying68 info_u32 (n : Int) n rfl (by omega) (by omega)
    have HOUT : Hid (Blk (w2.alloc (.cells (ints .u32 (List.replicate n 0)).toArray 57)) w2.heap.size 57 (ints .u32 (outL l 0))) := by rw [outL_zero, HLL.out]; exact blk_new w2 _ _
    have HK0 : Hid (Keeps [] w2 (w2.alloc (.cells (ints .u32 (List.replicate n 0)).toArray 57))) := Lib.hid ((Keeps.refl [] w2).alloc _)
    go_wp2_with fail
    obtain ⟨go, hgo⟩ : ∃ go, go = w2.heap.size := ⟨_, rfl⟩
    rw [← hgo] at HOUT ⊢
    have HGO := Lib.hid hgo
    have hge : Hid (w.heap.size ≤ go) := by rw [hgo]; exact Lib.hid HB.out.size
    clear hgo
    go_loopw [7] (fun iv wr => ∃ i : Nat, i ≤ n ∧ iv = .int .i64 i ∧ Hid (Blk wr go 57 (ints .u32 (outL l i))) ∧ Hid (Keeps [] w2 wr)) (fun iv _ => n - (intOf iv).toNat)
    case atStart => exact ⟨0, by omega, rfl, HOUT, HK0⟩
    case round =>
      clear HOUT HK0
      obtain ⟨i, hi, rfl, HOUT, HK⟩ := hrel
      by_cases hlt : i < n
      · have e0 : decide (i < n) = true := by simpa using hlt
        have hil : Hid (i < l.length) := by have := HLL.out; show _ < _; omega
        have hx : okLen (nth l i) = true := by rw [nth_lt hil.out]; exact List.all_eq_true.1 HOK.out _ (List.getElem_mem _)
        have hx1 : 0 ≤ nth l i ∧ nth l i ≤ 15 := by simpa [okLen] using hx
        obtain ⟨hx2, hx3⟩ := hx1
        clear hx
        obtain ⟨M, hM⟩ : ∃ M, M = (nth l i).toNat := ⟨_, rfl⟩
        obtain ⟨A', c', hcr, hrow, hra⟩ := HRB.out.at hlt
        rw [rowsF_at l i hil.out, ← hM, msbF_len] at hcr hrow
        have HROW := Lib.hid hrow
        have hM15 : M ≤ 15 := by omega
        have HM := Lib.hid hM
        have HRA := Lib.hid hra
        have HCR := Lib.hid hcr
        clear hrow hM hra hx2 hx3 hcr
        obtain ⟨wm, rfl⟩ : ∃ wm : World, wm = wr := ⟨_, rfl⟩
        have HO0 : Hid (Blk wm go 57 (ints .u32 ((outL l i).set i (revF (codeI l i) 0)))) := by rw [outL_none l i hil.out]; exact HOUT
        clear HOUT
        have hcr := HK.out.cell (by simp) HCR.out
        go_wp2_with fail
        clear hcr
        go_loopw [8] (fun kv wx => ∃ (j K : Nat), K ≤ M ∧ kv = .int .i64 ((K : Int) - 1) ∧ Hid (K + j = M) ∧ Hid (Blk wx go 57 (ints .u32 ((outL l i).set i (revF (codeI l i) j)))) ∧ Hid (Keeps [] w2 wx)) (fun kv _ => (intOf kv + 1).toNat)
        case atStart => exact ⟨0, M, by omega, by go_num, Lib.hid rfl, HO0, HK⟩
        case round =>
          clear HO0 HK
          obtain ⟨j, K, hK, rfl, HJ, HO, HK⟩ := hrel
          by_cases hk : 0 < K
          · obtain ⟨k, rfl⟩ : ∃ k, K = k + 1 := ⟨K - 1, by omega⟩
            have hk1 : ((k + 1 : Nat) : Int) - 1 = k := by omega
            rw [hk1]
            clear hk1
            obtain ⟨b, o, rfl, hcell⟩ := HROW.out.at (j := k) (by omega)
            have hne : b < w2.heap.size := (HRA.out _ rfl).2
            have hne1 : ¬ b = go := by have := HGO.out; omega
            have hne2 : ¬ g = go := by have := HGO.out; have := HRB.out.lt; omega
            clear hne
            rw [msbF_nth _ _ _ (by omega), show M - 1 - k = j by have := HJ.out; omega] at hcell
            have hcell := HK.out.cell (by simp) hcell
            have hcr := HK.out.cell (by simp) HCR.out
            have hfr := HO.out.frozen i
            have hcl := HO.out.cellI (j := i) (by rw [List.length_set, outL_len]; exact hil.out)
            have hnn : nth ((outL l i).set i (revF (codeI l i) j)) i = revF (codeI l i) j := by simp [nth, List.getD, outL_len, hil.out]
            rw [hnn] at hcl
            have hst := HO.out.set i (.int .u32 (revF (codeI l i) (j + 1)))
            rw [set_ints, List.set_set] at hst
            have HO2 := Lib.hid hst
            have HK2 := Lib.hid (HK.out.setCell (p := ⟨go, i, none⟩) (Or.inr (by rw [HGO.out]; exact Nat.le_refl _)) (.int .u32 (revF (codeI l i) (j + 1))))
            clear hst hnn HO HK
            have hbd := revF_bd (codeI l i) j
            have hp : (2 : Int) ^ j ≤ 65536 := pow16 j (by have := HJ.out; omega)
            have hb1 : revF (codeI l i) j < 65536 := by omega
            obtain ⟨hb0, -⟩ := hbd
            have E : Hid (2 * revF (codeI l i) j + codeI l i / 2 ^ j % 2 = revF (codeI l i) (j + 1)) := Lib.hid rfl
            rw [← E.out] at HO2 HK2
            have hz0 : 0 ≤ codeI l i / 2 ^ j % 2 := by omega
            have hz1 : codeI l i / 2 ^ j % 2 ≤ 1 := by omega
            clear hp
            generalize codeI l i / 2 ^ j % 2 = z at *
            generalize hy : revF (codeI l i) j = y at *
            clear hy
            go_wp2_with fail
            go_region
            go_wp2_with fail
            go_roundw
            case rel => exact ⟨j + 1, k, by omega, rfl, Lib.hid (by have := HJ.out; omega), by rw [← E.out]; exact HO2, Lib.hid HK2.out.drew⟩
            case measure => simp [intOf]
          · obtain rfl : K = 0 := by omega
            obtain rfl : M = j := by have := HJ.out; omega
            have HO2 : Hid (Blk wr go 57 (ints .u32 (outL l (i + 1)))) := by rw [outL_any l i hil.out, ← HM.out]; exact HO
            clear HO
            go_wp2_with fail
            go_roundw
            case rel => exact ⟨i + 1, by omega, by go_num, HO2, HK⟩
            case measure => simp [intOf]; omega
      · obtain rfl : i = n := by omega
        have HB2 := Lib.hid (HB.out.trans (HK.out.below.mono HB.out.size))
        go_wp2_with fail
        go_ret2
        refine coded_ok (v := .slice (some ⟨go, 0, none⟩) i i) (ls := outL l i) (by rw [HR.out, HLL.out]) (by rw [outL_len, HLL.out]) ?_ HB2.out
        exact own_of_blkK HOUT.out (by rw [outL_len, HLL.out]) hge.out (by omega)
  · have e1 : (checkF l != 0) = true := by simpa using hc
    have HR : Hid (codesF l = ([], checkF l)) := if_neg hc
    go_wp2_with fail
    go_ret2
    exact coded_err HR.out (HD.out.keeps (S := [])).below
end Go.Proofs.YtkpabdjniiepkaaDoor

set_option linter.unusedVariables false
set_option linter.unusedSimpArgs false
/-! ref06.may, Expand, Check. -/
namespace Go.Proofs.YtkpabdjniiepkaaDoor
open Go.RowKit
set_option maxRecDepth 100000 in
set_option maxHeartbeats 1000000 in
theorem rmay_calls (w : World) (t : Tok) (said : Nat) (hs : said ≤ 1000000) :
    Calls Tryd.prog 43 #[tokV t, .int .i64 said] w fun e w' => e = .returned (.bool (mayT t said)) ∧ Keeps [] w w' := by
  obtain ⟨a, b, c⟩ := t
  have ha : Keeps [] w (w.alloc (.cells #[.int .u8 a, .int .i64 b, .int .i64 c] 33)) := (Keeps.refl [] w).alloc _
  unfold tokV
  by_cases h0 : b = 0
  · have HR : Hid (mayT (a, b, c) said = (c == 0)) := by
      show _ = _
      unfold mayT; rw [if_pos h0]
      by_cases h : c = 0 <;> simp [h]
    have x0 : decide (b = 0) = true := by simpa using h0
    have x0' : (b == 0) = true := by simpa using h0
    clear h0
    go_enter Tryd.func43, Tryd.ntmps43
    go_wp2_with fail
    go_ret
    exact ⟨by rw [HR.out]; rfl, ha⟩
  · have x0 : decide (b = 0) = false := by simpa using h0
    have x0' : (b == 0) = false := by simpa using h0
    have NO : Hid (¬ (a = 0 ∧ 3 ≤ b ∧ b ≤ 258 ∧ 1 ≤ c ∧ c ≤ 32768 ∧ c ≤ said) → mayT (a, b, c) said = false) := Lib.hid (may_no h0)
    have H0 := Lib.hid h0
    clear h0
    by_cases h1 : a = 0
    · have x1 : decide (a = 0) = true := by simpa using h1
      have x1' : (a == 0) = true := by simpa using h1
      have H1 := Lib.hid h1
      clear h1
      by_cases h2 : 3 ≤ b
      · have x2 : decide (3 ≤ b) = true := by simpa using h2
        have H2 := Lib.hid h2
        clear h2
        by_cases h3 : b ≤ 258
        · have x3 : decide (b ≤ 258) = true := by simpa using h3
          have H3 := Lib.hid h3
          clear h3
          by_cases h4 : 1 ≤ c
          · have x4 : decide (1 ≤ c) = true := by simpa using h4
            have H4 := Lib.hid h4
            clear h4
            by_cases h5 : c ≤ 32768
            · have x5 : decide (c ≤ 32768) = true := by simpa using h5
              have H5 := Lib.hid h5
              clear h5
              go_enter Tryd.func43, Tryd.ntmps43
              go_wp2_with fail
              go_ret
              refine ⟨?_, ha⟩
              have e : mayT (a, b, c) said = decide (c ≤ (said : Int)) := by
                have := H0.out; have := H1.out; have := H2.out; have := H3.out; have := H4.out; have := H5.out
                unfold mayT
                rw [if_neg H0.out]
                exact decide_eq_decide.2 (by dsimp only; omega)
              rw [e]; rfl
            · have x5 : decide (c ≤ 32768) = false := by simpa using h5
              have HR := Lib.hid (NO.out (by omega))
              clear h5
              go_enter Tryd.func43, Tryd.ntmps43
              go_wp2_with fail
              go_ret
              exact ⟨by rw [HR.out]; rfl, ha⟩
          · have x4 : decide (1 ≤ c) = false := by simpa using h4
            have HR := Lib.hid (NO.out (by omega))
            clear h4
            go_enter Tryd.func43, Tryd.ntmps43
            go_wp2_with fail
            go_ret
            exact ⟨by rw [HR.out]; rfl, ha⟩
        · have x3 : decide (b ≤ 258) = false := by simpa using h3
          have HR := Lib.hid (NO.out (by omega))
          clear h3
          go_enter Tryd.func43, Tryd.ntmps43
          go_wp2_with fail
          go_ret
          exact ⟨by rw [HR.out]; rfl, ha⟩
      · have x2 : decide (3 ≤ b) = false := by simpa using h2
        have HR := Lib.hid (NO.out (by omega))
        clear h2
        go_enter Tryd.func43, Tryd.ntmps43
        go_wp2_with fail
        go_ret
        exact ⟨by rw [HR.out]; rfl, ha⟩
    · have x1 : decide (a = 0) = false := by simpa using h1
      have x1' : (a == 0) = false := by simpa using h1
      have HR := Lib.hid (NO.out (by omega))
      clear h1
      go_enter Tryd.func43, Tryd.ntmps43
      go_wp2_with fail
      go_ret
      exact ⟨by rw [HR.out]; rfl, ha⟩
theorem rt_belowE {w w' : World} {B n : Nat} {A : Option Addr} {ts : List Tok} (h : RT w A n ts) (ha : ∀ a, A = some a → a.block < B) (hb : Below B w w') : RT w' A n ts :=
  ⟨h.len, h.hd, fun b o e j hj => by
    obtain ⟨h1, h2, h3⟩ := h.cell b o e j hj
    have hbb := hb.block b (ha _ e)
    exact ⟨(World.cell?_of_block (a := ⟨b, o + j * 3, none⟩) hbb).trans h1, (World.cell?_of_block (a := ⟨b, o + j * 3 + 1, none⟩) hbb).trans h2, (World.cell?_of_block (a := ⟨b, o + j * 3 + 2, none⟩) hbb).trans h3⟩⟩
theorem own_someE {w : World} {base n size : Nat} {e : TypeId} {v : Value} {xs : List Value} (h : w.ownsRow base e size v n xs) (hn : 0 < n) : ∃ g c, v = .slice (some ⟨g, 0, none⟩) n c ∧ base ≤ g := by
  rcases h.2 with ⟨rfl, h0⟩ | ⟨g, cap, cur, rfl, hb, _⟩
  · omega
  · exact ⟨g, cap, rfl, hb⟩
set_option maxRecDepth 100000 in
set_option maxHeartbeats 4000000 in
theorem rexpand_calls (w : World) (A : Option Addr) (n c : Nat) (ts : List Tok) (h : RT w A n ts) (hA : ∀ a, A = some a → a.block < w.heap.size) (hn : n ≤ 140737488355328) :
    Calls Tryd.prog 20 #[.slice A n c, .int .i64 16384] w fun e w' => ∃ v, e = .returned (.tuple #[v, .int .i64 (expandF 16384 ts []).2]) ∧ w'.ownsRow w.heap.size 5 1 v (expandF 16384 ts []).1.length (ints .u8 (expandF 16384 ts []).1) ∧ Below w.heap.size w w' := by
  have H := Lib.hid h
  have HL : Hid (ts.length = n) := Lib.hid h.len
  have HA := Lib.hid hA
  clear h hA
  go_enter Tryd.func20, Tryd.ntmps20
  go_wp2_with fail
  go_loopw [6, 7] (fun ov iv wr => ∃ (p m : Nat) (AO : Option Addr) (co : Nat) (out : List Int), p ≤ n ∧ m ≤ 16384 ∧ out.length = m ∧ ov = .slice AO m co ∧ iv = .int .i64 p ∧ Hid (expandF 16384 ts [] = expandF 16384 (ts.drop p) out) ∧ Hid (wr.ownsRow w.heap.size 5 1 (.slice AO m co) m (ints .u8 out)) ∧ Hid (Below w.heap.size w wr)) (fun _ iv _ => n - (intOf iv).toNat)
  case atStart => exact ⟨0, 0, none, 0, [], by omega, by omega, rfl, rfl, rfl, Lib.hid (by simp), Lib.hid (World.ownsRow_nil _ _ _ _), Lib.hid (Below.refl _ _)⟩
  case round =>
    obtain ⟨p, m, AO, co, out, hp, hm, hol, rfl, rfl, HE, HO, HB⟩ := hrel
    by_cases hlt : p < n
    · have e5 : decide (p < n) = true := by simpa using hlt
      obtain ⟨tb, to', rfl⟩ := H.out.hd (by omega)
      have HRT : Hid (∀ w', Below w.heap.size w w' → w'.cell? ⟨tb, to' + p * 3, none⟩ = some (.int .u8 (tth ts p).1) ∧ w'.cell? ⟨tb, to' + p * 3 + 1, none⟩ = some (.int .i64 (tth ts p).2.1) ∧ w'.cell? ⟨tb, to' + p * 3 + 2, none⟩ = some (.int .i64 (tth ts p).2.2)) := Lib.hid (fun w' hb => (rt_belowE H.out HA.out hb).cell tb to' rfl p hlt)
      obtain ⟨p0, p1, p2⟩ := HRT.out wr HB.out
      have HD : Hid (ts.drop p = tth ts p :: ts.drop (p + 1)) := Lib.hid (drop_tth (by have := HL.out; omega))
      generalize tth ts p = t at *
      have HX := Lib.hid (fun w => rmay_calls w t m (by omega))
      obtain ⟨a, b, d⟩ := t
      dsimp only at p0 p1 p2
      have hE2 := HE.out
      rw [HD.out, expandF, hol] at hE2
      have HE2 := Lib.hid hE2
      clear hE2 HE
      have hsz := HB.out.size
      go_wp2_with fail
      refine (HX.out _).mono ?_
      rintro _ w1 ⟨rfl, hk1⟩
      have HB1 := Lib.hid (HB.out.trans (hk1.below.mono hsz))
      have HO1 := Lib.hid (own_keeps HO.out hk1 (by simp))
      clear hk1 HX p0 p1 p2 HB HO
      obtain ⟨q0, q1, q2⟩ := HRT.out w1 HB1.out
      by_cases hmy : mayT (a, b, d) m = false
      · have HE3 := Lib.hid (HE2.out.trans (if_pos hmy))
        rw [hmy]
        clear HE2 hmy
        go_wp2_with fail
        go_ret2
        rw [HE3.out]
        exact ⟨_, rfl, World.ownsRow_nil _ _ _ _, HB1.out⟩
      · have hmt : mayT (a, b, d) m = true := by simpa using hmy
        have HE3 := Lib.hid (HE2.out.trans (if_neg hmy))
        rw [hmt]
        have hnn := may_nn hmt
        obtain ⟨B, rfl⟩ := Int.eq_ofNat_of_zero_le hnn
        have hrng : B = 0 ∧ d = 0 ∨ (3 ≤ B ∧ B ≤ 258 ∧ 1 ≤ d ∧ d ≤ (m : Int)) := by
          unfold mayT at hmt
          split at hmt
          · next h => left; exact ⟨by dsimp only at h; omega, by simpa using hmt⟩
          · have := of_decide_eq_true hmt; dsimp only at this; right; omega
        have hB258 : (B : Int) ≤ 258 := by omega
        obtain ⟨K, hK⟩ : ∃ K : Nat, (if 1 < (B : Int) then (B : Int) else 1) = (K : Int) := ⟨max 1 B, by split <;> omega⟩
        have hK2 : max 1 B = K := by split at hK <;> omega
        have hKK := HE3.out
        simp only [Int.toNat_natCast, hK2] at hKK
        have HE4 := Lib.hid hKK
        have s1 : IntKind.i64.wrap ((m : Int) + (K : Int)) = (m : Int) + (K : Int) := IntWalk.i64_in _ (by omega)
        clear HE2 HE3 hKK hmy hnn hmt
        by_cases hbig : 16384 < m + K
        · have x2 : decide ((16384 : Int) < (m : Int) + (K : Int)) = true := by simp; omega
          have HE5 := Lib.hid (HE4.out.trans (if_pos hbig))
          clear HE4 hbig
          go_wp2_with fail
          go_ret2
          rw [HE5.out]
          exact ⟨_, rfl, World.ownsRow_nil _ _ _ _, HB1.out⟩
        · have x2 : decide ((16384 : Int) < (m : Int) + (K : Int)) = false := by simp; omega
          have HE5 := Lib.hid (HE4.out.trans (if_neg hbig))
          clear HE4
          rcases hrng with ⟨rfl, rfl⟩ | ⟨h3, h258, hd1, hdm⟩
          · have hK1 : K = 1 := by omega
            subst hK1
            have HT1 : Hid (tokT (a, ((0 : Nat) : Int), (0 : Int)) out = out ++ [a]) := Lib.hid (if_pos rfl)
            have HR1 := Lib.hid (ri_one w1 .u8 5 a)
            have hsz1 := HB1.out.size
            go_wp2_with (at_builtin; refine app_bytesB rfl (.tmp 46) (.tmp 52) rfl w.heap.size (.slice AO m co) m out rfl (by exact HO1.out.alloc _) (some ⟨w1.heap.size, 0, none⟩) 1 1 [a] rfl (by exact HR1.out) nofun (by omega) (by simp; omega) ?_)
            intro v2 w2 ho2 hg2 _
            obtain ⟨A2, c2, rfl⟩ := own_formW ho2
            have HO2 := Lib.hid ho2
            have HB2 := Lib.hid ((HB1.out.alloc (by omega) (.cells #[.int .u8 a] 5)).grown hg2 (by simp; omega) (fun k hk => own_lo HO1.out k hk))
            obtain ⟨-, r1, -⟩ := HRT.out w2 HB2.out
            have HE6 : Hid (expandF 16384 ts [] = expandF 16384 (ts.drop (p + 1)) (out ++ [a])) := Lib.hid (by rw [HE5.out, HT1.out])
            clear ho2 hg2 HO1 HB1 HR1 q0 q1 q2 HE5
            go_wp2_with fail
            refine wp_loop_rounds 1 ?_
            rw [rounds_succ]
            go_wp2_with fail
            go_roundw
            case rel => exact ⟨p + 1, m + 1, A2, c2, out ++ [a], by omega, by omega, by rw [List.length_append, hol]; rfl, rfl, by go_num, HE6, HO2, HB2⟩
            case measure => simp [intOf]; omega
          · have hKB : K = B := by omega
            subst hKB
            obtain ⟨D, rfl⟩ := Int.eq_ofNat_of_zero_le (show 0 ≤ d by omega)
            have y0 : decide ((K : Int) = 0) = false := by simp; omega
            have y0' : ((K : Int) == 0) = false := by simp; omega
            have HT1 : Hid (tokT (a, (K : Int), (D : Int)) out = copyT D K out) := Lib.hid (by
              unfold tokT
              rw [if_neg (by dsimp only; omega)]
              simp only [Int.toNat_natCast])
            have HE6 := Lib.hid (HE5.out.trans (by rw [HT1.out]))
            clear HE5 hK hK2
            go_wp2_with fail
            clear q0 q1 q2 y0 y0' s1 x2
            go_loopw [6, 8] (fun ov kv wi => ∃ (k : Nat) (A2 : Option Addr) (c2 : Nat) (L : List Int), k ≤ K ∧ L.length = m + k ∧ ov = .slice A2 (m + k) c2 ∧ kv = .int .i64 k ∧ Hid (copyT D K out = copyT D (K - k) L) ∧ Hid (wi.ownsRow w.heap.size 5 1 (.slice A2 (m + k) c2) (m + k) (ints .u8 L)) ∧ Hid (Below w.heap.size w wi)) (fun _ kv _ => K - (intOf kv).toNat)
            case atStart => exact ⟨0, AO, co, out, by omega, hol, rfl, rfl, Lib.hid rfl, HO1, HB1⟩
            case round =>
              clear HO1 HB1
              obtain ⟨k, A2, c2, L, hk, hLl, rfl, rfl, HC, HO2, HB2⟩ := hrel
              obtain ⟨-, r1, r2⟩ := HRT.out wr HB2.out
              by_cases hkK : k < K
              · have z1 : decide (k < K) = true := by simpa using hkK
                obtain ⟨j, hj⟩ : ∃ j : Nat, j + D = m + k := ⟨m + k - D, by omega⟩
                have hj2 : (m : Int) + (k : Int) - (D : Int) = (j : Int) := by omega
                have hj3 : IntKind.i64.wrap ((m : Int) + (k : Int) - (D : Int)) = (j : Int) := by rw [IntWalk.i64_in _ (by omega)]; exact hj2
                obtain ⟨g2, c3, hv2, hg2⟩ := own_someE HO2.out (by omega)
                injection hv2 with e1 e2 e3
                subst e1
                subst e3
                have hcl : wr.cell? ⟨g2, j, none⟩ = some (.int .u8 (nth L j)) := by
                  obtain ⟨A', c', hv, hr, -⟩ := own_ri HO2.out
                  injection hv with q1 q2 q3
                  subst q1
                  have := hr.cell g2 0 rfl j (by omega)
                  rwa [Nat.zero_add] at this
                have hjm : j < m + k := by omega
                have HC2 : Hid (copyT D K out = copyT D (K - (k + 1)) (L ++ [nth L j])) := Lib.hid (by
                  rw [HC.out, show K - k = (K - (k + 1)) + 1 by omega, copyT, show L.length - D = j by omega])
                generalize nth L j = y at *
                have HR1 := Lib.hid (ri_one wr .u8 5 y)
                have hszr := HB2.out.size
                clear HC
                go_wp2_with (at_builtin; refine app_bytesB rfl (.tmp 63) (.tmp 75) rfl w.heap.size (.slice (some ⟨g2, 0, none⟩) (m + k) c2) (m + k) L rfl (by exact HO2.out.alloc _) (some ⟨wr.heap.size, 0, none⟩) 1 1 [y] rfl (by exact HR1.out) nofun (by omega) (by simp; omega) ?_)
                intro v5 w5 ho5 hg5 _
                obtain ⟨A5, c5, rfl⟩ := own_formW ho5
                have HO5 : Hid (w5.ownsRow w.heap.size 5 1 (.slice A5 (m + (k + 1)) c5) (m + (k + 1)) (ints .u8 (L ++ [y]))) := Lib.hid ho5
                have HB5 := Lib.hid ((HB2.out.alloc (by omega) (.cells #[.int .u8 y] 5)).grown hg5 (by simp; omega) (fun k hk => own_lo HO2.out k hk))
                clear ho5 hg5 HO2 HB2 HR1 hcl
                go_wp2_with fail
                go_roundw
                case rel => exact ⟨k + 1, A5, c5, L ++ [y], by omega, by rw [List.length_append, hLl]; rfl, rfl, by go_num, HC2, HO5, HB5⟩
                case measure => simp [intOf]; omega
              · obtain rfl : k = K := by omega
                have z1 : decide (k < k) = false := by simp
                have HC3 : Hid (copyT D k out = L) := Lib.hid (by rw [HC.out, Nat.sub_self]; rfl)
                have HE7 : Hid (expandF 16384 ts [] = expandF 16384 (ts.drop (p + 1)) L) := Lib.hid (by rw [← HC3.out]; exact HE6.out)
                go_wp2_with fail
                go_roundw
                case rel => exact ⟨p + 1, m + k, A2, c2, L, by omega, by omega, hLl, rfl, by go_num, HE7, HO2, HB2⟩
                case measure => simp [intOf]; omega
    · obtain rfl : p = n := by omega
      have e5 : decide (p < p) = false := by simp
      have HE2 : Hid (expandF 16384 ts [] = (out, 0)) := Lib.hid (by rw [HE.out, List.drop_eq_nil_of_le (by have := HL.out; omega)]; rfl)
      go_wp2_with fail
      go_ret2
      rw [HE2.out]
      exact ⟨_, rfl, by dsimp only; rw [hol]; exact HO.out, HB.out⟩
end Go.Proofs.YtkpabdjniiepkaaDoor

/- 'copy' of elements of several cells, the target known whole; 'make' of pairs of numbers. -/
set_option linter.unusedVariables false
set_option linter.unusedSimpArgs false
namespace Go.Proofs.YtkpabdjniiepkaaDoor
open Go.RowKit
theorem run_copy_wide (P : Program) (w : World) (dT sT ty elem : TypeId) (g o dLen dCap : Nat) (a : Addr) (sLen sCap k m : Nat) (cur : Array Value) (t : TypeId) (cs : List Value)
    (hu : P.underlying dT = some (.slice elem)) (hs : (P.info? elem).map (·.size) = some k)
    (hg : w.heap[g]? = some (.cells cur t (0, 0))) (hm : m = Nat.min sLen dLen) (hn : cs.length = m * k)
    (hsrc : ∀ j v, cs[j]? = some v → w.cell? (a.add j) = some v) (hfit : o + cs.length ≤ cur.size) (h1 : ∀ v ∈ cs, v.oneCell' = true) :
    (Builtin.copy_ #[dT, sT] ty #[.slice (some ⟨g, o, none⟩) dLen dCap, .slice (some a) sLen sCap]).run P w =
      .ok (goInt m) (w.setRow g (cur.toList.take o ++ cs ++ cur.toList.drop (o + cs.length)).toArray) := by
  subst hm
  have hl := run_loadCells_list (P := P) w a cs hsrc
  have hst := run_storeCells_at P g o t cs 0 cur w hg (by simpa using hfit) h1
  cases hq : P.info? elem with
  | none => simp [hq] at hs
  | some i =>
    have hi : i.size = k := by simpa [hq] using hs
    simp [Builtin.copy_, run_underlying hu, Builtin.lenOf, Builtin.firstCells, sizeOf, typeInfo, hq, hi, ← hn, hl, hst]
theorem run_copy_wide_none (P : Program) (w : World) (dT sT ty elem : TypeId) (d a : Option Addr) (dLen dCap sLen sCap k : Nat) (hu : P.underlying dT = some (.slice elem)) (hs : (P.info? elem).map (·.size) = some k) (hn : Nat.min sLen dLen = 0) :
    (Builtin.copy_ #[dT, sT] ty #[.slice d dLen dCap, .slice a sLen sCap]).run P w = .ok (goInt 0) w := by
  cases hq : P.info? elem with
  | none => simp [hq] at hs
  | some i =>
    have hl : ∀ (x : Addr), (loadCells x 0).run P w = .ok #[] w := fun x => by simpa using run_loadCells_list (P := P) w x [] (by simp)
    cases d <;> cases a <;> simp [Builtin.copy_, run_underlying hu, Builtin.lenOf, Builtin.firstCells, sizeOf, typeInfo, hq, hn, storeCells, hl]
theorem wpList_copy_wide {P : Program} {w : World} {ops : Array Oper} {rest : List Oper} {o : Oper} {a : Act} {Q : Exit → Act → World → Prop} (hgd : o.guard = none) (d s : Operand) (dT sT : TypeId)
    (ho : o.op = .call { callee := .builtin .copy, args := #[d, s], argTypes := #[dT, sT] }) (elem : TypeId) (k : Nat) (hk : 0 < k) (hu : P.underlying dT = some (.slice elem)) (hsz : (P.info? elem).map (·.size) = some k)
    (dp sp : Option Addr) (dLen dCap sLen sCap : Nat) (hd : a.eval d = .slice dp dLen dCap) (hs : a.eval s = .slice sp sLen sCap)
    (g off : Nat) (cur : List Value) (t : TypeId) (hg : w.heap[g]? = some (.cells cur.toArray t (0, 0))) (m : Nat) (hm : m = Nat.min sLen dLen) (cs : List Value) (hn : cs.length = m * k)
    (hpos : 0 < m → dp = some ⟨g, off, none⟩ ∧ ∃ ad, sp = some ad ∧ ∀ j v, cs[j]? = some v → w.cell? (ad.add j) = some v)
    (hfit : off + cs.length ≤ cur.length) (h1 : ∀ v ∈ cs, v.oneCell' = true) (S : List Nat) (w0 : World) (hb : Keeps S w0 w) (hBg : g ∈ S ∨ w0.heap.size ≤ g)
    (h : ∀ w', Hid (w'.heap[g]? = some (.cells (splice cur off cs).toArray t (0, 0))) → Keeps [g] w w' → Keeps S w0 w' → wpList P ops Q rest (a.put o.dst (goInt m)) w') :
    wpList P ops Q (o :: rest) a w := by
  refine wpList_plain hgd fun K hK => ?_
  by_cases h0 : m = 0
  · subst h0
    obtain rfl : cs = [] := List.eq_nil_of_length_eq_zero (by simpa using hn)
    have hrun := run_copy_wide_none P w dT sT o.type elem dp sp dLen dCap sLen sCap k hu hsz hm.symm
    unfold Oper.wp
    simp [execOp, ho, resolve, invoke, builtin, hd, hs, hrun, Result.andThen]
    exact hK _ _ (h w (show _ = _ by simpa [splice] using hg) (Keeps.refl _ _) hb)
  · obtain ⟨rfl, ad, rfl, hsrc⟩ := hpos (by omega)
    have hrun := run_copy_wide P w dT sT o.type elem g off dLen dCap ad sLen sCap k m cur.toArray t cs hu hsz hg hm hn hsrc (by simpa using hfit) h1
    unfold Oper.wp
    simp [execOp, ho, resolve, invoke, builtin, hd, hs, hrun, Result.andThen]
    refine hK _ _ (h _ (show _ = _ by simpa [splice] using setRow_heap w g _ _ t _ hg) ?_ ?_)
    · exact setRow_keeps (Keeps.refl _ _) (Or.inl (by simp)) _
    · exact setRow_keeps hb hBg _
theorem pcells_zeros (n : Nat) : pcells (List.replicate n (0, 0)) = List.replicate (n * 2) (.int .i64 0) := by
  induction n with
  | zero => rfl
  | succ n ih => rw [List.replicate_succ, show (n + 1) * 2 = n * 2 + 1 + 1 by omega, List.replicate_succ, List.replicate_succ]; simp [pcells, ih]
theorem madeCells_same (z : Value) (n : Nat) : (madeCells #[z, z] n).toList = List.replicate n z := by
  apply List.ext_getElem?
  intro j
  by_cases hj : j < n
  · rcases (by omega : j % 2 = 0 ∨ j % 2 = 1) with h | h <;> simp [madeCells, hj, h]
  · simp [madeCells, hj]
theorem size_step : (Tryd.prog.info? 103).map (·.size) = some 2 := by kernel_rfl
/-- 'make([]api.Step, l)': a block of zeros. -/
theorem make_steps (w : World) (l : Int) (n : Nat) (hn : l = n) (h : n ≤ 10000000000) :
    (Instr.makeSlice 99 (.int .i64 l) (.int .i64 l)).run Tryd.prog w = .ok (.slice (some ⟨w.heap.size, 0, none⟩) n n) (w.alloc (.cells (pcells (List.replicate n (0, 0))).toArray 103)) := by
  subst hn
  obtain ⟨i, hi, hz, hs, hb⟩ := info_parts info_step
  have e1 : (i.bytes : Int) * (n : Int) ≤ 281474976710656 := by
    rw [hb]; omega
  rw [run_make w 99 103 i _ Tryd.underlying99 hi hz .i64 .i64 n n (by omega) (Int.le_refl _) e1 (by omega)]
  simp only [Int.toNat_natCast]
  have e : madeCells (Value.agg #[.int .i64 0, .int .i64 0]).cells (n * i.size) = (pcells (List.replicate n (0, 0))).toArray := by
    rw [hs]
    apply Array.toList_inj.1
    show (madeCells #[.int .i64 0, .int .i64 0] (n * 2)).toList = _
    rw [madeCells_same, pcells_zeros]
  rw [e]
end Go.Proofs.YtkpabdjniiepkaaDoor

set_option linter.unusedVariables false
set_option linter.unusedSimpArgs false
/-! A block with codes of its own: what it is inflated to, how it begins. -/
namespace Go.Proofs.YtkpabdjniiepkaaDoor
theorem WB.first {xs bl : List Int} (h : WB xs ([1, 0, 1] ++ bl)) : 0 < xs.length ∧ 0 ≤ nth xs 0 ∧ nth xs 0 ≤ 255 ∧ nth xs 0 % 8 = 5 := by
  have hl := h.len
  have hn : ([1, 0, 1] ++ bl : List Int).length = 3 + bl.length := by simp; omega
  obtain ⟨b1, b2⟩ := h.byte 0
  have h0 := h.bit 0 (by omega)
  have h1 := h.bit 1 (by omega)
  have h2 := h.bit 2 (by omega)
  simp [bitAt, nth] at h0 h1 h2
  have e : nth xs 0 = xs.getD 0 0 := rfl
  simp [nth] at b1 b2
  refine ⟨by omega, ?_⟩
  simp only [nth, List.getD_eq_getElem?_getD]
  omega
theorem dyn_law {ts : List Tok} {xs : List Int} (hl : LitOk ts) (hc : checkT ts 0 = 0) (hw : WB xs (dynB (dynLit ts) (dynDist ts) ts)) :
    xs.length ≤ 1000000 ∧ 0 < xs.length ∧ (0 ≤ nth xs 0 ∧ nth xs 0 ≤ 255 ∧ nth xs 0 % 8 = 5) ∧ inflR xs 16384 = ((expandF 16384 ts []).1, xs.length, 0) ∧ (expandF 16384 ts []).1.length ≤ 16384 := by
  have hex : (expandF 16384 ts []).2 = 0 := (checkT_expand ts []).trans hc
  have hm := check_many hc
  obtain ⟨c1, c2, -, -, e1, e2⟩ := dyn_codable hl hex hm
  have hle := expand_le (most := 16384) ts [] (by simp)
  have hf : FinalOf xs (expandF 16384 ts []).1 := final_dyn hw c1 c2 (by rw [← hex])
  have hh := c1.may.len
  rw [e1, e2] at hh
  have ht := toksB_len (lit := dynLit ts) (dist := dynDist ts) ts c2 (expand_toks ts [] hex)
  have hs := (tells_bits c1.stop).2
  have hlen := hw.len
  have hll : (dynB (dynLit ts) (dynDist ts) ts).length ≤ 800000 := by
    unfold dynB
    simp only [List.length_append, List.length_cons, List.length_nil]
    omega
  obtain ⟨f1, f2⟩ := WB.first hw
  exact ⟨by omega, f1, f2, hf.infl (by omega) (by omega), hle⟩
theorem fix_len {ts : List Tok} {xs : List Int} (hl : LitOk ts) (hc : checkT ts 0 = 0) (hw : WB xs (fixB ts)) : xs.length ≤ 1000000 := by
  have hex : (expandF 16384 ts []).2 = 0 := (checkT_expand ts []).trans hc
  have hm := check_many hc
  have ht := toksB_len (lit := fixLit) (dist := fixDist) ts (fix_toks hl hex) (expand_toks ts [] hex)
  have hs : (cbit fixLit 256).length ≤ 15 := by decide +kernel
  have hlen := hw.len
  have hll : (fixB ts).length ≤ 800000 := by
    unfold fixB
    simp only [List.length_append, List.length_cons, List.length_nil]
    omega
  omega
end Go.Proofs.YtkpabdjniiepkaaDoor
