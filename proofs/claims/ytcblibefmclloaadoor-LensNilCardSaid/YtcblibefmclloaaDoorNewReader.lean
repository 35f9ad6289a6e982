import Derived.Test.YtcblibefmclloaaDoorBits
import Derived.Laws.AppendOwnNone
import Derived.OneCell
set_option linter.unusedVariables false
set_option linter.unusedSimpArgs false
namespace Go.Proofs.YtcblibefmclloaaDoor
open Go.RowKit
theorem ints_one' (k : IntKind) (xs : List Int) : ∀ v ∈ ints k xs, v.oneCell' = true := by
  intro u hu; simp only [ints, List.mem_map] at hu; obtain ⟨x, _, rfl⟩ := hu; rfl
/-- 's = append(s, ys...)' of bytes, whatever slice the source is. -/
theorem app_bytes {ops : Array Oper} {rest : List Oper} {o : Oper} {a : Act} {Q : Exit → Act → World → Prop} {w : World} (hgd : o.guard = none) (s x : Operand)
    (ho : o.op = .call { callee := .builtin .append, args := #[s, x], argTypes := #[37, 37] })
    (base : Nat) (v : Value) (n : Nat) (xs : List Int) (hs : a.eval s = v) (hown : w.ownsRow base 5 1 v n (ints .u8 xs))
    (A : Option Addr) (m c : Nat) (ys : List Int) (hx : a.eval x = .slice A m c) (hy : RI .u8 w A m ys) (hnil : A = none → m = 0 ∧ c = 0)
    (hn : n + m ≤ 8000000000) (hbase : base ≤ w.heap.size)
    (h : ∀ v' w', w'.ownsRow base 5 1 v' (n + m) (ints .u8 (xs ++ ys)) → w.grownBy w' v.ownBlock → wpList Tryd.prog ops Q rest (a.put o.dst v') w') : wpList Tryd.prog ops Q (o :: rest) a w := by
  obtain ⟨i0, hi, hz0, hz1, hz2⟩ := info_parts info_u8
  cases A with
  | none =>
    obtain ⟨rfl, rfl⟩ := hnil rfl
    obtain rfl : ys = [] := List.eq_nil_of_length_eq_zero hy.len
    refine wpList_append_own_none hgd s x 37 ho base 5 i0 1 Tryd.underlying37 hi v n (ints .u8 xs) hs hown hx ?_
    exact h v w (by simpa using hown) ⟨rfl, rfl, rfl, Nat.le_refl _, fun _ _ _ => rfl⟩
  | some ad =>
    refine wpList_append_own _ hgd s x 37 ho base 5 i0 (.int .u8 0) 1 1 Tryd.underlying37 hi hz0 hz1 hz2 rfl (by decide) v n (ints .u8 xs) hs hown ad m c (ints .u8 ys) hx (by simp [ints, hy.len]) ?_ (ints_one' _ _) (by unfold maxLen; omega) (by omega) hbase ?_
    · intro j u hu
      have hj : j < m := by have := (List.getElem?_eq_some_iff.1 hu).1; have := hy.len; simp [ints] at *; omega
      obtain ⟨b, of, hab⟩ := hy.hd (by omega)
      obtain rfl := Option.some.inj hab
      rw [add_plain2]
      have hc := hy.cell b of rfl j hj
      rw [hc, ← hu, ints_getElem?]
      simp [nth, List.getD, show j < ys.length by have := hy.len; omega]
    · intro v' w' h2 h3 _
      have e : ints .u8 (xs ++ ys) = ints .u8 xs ++ ints .u8 ys := by simp [ints]
      rw [e] at h
      exact h v' w' h2 h3
set_option maxRecDepth 100000 in
set_option maxHeartbeats 1000000 in
theorem more_calls (w : World) (g : Nat) (A : Option Addr) (n c : Nat) (bs : List Int) (hb : Blk w g 93 [.slice none 0 0, .int .i64 0]) (hr : RI .u8 w A n bs) (hnil : A = none → n = 0 ∧ c = 0)
    (hbyte : ∀ j, 0 ≤ nth bs j ∧ nth bs j ≤ 255) (hn : n ≤ 4000000000) :
    Calls Tryd.prog 74 #[.pointer (some ⟨g, 0, none⟩), .slice A n c] w fun e w' => ∃ A' c', e = .returned (.int .i64 0) ∧ Rdr w' g A' c' bs 0 ∧ (∀ a, A' = some a → g < a.block ∧ a.block < w'.heap.size) ∧ Below g w w' := by
  have h0 := hb.cell 0
  simp only [List.getElem?_cons_zero] at h0
  have hf := hb.frozen 0
  have hlt := hb.lt
  have HB := Lib.hid hb
  have HR := Lib.hid hr
  have HN := Lib.hid hnil
  have HBY := Lib.hid hbyte
  clear hb hr hnil hbyte
  go_enter Tryd.func74, Tryd.ntmps74
  go_wp2_with (at_builtin; refine app_bytes rfl (.tmp 11) (.tmp 12) rfl (g + 1) _ _ [] rfl (World.ownsRow_nil _ _ _ _) A n c bs rfl HR.out HN.out (by omega) hlt ?_)
  intro v1 w1 h1 hg1
  have hb1 : Blk w1 g 93 [.slice none 0 0, .int .i64 0] := (hg1.block g hlt (by simp [Value.ownBlock])).trans HB.out
  have c0 := hb1.cell 0
  simp only [List.getElem?_cons_zero] at c0
  have f0 := hb1.frozen 0
  obtain ⟨A1, c1, rfl, hri, hcap, hblk⟩ := own_ri h1
  have HB1 := Lib.hid hb1
  have HRI := Lib.hid hri
  have HBK := Lib.hid hblk
  have HG := Lib.hid hg1
  clear hb1 hri hblk hg1 h1
  go_wp2_with fail
  go_ret
  have hl := HR.out.len
  refine ⟨A1, c1, rfl, ⟨?_, ?_, ?_, by simp, HBY.out, by omega⟩, fun a ha => ⟨(HBK.out a ha).1, by have := (HBK.out a ha).2.1; simpa [World.setCell] using this⟩, ?_⟩
  · rw [hl]; exact HB1.out.set 0 _
  · rw [hl]
    exact HRI.out.keeps ((Keeps.refl [g] w1).setCell (Or.inl (by simp)) _) (fun a ha => by have := (HBK.out a ha).1; simp; omega)
  · intro a ha; have := (HBK.out a ha).1; simp; omega
  · exact ((Below.refl g w).grown HG.out (Nat.le_of_lt hlt) (fun k hk => by simp [Value.ownBlock] at hk)).setCell (p := ⟨g, 0, none⟩) (Nat.le_refl g) _
set_option maxRecDepth 100000 in
set_option maxHeartbeats 1000000 in
theorem newReader_calls (w : World) (A : Option Addr) (n c : Nat) (bs : List Int) (hr : RI .u8 w A n bs) (hnil : A = none → n = 0 ∧ c = 0)
    (hbyte : ∀ j, 0 ≤ nth bs j ∧ nth bs j ≤ 255) (hn : n ≤ 4000000000) :
    Calls Tryd.prog 47 #[.slice A n c] w fun e w' => ∃ g A' c', e = .returned (.pointer (some ⟨g, 0, none⟩)) ∧ Rdr w' g A' c' bs 0 ∧ w.heap.size ≤ g ∧ (∀ a, A' = some a → g < a.block ∧ a.block < w'.heap.size) ∧ Below w.heap.size w w' := by
  have HR := Lib.hid hr
  have HN := Lib.hid hnil
  have HBY := Lib.hid hbyte
  clear hr hnil hbyte
  go_enter Tryd.func47, Tryd.ntmps47
  go_wp2_with fail
  refine (more_calls _ _ _ _ _ bs (blk_new w 93 [.slice none 0 0, .int .i64 0]) (HR.out.keeps ((Keeps.refl _ _).alloc _) (off_nil _)) HN.out HBY.out hn).mono ?_
  rintro e w1 ⟨A1, c1, rfl, hrd, hab, hb⟩
  have HRD := Lib.hid hrd
  have HB := Lib.hid hb
  have HAB := Lib.hid hab
  clear hrd hb hab
  go_wp2_with fail
  go_ret
  exact ⟨_, _, _, rfl, HRD.out, Nat.le_refl _, HAB.out, ((Below.refl _ w).alloc (Nat.le_refl _) _).trans HB.out⟩
end Go.Proofs.YtcblibefmclloaaDoor
