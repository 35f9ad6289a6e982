import Derived.Test.YtghjlpechjggjaaGreatDoorZshG
import Derived.Recover
import Derived.Defers
import Derived.Deep.AppendLies
import Derived.OneCell
import Derived.Test.YtghjlpechjggjaaGreatDoorZshC
import Derived.Test.YtghjlpechjggjaaGreatDoorZshA
import Derived.Laws.AppendOwnNone
import Derived.Test.YtghjlpechjggjaaGreatDoorZshB
import Derived.Deep.MidRow
import Derived.RegionTactic
import Derived.BigQuiet
import Derived.WalkMore
import Derived.BigRegion
import Derived.Deep.Onto
import Derived.Laws.OwnMore
import Derived.Lib.SliceRun
set_option linter.unusedVariables false
set_option linter.unusedSimpArgs false
set_option linter.constructorNameAsVariable false
set_option maxRecDepth 100000
set_option maxHeartbeats 60000000
namespace Go.Proofs.YtghjlpechjggjaaGreatDoor
open Go.RowKit
theorem assert_errno (W : World) (v : Value) : (Instr.typeAssert (.iface 27 v) 20 27 true).run Tryz.prog W = .ok (.tuple #[v, .bool true]) W := by kernel_rfl
theorem catch_panic (O E : Nat) (e : Int) (w : World) (vo ve : Value) (h0 : w.cell? ⟨O, 0, none⟩ = some vo) (h1 : w.cell? ⟨E, 0, none⟩ = some ve) (f0 : w.frozen? ⟨O, 0, none⟩ = false) (f1 : w.frozen? ⟨E, 0, none⟩ = false) (hne : O ≠ E) :
  CallsD Tryz.prog 72 #[.pointer (some ⟨O, 0, none⟩), .pointer (some ⟨E, 0, none⟩)] (.panicking (chainE e)) w fun r u' w' =>
   r = .returned (.tuple #[]) ∧ u' = .panicking [{ v := .iface 27 (.int .i64 e), recovered := true }] ∧ w' = (w.setCell ⟨O, 0, none⟩ (.slice none 0 0)).setCell ⟨E, 0, none⟩ (.int .i64 e) := by
 refine callsD_of_wpS Tryz.func72 rfl fun c₀ cs hu => ?_
 apply wpS_seq
 apply wpS_region
 simp [wpOpsS, go_sem, recoverD, hu, Tryz.ntmps72, Exit.thenS, chainE]
 simp only [Array.replicate_succ, Array.replicate_zero, List.push_toArray, List.append_toArray, List.nil_append, List.cons_append, List.setIfInBounds_toArray, List.set_cons_zero, List.set_cons_succ]
 refine wpS_of_wp ?_
 have hS : (World.setCell w ⟨O, 0, none⟩ (.slice none 0 0)).cell? ⟨E, 0, none⟩ = some ve := (World.cell?_setCell_other _ _ _ _ (by simpa using hne)).trans h1
 have hF : (World.setCell w ⟨O, 0, none⟩ (.slice none 0 0)).frozen? ⟨E, 0, none⟩ = false := (World.frozen?_setCell _ _ _ _).trans f1
 have hA := assert_errno w (.int .i64 e)
 go_wp2_with fail
 simp [bodyPostS, results, Tryz.results72]
theorem catch_idle (O E : Nat) (w : World) :
  CallsD Tryz.prog 72 #[.pointer (some ⟨O, 0, none⟩), .pointer (some ⟨E, 0, none⟩)] .returning w fun r u' w' => r = .returned (.tuple #[]) ∧ u' = .returning ∧ w' = w := by
 refine callsD_of_wpS Tryz.func72 rfl fun c₀ cs hu => ?_
 apply wpS_seq
 apply wpS_region
 simp [wpOpsS, go_sem, recoverD, hu, Tryz.ntmps72, Exit.thenS]
 simp only [Array.replicate_succ, Array.replicate_zero, List.push_toArray, List.append_toArray, List.nil_append, List.cons_append, List.setIfInBounds_toArray, List.set_cons_zero, List.set_cons_succ]
 refine wpS_of_wp ?_
 go_wp2_with fail
 cases c₀
 simp_all [bodyPostS, results, Tryz.results72]
end Go.Proofs.YtghjlpechjggjaaGreatDoor
namespace Go.Proofs.YtghjlpechjggjaaGreatDoor
open Go.RowKit
structure WT (t e : TypeId) (k : Nat) where
 z : Value
 bytes : Nat
 info : (Tryz.prog.info? e).map (fun i => (i.zero, i.size, i.bytes)) = some (some z, k, bytes)
 und : Tryz.prog.underlying t = some (.slice e)
 zs : z.cells.size = k
 k0 : 0 < k
 b : bytes ≤ 1000
theorem app_rw {α : Type} {t e : TypeId} {k : Nat} (T : WT t e k) {enc : α → List Value} (he : ∀ x, (enc x).length = k) (hone : ∀ x, ∀ v ∈ enc x, v.oneCell' = true)
  {ops : Array Oper} {rest : List Oper} {o : Oper} {a : Act} {Q : Exit → Act → World → Prop} {w : World} (hgd : o.guard = none) (s x : Operand)
  (ho : o.op = .call { callee := .builtin .append, args := #[s, x], argTypes := #[t, t] })
  (base : Nat) (v : Value) (n : Nat) (L : List α) (hs : a.eval s = v) (hown : w.ownsRow base e k v n (L.flatMap enc))
  (b : Nat) (p : α) (hx : a.eval x = .slice (some ⟨b, 0, none⟩) 1 1) (hc : ∀ i, i < k → w.cell? ⟨b, i, none⟩ = (enc p)[i]?)
  (hn : n ≤ 1000000000) (hbase : base ≤ w.heap.size)
  (h : ∀ v' w', w'.ownsRow base e k v' (n + 1) ((L ++ [p]).flatMap enc) → w.grownBy w' v.ownBlock → wpList Tryz.prog ops Q rest (a.put o.dst v') w') : wpList Tryz.prog ops Q (o :: rest) a w := by
 obtain ⟨i0, hi, hz0, hz1, hz2⟩ := info_parts T.info
 have hb := T.b
 refine wpList_append_own _ hgd s x t ho base e i0 T.z k T.bytes T.und hi hz0 hz1 hz2 T.zs T.k0 v n (L.flatMap enc) hs hown ⟨b, 0, none⟩ 1 1 (enc p) hx (by rw [he]; omega) ?_ (hone p) (by unfold maxLen; omega) (by have : (n + 1) * T.bytes ≤ 1000000001 * 1000 := Nat.mul_le_mul (by omega) hb; omega) hbase ?_
 ·intro j u hu
  have hj : j < k := by rw [← he p]; exact (List.getElem?_eq_some_iff.1 hu).1
  rw [add_plain, hc j hj, hu]
 ·intro v' w' h2 h3 _
  refine h v' w' ?_ h3
  rw [List.flatMap_append]
  simpa using h2
theorem step_rw {α : Type} {t e : TypeId} {k : Nat} (T : WT t e k) {enc : α → List Value} (he : ∀ x, (enc x).length = k) (hone : ∀ x, ∀ v ∈ enc x, v.oneCell' = true)
  {ops : Array Oper} {o : Oper} {a : Act} {K : Act → World → Prop} {Q : Exit → Act → World → Prop} {E : Prop} {w : World} (hgd : o.guard = none) (s x : Operand)
  (ho : o.op = .call { callee := .builtin .append, args := #[s, x], argTypes := #[t, t] })
  (base : Nat) (v : Value) (n : Nat) (L : List α) (hs : a.eval s = v) (hown : w.ownsRow base e k v n (L.flatMap enc))
  (b : Nat) (p : α) (hx : a.eval x = .slice (some ⟨b, 0, none⟩) 1 1) (hc : ∀ i, i < k → w.cell? ⟨b, i, none⟩ = (enc p)[i]?)
  (hn : n ≤ 1000000000) (hbase : base ≤ w.heap.size)
  (h : ∀ g' c' w', w'.ownsRow base e k (.slice (some ⟨g', 0, none⟩) (n + 1) c') (n + 1) ((L ++ [p]).flatMap enc) → w.grownBy w' v.ownBlock → K (a.put o.dst (.slice (some ⟨g', 0, none⟩) (n + 1) c')) w') :
  if Region.wanted o (yielded ops a.tmps) = true then Oper.wp Tryz.prog o a w K Q else E := by
 obtain ⟨i0, hi, hz0, hz1, hz2⟩ := info_parts T.info
 have hb := T.b
 refine step_append_lies _ hgd s x t ho base e i0 T.z k T.bytes T.und hi hz0 hz1 hz2 T.zs T.k0 v n (L.flatMap enc) hs hown ⟨b, 0, none⟩ 1 1 (enc p) hx (by rw [he]; omega) ?_ (hone p) (by omega) (by unfold maxLen; omega) (by have : (n + 1) * T.bytes ≤ 1000000001 * 1000 := Nat.mul_le_mul (by omega) hb; omega) hbase _ rfl ?_
 ·intro j u hu
  have hj : j < k := by rw [← he p]; exact (List.getElem?_eq_some_iff.1 hu).1
  rw [add_plain, hc j hj, hu]
 ·intro g' cap w' h2 h3 _ _
  refine h g' cap w' ?_ h3
  rw [List.flatMap_append]
  simpa using h2
end Go.Proofs.YtghjlpechjggjaaGreatDoor
namespace Go.Proofs.YtghjlpechjggjaaGreatDoor
open Go.RowKit Go.Maps
def pcz (A : Option Addr) (c : Nat) (p : ZP) : List Value := [.string p.x.name, .int .i64 p.x.size, .int .i64 p.x.packed, .int .u32 p.x.sum, .int .i64 p.x.way, .slice (cutA A p.fro c) p.len (c - p.fro)]
theorem pcz_len (A : Option Addr) (c : Nat) (p : ZP) : (pcz A c p).length = 6 := rfl
def PcsP (w : World) (A : Option Addr) (c : Nat) (xs : List Int) (r : Ending) (w' : World) : Prop :=
 ∃ v, r = .returned (.tuple #[v, .int .i64 (zpieces xs).1]) ∧ ((zpieces xs).1 ≠ 0 → v = .slice none 0 0) ∧ ((zpieces xs).1 = 0 → w'.ownsRow w.heap.size 77 6 v (zpieces xs).2.length ((zpieces xs).2.flatMap (pcz A c))) ∧ Below w.heap.size w w'
structure OE (w : World) (O E : Nat) : Prop where
 o : ∃ v, w.cell? ⟨O, 0, none⟩ = some v
 e : ∃ v, w.cell? ⟨E, 0, none⟩ = some v
 fo : w.frozen? ⟨O, 0, none⟩ = false
 fe : w.frozen? ⟨E, 0, none⟩ = false
theorem OE.keeps {S : List Nat} {w w' : World} {O E : Nat} (h : OE w O E) (hk : Keeps S w w') (hO : O ∉ S) (hE : E ∉ S) : OE w' O E := by
 obtain ⟨⟨v, hv⟩, ⟨u, hu⟩, f1, f2⟩ := h
 exact ⟨⟨v, hk.cell (p := ⟨O, 0, none⟩) hO hv⟩, ⟨u, hk.cell (p := ⟨E, 0, none⟩) hE hu⟩, (hk.frozen (p := ⟨O, 0, none⟩) (World.block_lt_of_cell? _ _ hv) hO).trans f1, (hk.frozen (p := ⟨E, 0, none⟩) (World.block_lt_of_cell? _ _ hu) hE).trans f2⟩
def wt_piece : WT 73 77 6 := ⟨.agg #[.string ⟨#[]⟩, .int .i64 0, .int .i64 0, .int .u32 0, .int .i64 0, .slice none 0 0], 72, by kernel_rfl, Tryz.underlying73, rfl, by decide, by decide⟩
theorem pcz_one (A : Option Addr) (c : Nat) (p : ZP) : ∀ v ∈ pcz A c p, v.oneCell' = true := by
 intro v hv
 unfold pcz at hv
 simp only [List.mem_cons, List.not_mem_nil, or_false] at hv
 rcases hv with rfl | rfl | rfl | rfl | rfl | rfl <;> rfl
def zdefer (O E : Nat) : Deferred := { target := .fn (.func 72) #[.pointer (some ⟨O, 0, none⟩), .pointer (some ⟨E, 0, none⟩)], args := #[] }
theorem pieces_dies {W : World} {O E : Nat} {e : Int} {tmps : Array Value} {R : Ending → World → Prop} (h2 : tmps.getD 2 undef = .pointer (some ⟨O, 0, none⟩)) (h3 : tmps.getD 3 undef = .pointer (some ⟨E, 0, none⟩)) (hoe : OE W O E) (hne : O ≠ E)
  (hR : ∀ w', Keeps [O, E] W w' → R (.returned (.tuple #[.slice none 0 0, .int .i64 e])) w') : bodyPostD Tryz.prog Tryz.f47 R (Exit.panic (chainE e)) { tmps := tmps, defers := [zdefer O E] } W := by
 obtain ⟨⟨v, hv⟩, ⟨u, hu⟩, f1, f2⟩ := hoe
 refine leaves_cons (f := 72) (args := #[.pointer (some ⟨O, 0, none⟩), .pointer (some ⟨E, 0, none⟩)]) (by simp [zdefer]) (by simp [zdefer, go_sem]) ?_
 refine (catch_panic O E e _ v u hv hu f1 f2 hne).mono ?_
 rintro _ u' w'' ⟨rfl, rfl, rfl⟩
 have c1 : ((W.setCell ⟨O, 0, none⟩ (.slice none 0 0)).setCell ⟨E, 0, none⟩ (.int .i64 e)).cell? ⟨O, 0, none⟩ = some (.slice none 0 0) := (World.cell?_setCell_other _ _ _ _ (by simpa using hne.symm)).trans (World.cell?_setCell_same _ _ _ hv)
 have c2 : ((W.setCell ⟨O, 0, none⟩ (.slice none 0 0)).setCell ⟨E, 0, none⟩ (.int .i64 e)).cell? ⟨E, 0, none⟩ = some (.int .i64 e) := World.cell?_setCell_same _ _ _ ((World.cell?_setCell_other _ _ _ _ (by simpa using hne)).trans hu)
 have hr := hR _ (((Keeps.refl [O, E] W).setCell (p := ⟨O, 0, none⟩) (.inl (by simp)) (.slice none 0 0)).setCell (p := ⟨E, 0, none⟩) (.inl (by simp)) (.int .i64 e))
 have h2' : tmps[2]?.getD undef = .pointer (some ⟨O, 0, none⟩) := by simpa using h2
 have h3' : tmps[3]?.getD undef = .pointer (some ⟨E, 0, none⟩) := by simpa using h3
 have ha : ∀ w, (isAgg 73).run Tryz.prog w = .ok false w := run_isAgg_plain Tryz.underlying73 rfl
 have hb : ∀ w, (isAgg 27).run Tryz.prog w = .ok false w := run_isAgg_plain Tryz.underlying27 rfl
 simp [Leaves, settle, results, Tryz.results47, go_sem, h2', h3', asAddr, ha, hb, c1, c2]
 exact hr
theorem pieces_lives {W : World} {O E : Nat} {v u : Value} {tmps : Array Value} {R : Ending → World → Prop} (h2 : tmps.getD 2 undef = .pointer (some ⟨O, 0, none⟩)) (h3 : tmps.getD 3 undef = .pointer (some ⟨E, 0, none⟩)) (hv : W.cell? ⟨O, 0, none⟩ = some v) (hu : W.cell? ⟨E, 0, none⟩ = some u)
  (hR : R (.returned (.tuple #[v, u])) W) : bodyPostD Tryz.prog Tryz.f47 R Exit.ret { tmps := tmps, defers := [zdefer O E] } W := by
 have h2' : tmps[2]?.getD undef = .pointer (some ⟨O, 0, none⟩) := by simpa using h2
 have h3' : tmps[3]?.getD undef = .pointer (some ⟨E, 0, none⟩) := by simpa using h3
 have ha : ∀ w, (isAgg 73).run Tryz.prog w = .ok false w := run_isAgg_plain Tryz.underlying73 rfl
 have hb : ∀ w, (isAgg 27).run Tryz.prog w = .ok false w := run_isAgg_plain Tryz.underlying27 rfl
 refine leaves_cons (f := 72) (args := #[.pointer (some ⟨O, 0, none⟩), .pointer (some ⟨E, 0, none⟩)]) (by simp [zdefer]) (by simp [zdefer, go_sem]) ?_
 refine (catch_idle O E _).mono ?_
 rintro _ u' w'' ⟨rfl, rfl, rfl⟩
 simp [Leaves, settle, results, Tryz.results47, go_sem, h2', h3', asAddr, ha, hb, hv, hu]
 exact hR
theorem pieces_calls (w : World) (A : Option Addr) (n c : Nat) (xs : List Int) (hz : ZB w A n c xs) :
  Calls Tryz.prog 47 #[.slice A n c] w (PcsP w A c xs) := by
 have hmf : ∀ (fn : Fn) (first cap : Array Value) (w : World), (Instr.makeFunc fn first cap).run Tryz.prog w = .ok (.func fn first cap) w := fun _ _ _ _ => rfl
 have HZ := Lib.hid hz
 have hn9 := hz.len
 have HX := Lib.hid hz.ri.len
 clear hz
 obtain ⟨O, hO⟩ : ∃ z, z = w.heap.size := ⟨_, rfl⟩
 obtain ⟨E, hE⟩ : ∃ z, z = O + 1 := ⟨_, rfl⟩
 have hne : O ≠ E := by omega
 have BADP : Hid (∀ e, zpieces xs = (e, []) → e ≠ 0 → ∀ W, Below w.heap.size w W → ∀ w', Keeps [O, E] W w' → PcsP w A c xs (.returned (.tuple #[.slice none 0 0, .int .i64 e])) w') := Lib.hid (fun e he h0 W hb w' hk => by
  have hb2 : Below w.heap.size w w' := hb.trans (keeps_below hk hb.size (fun x hx => by simp at hx; omega))
  exact ⟨.slice none 0 0, by rw [he], fun _ => rfl, fun h => absurd (by rw [he] at h; exact h) h0, hb2⟩)
 obtain ⟨w2, hw2⟩ : ∃ z, z = (w.alloc (.cells #[.slice none 0 0] 73)).alloc (.cells #[.int .i64 0] 27) := ⟨_, rfl⟩
 have O2 : Hid (Blk w2 O 73 [.slice none 0 0]) := Lib.hid (by rw [hw2, hO]; exact (blk_new w 73 [.slice none 0 0]).keeps (S := []) ((Keeps.refl [] _).alloc _) (by simp))
 have E2 : Hid (Blk w2 E 27 [.int .i64 0]) := Lib.hid (by
  have := blk_new (w.alloc (.cells #[.slice none 0 0] 73)) 27 [.int .i64 0]
  rw [World.size_alloc, ← hO, ← hE] at this
  rw [hw2]; exact this)
 have B2 : Hid (Below w.heap.size w w2) := Lib.hid (by rw [hw2]; exact ((Below.refl _ w).alloc (Nat.le_refl _) _).alloc (by simp) _)
 have hs2 : w2.heap.size = E + 1 := by rw [hw2]; simp; omega
 have HOO := Lib.hid hO
 have HEE := Lib.hid hE
 have P2 : Hid (OE w2 O E) := Lib.hid ⟨⟨_, O2.out.cell 0⟩, ⟨_, E2.out.cell 0⟩, O2.out.frozen 0, E2.out.frozen 0⟩
 have HS2 := Lib.hid hs2
 clear hs2
 go_enter_defers Tryz.func47, Tryz.ntmps47
 go_upto_region 2 with (fail)
 rw [← hw2, ← hO, ← hE]
 clear hw2 hO hE
 by_cases q1 : n ≤ 1048576
 case neg =>
  have HP : Hid (zpieces xs = (2, [])) := Lib.hid (by unfold zpieces; rw [if_pos (by rw [HX.out]; omega)])
  have t1 : decide ((n : Int) ≤ 1048576) = false := decide_eq_false (by omega)
  have t1' : decide (n ≤ 1048576) = false := decide_eq_false q1
  clear q1
  go_wp2_with fail
  refine (must_no _ 2).mono ?_
  rintro _ _ ⟨rfl, rfl⟩
  exact pieces_dies rfl rfl P2.out hne (BADP.out 2 HP.out (by decide) _ B2.out)
 have t1 : decide ((n : Int) ≤ 1048576) = true := decide_eq_true (by omega)
 have t1' : decide (n ≤ 1048576) = true := decide_eq_true q1
 go_wp2_with fail
 refine (must_ok _ 2).mono ?_
 rintro _ wz ⟨rfl, hwz⟩
 obtain rfl : w2 = wz := hwz.symm
 clear hwz t1 t1'
 by_cases q2 : 22 ≤ n
 case neg =>
  have HP : Hid (zpieces xs = (81, [])) := Lib.hid (by unfold zpieces; rw [if_neg (by rw [HX.out]; omega), if_pos (by rw [HX.out]; omega)])
  have t1 : decide ((22 : Int) ≤ (n : Int)) = false := decide_eq_false (by omega)
  have t1' : decide (22 ≤ n) = false := decide_eq_false q2
  clear q1 q2
  go_wp2_with fail
  refine (must_no _ 81).mono ?_
  rintro _ _ ⟨rfl, rfl⟩
  exact pieces_dies rfl rfl P2.out hne (BADP.out 81 HP.out (by decide) _ B2.out)
 have t1 : decide ((22 : Int) ≤ (n : Int)) = true := decide_eq_true (by omega)
 have t1' : decide (22 ≤ n) = true := decide_eq_true q2
 obtain ⟨en, hen⟩ : ∃ z, z = n - 22 := ⟨_, rfl⟩
 have s1 : IntKind.i64.wrap ((n : Int) - 22) = (en : Int) := by rw [IntWalk.i64_in _ (by omega)]; omega
 have s1' : (n : Int) - 22 = (en : Int) := by omega
 have hn22 : n = en + 22 := by omega
 have HEN := Lib.hid hen
 have HZ1 : Hid (zpieces xs = if ¬ ZEnd xs en then (81, []) else if 64 < zmany xs then (86, []) else zloop xs (zfirst xs) en (zmany xs) (zfirst xs) 0 []) := Lib.hid (by
  unfold zpieces
  rw [if_neg (by rw [HX.out]; omega), if_neg (by rw [HX.out]; omega), HX.out, ← hen])
 have HN22 := Lib.hid hn22
 clear hen hn22
 go_wp2_with fail
 refine (must_ok _ 81).mono ?_
 rintro _ wz ⟨rfl, hwz⟩
 obtain rfl : w2 = wz := hwz.symm
 clear hwz t1 t1'
 go_upto_region 6 with (fail)
 obtain ⟨F, hF⟩ : ∃ z, z = w2.heap.size := ⟨_, rfl⟩
 obtain ⟨w3, hw3⟩ : ∃ z, z = w2.alloc (.cells #[.slice A n c, .int .i64 en] 118) := ⟨_, rfl⟩
 have K3 : Hid (Keeps [] w2 w3) := Lib.hid (by rw [hw3]; exact (Keeps.refl [] _).alloc _)
 have hFB : Blk w3 F 118 [.slice A n c, .int .i64 en] := by rw [hw3, hF]; exact blk_new _ _ _
 have F3 : Hid (FD w3 F 0 A n c en) := Lib.hid ⟨by have := hFB.cell 0; simpa using this, by have := hFB.cell 1; simpa using this, hFB.frozen 1, fun a ha he => by have h1 := HZ.out.old a ha; have h2 := B2.out.size; omega⟩
 have HF := Lib.hid hF
 have Z2 := Lib.hid (HZ.out.keeps (Keeps.of_below B2.out (S := [])) (off_nil _))
 rw [← hw3, ← hF]
 have hFge : w2.heap.size ≤ F := by omega
 have h22 : en + 22 ≤ n := by have := HN22.out; omega
 have h22' : n ≤ en + 22 := by have := HN22.out; omega
 clear hw3 hFB hF s1 s1'
 go_wp2_with fail
 refine (ffour_calls w3 F 0 A n c xs en F3.out (Z2.out.keeps K3.out (off_nil _)) (by omega)).mono ?_
 rintro _ w4 ⟨rfl, hf, ho⟩
 have F4 := Lib.hid hf
 have K4 := Lib.hid (K3.out.then ho.keeps (fun x hx => .inr (by simp at hx; omega)))
 obtain ⟨v0, hv⟩ : ∃ z, z = zget xs en 4 := ⟨_, rfl⟩
 rw [← hv]
 have V0 := Lib.hid hv
 clear hf ho hv F3 K3
 go_wp2_with fail
 refine (ftwo_calls w4 F 0 A n c xs (en + 4) F4.out (Z2.out.keeps K4.out (off_nil _)) (by omega)).mono ?_
 rintro _ w5 ⟨rfl, hf, ho⟩
 have F5 := Lib.hid hf
 have K5 := Lib.hid (K4.out.then ho.keeps (fun x hx => .inr (by simp at hx; omega)))
 obtain ⟨v1, hv⟩ : ∃ z, z = zget xs (en + 4) 2 := ⟨_, rfl⟩
 rw [← hv]
 have V1 := Lib.hid hv
 clear hf ho hv F4 K4
 go_wp2_with fail
 refine (ftwo_calls w5 F 0 A n c xs (en + 4 + 2) F5.out (Z2.out.keeps K5.out (off_nil _)) (by omega)).mono ?_
 rintro _ w6 ⟨rfl, hf, ho⟩
 have F6 := Lib.hid hf
 have K6 := Lib.hid (K5.out.then ho.keeps (fun x hx => .inr (by simp at hx; omega)))
 obtain ⟨v2, hv⟩ : ∃ z, z = zget xs (en + 4 + 2) 2 := ⟨_, rfl⟩
 rw [← hv]
 have V2 := Lib.hid hv
 clear hf ho hv F5 K5
 go_wp2_with fail
 refine (ftwo_calls w6 F 0 A n c xs (en + 4 + 2 + 2) F6.out (Z2.out.keeps K6.out (off_nil _)) (by omega)).mono ?_
 rintro _ w7 ⟨rfl, hf, ho⟩
 have F7 := Lib.hid hf
 have K7 := Lib.hid (K6.out.then ho.keeps (fun x hx => .inr (by simp at hx; omega)))
 obtain ⟨v3, hv⟩ : ∃ z, z = zget xs (en + 4 + 2 + 2) 2 := ⟨_, rfl⟩
 rw [← hv]
 have V3 := Lib.hid hv
 clear hf ho hv F6 K6
 go_wp2_with fail
 refine (ftwo_calls w7 F 0 A n c xs (en + 4 + 2 + 2 + 2) F7.out (Z2.out.keeps K7.out (off_nil _)) (by omega)).mono ?_
 rintro _ w8 ⟨rfl, hf, ho⟩
 have F8 := Lib.hid hf
 have K8 := Lib.hid (K7.out.then ho.keeps (fun x hx => .inr (by simp at hx; omega)))
 obtain ⟨v4, hv⟩ : ∃ z, z = zget xs (en + 4 + 2 + 2 + 2) 2 := ⟨_, rfl⟩
 rw [← hv]
 have V4 := Lib.hid hv
 clear hf ho hv F7 K7
 go_wp2_with fail
 refine (ffour_calls w8 F 0 A n c xs (en + 4 + 2 + 2 + 2 + 2) F8.out (Z2.out.keeps K8.out (off_nil _)) (by omega)).mono ?_
 rintro _ w9 ⟨rfl, hf, ho⟩
 have F9 := Lib.hid hf
 have K9 := Lib.hid (K8.out.then ho.keeps (fun x hx => .inr (by simp at hx; omega)))
 obtain ⟨v5, hv⟩ : ∃ z, z = zget xs (en + 4 + 2 + 2 + 2 + 2) 4 := ⟨_, rfl⟩
 rw [← hv]
 have V5 := Lib.hid hv
 clear hf ho hv F8 K8
 go_wp2_with fail
 refine (ffour_calls w9 F 0 A n c xs (en + 4 + 2 + 2 + 2 + 2 + 4) F9.out (Z2.out.keeps K9.out (off_nil _)) (by omega)).mono ?_
 rintro _ w10 ⟨rfl, hf, ho⟩
 have F10 := Lib.hid hf
 have K10 := Lib.hid (K9.out.then ho.keeps (fun x hx => .inr (by simp at hx; omega)))
 obtain ⟨v6, hv⟩ : ∃ z, z = zget xs (en + 4 + 2 + 2 + 2 + 2 + 4) 4 := ⟨_, rfl⟩
 rw [← hv]
 have V6 := Lib.hid hv
 clear hf ho hv F9 K9
 go_wp2_with fail
 refine (ftwo_calls w10 F 0 A n c xs (en + 4 + 2 + 2 + 2 + 2 + 4 + 4) F10.out (Z2.out.keeps K10.out (off_nil _)) (by omega)).mono ?_
 rintro _ w11 ⟨rfl, hf, ho⟩
 have F11 := Lib.hid hf
 have K11 := Lib.hid (K10.out.then ho.keeps (fun x hx => .inr (by simp at hx; omega)))
 obtain ⟨v7, hv⟩ : ∃ z, z = zget xs (en + 4 + 2 + 2 + 2 + 2 + 4 + 4) 2 := ⟨_, rfl⟩
 rw [← hv]
 have V7 := Lib.hid hv
 clear hf ho hv F10 K10
 have HZE : Hid (ZEnd xs en ↔ v0 = 101010256 ∧ v1 = 0 ∧ v2 = 0 ∧ v3 = v4 ∧ v6 + v5 = (en : Int) ∧ v7 = 0) := Lib.hid (by
  unfold ZEnd
  rw [V0.out, V1.out, V2.out, V3.out, V4.out, V5.out, V6.out, V7.out])
 have HBE : Hid (¬ (v0 = 101010256 ∧ v1 = 0 ∧ v2 = 0 ∧ v3 = v4 ∧ v6 + v5 = (en : Int) ∧ v7 = 0) → zpieces xs = (81, [])) := Lib.hid (fun h => by rw [HZ1.out, if_pos (fun hh => h (HZE.out.1 hh))])
 have hb3 := zget2_bd HZ.out.byte (p := en + 4 + 2 + 2) (by rw [HX.out]; omega)
 have hb5 := zget4_bd HZ.out.byte (p := en + 4 + 2 + 2 + 2 + 2) (by rw [HX.out]; omega)
 have hb6 := zget4_bd HZ.out.byte (p := en + 4 + 2 + 2 + 2 + 2 + 4) (by rw [HX.out]; omega)
 have hb3' : 0 ≤ v3 ∧ v3 < 65536 := by rw [V3.out]; exact hb3
 have hb5' : 0 ≤ v5 ∧ v5 < 4294967296 := by rw [V5.out]; exact hb5
 have hb6' : 0 ≤ v6 ∧ v6 < 4294967296 := by rw [V6.out]; exact hb6
 clear hb3 hb5 hb6
 have sS : IntKind.i64.wrap (v6 + v5) = v6 + v5 := IntWalk.i64_in _ (by omega)
 have P11 : Hid (OE w11 O E) := Lib.hid (P2.out.keeps K11.out (by simp) (by simp))
 have B11 : Hid (Below w.heap.size w w11) := Lib.hid (B2.out.trans (keeps_below K11.out B2.out.size (by simp)))
 have HV3 := Lib.hid hb3'
 have HV6 := Lib.hid hb6'
 clear hb3' hb5' hb6'
 by_cases c0 : v0 = 101010256
 case neg =>
  have b0 : (v0 == 101010256) = false := by simpa using c0
  have HP := Lib.hid (HBE.out (fun h => c0 h.1))
  clear c0
  go_wp2_with fail
  refine (must_no _ 81).mono ?_
  rintro _ _ ⟨rfl, rfl⟩
  exact pieces_dies rfl rfl P11.out hne (BADP.out 81 HP.out (by decide) _ B11.out)
 have b0 : (v0 == 101010256) = true := by simpa using c0
 by_cases c1 : v1 = 0
 case neg =>
  have b1 : (v1 == 0) = false := by simpa using c1
  have HP := Lib.hid (HBE.out (fun h => c1 h.2.1))
  clear c0 c1
  go_wp2_with fail
  refine (must_no _ 81).mono ?_
  rintro _ _ ⟨rfl, rfl⟩
  exact pieces_dies rfl rfl P11.out hne (BADP.out 81 HP.out (by decide) _ B11.out)
 have b1 : (v1 == 0) = true := by simpa using c1
 by_cases c2 : v2 = 0
 case neg =>
  have b2 : (v2 == 0) = false := by simpa using c2
  have HP := Lib.hid (HBE.out (fun h => c2 h.2.2.1))
  clear c0 c1 c2
  go_wp2_with fail
  refine (must_no _ 81).mono ?_
  rintro _ _ ⟨rfl, rfl⟩
  exact pieces_dies rfl rfl P11.out hne (BADP.out 81 HP.out (by decide) _ B11.out)
 have b2 : (v2 == 0) = true := by simpa using c2
 by_cases c3 : v3 = v4
 case neg =>
  have b3 : (v3 == v4) = false := by simpa using c3
  have HP := Lib.hid (HBE.out (fun h => c3 h.2.2.2.1))
  clear c0 c1 c2 c3
  go_wp2_with fail
  refine (must_no _ 81).mono ?_
  rintro _ _ ⟨rfl, rfl⟩
  exact pieces_dies rfl rfl P11.out hne (BADP.out 81 HP.out (by decide) _ B11.out)
 have b3 : (v3 == v4) = true := by simpa using c3
 by_cases c4 : v6 + v5 = (en : Int)
 case neg =>
  have b4 : (v6 + v5 == (en : Int)) = false := by simpa using c4
  have HP := Lib.hid (HBE.out (fun h => c4 h.2.2.2.2.1))
  clear c0 c1 c2 c3 c4
  go_wp2_with fail
  refine (must_no _ 81).mono ?_
  rintro _ _ ⟨rfl, rfl⟩
  exact pieces_dies rfl rfl P11.out hne (BADP.out 81 HP.out (by decide) _ B11.out)
 have b4 : (v6 + v5 == (en : Int)) = true := by simpa using c4
 by_cases c5 : v7 = 0
 case neg =>
  have b5 : (v7 == 0) = false := by simpa using c5
  have HP := Lib.hid (HBE.out (fun h => c5 h.2.2.2.2.2))
  clear c0 c1 c2 c3 c4 c5
  go_wp2_with fail
  refine (must_no _ 81).mono ?_
  rintro _ _ ⟨rfl, rfl⟩
  exact pieces_dies rfl rfl P11.out hne (BADP.out 81 HP.out (by decide) _ B11.out)
 have b5 : (v7 == 0) = true := by simpa using c5
 have HEND : Hid (ZEnd xs en) := Lib.hid (HZE.out.2 ⟨c0, c1, c2, c3, c4, c5⟩)
 have H4 := Lib.hid c4
 clear c0 c1 c2 c3 c4 c5 HBE HZE
 go_wp2_with fail
 refine (must_ok _ 81).mono ?_
 rintro _ wz ⟨rfl, hwz⟩
 obtain rfl : w11 = wz := hwz.symm
 clear hwz b0 b1 b2 b3 b4 b5 sS
 obtain ⟨N, hN⟩ : ∃ z : Nat, (z : Int) = v3 := ⟨v3.toNat, Int.toNat_of_nonneg HV3.out.1⟩
 obtain ⟨fs, hfs⟩ : ∃ z : Nat, (z : Int) = v6 := ⟨v6.toNat, Int.toNat_of_nonneg HV6.out.1⟩
 rw [← hN, ← hfs]
 have HNM : Hid (zmany xs = N) := Lib.hid (by
  unfold zmany
  rw [HX.out, ← HEN.out, show en + 8 = en + 4 + 2 + 2 from rfl, ← V3.out, ← hN]
  exact Int.toNat_natCast _)
 have HFS : Hid (zfirst xs = fs) := Lib.hid (by
  unfold zfirst
  rw [HX.out, ← HEN.out, show en + 16 = en + 4 + 2 + 2 + 2 + 2 + 4 from rfl, ← V6.out, ← hfs]
  exact Int.toNat_natCast _)
 have hfe : fs ≤ en := by
  have h1 := H4.out
  have h2 := (zget4_bd HZ.out.byte (p := en + 4 + 2 + 2 + 2 + 2) (by rw [HX.out]; omega)).1
  rw [← V5.out] at h2
  omega
 have HZ2 : Hid (zpieces xs = if 64 < N then (86, []) else zloop xs fs en N fs 0 []) := Lib.hid (by rw [HZ1.out, if_neg (fun h => h HEND.out), HNM.out, HFS.out])
 clear hN hfs HV3 HV6 HZ1 H4
 by_cases q64 : N ≤ 64
 case neg =>
  have HP : Hid (zpieces xs = (86, [])) := Lib.hid (by rw [HZ2.out, if_pos (by omega)])
  have t1 : decide ((N : Int) ≤ 64) = false := decide_eq_false (by omega)
  have t1' : decide (N ≤ 64) = false := decide_eq_false q64
  clear q64
  go_wp2_with fail
  refine (must_no _ 86).mono ?_
  rintro _ _ ⟨rfl, rfl⟩
  exact pieces_dies rfl rfl P11.out hne (BADP.out 86 HP.out (by decide) _ B11.out)
 have t1 : decide ((N : Int) ≤ 64) = true := decide_eq_true (by omega)
 have t1' : decide (N ≤ 64) = true := decide_eq_true q64
 have HZ3 : Hid (zpieces xs = zloop xs fs en N fs 0 []) := Lib.hid (by rw [HZ2.out, if_neg (by omega)])
 have hmm := @run_makeMap Tryz.prog
 clear HZ2
 go_wp2_with fail
 refine (must_ok _ 86).mono ?_
 rintro _ wz ⟨rfl, hwz⟩
 obtain rfl : w11 = wz := hwz.symm
 clear hwz t1 t1'
 go_wp2_with fail
 obtain ⟨B, hB⟩ : ∃ z, z = w11.heap.size := ⟨_, rfl⟩
 obtain ⟨G, hG⟩ : ∃ z, z = B + 1 := ⟨_, rfl⟩
 obtain ⟨w12, hw12⟩ : ∃ z, z = (w11.alloc (.map #[] 0)).alloc (.cells #[.slice A n c, .int .i64 fs, .int .i64 en, .slice A n c, .int .i64 fs, .int .i64 0, .map (some w11.heap.size)] 122) := ⟨_, rfl⟩
 have k12 : Keeps [] w11 w12 := by rw [hw12]; exact ((Keeps.refl [] _).alloc _).alloc _
 have G12 : Blk w12 G 122 [.slice A n c, .int .i64 fs, .int .i64 en, .slice A n c, .int .i64 fs, .int .i64 0, .map (some B)] := by
  have := blk_new (w11.alloc (.map #[] 0)) 122 [.slice A n c, .int .i64 fs, .int .i64 en, .slice A n c, .int .i64 fs, .int .i64 0, .map (some w11.heap.size)]
  rw [World.size_alloc, ← hB, ← hG] at this
  rw [hw12, ← hB]; exact this
 have M12 : Hid (SetM w12 B []) := Lib.hid (by rw [hw12, hB]; exact (set_made w11).keeps (S := []) ((Keeps.refl [] _).alloc _) (by simp))
 have R12 : Hid (RDR w12 G A n c fs en 0 B) := Lib.hid ⟨G12.cell 0, G12.cell 1, G12.cell 2, G12.cell 5, G12.cell 6, G12.frozen 5⟩
 have hEw : E < w2.heap.size := E2.out.lt
 have hw11 : w2.heap.size ≤ w11.heap.size := K11.out.size
 have hAold : ∀ a, A = some a → a.block < w.heap.size := HZ.out.old
 have hw0 : w.heap.size ≤ w2.heap.size := B2.out.size
 have F12 : Hid (FD w12 G 3 A n c fs) := Lib.hid ⟨G12.cell 3, G12.cell 4, G12.frozen 4, fun a ha he => by have h1 := hAold a ha; omega⟩
 have O12 : Hid (Blk w12 O 73 [.slice none 0 0]) := Lib.hid (O2.out.keeps (K11.out.trans k12) (by simp))
 have E12 : Hid (Blk w12 E 27 [.int .i64 0]) := Lib.hid (E2.out.keeps (K11.out.trans k12) (by simp))
 have B12 : Hid (Below w.heap.size w w12) := Lib.hid (B11.out.trans (keeps_below k12 B11.out.size (by simp)))
 have hGw : G < w12.heap.size := G12.lt
 have hEB : E < B := by omega
 have hOE2 : O < E := by have := HEE.out; omega
 have hwO : w.heap.size ≤ O := by have := HOO.out; omega
 have hAB : ∀ a, A = some a → a.block < O := fun a ha => by have := hAold a ha; omega
 have HAB := Lib.hid hAB
 have hGB : B < G := by omega
 rw [← hw12, ← hB, ← hG]
 clear hw12 k12 G12 hB hG hEw hw11 hAold hw0 hAB O2 E2 P2 P11 B11 K11 Z2 F11 hmm
 go_loopw [78] (fun iv wr => ∃ (i rp at_ : Nat) (acc : List ZP) (AO : Option Addr) (cO : Nat), i ≤ N ∧ iv = .int .i64 i ∧ rp ≤ en ∧ at_ ≤ fs ∧ acc.length = i ∧ Hid (zpieces xs = zloop xs fs en (N - i) rp at_ acc) ∧ Hid (RDR wr G A n c fs en at_ B) ∧ Hid (FD wr G 3 A n c rp) ∧ Hid (SetM wr B (znames acc)) ∧ Hid (Blk wr O 73 [.slice AO i cO]) ∧
  Hid (wr.ownsRow (G + 1) 77 6 (.slice AO i cO) i (acc.flatMap (pcz A c))) ∧ Hid (Blk wr E 27 [.int .i64 0]) ∧ Hid (Below w.heap.size w wr) ∧ G < wr.heap.size) (fun iv _ => N - (intOf iv).toNat)
 case atStart => exact ⟨0, fs, 0, [], none, 0, by omega, rfl, by omega, by omega, rfl, HZ3, R12, F12, M12, O12, Lib.hid (World.ownsRow_nil _ _ _ _), E12, B12, hGw⟩
 case round =>
  clear HZ3 R12 F12 M12 O12 E12 B12 hGw
  obtain ⟨i, rp, at_, acc, AO, cO, hi, rfl, hrp, hat, hal, HZL, HR, HF, HM, HO, HOW, HE, HB, hGw⟩ := hrel
  have POE : Hid (OE wr O E) := Lib.hid ⟨⟨_, HO.out.cell 0⟩, ⟨_, HE.out.cell 0⟩, HO.out.frozen 0, HE.out.frozen 0⟩
  have hkn : (znames acc).length ≤ 100000 := by unfold znames; rw [List.length_map]; omega
  by_cases hlt : i < N
  ·have e0 : decide (i < N) = true := decide_eq_true hlt
   have HZS : Hid (zpieces xs = if zwrong xs fs en rp at_ (znames acc) = 0 then zloop xs fs en (N - (i + 1)) (rp + 46 + zlong xs rp) (at_ + 30 + zlong xs rp + (zrecI xs rp).packed.toNat) (acc ++ [zpiece1 xs rp at_]) else (zwrong xs fs en rp at_ (znames acc), [])) := Lib.hid (by
    rw [HZL.out, show N - i = (N - (i + 1)) + 1 by omega, zloop])
   have NC : Hid (∀ w', Keeps [] wr w' → Calls Tryz.prog 76 #[.pointer (some ⟨G, 0, none⟩)] w' (NextP w' G A n c xs fs en rp at_ B (znames acc))) := Lib.hid (fun w' hk =>
    znext_calls w' G A n c xs fs en rp at_ B (znames acc) (HR.out.keeps hk (by simp)) (HF.out.keeps hk (by simp)) ((HZ.out.keeps (Keeps.of_below HB.out (S := [])) (off_nil _)).keeps hk (off_nil _)) (HM.out.keeps hk (by simp)) (by omega) (fun a ha => by have := HAB.out a ha; omega) hfe (by omega) hrp hat hkn)
   have o0 := HO.out.cell 0
   have of := HO.out.frozen 0
   simp only [List.getElem?_cons_zero] at o0
   clear HZL
   go_upto_region 12 with (fail)
   by_cases hz0 : zwrong xs fs en rp at_ (znames acc) = 0
   ·obtain ⟨z1, z2, z3, z4, z5, z6, z7, z8⟩ := zwrong_zero hz0
    have hrl : rp + 46 + zlong xs rp ≤ en := z1.2.2.2.2.2.2
    have hpk : 0 ≤ (zrecI xs rp).packed := (zget4_bd HZ.out.byte (p := rp + 6 + 14) (by rw [HX.out]; omega)).1
    have hat2 : at_ + 30 + zlong xs rp + (zrecI xs rp).packed.toNat ≤ fs := by omega
    have HZT : Hid (zpieces xs = zloop xs fs en (N - (i + 1)) (rp + 46 + zlong xs rp) (at_ + 30 + zlong xs rp + (zrecI xs rp).packed.toNat) (acc ++ [zpiece1 xs rp at_])) := Lib.hid (by rw [HZS.out, if_pos hz0])
    have hzn : znames (acc ++ [zpiece1 xs rp at_]) = znames acc ++ [zname xs rp] := by unfold znames; rw [List.map_append]; rfl
    obtain ⟨nm, hnm⟩ : ∃ z, z = zname xs rp := ⟨_, rfl⟩
    obtain ⟨a1, ha1⟩ : ∃ z, z = (zrecI xs rp).size := ⟨_, rfl⟩
    obtain ⟨a2, ha2⟩ : ∃ z, z = (zrecI xs rp).packed := ⟨_, rfl⟩
    obtain ⟨a3, ha3⟩ : ∃ z, z = (zrecI xs rp).sum := ⟨_, rfl⟩
    obtain ⟨a4, ha4⟩ : ∃ z, z = (zrecI xs rp).way := ⟨_, rfl⟩
    obtain ⟨CA, hCA⟩ : ∃ z, z = cutA A (at_ + 30 + zlong xs rp) c := ⟨_, rfl⟩
    obtain ⟨cn, hcn⟩ : ∃ z, z = c - (at_ + 30 + zlong xs rp) := ⟨_, rfl⟩
    obtain ⟨ln, hln⟩ : ∃ z, z = (zrecI xs rp).packed.toNat := ⟨_, rfl⟩
    have HPC : Hid (pcz A c (zpiece1 xs rp at_) = [.string nm, .int .i64 a1, .int .i64 a2, .int .u32 a3, .int .i64 a4, .slice CA ln cn]) := Lib.hid (by
     rw [hnm, ha1, ha2, ha3, ha4, hCA, hcn, hln]; rfl)
    have HOK : Hid (∀ w', Keeps [] wr w' → Calls Tryz.prog 76 #[.pointer (some ⟨G, 0, none⟩)] w' fun r w2 => r = .returned (.agg #[.string nm, .int .i64 a1, .int .i64 a2, .int .u32 a3, .int .i64 a4, .slice CA ln cn]) ∧ Keeps [G, B] wr w2 ∧
      Hid (RDR w2 G A n c fs en (at_ + 30 + zlong xs rp + (zrecI xs rp).packed.toNat) B) ∧ Hid (FD w2 G 3 A n c (rp + 46 + zlong xs rp)) ∧ Hid (SetM w2 B (znames (acc ++ [zpiece1 xs rp at_])))) := Lib.hid (fun w' hk => by
     refine (NC.out w' hk).mono ?_
     rintro r w2 ⟨hk2, ⟨h0, -⟩ | ⟨-, rfl, h1, h2, h3⟩⟩
     ·exact absurd hz0 h0
     ·rw [hzn, hnm, ha1, ha2, ha3, ha4, hCA, hcn, hln]
      exact ⟨rfl, (hk.mono (by simp)).trans hk2, Lib.hid h1, Lib.hid h2, Lib.hid h3⟩)
    obtain ⟨p, hp⟩ : ∃ z, z = zpiece1 xs rp at_ := ⟨_, rfl⟩
    obtain ⟨at2, hat⟩ : ∃ z, z = at_ + 30 + zlong xs rp + (zrecI xs rp).packed.toNat := ⟨_, rfl⟩
    obtain ⟨rp2, hrp2⟩ : ∃ z, z = rp + 46 + zlong xs rp := ⟨_, rfl⟩
    rw [← hp] at HPC HOK HZT
    rw [← hat] at HOK HZT hat2
    rw [← hrp2] at HOK HZT hrl
    clear z1 z2 z3 z4 z5 z6 z7 z8 hz0 HZS hzn hnm ha1 ha2 ha3 ha4 hCA hcn hln hp hat hrp2 NC hpk
    have hO1 : O ≠ G := by omega
    have REL : Hid (∀ w2 w3 g3 c3, Keeps [G, B] wr w2 → Hid (RDR w2 G A n c fs en at2 B) → Hid (FD w2 G 3 A n c rp2) → Hid (SetM w2 B (znames (acc ++ [p]))) → Keeps (Value.slice AO i cO).ownBlock.toList w2 w3 → w3.ownsRow (G + 1) 77 6 (.slice (some ⟨g3, 0, none⟩) (i + 1) c3) (i + 1) ((acc ++ [p]).flatMap (pcz A c)) →
      Hid (RDR (w3.setCell ⟨O, 0, none⟩ (.slice (some ⟨g3, 0, none⟩) (i + 1) c3)) G A n c fs en at2 B) ∧ Hid (FD (w3.setCell ⟨O, 0, none⟩ (.slice (some ⟨g3, 0, none⟩) (i + 1) c3)) G 3 A n c rp2) ∧ Hid (SetM (w3.setCell ⟨O, 0, none⟩ (.slice (some ⟨g3, 0, none⟩) (i + 1) c3)) B (znames (acc ++ [p]))) ∧ Hid (Blk (w3.setCell ⟨O, 0, none⟩ (.slice (some ⟨g3, 0, none⟩) (i + 1) c3)) O 73 [.slice (some ⟨g3, 0, none⟩) (i + 1) c3]) ∧
      Hid ((w3.setCell ⟨O, 0, none⟩ (.slice (some ⟨g3, 0, none⟩) (i + 1) c3)).ownsRow (G + 1) 77 6 (.slice (some ⟨g3, 0, none⟩) (i + 1) c3) (i + 1) ((acc ++ [p]).flatMap (pcz A c))) ∧ Hid (Blk (w3.setCell ⟨O, 0, none⟩ (.slice (some ⟨g3, 0, none⟩) (i + 1) c3)) E 27 [.int .i64 0]) ∧ Hid (Below w.heap.size w (w3.setCell ⟨O, 0, none⟩ (.slice (some ⟨g3, 0, none⟩) (i + 1) c3))) ∧ G < (w3.setCell ⟨O, 0, none⟩ (.slice (some ⟨g3, 0, none⟩) (i + 1) c3)).heap.size) := Lib.hid (fun w2 w3 g3 c3 hk2 hR2 hF2 hM2 k3 ho3 => by
     have hlo : ∀ x ∈ (Value.slice AO i cO).ownBlock.toList, G + 1 ≤ x := fun x hx => own_lo HOW.out x (Option.mem_toList.1 hx)
     have kO : Keeps [O] w3 (w3.setCell ⟨O, 0, none⟩ (.slice (some ⟨g3, 0, none⟩) (i + 1) c3)) := (Keeps.refl [O] w3).setCell (p := ⟨O, 0, none⟩) (.inl (by simp)) _
     refine ⟨Lib.hid ((hR2.out.keeps k3 (fun hm => by have := hlo G hm; omega)).keeps kO (by simp; omega)), Lib.hid ((hF2.out.keeps k3 (fun hm => by have := hlo G hm; omega)).keeps kO (by simp; omega)), Lib.hid ((hM2.out.keeps k3 (fun hm => by have := hlo B hm; omega)).keeps kO (by simp; omega)),
      Lib.hid (((HO.out.keeps hk2 (by simp; omega)).keeps k3 (fun hm => by have := hlo O hm; omega)).set 0 _), Lib.hid (own_keeps ho3 kO (fun g hg hm => by have := own_lo ho3 g hg; simp at hm; omega)), Lib.hid (((HE.out.keeps hk2 (by simp; omega)).keeps k3 (fun hm => by have := hlo E hm; omega)).keeps kO (by simp; omega)), Lib.hid ?_, ?_⟩
     ·have b2 := HB.out.trans (keeps_below hk2 HB.out.size (fun x hx => by simp at hx; omega))
      have b3 := b2.trans (keeps_below k3 b2.size (fun x hx => by have := hlo x hx; omega))
      exact b3.trans (keeps_below kO b3.size (fun x hx => by simp at hx; omega))
     ·have h1 := hk2.size; have h2 := k3.size; have h3 := kO.size; omega)
    go_region_held3 (fun _ => True)
     (first | exact trivial | go_keep)
     (first
      | (go_at_call 76; refine (HOK.out _ (by repeat (first | exact Keeps.refl _ _ | apply Keeps.drewN | apply Keeps.drew))).mono ?_; rintro _ w2 ⟨rfl, hk2, HR2, HF2, HM2⟩; have q1 := hk2.cell (p := ⟨O, 0, none⟩) (by simp; omega) o0; have q2 := (hk2.frozen (p := ⟨O, 0, none⟩) HO.out.lt (by simp; omega)).trans of; have q6 : ∀ o, (w2.alloc o).cell? ⟨O, 0, none⟩ = some (.slice AO i cO) := fun o => ((Keeps.refl [] w2).alloc o).cell (p := ⟨O, 0, none⟩) (by simp) q1)
      | (refine step_rw wt_piece (pcz_len A c) (pcz_one A c) rfl (.tmp 80) (.tmp 83) rfl (G + 1) _ i acc rfl (own_keeps HOW.out (hk2.alloc _) (fun g hg hm => by have := own_lo HOW.out g hg; simp at hm; omega)) w2.heap.size p rfl (fun j hj => by rw [HPC.out]; exact (blk_new w2 77 [.string nm, .int .i64 a1, .int .i64 a2, .int .u32 a3, .int .i64 a4, .slice CA ln cn]).cell j) (by omega) (by have := hk2.size; simp; omega) ?_; intro g3 c3 w3 ho3 hg3; have k3 : Keeps (Value.slice AO i cO).ownBlock.toList w2 w3 := ⟨hg3.os, hg3.tape, hg3.output, Nat.le_trans (by simp) hg3.size, fun k hk hm => (hg3.block k (by simp; omega) (fun e => hm (Option.mem_toList.2 e.symm))).trans (Below.heap_alloc _ _ _ hk)⟩; have hlo : ∀ x ∈ (Value.slice AO i cO).ownBlock.toList, G + 1 ≤ x := fun x hx => own_lo HOW.out x (Option.mem_toList.1 hx); have q3 := k3.cell (p := ⟨O, 0, none⟩) (fun hm => by have := hlo O hm; omega) q1; have q4 := (k3.frozen (p := ⟨O, 0, none⟩) (World.block_lt_of_cell? _ _ q1) (fun hm => by have := hlo O hm; omega)).trans q2))
    all_goals (
     obtain ⟨RL1, RL2, RL3, RL4, RL5, RL6, RL7, RL8⟩ := REL.out w2 w3 g3 c3 hk2 HR2 HF2 HM2 k3 ho3
     clear REL HOK HR HF HM HO HOW HE HB POE
     go_wp2_with fail
     go_roundw
     case rel => exact ⟨i + 1, rp2, at2, acc ++ [p], some ⟨g3, 0, none⟩, c3, by omega, by go_num, hrl, hat2, by rw [List.length_append, hal]; rfl, HZT, RL1, RL2, RL3, RL4, RL5, RL6, RL7, RL8⟩
     case measure => simp [intOf]; omega)
   ·have HP : Hid (zpieces xs = (zwrong xs fs en rp at_ (znames acc), [])) := Lib.hid (by rw [HZS.out, if_neg hz0])
    have HZN := Lib.hid hz0
    clear hz0 HZS
    refine wp_region_any (by kernel_rfl) ?_
    change wpAny _ _ _ _ _ _ _ (World.drew _)
    refine wpAny_ready (rs := [0, 1]) (by kernel_rfl) (by simp) ?_
    refine AllReady.cons rfl (fun K hK => ?_) ?_
    ·go_simp
     refine hK _ _ ?_
     clear hK K
     refine wpAny_ready (rs := [1]) (by kernel_rfl) (by simp) ?_
     refine AllReady.cons rfl (fun K hK => ?_) ?_
     ·go_simp
      refine hK _ _ ?_
      clear hK K
      refine wpAny_ready (rs := [2]) (by kernel_rfl) (by simp) ?_
      refine AllReady.cons rfl (fun K hK => ?_) ?_
      ·go_simp
       refine (NC.out _ (by repeat (first | exact Keeps.refl _ _ | apply Keeps.drew | apply Keeps.drewN))).mono ?_
       rintro r wp ⟨hk, hor⟩
       rcases hor with ⟨h0, rfl⟩ | ⟨h0, -⟩
       rotate_left
       ·exact absurd h0 HZN.out
       exact pieces_dies rfl rfl ((POE.out.keeps (S := []) ((Keeps.refl [] wr).drew) (by simp) (by simp)).keeps hk (by simp; omega) (by simp; omega)) hne (BADP.out _ HP.out HZN.out _ (HB.out.trans (keeps_below (((Keeps.refl [G, B] wr).drew).trans hk) HB.out.size (fun x hx => by simp at hx; omega))))
      exact AllReady.nil
     exact AllReady.nil
    refine AllReady.cons rfl (fun K hK => ?_) ?_
    ·go_simp
     refine hK _ _ ?_
     clear hK K
     refine wpAny_ready (rs := [0, 2]) (by kernel_rfl) (by simp) ?_
     refine AllReady.cons rfl (fun K hK => ?_) ?_
     ·go_simp
      refine hK _ _ ?_
      clear hK K
      refine wpAny_ready (rs := [2]) (by kernel_rfl) (by simp) ?_
      refine AllReady.cons rfl (fun K hK => ?_) ?_
      ·go_simp
       refine (NC.out _ (by repeat (first | exact Keeps.refl _ _ | apply Keeps.drew | apply Keeps.drewN))).mono ?_
       rintro r wp ⟨hk, hor⟩
       rcases hor with ⟨h0, rfl⟩ | ⟨h0, -⟩
       rotate_left
       ·exact absurd h0 HZN.out
       exact pieces_dies rfl rfl ((POE.out.keeps (S := []) ((Keeps.refl [] wr).drew) (by simp) (by simp)).keeps hk (by simp; omega) (by simp; omega)) hne (BADP.out _ HP.out HZN.out _ (HB.out.trans (keeps_below (((Keeps.refl [G, B] wr).drew).trans hk) HB.out.size (fun x hx => by simp at hx; omega))))
      exact AllReady.nil
     refine AllReady.cons rfl (fun K hK => ?_) ?_
     ·go_simp
      refine (NC.out _ (by repeat (first | exact Keeps.refl _ _ | apply Keeps.drew | apply Keeps.drewN))).mono ?_
      rintro r wp ⟨hk, hor⟩
      rcases hor with ⟨h0, rfl⟩ | ⟨h0, -⟩
      rotate_left
      ·exact absurd h0 HZN.out
      exact pieces_dies rfl rfl ((POE.out.keeps (S := []) ((Keeps.refl [] wr).drew) (by simp) (by simp)).keeps hk (by simp; omega) (by simp; omega)) hne (BADP.out _ HP.out HZN.out _ (HB.out.trans (keeps_below (((Keeps.refl [G, B] wr).drew).trans hk) HB.out.size (fun x hx => by simp at hx; omega))))
     exact AllReady.nil
    exact AllReady.nil
  ·have hiN : i = N := by omega
   have e0 : decide (i < N) = false := decide_eq_false hlt
   have HZF : Hid (zpieces xs = if rp = en ∧ at_ = fs then (0, acc) else (81, [])) := Lib.hid (by rw [HZL.out, hiN, Nat.sub_self, zloop])
   have r4 := HF.out.c1
   have r5 := HR.out.c5
   have o0 := HO.out.cell 0
   have of := HO.out.frozen 0
   have ee := HE.out.cell 0
   have ef := HE.out.frozen 0
   simp only [List.getElem?_cons_zero] at o0 ee
   clear hiN HZL
   by_cases y1 : rp = en
   case neg =>
    have b1 : ((rp : Int) == (en : Int)) = false := by simp; omega
    have HP : Hid (zpieces xs = (81, [])) := Lib.hid (by rw [HZF.out, if_neg (fun h => y1 h.1)])
    clear y1
    go_wp2_with fail
    refine (must_no _ 81).mono ?_
    rintro _ _ ⟨rfl, rfl⟩
    exact pieces_dies rfl rfl POE.out hne (BADP.out 81 HP.out (by decide) _ HB.out)
   have b1 : ((rp : Int) == (en : Int)) = true := by simp; omega
   by_cases y2 : at_ = fs
   case neg =>
    have b2 : ((at_ : Int) == (fs : Int)) = false := by simp; omega
    have HP : Hid (zpieces xs = (81, [])) := Lib.hid (by rw [HZF.out, if_neg (fun h => y2 h.2)])
    clear y1 y2
    go_wp2_with fail
    refine (must_no _ 81).mono ?_
    rintro _ _ ⟨rfl, rfl⟩
    exact pieces_dies rfl rfl POE.out hne (BADP.out 81 HP.out (by decide) _ HB.out)
   have b2 : ((at_ : Int) == (fs : Int)) = true := by simp; omega
   have HP : Hid (zpieces xs = (0, acc)) := Lib.hid (by rw [HZF.out, if_pos ⟨y1, y2⟩])
   clear y1 y2 HZF
   go_wp2_with fail
   refine (must_ok _ 81).mono ?_
   rintro _ wz ⟨rfl, hwz⟩
   obtain rfl : wr = wz := hwz.symm
   clear hwz b1 b2
   have kE : ∀ v, (wr.setCell ⟨O, 0, none⟩ v).cell? ⟨E, 0, none⟩ = some (.int .i64 0) := fun v => (World.cell?_setCell_other _ _ _ _ (by simpa using hne)).trans ee
   have fE : ∀ v, (wr.setCell ⟨O, 0, none⟩ v).frozen? ⟨E, 0, none⟩ = false := fun v => (World.frozen?_setCell _ _ _ _).trans ef
   go_wp2_with fail
   have kk : Keeps [O, E] wr ((wr.setCell ⟨O, 0, none⟩ (.slice AO i cO)).setCell ⟨E, 0, none⟩ (.int .i64 0)) := ((Keeps.refl [O, E] wr).setCell (p := ⟨O, 0, none⟩) (.inl (by simp)) _).setCell (p := ⟨E, 0, none⟩) (.inl (by simp)) _
   refine pieces_lives rfl rfl (v := .slice AO i cO) (u := .int .i64 0) ((World.cell?_setCell_other _ _ _ _ (by simpa using hne.symm)).trans (World.cell?_setCell_same _ _ _ o0)) (World.cell?_setCell_same _ _ _ (kE _)) ?_
   refine ⟨.slice AO i cO, by rw [HP.out], fun h => absurd (by rw [HP.out]) h, fun _ => ?_, HB.out.trans (keeps_below kk HB.out.size (fun x hx => by simp at hx; omega))⟩
   rw [HP.out]
   dsimp only
   rw [hal]
   exact own_keeps (zown_lower HOW.out (by omega)) kk (fun g hg hm => by have := own_lo HOW.out g hg; simp at hm; omega)
end Go.Proofs.YtghjlpechjggjaaGreatDoor
namespace Go.Proofs.YtghjlpechjggjaaGreatDoor
theorem stepsF_len (codes bs : List Int) (N : Int) (hN : 0 ≤ N) : ∀ f l q, (l.length : Int) ≤ N → ((stepsF codes bs N f l q).1.length : Int) ≤ N
 | 0, l, q, h => h
 | f + 1, l, q, h => by
  rw [stepsF]
  split
  ·exact h
  split
  ·simpa using hN
  split
  ·simpa using hN
  split
  ·simpa using hN
  ·next l' haf => exact stepsF_len codes bs N hN f l' _ (addF_grows haf).2.1
theorem stepsF_full (codes bs : List Int) (N : Int) : ∀ f l q, N ≤ ((l.length + f : Nat) : Int) → (stepsF codes bs N f l q).2.2 = 0 → N ≤ (stepsF codes bs N f l q).1.length
 | 0, l, q, hf, h => by simpa [stepsF] using hf
 | f + 1, l, q, hf, h => by
  rw [stepsF] at h ⊢
  split
  ·assumption
  next h1 =>
  rw [if_neg h1] at h
  split
  ·next h2 => rw [if_pos h2] at h; exact absurd h h2
  next h2 =>
  rw [if_neg h2] at h
  split
  ·next h3 => rw [if_pos h3] at h; simp at h
  next h3 =>
  rw [if_neg h3] at h
  split
  ·next ha => rw [ha] at h; simp at h
  ·next l' ha =>
   rw [ha] at h
   have := (addF_grows ha).1
   exact stepsF_full codes bs N f l' _ (by omega) h
theorem head_full {bs : List Int} {p : Nat} (h : (headF bs p).2.2.2 = 0) : (headF bs p).1.length = litF bs p ∧ (headF bs p).2.1.length = distF bs p := by
 unfold headF at h ⊢
 split
 ·next h1 => rw [if_pos h1] at h; simp at h
 next h1 =>
 rw [if_neg h1] at h
 split
 ·next h2 => rw [if_pos h2] at h; simp at h
 next h2 =>
 rw [if_neg h2] at h
 split
 ·next h3 => rw [if_pos h3] at h; simp at h
 next h3 =>
 rw [if_neg h3] at h
 split
 ·next h4 => rw [if_pos h4] at h; exact absurd h h4
 next h4 =>
 rw [if_neg h4] at h
 split
 ·next h5 => rw [if_pos h5] at h; exact absurd h h5
 ·next h5 =>
  have hf := stepsF_full (codesH bs p) bs ((litF bs p + distF bs p : Nat) : Int) (litF bs p + distF bs p) [] (p + 14 + 3 * manyF bs p) (by simp) (by
   have : (readR bs p).2.2 = 0 := by omega
   exact this)
  have hl := stepsF_len (codesH bs p) bs ((litF bs p + distF bs p : Nat) : Int) (Int.natCast_nonneg _) (litF bs p + distF bs p) [] (p + 14 + 3 * manyF bs p) (by simp; omega)
  change _ ≤ ((readR bs p).1.length : Int) at hf
  change ((readR bs p).1.length : Int) ≤ _ at hl
  simp only [List.length_take, List.length_drop]
  omega
theorem litF_le (bs : List Int) (p : Nat) : litF bs p ≤ 288 := by
 have := numB_lt bs p 5
 unfold litF
 have e : (2 : Int) ^ 5 = 32 := rfl
 omega
theorem distF_le (bs : List Int) (p : Nat) : distF bs p ≤ 32 := by
 have := numB_lt bs (p + 5) 5
 unfold distF
 have e : (2 : Int) ^ 5 = 32 := rfl
 omega
theorem codesE_ok {h : List Int × List Int × Nat × Int} (he : codesE h = 0) : h.2.2.2 = 0 ∧ checkF h.1 = 0 ∧ (anyUsed h.2.1 = true → checkF h.2.1 = 0) := by
 have h0 := codesE_zero he
 unfold codesE at he
 rw [if_neg (by rw [h0]; simp)] at he
 split at he
 ·simp at he
 split at he
 ·simp at he
 next h2 =>
 split at he
 ·simp at he
 next h3 =>
 exact ⟨h0, by omega, fun hu => Classical.byContradiction fun hn => h3 ⟨hu, hn⟩⟩
end Go.Proofs.YtghjlpechjggjaaGreatDoor
namespace Go.Proofs.YtghjlpechjggjaaGreatDoor
open Go.RowKit
structure Rdr (w : World) (g : Nat) (A : Option Addr) (c : Nat) (bs : List Int) (p : Nat) : Prop where
 blk : Blk w g 204 [.slice A bs.length c, .int .i64 p]
 ri : RI .u8 w A bs.length bs
 off : Off [g] A
 le : p ≤ 8 * bs.length
 byte : ∀ j, 0 ≤ nth bs j ∧ nth bs j ≤ 255
 size : bs.length ≤ 4000000000
theorem Rdr.lt {w : World} {g : Nat} {A : Option Addr} {c : Nat} {bs : List Int} {p : Nat} (h : Rdr w g A c bs p) : g < w.heap.size := h.blk.lt
theorem Rdr.keeps {S : List Nat} {w w' : World} {g : Nat} {A : Option Addr} {c : Nat} {bs : List Int} {p : Nat} (h : Rdr w g A c bs p) (hk : Keeps S w w') (hg : g ∉ S) (ho : Off S A) : Rdr w' g A c bs p :=
 ⟨h.blk.keeps hk hg, h.ri.keeps hk ho, h.off, h.le, h.byte, h.size⟩
theorem Rdr.dr {w w' : World} {g : Nat} {A : Option Addr} {c : Nat} {bs : List Int} {p : Nat} (h : Rdr w g A c bs p) (hk : Keeps [] w w') : Rdr w' g A c bs p := h.keeps hk (by simp) (off_nil _)
theorem Rdr.move {w : World} {g : Nat} {A : Option Addr} {c : Nat} {bs : List Int} {p : Nat} (h : Rdr w g A c bs p) {q : Nat} (hq : q ≤ 8 * bs.length) : Rdr (w.setCell ⟨g, 1, none⟩ (.int .i64 q)) g A c bs q :=
 ⟨h.blk.set 1 (.int .i64 q), h.ri.keeps ((Keeps.refl [g] w).setCell (Or.inl (by simp)) _) h.off, h.off, hq, h.byte, h.size⟩
theorem left_calls (w : World) (g : Nat) (A : Option Addr) (c : Nat) (bs : List Int) (p : Nat) (hr : Rdr w g A c bs p) :
  Calls Tryz.prog 176 #[.pointer (some ⟨g, 0, none⟩)] w fun e w' => e = .returned (.int .i64 ((8 * bs.length - p : Nat) : Int)) ∧ Dr w w' := by
 have hb := hr.blk
 have h0 := hb.cell 0
 have h1 := hb.cell 1
 simp only [List.getElem?_cons_zero, List.getElem?_cons_succ] at h0 h1
 have hl := hr.le
 have hs := hr.size
 clear hb hr
 go_enter Tryz.func176, Tryz.ntmps176
 go_wp2
 go_quiet (fail)
 go_wp2
 go_ret
 rw [show ((8 * bs.length - p : Nat) : Int) = 8 * (bs.length : Int) - (p : Int) by omega]
 exact ⟨rfl, _, rfl⟩
theorem gone_calls (w : World) (g : Nat) (A : Option Addr) (c : Nat) (bs : List Int) (p : Nat) (hr : Rdr w g A c bs p) :
  Calls Tryz.prog 107 #[.pointer (some ⟨g, 0, none⟩)] w fun e w' => e = .returned (.int .i64 p) ∧ Dr w w' := by
 have hb := hr.blk
 have h1 := hb.cell 1
 simp only [List.getElem?_cons_zero, List.getElem?_cons_succ] at h1
 clear hb hr
 go_enter Tryz.func107, Tryz.ntmps107
 go_wp2
 go_ret
 exact ⟨rfl, 0, rfl⟩
theorem back_calls (w : World) (g : Nat) (A : Option Addr) (c : Nat) (bs : List Int) (p n : Nat) (hr : Rdr w g A c bs p) (hn : n ≤ p) :
  Calls Tryz.prog 178 #[.pointer (some ⟨g, 0, none⟩), .int .i64 n] w fun e w' => e = .returned (.int .i64 0) ∧ Rdr w' g A c bs (p - n) ∧ Keeps [g] w w' := by
 have hb := hr.blk
 have h1 := hb.cell 1
 simp only [List.getElem?_cons_zero, List.getElem?_cons_succ] at h1
 have hf := hb.frozen 1
 have hl := hr.le
 have hs := hr.size
 have HR := Lib.hid hr
 clear hb hr
 have e1 : decide ((n : Int) < 0) = false := by simp
 have e2 : decide ((p : Int) < (n : Int)) = false := by simp; omega
 have e3 : IntKind.i64.wrap ((p : Int) - (n : Int)) = (p : Int) - (n : Int) := IntWalk.i64_in _ (by omega)
 go_enter Tryz.func178, Tryz.ntmps178
 have E : Hid ((p : Int) - (n : Int) = ((p - n : Nat) : Int)) := by show _ = _; omega
 go_wp2
 go_ret
 rw [E.out]
 exact ⟨rfl, HR.out.move (by omega), (Keeps.refl _ _).setCell (Or.inl (by simp)) _⟩
theorem back_calls' (w : World) (g : Nat) (A : Option Addr) (c : Nat) (bs : List Int) (p n : Nat) (ni : Int) (hni : ni = n) (hr : Rdr w g A c bs p) (hn : n ≤ p) :
  Calls Tryz.prog 178 #[.pointer (some ⟨g, 0, none⟩), .int .i64 ni] w fun e w' => e = .returned (.int .i64 0) ∧ Rdr w' g A c bs (p - n) ∧ Keeps [g] w w' := by
 subst hni
 exact back_calls w g A c bs p n hr hn
theorem take_end (w : World) (g : Nat) (A : Option Addr) (c : Nat) (bs : List Int) (p m : Nat) (hr : Rdr w g A c bs p) (hm : m ≤ 32) (hf : 8 * bs.length < p + m) :
  Calls Tryz.prog 160 #[.pointer (some ⟨g, 0, none⟩), .int .i64 m] w fun e w' => e = .returned (.tuple #[.int .u32 0, .int .i64 10]) ∧ Dr w w' := by
 have e1 : decide ((m : Int) < 0) = false := by simp
 have e2 : decide ((32 : Int) < (m : Int)) = false := by simp; omega
 have HR := Lib.hid hr
 have hl := hr.le
 clear hr
 go_enter Tryz.func160, Tryz.ntmps160
 go_wp2_with fail
 refine (left_calls _ _ _ _ _ _ HR.out).mono ?_
 rintro e w' ⟨rfl, q, rfl⟩
 have e3 : decide (8 * bs.length - p < m) = true := by simp; omega
 go_wp2_with fail
 go_ret2
 exact ⟨rfl, _, rfl⟩
theorem take_calls (w : World) (g : Nat) (A : Option Addr) (c : Nat) (bs : List Int) (p m : Nat) (hr : Rdr w g A c bs p) (hm : m ≤ 32) (hf : p + m ≤ 8 * bs.length) :
  Calls Tryz.prog 160 #[.pointer (some ⟨g, 0, none⟩), .int .i64 m] w fun e w' => e = .returned (.tuple #[.int .u32 (numB bs p m), .int .i64 0]) ∧ Rdr w' g A c bs (p + m) ∧ Keeps [g] w w' := by
 have e1 : decide ((m : Int) < 0) = false := by simp
 have e2 : decide ((32 : Int) < (m : Int)) = false := by simp; omega
 have HR := Lib.hid hr
 have hl := hr.le
 have hsz := hr.size
 clear hr
 go_enter Tryz.func160, Tryz.ntmps160
 go_wp2_with fail
 refine (left_calls _ _ _ _ _ _ HR.out).mono ?_
 rintro e w' ⟨rfl, hd⟩
 have HR1 := Lib.hid (HR.out.dr hd.keeps)
 have HD := Lib.hid hd
 have e3 : decide (8 * bs.length - p < m) = false := by simp; omega
 clear hd HR
 go_wp2_with fail
 clear e1 e2 e3
 go_loopw [6, 7] (fun v6 v7 wr => ∃ h : Nat, h ≤ m ∧ v6 = .int .u64 (numB bs p h) ∧ v7 = .int .i64 h ∧ Hid (Rdr wr g A c bs (p + h)) ∧ Hid (Keeps [g] w' wr)) (fun _ v7 _ => (m - intOf v7).toNat)
 case atStart => exact ⟨0, by omega, rfl, rfl, HR1, Lib.hid (Keeps.refl _ _)⟩
 case round =>
  clear HR1
  obtain ⟨h, hh, rfl, rfl, HR, HK⟩ := hrel
  by_cases hlt : h < m
  ·have hb := HR.out.blk
   have hri := HR.out.ri
   have h0 := hb.cell 0
   have h1 := hb.cell 1
   simp only [List.getElem?_cons_zero, List.getElem?_cons_succ] at h0 h1
   have hfz := hb.frozen 1
   obtain ⟨b, o, rfl, hbyte⟩ := hri.at (show (p + h) / 8 < bs.length by omega)
   have hbb := HR.out.byte ((p + h) / 8)
   have hc1 : ((p + h : Nat) : Int) = (p : Int) + (h : Int) := by omega
   rw [hc1] at h1
   clear hb hri hc1
   obtain ⟨k, hk⟩ : ∃ k : Nat, (if 8 - ((p : Int) + h) % 8 < (m : Int) - h then 8 - ((p : Int) + h) % 8 else (m : Int) - h) = (k : Int) := ⟨min (m - h) (8 - (p + h) % 8), by split <;> omega⟩
   have hk1 : 1 ≤ k := by split at hk <;> omega
   have hk8 : (p + h) % 8 + k ≤ 8 := by split at hk <;> omega
   have hkm : h + k ≤ m := by split at hk <;> omega
   have HKK := Lib.hid hk
   have s1 : ((p : Int) + h).toNat = p + h := by omega
   have s2 : (((p : Int) + h) / 8).toNat = (p + h) / 8 := by omega
   have s3 : (0 : Int) ≤ ((p : Int) + h) / 8 := by omega
   have s4 : ((p : Int) + h) / 8 < (bs.length : Int) := by omega
   have s5 : (0 : Int) ≤ ((p : Int) + h) % 8 := by omega
   have s6 : ((p : Int) + h) % 8 < 8 := by omega
   have s7 : (0 : Int) ≤ (p : Int) + h := by omega
   go_upto_region 11 with (fail)
   clear hk
   go_quiet (fail)
   have T := Lib.hid (take_part bs p h k hbb hk8 (by omega))
   go_upto_region 14 with (fail)
   rw [T.out]
   have E : Hid ((p : Int) + h + k = ((p + (h + k) : Nat) : Int)) := by show _ = _; omega
   have e4 : IntKind.i64.wrap ((p : Int) + h + k) = (p : Int) + h + k := IntWalk.i64_in _ (by omega)
   go_wp2_with fail
   go_roundw
   case rel =>
    refine ⟨h + k, hkm, rfl, by go_num, Lib.hid ?_, Lib.hid ?_⟩
    ·rw [E.out]; exact (Rdr.dr HR.out (by repeat (first | exact Keeps.refl _ _ | apply Keeps.drewN | apply Keeps.drew))).move (by omega)
    ·exact (HK.out.trans (by repeat (first | exact Keeps.refl _ _ | apply Keeps.drewN | apply Keeps.drew))).setCell (Or.inl (by simp)) _
   case measure => simp [intOf]; omega
  ·obtain rfl : h = m := by omega
   have E := Lib.hid (num_u32 bs p h hm)
   go_wp2_with fail
   go_ret2
   rw [E.out]
   exact ⟨rfl, HR.out, (HD.out.keeps (S := [g])).trans HK.out⟩
end Go.Proofs.YtghjlpechjggjaaGreatDoor
namespace Go.Proofs.YtghjlpechjggjaaGreatDoor
open Go.RowKit
theorem more_calls (w : World) (g : Nat) (A : Option Addr) (n c : Nat) (bs : List Int) (hb : Blk w g 204 [.slice none 0 0, .int .i64 0]) (hr : RI .u8 w A n bs) (hnil : A = none → n = 0 ∧ c = 0)
  (hbyte : ∀ j, 0 ≤ nth bs j ∧ nth bs j ≤ 255) (hn : n ≤ 4000000000) :
  Calls Tryz.prog 141 #[.pointer (some ⟨g, 0, none⟩), .slice A n c] w fun e w' => ∃ A' c', e = .returned (.int .i64 0) ∧ Rdr w' g A' c' bs 0 ∧ (∀ a, A' = some a → g < a.block ∧ a.block < w'.heap.size) ∧ Below g w w' := by
 have h0 := hb.cell 0
 simp only [List.getElem?_cons_zero] at h0
 have hf := hb.frozen 0
 have hlt := hb.lt
 have HB := Lib.hid hb
 have HR := Lib.hid hr
 have HN := Lib.hid hnil
 have HBY := Lib.hid hbyte
 clear hb hr hnil hbyte
 go_enter Tryz.func141, Tryz.ntmps141
 go_wp2_with (at_builtin; refine app_bytes rfl (.tmp 11) (.tmp 12) rfl (g + 1) _ _ [] rfl (World.ownsRow_nil _ _ _ _) A n c bs rfl HR.out HN.out (by omega) hlt ?_)
 intro v1 w1 h1 hg1
 have hb1 : Blk w1 g 204 [.slice none 0 0, .int .i64 0] := (hg1.block g hlt (by simp [Value.ownBlock])).trans HB.out
 have c0 := hb1.cell 0
 simp only [List.getElem?_cons_zero] at c0
 have f0 := hb1.frozen 0
 obtain ⟨A1, c1, rfl, hri, hcap, hblk⟩ := own_ri h1
 have HB1 := Lib.hid hb1
 have HRI := Lib.hid hri
 have HBK := Lib.hid hblk
 have HG := Lib.hid hg1
 clear hb1 hri hblk hg1 h1
 go_wp2_with fail
 go_ret
 have hl := HR.out.len
 refine ⟨A1, c1, rfl, ⟨?_, ?_, ?_, by simp, HBY.out, by omega⟩, fun a ha => ⟨(HBK.out a ha).1, by have := (HBK.out a ha).2.1; simpa [World.setCell] using this⟩, ?_⟩
 ·rw [hl]; exact HB1.out.set 0 _
 ·rw [hl]
  exact HRI.out.keeps ((Keeps.refl [g] w1).setCell (Or.inl (by simp)) _) (fun a ha => by have := (HBK.out a ha).1; simp; omega)
 ·intro a ha; have := (HBK.out a ha).1; simp; omega
 ·exact ((Below.refl g w).grown HG.out (Nat.le_of_lt hlt) (fun k hk => by simp [Value.ownBlock] at hk)).setCell (p := ⟨g, 0, none⟩) (Nat.le_refl g) _
theorem newReader_calls (w : World) (A : Option Addr) (n c : Nat) (bs : List Int) (hr : RI .u8 w A n bs) (hnil : A = none → n = 0 ∧ c = 0)
  (hbyte : ∀ j, 0 ≤ nth bs j ∧ nth bs j ≤ 255) (hn : n ≤ 4000000000) :
  Calls Tryz.prog 127 #[.slice A n c] w fun e w' => ∃ g A' c', e = .returned (.pointer (some ⟨g, 0, none⟩)) ∧ Rdr w' g A' c' bs 0 ∧ w.heap.size ≤ g ∧ (∀ a, A' = some a → g < a.block ∧ a.block < w'.heap.size) ∧ Below w.heap.size w w' := by
 have HR := Lib.hid hr
 have HN := Lib.hid hnil
 have HBY := Lib.hid hbyte
 clear hr hnil hbyte
 go_enter Tryz.func127, Tryz.ntmps127
 go_wp2_with fail
 refine (more_calls _ _ _ _ _ bs (blk_new w 204 [.slice none 0 0, .int .i64 0]) (HR.out.keeps ((Keeps.refl _ _).alloc _) (off_nil _)) HN.out HBY.out hn).mono ?_
 rintro e w1 ⟨A1, c1, rfl, hrd, hab, hb⟩
 have HRD := Lib.hid hrd
 have HB := Lib.hid hb
 have HAB := Lib.hid hab
 clear hrd hb hab
 go_wp2_with fail
 go_ret
 exact ⟨_, _, _, rfl, HRD.out, Nat.le_refl _, HAB.out, ((Below.refl _ w).alloc (Nat.le_refl _) _).trans HB.out⟩
end Go.Proofs.YtghjlpechjggjaaGreatDoor
namespace Go.Proofs.YtghjlpechjggjaaGreatDoor
open Go.RowKit
structure Box (w : World) (b : Nat) (v : Value) : Prop where
 cell : w.cell? ⟨b, 0, none⟩ = some v
 free : w.frozen? ⟨b, 0, none⟩ = false
theorem Box.lt {w : World} {b : Nat} {v : Value} (h : Box w b v) : b < w.heap.size := World.block_lt_of_cell? _ _ h.cell
theorem Box.keeps {S : List Nat} {w w' : World} {b : Nat} {v : Value} (h : Box w b v) (hk : Keeps S w w') (hn : b ∉ S) : Box w' b v :=
 ⟨hk.cell (p := ⟨b, 0, none⟩) hn h.cell, (hk.frozen (p := ⟨b, 0, none⟩) h.lt hn).trans h.free⟩
theorem Box.set {w : World} {b : Nat} {v : Value} (h : Box w b v) (u : Value) : Box (w.setCell ⟨b, 0, none⟩ u) b u :=
 ⟨World.cell?_setCell_same' _ _ _ (by rw [h.cell]; rfl), by simpa using h.free⟩
structure Hd (w : World) (rb eb g : Nat) (A : Option Addr) (c : Nat) (bs : List Int) (p : Nat) (e : Int) : Prop where
 rd : Rdr w g A c bs p
 bxr : Box w rb (.pointer (some ⟨g, 0, none⟩))
 bxe : Box w eb (.int .i64 e)
 hgr : g < rb
 hre : rb < eb
 ha : ∀ a, A = some a → a.block < rb
theorem Hd.offE {w : World} {rb eb g : Nat} {A : Option Addr} {c : Nat} {bs : List Int} {p : Nat} {e : Int} (h : Hd w rb eb g A c bs p e) : Off [eb] A := by
 intro a ha; have := h.ha a ha; have := h.hre; simp; omega
theorem Hd.take {w w' : World} {rb eb g : Nat} {A : Option Addr} {c : Nat} {bs : List Int} {p q : Nat} {e : Int} (h : Hd w rb eb g A c bs p e) (hr : Rdr w' g A c bs q) (hk : Keeps [g] w w') : Hd w' rb eb g A c bs q e :=
 ⟨hr, h.bxr.keeps hk (by have := h.hgr; simp; omega), h.bxe.keeps hk (by have := h.hgr; have := h.hre; simp; omega), h.hgr, h.hre, h.ha⟩
theorem Hd.keeps {S : List Nat} {w w' : World} {rb eb g : Nat} {A : Option Addr} {c : Nat} {bs : List Int} {p : Nat} {e : Int} (h : Hd w rb eb g A c bs p e) (hk : Keeps S w w') (h1 : g ∉ S) (h2 : rb ∉ S) (h3 : eb ∉ S) (h4 : Off S A) : Hd w' rb eb g A c bs p e :=
 ⟨h.rd.keeps hk h1 h4, h.bxr.keeps hk h2, h.bxe.keeps hk h3, h.hgr, h.hre, h.ha⟩
theorem Hd.set {w : World} {rb eb g : Nat} {A : Option Addr} {c : Nat} {bs : List Int} {p : Nat} {e : Int} (h : Hd w rb eb g A c bs p e) (e' : Int) : Hd (w.setCell ⟨eb, 0, none⟩ (.int .i64 e')) rb eb g A c bs p e' :=
 have hk : Keeps [eb] w (w.setCell ⟨eb, 0, none⟩ (.int .i64 e')) := (Keeps.refl _ _).setCell (Or.inl (by simp)) _
 ⟨h.rd.keeps hk (by have := h.hgr; have := h.hre; simp; omega) h.offE, h.bxr.keeps hk (by have := h.hre; simp; omega), h.bxe.set _, h.hgr, h.hre, h.ha⟩
theorem read1_ok (w : World) (rb eb g : Nat) (A : Option Addr) (c : Nat) (bs : List Int) (p n : Nat) (e : Int) (h : Hd w rb eb g A c bs p e) (hn : n ≤ 32) (hf : p + n ≤ 8 * bs.length) :
  Calls Tryz.prog 183 #[.int .i64 n, .pointer (some ⟨rb, 0, none⟩), .pointer (some ⟨eb, 0, none⟩)] w fun r w' => r = .returned (.int .i64 (numB bs p n)) ∧ Hd w' rb eb g A c bs (p + n) e ∧ Keeps [g, eb] w w' := by
 have c1 := h.bxr.cell
 have H := Lib.hid h
 clear h
 have hb := numB_lt bs p n
 have hb2 := pow32 n hn
 have e1 : IntKind.i64.wrap (numB bs p n) = numB bs p n := IntWalk.i64_in _ (by omega)
 go_enter Tryz.func183, Tryz.ntmps183
 go_wp2_with fail
 refine (take_calls _ _ _ _ _ _ _ H.out.rd hn hf).mono ?_
 rintro r w' ⟨rfl, hr2, hk⟩
 have h2 := H.out.take hr2 hk
 have c2 := h2.bxe.cell
 have f2 := h2.bxe.free
 have H2 := Lib.hid h2
 have HK := Lib.hid hk
 clear hr2 hk c1 h2 H
 by_cases he : e = 0
 ·subst he
  go_wp2_with fail
  go_ret
  exact ⟨rfl, H2.out.set 0, (HK.out.mono (by simp)).setCell (Or.inl (by simp)) _⟩
 ·have e2 : (e == 0) = false := by simpa using he
  go_wp2_with fail
  go_ret
  exact ⟨rfl, H2.out, HK.out.mono (by simp)⟩
theorem read1_end (w : World) (rb eb g : Nat) (A : Option Addr) (c : Nat) (bs : List Int) (p n : Nat) (e : Int) (h : Hd w rb eb g A c bs p e) (hn : n ≤ 32) (hf : 8 * bs.length < p + n) :
  Calls Tryz.prog 183 #[.int .i64 n, .pointer (some ⟨rb, 0, none⟩), .pointer (some ⟨eb, 0, none⟩)] w fun r w' => r = .returned (.int .i64 0) ∧ Hd w' rb eb g A c bs p (if e = 0 then 10 else e) ∧ Keeps [g, eb] w w' := by
 have c1 := h.bxr.cell
 have H := Lib.hid h
 clear h
 go_enter Tryz.func183, Tryz.ntmps183
 go_wp2_with fail
 refine (take_end _ _ _ _ _ _ _ H.out.rd hn hf).mono ?_
 rintro r w' ⟨rfl, hk⟩
 have h2 := H.out.keeps hk.keeps (S := []) (by simp) (by simp) (by simp) (off_nil _)
 have c2 := h2.bxe.cell
 have f2 := h2.bxe.free
 have H2 := Lib.hid h2
 have HK := Lib.hid hk
 clear hk c1 h2 H
 by_cases he : e = 0
 ·subst he
  go_wp2_with fail
  go_ret
  exact ⟨rfl, by first | exact H2.out.set 10 | (rw [if_pos rfl]; exact H2.out.set 10), (HK.out.keeps).setCell (Or.inl (by simp)) _⟩
 ·have e2 : (e == 0) = false := by simpa using he
  go_wp2_with fail
  go_ret
  exact ⟨rfl, by first | exact H2.out | (rw [if_neg he]; exact H2.out), HK.out.keeps⟩
end Go.Proofs.YtghjlpechjggjaaGreatDoor
namespace Go.Proofs.YtghjlpechjggjaaGreatDoor
open Go.RowKit
end Go.Proofs.YtghjlpechjggjaaGreatDoor
namespace Go.Proofs.YtghjlpechjggjaaGreatDoor
open Go.RowKit
def setL (cs : List Value) : Nat → List Value → List Value
 | _, [] => cs
 | o, v :: r => setL (cs.set o v) (o + 1) r
theorem setL_mid : ∀ (vs a old b : List Value), old.length = vs.length → setL (a ++ (old ++ b)) a.length vs = a ++ (vs ++ b)
 | [], a, old, b, h => by
  obtain rfl := List.eq_nil_of_length_eq_zero (by simpa using h)
  rfl
 | v :: r, a, [], b, h => by simp at h
 | v :: r, a, x :: old, b, h => by
  have e : (a ++ (x :: old ++ b)).set a.length v = (a ++ [v]) ++ (old ++ b) := by simp
  rw [setL, e]
  have := setL_mid r (a ++ [v]) old b (by simpa using h)
  rw [show (a ++ [v]).length = a.length + 1 by simp] at this
  rw [this]; simp
theorem Blk.there {w : World} {g : Nat} {t : TypeId} {cs : List Value} (h : Blk w g t cs) (o n : Nat) (ho : o + n ≤ cs.length) : w.there g o n := fun j hj => by
 rw [h.cell]
 refine ⟨?_, h.frozen _⟩
 rw [List.getElem?_eq_getElem (by omega)]; rfl
theorem Blk.setCells {g : Nat} {t : TypeId} : ∀ (vs : List Value) (w : World) (cs : List Value) (o : Nat), Blk w g t cs → Blk (w.setCells g o vs) g t (setL cs o vs)
 | [], w, cs, o, h => h
 | v :: r, w, cs, o, h => by
  rw [World.setCells, setL]
  exact Blk.setCells r _ _ _ (h.set o v)
theorem Keeps.setCells {S : List Nat} {w0 : World} {g : Nat} (hp : g ∈ S ∨ w0.heap.size ≤ g) : ∀ (vs : List Value) (w : World) (o : Nat), Keeps S w0 w → Keeps S w0 (w.setCells g o vs)
 | [], w, o, h => h
 | v :: r, w, o, h => by
  rw [World.setCells]
  exact Keeps.setCells hp r _ _ (h.setCell (p := ⟨g, o, none⟩) hp v)
def dcells (cd ct az : List Int) (v : Value) (L : Int) : List Value := ints .i64 cd ++ (ints .i64 ct ++ (ints .i64 az ++ [v, .int .i64 L]))
def DB (w : World) (g : Nat) (cd ct az : List Int) (v : Value) (L : Int) : Prop := cd.length = 16 ∧ ct.length = 16 ∧ az.length = 16 ∧ Blk w g 247 (dcells cd ct az v L)
theorem DB.lt {w : World} {g : Nat} {cd ct az : List Int} {v : Value} {L : Int} (h : DB w g cd ct az v L) : g < w.heap.size := h.2.2.2.lt
theorem DB.keeps {S : List Nat} {w w' : World} {g : Nat} {cd ct az : List Int} {v : Value} {L : Int} (h : DB w g cd ct az v L) (hk : Keeps S w w') (hn : g ∉ S) : DB w' g cd ct az v L :=
 ⟨h.1, h.2.1, h.2.2.1, h.2.2.2.keeps hk hn⟩
theorem DB.code {w : World} {g : Nat} {cd ct az : List Int} {v : Value} {L : Int} (h : DB w g cd ct az v L) {j : Nat} (hj : j < 16) : w.cell? ⟨g, j, none⟩ = some (.int .i64 (nth cd j)) := by
 obtain ⟨h1, h2, h3, h4⟩ := h
 rw [h4.cell, dcells, List.getElem?_append_left (by simp [ints]; omega), ints_getElem?, nth_lt (by omega), List.getElem?_eq_getElem (by omega)]; rfl
theorem DB.count {w : World} {g : Nat} {cd ct az : List Int} {v : Value} {L : Int} (h : DB w g cd ct az v L) {j : Nat} (hj : j < 16) : w.cell? ⟨g, 16 + j, none⟩ = some (.int .i64 (nth ct j)) := by
 obtain ⟨h1, h2, h3, h4⟩ := h
 have e : (ints .i64 cd).length = 16 := by simp [ints, h1]
 rw [h4.cell, dcells, List.getElem?_append_right (by omega), e, show 16 + j - 16 = j by omega, List.getElem?_append_left (by simp [ints]; omega), ints_getElem?, nth_lt (by omega), List.getElem?_eq_getElem (by omega)]; rfl
theorem DB.at {w : World} {g : Nat} {cd ct az : List Int} {v : Value} {L : Int} (h : DB w g cd ct az v L) {j : Nat} (hj : j < 16) : w.cell? ⟨g, 32 + j, none⟩ = some (.int .i64 (nth az j)) := by
 obtain ⟨h1, h2, h3, h4⟩ := h
 have e : (ints .i64 cd).length = 16 := by simp [ints, h1]
 have e2 : (ints .i64 ct).length = 16 := by simp [ints, h2]
 rw [h4.cell, dcells, List.getElem?_append_right (by omega), e, List.getElem?_append_right (by omega), e2, show 32 + j - 16 - 16 = j by omega, List.getElem?_append_left (by simp [ints]; omega), ints_getElem?, nth_lt (by omega), List.getElem?_eq_getElem (by omega)]; rfl
theorem DB.syms {w : World} {g : Nat} {cd ct az : List Int} {v : Value} {L : Int} (h : DB w g cd ct az v L) : w.cell? ⟨g, 48, none⟩ = some v ∧ w.cell? ⟨g, 49, none⟩ = some (.int .i64 L) := by
 obtain ⟨h1, h2, h3, h4⟩ := h
 have e : (ints .i64 cd).length = 16 := by simp [ints, h1]
 have e2 : (ints .i64 ct).length = 16 := by simp [ints, h2]
 have e3 : (ints .i64 az).length = 16 := by simp [ints, h3]
 constructor
 ·rw [h4.cell, dcells, List.getElem?_append_right (by omega), e, List.getElem?_append_right (by omega), e2, List.getElem?_append_right (by omega), e3]; rfl
 ·rw [h4.cell, dcells, List.getElem?_append_right (by omega), e, List.getElem?_append_right (by omega), e2, List.getElem?_append_right (by omega), e3]; rfl
theorem DB.free {w : World} {g : Nat} {cd ct az : List Int} {v : Value} {L : Int} (h : DB w g cd ct az v L) (j : Nat) : w.frozen? ⟨g, j, none⟩ = false := h.2.2.2.frozen j
theorem DB.setAt {w : World} {g : Nat} {cd ct az : List Int} {v : Value} {L : Int} (h : DB w g cd ct az v L) {j : Nat} (hj : j < 16) (x : Int) : DB (w.setCell ⟨g, 32 + j, none⟩ (.int .i64 x)) g cd ct (az.set j x) v L := by
 obtain ⟨h1, h2, h3, h4⟩ := h
 have e : (ints .i64 cd).length = 16 := by simp [ints, h1]
 have e2 : (ints .i64 ct).length = 16 := by simp [ints, h2]
 have e3 : (ints .i64 az).length = 16 := by simp [ints, h3]
 refine ⟨h1, h2, by simp [h3], ?_⟩
 have := h4.set (32 + j) (.int .i64 x)
 unfold dcells at this ⊢
 rw [List.set_append_right _ _ (by omega), e, List.set_append_right _ _ (by omega), e2, show 32 + j - 16 - 16 = j by omega, List.set_append_left _ _ (by omega)] at this
 simpa [ints, List.map_set] using this
theorem DB.setSyms {w : World} {g : Nat} {cd ct az : List Int} {v : Value} {L : Int} (h : DB w g cd ct az v L) (v' : Value) : DB (w.setCell ⟨g, 48, none⟩ v') g cd ct az v' L := by
 obtain ⟨h1, h2, h3, h4⟩ := h
 have e : (ints .i64 cd).length = 16 := by simp [ints, h1]
 have e2 : (ints .i64 ct).length = 16 := by simp [ints, h2]
 have e3 : (ints .i64 az).length = 16 := by simp [ints, h3]
 refine ⟨h1, h2, h3, ?_⟩
 have := h4.set 48 v'
 unfold dcells at this ⊢
 rw [List.set_append_right _ _ (by omega), e, List.set_append_right _ _ (by omega), e2, List.set_append_right _ _ (by omega), e3] at this
 exact this
theorem DB.setLong {w : World} {g : Nat} {cd ct az : List Int} {v : Value} {L : Int} (h : DB w g cd ct az v L) (x : Int) : DB (w.setCell ⟨g, 49, none⟩ (.int .i64 x)) g cd ct az v x := by
 obtain ⟨h1, h2, h3, h4⟩ := h
 have e : (ints .i64 cd).length = 16 := by simp [ints, h1]
 have e2 : (ints .i64 ct).length = 16 := by simp [ints, h2]
 have e3 : (ints .i64 az).length = 16 := by simp [ints, h3]
 refine ⟨h1, h2, h3, ?_⟩
 have := h4.set 49 (.int .i64 x)
 unfold dcells at this ⊢
 rw [List.set_append_right _ _ (by omega), e, List.set_append_right _ _ (by omega), e2, List.set_append_right _ _ (by omega), e3] at this
 exact this
theorem DB.start {w : World} {g : Nat} {Z : List Value} (hZ : Z = dcells (List.replicate 16 0) (List.replicate 16 0) (List.replicate 16 0) (.slice none 0 0) 0) (h : Blk w g 247 Z) (cd ct : List Int) (h1 : cd.length = 16) (h2 : ct.length = 16) :
  w.there g 0 (ints .i64 cd).toArray.size ∧ (w.setCells g 0 (ints .i64 cd)).there g 16 (ints .i64 ct).toArray.size ∧ DB ((w.setCells g 0 (ints .i64 cd)).setCells g 16 (ints .i64 ct)) g cd ct (List.replicate 16 0) (.slice none 0 0) 0 := by
 subst hZ
 have e : (ints .i64 cd).length = 16 := by simp [ints, h1]
 have e2 : (ints .i64 ct).length = 16 := by simp [ints, h2]
 have a := Blk.setCells (ints .i64 cd) w _ 0 h
 have b := setL_mid (ints .i64 cd) [] (ints .i64 (List.replicate 16 0)) (ints .i64 (List.replicate 16 0) ++ (ints .i64 (List.replicate 16 0) ++ [.slice none 0 0, .int .i64 0])) (by rw [e]; simp [ints])
 rw [show setL (dcells (List.replicate 16 0) (List.replicate 16 0) (List.replicate 16 0) (.slice none 0 0) 0) 0 (ints .i64 cd) = _ from b] at a
 rw [List.nil_append] at a
 have c := Blk.setCells (ints .i64 ct) _ _ 16 a
 have d := setL_mid (ints .i64 ct) (ints .i64 cd) (ints .i64 (List.replicate 16 0)) (ints .i64 (List.replicate 16 0) ++ [.slice none 0 0, .int .i64 0]) (by rw [e2]; simp [ints])
 rw [e] at d
 rw [d] at c
 refine ⟨h.there _ _ ?_, a.there _ _ ?_, h1, h2, by simp, c⟩
 ·simp [dcells, ints, h1]
 ·simp [ints, h1, h2]
end Go.Proofs.YtghjlpechjggjaaGreatDoor
namespace Go.Proofs.YtghjlpechjggjaaGreatDoor
open Go.RowKit
theorem own_form' {w : World} {base : Nat} {e : TypeId} {size n : Nat} {v : Value} {xs : List Value} (h : w.ownsRow base e size v n xs) : ∃ A c, v = .slice A n c := by
 rcases h.2 with ⟨rfl, rfl⟩ | ⟨g, cap, cur, rfl, _⟩
 ·exact ⟨_, _, rfl⟩
 ·exact ⟨_, _, rfl⟩
def DSt (w : World) (g : Nat) (l : List Int) (a : Nat) (S : List Int) (L : Int) : Prop :=
 ∃ v, DB w g (lowL (lenCnt l) 16) (lenCnt l) (atL l a) v L ∧ w.ownsRow (g + 1) 3 1 v S.length (ints .i64 S)
def Dec (w : World) (g : Nat) (l : List Int) : Prop := DSt w g l 16 (symsB l 16) (longN l 16)
theorem DSt.keeps {w w' : World} {g a : Nat} {l S : List Int} {L : Int} {K : List Nat} (h : DSt w g l a S L) (hk : Keeps K w w') (hK : ∀ x ∈ K, x < g ∨ w.heap.size ≤ x) : DSt w' g l a S L := by
 obtain ⟨v, h1, h2⟩ := h
 refine ⟨v, h1.keeps hk (fun hm => by have := h1.lt; rcases hK g hm with h | h <;> omega), own_keeps h2 hk fun x hx hm => ?_⟩
 have a := own_lo h2 x hx
 have b := own_hi h2 x hx
 rcases hK x hm with h | h <;> omega
theorem DSt.at' {w : World} {g a : Nat} {l S : List Int} {L : Int} (h : DSt w g l a S L) (j : Nat) (hj : j < 16) (x : Int) (as' : List Int) (ha : (atL l a).set j x = atL l as'.length) : DSt (w.setCell ⟨g, 32 + j, none⟩ (.int .i64 x)) g l as'.length S L := by
 obtain ⟨v, h1, h2⟩ := h
 refine ⟨v, ?_, own_keeps h2 (S := [g]) ((Keeps.refl [g] w).setCell (Or.inl (by simp)) _) fun x hx hm => ?_⟩
 ·have := h1.setAt hj x; rwa [ha] at this
 ·have a := own_lo h2 x hx
  rw [List.mem_singleton.1 hm] at a; omega
def Made (w : World) (l : List Int) (e : Ending) (w' : World) : Prop :=
 Below w.heap.size w w' ∧ if checkF l = 0 then ∃ g, e = .returned (.tuple #[.pointer (some ⟨g, 0, none⟩), .int .i64 0]) ∧ Dec w' g l ∧ w.heap.size ≤ g
 else e = .returned (.tuple #[.pointer none, .int .i64 (checkF l)])
theorem made_err {w w' : World} {l : List Int} {e : Int} (hc : ¬ checkF l = 0) (he : e = checkF l) (h : Below w.heap.size w w') : Made w l (.returned (.tuple #[.pointer none, .int .i64 e])) w' := by
 subst he
 exact ⟨h, by rw [if_neg hc]⟩
theorem made_ok {w w' : World} {l : List Int} {g : Nat} (hc : checkF l = 0) (h : Below w.heap.size w w') (hd : Dec w' g l) (hg : w.heap.size ≤ g) : Made w l (.returned (.tuple #[.pointer (some ⟨g, 0, none⟩), .int .i64 0])) w' :=
 ⟨h, by rw [if_pos hc]; exact ⟨g, rfl, hd, hg⟩⟩
theorem new_calls (w : World) (A : Option Addr) (n c : Nat) (l : List Int) (hl : RI .i64 w A n l) (hn : n ≤ 140737488355328) :
  Calls Tryz.prog 164 #[.slice A n c] w (Made w l) := by
 have HL := Lib.hid hl
 have HLL := Lib.hid hl.len
 clear hl
 go_enter Tryz.func164, Tryz.ntmps164
 go_wp2_with fail
 refine (check_calls _ _ _ _ l HL.out hn).mono ?_
 rintro _ w1 ⟨rfl, hd⟩
 have HD := Lib.hid hd
 clear hd
 by_cases hc : checkF l = 0
 ·have e1 : (checkF l != 0) = false := by simp [hc]
  have HC := Lib.hid hc
  have hok := check_ok hc
  have HOK := Lib.hid hok.2
  have hn288 : n ≤ 288 := by rw [← HLL.out]; exact hok.1
  have HL1 := Lib.hid (HL.out.keeps (HD.out.keeps (S := [])) (off_nil _))
  have HB1 := Lib.hid (HD.out.keeps (S := [])).below
  clear hc hok
  go_upto_region 5 with fail
  obtain ⟨wz, hwz⟩ : ∃ wz, wz = (w1.alloc (.cells (dcells (List.replicate 16 0) (List.replicate 16 0) (List.replicate 16 0) (.slice none 0 0) 0).toArray 247)) := ⟨_, rfl⟩
  change Code.wp _ _ _ _ (w1.alloc (.cells (dcells (List.replicate 16 0) (List.replicate 16 0) (List.replicate 16 0) (.slice none 0 0) 0).toArray 247))
  obtain ⟨g, hg⟩ : ∃ g, g = w1.heap.size := ⟨_, rfl⟩
  rw [← hg, ← hwz]
  have HZ : Hid (Blk wz g 247 (dcells (List.replicate 16 0) (List.replicate 16 0) (List.replicate 16 0) (.slice none 0 0) 0)) := by rw [hwz, hg]; exact blk_new w1 _ _
  have HKZ : Hid (Keeps [] w wz) := by rw [hwz]; exact Lib.hid ((HD.out.keeps (S := [])).alloc _)
  have HG : Hid (w.heap.size ≤ g) := by rw [hg]; exact Lib.hid HB1.out.size
  have HL2 := Lib.hid (HL.out.keeps HKZ.out (off_nil _))
  clear hg hwz HL1 HB1
  go_wp2_with fail
  refine (first_calls _ _ _ _ l HL2.out hn288 HOK.out).mono ?_
  rintro _ w2 ⟨rfl, hb⟩
  have HBZ := Lib.hid (HZ.out.keeps (Keeps.of_below (S := []) hb) (by simp))
  have HK2 := Lib.hid (HKZ.out.trans ((Keeps.of_below (S := []) hb)))
  clear hb HZ HKZ HL2
  obtain ⟨t1, t2, db⟩ := DB.start rfl HBZ.out (lowL (lenCnt l) 16) (lenCnt l) (lowL_len _ _) (lenCnt_len _)
  have hk3 : Keeps [] w ((w2.setCells g 0 (ints .i64 (lowL (lenCnt l) 16))).setCells g 16 (ints .i64 (lenCnt l))) := Keeps.setCells (.inr HG.out) _ _ _ (Keeps.setCells (.inr HG.out) _ _ _ HK2.out)
  obtain ⟨ca, hca⟩ : ∃ ca : Array Value, ca = (ints .i64 (lowL (lenCnt l) 16)).toArray := ⟨_, rfl⟩
  obtain ⟨cb, hcb⟩ : ∃ cb : Array Value, cb = (ints .i64 (lenCnt l)).toArray := ⟨_, rfl⟩
  have ka : ints .i64 (lowL (lenCnt l) 16) = ca.toList := by rw [hca]
  have kb : ints .i64 (lenCnt l) = cb.toList := by rw [hcb]
  have OA : Hid (ca.all (·.oneCell') = true) := by rw [hca]; exact Lib.hid (all_ints_one _)
  have OB : Hid (cb.all (·.oneCell') = true) := by rw [hcb]; exact Lib.hid (all_ints_one _)
  have LX : Hid (ca.size = 16) := by show _ = _; rw [hca]; simp [ints, lowL_len]
  have LY : Hid (cb.size = 16) := by show _ = _; rw [hcb]; simp [ints, lenCnt_len]
  rw [← hca, ← hcb]
  rw [← hca] at t1
  rw [← hcb, ka] at t2
  rw [ka, kb] at db hk3
  have T1 := Lib.hid t1
  have T2 := Lib.hid t2
  have DB0 := Lib.hid db
  have HK3 := Lib.hid hk3
  clear t1 t2 db hk3 ka kb hca hcb
  have KX : Hid ((Tryz.prog.info? 191).map (·.size) = some ca.size) := by show _ = _; rw [LX.out]; kernel_rfl
  have KY : Hid ((Tryz.prog.info? 191).map (·.size) = some cb.size) := by show _ = _; rw [LY.out]; kernel_rfl
  go_wp2_with (first
   | (refine wpList_store_mid rfl 191 (.tmp 24) (.tmp 21) rfl g 0 ca rfl rfl T1.out KX.out OA.out ?_)
   | (refine wpList_store_mid rfl 191 (.tmp 26) (.tmp 22) rfl g 16 cb rfl rfl T2.out KY.out OB.out ?_))
  generalize (w2.setCells g 0 ca.toList).setCells g 16 cb.toList = w3 at *
  have HS0 : Hid (DSt w3 g l 1 (symsB l 1) (longN l 1)) := by rw [symsB_one, longN_one]; exact ⟨_, by rw [atL_one]; exact DB0.out, World.ownsRow_nil _ _ _ _⟩
  clear HBZ HK2 T1 T2 DB0 KX KY OA OB LX LY
  have HLk : Hid (∀ wr : World, Keeps [] w wr → RI .i64 wr A n l) := Lib.hid (fun wr hk => HL.out.keeps hk (off_nil _))
  go_loopw [6] (fun mv wr => ∃ m : Nat, 1 ≤ m ∧ m ≤ 16 ∧ mv = .int .i64 m ∧ Hid (DSt wr g l m (symsB l m) (longN l m)) ∧ Hid (Keeps [] w wr)) (fun mv _ => 16 - (intOf mv).toNat)
  case atStart => exact ⟨1, by omega, by omega, rfl, HS0, HK3⟩
  case round =>
   clear HS0 HK3
   obtain ⟨m, hm1, hm2, rfl, HS, HK⟩ := hrel
   by_cases hm : m ≤ 15
   ·have e0 : decide ((m : Int) ≤ 15) = true := by simp; omega
    have hsl := symsB_len l m
    obtain ⟨v, hdb, how⟩ := HS.out
    obtain ⟨vA, vc, rfl⟩ := own_form' how
    obtain ⟨q1, -⟩ := hdb.syms
    have q2 := hdb.at (j := m) (by omega)
    have q3 := hdb.free (32 + m)
    have HS1 : Hid (DSt (wr.setCell ⟨g, 32 + m, none⟩ (.int .i64 ((symsB l m).length : Int))) g l (m + 1) (symsB l m ++ symsOf l m 0) (longA l m 0)) := by
     have := HS.out.at' m (by omega) ((symsB l m).length : Int) (List.replicate (m + 1) 0) (by rw [List.length_replicate, atL_next l m hm1 (by omega)])
     rw [List.length_replicate] at this
     rw [longA_zero l m (by omega), show symsOf l m 0 = [] from rfl, List.append_nil]
     exact this
    have HK1 := Lib.hid (HK.out.setCell (p := ⟨g, 32 + m, none⟩) (.inr HG.out) (.int .i64 ((symsB l m).length : Int)))
    generalize nth (atL l m) m = z at *
    have HSL := Lib.hid hsl
    generalize hsz : (symsB l m).length = sz at *
    have HSZ := Lib.hid hsz
    clear hdb how HS HK hsl hsz
    go_wp2_with fail
    go_region
    go_wp2_with fail
    have HS2 : Hid (DSt (wr.setCell ⟨g, 32 + m, none⟩ (.int .i64 (sz : Int))).drew g l (m + 1) (symsB l m ++ symsOf l m 0) (longA l m 0)) := Lib.hid (HS1.out.keeps (Keeps.refl [] _).drew (by simp))
    have HK2 : Hid (Keeps [] w (wr.setCell ⟨g, 32 + m, none⟩ (.int .i64 (sz : Int))).drew) := Lib.hid HK1.out.drew
    clear HS1 HK1
    have q4 : 0 = 0 := rfl
    clear q1 q2 q3 q4
    go_loopw [43] (fun iv wr => ∃ i : Nat, i ≤ n ∧ iv = .int .i64 i ∧ Hid (DSt wr g l (m + 1) (symsB l m ++ symsOf l m i) (longA l m i)) ∧ Hid (Keeps [] w wr)) (fun iv _ => n - (intOf iv).toNat)
    case atStart => exact ⟨0, by omega, rfl, HS2, HK2⟩
    case round =>
     clear HS2 HK2
     obtain ⟨i, hi, rfl, HS, HK⟩ := hrel
     by_cases hlt : i < n
     ·have hil : Hid (i < l.length) := by have := HLL.out; show _ < _; omega
      obtain ⟨b, o, rfl, hc⟩ := HL.out.at hlt
      have hc := HK.out.cell (by simp) hc
      by_cases hx : nth l i = m
      ·have e1 : (nth l i == (m : Int)) = true := by simpa using hx
       have hs1 := symsOf_step l m i hx
       have hs2 := longA_step l m i (by omega) hm1 hil.out hx
       have HX1 := Lib.hid hs1
       have HX2 := Lib.hid hs2
       have hol : (symsOf l m i).length ≤ i := symsOf_len l m i
       have hsl := symsB_len l m
       clear hx hs1 hs2
       obtain ⟨v, hdb, how⟩ := HS.out
       obtain ⟨vA, vc, hvf⟩ := own_form' how
       subst hvf
       have hsn : (symsB l m ++ symsOf l m i).length ≤ 10000 := by
        rw [List.length_append]
        have : m * l.length ≤ 15 * 288 := Nat.mul_le_mul (by omega) (by have := HLL.out; omega)
        omega
       have HX3 : Hid (symsB l m ++ symsOf l m (i + 1) = (symsB l m ++ symsOf l m i) ++ [(i : Int)]) := by show _ = _; rw [HX1.out, List.append_assoc]
       generalize symsB l m ++ symsOf l m i = S at *
       generalize hsz : S.length = sz at *
       obtain ⟨q1, -⟩ := hdb.syms
       have HOW := Lib.hid (own_keeps how ((Keeps.refl [] wr).alloc (.cells #[.int .i64 (i : Int)] 3)) (by simp))
       have HDB := Lib.hid (hdb.keeps ((Keeps.refl [] wr).alloc (.cells #[.int .i64 (i : Int)] 3)) (by simp))
       have HRI : Hid (RI .i64 (wr.alloc (.cells #[.int .i64 (i : Int)] 3)) (some ⟨wr.heap.size, 0, none⟩) 1 [(i : Int)]) := Lib.hid (ri_one wr _ _ _)
       have HKA := Lib.hid (HK.out.alloc (.cells #[.int .i64 (i : Int)] 3))
       have hgl := hdb.lt
       have HSZ := Lib.hid hsz
       clear HS HK hdb how hol hsl hsz
       go_wp2_with (at_builtin; refine app_intsG rfl (.tmp 55) (.tmp 57) rfl (g + 1) _ _ S rfl (by exact HOW.out) _ 1 1 [(i : Int)] rfl (by exact HRI.out) ?c1 ?c2 ?c3 ?c4 ?_)
       case c1 => simp
       case c2 => simp
       case c3 => omega
       case c4 => simp; omega
       intro v' w4 hv hg
       obtain ⟨A', c', hvf⟩ := own_form' hv
       subst hvf
       have hk4 := (Keeps.refl (Value.ownBlock (.slice vA sz vc)).toList (wr.alloc (.cells #[.int .i64 (i : Int)] 3))).grown hg (fun k hk => Or.inl (by simp [hk]))
       have hng : g ∉ (Value.ownBlock (.slice vA sz vc)).toList := fun hm => by
        have := own_lo HOW.out g (by simpa using hm)
        omega
       have hdb4 := HDB.out.keeps hk4 hng
       have hkw := HKA.out.grown hg (fun k hk => Or.inr (by have := own_lo HOW.out k hk; have := HG.out; omega))
       have HDB4 := Lib.hid hdb4
       have HKW := Lib.hid hkw
       have HV := Lib.hid hv
       obtain ⟨r1, -⟩ := hdb4.syms
       have r2 := hdb4.free 48
       have hdb5 := hdb4.setSyms (.slice A' (sz + 1) c')
       obtain ⟨-, r3⟩ := hdb5.syms
       have r4 := hdb5.free 49
       have HDB6 := Lib.hid (hdb5.setLong m)
       have hk6 : Keeps [g] w4 ((w4.setCell ⟨g, 48, none⟩ (.slice A' (sz + 1) c')).setCell ⟨g, 49, none⟩ (.int .i64 (m : Int))) := ((Keeps.refl [g] w4).setCell (Or.inl (by simp)) _).setCell (Or.inl (by simp)) _
       have HO6 : Hid (((w4.setCell ⟨g, 48, none⟩ (.slice A' (sz + 1) c')).setCell ⟨g, 49, none⟩ (.int .i64 (m : Int))).ownsRow (g + 1) 3 1 (.slice A' (sz + 1) c') (sz + 1) (ints .i64 (S ++ [(i : Int)]))) :=
        own_keeps HV.out hk6 (fun x hx hm => by have := own_lo HV.out x hx; rw [List.mem_singleton.1 hm] at this; omega)
       have HKX := Lib.hid ((HKW.out.setCell (p := ⟨g, 48, none⟩) (.inr HG.out) (.slice A' (sz + 1) c')).setCell (p := ⟨g, 49, none⟩) (.inr HG.out) (.int .i64 (m : Int)))
       clear hk4 hng hdb4 hkw hv hg hdb5 hk6 HOW HDB HRI HKA HDB4 HKW HV
       go_wp2_with fail
       go_roundw
       case rel => exact ⟨i + 1, by omega, by go_num, by rw [HX2.out, HX3.out]; exact ⟨.slice A' (sz + 1) c', HDB6.out, by rw [List.length_append, HSZ.out]; exact HO6.out⟩, HKX⟩
       case measure => simp [intOf]; omega
      ·have e1 : (nth l i == (m : Int)) = false := by simpa using hx
       have HX1 := Lib.hid (symsOf_skip l m i hx)
       have HX2 := Lib.hid (longA_skip l m i (by omega) hil.out hx)
       clear hx
       go_wp2_with fail
       go_roundw
       case rel => exact ⟨i + 1, by omega, by go_num, by rw [HX1.out, HX2.out]; exact HS, HK⟩
       case measure => simp [intOf]; omega
     ·obtain rfl : i = n := by omega
      have HS3 : Hid (DSt wr g l (m + 1) (symsB l (m + 1)) (longN l (m + 1))) := by
       have := HS.out
       rw [← HLL.out, longA_all l m hm1, ← symsB_next l m hm1] at this; exact this
      go_wp2_with fail
      go_roundw
      case rel => exact ⟨m + 1, by omega, by omega, by go_num, HS3, HK⟩
      case measure => simp [intOf]; omega
   ·obtain rfl : m = 16 := by omega
    go_wp2_with fail
    go_ret2
    exact made_ok HC.out HK.out.below HS.out HG.out
 ·have e1 : (checkF l != 0) = true := by simpa using hc
  have HR : Hid (¬ checkF l = 0) := Lib.hid hc
  go_wp2_with fail
  go_ret2
  exact made_err HR.out rfl (HD.out.keeps (S := [])).below
end Go.Proofs.YtghjlpechjggjaaGreatDoor
namespace Go.Proofs.YtghjlpechjggjaaGreatDoor
open Go.RowKit
def DecT (w : World) (g top : Nat) (l : List Int) : Prop :=
 ∃ A c, DB w g (lowL (lenCnt l) 16) (lenCnt l) (atL l 16) (.slice A (symsB l 16).length c) (longN l 16) ∧ RI .i64 w A (symsB l 16).length (symsB l 16) ∧ g < top ∧ ∀ x, A = some x → x.block < top
theorem DecT.keeps {w w' : World} {g top : Nat} {l : List Int} {K : List Nat} (h : DecT w g top l) (hk : Keeps K w w') (hK : ∀ x ∈ K, top ≤ x) : DecT w' g top l := by
 obtain ⟨A, c, h1, h2, h3, h4⟩ := h
 refine ⟨A, c, h1.keeps hk (fun hm => by have := hK g hm; omega), h2.keeps hk (fun x hx hm => by have := hK x.block hm; have := h4 x hx; omega), h3, h4⟩
theorem Dec.top {w : World} {g : Nat} {l : List Int} (h : Dec w g l) : DecT w g w.heap.size l := by
 obtain ⟨v, h1, h2⟩ := h
 obtain ⟨A, c, rfl, hr, _, ha⟩ := own_ri h2
 exact ⟨A, c, h1, hr, h1.lt, fun x hx => (ha x hx).2.1⟩
def DecN (w : World) (g gr : Nat) (l : List Int) : Prop :=
 ∃ A c, DB w g (lowL (lenCnt l) 16) (lenCnt l) (atL l 16) (.slice A (symsB l 16).length c) (longN l 16) ∧ RI .i64 w A (symsB l 16).length (symsB l 16) ∧ g ≠ gr ∧ ∀ x, A = some x → x.block ≠ gr
theorem DecN.keeps {w w' : World} {g gr : Nat} {l : List Int} {K : List Nat} (h : DecN w g gr l) (hk : Keeps K w w') (hK : ∀ x ∈ K, x = gr) : DecN w' g gr l := by
 obtain ⟨A, c, h1, h2, h3, h4⟩ := h
 exact ⟨A, c, h1.keeps hk (fun hm => h3 (hK g hm)), h2.keeps hk (fun x hx hm => h4 x hx (hK x.block hm)), h3, h4⟩
theorem DecT.apart {w : World} {g top gr : Nat} {l : List Int} (h : DecT w g top l) (ht : top ≤ gr) : DecN w g gr l := by
 obtain ⟨A, c, h1, h2, h3, h4⟩ := h
 exact ⟨A, c, h1, h2, by omega, fun x hx => by have := h4 x hx; omega⟩
theorem Dec.apart {w : World} {g gr : Nat} {l : List Int} (h : Dec w g l) (hg : gr < g) : DecN w g gr l := by
 obtain ⟨v, h1, h2⟩ := h
 obtain ⟨A, c, rfl, hr, _, ha⟩ := own_ri h2
 exact ⟨A, c, h1, hr, by omega, fun x hx => by have := (ha x hx).1; omega⟩
theorem or_bit64 (v b : Int) (h0 : 0 ≤ v) (h : v < 65536) (hb : 0 ≤ b ∧ b ≤ 1) : Go.bits .or .i64 (v * 2) b = 2 * v + b := by
 have := bits_join .i64 62 (by decide) wraps_i64 1 (v * 2) b (by omega) (by omega) (by omega) (by omega) (by omega) (by omega)
 rw [this]; omega
theorem take1_calls (w : World) (g : Nat) (A : Option Addr) (c : Nat) (bs : List Int) (p : Nat) (hr : Rdr w g A c bs p) (hf : p + 1 ≤ 8 * bs.length) :
  Calls Tryz.prog 160 #[.pointer (some ⟨g, 0, none⟩), .int .i64 1] w fun e w' => e = .returned (.tuple #[.int .u32 (bitAt bs p), .int .i64 0]) ∧ Rdr w' g A c bs (p + 1) ∧ Keeps [g] w w' := by
 have := take_calls w g A c bs p 1 hr (by omega) hf
 simpa [numB] using this
theorem take1_end (w : World) (g : Nat) (A : Option Addr) (c : Nat) (bs : List Int) (p : Nat) (hr : Rdr w g A c bs p) (hf : 8 * bs.length < p + 1) :
  Calls Tryz.prog 160 #[.pointer (some ⟨g, 0, none⟩), .int .i64 1] w fun e w' => e = .returned (.tuple #[.int .u32 0, .int .i64 10]) ∧ Dr w w' := by
 have := take_end w g A c bs p 1 hr (by omega) hf
 simpa using this
def Nexted (w : World) (gr : Nat) (A : Option Addr) (c : Nat) (bs : List Int) (p : Nat) (r : Int × Int × Nat) (e : Ending) (w' : World) : Prop :=
 e = .returned (.tuple #[.int .i64 r.1, .int .i64 r.2.1]) ∧ Rdr w' gr A c bs (p + r.2.2) ∧ Keeps [gr] w w'
theorem nexted {w w' : World} {gr : Nat} {A : Option Addr} {c : Nat} {bs : List Int} {p k : Nat} {r : Int × Int × Nat} {s e : Int} (hr : r = (s, e, k)) (h : Rdr w' gr A c bs (p + k)) (hk : Keeps [gr] w w') :
  Nexted w gr A c bs p r (.returned (.tuple #[.int .i64 s, .int .i64 e])) w' := by
 subst hr; exact ⟨rfl, h, hk⟩
theorem nextN_calls (w : World) (g gr : Nat) (l : List Int) (A : Option Addr) (c : Nat) (bs : List Int) (p : Nat) (hd : DecN w g gr l) (hr : Rdr w gr A c bs p) (hl : l.length ≤ 288) :
  Calls Tryz.prog 166 #[.pointer (some ⟨g, 0, none⟩), .pointer (some ⟨gr, 0, none⟩)] w (Nexted w gr A c bs p (decF l bs p)) := by
 have HD := Lib.hid hd
 have HR := Lib.hid hr
 have HL := Lib.hid hl
 have hLL : longN l 16 < 16 := (longN_le l 16).resolve_right (by omega)
 obtain ⟨L, hL⟩ : ∃ L, L = longN l 16 := ⟨_, rfl⟩
 rw [← hL] at hLL
 have HLn := Lib.hid hL
 clear hd hr hl hL
 go_enter Tryz.func166, Tryz.ntmps166
 go_wp2_with fail
 go_step3
 go_wp2_with fail
 go_step3
 go_wp2_with fail
 go_loopw [6, 7, 8] (fun ev xv nv wr => ∃ (n : Nat) (x : Int), n ≤ L ∧ ev = .int .i64 32 ∧ nv = .int .i64 n ∧ xv = .int .i64 x ∧ 0 ≤ x ∧ x < 32768 ∧ Hid (x < 2 ^ n) ∧ Hid (decF l bs p = decGo l bs p (L - n) n x) ∧ Hid (Rdr wr gr A c bs (p + n)) ∧ Hid (Keeps [gr] w wr)) (fun _ _ nv _ => L - (intOf nv).toNat)
 case atStart => exact ⟨0, 0, by omega, rfl, rfl, rfl, by omega, by omega, Lib.hid (by simp), Lib.hid (by rw [HLn.out]; rfl), HR, Lib.hid (Keeps.refl _ _)⟩
 case round =>
  clear HR
  obtain ⟨n, x, hn, rfl, rfl, rfl, hx0, hx1, HX, HDF, HR, HK⟩ := hrel
  have HD1 := Lib.hid (HD.out.keeps HK.out (fun y hy => List.mem_singleton.1 hy))
  obtain ⟨sA, sc, hdb, hri, hgt, hat⟩ := HD1.out
  obtain ⟨q1, q2⟩ := hdb.syms
  rw [← HLn.out] at q2
  have HDB := Lib.hid hdb
  have HRI := Lib.hid hri
  have HAT := Lib.hid hat
  clear hdb hri hat q1
  by_cases hlt : n < L
  ·have e0 : decide (n < L) = true := by simpa using hlt
   by_cases hend : p + n + 1 ≤ 8 * bs.length
   ·have HEND := Lib.hid hend
    clear hend
    go_wp2_with fail
    refine (take1_calls _ _ _ _ _ _ HR.out HEND.out).mono ?_
    rintro _ w2 ⟨rfl, hr2, hk2⟩
    have HR2 : Hid (Rdr w2 gr A c bs (p + (n + 1))) := Lib.hid (by rw [← Nat.add_assoc]; exact hr2)
    have HK2 := Lib.hid (HK.out.trans hk2)
    have HD2 := Lib.hid (HD.out.keeps HK2.out (fun y hy => List.mem_singleton.1 hy))
    clear hr2 hk2 HK HR HD1 HDB HRI HAT q2
    obtain ⟨sA, sc, hdb, hri, hgt, hat⟩ := HD2.out
    obtain ⟨q1, q2⟩ := hdb.syms
    have q3 := hdb.code (j := n + 1) (by omega)
    have q4 := hdb.count (j := n + 1) (by omega)
    have q5 := hdb.at (j := n + 1) (by omega)
    rw [atL_at l (n + 1) (by omega) (by omega)] at q5
    rw [show nth (lowL (lenCnt l) 16) (n + 1) = lowF (lenCnt l) (n + 1) by unfold lowL; rw [nth_map_range _ _ _ (by omega), if_pos (by omega)]] at q3
    rw [← HLn.out] at q2
    have HRI := Lib.hid hri
    clear hdb hri hat
    have hgo : Hid (decF l bs p = if 0 ≤ 2 * x + bitAt bs (p + n) - lowF (lenCnt l) (n + 1) ∧ 2 * x + bitAt bs (p + n) - lowF (lenCnt l) (n + 1) < nth (lenCnt l) (n + 1) then
      (nth (symsB l 16) ((symsB l (n + 1)).length + (2 * x + bitAt bs (p + n) - lowF (lenCnt l) (n + 1)).toNat), 0, n + 1)
     else decGo l bs p (L - (n + 1)) (n + 1) (2 * x + bitAt bs (p + n))) := by
     show _ = _
     rw [HDF.out, show L - n = (L - (n + 1)) + 1 by omega, decGo, if_pos HEND.out]
    have hsa : Hid (∀ k : Nat, (k : Int) < nth (lenCnt l) (n + 1) → (symsB l (n + 1)).length + k < (symsB l 16).length) := Lib.hid (fun k hk => (symsB_at l (n + 1) (by omega) (by omega) k hk).1)
    obtain ⟨b0, b1⟩ := bitAt_le bs (p + n)
    obtain ⟨l0, l1⟩ := lowF_small l HL.out (n + 1) (by omega)
    obtain ⟨c0, c1⟩ := lenCnt_bd l (n + 1) (by omega)
    have c2 : nth (lenCnt l) (n + 1) ≤ 288 := by have := HL.out; omega
    have hy1 : Hid (2 * x + bitAt bs (p + n) < 2 ^ (n + 1)) := by show _ < _; have := HX.out; rw [Int.pow_succ]; omega
    have hp : (2 : Int) ^ (n + 1) ≤ 32768 := by
     have : (2 : Nat) ^ (n + 1) ≤ 2 ^ 15 := Nat.pow_le_pow_right (by decide) (by omega)
     exact_mod_cast this
    have hy2 : 2 * x + bitAt bs (p + n) < 32768 := by have := hy1.out; omega
    clear hp c1 HDF
    generalize bitAt bs (p + n) = b at *
    generalize lowF (lenCnt l) (n + 1) = lo at *
    generalize nth (lenCnt l) (n + 1) = ct at *
    have e4 : Go.bits .or .i64 (x * 2) b = 2 * x + b := or_bit64 x b hx0 (by omega) ⟨b0, b1⟩
    by_cases hk0 : 0 ≤ 2 * x + b - lo
    ·obtain ⟨K, hK⟩ : ∃ K : Nat, 2 * x + b - lo = K := ⟨(2 * x + b - lo).toNat, by omega⟩
     by_cases hk1 : (K : Int) < ct
     ·have HRES : Hid (decF l bs p = (nth (symsB l 16) ((symsB l (n + 1)).length + K), 0, n + 1)) := by
       show _ = _
       rw [hgo.out, hK, if_pos ⟨by omega, hk1⟩, Int.toNat_natCast]
      have hin := hsa.out K hk1
      obtain ⟨sb, so, rfl, hcell⟩ := HRI.out.at hin
      have HIN := Lib.hid hin
      have d2 : decide ((K : Int) < ct) = true := by simpa using hk1
      have hS16 : (symsB l 16).length ≤ 4608 := Nat.le_trans (symsB_len l 16) (by have := HL.out; omega)
      generalize hS : (symsB l (n + 1)).length = S at *
      generalize hSS : (symsB l 16).length = SS at *
      have s1 : ((S : Int) + (K : Int)).toNat = S + K := by omega
      have s2 : (0 : Int) ≤ (S : Int) + (K : Int) := by omega
      have s3 : (S : Int) + (K : Int) < (SS : Int) := by omega
      clear hS hSS hin
      have s7 : IntKind.i64.wrap ((S : Int) + (K : Int)) = (S : Int) + (K : Int) := IntWalk.i64_in _ (by omega)
      have s4 : (0 : Int) ≤ (n : Int) + 1 := by omega
      have s5 : (n : Int) + 1 < 16 := by omega
      have s6 : ((n : Int) + 1).toNat = n + 1 := by omega
      go_wp2_with fail
      go_quiet (fail)
      go_wp2_with fail
      go_ret2
      exact nexted HRES.out (HR2.out.dr ((Keeps.refl [] w2).drewN _)) (HK2.out.drewN _)
     ·have HRES : Hid (decF l bs p = decGo l bs p (L - (n + 1)) (n + 1) (2 * x + b)) := by
       show _ = _
       rw [hgo.out, hK, if_neg (fun h => hk1 h.2)]
      have d2 : decide ((K : Int) < ct) = false := by simpa using hk1
      clear hgo hsa
      go_wp2_with fail
      go_roundw
      case rel => exact ⟨n + 1, 2 * x + b, by omega, rfl, by go_num, rfl, by omega, hy2, hy1, HRES, HR2, HK2⟩
      case measure => simp [intOf]; omega
    ·have HRES : Hid (decF l bs p = decGo l bs p (L - (n + 1)) (n + 1) (2 * x + b)) := by
      show _ = _
      rw [hgo.out, if_neg (fun h => hk0 h.1)]
     have d2 : decide (0 ≤ 2 * x + b - lo) = false := by simpa using hk0
     clear hgo hsa
     go_wp2_with fail
     go_roundw
     case rel => exact ⟨n + 1, 2 * x + b, by omega, rfl, by go_num, rfl, by omega, hy2, hy1, HRES, HR2, HK2⟩
     case measure => simp [intOf]; omega
   ·have HEND := Lib.hid hend
    clear hend
    have HRES : Hid (decF l bs p = (0, 10, 0)) := by
     show _ = _
     rw [HDF.out, show L - n = (L - n - 1) + 1 by omega, decGo, if_neg HEND.out]
    go_wp2_with fail
    refine (take1_end _ _ _ _ _ _ HR.out (by have := HEND.out; omega)).mono ?_
    rintro _ w2 ⟨rfl, hd2⟩
    have HR2 := Lib.hid (HR.out.dr (hd2.keeps (S := [])))
    have HK2 := Lib.hid (HK.out.trans (hd2.keeps (S := [gr])))
    clear hd2
    go_wp2_with fail
    refine (back_calls _ _ _ _ _ _ n HR2.out (by omega)).mono ?_
    rintro _ w3 ⟨rfl, hr3, hk3⟩
    have HR3 := Lib.hid hr3
    have HK3 := Lib.hid (HK2.out.trans hk3)
    clear hr3 hk3
    go_wp2_with fail
    go_ret2
    exact nexted HRES.out (by have := HR3.out; rwa [Nat.add_sub_cancel] at this) HK3.out
  ·obtain rfl : n = L := by omega
   have HRES : Hid (decF l bs p = (0, 32, 0)) := by show _ = _; rw [HDF.out, Nat.sub_self]; rfl
   go_wp2_with fail
   refine (back_calls _ _ _ _ _ _ n HR.out (by omega)).mono ?_
   rintro _ w3 ⟨rfl, hr3, hk3⟩
   have HR3 := Lib.hid hr3
   have HK3 := Lib.hid (HK.out.trans hk3)
   clear hr3 hk3
   go_wp2_with fail
   go_ret2
   exact nexted HRES.out (by have := HR3.out; rwa [Nat.add_sub_cancel] at this) HK3.out
end Go.Proofs.YtghjlpechjggjaaGreatDoor
namespace Go.Proofs.YtghjlpechjggjaaGreatDoor
open Go.RowKit
end Go.Proofs.YtghjlpechjggjaaGreatDoor
namespace Go.Proofs.YtghjlpechjggjaaGreatDoor
open Go.RowKit
theorem app_ints {ops : Array Oper} {rest : List Oper} {o : Oper} {a : Act} {Q : Exit → Act → World → Prop} {w : World} (hgd : o.guard = none) (s x : Operand)
  (ho : o.op = .call { callee := .builtin .append, args := #[s, x], argTypes := #[90, 90] })
  (base : Nat) (v : Value) (n : Nat) (xs : List Int) (hs : a.eval s = v) (hown : w.ownsRow base 3 1 v n (ints .i64 xs))
  (g m c : Nat) (ys : List Int) (hx : a.eval x = .slice (some ⟨g, 0, none⟩) m c) (hy : RI .i64 w (some ⟨g, 0, none⟩) m ys)
  (hn : n + m ≤ 1000000) (hbase : base ≤ w.heap.size)
  (h : ∀ v' w', w'.ownsRow base 3 1 v' (n + m) (ints .i64 (xs ++ ys)) → w.grownBy w' v.ownBlock → wpList Tryz.prog ops Q rest (a.put o.dst v') w') : wpList Tryz.prog ops Q (o :: rest) a w := by
 obtain ⟨i0, hi, hz0, hz1, hz2⟩ := info_parts info_int
 refine wpList_append_own _ hgd s x 90 ho base 3 i0 (.int .i64 0) 1 8 Tryz.underlying90 hi hz0 hz1 hz2 rfl (by decide) v n (ints .i64 xs) hs hown ⟨g, 0, none⟩ m c (ints .i64 ys) hx (by simp [ints, hy.len]) ?_ (ints_one _ _) (by unfold maxLen; omega) (by omega) hbase ?_
 ·intro j u hu
  have hj : j < m := by have := (List.getElem?_eq_some_iff.1 hu).1; have := hy.len; simp [ints] at *; omega
  rw [add_plain]
  have hc := hy.cell g 0 rfl j hj
  rw [Nat.zero_add] at hc
  rw [hc, ← hu, ints_getElem?]
  simp [nth, List.getD, show j < ys.length by have := hy.len; omega]
 ·intro v' w' h2 h3 _
  have e : ints .i64 (xs ++ ys) = ints .i64 xs ++ ints .i64 ys := by simp [ints]
  rw [e] at h
  exact h v' w' h2 h3
def Added (w : World) (base : Nat) (r : Option (List Int)) (e : Ending) (w' : World) : Prop :=
 match r with
 | some l => ∃ v, e = .returned (.tuple #[v, .bool true]) ∧ w'.ownsRow base 3 1 v l.length (ints .i64 l) ∧ Below base w w'
 | none => e = .returned (.tuple #[.slice none 0 0, .bool false]) ∧ Below base w w'
theorem add_bad (w : World) (base len c : Nat) (A : Option Addr) (l : List Int) (sym extra n : Int) (hb : base ≤ w.heap.size) (hs : sym < 0 ∨ 18 < sym) :
  Calls Tryz.prog 184 #[.slice A len c, .agg #[.int .i64 sym, .int .i64 extra], .int .i64 n] w (Added w base (addF l sym extra n)) := by
 have hr : addF l sym extra n = none := addF_none (by rcases hs with h | h; exact sayF_lit_none (by omega) (Or.inl h); exact sayF_big h)
 rw [hr]
 clear hr
 rcases hs with h | h
 ·have e1 : decide (sym < 0) = true := by simpa using h
  go_enter Tryz.func184, Tryz.ntmps184
  go_wp2_with fail
  go_quiet (fail)
  go_wp2_with fail
  go_ret2
  exact ⟨rfl, (((Keeps.refl [] w).alloc _).drewN _).below.mono hb⟩
 ·have e1 : decide (sym < 0) = false := by simp; omega
  have e2 : decide (19 ≤ sym) = true := by simp; omega
  go_enter Tryz.func184, Tryz.ntmps184
  go_wp2_with fail
  go_quiet (fail)
  go_wp2_with fail
  go_ret2
  exact ⟨rfl, (((Keeps.refl [] w).alloc _).drewN _).below.mono hb⟩
theorem add_neg (w : World) (base len c : Nat) (A : Option Addr) (l : List Int) (sym extra n : Int) (hb : base ≤ w.heap.size) (h0 : 0 ≤ sym) (h18 : sym ≤ 18) (hs : extra < 0) :
  Calls Tryz.prog 184 #[.slice A len c, .agg #[.int .i64 sym, .int .i64 extra], .int .i64 n] w (Added w base (addF l sym extra n)) := by
 have hr : addF l sym extra n = none := addF_none (by
  rcases (by omega : sym ≤ 15 ∨ sym = 16 ∨ sym = 17 ∨ sym = 18) with h | rfl | rfl | rfl
  ·exact sayF_lit_none (by omega) (Or.inr (by omega))
  ·exact sayF_16_none (Or.inl hs)
  ·exact sayF_17_none (Or.inl hs)
  ·exact sayF_18_none (Or.inl hs))
 rw [hr]
 clear hr
 have e1 : decide (sym < 0) = false := by simp; omega
 have e2 : decide (19 ≤ sym) = false := by simp; omega
 have e3 : decide (extra < 0) = true := by simpa using hs
 go_enter Tryz.func184, Tryz.ntmps184
 go_wp2_with fail
 go_quiet (fail)
 go_wp2_with fail
 go_ret2
 exact ⟨rfl, (((Keeps.refl [] w).alloc _).drewN _).below.mono hb⟩
theorem wide0 (s : Nat) (h : s ≤ 15) : nth wideL s = 0 := by
 rcases (by omega : s = 0 ∨ s = 1 ∨ s = 2 ∨ s = 3 ∨ s = 4 ∨ s = 5 ∨ s = 6 ∨ s = 7 ∨ s = 8 ∨ s = 9 ∨ s = 10 ∨ s = 11 ∨ s = 12 ∨ s = 13 ∨ s = 14 ∨ s = 15) with rfl | rfl | rfl | rfl | rfl | rfl | rfl | rfl | rfl | rfl | rfl | rfl | rfl | rfl | rfl | rfl <;> rfl
theorem add_over (w : World) (base len c : Nat) (A : Option Addr) (l : List Int) (s : Nat) (extra n : Int) (hb : base ≤ w.heap.size) (ht : Tabs w) (h0 : 0 ≤ extra)
  (hs : s ≤ 15 ∧ 1 ≤ extra ∨ s = 16 ∧ 4 ≤ extra ∨ s = 17 ∧ 8 ≤ extra ∨ s = 18 ∧ 128 ≤ extra) :
  Calls Tryz.prog 184 #[.slice A len c, .agg #[.int .i64 s, .int .i64 extra], .int .i64 n] w (Added w base (addF l s extra n)) := by
 have e1 : decide ((s : Int) < 0) = false := by simp
 have e2 : decide (19 ≤ (s : Int)) = false := by simp; omega
 have e3 : decide (extra < 0) = false := by simp; omega
 have hl : (s : Int) < 19 := by omega
 have hc := ht.wid.cell _ _ rfl s (by omega)
 rw [Nat.zero_add] at hc
 clear ht
 rcases hs with ⟨h, hs⟩ | ⟨rfl, hs⟩ | ⟨rfl, hs⟩ | ⟨rfl, hs⟩
 ·have hr : addF l s extra n = none := addF_none (sayF_lit_none (by omega) (Or.inr (by omega)))
  rw [hr]
  clear hr
  rw [wide0 s h] at hc
  have hc' := fun o => ((Keeps.refl [] w).alloc o).cell (by simp) hc
  clear hc
  have e4 : decide (1 ≤ extra) = true := by simpa using hs
  go_enter Tryz.func184, Tryz.ntmps184
  go_wp2_with fail
  go_quiet (fail)
  go_wp2_with fail
  go_ret2
  exact ⟨rfl, (((Keeps.refl [] w).alloc _).drewN _).below.mono hb⟩
 ·have hr : addF l ((16 : Nat) : Int) extra n = none := addF_none (sayF_16_none (Or.inr (Or.inl (by omega))))
  rw [hr]
  clear hr
  rw [show nth wideL 16 = 2 from rfl] at hc
  have hc' := fun o => ((Keeps.refl [] w).alloc o).cell (by simp) hc
  clear hc
  have e4 : decide (4 ≤ extra) = true := by simpa using hs
  go_enter Tryz.func184, Tryz.ntmps184
  go_wp2_with fail
  go_quiet (fail)
  go_wp2_with fail
  go_ret2
  exact ⟨rfl, (((Keeps.refl [] w).alloc _).drewN _).below.mono hb⟩
 ·have hr : addF l ((17 : Nat) : Int) extra n = none := addF_none (sayF_17_none (Or.inr (by omega)))
  rw [hr]
  clear hr
  rw [show nth wideL 17 = 3 from rfl] at hc
  have hc' := fun o => ((Keeps.refl [] w).alloc o).cell (by simp) hc
  clear hc
  have e4 : decide (8 ≤ extra) = true := by simpa using hs
  go_enter Tryz.func184, Tryz.ntmps184
  go_wp2_with fail
  go_quiet (fail)
  go_wp2_with fail
  go_ret2
  exact ⟨rfl, (((Keeps.refl [] w).alloc _).drewN _).below.mono hb⟩
 ·have hr : addF l ((18 : Nat) : Int) extra n = none := addF_none (sayF_18_none (Or.inr (by omega)))
  rw [hr]
  clear hr
  rw [show nth wideL 18 = 7 from rfl] at hc
  have hc' := fun o => ((Keeps.refl [] w).alloc o).cell (by simp) hc
  clear hc
  have e4 : decide (128 ≤ extra) = true := by simpa using hs
  go_enter Tryz.func184, Tryz.ntmps184
  go_wp2_with fail
  go_quiet (fail)
  go_wp2_with fail
  go_ret2
  exact ⟨rfl, (((Keeps.refl [] w).alloc _).drewN _).below.mono hb⟩
theorem add_first (w : World) (base c : Nat) (A : Option Addr) (extra n : Int) (hb : base ≤ w.heap.size) (ht : Tabs w) (h0 : 0 ≤ extra) (h3 : extra ≤ 3) :
  Calls Tryz.prog 184 #[.slice A 0 c, .agg #[.int .i64 16, .int .i64 extra], .int .i64 n] w (Added w base (addF [] 16 extra n)) := by
 have hr : addF [] 16 extra n = none := addF_none (sayF_16_none (Or.inr (Or.inr rfl)))
 rw [hr]
 clear hr
 have e3 : decide (extra < 0) = false := by simp; omega
 have e4 : decide (4 ≤ extra) = false := by simp; omega
 have hc := ht.wid.cell _ _ rfl 16 (by omega)
 rw [Nat.zero_add, show nth wideL 16 = 2 from rfl] at hc
 have hd := ht.fro.cell _ _ rfl 16 (by omega)
 rw [Nat.zero_add, show nth fromL 16 = 3 from rfl] at hd
 have hc' := fun o => ((Keeps.refl [] w).alloc o).cell (by simp) hc
 have hd' := fun o => ((Keeps.refl [] w).alloc o).cell (by simp) hd
 have e2 : IntKind.i64.wrap (3 + extra) = 3 + extra := IntWalk.i64_in _ (by omega)
 clear hc hd ht
 go_enter Tryz.func184, Tryz.ntmps184
 go_wp2_with fail
 go_quiet (fail)
 go_wp2_with fail
 go_quiet (fail)
 go_wp2_with fail
 go_ret2
 exact ⟨rfl, (((Keeps.refl [] w).alloc _).drewN _).below.mono hb⟩
end Go.Proofs.YtghjlpechjggjaaGreatDoor
namespace Go.Proofs.YtghjlpechjggjaaGreatDoor
open Go.RowKit
theorem app_any {ops : Array Oper} {rest : List Oper} {o : Oper} {a : Act} {Q : Exit → Act → World → Prop} {w : World} (hgd : o.guard = none) (s x : Operand)
  (ho : o.op = .call { callee := .builtin .append, args := #[s, x], argTypes := #[90, 90] })
  (base : Nat) (v : Value) (n : Nat) (xs : List Int) (hs : a.eval s = v) (hown : w.ownsRow base 3 1 v n (ints .i64 xs))
  (A : Option Addr) (m c : Nat) (ys : List Int) (hx : a.eval x = .slice A m c) (hy : RI .i64 w A m ys) (hnil : A = none → m = 0 ∧ c = 0) (hpl : ∀ ad, A = some ad → ∃ b o, ad = ⟨b, o, none⟩)
  (hn : n + m ≤ 1000000) (hbase : base ≤ w.heap.size)
  (h : ∀ v' w', w'.ownsRow base 3 1 v' (n + m) (ints .i64 (xs ++ ys)) → w.grownBy w' v.ownBlock → wpList Tryz.prog ops Q rest (a.put o.dst v') w') : wpList Tryz.prog ops Q (o :: rest) a w := by
 obtain ⟨i0, hi, hz0, hz1, hz2⟩ := info_parts info_int
 cases A with
 | none =>
  obtain ⟨rfl, rfl⟩ := hnil rfl
  obtain rfl : ys = [] := List.eq_nil_of_length_eq_zero hy.len
  refine wpList_append_own_none hgd s x 90 ho base 3 i0 1 Tryz.underlying90 hi v n (ints .i64 xs) hs hown hx ?_
  exact h v w (by simpa using hown) ⟨rfl, rfl, rfl, Nat.le_refl _, fun _ _ _ => rfl⟩
 | some ad =>
  obtain ⟨b, of, rfl⟩ := hpl ad rfl
  refine wpList_append_own _ hgd s x 90 ho base 3 i0 (.int .i64 0) 1 8 Tryz.underlying90 hi hz0 hz1 hz2 rfl (by decide) v n (ints .i64 xs) hs hown ⟨b, of, none⟩ m c (ints .i64 ys) hx (by simp [ints, hy.len]) ?_ (ints_one _ _) (by unfold maxLen; omega) (by omega) hbase ?_
  ·intro j u hu
   have hj : j < m := by have := (List.getElem?_eq_some_iff.1 hu).1; have := hy.len; simp [ints] at *; omega
   rw [add_plain2]
   have hc := hy.cell b of rfl j hj
   rw [hc, ← hu, ints_getElem?]
   simp [nth, List.getD, show j < ys.length by have := hy.len; omega]
  ·intro v' w' h2 h3 _
   have e : ints .i64 (xs ++ ys) = ints .i64 xs ++ ints .i64 ys := by simp [ints]
   rw [e] at h
   exact h v' w' h2 h3
end Go.Proofs.YtghjlpechjggjaaGreatDoor
namespace Go.Proofs.YtghjlpechjggjaaGreatDoor
open Go.RowKit
def sLen : Value → Nat
 | .slice _ n _ => n
 | _ => 0
theorem cloneI_calls (w : World) (A : Option Addr) (n c : Nat) (xs : List Int) (hx : RI .i64 w A n xs) (hnil : A = none → n = 0 ∧ c = 0) (hpl : ∀ ad, A = some ad → ∃ b o, ad = ⟨b, o, none⟩) (hn : n ≤ 100000) :
  Calls Tryz.prog 185 #[.slice A n c] w fun e w' => ∃ v, e = .returned v ∧ w'.ownsRow w.heap.size 3 1 v n (ints .i64 xs) ∧ Below w.heap.size w w' := by
 have HX := Lib.hid hx
 have HP := Lib.hid hpl
 clear hx hpl
 go_enter Tryz.func185, Tryz.ntmps185
 cases A with
 | none =>
  obtain ⟨rfl, rfl⟩ := hnil rfl
  obtain rfl : xs = [] := List.eq_nil_of_length_eq_zero HX.out.len
  have hq := fun w => Lib.run_eql_slice_nil (P := Tryz.prog) w 90 3 none 0 0 0 0 Tryz.underlying90
  go_wp2_with fail
  go_ret
  exact ⟨_, rfl, World.ownsRow_nil _ _ _ _, Below.refl _ _⟩
 | some ad =>
  obtain ⟨b, o, rfl⟩ := HP.out ad rfl
  have hq := fun w => Lib.run_eql_slice_nil (P := Tryz.prog) w 90 3 (some ⟨b, o, none⟩) n c 0 0 Tryz.underlying90
  have HO : Hid ((w.alloc (.cells #[] 3)).ownsRow w.heap.size 3 1 (.slice (some ⟨w.heap.size, 0, none⟩) 0 0) 0 (ints .i64 [])) := Lib.hid (World.ownsRow_lit w #[] 0 (Nat.le_refl _) (by decide) rfl)
  have HR := Lib.hid (HX.out.keeps ((Keeps.refl [] w).alloc (.cells #[] 3)) (off_nil _))
  go_wp2_with (at_builtin; refine app_any rfl (.tmp 5) (.tmp 6) rfl w.heap.size _ _ [] rfl (by exact HO.out) (some ⟨b, o, none⟩) n c xs rfl (by exact HR.out) (by simp) (by intro ad h; exact ⟨_, _, (Option.some.inj h).symm⟩) (by omega) (by simp) ?_)
  intro v1 w1 ho1 hg1
  have HB1 := Lib.hid ((((Below.refl w.heap.size w).alloc (Nat.le_refl _) (.cells #[] 3))).grown hg1 (by simp) (fun k hk => (HO.out.lt k hk).1))
  have HO1 := Lib.hid ho1
  clear ho1 hg1
  go_wp2_with fail
  go_ret
  exact ⟨_, rfl, by simpa using HO1.out, HB1.out⟩
end Go.Proofs.YtghjlpechjggjaaGreatDoor
namespace Go.Proofs.YtghjlpechjggjaaGreatDoor
open Go.RowKit
theorem rep_ri {w : World} {g t m : Nat} {v : Int} (h : Blk w g t (ints .i64 (List.replicate m v))) : RI .i64 w (some ⟨g, 0, none⟩) m (List.replicate m v) := by
 have := Blk.ri (ys := []) (xs := List.replicate m v) (by simpa using h)
 simpa using this
theorem add_good (w : World) (base len : Nat) (u : Value) (l : List Int) (s : Nat) (extra n v : Int) (k : Nat) (hb : base ≤ w.heap.size) (ht : Tabs w) (hu : w.ownsRow base 3 1 u len (ints .i64 l)) (hlen : len ≤ 1000) (hsay : sayF l s extra = some (v, k)) :
  Calls Tryz.prog 184 #[u, .agg #[.int .i64 s, .int .i64 extra], .int .i64 n] w (Added w base (addF l s extra n)) := by
 obtain ⟨A, c, rfl, hri, hcap, hblk⟩ := own_ri hu
 have hll : l.length = len := hri.len
 have hkp := sayF_pos hsay
 have HS := Lib.hid hsay
 have HU := Lib.hid hu
 clear hu
 have HC : Hid (s ≤ 15 ∧ extra = 0 ∧ v = s ∧ k = 1 ∨ s = 16 ∧ 0 ≤ extra ∧ extra ≤ 3 ∧ 1 ≤ len ∧ v = nth l (len - 1) ∧ (k : Int) = 3 + extra ∨ s = 17 ∧ 0 ≤ extra ∧ extra ≤ 7 ∧ v = 0 ∧ (k : Int) = 3 + extra ∨ s = 18 ∧ 0 ≤ extra ∧ extra ≤ 127 ∧ v = 0 ∧ (k : Int) = 11 + extra) := by
  simp only [sayF] at hsay
  split at hsay
  ·rename_i h; simp at hsay; exact Or.inl ⟨by omega, h.2.2, hsay.1.symm, hsay.2.symm⟩
  ·split at hsay
   ·rename_i h; simp at hsay
    have : 1 ≤ l.length := by
     rcases Nat.eq_zero_or_pos l.length with h' | h'
     ·exact absurd (List.eq_nil_of_length_eq_zero h') h.2.2.2
     ·exact h'
    exact Or.inr (Or.inl ⟨by omega, h.2.1, h.2.2.1, by omega, by rw [← hll]; simpa [nth] using hsay.1.symm, by omega⟩)
   ·split at hsay
    ·rename_i h; simp at hsay; exact Or.inr (Or.inr (Or.inl ⟨by omega, h.2.1, h.2.2, hsay.1.symm, by omega⟩))
    ·split at hsay
     ·rename_i h; simp at hsay; exact Or.inr (Or.inr (Or.inr ⟨by omega, h.2.1, h.2.2, hsay.1.symm, by omega⟩))
     ·simp at hsay
 clear hsay
 have hglob : ∀ (j : Nat) (o : Obj), j < 19 → (w.alloc o).cell? ⟨2, j, none⟩ = some (.int .i64 (nth wideL j)) ∧ (w.alloc o).cell? ⟨4, j, none⟩ = some (.int .i64 (nth fromL j)) := fun j o hj => by
  have h1 := ht.wid.cell _ _ rfl j hj
  have h2 := ht.fro.cell _ _ rfl j hj
  rw [Nat.zero_add] at h1 h2
  exact ⟨((Keeps.refl [] w).alloc o).cell (by simp) h1, ((Keeps.refl [] w).alloc o).cell (by simp) h2⟩
 have HR := Lib.hid hri
 clear ht hri hll
 have e1 : decide ((s : Int) < 0) = false := by simp
 rcases HC.out with ⟨hs, rfl, hv, hk0⟩ | ⟨rfl, hx0, hx3, hl1, hv, hk⟩ | ⟨rfl, hx0, hx3, hv, hk⟩ | ⟨rfl, hx0, hx3, hv, hk⟩
 case' inl =>
  have hk1 : (k : Int) ≤ 1 := by omega
  have hk2 : 1 ≤ (k : Int) := by omega
  have HV := Lib.hid hv
  clear hv hk0
  have e2 : decide (19 ≤ (s : Int)) = false := by simp; omega
  have hl : (s : Int) < 19 := by omega
  have hc := fun o => (hglob s o (by omega)).1
  rw [wide0 s hs] at hc
  have e5 : decide (15 < (s : Int)) = false := by simp; omega
  have e6 : ((s : Int) == 16) = false := by simp; omega
  clear hglob HC
  go_enter Tryz.func184, Tryz.ntmps184
  go_wp2_with fail
  go_quiet (fail)
  go_upto_region 10 with (fail)
 case' inr.inl =>
  have hk1 : (k : Int) ≤ 3 + extra := by omega
  have hk2 : 3 + extra ≤ (k : Int) := by omega
  have HV := Lib.hid hv
  clear hv hk
  have e3 : decide (extra < 0) = false := by simp; omega
  have e4 : decide (4 ≤ extra) = false := by simp; omega
  have hc := fun o => (hglob 16 o (by omega)).1
  have hd := fun o => (hglob 16 o (by omega)).2
  rw [show nth wideL 16 = 2 from rfl] at hc
  rw [show nth fromL 16 = 3 from rfl] at hd
  have e2 : IntKind.i64.wrap (3 + extra) = 3 + extra := IntWalk.i64_in _ (by omega)
  obtain ⟨b, o, rfl, hlast⟩ := HR.out.at (show len - 1 < len by omega)
  have hlast' := fun ob => ((Keeps.refl [] w).alloc ob).cell (by simp) hlast
  have e7 : ((len : Int) == 0) = false := by simp; omega
  have e8 : ((len : Int) - 1).toNat = len - 1 := by omega
  clear hglob HC hlast
  go_enter Tryz.func184, Tryz.ntmps184
  go_wp2_with fail
  go_quiet (fail)
  go_wp2_with fail
  go_quiet (fail)
  go_upto_region 10 with (fail)
 case' inr.inr.inl =>
  have hk1 : (k : Int) ≤ 3 + extra := by omega
  have hk2 : 3 + extra ≤ (k : Int) := by omega
  have HV := Lib.hid hv
  clear hv hk
  have e3 : decide (extra < 0) = false := by simp; omega
  have e4 : decide (8 ≤ extra) = false := by simp; omega
  have hc := fun o => (hglob 17 o (by omega)).1
  have hd := fun o => (hglob 17 o (by omega)).2
  rw [show nth wideL 17 = 3 from rfl] at hc
  rw [show nth fromL 17 = 3 from rfl] at hd
  have e2 : IntKind.i64.wrap (3 + extra) = 3 + extra := IntWalk.i64_in _ (by omega)
  clear hglob HC
  go_enter Tryz.func184, Tryz.ntmps184
  go_wp2_with fail
  go_quiet (fail)
  go_wp2_with fail
  go_quiet (fail)
  go_upto_region 10 with (fail)
 case' inr.inr.inr =>
  have hk1 : (k : Int) ≤ 11 + extra := by omega
  have hk2 : 11 + extra ≤ (k : Int) := by omega
  have HV := Lib.hid hv
  clear hv hk
  have e3 : decide (extra < 0) = false := by simp; omega
  have e4 : decide (128 ≤ extra) = false := by simp; omega
  have hc := fun o => (hglob 18 o (by omega)).1
  have hd := fun o => (hglob 18 o (by omega)).2
  rw [show nth wideL 18 = 7 from rfl] at hc
  rw [show nth fromL 18 = 11 from rfl] at hd
  have e2 : IntKind.i64.wrap (11 + extra) = 11 + extra := IntWalk.i64_in _ (by omega)
  clear hglob HC
  go_enter Tryz.func184, Tryz.ntmps184
  go_wp2_with fail
  go_quiet (fail)
  go_wp2_with fail
  go_quiet (fail)
  go_upto_region 10 with (fail)
 all_goals
  by_cases hn : n < (len : Int) + (k : Int)
  ·go_wp2_with fail
   go_ret2
   rw [addF_many HS.out (by have := HR.out.len; omega)]
   exact ⟨rfl, Keeps.below (by repeat (first | exact Keeps.refl _ _ | apply Keeps.drewN | apply Keeps.alloc)) |>.mono hb⟩
  ·go_wp2_with fail
   refine (repeat_calls' _ _ _ k _ v (by omega) (by rw [HV.out]; go_simp) (by omega) (by omega)).mono ?_
   rintro e w6 ⟨g, rfl, hB, hg, hb6⟩
   have hK : Keeps [] w w6 := Keeps.trans (by repeat (first | exact Keeps.refl _ _ | apply Keeps.drewN | apply Keeps.alloc)) (Keeps.of_below hb6)
   have hO := own_keeps HU.out hK (by simp)
   have hRI := rep_ri hB
   have hsz : base ≤ w6.heap.size := Nat.le_trans hb hK.size
   have HO := Lib.hid hO
   have HRI := Lib.hid hRI
   have HK := Lib.hid hK
   clear hB hb6 hO hRI hK hg
   go_wp2_with (at_builtin; refine app_ints rfl (.tmp 63) (.tmp 67) rfl base _ _ _ rfl HO.out g k k (List.replicate k v) rfl HRI.out (by omega) hsz ?_)
   intro v' w7 h7 hg7
   have H7 := Lib.hid h7
   have HG := Lib.hid hg7
   clear h7 hg7
   go_wp2_with fail
   go_ret2
   rw [addF_some HS.out (by have := HR.out.len; omega)]
   refine ⟨v', rfl, ?_, ?_⟩
   ·rw [show (l ++ List.replicate k v).length = len + k by have := HR.out.len; simp; omega]; exact H7.out
   ·exact ((HK.out.below.mono hb).grown HG.out hsz (fun k hk => (HU.out.lt k hk).1))
end Go.Proofs.YtghjlpechjggjaaGreatDoor
namespace Go.Proofs.YtghjlpechjggjaaGreatDoor
open Go.RowKit
theorem add_calls (w : World) (base len : Nat) (u : Value) (l : List Int) (sym extra n : Int) (hb : base ≤ w.heap.size) (ht : Tabs w) (hu : w.ownsRow base 3 1 u len (ints .i64 l)) (hlen : len ≤ 1000) :
  Calls Tryz.prog 184 #[u, .agg #[.int .i64 sym, .int .i64 extra], .int .i64 n] w (Added w base (addF l sym extra n)) := by
 cases hsay : sayF l sym extra with
 | some p =>
  obtain ⟨v, k⟩ := p
  have h0 : 0 ≤ sym := by
   rcases Int.lt_or_le sym 0 with h | h
   ·rw [sayF_lit_none (by omega) (Or.inl h)] at hsay; cases hsay
   ·exact h
  obtain ⟨s, rfl⟩ := Int.eq_ofNat_of_zero_le h0
  exact add_good w base len u l s extra n v k hb ht hu hlen hsay
 | none =>
  obtain ⟨A, c, rfl, hri, hcap, hblk⟩ := own_ri hu
  by_cases hs : sym < 0 ∨ 18 < sym
  ·exact add_bad w base len c A l sym extra n hb hs
  ·by_cases hx : extra < 0
   ·exact add_neg w base len c A l sym extra n hb (by omega) (by omega) hx
   ·obtain ⟨s, rfl⟩ := Int.eq_ofNat_of_zero_le (show 0 ≤ sym by omega)
    by_cases ho : s ≤ 15 ∧ 1 ≤ extra ∨ s = 16 ∧ 4 ≤ extra ∨ s = 17 ∧ 8 ≤ extra ∨ s = 18 ∧ 128 ≤ extra
    ·exact add_over w base len c A l s extra n hb ht (by omega) ho
    ·rcases (by omega : s ≤ 15 ∨ s = 16 ∨ s = 17 ∨ s = 18) with h | rfl | rfl | rfl
     ·obtain rfl : extra = 0 := by omega
      rw [sayF_lit (by omega) (by omega)] at hsay; cases hsay
     ·have hl : l = [] := by
       rcases Classical.em (l = []) with h | h
       ·exact h
       ·rw [show ((16 : Nat) : Int) = 16 from rfl, sayF_16 (by omega) (by omega) h] at hsay; cases hsay
      subst hl
      obtain rfl : len = 0 := by have := hri.len; simpa using this.symm
      exact add_first w base c A extra n hb ht (by omega) (by omega)
     ·rw [show ((17 : Nat) : Int) = 17 from rfl, sayF_17 (by omega) (by omega)] at hsay; cases hsay
     ·rw [show ((18 : Nat) : Int) = 18 from rfl, sayF_18 (by omega) (by omega)] at hsay; cases hsay
end Go.Proofs.YtghjlpechjggjaaGreatDoor
namespace Go.Proofs.YtghjlpechjggjaaGreatDoor
open Go.RowKit
theorem Keeps.under {S : List Nat} {w w1 w2 : World} {B : Nat} (h : Keeps S w w1) (hb : Below B w1 w2) (hB : w.heap.size ≤ B) : Keeps S w w2 :=
 ⟨hb.os.trans h.os, hb.tape.trans h.tape, hb.output.trans h.output, Nat.le_trans h.size hb.size, fun k hk hs => (hb.block k (by omega)).trans (h.block k hk hs)⟩
theorem own_full {w : World} {base : Nat} {e : TypeId} {v : Value} {n : Nat} {k : IntKind} {xs : List Int} (h : w.ownsRow base e 1 v n (ints k xs)) :
  ∃ A c, v = .slice A n c ∧ RI k w A n xs ∧ n ≤ c ∧ (A = none → n = 0 ∧ c = 0) ∧ (∀ ad, A = some ad → ∃ b o, ad = ⟨b, o, none⟩) ∧ (∀ a, A = some a → base ≤ a.block ∧ a.block < w.heap.size) := by
 obtain ⟨A, c, rfl, h1, h2, h3⟩ := own_ri h
 refine ⟨A, c, rfl, h1, h2, ?_, ?_, fun a ha => ⟨(h3 a ha).1, (h3 a ha).2.1⟩⟩
 ·rintro rfl
  rcases h.2 with ⟨h4, h5⟩ | ⟨g, cap, cur, h4, _⟩
  ·injection h4 with _ _ h6
   exact ⟨h5, h6⟩
  ·injection h4 with h6; cases h6
 ·rintro ad rfl
  rcases h.2 with ⟨h4, h5⟩ | ⟨g, cap, cur, h4, _⟩
  ·injection h4 with h6; cases h6
  ·injection h4 with h6; injection h6 with h7; exact ⟨g, 0, h7⟩
end Go.Proofs.YtghjlpechjggjaaGreatDoor
