import Derived.Test.YtcblibefmclloaaDecB
import Derived.Test.YtcblibefmclloaaFirst
import Derived.Test.YtcblibefmclloaaCheck
import Derived.Test.YtcblibefmclloaaCodes
import Derived.Test.YtcblibefmclloaaRefOf
set_option linter.unusedVariables false
set_option linter.unusedSimpArgs false
namespace Go.Proofs.Ytcblibefmclloaa
open Go.RowKit
theorem own_form' {w : World} {base : Nat} {e : TypeId} {size n : Nat} {v : Value} {xs : List Value} (h : w.ownsRow base e size v n xs) : ∃ A c, v = .slice A n c := by
  rcases h.2 with ⟨rfl, rfl⟩ | ⟨g, cap, cur, rfl, _⟩
  · exact ⟨_, _, rfl⟩
  · exact ⟨_, _, rfl⟩
/-- A decoder under way. -/
def DSt (w : World) (g : Nat) (l : List Int) (a : Nat) (S : List Int) (L : Int) : Prop :=
  ∃ v, DB w g (lowL (lenCnt l) 16) (lenCnt l) (atL l a) v L ∧ w.ownsRow (g + 1) 3 1 v S.length (ints .i64 S)
/-- A decoder of a list of lengths, all of it from a block on. -/
def Dec (w : World) (g : Nat) (l : List Int) : Prop := DSt w g l 16 (symsB l 16) (longN l 16)
theorem DSt.keeps {w w' : World} {g a : Nat} {l S : List Int} {L : Int} {K : List Nat} (h : DSt w g l a S L) (hk : Keeps K w w') (hK : ∀ x ∈ K, x < g ∨ w.heap.size ≤ x) : DSt w' g l a S L := by
  obtain ⟨v, h1, h2⟩ := h
  refine ⟨v, h1.keeps hk (fun hm => by have := h1.lt; rcases hK g hm with h | h <;> omega), own_keeps h2 hk fun x hx hm => ?_⟩
  have a := own_lo h2 x hx
  have b := own_hi h2 x hx
  rcases hK x hm with h | h <;> omega
theorem DSt.at' {w : World} {g a : Nat} {l S : List Int} {L : Int} (h : DSt w g l a S L) (j : Nat) (hj : j < 16) (x : Int) (as' : List Int) (ha : (atL l a).set j x = atL l as'.length) : DSt (w.setCell ⟨g, 32 + j, none⟩ (.int .i64 x)) g l as'.length S L := by
  obtain ⟨v, h1, h2⟩ := h
  refine ⟨v, ?_, own_keeps h2 (S := [g]) ((Keeps.refl [g] w).setCell (Or.inl (by simp)) _) fun x hx hm => ?_⟩
  · have := h1.setAt hj x; rwa [ha] at this
  · have a := own_lo h2 x hx
    rw [List.mem_singleton.1 hm] at a; omega
/-- What making a decoder is to give. -/
def Made (w : World) (l : List Int) (e : Ending) (w' : World) : Prop :=
  Below w.heap.size w w' ∧ if checkF l = 0 then ∃ g, e = .returned (.tuple #[.pointer (some ⟨g, 0, none⟩), .int .i64 0]) ∧ Dec w' g l ∧ w.heap.size ≤ g
  else e = .returned (.tuple #[.pointer none, .int .i64 (checkF l)])
theorem made_err {w w' : World} {l : List Int} {e : Int} (hc : ¬ checkF l = 0) (he : e = checkF l) (h : Below w.heap.size w w') : Made w l (.returned (.tuple #[.pointer none, .int .i64 e])) w' := by
  subst he
  exact ⟨h, by rw [if_neg hc]⟩
theorem made_ok {w w' : World} {l : List Int} {g : Nat} (hc : checkF l = 0) (h : Below w.heap.size w w') (hd : Dec w' g l) (hg : w.heap.size ≤ g) : Made w l (.returned (.tuple #[.pointer (some ⟨g, 0, none⟩), .int .i64 0])) w' :=
  ⟨h, by rw [if_pos hc]; exact ⟨g, rfl, hd, hg⟩⟩
set_option maxRecDepth 100000 in
set_option maxHeartbeats 2000000 in
theorem new_calls (w : World) (A : Option Addr) (n c : Nat) (l : List Int) (hl : RI .i64 w A n l) (hn : n ≤ 140737488355328) :
    Calls Try.prog 19 #[.slice A n c] w (Made w l) := by
  have HL := Lib.hid hl
  have HLL := Lib.hid hl.len
  clear hl
  go_enter Try.func19, Try.ntmps19
  go_wp2_with fail
  refine (check_calls _ _ _ _ l HL.out hn).mono ?_
  rintro _ w1 ⟨rfl, hd⟩
  have HD := Lib.hid hd
  clear hd
  by_cases hc : checkF l = 0
  · have e1 : (checkF l != 0) = false := by simp [hc]
    have HC := Lib.hid hc
    have hok := check_ok hc
    have HOK := Lib.hid hok.2
    have hn288 : n ≤ 288 := by rw [← HLL.out]; exact hok.1
    have HL1 := Lib.hid (HL.out.keeps (HD.out.keeps (S := [])) (off_nil _))
    have HB1 := Lib.hid (HD.out.keeps (S := [])).below
    clear hc hok
    go_upto_region 5 with fail
    obtain ⟨wz, hwz⟩ : ∃ wz, wz = (w1.alloc (.cells (dcells (List.replicate 16 0) (List.replicate 16 0) (List.replicate 16 0) (.slice none 0 0) 0).toArray 73)) := ⟨_, rfl⟩
    change Code.wp _ _ _ _ (w1.alloc (.cells (dcells (List.replicate 16 0) (List.replicate 16 0) (List.replicate 16 0) (.slice none 0 0) 0).toArray 73))
    obtain ⟨g, hg⟩ : ∃ g, g = w1.heap.size := ⟨_, rfl⟩
    rw [← hg, ← hwz]
    have HZ : Hid (Blk wz g 73 (dcells (List.replicate 16 0) (List.replicate 16 0) (List.replicate 16 0) (.slice none 0 0) 0)) := by rw [hwz, hg]; exact blk_new w1 _ _
    have HKZ : Hid (Keeps [] w wz) := by rw [hwz]; exact Lib.hid ((HD.out.keeps (S := [])).alloc _)
    have HG : Hid (w.heap.size ≤ g) := by rw [hg]; exact Lib.hid HB1.out.size
    have HL2 := Lib.hid (HL.out.keeps HKZ.out (off_nil _))
    clear hg hwz HL1 HB1
    go_wp2_with fail
    refine (first_calls _ _ _ _ l HL2.out hn288 HOK.out).mono ?_
    rintro _ w2 ⟨rfl, hb⟩
    have HBZ := Lib.hid (HZ.out.keeps (Keeps.of_below (S := []) hb) (by simp))
    have HK2 := Lib.hid (HKZ.out.trans ((Keeps.of_below (S := []) hb)))
    clear hb HZ HKZ HL2
    obtain ⟨t1, t2, db⟩ := DB.start rfl HBZ.out (lowL (lenCnt l) 16) (lenCnt l) (lowL_len _ _) (lenCnt_len _)
    have hk3 : Keeps [] w ((w2.setCells g 0 (ints .i64 (lowL (lenCnt l) 16))).setCells g 16 (ints .i64 (lenCnt l))) := Keeps.setCells (.inr HG.out) _ _ _ (Keeps.setCells (.inr HG.out) _ _ _ HK2.out)
    obtain ⟨ca, hca⟩ : ∃ ca : Array Value, ca = (ints .i64 (lowL (lenCnt l) 16)).toArray := ⟨_, rfl⟩
    obtain ⟨cb, hcb⟩ : ∃ cb : Array Value, cb = (ints .i64 (lenCnt l)).toArray := ⟨_, rfl⟩
    have ka : ints .i64 (lowL (lenCnt l) 16) = ca.toList := by rw [hca]
    have kb : ints .i64 (lenCnt l) = cb.toList := by rw [hcb]
    have OA : Hid (ca.all (·.oneCell') = true) := by rw [hca]; exact Lib.hid (all_ints_one _)
    have OB : Hid (cb.all (·.oneCell') = true) := by rw [hcb]; exact Lib.hid (all_ints_one _)
    have LX : Hid (ca.size = 16) := by show _ = _; rw [hca]; simp [ints, lowL_len]
    have LY : Hid (cb.size = 16) := by show _ = _; rw [hcb]; simp [ints, lenCnt_len]
    rw [← hca, ← hcb]
    rw [← hca] at t1
    rw [← hcb, ka] at t2
    rw [ka, kb] at db hk3
    have T1 := Lib.hid t1
    have T2 := Lib.hid t2
    have DB0 := Lib.hid db
    have HK3 := Lib.hid hk3
    clear t1 t2 db hk3 ka kb hca hcb
    have KX : Hid ((Try.prog.info? 58).map (·.size) = some ca.size) := by show _ = _; rw [LX.out]; kernel_rfl
    have KY : Hid ((Try.prog.info? 58).map (·.size) = some cb.size) := by show _ = _; rw [LY.out]; kernel_rfl
    go_wp2_with (first
      | (refine wpList_store_mid rfl 58 (.tmp 24) (.tmp 21) rfl g 0 ca rfl rfl T1.out KX.out OA.out ?_)
      | (refine wpList_store_mid rfl 58 (.tmp 26) (.tmp 22) rfl g 16 cb rfl rfl T2.out KY.out OB.out ?_))
    generalize (w2.setCells g 0 ca.toList).setCells g 16 cb.toList = w3 at *
    have HS0 : Hid (DSt w3 g l 1 (symsB l 1) (longN l 1)) := by rw [symsB_one, longN_one]; exact ⟨_, by rw [atL_one]; exact DB0.out, World.ownsRow_nil _ _ _ _⟩
    clear HBZ HK2 T1 T2 DB0 KX KY OA OB LX LY
    have HLk : Hid (∀ wr : World, Keeps [] w wr → RI .i64 wr A n l) := Lib.hid (fun wr hk => HL.out.keeps hk (off_nil _))
    go_loopw [6] (fun mv wr => ∃ m : Nat, 1 ≤ m ∧ m ≤ 16 ∧ mv = .int .i64 m ∧ Hid (DSt wr g l m (symsB l m) (longN l m)) ∧ Hid (Keeps [] w wr)) (fun mv _ => 16 - (intOf mv).toNat)
    case atStart => exact ⟨1, by omega, by omega, rfl, HS0, HK3⟩
    case round =>
      clear HS0 HK3
      obtain ⟨m, hm1, hm2, rfl, HS, HK⟩ := hrel
      by_cases hm : m ≤ 15
      · have e0 : decide ((m : Int) ≤ 15) = true := by simp; omega
        have hsl := symsB_len l m
        obtain ⟨v, hdb, how⟩ := HS.out
        obtain ⟨vA, vc, rfl⟩ := own_form' how
        obtain ⟨q1, -⟩ := hdb.syms
        have q2 := hdb.at (j := m) (by omega)
        have q3 := hdb.free (32 + m)
        have HS1 : Hid (DSt (wr.setCell ⟨g, 32 + m, none⟩ (.int .i64 ((symsB l m).length : Int))) g l (m + 1) (symsB l m ++ symsOf l m 0) (longA l m 0)) := by
          have := HS.out.at' m (by omega) ((symsB l m).length : Int) (List.replicate (m + 1) 0) (by rw [List.length_replicate, atL_next l m hm1 (by omega)])
          rw [List.length_replicate] at this
          rw [longA_zero l m (by omega), show symsOf l m 0 = [] from rfl, List.append_nil]
          exact this
        have HK1 := Lib.hid (HK.out.setCell (p := ⟨g, 32 + m, none⟩) (.inr HG.out) (.int .i64 ((symsB l m).length : Int)))
        generalize nth (atL l m) m = z at *
        have HSL := Lib.hid hsl
        generalize hsz : (symsB l m).length = sz at *
        have HSZ := Lib.hid hsz
        clear hdb how HS HK hsl hsz
        go_wp2_with fail
        go_region
        go_wp2_with fail
        have HS2 : Hid (DSt (wr.setCell ⟨g, 32 + m, none⟩ (.int .i64 (sz : Int))).drew g l (m + 1) (symsB l m ++ symsOf l m 0) (longA l m 0)) := Lib.hid (HS1.out.keeps (Keeps.refl [] _).drew (by simp))
        have HK2 : Hid (Keeps [] w (wr.setCell ⟨g, 32 + m, none⟩ (.int .i64 (sz : Int))).drew) := Lib.hid HK1.out.drew
        clear HS1 HK1
        have q4 : 0 = 0 := rfl
        clear q1 q2 q3 q4
        go_loopw [43] (fun iv wr => ∃ i : Nat, i ≤ n ∧ iv = .int .i64 i ∧ Hid (DSt wr g l (m + 1) (symsB l m ++ symsOf l m i) (longA l m i)) ∧ Hid (Keeps [] w wr)) (fun iv _ => n - (intOf iv).toNat)
        case atStart => exact ⟨0, by omega, rfl, HS2, HK2⟩
        case round =>
          clear HS2 HK2
          obtain ⟨i, hi, rfl, HS, HK⟩ := hrel
          by_cases hlt : i < n
          · have hil : Hid (i < l.length) := by have := HLL.out; show _ < _; omega
            obtain ⟨b, o, rfl, hc⟩ := HL.out.at hlt
            have hc := HK.out.cell (by simp) hc
            by_cases hx : nth l i = m
            · have e1 : (nth l i == (m : Int)) = true := by simpa using hx
              have hs1 := symsOf_step l m i hx
              have hs2 := longA_step l m i (by omega) hm1 hil.out hx
              have HX1 := Lib.hid hs1
              have HX2 := Lib.hid hs2
              have hol : (symsOf l m i).length ≤ i := symsOf_len l m i
              have hsl := symsB_len l m
              clear hx hs1 hs2
              obtain ⟨v, hdb, how⟩ := HS.out
              obtain ⟨vA, vc, hvf⟩ := own_form' how
              subst hvf
              have hsn : (symsB l m ++ symsOf l m i).length ≤ 10000 := by
                rw [List.length_append]
                have : m * l.length ≤ 15 * 288 := Nat.mul_le_mul (by omega) (by have := HLL.out; omega)
                omega
              have HX3 : Hid (symsB l m ++ symsOf l m (i + 1) = (symsB l m ++ symsOf l m i) ++ [(i : Int)]) := by show _ = _; rw [HX1.out, List.append_assoc]
              generalize symsB l m ++ symsOf l m i = S at *
              generalize hsz : S.length = sz at *
              obtain ⟨q1, -⟩ := hdb.syms
              have HOW := Lib.hid (own_keeps how ((Keeps.refl [] wr).alloc (.cells #[.int .i64 (i : Int)] 3)) (by simp))
              have HDB := Lib.hid (hdb.keeps ((Keeps.refl [] wr).alloc (.cells #[.int .i64 (i : Int)] 3)) (by simp))
              have HRI : Hid (RI .i64 (wr.alloc (.cells #[.int .i64 (i : Int)] 3)) (some ⟨wr.heap.size, 0, none⟩) 1 [(i : Int)]) := Lib.hid (ri_one wr _ _ _)
              have HKA := Lib.hid (HK.out.alloc (.cells #[.int .i64 (i : Int)] 3))
              have hgl := hdb.lt
              have HSZ := Lib.hid hsz
              clear HS HK hdb how hol hsl hsz
              go_wp2_with (at_builtin; refine app_ints rfl (.tmp 55) (.tmp 57) rfl (g + 1) _ _ S rfl (by exact HOW.out) _ 1 1 [(i : Int)] rfl (by exact HRI.out) ?c1 ?c2 ?c3 ?c4 ?_)
              case c1 => simp
              case c2 => simp
              case c3 => omega
              case c4 => simp; omega
              intro v' w4 hv hg
              obtain ⟨A', c', hvf⟩ := own_form' hv
              subst hvf
              have hk4 := (Keeps.refl (Value.ownBlock (.slice vA sz vc)).toList (wr.alloc (.cells #[.int .i64 (i : Int)] 3))).grown hg (fun k hk => Or.inl (by simp [hk]))
              have hng : g ∉ (Value.ownBlock (.slice vA sz vc)).toList := fun hm => by
                have := own_lo HOW.out g (by simpa using hm)
                omega
              have hdb4 := HDB.out.keeps hk4 hng
              have hkw := HKA.out.grown hg (fun k hk => Or.inr (by have := own_lo HOW.out k hk; have := HG.out; omega))
              have HDB4 := Lib.hid hdb4
              have HKW := Lib.hid hkw
              have HV := Lib.hid hv
              obtain ⟨r1, -⟩ := hdb4.syms
              have r2 := hdb4.free 48
              have hdb5 := hdb4.setSyms (.slice A' (sz + 1) c')
              obtain ⟨-, r3⟩ := hdb5.syms
              have r4 := hdb5.free 49
              have HDB6 := Lib.hid (hdb5.setLong m)
              have hk6 : Keeps [g] w4 ((w4.setCell ⟨g, 48, none⟩ (.slice A' (sz + 1) c')).setCell ⟨g, 49, none⟩ (.int .i64 (m : Int))) := ((Keeps.refl [g] w4).setCell (Or.inl (by simp)) _).setCell (Or.inl (by simp)) _
              have HO6 : Hid (((w4.setCell ⟨g, 48, none⟩ (.slice A' (sz + 1) c')).setCell ⟨g, 49, none⟩ (.int .i64 (m : Int))).ownsRow (g + 1) 3 1 (.slice A' (sz + 1) c') (sz + 1) (ints .i64 (S ++ [(i : Int)]))) :=
                own_keeps HV.out hk6 (fun x hx hm => by have := own_lo HV.out x hx; rw [List.mem_singleton.1 hm] at this; omega)
              have HKX := Lib.hid ((HKW.out.setCell (p := ⟨g, 48, none⟩) (.inr HG.out) (.slice A' (sz + 1) c')).setCell (p := ⟨g, 49, none⟩) (.inr HG.out) (.int .i64 (m : Int)))
              clear hk4 hng hdb4 hkw hv hg hdb5 hk6 HOW HDB HRI HKA HDB4 HKW HV
              go_wp2_with fail
              go_roundw
              case rel => exact ⟨i + 1, by omega, by go_num, by rw [HX2.out, HX3.out]; exact ⟨.slice A' (sz + 1) c', HDB6.out, by rw [List.length_append, HSZ.out]; exact HO6.out⟩, HKX⟩
              case measure => simp [intOf]; omega
            · have e1 : (nth l i == (m : Int)) = false := by simpa using hx
              have HX1 := Lib.hid (symsOf_skip l m i hx)
              have HX2 := Lib.hid (longA_skip l m i (by omega) hil.out hx)
              clear hx
              go_wp2_with fail
              go_roundw
              case rel => exact ⟨i + 1, by omega, by go_num, by rw [HX1.out, HX2.out]; exact HS, HK⟩
              case measure => simp [intOf]; omega
          · obtain rfl : i = n := by omega
            have HS3 : Hid (DSt wr g l (m + 1) (symsB l (m + 1)) (longN l (m + 1))) := by
              have := HS.out
              rw [← HLL.out, longA_all l m hm1, ← symsB_next l m hm1] at this; exact this
            go_wp2_with fail
            go_roundw
            case rel => exact ⟨m + 1, by omega, by omega, by go_num, HS3, HK⟩
            case measure => simp [intOf]; omega
      · obtain rfl : m = 16 := by omega
        go_wp2_with fail
        go_ret2
        exact made_ok HC.out HK.out.below HS.out HG.out
  · have e1 : (checkF l != 0) = true := by simpa using hc
    have HR : Hid (¬ checkF l = 0) := Lib.hid hc
    go_wp2_with fail
    go_ret2
    exact made_err HR.out rfl (HD.out.keeps (S := [])).below
end Go.Proofs.Ytcblibefmclloaa
