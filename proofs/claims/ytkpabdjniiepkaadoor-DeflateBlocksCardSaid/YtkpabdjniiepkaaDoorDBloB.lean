/-
  Tokens are laid by the fixed codes just as the document says, and by codes of their own so that they are read again; or refused; of any tokens; what is handed in stays.
-/
import Derived.Test.YtkpabdjniiepkaaDoorDflO
import Derived.Test.YtkpabdjniiepkaaDoorDflH
import Derived.Test.YtkpabdjniiepkaaDoorDflB
import Derived.Test.YtkpabdjniiepkaaDoorDflN
import Derived.Test.YtkpabdjniiepkaaDoorDBloA
import Derived.Test.YtkpabdjniiepkaaDoorDflI
set_option linter.unusedVariables false
set_option linter.unusedSimpArgs false
/-! law07.unpacked. -/
namespace Go.Proofs.YtkpabdjniiepkaaDoor
open Go.RowKit
set_option maxRecDepth 100000 in
set_option maxHeartbeats 1000000 in
theorem unpacked_calls (w : World) (A B : Option Addr) (n c m d : Nat) (bs want : List Int) (hr : RI .u8 w A n bs) (hw : RI .u8 w B m want) (hb : ∀ x ∈ bs, 0 ≤ x ∧ x ≤ 255) (hn : n ≤ 1000000) (hm : m ≤ 1000000) (hI : inflR bs 16384 = (want, bs.length, 0)) :
    Calls Tryd.prog 13 #[.slice A n c, .slice B m d] w fun e w' => e = .returned (.bool true) ∧ Keeps [] w w' := by
  have HR := Lib.hid hr
  have HL : Hid (bs.length = n) := Lib.hid hr.len
  have HL2 : Hid (want.length = m) := Lib.hid hw.len
  have HW := Lib.hid hw
  have HB := Lib.hid (nth_u8 hb)
  have HI := Lib.hid hI
  clear hr hw hb hI
  go_enter Tryd.func13, Tryd.ntmps13
  go_wp2_with fail
  refine (rinflate_calls w A n c bs 16384 HR.out HB.out hn).mono ?_
  rintro e w1 ⟨B9, c9, rfl, hr9, -, hk9⟩
  rw [HI.out] at hr9 ⊢
  dsimp only at hr9 ⊢
  rw [HL.out, HL2.out] at *
  have HR9 := Lib.hid hr9
  have HW9 := Lib.hid (HW.out.keeps hk9 (off_nil _))
  have HK := Lib.hid hk9
  clear hr9 hk9
  go_wp2_with fail
  refine (keepBytes_calls w1 _ _ m m c9 d _ _ HR9.out HW9.out (by omega) (by omega)).mono ?_
  rintro _ w2 ⟨rfl, hd⟩
  rw [beq_self_eq_true]
  have HK2 := Lib.hid (HK.out.trans (hd.keeps (S := [])))
  clear hd
  go_wp2_with fail
  go_ret
  exact ⟨rfl, HK2.out⟩
end Go.Proofs.YtkpabdjniiepkaaDoor

set_option linter.unusedVariables false
set_option linter.unusedSimpArgs false
/-! ref01.Put, ref01.Bytes. -/
namespace Go.Proofs.YtkpabdjniiepkaaDoor
open Go.RowKit
theorem vbits_succ (x : Int) (i : Nat) : vbits x (i + 1) = vbits x i ++ [x / 2 ^ i % 2] := by
  unfold vbits
  rw [List.range_succ, List.map_append, List.map_singleton]
theorem div_succ (x : Int) (i : Nat) : x / 2 ^ i / 2 = x / 2 ^ (i + 1) := by
  rw [Int.pow_succ, ← div_div _ _ _ (pow_cast _)]
theorem div_bd {x : Int} (h0 : 0 ≤ x) (h1 : x < 4294967296) (i : Nat) : 0 ≤ x / 2 ^ i ∧ x / 2 ^ i < 4294967296 := by
  have hp := pow_cast i
  refine ⟨Int.ediv_nonneg h0 (by omega), Int.lt_of_le_of_lt (Int.ediv_le_self _ h0) h1⟩
set_option maxRecDepth 100000 in
set_option maxHeartbeats 1000000 in
theorem rput_calls (w : World) (base n : Nat) (v : Value) (L : List Int) (x : Int) (m : Nat) (hown : w.ownsRow base 5 1 v n (ints .u8 L)) (hb : base ≤ w.heap.size) (hn : n ≤ 100000000) (hx : 0 ≤ x) (hx1 : x < 4294967296) (hm : m ≤ 32) :
    Calls Tryd.prog 46 #[v, .int .u32 x, .int .i64 m] w fun e w' => ∃ v', e = .returned v' ∧ w'.ownsRow base 5 1 v' (n + m) (ints .u8 (L ++ vbits x m)) ∧ Below base w w' := by
  have HO := Lib.hid hown
  obtain ⟨A, c, rfl⟩ := own_formW hown
  clear hown
  go_enter Tryd.func46, Tryd.ntmps46
  go_wp2_with fail
  go_loopw [0, 1, 7] (fun lv xv iv wr => ∃ (i : Nat) (A1 : Option Addr) (c1 : Nat) (y : Int), i ≤ m ∧ lv = .slice A1 (n + i) c1 ∧ xv = .int .u32 y ∧ iv = .int .i64 i ∧ 0 ≤ y ∧ y < 4294967296 ∧ Hid (y = x / 2 ^ i) ∧ Hid (wr.ownsRow base 5 1 (.slice A1 (n + i) c1) (n + i) (ints .u8 (L ++ vbits x i))) ∧ Hid (Below base w wr)) (fun _ _ iv _ => m - (intOf iv).toNat)
  case atStart => exact ⟨0, A, c, x, by omega, rfl, rfl, rfl, hx, hx1, Lib.hid (by simp), Lib.hid (by simpa [vbits] using HO.out), Lib.hid (Below.refl _ _)⟩
  case round =>
    obtain ⟨i, A1, c1, y, hi, rfl, rfl, rfl, hy0, hy1, HY, HO1, HB⟩ := hrel
    by_cases hlt : i < m
    · have e0 : decide (i < m) = true := by simpa using hlt
      have hsz := HB.out.size
      have HR1 := Lib.hid (ri_one wr .u8 5 (y % 2))
      have s1 : IntKind.u8.wrap (y % 2) = y % 2 := IntWalk.u8_in _ (by omega)
      go_wp2_with (at_builtin; refine app_bytesB rfl (.tmp 13) (.tmp 17) rfl base (.slice A1 (n + i) c1) (n + i) (L ++ vbits x i) rfl (by exact HO1.out.alloc _) (some ⟨wr.heap.size, 0, none⟩) 1 1 [y % 2] rfl (by exact HR1.out) nofun (by omega) (by simp; omega) ?_)
      intro v2 w2 ho2 hg2 _
      obtain ⟨A2, c2, rfl⟩ := own_formW ho2
      have HO2 : Hid (w2.ownsRow base 5 1 (.slice A2 (n + (i + 1)) c2) (n + (i + 1)) (ints .u8 (L ++ vbits x (i + 1)))) := Lib.hid (by rw [vbits_succ, ← HY.out, ← Nat.add_assoc]; exact ho2)
      have HB2 := Lib.hid ((HB.out.alloc (by omega) (.cells #[.int .u8 (y % 2)] 5)).grown hg2 (by simp; omega) (fun k hk => own_lo HO1.out k hk))
      have HY2 : Hid (y / 2 = x / 2 ^ (i + 1)) := Lib.hid (by rw [HY.out, div_succ])
      clear ho2 hg2 HO1 HB HR1
      go_wp2_with fail
      go_roundw
      case rel => exact ⟨i + 1, A2, c2, y / 2, by omega, rfl, rfl, by go_num, by omega, by omega, HY2, HO2, HB2⟩
      case measure => simp [intOf]; omega
    · obtain rfl : i = m := by omega
      have e0 : decide (i < i) = false := by simp
      go_wp2_with fail
      go_ret
      exact ⟨_, rfl, HO1.out, HB.out⟩
/-! Bytes out of bits. -/
def sumB (L : List Int) (p : Nat) : Nat → Int
  | 0 => 0
  | k + 1 => sumB L p k + nth L (p + k) * 2 ^ k
def bytesF (L : List Int) (q : Nat) : List Int := (List.range q).map fun j => sumB L (8 * j) 8
theorem bytesF_succ (L : List Int) (q : Nat) : bytesF L (q + 1) = bytesF L q ++ [sumB L (8 * q) 8] := by
  unfold bytesF; rw [List.range_succ, List.map_append, List.map_singleton]
theorem nth_out {L : List Int} {j : Nat} (h : L.length ≤ j) : nth L j = 0 := by simp [nth, List.getD, List.getElem?_eq_none h]
theorem sumB_end (L : List Int) (p k : Nat) (h : L.length ≤ p + k) : ∀ m, k ≤ m → sumB L p m = sumB L p k
  | 0, hm => by obtain rfl : k = 0 := by omega
                rfl
  | m + 1, hm => by
    by_cases e : k = m + 1
    · rw [e]
    · rw [sumB, sumB_end L p k h m (by omega), nth_out (by omega)]; omega
def Bits01 (L : List Int) : Prop := ∀ j, nth L j = 0 ∨ nth L j = 1
theorem sumB_bd {L : List Int} (h : Bits01 L) (p : Nat) : ∀ k, 0 ≤ sumB L p k ∧ sumB L p k < 2 ^ k
  | 0 => by simp [sumB]
  | k + 1 => by
    obtain ⟨a, b⟩ := sumB_bd h p k
    have hp := pow_cast k
    rw [sumB, Int.pow_succ]
    rcases h (p + k) with e | e <;> rw [e] <;> omega
theorem byte_bits (b0 b1 b2 b3 b4 b5 b6 b7 : Int) (h0 : 0 ≤ b0 ∧ b0 ≤ 1) (h1 : 0 ≤ b1 ∧ b1 ≤ 1) (h2 : 0 ≤ b2 ∧ b2 ≤ 1) (h3 : 0 ≤ b3 ∧ b3 ≤ 1) (h4 : 0 ≤ b4 ∧ b4 ≤ 1) (h5 : 0 ≤ b5 ∧ b5 ≤ 1) (h6 : 0 ≤ b6 ∧ b6 ≤ 1) (h7 : 0 ≤ b7 ∧ b7 ≤ 1) :
    ∀ s, s = b0 + b1 * 2 + b2 * 4 + b3 * 8 + b4 * 16 + b5 * 32 + b6 * 64 + b7 * 128 → s % 2 = b0 ∧ s / 2 % 2 = b1 ∧ s / 4 % 2 = b2 ∧ s / 8 % 2 = b3 ∧ s / 16 % 2 = b4 ∧ s / 32 % 2 = b5 ∧ s / 64 % 2 = b6 ∧ s / 128 % 2 = b7 := by
  intro s hs
  refine ⟨?_, ?_, ?_, ?_, ?_, ?_, ?_, ?_⟩ <;> omega
theorem sumB_bit {L : List Int} (h : Bits01 L) (p : Nat) : ∀ t, t < 8 → sumB L p 8 / 2 ^ t % 2 = nth L (p + t) := by
  have b : ∀ i, 0 ≤ nth L (p + i) ∧ nth L (p + i) ≤ 1 := fun i => by rcases h (p + i) with e | e <;> rw [e] <;> decide
  have e : sumB L p 8 = nth L (p + 0) + nth L (p + 1) * 2 + nth L (p + 2) * 4 + nth L (p + 3) * 8 + nth L (p + 4) * 16 + nth L (p + 5) * 32 + nth L (p + 6) * 64 + nth L (p + 7) * 128 := by
    simp [sumB]
  obtain ⟨c0, c1, c2, c3, c4, c5, c6, c7⟩ := byte_bits _ _ _ _ _ _ _ _ (b 0) (b 1) (b 2) (b 3) (b 4) (b 5) (b 6) (b 7) _ e
  intro t ht
  match t, ht with
  | 0, _ => simpa using c0
  | 1, _ => exact c1
  | 2, _ => exact c2
  | 3, _ => exact c3
  | 4, _ => exact c4
  | 5, _ => exact c5
  | 6, _ => exact c6
  | 7, _ => exact c7
  | t + 8, ht => omega
theorem bytesF_wb {L : List Int} (h : Bits01 L) : WB (bytesF L ((L.length + 7) / 8)) L := by
  have hl : (bytesF L ((L.length + 7) / 8)).length = (L.length + 7) / 8 := by simp [bytesF]
  have hn : ∀ j, j < (L.length + 7) / 8 → nth (bytesF L ((L.length + 7) / 8)) j = sumB L (8 * j) 8 := fun j hj => by simp [nth, List.getD, bytesF, hj]
  refine ⟨hl, fun j => ?_, fun h8 => ?_, fun i hi => ?_⟩
  · by_cases hj : j < (L.length + 7) / 8
    · rw [hn j hj]
      have := sumB_bd h (8 * j) 8
      rw [show (2 : Int) ^ 8 = 256 from rfl] at this
      omega
    · rw [nth_out (by omega)]; omega
  · rw [hn _ (by omega), sumB_end L (8 * (L.length / 8)) (L.length % 8) (by omega) 8 (by omega)]
    exact (sumB_bd h _ _).2
  · unfold bitAt
    rw [hn _ (by omega), sumB_bit h _ _ (by omega), show 8 * (i / 8) + i % 8 = i by omega]
set_option maxRecDepth 100000 in
set_option maxHeartbeats 2000000 in
theorem rbytes_calls (w : World) (A : Option Addr) (n c : Nat) (L : List Int) (hr : RI .u8 w A n L) (hA : ∀ a, A = some a → a.block < w.heap.size) (h01 : Bits01 L) (hn : n ≤ 100000000) :
    Calls Tryd.prog 49 #[.slice A n c] w fun e w' => ∃ v xs, e = .returned v ∧ w'.ownsRow w.heap.size 5 1 v xs.length (ints .u8 xs) ∧ WB xs L ∧ Below w.heap.size w w' := by
  have HR := Lib.hid hr
  have HL : Hid (L.length = n) := Lib.hid hr.len
  have HA := Lib.hid hA
  have H01 := Lib.hid h01
  clear hr hA h01
  go_enter Tryd.func49, Tryd.ntmps49
  go_wp2_with fail
  go_loopw [3, 4] (fun ov iv wr => ∃ (q : Nat) (A1 : Option Addr) (c1 : Nat), q ≤ (n + 7) / 8 ∧ ov = .slice A1 q c1 ∧ iv = .int .i64 ((8 * q : Nat) : Int) ∧ Hid (wr.ownsRow w.heap.size 5 1 (.slice A1 q c1) q (ints .u8 (bytesF L q))) ∧ Hid (Below w.heap.size w wr)) (fun _ iv _ => n + 8 - (intOf iv).toNat)
  case atStart => exact ⟨0, none, 0, by omega, rfl, rfl, Lib.hid (World.ownsRow_nil _ _ _ _), Lib.hid (Below.refl _ _)⟩
  case round =>
    obtain ⟨q, A1, c1, hq, rfl, rfl, HO, HB⟩ := hrel
    obtain ⟨p, hp⟩ : ∃ p, p = 8 * q := ⟨_, rfl⟩
    rw [← hp]
    have HP := Lib.hid hp
    by_cases hlt : p < n
    · have e0 : decide (p < n) = true := by simpa using hlt
      have HRI := Lib.hid (ri_belowT HR.out HA.out HB.out)
      have hsz := HB.out.size
      have s1 : IntKind.i64.wrap ((p : Int) + 8) = (p : Int) + 8 := IntWalk.i64_in _ (by omega)
      clear hp
      obtain ⟨wo, hwo⟩ : ∃ x : World, x = wr := ⟨_, rfl⟩
      rw [← hwo] at HO HB HRI hsz ⊢
      clear hwo
      go_wp2_with fail
      go_loopw [5, 6, 7] (fun cv wv kv wi => ∃ (t : Nat) (C W : Int), t ≤ 8 ∧ p + t ≤ n ∧ cv = .int .i64 C ∧ wv = .int .i64 W ∧ kv = .int .i64 ((p + t : Nat) : Int) ∧ 0 ≤ C ∧ C < W ∧ W ≤ 256 ∧ Hid (C = sumB L p t) ∧ Hid (W = 2 ^ t) ∧ Hid (Dr wo wi)) (fun _ _ kv _ => p + 8 - (intOf kv).toNat)
      case atStart => exact ⟨0, 0, 1, by omega, by omega, rfl, rfl, by go_num, by omega, by omega, by omega, Lib.hid rfl, Lib.hid rfl, Lib.hid (Dr.refl wo)⟩
      case round =>
        obtain ⟨t, C, W, ht, hpt, rfl, rfl, rfl, hC0, hC1, hW, HC, HW, HD⟩ := hrel
        by_cases hmore : t < 8 ∧ p + t < n
        · obtain ⟨ht8, hpn⟩ := hmore
          have e1 : decide (((p + t : Nat) : Int) < (p : Int) + 8) = true := by simp; omega
          have e1' : decide ((p : Int) + (t : Int) < (p : Int) + 8) = true := by simp; omega
          have e1'' : decide ((t : Int) < 8) = true := by simp; omega
          have e2 : decide (((p + t : Nat) : Int) < (n : Int)) = true := by simp; omega
          have e2' : decide ((p : Int) + (t : Int) < (n : Int)) = true := by simp; omega
          have e2'' : decide (p + t < n) = true := by simp; omega
          obtain ⟨b, o, rfl, hcl⟩ := (HRI.out.keeps (HD.out.keeps (S := [])) (off_nil _)).at hpn
          have h01 := H01.out (p + t)
          have HC2 : Hid (C + nth L (p + t) * W = sumB L p (t + 1)) := Lib.hid (by rw [HC.out, HW.out]; rfl)
          have HW2 : Hid (2 * W = 2 ^ (t + 1)) := Lib.hid (by rw [HW.out, Int.pow_succ]; omega)
          have hW2 : 2 * W ≤ 256 := by
            rw [HW2.out]
            have : (2 : Nat) ^ (t + 1) ≤ 2 ^ 8 := Nat.pow_le_pow_right (by omega) (by omega)
            exact_mod_cast this
          have hy : 0 ≤ nth L (p + t) * W ∧ nth L (p + t) * W ≤ W := by rcases h01 with e | e <;> rw [e] <;> omega
          have hyr : 0 ≤ nth L (p + t) ∧ nth L (p + t) ≤ 1 := by rcases h01 with e | e <;> rw [e] <;> decide
          clear h01
          generalize nth L (p + t) = y at *
          have s2 : IntKind.i64.wrap (y * W) = y * W := IntWalk.i64_in _ (by omega)
          have s3 : IntKind.i64.wrap (C + y * W) = C + y * W := IntWalk.i64_in _ (by omega)
          have s4 : IntKind.i64.wrap (2 * W) = 2 * W := IntWalk.i64_in _ (by omega)
          have s5 : IntKind.i64.wrap y = y := IntWalk.i64_in _ (by omega)
          go_wp2_with fail
          go_roundw
          case rel => exact ⟨t + 1, C + y * W, 2 * W, by omega, by omega, rfl, rfl, by go_num, by omega, by omega, by omega, HC2, HW2, Lib.hid (by first | exact HD.out | exact HD.out.step _)⟩
          case measure => simp [intOf]; omega
        · have HF : Hid (C = sumB L p 8) := Lib.hid (by
            rw [HC.out]
            by_cases h8 : t = 8
            · rw [h8]
            · exact (sumB_end L p t (by have := HL.out; omega) 8 ht).symm)
          have hC8 : C ≤ 255 := by omega
          by_cases ht8 : t < 8
          · have e1 : decide (((p + t : Nat) : Int) < (p : Int) + 8) = true := by simp; omega
            have e1' : decide ((p : Int) + (t : Int) < (p : Int) + 8) = true := by simp; omega
            have e1'' : decide ((t : Int) < 8) = true := by simp; omega
            have e2 : decide (((p + t : Nat) : Int) < (n : Int)) = false := by simp; omega
            have e2' : decide ((p : Int) + (t : Int) < (n : Int)) = false := by simp; omega
            have e2'' : decide (p + t < n) = false := by simp; omega
            obtain ⟨q1, hd⟩ := HD.out
            have hszr : w.heap.size ≤ wr.heap.size := by rw [hd]; exact hsz
            have HBi := Lib.hid (HB.out.trans ((Dr.keeps (S := []) ⟨q1, hd⟩).below.mono hsz))
            have HOi := Lib.hid (own_keeps HO.out (Dr.keeps (S := []) ⟨q1, hd⟩) (by simp))
            have HR1 := Lib.hid (ri_one wr .u8 5 C)
            have s6 : IntKind.u8.wrap C = C := IntWalk.u8_in _ (by omega)
            clear hd HD
            go_wp2_with (at_builtin; refine app_bytesB rfl (.tmp 38) (.tmp 41) rfl w.heap.size (.slice A1 q c1) q (bytesF L q) rfl (by exact HOi.out.alloc _) (some ⟨wr.heap.size, 0, none⟩) 1 1 [C] rfl (by exact HR1.out) nofun (by omega) (by simp; omega) ?_)
            intro v2 w2 ho2 hg2 _
            obtain ⟨A2, c2, rfl⟩ := own_formW ho2
            have HO2 : Hid (w2.ownsRow w.heap.size 5 1 (.slice A2 (q + 1) c2) (q + 1) (ints .u8 (bytesF L (q + 1)))) := Lib.hid (by rw [bytesF_succ, ← HP.out, ← HF.out]; exact ho2)
            have HB2 := Lib.hid ((HBi.out.alloc (by omega) (.cells #[.int .u8 C] 5)).grown hg2 (by simp; omega) (fun k hk => own_lo HOi.out k hk))
            have s8 : IntKind.i64.wrap ((p : Int) + 8) = (p : Int) + 8 := IntWalk.i64_in _ (by omega)
            have hpp := HP.out
            clear ho2 hg2 HOi HBi HR1
            go_wp2_with fail
            go_roundw
            case rel => exact ⟨q + 1, A2, c2, by omega, rfl, by go_num, HO2, HB2⟩
            case measure => simp [intOf]; omega
          · have e1 : decide (((p + t : Nat) : Int) < (p : Int) + 8) = false := by simp; omega
            have e1' : decide ((p : Int) + (t : Int) < (p : Int) + 8) = false := by simp; omega
            have e1'' : decide ((t : Int) < 8) = false := by simp; omega
            obtain ⟨q1, hd⟩ := HD.out
            have hszr : w.heap.size ≤ wr.heap.size := by rw [hd]; exact hsz
            have HBi := Lib.hid (HB.out.trans ((Dr.keeps (S := []) ⟨q1, hd⟩).below.mono hsz))
            have HOi := Lib.hid (own_keeps HO.out (Dr.keeps (S := []) ⟨q1, hd⟩) (by simp))
            have HR1 := Lib.hid (ri_one wr .u8 5 C)
            have s6 : IntKind.u8.wrap C = C := IntWalk.u8_in _ (by omega)
            clear hd HD
            go_wp2_with (at_builtin; refine app_bytesB rfl (.tmp 38) (.tmp 41) rfl w.heap.size (.slice A1 q c1) q (bytesF L q) rfl (by exact HOi.out.alloc _) (some ⟨wr.heap.size, 0, none⟩) 1 1 [C] rfl (by exact HR1.out) nofun (by omega) (by simp; omega) ?_)
            intro v2 w2 ho2 hg2 _
            obtain ⟨A2, c2, rfl⟩ := own_formW ho2
            have HO2 : Hid (w2.ownsRow w.heap.size 5 1 (.slice A2 (q + 1) c2) (q + 1) (ints .u8 (bytesF L (q + 1)))) := Lib.hid (by rw [bytesF_succ, ← HP.out, ← HF.out]; exact ho2)
            have HB2 := Lib.hid ((HBi.out.alloc (by omega) (.cells #[.int .u8 C] 5)).grown hg2 (by simp; omega) (fun k hk => own_lo HOi.out k hk))
            have s8 : IntKind.i64.wrap ((p : Int) + 8) = (p : Int) + 8 := IntWalk.i64_in _ (by omega)
            have hpp := HP.out
            clear ho2 hg2 HOi HBi HR1
            go_wp2_with fail
            go_roundw
            case rel => exact ⟨q + 1, A2, c2, by omega, rfl, by go_num, HO2, HB2⟩
            case measure => simp [intOf]; omega
    · have e0 : decide (p < n) = false := by simpa using hlt
      have HWB : Hid (WB (bytesF L q) L) := Lib.hid (by
        have := bytesF_wb H01.out
        rwa [show (L.length + 7) / 8 = q by have := HL.out; omega] at this)
      have hql : (bytesF L q).length = q := by simp [bytesF]
      have HQL := Lib.hid hql
      clear hp hql
      go_wp2_with fail
      go_ret
      exact ⟨_, bytesF L q, rfl, by rw [HQL.out]; exact HO.out, HWB.out, HB.out⟩
end Go.Proofs.YtkpabdjniiepkaaDoor

set_option linter.unusedVariables false
set_option linter.unusedSimpArgs false
/-! ref06.Check, ref07.Fixed. -/
namespace Go.Proofs.YtkpabdjniiepkaaDoor
open Go.RowKit
theorem rcheck6_calls (w : World) (A : Option Addr) (n c : Nat) (ts : List Tok) (h : RT w A n ts) (hA : ∀ a, A = some a → a.block < w.heap.size) (hn : n ≤ 140737488355328) :
    Calls Tryd.prog 19 #[.slice A n c] w fun e w' => e = .returned (.int .i64 (checkT ts 0)) ∧ Keeps [] w w' := by
  have H := Lib.hid (rexpand_calls w A n c ts h hA hn)
  have HE := Lib.hid (checkT_expand ts [])
  clear h hA
  go_enter Tryd.func19, Tryd.ntmps19
  go_wp2_with fail
  refine H.out.mono ?_
  rintro _ w1 ⟨v, rfl, -, hb⟩
  have HB := Lib.hid (Keeps.of_below hb (S := []))
  rw [HE.out]
  clear hb H
  go_wp2_with fail
  go_ret
  exact ⟨rfl, HB.out⟩
def Bin (L : List Int) : Prop := ∀ x ∈ L, x = 0 ∨ x = 1
theorem Bin.app {a b : List Int} (h : Bin a) (k : Bin b) : Bin (a ++ b) := fun x hx => by
  rcases List.mem_append.1 hx with h1 | h1
  · exact h x h1
  · exact k x h1
theorem bin_vbits (v : Int) (n : Nat) : Bin (vbits v n) := fun x hx => by
  obtain ⟨t, -, rfl⟩ := List.mem_map.1 hx
  omega
theorem bin_cbit (l : List Int) (s : Nat) : Bin (cbit l s) := fun x hx => by
  unfold cbit msbF at hx
  obtain ⟨t, -, rfl⟩ := List.mem_map.1 hx
  omega
theorem bin_toks (lit dist : List Int) (ts : List Tok) : Bin (toksB lit dist ts) := fun x hx => by
  obtain ⟨t, -, h⟩ := List.mem_flatMap.1 hx
  unfold tokB behB at h
  split at h
  · exact bin_cbit _ _ x h
  · exact ((bin_cbit _ _).app ((bin_vbits _ _).app ((bin_cbit _ _).app (bin_vbits _ _)))) x h
theorem bin_fix (ts : List Tok) : Bin (fixB ts) := by
  unfold fixB
  refine Bin.app (fun x hx => ?_) ((bin_toks _ _ _).app (bin_cbit _ _))
  simp at hx
  omega
theorem Bin.bits {L : List Int} (h : Bin L) : Bits01 L := fun j => by
  by_cases hj : j < L.length
  · rw [nth_lt hj]; exact h _ (List.getElem_mem _)
  · left; exact nth_out (by omega)
/-- A row of bits on its way. -/
structure LB (base : Nat) (wb w' : World) (v : Value) (L : List Int) : Prop where
  own : w'.ownsRow base 5 1 v L.length (ints .u8 L)
  be : Below base wb w'
set_option maxRecDepth 100000 in
set_option maxHeartbeats 4000000 in
theorem r7fix_calls (w : World) (At : Option Addr) (nt ct : Nat) (ts : List Tok) (ht : RT w At nt ts) (ha : ∀ a, At = some a → a.block < w.heap.size) (hl : LitOk ts) (hc : checkT ts 0 = 0) :
    Calls Tryd.prog 21 #[.slice At nt ct] w fun e w' => ∃ v xs, e = .returned v ∧ w'.ownsRow w.heap.size 5 1 v xs.length (ints .u8 xs) ∧ WB xs (fixB ts) ∧ Below w.heap.size w w' := by
  have hX0 : (expandF 16384 ts []).2 = 0 := (checkT_expand ts []).trans hc
  have HTK := Lib.hid (fix_toks hl hX0)
  have HR := Lib.hid (expand_toks ts [] hX0)
  have HLT : Hid (ts.length = nt) := Lib.hid ht.len
  have hnt : nt ≤ 16384 := by rw [← HLT.out]; exact check_many hc
  have HT := Lib.hid ht
  have HA := Lib.hid ha
  clear ht ha hl hc hX0
  go_enter Tryd.func21, Tryd.ntmps21
  go_wp2_with fail
  refine (r7fixed_calls w).mono ?_
  rintro _ w1 ⟨v1, v2, rfl, ho1, ho2, hb1⟩
  obtain ⟨A1, c1, rfl⟩ := own_formW ho1
  obtain ⟨A2, c2, rfl⟩ := own_formW ho2
  have hri : RI .i64 w1 A1 288 fixLit ∧ RI .i64 w1 A2 32 fixDist := by
    obtain ⟨A', c', hv, hr, -⟩ := own_ri ho1
    injection hv with q1 q2 q3
    subst q1
    obtain ⟨A'', c'', hv2, hr2, -⟩ := own_ri ho2
    injection hv2 with q1 q2 q3
    subst q1
    exact ⟨hr, hr2⟩
  have R1 := Lib.hid hri.1
  have R2 := Lib.hid hri.2
  have K1 := Lib.hid (Keeps.of_below hb1 (S := []))
  have HA1 : Hid (∀ a, A1 = some a → a.block < w1.heap.size) := Lib.hid (fun a h => own_hi ho1 a.block (by rw [h]; rfl))
  have HA2 : Hid (∀ a, A2 = some a → a.block < w1.heap.size) := Lib.hid (fun a h => own_hi ho2 a.block (by rw [h]; rfl))
  clear ho1 ho2 hb1 hri
  go_wp2_with fail
  refine (refCodes_calls w1 _ _ _ fixLit R1.out (by omega)).mono ?_
  rintro e w2 ⟨v3, rfl, ho3, hb2⟩
  rw [(codes_atW fix_lit).1, show fixLit.length = 288 from rfl] at ho3
  obtain ⟨A3, c3, rfl⟩ := own_formW ho3
  have hk2 := Keeps.of_below hb2 (S := [])
  have R22 := Lib.hid (R2.out.keeps hk2 (off_nil _))
  have R12 := Lib.hid (R1.out.keeps hk2 (off_nil _))
  have O3 := Lib.hid ho3
  have K2 := Lib.hid (K1.out.trans hk2)
  have hs2 := hk2.size
  clear ho3 hb2 hk2 R1 R2 K1
  go_wp2_with fail
  refine (refCodes_calls w2 _ _ _ fixDist R22.out (by omega)).mono ?_
  rintro e w3 ⟨v4, rfl, ho4, hb3⟩
  rw [(codes_atW fix_dist).1, show fixDist.length = 32 from rfl] at ho4
  obtain ⟨A4, c4, rfl⟩ := own_formW ho4
  have hk3 := Keeps.of_below hb3 (S := [])
  have R13 := Lib.hid (R12.out.keeps hk3 (off_nil _))
  have R23 := Lib.hid (R22.out.keeps hk3 (off_nil _))
  have hr33 : RI .u32 w3 A3 288 (codesF fixLit).1 ∧ RI .u32 w3 A4 32 (codesF fixDist).1 ∧ (∀ a, A3 = some a → a.block < w3.heap.size) ∧ (∀ a, A4 = some a → a.block < w3.heap.size) := by
    have o3 := own_keeps O3.out hk3 (by simp)
    obtain ⟨A', c', hv, hr, -⟩ := own_ri o3
    injection hv with q1 q2 q3
    subst q1
    obtain ⟨A'', c'', hv2, hr2, -⟩ := own_ri ho4
    injection hv2 with q1 q2 q3
    subst q1
    exact ⟨hr, hr2, fun a h => own_hi o3 a.block (by rw [h]; rfl), fun a h => own_hi ho4 a.block (by rw [h]; rfl)⟩
  have R33 := Lib.hid hr33.1
  have R43 := Lib.hid hr33.2.1
  have HA3 := Lib.hid hr33.2.2.1
  have HA4 := Lib.hid hr33.2.2.2
  have K3 := Lib.hid (K2.out.trans hk3)
  have hs3 := hk3.size
  have hw3 := K3.out.size
  clear ho4 hb3 hk3 R12 R22 hr33 O3 K2
  have HSL : Hid (∀ s, Tells fixLit s → ∃ y M, CodeS fixLit (codesF fixLit).1 s y M) := Lib.hid (fun s h => codeS_of fix_lit h)
  have HSD : Hid (∀ s, Tells fixDist s → ∃ y M, CodeS fixDist (codesF fixDist).1 s y M) := Lib.hid (fun s h => codeS_of fix_dist h)
  -- whatever keeps what lies below the row of bits keeps these
  have HXT : Hid (∀ w', Below w3.heap.size w3 w' → RT w' At nt ts) := Lib.hid (fun w' h => rt_belowE (HT.out.keeps K3.out (off_nil _)) (fun a e => Nat.lt_of_lt_of_le (HA.out a e) hw3) h)
  have HX1 : Hid (∀ w', Below w3.heap.size w3 w' → RI .i64 w' A1 288 fixLit) := Lib.hid (fun w' h => ri_belowT R13.out (fun a e => by have := HA1.out a e; omega) h)
  have HX2 : Hid (∀ w', Below w3.heap.size w3 w' → RI .i64 w' A2 32 fixDist) := Lib.hid (fun w' h => ri_belowT R23.out (fun a e => by have := HA2.out a e; omega) h)
  have HX3 : Hid (∀ w', Below w3.heap.size w3 w' → RI .u32 w' A3 288 (codesF fixLit).1) := Lib.hid (fun w' h => ri_belowT R33.out HA3.out h)
  have HX4 : Hid (∀ w', Below w3.heap.size w3 w' → RI .u32 w' A4 32 (codesF fixDist).1) := Lib.hid (fun w' h => ri_belowT R43.out HA4.out h)
  clear R13 R23 R33 R43 HT
  generalize (codesF fixLit).1 = cl at *
  generalize (codesF fixLit).2 = el at *
  generalize (codesF fixDist).1 = dl at *
  generalize (codesF fixDist).2 = ed at *
  have hblk := blk_new w3 5 (ints .u8 [1, 1, 0])
  have HL0 : Hid (LB w3.heap.size w3 (w3.alloc (.cells (ints .u8 [1, 1, 0]).toArray 5)) (.slice (some ⟨w3.heap.size, 0, none⟩) 3 3) [1, 1, 0]) := Lib.hid ⟨own_of_blkK (n := 3) hblk rfl (Nat.le_refl _) (by omega), (Below.refl _ w3).alloc (Nat.le_refl _) _⟩
  clear hblk
  go_wp2_with fail
  go_loopw [9, 10] (fun lv iv wr => ∃ (p m : Nat) (AO : Option Addr) (co : Nat) (L : List Int), p ≤ nt ∧ L.length = m ∧ m ≤ 3 + 48 * p ∧ lv = .slice AO m co ∧ iv = .int .i64 p ∧ Hid (L = [1, 1, 0] ++ toksB fixLit fixDist (ts.take p)) ∧ Hid (LB w3.heap.size w3 wr (.slice AO m co) L)) (fun _ iv _ => nt - (intOf iv).toNat)
  case atStart => exact ⟨0, 3, _, 3, [1, 1, 0], by omega, rfl, by omega, rfl, rfl, Lib.hid rfl, HL0⟩
  case round =>
    clear HL0
    obtain ⟨p, m, AO, co, L, hp, hLl, hm, rfl, rfl, HE, HLB⟩ := hrel
    have hszw := HLB.out.be.size
    by_cases hlt : p < nt
    · have e5 : decide (p < nt) = true := by simpa using hlt
      have hps : p < ts.length := by rw [HLT.out]; exact hlt
      have hrt := HXT.out wr HLB.out.be
      obtain ⟨tb, to', hAt⟩ := hrt.hd (by omega)
      subst hAt
      have HTC : Hid (∀ w', Below w3.heap.size w3 w' → w'.cell? ⟨tb, to' + p * 3, none⟩ = some (.int .u8 (tth ts p).1) ∧ w'.cell? ⟨tb, to' + p * 3 + 1, none⟩ = some (.int .i64 (tth ts p).2.1) ∧ w'.cell? ⟨tb, to' + p * 3 + 2, none⟩ = some (.int .i64 (tth ts p).2.2)) := Lib.hid (fun w' h => (HXT.out w' h).cell tb to' rfl p hlt)
      obtain ⟨p0, p1, p2⟩ := HTC.out wr HLB.out.be
      have HTO := Lib.hid (HTK.out _ (tth_mem hps))
      have HRO := Lib.hid (HR.out _ (tth_mem hps))
      have HSN : Hid ([1, 1, 0] ++ toksB fixLit fixDist (ts.take (p + 1)) = L ++ tokB fixLit fixDist (tth ts p)) := Lib.hid (by rw [take_tth hps, toksB_snoc, HE.out, List.append_assoc])
      clear hrt hps
      generalize tth ts p = t at *
      obtain ⟨a, b, c⟩ := t
      by_cases h0 : b = 0
      · obtain ⟨l0, l1, l2⟩ := HTO.out.1 h0
        dsimp only at l0 l1 l2
        obtain ⟨j, rfl⟩ := Int.eq_ofNat_of_zero_le l0
        rw [Int.toNat_natCast] at l2
        subst h0
        obtain ⟨y, M, sy⟩ := HSL.out j l2
        have hjn : j < 288 := l2.1
        have SY := Lib.hid sy
        obtain ⟨lb, lo, hA1, hlc⟩ := (HX1.out wr HLB.out.be).at hjn
        obtain ⟨rb, ro, hA3, hrcc⟩ := (HX3.out wr HLB.out.be).at hjn
        subst hA1
        subst hA3
        rw [sy.len] at hlc
        rw [sy.code] at hrcc
        have t0 : IntKind.i64.wrap (j : Int) = (j : Int) := IntWalk.i64_in _ (by omega)
        have t1 : decide ((j : Int) < 288) = true := by simp; omega
        have t2 : (0 : Int) ≤ (j : Int) := by omega
        have t3 : (j : Int) < 288 := by omega
        have HTB : Hid (tokB fixLit fixDist ((j : Int), (0 : Int), c) = cbit fixLit j) := Lib.hid (by unfold tokB; rw [if_pos rfl, Int.toNat_natCast])
        clear sy l2
        go_wp2_with fail
        go_still_tail 9, (by kernel_rfl)
        change wpList _ _ _ _ _ wr.drew
        have kd := (Keeps.refl [] wr).drew
        have HO2 := Lib.hid (own_keeps HLB.out.own kd (by simp))
        have HB2 := Lib.hid (HLB.out.be.trans (kd.below.mono hszw))
        have hs2 := HB2.out.size
        clear HLB hlc hrcc p0 p1 p2 kd
        go_wp2_with fail
        refine (rput_calls _ w3.heap.size m (.slice AO m co) L y M (by have := HO2.out; rw [hLl] at this; exact this) hs2 (by omega) SY.out.lo SY.out.hi (by have := SY.out.m15; omega)).mono ?_
        rintro _ w5 ⟨v5, rfl, ho5, hb5⟩
        obtain ⟨A5, c5, rfl⟩ := own_formW ho5
        rw [SY.out.bits] at ho5
        have hM15 := SY.out.m15
        have HL5 : Hid (LB w3.heap.size w3 w5 (.slice A5 (m + M) c5) (L ++ cbit fixLit j)) := Lib.hid ⟨by rw [List.length_append, hLl, ← SY.out.bits, vbits_len]; rw [SY.out.bits]; exact ho5, HB2.out.trans hb5⟩
        have HCL : Hid ((cbit fixLit j).length = M) := Lib.hid (by rw [← SY.out.bits, vbits_len])
        clear ho5 hb5 HO2 HB2
        go_wp2_with fail
        go_roundw
        case rel => exact ⟨p + 1, m + M, A5, c5, L ++ cbit fixLit j, by omega, by rw [List.length_append, hLl, HCL.out], by omega, rfl, by go_num, Lib.hid (by rw [HSN.out, HTB.out]), HL5⟩
        case measure => simp [intOf]; omega
      · have x0 : decide (b = 0) = false := by simpa using h0
        have x0' : (b == 0) = false := by simpa using h0
        obtain ⟨r1, r2, r3, r4⟩ := HRO.out h0
        obtain ⟨l1, l2, l3⟩ := HTO.out.2 h0
        dsimp only at r1 r2 r3 r4 l1 l2
        obtain ⟨q, rfl⟩ := Int.eq_ofNat_of_zero_le (show 0 ≤ b by omega)
        obtain ⟨d, rfl⟩ := Int.eq_ofNat_of_zero_le (show 0 ≤ c by omega)
        rw [Int.toNat_natCast] at l1 l2
        obtain ⟨-, f2, -, -, f5, f6⟩ := len_tab q (by omega) (by omega)
        obtain ⟨g1, -, -, g4, g5⟩ := dist_tab d (by omega) (by omega)
        have HEB : Hid (tokB fixLit fixDist (a, (q : Int), (d : Int)) = cbit fixLit (lsym q) ++ (vbits (lmore q) (lk q) ++ (cbit fixDist (dsym d) ++ vbits (dmore d) (dk d)))) := Lib.hid (by
          unfold tokB behB
          rw [if_neg h0]
          simp only [Int.toNat_natCast])
        have HLC := Lib.hid (fun w => rlen7_calls w q (by omega) (by omega))
        have HDC := Lib.hid (fun w => rdist7_calls w d (by omega) (by omega))
        obtain ⟨y, M, sy⟩ := HSL.out (lsym q) l1
        obtain ⟨z, Q, sz⟩ := HSD.out (dsym d) l2
        have hS : lsym q < 288 := l1.1
        have hT2 : dsym d < 32 := l2.1
        have SY := Lib.hid sy
        have SZ := Lib.hid sz
        have hV : lmore q < 8192 := Nat.lt_of_lt_of_le f5 (pow_le32 _ (by omega))
        have hU : dmore d < 8192 := Nat.lt_of_lt_of_le g4 (pow_le32 _ (by omega))
        clear l1 l2 l3 sy sz r1 r2 r3 r4 f2 f5 g1 g4 h0 HRO HTO
        generalize lsym q = S at *
        generalize lmore q = V at *
        generalize lk q = k at *
        generalize dsym d = T at *
        generalize dmore d = U at *
        generalize dk d = j at *
        have u1 : IntKind.u32.wrap (V : Int) = (V : Int) := IntWalk.u32_in _ (by omega)
        have u2 : IntKind.u32.wrap (U : Int) = (U : Int) := IntWalk.u32_in _ (by omega)
        have u3 : decide ((S : Int) < 288) = true := by simp; omega
        have u5 : (0 : Int) ≤ (S : Int) := by omega
        have u6 : (S : Int) < 288 := by omega
        have u7 : (0 : Int) ≤ (T : Int) := by omega
        have u8 : (T : Int) < 32 := by omega
        have u4 : decide ((T : Int) < 32) = true := by simp; omega
        have hM15 := SY.out.m15
        have hQ15 := SZ.out.m15
        have HCL : Hid ((cbit fixLit S).length = M) := Lib.hid (by rw [← SY.out.bits, vbits_len])
        have HCD : Hid ((cbit fixDist T).length = Q) := Lib.hid (by rw [← SZ.out.bits, vbits_len])
        go_wp2_with fail
        refine (HLC.out wr).mono ?_
        rintro _ w5 ⟨rfl, hd5⟩
        have kd5 := hd5.keeps (S := [])
        have HO5 := Lib.hid (own_keeps HLB.out.own kd5 (by simp))
        have HB5 := Lib.hid (HLB.out.be.trans (kd5.below.mono hszw))
        clear hd5 kd5 p0 p1 p2 HLB x0 x0'
        obtain ⟨lb, lo, hA1, hlc⟩ := (HX1.out w5 HB5.out).at hS
        obtain ⟨rb, ro, hA3, hrcc⟩ := (HX3.out w5 HB5.out).at hS
        subst hA1
        subst hA3
        rw [SY.out.len] at hlc
        rw [SY.out.code] at hrcc
        go_wp2_with fail
        go_still_tail 9, (by kernel_rfl)
        change wpList _ _ _ _ _ w5.drew
        have kd := (Keeps.refl [] w5).drew
        have HO6 := Lib.hid (own_keeps HO5.out kd (by simp))
        have HB6 := Lib.hid (HB5.out.trans (kd.below.mono HB5.out.size))
        have hs6 := HB6.out.size
        clear HO5 HB5 kd hlc hrcc
        go_wp2_with fail
        refine (rput_calls _ w3.heap.size m (.slice AO m co) L y M (by have := HO6.out; rw [hLl] at this; exact this) hs6 (by omega) SY.out.lo SY.out.hi (by omega)).mono ?_
        rintro _ w7 ⟨v7, rfl, ho7, hb7⟩
        obtain ⟨A7, c7, rfl⟩ := own_formW ho7
        rw [SY.out.bits] at ho7
        have HO7 := Lib.hid ho7
        have HB7 := Lib.hid (HB6.out.trans hb7)
        have hs7 := HB7.out.size
        clear ho7 hb7 HO6 HB6
        go_wp2_with fail
        refine (rput_calls _ w3.heap.size (m + M) (.slice A7 (m + M) c7) _ (V : Int) k HO7.out hs7 (by omega) (by omega) (by omega) (by omega)).mono ?_
        rintro _ w8 ⟨v8, rfl, ho8, hb8⟩
        obtain ⟨A8, c8, rfl⟩ := own_formW ho8
        have HO8 := Lib.hid ho8
        have HB8 := Lib.hid (HB7.out.trans hb8)
        have hs8 := HB8.out.size
        obtain ⟨p0, p1, p2⟩ := HTC.out w8 HB8.out
        clear ho8 hb8 HO7 HB7
        go_wp2_with fail
        refine (HDC.out w8).mono ?_
        rintro _ w9 ⟨rfl, hd9⟩
        have kd9 := hd9.keeps (S := [])
        have HO9 := Lib.hid (own_keeps HO8.out kd9 (by simp))
        have HB9 := Lib.hid (HB8.out.trans (kd9.below.mono hs8))
        clear hd9 kd9 p0 p1 p2 HO8 HB8
        obtain ⟨db, do', hA2, hdc⟩ := (HX2.out w9 HB9.out).at hT2
        obtain ⟨qb, qo, hA4, hqc⟩ := (HX4.out w9 HB9.out).at hT2
        subst hA2
        subst hA4
        rw [SZ.out.len] at hdc
        rw [SZ.out.code] at hqc
        go_wp2_with fail
        go_still_tail 9, (by kernel_rfl)
        change wpList _ _ _ _ _ w9.drew
        have kd := (Keeps.refl [] w9).drew
        have HO10 := Lib.hid (own_keeps HO9.out kd (by simp))
        have HB10 := Lib.hid (HB9.out.trans (kd.below.mono HB9.out.size))
        have hs10 := HB10.out.size
        clear HO9 HB9 kd hdc hqc
        go_wp2_with fail
        refine (rput_calls _ w3.heap.size (m + M + k) (.slice A8 (m + M + k) c8) _ z Q HO10.out hs10 (by omega) SZ.out.lo SZ.out.hi (by omega)).mono ?_
        rintro _ w11 ⟨v11, rfl, ho11, hb11⟩
        obtain ⟨A11, c11, rfl⟩ := own_formW ho11
        rw [SZ.out.bits] at ho11
        have HO11 := Lib.hid ho11
        have HB11 := Lib.hid (HB10.out.trans hb11)
        have hs11 := HB11.out.size
        clear ho11 hb11 HO10 HB10
        go_wp2_with fail
        refine (rput_calls _ w3.heap.size (m + M + k + Q) (.slice A11 (m + M + k + Q) c11) _ (U : Int) j HO11.out hs11 (by omega) (by omega) (by omega) (by omega)).mono ?_
        rintro _ w12 ⟨v12, rfl, ho12, hb12⟩
        obtain ⟨A12, c12, rfl⟩ := own_formW ho12
        obtain ⟨L2, hL2⟩ : ∃ L2, L2 = L ++ cbit fixLit S ++ vbits (V : Int) k ++ cbit fixDist T ++ vbits (U : Int) j := ⟨_, rfl⟩
        rw [← hL2] at ho12
        have HLL : Hid (L2.length = m + M + k + Q + j) := Lib.hid (by rw [hL2]; simp only [List.length_append, vbits_len]; rw [hLl, HCL.out, HCD.out])
        have HL12 : Hid (LB w3.heap.size w3 w12 (.slice A12 (m + M + k + Q + j) c12) L2) := Lib.hid ⟨by rw [HLL.out]; exact ho12, HB11.out.trans hb12⟩
        have HEQ : Hid (L2 = [1, 1, 0] ++ toksB fixLit fixDist (ts.take (p + 1))) := Lib.hid (by rw [hL2, HSN.out, HEB.out]; simp only [List.append_assoc])
        have hll := HLL.out
        clear ho12 hb12 HO11 HB11 hL2
        go_wp2_with fail
        go_roundw
        case rel => exact ⟨p + 1, m + M + k + Q + j, A12, c12, L2, by omega, hll, by omega, rfl, by go_num, HEQ, HL12⟩
        case measure => simp [intOf]; omega
    · obtain rfl : p = nt := by omega
      have e5 : decide (p < p) = false := by simp
      have h256 := fix_tells 256 (by decide)
      obtain ⟨y, M, sy⟩ := HSL.out 256 h256
      have SY := Lib.hid sy
      have hM15 := sy.m15
      obtain ⟨lb, lo, hA1, hlc⟩ := (HX1.out wr HLB.out.be).at (show 256 < 288 by omega)
      obtain ⟨rb, ro, hA3, hrcc⟩ := (HX3.out wr HLB.out.be).at (show 256 < 288 by omega)
      subst hA1
      subst hA3
      rw [sy.len] at hlc
      rw [sy.code] at hrcc
      have hE2 := HE.out
      rw [List.take_of_length_le (by have := HLT.out; omega)] at hE2
      have HEL : Hid (L ++ cbit fixLit 256 = fixB ts) := Lib.hid (by rw [hE2]; unfold fixB; rw [List.append_assoc])
      clear sy hE2 HE h256
      go_wp2_with fail
      go_still_tail 7, (by kernel_rfl)
      change wpList _ _ _ _ _ wr.drew
      have kd := (Keeps.refl [] wr).drew
      have HO2 := Lib.hid (own_keeps HLB.out.own kd (by simp))
      have HB2 := Lib.hid (HLB.out.be.trans (kd.below.mono hszw))
      have hs2 := HB2.out.size
      clear HLB hlc hrcc kd
      go_wp2_with fail
      refine (rput_calls _ w3.heap.size m (.slice AO m co) L y M (by have := HO2.out; rw [hLl] at this; exact this) hs2 (by omega) SY.out.lo SY.out.hi (by omega)).mono ?_
      rintro _ w5 ⟨v5, rfl, ho5, hb5⟩
      obtain ⟨A5, c5, rfl⟩ := own_formW ho5
      rw [SY.out.bits, HEL.out] at ho5
      have hrf : RI .u8 w5 A5 (m + M) (fixB ts) := by
        obtain ⟨A', c', hv, hr, -⟩ := own_ri ho5
        injection hv with q1 q2 q3
        subst q1
        exact hr
      have HRF := Lib.hid hrf
      have HA5 : Hid (∀ a, A5 = some a → a.block < w5.heap.size) := Lib.hid (fun a h => own_hi ho5 a.block (by rw [h]; rfl))
      have HB5 := Lib.hid (K3.out.below.trans ((HB2.out.trans hb5).mono hw3))
      have hs5 := HB5.out.size
      clear ho5 hb5 HO2 HB2 hrf
      go_wp2_with fail
      refine (rbytes_calls w5 A5 (m + M) c5 (fixB ts) HRF.out HA5.out (bin_fix ts).bits (by omega)).mono ?_
      rintro _ w6 ⟨v6, xs, rfl, ho6, hwb, hb6⟩
      have HO6 := Lib.hid ho6
      have HWB := Lib.hid hwb
      have HB6 := Lib.hid (HB5.out.trans (hb6.mono hs5))
      clear ho6 hwb hb6
      go_wp2_with fail
      go_ret
      exact ⟨_, xs, rfl, HO6.out.mono hs5, HWB.out, HB6.out⟩
end Go.Proofs.YtkpabdjniiepkaaDoor

set_option linter.unusedVariables false
set_option linter.unusedSimpArgs false
/-! 'make' and 'copy' of tokens; their '=='. -/
namespace Go.Proofs.YtkpabdjniiepkaaDoor
open Go.RowKit
theorem size_tok : (Tryd.prog.info? 33).map (·.size) = some 3 := by kernel_rfl
theorem tcells_at {ts : List Tok} {j : Nat} {v : Value} (h : (ts.flatMap tcells)[j]? = some v) : j / 3 < ts.length ∧ (j % 3 = 0 ∧ v = .int .u8 (tth ts (j / 3)).1 ∨ j % 3 = 1 ∧ v = .int .i64 (tth ts (j / 3)).2.1 ∨ j % 3 = 2 ∧ v = .int .i64 (tth ts (j / 3)).2.2) := by
  have hj := (List.getElem?_eq_some_iff.1 h).1
  rw [tcells_len] at hj
  obtain ⟨h0, h1, h2⟩ := tcells_get ts (j / 3) (by omega)
  refine ⟨by omega, ?_⟩
  rcases (by omega : j % 3 = 0 ∨ j % 3 = 1 ∨ j % 3 = 2) with e | e | e
  · rw [show j = j / 3 * 3 by omega, h0] at h
    exact .inl ⟨e, (Option.some.inj h).symm⟩
  · rw [show j = j / 3 * 3 + 1 by omega, h1] at h
    exact .inr (.inl ⟨e, (Option.some.inj h).symm⟩)
  · rw [show j = j / 3 * 3 + 2 by omega, h2] at h
    exact .inr (.inr ⟨e, (Option.some.inj h).symm⟩)
theorem rt_cell {w : World} {b o m : Nat} {ts : List Tok} (h : RT w (some ⟨b, o, none⟩) m ts) {j : Nat} {v : Value} (hv : (ts.flatMap tcells)[j]? = some v) : w.cell? ⟨b, o + j, none⟩ = some v := by
  obtain ⟨hj, hc⟩ := tcells_at hv
  obtain ⟨c0, c1, c2⟩ := h.cell b o rfl (j / 3) (by rw [← h.len]; exact hj)
  rcases hc with ⟨e, rfl⟩ | ⟨e, rfl⟩ | ⟨e, rfl⟩
  · rw [show o + j = o + j / 3 * 3 by omega]; exact c0
  · rw [show o + j = o + j / 3 * 3 + 1 by omega]; exact c1
  · rw [show o + j = o + j / 3 * 3 + 2 by omega]; exact c2
/-- A first part of a block of tokens. -/
theorem Blk.rt_pre {w : World} {g m : Nat} {t : TypeId} {xs ys : List Tok} (h : Blk w g t ((xs ++ ys).flatMap tcells)) (hl : xs.length = m) : RT w (some ⟨g, 0, none⟩) m xs :=
  ⟨hl, fun _ => ⟨_, _, rfl⟩, fun b o ha j hj => by
    injection ha with ha; injection ha with h1 h2 h3; subst h1; subst h2
    have hp := tcells_get xs j (by omega)
    have e : ∀ i, i < (xs.flatMap tcells).length → ((xs ++ ys).flatMap tcells)[i]? = (xs.flatMap tcells)[i]? := fun i hi => by rw [List.flatMap_append, List.getElem?_append_left hi]
    rw [Nat.zero_add, h.cell, h.cell, h.cell, e _ (by rw [tcells_len]; omega), e _ (by rw [tcells_len]; omega), e _ (by rw [tcells_len]; omega)]
    exact hp⟩
theorem made_tok (n : Nat) : (madeCells #[.int .u8 0, .int .i64 0, .int .i64 0] (n * 3)).toList = (List.replicate n ((0, 0, 0) : Tok)).flatMap tcells := by
  apply List.ext_getElem?
  intro j
  by_cases hj : j < n * 3
  · have ht : tth (List.replicate n ((0, 0, 0) : Tok)) (j / 3) = (0, 0, 0) := by simp [tth, List.getD, show j / 3 < n by omega]
    obtain ⟨h0, h1, h2⟩ := tcells_get (List.replicate n ((0, 0, 0) : Tok)) (j / 3) (by rw [List.length_replicate]; omega)
    rw [ht] at h0 h1 h2
    rcases (by omega : j % 3 = 0 ∨ j % 3 = 1 ∨ j % 3 = 2) with e | e | e
    · rw [show ((List.replicate n ((0, 0, 0) : Tok)).flatMap tcells)[j]? = some (.int .u8 0) by rw [show j = j / 3 * 3 by omega]; exact h0]
      simp [madeCells, hj, e]
    · rw [show ((List.replicate n ((0, 0, 0) : Tok)).flatMap tcells)[j]? = some (.int .i64 0) by rw [show j = j / 3 * 3 + 1 by omega]; exact h1]
      simp [madeCells, hj, e]
    · rw [show ((List.replicate n ((0, 0, 0) : Tok)).flatMap tcells)[j]? = some (.int .i64 0) by rw [show j = j / 3 * 3 + 2 by omega]; exact h2]
      simp [madeCells, hj, e]
  · rw [List.getElem?_eq_none (by simp [madeCells]; omega), List.getElem?_eq_none (by rw [tcells_len, List.length_replicate]; omega)]
/-- 'make([]api.Token, l)': a block of zeros. -/
theorem make_toks (w : World) (l : Int) (n : Nat) (hn : l = n) (h : n ≤ 10000000000) :
    (Instr.makeSlice 31 (.int .i64 l) (.int .i64 l)).run Tryd.prog w = .ok (.slice (some ⟨w.heap.size, 0, none⟩) n n) (w.alloc (.cells ((List.replicate n ((0, 0, 0) : Tok)).flatMap tcells).toArray 33)) := by
  subst hn
  obtain ⟨i, hi, hz, hs, hb⟩ := info_parts info_tok
  have e1 : (i.bytes : Int) * (n : Int) ≤ 281474976710656 := by
    rw [hb]; omega
  rw [run_make w 31 33 i _ Tryd.underlying31 hi hz .i64 .i64 n n (by omega) (Int.le_refl _) e1 (by omega)]
  simp only [Int.toNat_natCast]
  have e : madeCells (Value.agg #[.int .u8 0, .int .i64 0, .int .i64 0]).cells (n * i.size) = ((List.replicate n ((0, 0, 0) : Tok)).flatMap tcells).toArray := by
    rw [hs]
    apply Array.toList_inj.1
    show (madeCells #[.int .u8 0, .int .i64 0, .int .i64 0] (n * 3)).toList = _
    rw [made_tok]
  rw [e]
theorem tok_eql (w : World) (a b c d e f : Int) : (binOp .eql 33 (.agg #[.int .u8 a, .int .i64 b, .int .i64 c]) (.agg #[.int .u8 d, .int .i64 e, .int .i64 f])).run Tryd.prog w = .ok (.bool (a == d && (b == e && c == f))) w := by
  have u3 := Tryd.underlying3
  have u5 := Tryd.underlying5
  have hS : Tryd.prog.underlying 33 = some (.struct (Tryd.prog.fieldsOf 33)) := by kernel_rfl
  have hp : Tryd.prog.stoodInHeld 33 = false := by kernel_rfl
  rw [run_eql_struct, show (10000 : Nat) = 9999 + 1 from rfl, run_equalIn_agg w 9999 33 _ _ hS hp]
  simp only [Program.fieldsOf, Tryd.underlying33]
  go_simp
  by_cases h1 : a = d <;> by_cases h2 : b = e <;> by_cases h3 : c = f <;> simp [h1, h2, h3]
theorem tok_guard (x y : Operand) (w : World) (a b c d e f : Int) : (eqGuard .eql 33 x y (.agg #[.int .u8 a, .int .i64 b, .int .i64 c]) (.agg #[.int .u8 d, .int .i64 e, .int .i64 f])).run Tryd.prog w = .ok () w :=
  run_eqGuard_agg _ _ _ _ _ _ _ (by kernel_rfl)
end Go.Proofs.YtkpabdjniiepkaaDoor

set_option linter.unusedVariables false
set_option linter.unusedSimpArgs false
/-! law07.DeflateBlocks. -/
namespace Go.Proofs.YtkpabdjniiepkaaDoor
open Go.RowKit
theorem outp_form {w w' : World} {E : Int} {P : List Int → Prop} {e : Ending} (h : Outp w E P e w') :
    ∃ (B : Option Addr) (n c : Nat) (xs : List Int), e = .returned (.tuple #[.slice B n c, .int .i64 E]) ∧ RI .u8 w' B n xs ∧ (E = 0 → P xs) ∧ (E ≠ 0 → n = 0) ∧ n ≤ maxLen ∧ Below w.heap.size w w' := by
  rcases h with ⟨hE, g, n, c, xs, rfl, hr, -, hP, hb, hc⟩ | ⟨hE, rfl, hb⟩
  · exact ⟨_, n, c, xs, by rw [hE], hr, fun _ => hP, fun h => absurd hE h, Nat.le_trans hc.1 hc.2.1, hb⟩
  · exact ⟨none, 0, 0, [], rfl, ⟨rfl, by simp, by simp⟩, fun h => absurd h hE, fun _ => rfl, by unfold maxLen; omega, hb⟩
set_option maxRecDepth 100000 in
set_option maxHeartbeats 2000000 in
theorem deflateBlocks_walk (w : World) (A : Option Addr) (n c : Nat) (ts : List Tok) (hT : Tabs w) (ht : RT w A n ts) (hm : n ≤ maxLen) (hl : LitOk ts) (hnil : A = none → n = 0 ∧ c = 0) (ho : ∀ a, A = some a → a.block < w.heap.size) :
    Calls Tryd.prog 5 #[.slice A n c] w fun e w' => e = .returned (.bool true) ∧ Keeps [] w w' := by
  have HTB := Lib.hid hT
  have HT := Lib.hid ht
  have HLI := Lib.hid hl
  have HL : Hid (ts.length = n) := Lib.hid ht.len
  have HA := Lib.hid ho
  unfold maxLen at hm
  clear hT ht hnil hl ho
  by_cases h1 : 65536 < n
  · have e1 : decide (65536 < n) = true := by simpa using h1
    have e1' : decide ((65536 : Int) < (n : Int)) = true := by simp; omega
    go_enter Tryd.func5, Tryd.ntmps5
    go_wp2_with fail
    go_ret
    exact ⟨rfl, Keeps.refl _ _⟩
  have e1 : decide (65536 < n) = false := by simpa using h1
  have e1' : decide ((65536 : Int) < (n : Int)) = false := by simp; omega
  have hmk := fun w => make_toks w ((n : Int) + 1) (n + 1) (by omega) (by omega)
  go_enter Tryd.func5, Tryd.ntmps5
  go_wp2_with (with_reducible refine wpList_copy_wide rfl (.tmp 20) (.tmp 21) _ _ rfl 33 3 (by decide) Tryd.underlying31 size_tok _ _ _ _ _ _ rfl rfl w.heap.size 0 ((List.replicate (n + 1) ((0, 0, 0) : Tok)).flatMap tcells) 33 ?h1 n ?hm (ts.flatMap tcells) ?h2 ?h3 ?h4 ?h5 [] w ?h6 (Or.inr (Nat.le_refl _)) ?_)
  case h1 => exact blk_new w _ _
  case hm => exact (Nat.min_eq_left (by omega)).symm
  case h2 => rw [tcells_len, HL.out]
  case h3 =>
    intro hp
    obtain ⟨a, o, rfl⟩ := HT.out.hd hp
    refine ⟨⟨a, o, none⟩, rfl, fun j v hv => ?_⟩
    rw [add_plain2]
    exact (Keeps.refl [] w).alloc _ |>.cell (by simp) (rt_cell HT.out hv)
  case h4 => rw [tcells_len, tcells_len, List.length_replicate, HL.out]; omega
  case h5 =>
    intro v hv
    obtain ⟨t, -, hv⟩ := List.mem_flatMap.1 hv
    exact tcells_one t v hv
  case h6 => exact (Keeps.refl _ _).alloc _
  intro w1 hg1 hk1 hb1
  have hB : Blk w1 w.heap.size 33 (splice ((List.replicate (n + 1) ((0, 0, 0) : Tok)).flatMap tcells) 0 (ts.flatMap tcells)) := hg1.out
  have hsp : splice ((List.replicate (n + 1) ((0, 0, 0) : Tok)).flatMap tcells) 0 (ts.flatMap tcells) = (ts ++ [((0, 0, 0) : Tok)]).flatMap tcells := by
    have hl := HL.out
    have e : (List.replicate (n + 1) ((0, 0, 0) : Tok)) = List.replicate n ((0, 0, 0) : Tok) ++ [((0, 0, 0) : Tok)] := by rw [List.replicate_succ']
    rw [e, List.flatMap_append, List.flatMap_append, splice, List.take_zero, List.nil_append, Nat.zero_add, tcells_len, hl, List.drop_left' (by rw [tcells_len, List.length_replicate])]
  rw [hsp] at hB
  clear hg1 hsp hk1 hmk e1 e1'
  have at3 : ∀ (t : Tok) (i : Nat), ((ts ++ [t]).flatMap tcells)[n * 3 + i]? = (tcells t)[i]? := fun t i => by
    rw [List.flatMap_append, List.getElem?_append_right (by rw [tcells_len, HL.out]; omega), tcells_len, HL.out, Nat.add_sub_cancel_left, List.flatMap_cons, List.flatMap_nil, List.append_nil]
  obtain ⟨c0, c1, c2⟩ : w1.cell? ⟨w.heap.size, n * 3, none⟩ = some (.int .u8 0) ∧ w1.cell? ⟨w.heap.size, n * 3 + 1, none⟩ = some (.int .i64 0) ∧ w1.cell? ⟨w.heap.size, n * 3 + 2, none⟩ = some (.int .i64 0) :=
    ⟨(hB.cell (n * 3)).trans (at3 _ 0), (hB.cell (n * 3 + 1)).trans (at3 _ 1), (hB.cell (n * 3 + 2)).trans (at3 _ 2)⟩
  have fz := hB.frozen
  have HAT := Lib.hid at3
  have HB := Lib.hid hB
  have K1 := Lib.hid hb1
  clear hB hb1 at3
  go_upto_region 6 with (fail)
  obtain ⟨g, hg⟩ : ∃ g, g = w.heap.size := ⟨_, rfl⟩
  rw [← hg]
  obtain ⟨w2, hw2⟩ : ∃ z, z = (((w1.setCell ⟨g, n * 3, none⟩ (.int .u8 0)).setCell ⟨g, n * 3 + 1, none⟩ (.int .i64 (-7))).setCell ⟨g, n * 3 + 2, none⟩ (.int .i64 0)) := ⟨_, rfl⟩
  rw [← hw2]
  have hgw : w.heap.size ≤ g := by omega
  have hk2 : Keeps [] w w2 := by rw [hw2]; exact (((K1.out).setCell (p := ⟨g, n * 3, none⟩) (.inr hgw) _).setCell (p := ⟨g, n * 3 + 1, none⟩) (.inr hgw) _).setCell (p := ⟨g, n * 3 + 2, none⟩) (.inr hgw) _
  have hb2 : Blk w2 g 33 ((ts ++ [((0, -7, 0) : Tok)]).flatMap tcells) := by
    have h := HB.out
    rw [← hg] at h
    have h3 := ((h.set (n * 3) (.int .u8 0)).set (n * 3 + 1) (.int .i64 (-7))).set (n * 3 + 2) (.int .i64 0)
    rw [← hw2] at h3
    have hl3 : (ts.flatMap tcells).length = n * 3 := by rw [tcells_len, HL.out]
    have e : ((((ts ++ [((0, 0, 0) : Tok)]).flatMap tcells).set (n * 3) (.int .u8 0)).set (n * 3 + 1) (.int .i64 (-7))).set (n * 3 + 2) (.int .i64 0) = (ts ++ [((0, -7, 0) : Tok)]).flatMap tcells := by
      rw [List.flatMap_append, List.flatMap_append, List.set_append_right _ _ (by omega), List.set_append_right _ _ (by omega), List.set_append_right _ _ (by omega), hl3]
      simp [tcells]
    rwa [e] at h3
  have hwg : g < w2.heap.size := hb2.lt
  have HB2 := Lib.hid hb2
  have K2 := Lib.hid hk2
  have R2 := Lib.hid (Blk.rt_pre hb2 HL.out)
  have hm2 : n ≤ 65536 := by omega
  clear hb2 hk2 hw2 hgw hg c0 c1 c2 fz HB K1 h1 hm
  have TB2 := Lib.hid (HTB.out.keeps K2.out (by simp))
  go_wp2_with fail
  refine (dfixed_calls w2 (some ⟨g, 0, none⟩) n (n + 1) ts R2.out (fun a h => by injection h with h; subst h; exact hwg) HLI.out (by omega)).mono ?_
  rintro e w3 h3
  obtain ⟨Ba, na, ca, xa, rfl, ra, pa, za, ma, b3⟩ := outp_form h3
  clear h3
  have k3 := Keeps.of_below b3 (S := [])
  have K3 := Lib.hid (K2.out.trans k3)
  have R3 := Lib.hid (R2.out.keeps k3 (off_nil _))
  have HB3 := Lib.hid (HB2.out.keeps k3 (by simp))
  have RA3 := Lib.hid ra
  have PA := Lib.hid pa
  have ZA := Lib.hid za
  have hwg3 : g < w3.heap.size := Nat.lt_of_lt_of_le hwg k3.size
  unfold maxLen at ma
  clear ra pa za b3 k3 K2 R2 HB2 TB2 hwg
  generalize hE : checkT ts 0 = E at *
  have HE := Lib.hid hE
  clear hE
  go_wp2_with fail
  refine (ddyn_calls w3 (some ⟨g, 0, none⟩) n (n + 1) ts (HTB.out.keeps K3.out (by simp)) R3.out (fun a h => by injection h with h; subst h; exact hwg3) HLI.out (by omega)).mono ?_
  rintro e w4 h4
  obtain ⟨Bb, nb, cb, xb, rfl, rb, pb, zb, mb, b4⟩ := outp_form h4
  rw [HE.out] at pb zb ⊢
  clear h4
  have k4 := Keeps.of_below b4 (S := [])
  have K4 := Lib.hid (K3.out.trans k4)
  have R4 := Lib.hid (R3.out.keeps k4 (off_nil _))
  have HB4 := Lib.hid (HB3.out.keeps k4 (by simp))
  have RA4 := Lib.hid (RA3.out.keeps k4 (off_nil _))
  have RB4 := Lib.hid rb
  have PB := Lib.hid pb
  have ZB := Lib.hid zb
  unfold maxLen at mb
  clear rb pb zb b4 k4 K3 R3 HB3 RA3 hwg3
  obtain ⟨c0, c1, c2⟩ : w4.cell? ⟨g, n * 3, none⟩ = some (.int .u8 0) ∧ w4.cell? ⟨g, n * 3 + 1, none⟩ = some (.int .i64 (-7)) ∧ w4.cell? ⟨g, n * 3 + 2, none⟩ = some (.int .i64 0) :=
    ⟨(HB4.out.cell (n * 3)).trans (HAT.out _ 0), (HB4.out.cell (n * 3 + 1)).trans (HAT.out _ 1), (HB4.out.cell (n * 3 + 2)).trans (HAT.out _ 2)⟩
  have s1 := tok_eql
  have s2 := tok_guard
  go_wp2_with fail
  clear c0 c1 c2 HB4 HAT
  go_loopw [8, 9] (fun okv i wr => ∃ k : Nat, k ≤ n ∧ okv = .bool true ∧ i = .int .i64 k ∧ Hid (Dr w4 wr)) (fun _ i _ => n - (intOf i).toNat)
  case atStart => exact ⟨0, by omega, by simp, rfl, ⟨0, rfl⟩⟩
  case round =>
    obtain ⟨k, hk, rfl, rfl, HW⟩ := hrel
    by_cases hlt : k < n
    · have e5 : decide (k < n) = true := by simpa using hlt
      have e5' : decide ((k : Int) < (n : Int)) = true := by simp; omega
      obtain ⟨b, o, rfl⟩ := HT.out.hd (by omega)
      have hkk := HW.out.keeps (S := [])
      obtain ⟨a0, a1, a2⟩ := (R4.out.keeps hkk (off_nil _)).cell g 0 rfl k hlt
      obtain ⟨b0, b1, b2⟩ := ((HT.out.keeps K4.out (off_nil _)).keeps hkk (off_nil _)).cell b o rfl k hlt
      clear hkk
      generalize tth ts k = t at *
      obtain ⟨x, y, z⟩ := t
      dsimp only at a0 a1 a2 b0 b1 b2
      rw [Nat.zero_add] at a0 a1 a2
      go_wp2_with fail
      go_quiet (fail)
      go_wp2_with fail
      go_roundw
      case rel => exact ⟨k + 1, by omega, by simp, by go_num, Lib.hid (HW.out.step _)⟩
      case measure => simp [intOf]; omega
    · obtain rfl : k = n := by omega
      have e5 : decide (k < k) = false := by simp
      have e5' : decide ((k : Int) < (k : Int)) = false := by simp
      have HK5 := Lib.hid (K4.out.trans (HW.out.keeps (S := [])))
      have RA5 := Lib.hid (RA4.out.keeps (HW.out.keeps (S := [])) (off_nil _))
      have RB5 := Lib.hid (RB4.out.keeps (HW.out.keeps (S := [])) (off_nil _))
      clear HW K4 R4 RA4 RB4 s1 s2
      have hsz : w.heap.size ≤ wr.heap.size := HK5.out.size
      go_wp2_with fail
      refine (rcheck6_calls wr A k c ts (HT.out.keeps HK5.out (off_nil _)) (fun a h => Nat.lt_of_lt_of_le (HA.out a h) hsz) (by omega)).mono ?_
      rintro _ w6 ⟨rfl, hk6⟩
      rw [HE.out]
      have K6 := Lib.hid (HK5.out.trans hk6)
      have RA6 := Lib.hid (RA5.out.keeps hk6 (off_nil _))
      have RB6 := Lib.hid (RB5.out.keeps hk6 (off_nil _))
      clear hk6 HK5 RA5 RB5 hsz
      have t0 : (E != E) = false := by simp
      by_cases h0 : E = 0
      · have t1 : (E != 0) = false := by simpa using h0
        have PA' := Lib.hid (PA.out h0)
        have PB' := Lib.hid (PB.out h0)
        have HE0 : Hid (checkT ts 0 = 0) := Lib.hid (HE.out.trans h0)
        clear PA PB ZA ZB h0
        have hDL := dyn_law HLI.out HE0.out PB'.out
        have HDL := Lib.hid hDL
        have HX0 : Hid ((expandF 16384 ts []).2 = 0) := Lib.hid ((checkT_expand ts []).trans HE0.out)
        obtain rfl : E = 0 := by have := HE.out; have := HE0.out; omega
        have hsz6 : w.heap.size ≤ w6.heap.size := K6.out.size
        clear hDL HE
        go_wp2_with fail
        refine (rexpand_calls w6 A k c ts (HT.out.keeps K6.out (off_nil _)) (fun a h => Nat.lt_of_lt_of_le (HA.out a h) hsz6) (by omega)).mono ?_
        rintro _ w7 ⟨v7, rfl, ho7, hb7⟩
        rw [HX0.out]
        generalize (expandF 16384 ts []).1 = says at *
        obtain ⟨A7, c7, rfl⟩ := own_formW ho7
        have hr7 : RI .u8 w7 A7 says.length says := by
          obtain ⟨A', c', hv, hr, -⟩ := own_ri ho7
          injection hv with q1 q2 q3
          subst q1
          exact hr
        have k7 := Keeps.of_below hb7 (S := [])
        have K7 := Lib.hid (K6.out.trans k7)
        have RA7 := Lib.hid (RA6.out.keeps k7 (off_nil _))
        have RB7 := Lib.hid (RB6.out.keeps k7 (off_nil _))
        obtain ⟨sn, hsn⟩ : ∃ x, x = says.length := ⟨_, rfl⟩
        rw [← hsn] at hr7 ⊢
        have RS7 := Lib.hid hr7
        have hsz7 : w.heap.size ≤ w7.heap.size := K7.out.size
        clear ho7 hb7 hr7 k7 K6 RA6 RB6 hsz6
        have HSN := Lib.hid hsn
        clear hsn
        go_wp2_with fail
        refine (r7fix_calls w7 A k c ts (HT.out.keeps K7.out (off_nil _)) (fun a h => Nat.lt_of_lt_of_le (HA.out a h) hsz7) HLI.out HE0.out).mono ?_
        rintro _ w8 ⟨v8, f, rfl, ho8, hwb8, hb8⟩
        obtain rfl : f = xa := hwb8.uniq PA'.out
        obtain ⟨A8, c8, rfl⟩ := own_formW ho8
        have hr8 : RI .u8 w8 A8 f.length f := by
          obtain ⟨A', c', hv, hr, -⟩ := own_ri ho8
          injection hv with q1 q2 q3
          subst q1
          exact hr
        have k8 := Keeps.of_below hb8 (S := [])
        have K8 := Lib.hid (K7.out.trans k8)
        have RA8 := Lib.hid (RA7.out.keeps k8 (off_nil _))
        have RB8 := Lib.hid (RB7.out.keeps k8 (off_nil _))
        have RS8 := Lib.hid (RS7.out.keeps k8 (off_nil _))
        have hna : f.length = na := RA8.out.len
        rw [hna] at hr8 ⊢
        have HNA := Lib.hid hna
        have RF8 := Lib.hid hr8
        clear ho8 hb8 hr8 k8 K7 RA7 RB7 RS7 hsz7 hwb8
        clear hna
        have hna2 : na ≤ 1000000 := by have := fix_len HLI.out HE0.out PA'.out; have := HNA.out; omega
        have hnb2 : nb ≤ 1000000 := by have := HDL.out.1; have := RB8.out.len; omega
        have hsn2 : sn ≤ 16384 := by have := HDL.out.2.2.2.2; have := HSN.out; omega
        go_wp2_with fail
        refine (keepBytes_calls w8 _ _ na na ca c8 _ _ RA8.out RF8.out (by omega) (by omega)).mono ?_
        rintro _ w9 ⟨rfl, hd9⟩
        rw [beq_self_eq_true]
        have k9 := hd9.keeps (S := [])
        have K9 := Lib.hid (K8.out.trans k9)
        have RB9 := Lib.hid (RB8.out.keeps k9 (off_nil _))
        have RS9 := Lib.hid (RS8.out.keeps k9 (off_nil _))
        clear hd9 k9 K8 RA8 RB8 RS8 RF8
        go_wp2_with fail
        refine (unpacked_calls w9 Bb A7 nb cb sn c7 xb says RB9.out RS9.out (PB'.out.all_u8) (by omega) (by omega) HDL.out.2.2.2.1).mono ?_
        rintro _ w10 ⟨rfl, hk10⟩
        have K10 := Lib.hid (K9.out.trans hk10)
        have RB10 := Lib.hid (RB9.out.keeps hk10 (off_nil _))
        clear hk10 K9 RB9 RS9
        go_wp2_with fail
        refine (awake7_calls w10 (HTB.out.keeps K10.out (by simp))).mono ?_
        rintro _ w11 ⟨rfl, hk11⟩
        have K11 := Lib.hid (K10.out.trans hk11)
        have RB11 := Lib.hid (RB10.out.keeps hk11 (off_nil _))
        clear hk11 K10 RB10
        have hnb : 0 < nb := by have := HDL.out.2.1; have := RB11.out.len; omega
        obtain ⟨b, o, rfl, q0⟩ := RB11.out.at hnb
        obtain ⟨z0, z1, z2⟩ := HDL.out.2.2.1
        rw [Nat.add_zero] at q0
        have x9 : decide (0 < nb) = true := by simpa using hnb
        have x9' : decide ((0 : Int) < (nb : Int)) = true := by simp; omega
        generalize nth xb 0 = v at *
        have e8 : Int.tmod v 8 = 5 := by rw [Int.tmod_eq_emod_of_nonneg z0]; exact z2
        have e9 : IntKind.u8.wrap (Int.tmod v 8) = 5 := by rw [e8]; rfl
        clear HDL
        go_wp2_with fail
        go_ret
        exact ⟨rfl, K11.out⟩
      · have t1 : (E != 0) = true := by simpa using h0
        obtain rfl := ZA.out h0
        obtain rfl := ZB.out h0
        clear PA PB ZA ZB h0
        go_wp2_with fail
        refine (awake7_calls w6 (HTB.out.keeps K6.out (by simp))).mono ?_
        rintro _ w7 ⟨rfl, hk7⟩
        have K7 := Lib.hid (K6.out.trans hk7)
        clear hk7
        go_wp2_with fail
        go_ret
        exact ⟨rfl, K7.out⟩
end Go.Proofs.YtkpabdjniiepkaaDoor

/-
  Tokens are laid by the fixed codes just as the document says, and by codes of their own so that they are read again; or refused; of any tokens; what is handed in stays.
-/
set_option linter.unusedVariables false
set_option linter.unusedSimpArgs false
namespace Go.Proofs.YtkpabdjniiepkaaDoor.deflateBlocks
open Go.ChangeShapes Go.WideShapes Go.ChangeAt Go.RowKit
set_option maxRecDepth 100000 in
theorem contract (H : Type) (enc : TypeId × Value → H) (W : World) (base : Nat) (args : Array Value) (ds gs : List (DataW H)) (before : List MemPlace)
    (hval : ∀ (j : Nat) t v, Tryd.f5.params[j]? = some t → args[j]? = some v → Value.okWide Tryd.prog W .any base t v)
    (hW : DataW.Whole enc Tryd.prog Tryd.f5.params.toList Rows.deflateBlocksSpec.vars false W args.toList ds gs before) (hL : laidMetH Tryd.prog Rows.deflateBlocksRow.laid W) :
    Calls Tryd.prog 5 args W fun e W' => ∃ v, e = .returned v ∧ Rows.deflateBlocksSpec.post enc Tryd.prog Tryd.f5 false true false false W args v W' := by
  have hT : Tabs W := tabs_of (laidMet.filter (fun x => x.1 == "haversack/lens.order" || x.1 == "haversack/lens.wide" || x.1 == "haversack/lens.from") hL)
  have hW' := hW
  obtain ⟨p, q, hA0, hV, rfl, hfz, hnd⟩ := hW
  have hA : DataW.TrodAll enc Tryd.prog W 0 (fun _ => true) true Tryd.f5.params.toList args.toList ds p := hA0
  rw [Tryd.params5] at hA hval
  obtain ⟨v0, vs0, d0, ds0, p0, q0, hargs, rfl, rfl, h0, r0⟩ := trodAll_cons hA
  obtain ⟨rfl, rfl, rfl⟩ := trodAll_nil r0
  obtain rfl : args = #[v0] := by cases args; simp_all
  obtain ⟨rfl, rfl⟩ := trodVars_none hV
  obtain ⟨a0, len0, cap0, rfl⟩ := okWide_slice Tryd.underlying31 (hval 0 31 v0 rfl rfl)
  have k0 := h0
  have lt0 : ∀ x ∈ p0, x.block < W.heap.size := by obtain ⟨m, hm⟩ := k0; exact DataW.trod_lt m _ _ _ hm
  obtain ⟨z0, w0, m0, l0, n0⟩ := toks_came h0
  clear hA0
  refine (deflateBlocks_walk W a0 len0 cap0 z0 hT w0 m0 l0 n0 (okWide_off Tryd.underlying31 (hval 0 31 (.slice a0 len0 cap0) rfl rfl))).mono fun e W' ⟨he, hk⟩ => ?_
  have bel := hk.below
  subst he
  exact ⟨_, rfl, _, _, _, [], _, [], hW', trodAll_mk1 (shut_bool Tryd.underlying4 _), (trodAll_cons_mk (Below.trod laidOut (by kernel_rfl) (of_decide_eq_true (by kernel_rfl)) k0 bel lt0) trodAll_mk0), rfl, bel.frame _, fun h => by cases h⟩
theorem reads (os : Os) {H : Type} (enc : TypeId × Value → H) : ∃ places, DataW.whole enc Tryd.prog ((laidWorld os).forCall (fun _ _ => 0) ⟨#[], #[.slice none 0 0], []⟩).memory Tryd.f5.params.toList Rows.deflateBlocksSpec.vars false #[Value.slice none 0 0].toList 8 = some ([.nil], [], places) :=
  ⟨[], by kernel_rfl⟩
set_option maxRecDepth 100000 in
theorem lifted (os : Os) (started : os.Started) (H : Type) (enc : TypeId × Value → H) (F : Stop.Interp) :
    ReturnsInHanded {} Tryd.checked os 5 .any ((OpenSpec.ofChange Rows.deflateBlocksSpec).preRow enc Tryd.prog Tryd.f5 Rows.deflateBlocksRow.domain false Rows.deflateBlocksRow.laid) (((OpenSpec.ofChange Rows.deflateBlocksSpec).at F).post enc Tryd.prog Tryd.f5 false true false false) := by
  obtain ⟨places, hx⟩ := reads os enc
  refine returnsInHanded_of_row (C := Tryd.checked) (s := OpenSpec.ofChange Rows.deflateBlocksSpec) own started (by kernel_rfl) Tryd.func5
    (witness_row_at (enc := enc) (C := Tryd.checked) false (laidWorld os) #[.slice none 0 0] rfl (by kernel_rfl) (by kernel_rfl) (by kernel_rfl)
      (OpenSpec.preRow_of_cond 8 hx (by kernel_rfl) (fun k hk => by cases hk) (by kernel_rfl) (laid_met os _))) ?_
  intro W base args ds gs before hval hW _ _ _ hL _ _
  exact contract H enc W base args ds gs before hval hW hL
theorem said : Rows.DeflateBlocksSaid :=
  OpenClaim.holds_of_cond 5 Tryd.f5 rfl rfl rfl rfl rfl rfl rfl ⟨rfl, rfl, rfl, rfl, rfl⟩ rfl rfl rfl rfl rfl (by kernel_rfl) Tryd.func5 (by kernel_rfl)
    (of_decide_eq_true (by kernel_rfl)) (by unfold Func.isWrapper; first | (rw [if_pos (by decide +kernel)]; kernel_rfl) | (rw [if_neg (by decide +kernel)]; exact ⟨rfl, rfl⟩))
    (fun os started H enc _ F => by rw [OpenClaim.pre_eq_preRow]; exact lifted os started H enc F)
theorem plain (f : FuncId) (fn : Func) (hf : Tryd.pinned.checked.prog.funcNamed "haversack/haversacklaw07.DeflateBlocks" = some f) (hfn : Tryd.pinned.checked.prog.funcs[f]? = some fn) :
    false = Tryd.pinned.checked.prog.looks [] ∧ ∀ (j : Nat) t, fn.params[j]? = some t → Tryd.pinned.checked.prog.wantsStandIn t = false := by
  obtain rfl : f = 5 := Option.some.inj ((show Tryd.prog.funcNamed "haversack/haversacklaw07.DeflateBlocks" = some 5 by kernel_rfl).symm.trans hf) |>.symm
  obtain rfl : fn = Tryd.f5 := (Option.some.inj (Tryd.func5.symm.trans hfn)).symm
  refine ⟨by kernel_rfl, fun j t ht => ?_⟩
  rw [Tryd.params5] at ht
  have hm := Array.mem_of_getElem? ht
  obtain rfl : t = 31 := by simpa using hm
  exact (show Tryd.prog.wantsStandIn 31 = false by kernel_rfl)
/-- The card. -/
theorem card : Rows.DeflateBlocksCardSaid :=
  Claim7.holds_tied_plain_at .later [] _ _ _ _ said (fun _ h => by cases h) (by kernel_rfl) (fun _ h => by cases h) deflateBlocks_row_tie rfl ⟨rfl, rfl⟩ (by kernel_rfl) rfl plain (by kernel_rfl)
#print axioms card
end Go.Proofs.YtkpabdjniiepkaaDoor.deflateBlocks
