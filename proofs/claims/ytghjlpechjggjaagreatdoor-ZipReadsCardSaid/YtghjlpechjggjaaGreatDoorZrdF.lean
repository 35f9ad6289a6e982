import Derived.Test.YtghjlpechjggjaaGreatDoorZrdC
import Derived.Test.YtghjlpechjggjaaGreatDoorZrdD
import Derived.BigQuiet
import Derived.Test.YtghjlpechjggjaaGreatDoorZrdA
import Derived.Deep.Onto
import Derived.Deep.RegionLaw
import Derived.Maps.OwnSet
import Derived.StillTailTactics
import Derived.Recover
import Derived.Defers
import Derived.Deep.AppendLies
import Derived.OneCell
import Derived.Test.YtghjlpechjggjaaGreatDoorZrdB
import Derived.Laws.AppendOwnNone
import Derived.Deep.MidRow
import Derived.RegionTactic
import Derived.WalkMore
import Derived.BigRegion
import Derived.Laws.OwnMore
import Derived.Lib.SliceRun
import Derived.Test.YtghjlpechjggjaaGreatDoorZrdE
import Derived.Deep.RegionWith
set_option linter.defProp false
set_option linter.unnecessarySimpa false
set_option linter.unusedVariables false
set_option linter.unusedSimpArgs false
set_option linter.constructorNameAsVariable false
set_option maxRecDepth 100000
set_option maxHeartbeats 60000000
namespace Go.Proofs.YtghjlpechjggjaaGreatDoor
open Go.RowKit
private def c3o := @Lib.hid
private def c3p := @List.mem_singleton
private def c3q := @List.getElem?_cons_zero
private def c3r := @List.getElem?_append_right
private def c3s := @List.getElem?_cons_succ
private def c3t := @IntWalk.i64_in
private def c3u := @List.set_append_right
private def c3v := @List.getElem?_eq_getElem
private def c3w := @Tryz.underlying90
private def c3x := @Tryz.ntmps184
private def c3y := @List.getElem?_append_left
private def c3z := @List.getElem?_eq_some_iff
private def c3A := @Option.some.inj
private def c3B := @Tryz.func184
private def c3C := @Tryz.results179
private def c3D := @List.eq_nil_of_length_eq_zero
private def c3E := @bodyPost_ret
private def c3F := @Nat.le_refl
private def c3G := @World.ownsRow_nil
private def c3H := @Nat.zero_add
private def c3I := @rounds_succ
private def c3J := @Int.eq_ofNat_of_zero_le
private def c3K := @List.length_append
private def c3L := @List.length_replicate
private def c3M := @Below.refl
private def c3N := @List.mem_cons
open Go.RowKit
theorem c2z{a b c:Int}{said:Nat}(h0:¬b=0)(h:¬(a=0/\3<=b/\b<=258/\1<=c/\c<=32768/\c<=said)):mayT (a,b,c) said=false:=by
 unfold mayT
 rw[if_neg h0]
 exact decide_eq_false h
theorem b3d(w:World)(t:Tok)(said:Nat)(hs:said<=1000000) :
  Calls Tryz.prog 92 #[tokV t,.int .i64 said] w fun e w'=>e=.returned (.bool (mayT t said))/\Keeps [] w w':=by
 obtain⟨a,b,c⟩:=t
 have ha:Keeps [] w (w.alloc (.cells #[.int .u8 a,.int .i64 b,.int .i64 c] 98)):=(Keeps.refl [] w).alloc _
 unfold tokV
 by_cases h0:b=0
 ·have HR:Hid (mayT (a,b,c) said=(c==0)):=by
   show _=_
   unfold mayT;rw[if_pos h0]
   by_cases h:c=0<;>simp[h]
  have x0:decide (b=0)=true:=by simpa using h0
  have x0':(b==0)=true:=by simpa using h0
  clear h0
  go_enter Tryz.func92,Tryz.ntmps92
  go_wp2_with fail
  go_ret
  exact⟨by rw[HR.out];rfl,ha⟩
 ·have x0:decide (b=0)=false:=by simpa using h0
  have x0':(b==0)=false:=by simpa using h0
  have NO:Hid (¬(a=0/\3<=b/\b<=258/\1<=c/\c<=32768/\c<=said)->mayT (a,b,c) said=false):=c3o (c2z h0)
  have H0:=c3o h0
  clear h0
  by_cases h1:a=0
  ·have x1:decide (a=0)=true:=by simpa using h1
   have x1':(a==0)=true:=by simpa using h1
   have H1:=c3o h1
   clear h1
   by_cases h2:3<=b
   ·have x2:decide (3<=b)=true:=by simpa using h2
    have H2:=c3o h2
    clear h2
    by_cases h3:b<=258
    ·have x3:decide (b<=258)=true:=by simpa using h3
     have H3:=c3o h3
     clear h3
     by_cases h4:1<=c
     ·have x4:decide (1<=c)=true:=by simpa using h4
      have H4:=c3o h4
      clear h4
      obtain⟨K,hK⟩:∃ K:Nat,(if (said:Int)<32768 then (said:Int) else 32768)=(K:Int):=⟨min said 32768,by split<;>omega⟩
      have HK:Hid (K=min said 32768):=c3o (by split at hK<;>omega)
      go_enter Tryz.func92,Tryz.ntmps92
      go_wp2_with fail
      go_ret
      refine⟨?_,ha⟩
      have e:mayT (a,b,c) said=decide (c<=(K:Int)):=by
       have:=H0.out;have:=H1.out;have:=H2.out;have:=H3.out;have:=H4.out;have hKK:=HK.out
       unfold mayT
       rw[if_neg H0.out]
       exact decide_eq_decide.2 (by dsimp only;omega)
      rw[e];rfl
     ·have x4:decide (1<=c)=false:=by simpa using h4
      have HR:=c3o (NO.out (by omega))
      clear h4
      go_enter Tryz.func92,Tryz.ntmps92
      go_wp2_with fail
      go_ret
      exact⟨by rw[HR.out];rfl,ha⟩
    ·have x3:decide (b<=258)=false:=by simpa using h3
     have HR:=c3o (NO.out (by omega))
     clear h3
     go_enter Tryz.func92,Tryz.ntmps92
     go_wp2_with fail
     go_ret
     exact⟨by rw[HR.out];rfl,ha⟩
   ·have x2:decide (3<=b)=false:=by simpa using h2
    have HR:=c3o (NO.out (by omega))
    clear h2
    go_enter Tryz.func92,Tryz.ntmps92
    go_wp2_with fail
    go_ret
    exact⟨by rw[HR.out];rfl,ha⟩
  ·have x1:decide (a=0)=false:=by simpa using h1
   have x1':(a==0)=false:=by simpa using h1
   have HR:=c3o (NO.out (by omega))
   clear h1
   go_enter Tryz.func92,Tryz.ntmps92
   go_wp2_with fail
   go_ret
   exact⟨by rw[HR.out];rfl,ha⟩
theorem a6g(w:World)(A:Option Addr)(n c:Nat)(ts:List Tok)(h:RT w A n ts)(hn:n<=140737488355328) :
  Calls Tryz.prog 59 #[.slice A n c] w fun e w'=>e=.returned (.int .i64 (a1D ts 0))/\Keeps [] w w':=by
 have H:=c3o h
 have HL:=c3o h.len
 clear h
 go_enter Tryz.func59,Tryz.ntmps59
 go_wp2_with fail
 go_loopw [3,8] (fun sv iv wr=>∃ (p s:Nat),p<=n/\s<=16384/\sv=.int .i64 s/\iv=.int .i64 p/\Hid (a1D ts 0=a1D (ts.drop p) s)/\Hid (Keeps [] w wr)) (fun _ iv _=>n-(intOf iv).toNat)
 case atStart=>exact⟨0,0,by omega,by omega,rfl,rfl,c3o (by simp),c3o (Keeps.refl _ _)⟩
 case round=>
  obtain⟨p,s,hp,hs,rfl,rfl,HC,HK⟩:=hrel
  by_cases hlt:p<n
  ·have e5:decide (p<n)=true:=by simpa using hlt
   obtain⟨tb,to',rfl⟩:=H.out.hd (by omega)
   obtain⟨p0,p1,p2⟩:=(H.out.keeps HK.out (a0a _)).cell tb to' rfl p hlt
   have HD:Hid (ts.drop p=tth ts p::ts.drop (p+1)):=c3o (b9b (by have:=HL.out;omega))
   generalize tth ts p=t at *
   have HRT:=fun w=>b3d w t s (by omega)
   have HX:=c3o HRT
   clear HRT
   obtain⟨a,b,d⟩:=t
   dsimp only at p0 p1 p2
   go_wp2_with fail
   refine (HX.out _).mono ?_
   rintro _ w1 ⟨rfl,hk1⟩
   have hbx:=(a0d wr 98 [.int .u8 a,.int .i64 b,.int .i64 d]).keeps hk1 (by simp)
   have b1:=hbx.cell 1
   simp only[c3q,c3s] at b1
   have HK1:=c3o ((HK.out.alloc (.cells #[.int .u8 a,.int .i64 b,.int .i64 d] 98)).trans hk1)
   clear hbx hk1 HX p0 p1 p2 HK
   have HE:=HC.out
   rw[HD.out,a1D] at HE
   clear HC
   by_cases hm:mayT (a,b,d) s=false
   ·rw[if_pos hm] at HE
    have HE2:=c3o HE
    clear HE
    rw[hm]
    go_wp2_with fail
    go_ret
    exact⟨by rw[HE2.out];rfl,HK1.out⟩
   ·rw[if_neg hm] at HE
    have hm':mayT (a,b,d) s=true:=by simpa using hm
    rw[hm']
    have hb0:=b1c hm'
    obtain⟨m,hm2⟩:=c3J hb0
    dsimp only at hm2
    subst hm2
    have hmx:(m:Int)<=258:=by
     unfold mayT at hm'
     split at hm'
     ·next h=>dsimp only at h;omega
     ·have:=of_decide_eq_true hm';dsimp only at this;omega
    dsimp only at HE
    rw[Int.toNat_natCast] at HE
    obtain⟨K,hK⟩:∃ K:Nat,(if 1<(m:Int) then (m:Int) else 1)=(K:Int):=⟨max 1 m,by split<;>omega⟩
    have hK2:max 1 m=K:=by split at hK<;>omega
    rw[hK2] at HE
    have HE2:=c3o HE
    have s1:IntKind.i64.wrap ((s:Int)+(K:Int))=(s:Int)+(K:Int):=c3t _ (by omega)
    clear HE hm hm' hb0 hK2
    by_cases hbig:16384<s+K
    ·have x2:decide ((16384:Int)<(s:Int)+(K:Int))=true:=by simp;omega
     have HE3:=c3o (HE2.out.trans (if_pos hbig))
     clear HE2 hbig
     go_wp2_with fail
     go_ret
     exact⟨by rw[HE3.out];rfl,HK1.out⟩
    ·have x2:decide ((16384:Int)<(s:Int)+(K:Int))=false:=by simp;omega
     have HE3:=c3o (HE2.out.trans (if_neg hbig))
     clear HE2
     go_wp2_with fail
     go_roundw
     case rel=>exact⟨p+1,s+K,by omega,by omega,by go_num,by go_num,HE3,HK1⟩
     case measure=>simp[intOf];omega
  ·obtain rfl:p=n:=by omega
   have e5:decide (p<p)=false:=by simp
   have HE:Hid (a1D ts 0=0):=c3o (by rw[HC.out,List.drop_eq_nil_of_le (by have:=HL.out;omega)];rfl)
   go_wp2_with fail
   go_ret
   exact⟨by rw[HE.out];rfl,HK.out⟩
end Go.Proofs.YtghjlpechjggjaaGreatDoor
namespace Go.Proofs.YtghjlpechjggjaaGreatDoor
open Go.RowKit
theorem a9f (w:World) (gb g1 g2 g3 g4 n1 n2 n3 n4 c1 c2 c3 c4:Nat) (x1 x2 x3 x4:List Int) (h0:w.cell? ⟨gb,0,none⟩=some (.slice (some ⟨g1,0,none⟩) n1 c1)) (h1:w.cell? ⟨gb,1,none⟩=some (.slice (some ⟨g2,0,none⟩) n2 c2)) (h2:w.cell? ⟨gb,2,none⟩=some (.slice (some ⟨g3,0,none⟩) n3 c3)) (h3:w.cell? ⟨gb,3,none⟩=some (.slice (some ⟨g4,0,none⟩) n4 c4))
  (hx1:RI .i64 w (some ⟨g1,0,none⟩) n1 x1) (hx2:RI .i64 w (some ⟨g2,0,none⟩) n2 x2) (hx3:RI .i64 w (some ⟨g3,0,none⟩) n3 x3) (hx4:RI .i64 w (some ⟨g4,0,none⟩) n4 x4)
  (hn1:n1<=1000000) (hn2:n2<=1000000) (hn3:n3<=1000000) (hn4:n4<=1000000) :
  Calls Tryz.prog 60 #[.slice (some ⟨gb,0,none⟩) 4 4] w fun e w'=>∃ v,e=.returned v/\w'.ownsRow w.heap.size 3 1 v (n1+n2+n3+n4) (ints .i64 (x1++(x2++(x3++x4))))/\Below w.heap.size w w':=by
 have HX1:=c3o hx1
 have HX2:=c3o hx2
 have HX3:=c3o hx3
 have HX4:=c3o hx4
 have H0:=c3o h0
 have H1:=c3o h1
 have H2:=c3o h2
 have H3:=c3o h3
 have e1:decide ((n1:Int)<0)=false:=by simp
 have e2:decide ((n1:Int)+n2<0)=false:=by simp;omega
 have e3:decide ((n1:Int)+n2+n3<0)=false:=by simp;omega
 have e4:decide ((n1:Int)+n2+n3+n4<0)=false:=by simp;omega
 clear hx1 hx2 hx3 hx4
 go_enter Tryz.func60,Tryz.ntmps60
 go_wp2_with fail
 refine wp_loop_rounds 5 ?_
 rw[c3I]
 go_wp2_with fail
 rw[c3I]
 go_wp2_with fail
 rw[c3I]
 go_wp2_with fail
 rw[c3I]
 go_wp2_with fail
 rw[c3I]
 go_wp2_with fail
 rw[show ((n1:Int)+n2+n3+n4)=((n1+n2+n3+n4:Nat):Int) by omega]
 refine (a8r _ (n1+n2+n3+n4) (by omega)).mono ?_
 rintro _ w1 ⟨v,rfl,ho,hb⟩
 have HO:=c3o (ho w.heap.size (c3F _))
 have HB:=c3o hb
 have hz:=hb.size
 have h0:=(Keeps.of_below (S:=[]) hb).cell (by simp) H0.out
 clear h1 h2 h3
 clear ho hb e1 e2 e3 e4
 go_wp2_with fail
 refine wp_loop_rounds 5 ?_
 rw[c3I]
 go_wp2_with (at_builtin;refine a0Y rfl (.tmp 31) (.tmp 32) rfl w.heap.size _ _ [] rfl HO.out (some ⟨g1,0,none⟩) n1 c1 x1 rfl (HX1.out.keeps (Keeps.of_below (S:=[]) HB.out) (a0a _)) nofun (fun ad h=>⟨_,_,(c3A h).symm⟩) (by omega) hz ?_)
 intro v2 w2 ho hg
 have HO2:=c3o ho
 have hb2:=HB.out.grown hg hz (fun k hk=>a0j HO.out k hk)
 have HB2:=c3o hb2
 replace hz:=hb2.size
 clear h0
 have h1:=(Keeps.of_below (S:=[]) hb2).cell (by simp) H1.out
 clear ho hg hb2
 go_wp2_with fail
 rw[c3I]
 go_wp2_with (at_builtin;refine a0Y rfl (.tmp 31) (.tmp 32) rfl w.heap.size _ _ _ rfl HO2.out (some ⟨g2,0,none⟩) n2 c2 x2 rfl (HX2.out.keeps (Keeps.of_below (S:=[]) HB2.out) (a0a _)) nofun (fun ad h=>⟨_,_,(c3A h).symm⟩) (by omega) hz ?_)
 intro v3 w3 ho hg
 have HO3:=c3o ho
 have hb2:=HB2.out.grown hg hz (fun k hk=>a0j HO2.out k hk)
 have HB3:=c3o hb2
 replace hz:=hb2.size
 clear h1
 have h2:=(Keeps.of_below (S:=[]) hb2).cell (by simp) H2.out
 clear ho hg hb2
 go_wp2_with fail
 rw[c3I]
 go_wp2_with (at_builtin;refine a0Y rfl (.tmp 31) (.tmp 32) rfl w.heap.size _ _ _ rfl HO3.out (some ⟨g3,0,none⟩) n3 c3 x3 rfl (HX3.out.keeps (Keeps.of_below (S:=[]) HB3.out) (a0a _)) nofun (fun ad h=>⟨_,_,(c3A h).symm⟩) (by omega) hz ?_)
 intro v4 w4 ho hg
 have HO4:=c3o ho
 have hb2:=HB3.out.grown hg hz (fun k hk=>a0j HO3.out k hk)
 have HB4:=c3o hb2
 replace hz:=hb2.size
 clear h2
 have h3:=(Keeps.of_below (S:=[]) hb2).cell (by simp) H3.out
 clear ho hg hb2
 go_wp2_with fail
 rw[c3I]
 go_wp2_with (at_builtin;refine a0Y rfl (.tmp 31) (.tmp 32) rfl w.heap.size _ _ _ rfl HO4.out (some ⟨g4,0,none⟩) n4 c4 x4 rfl (HX4.out.keeps (Keeps.of_below (S:=[]) HB4.out) (a0a _)) nofun (fun ad h=>⟨_,_,(c3A h).symm⟩) (by omega) hz ?_)
 intro v5 w5 ho hg
 have HO5:=c3o ho
 have hb2:=HB4.out.grown hg hz (fun k hk=>a0j HO4.out k hk)
 have HB5:=c3o hb2
 replace hz:=hb2.size
 clear h3
 clear ho hg hb2
 go_wp2_with fail
 rw[c3I]
 go_wp2_with fail
 go_ret
 exact⟨_,rfl,HO5.out,HB5.out⟩
end Go.Proofs.YtghjlpechjggjaaGreatDoor
namespace Go.Proofs.YtghjlpechjggjaaGreatDoor
open Go.RowKit
theorem b2J(w:World)(m:Nat)(hm:m<=1000000) :
  Calls Tryz.prog 116 #[.int .u64 1,.int .u64 m] w fun e w'=>e=.returned (.tuple #[.int .u64 0,.int .u64 m])/\w=w':=by
 have e1:Go.bits .and .u64 1 4294967295=1:=by rw[a5O _ (by omega) (by omega)];rfl
 have e2:Go.bits .and .u64 0 4294967295=0:=by rw[a5O _ (by omega) (by omega)];rfl
 have e3:Go.bits .and .u64 (m:Int) 4294967295=m:=by rw[a5O _ (by omega) (by omega)];omega
 have e4:IntKind.u64.wrap (m:Int)=m:=a1v _ (by omega) (by omega)
 have e5:(m:Int)/4294967296=0:=by omega
 have e6:IntKind.u64.wrap 0=0:=rfl
 go_enter Tryz.func116,Tryz.ntmps116
 go_wp2
 go_ret2
 exact⟨rfl,rfl⟩
theorem b7o(w:World)(m:Nat)(hm:m<=1000000) :
  Calls Tryz.prog 94 #[.int .u64 1,.int .u64 m] w fun e w'=>e=.returned (.tuple #[.int .u64 0,.int .u64 m])/\w=w':=by
 go_enter Tryz.func94,Tryz.ntmps94
 go_wp2_with fail
 refine (b2J _ _ hm).mono ?_
 rintro e w' ⟨rfl,rfl⟩
 go_wp2_with fail
 go_ret2
 exact⟨rfl,rfl⟩
end Go.Proofs.YtghjlpechjggjaaGreatDoor
namespace Go.Proofs.YtghjlpechjggjaaGreatDoor
open Go.RowKit
theorem a9s(k:IntKind)(xs:List Int):∀ v∈ints k xs,v.oneCell'=true:=by
 intro u hu;simp only[ints,List.mem_map] at hu;obtain⟨x,_,rfl⟩:=hu;rfl
theorem c1H{w:World}{g t k m:Nat}{v:Int}(h:Blk w g t (ints .i64 (List.replicate k v++List.replicate m 0)))(j:Nat)(hj:j<=k) :
  ∀ i u,(ints .i64 (List.replicate j v))[i]? =some u->w.cell? ((⟨g,0,none⟩:Addr).add i)=some u:=by
 intro i u hu
 have hi:i<j:=by have:=(c3z.1 hu).1;simpa [ints] using this
 rw[a0R,h.cell]
 rw[a0f] at hu ⊢
 rw[c3y (by simp;omega)]
 simpa [hi,show i<k by omega] using hu
theorem c1G{k m q:Nat}{v:Int}(h2:q<=m-k)(h:k<m):k+(ints .i64 (List.replicate q v)).length<=(ints .i64 (List.replicate k v++List.replicate (m-k) 0)).length:=by
 simp[ints];omega
theorem b5G{k m q:Nat}{v:Int}(h2:q<=m-k)(h:k<m):splice (ints .i64 (List.replicate k v++List.replicate (m-k) 0)) k (ints .i64 (List.replicate q v))=ints .i64 (List.replicate (k+q) v++List.replicate (m-(k+q)) 0):=by
 have e1:List.replicate (k+q) v=List.replicate k v++List.replicate q v:=by simp
 rw[e1]
 simp only[splice,ints,List.map_append,List.map_replicate,c3L,List.append_assoc]
 rw[List.take_append_of_le_length (by simp),List.drop_append]
 simp
 omega
theorem b1i(w:World)(b c m:Nat)(v:Int)(hc:w.cell? ⟨b,0,none⟩=some (.int .i64 v))(hm1:1<=m)(hm:m<=1000000) :
  Calls Tryz.prog 61 #[.slice (some ⟨b,0,none⟩) 1 c,.int .i64 m] w fun e w'=>∃ g,e=.returned (.slice (some ⟨g,0,none⟩) m m)/\Blk w' g 3 (ints .i64 (List.replicate m v))/\w.heap.size<=g/\Below w.heap.size w w':=by
 have hbl:b<w.heap.size:=World.block_lt_of_cell? _ _ hc
 have e0:IntKind.u64.wrap (m:Int)=m:=a1v _ (by omega) (by omega)
 have e1:IntKind.u64.wrap 1=1:=rfl
 have e2:decide ((0:Int)<0)=false:=rfl
 have e4:decide ((m:Int)<0)=false:=by simp
 have hmk:=fun w=>a1h (P:=Tryz.prog) w 90 3 .i64 8 c3w a1y (m:Int) m rfl (by omega) (by omega)
 go_enter Tryz.func61,Tryz.ntmps61
 go_wp2_with fail
 refine (b7o _ _ hm).mono ?_
 rintro e w' ⟨rfl,rfl⟩
 have e3:decide ((9223372036854775807:Int)<(m:Int))=false:=by simp;omega
 go_wp2_with (with_reducible refine wpList_copy_splice rfl (.tmp 31) (.tmp 32) _ _ rfl 3 c3w b4x _ _ _ _ _ _ rfl rfl w.heap.size 0 (ints .i64 (List.replicate m 0)) 3 ?h1 (ints .i64 [v]) ?h2 ?h3 ?h4 ?h5 w.heap.size w ?h6 (c3F _) ?_)
 case h1=>exact a0d w _ _
 case h2=>exact (Nat.min_eq_left hm1).symm
 case h3=>
  intro _ j u hu
  match j,hu with
  | 0,hu=>
   simp[ints] at hu
   subst hu
   exact hc
  | j+1,hu=>simp[ints] at hu
 case h4=>simp[ints];omega
 case h5=>intro u hu;simp only[ints,List.mem_map] at hu;obtain⟨x,_,rfl⟩:=hu;rfl
 case h6=>exact (c3M _ _).alloc (c3F _) _
 intro w1 hg1 hb1
 have hB:Blk w1 w.heap.size 3 (splice (ints .i64 (List.replicate m 0)) 0 (ints .i64 [v])):=hg1.out
 have hsp:splice (ints .i64 (List.replicate m 0)) 0 (ints .i64 [v])=ints .i64 (List.replicate 1 v++List.replicate (m-1) 0):=by
  simp[splice,ints]
 rw[hsp] at hB
 clear hg1 hsp hmk hc
 have HB:=c3o hB
 have HW:=c3o hb1
 clear hB hb1 e0 e1 e2 e3 e4
 go_wp2_with fail
 go_loopw [8] (fun v8 wr=>∃ k:Nat,1<=k/\k<=m/\v8=.int .i64 k/\Hid (Blk wr w.heap.size 3 (ints .i64 (List.replicate k v++List.replicate (m-k) 0)))/\Hid (Below w.heap.size w wr)) (fun v8 _=>m-(intOf v8).toNat)
 case atStart=>exact⟨1,by omega,by omega,by go_num,HB,HW⟩
 case round=>
  clear HB HW
  obtain⟨k,hk1,hk,rfl,HB,HW⟩:=hrel
  by_cases hlt:k<m
  ·go_wp2_with fail
   have HLT:=c3o hlt
   obtain⟨q,hq⟩:∃ q,q=Nat.min k (m-k):=⟨_,rfl⟩
   have hq1:1<=q:=by rw[hq];exact Nat.le_min.2 ⟨hk1,by omega⟩
   have hq2:q<=m-k:=by rw[hq];exact Nat.min_le_right _ _
   have hq3:q<=k:=by rw[hq];exact Nat.min_le_left _ _
   have HQ:=c3o hq
   clear hq
   have hlen:(ints .i64 (List.replicate q v)).length=q:=by simp[ints]
   have HLEN:=c3o hlen
   have e2:IntKind.i64.wrap ((k:Int)+(q:Int))=(k:Int)+(q:Int):=c3t _ (by omega)
   have e9:¬m=k:=by omega
   have HN:=c3o e9
   go_region_law (refine step_copy_splice rfl (.tmp 41) (.tmp 44) _ _ rfl 3 c3w b4x (some ⟨w.heap.size,k,none⟩) (some ⟨w.heap.size,0,none⟩) (m-k) (m-k) k m (by simp[Act.eval,Act.put,HN.out]) (by simp[Act.eval,Act.put]) w.heap.size k (ints .i64 (List.replicate k v++List.replicate (m-k) 0)) 3 (by exact HB.out) (ints .i64 (List.replicate q v)) (by exact HLEN.out.trans HQ.out) (fun _=>⟨rfl,_,rfl,by exact c1H HB.out _ hq3⟩) (by exact c1G hq2 HLT.out) (by exact a9s _ _) w.heap.size w (by exact HW.out.drew) (c3F _) ?_;intro w4 hg4 hb4)
   all_goals
    have hB4:Blk w4 w.heap.size 3 (splice (ints .i64 (List.replicate k v++List.replicate (m-k) 0)) k (ints .i64 (List.replicate q v))):=hg4.out
    rw[b5G hq2 HLT.out] at hB4
    have HB4:=c3o hB4
    have HW4:=c3o hb4
    clear hB4 hb4 hg4 HB HW e9 hlen e2
    go_wp2_with fail
    go_roundw
    case rel=>exact⟨.int .i64 ((k:Int)+q),_,_,_,_,_,_,_,_,_,_,_,_,_,⟨k+q,by omega,by omega,by go_num,HB4,HW4⟩,rfl⟩
    case measure=>
     show m-(intOf (.int .i64 ((k:Int)+q))).toNat<m-(intOf (.int .i64 (k:Int))).toNat
     simp[intOf];omega
  ·go_wp2_with fail
   obtain rfl:k=m:=by omega
   go_ret
   exact⟨_,rfl,by simpa using HB.out,c3F _,HW.out⟩
theorem a1g(w:World)(b c m:Nat)(mi v:Int)(hmi:mi=m)(hc:w.cell? ⟨b,0,none⟩=some (.int .i64 v))(hm1:1<=m)(hm:m<=1000000) :
  Calls Tryz.prog 61 #[.slice (some ⟨b,0,none⟩) 1 c,.int .i64 mi] w fun e w'=>∃ g,e=.returned (.slice (some ⟨g,0,none⟩) m m)/\Blk w' g 3 (ints .i64 (List.replicate m v))/\w.heap.size<=g/\Below w.heap.size w w':=by
 subst hmi
 exact b1i w b c m v hc hm1 hm
end Go.Proofs.YtghjlpechjggjaaGreatDoor
namespace Go.Proofs.YtghjlpechjggjaaGreatDoor
open Go.RowKit Go.Maps Go.WideMaps
structure RW {α:Type} (k:Nat) (enc:α->List Value) (w:World) (A:Option Addr) (n:Nat) (ts:List α):Prop where
 len:ts.length=n
 hd:0<n->∃ b o,A=some ⟨b,o,none⟩
 cell:∀ b o,A=some ⟨b,o,none⟩->∀ (j:Nat) (hj:j<ts.length) (i:Nat),i<k->w.cell? ⟨b,o+j*k+i,none⟩=(enc ts[j])[i]?
theorem RW.keeps{α:Type}{k:Nat}{enc:α->List Value}{S:List Nat}{w w':World}{A:Option Addr}{n:Nat}{ts:List α}(he:∀ t,(enc t).length=k)(h:RW k enc w A n ts)(hk:Keeps S w w')(ho:Off S A):RW k enc w' A n ts:=
 ⟨h.len,h.hd,fun b o ha j hj i hi=>by
  have hc:=h.cell b o ha j hj i hi
  have hl:i<(enc ts[j]).length:=by rw[he];exact hi
  rw[c3v hl] at hc ⊢
  exact hk.cell (p:=⟨b,o+j*k+i,none⟩) (ho ⟨b,o,none⟩ ha) hc⟩
theorem c2K{α:Type}{k:Nat}{enc:α->List Value}(he:∀ t,(enc t).length=k)(ts:List α):(ts.flatMap enc).length=ts.length*k:=by
 induction ts with
 | nil=>simp
 | cons t ts ih=>rw[List.flatMap_cons,c3K,ih,he,List.length_cons,Nat.add_mul];omega
theorem b7S{α:Type}{k:Nat}{enc:α->List Value}(he:∀ t,(enc t).length=k):∀ (ts:List α) (j:Nat) (hj:j<ts.length) (i:Nat),i<k->(ts.flatMap enc)[j*k+i]? =(enc ts[j])[i]?
 | [],j,hj,_,_=>by simp at hj
 | t::ts,0,hj,i,hi=>by
  rw[List.flatMap_cons,Nat.zero_mul,c3H,c3y (by rw[he];exact hi)]
  rfl
 | t::ts,j+1,hj,i,hi=>by
  have ih:=b7S he ts j (by simpa using hj) i hi
  rw[List.flatMap_cons,c3r (by rw[he,Nat.add_mul];omega),he,show (j+1)*k+i-k=j*k+i by rw[Nat.add_mul];omega,ih]
  rfl
theorem a4Z{α:Type}{k:Nat}{enc:α->List Value}(hk0:0<k)(he:∀ t,(enc t).length=k){w:World}{base:Nat}{e:TypeId}{v:Value}{n:Nat}{ts:List α}(h:w.ownsRow base e k v n (ts.flatMap enc)) :
  ∃ A c,v=.slice A n c/\RW k enc w A n ts/\n<=c/\(∀ a,A=some a->base<=a.block/\a.block<w.heap.size):=by
 obtain⟨h1,h2⟩:=h
 have hl:ts.length=n:=by rw[c2K he] at h1;exact Nat.eq_of_mul_eq_mul_right hk0 h1
 rcases h2 with⟨rfl,rfl⟩|⟨g,cap,cur,rfl,hb,hh,hc,hm,hs,ht⟩
 ·exact⟨none,0,rfl,⟨hl,by omega,by simp⟩,by omega,by simp⟩
 ·refine⟨_,_,rfl,⟨hl,fun _=>⟨_,_,rfl⟩,fun b o ha j hj i hi=>?_⟩,hc,fun a ha=>?_⟩
  ·injection ha with ha;injection ha with h1 h2 h3;subst h1;subst h2
   have hp:=b7S he ts j hj i hi
   have hlt:j*k+i<n*k:=by
    have:(j+1)*k<=n*k:=Nat.mul_le_mul_right k (by omega)
    rw[Nat.add_mul] at this;omega
   have e1:cur.toList[j*k+i]? =(ts.flatMap enc)[j*k+i]? :=by rw[<-ht,List.getElem?_take,if_pos hlt]
   rw[c3H]
   unfold World.cell?
   simp only[hh]
   rw[<-Array.getElem?_toList,e1]
   exact hp
  ·obtain rfl:=c3A ha
   exact⟨hb,(Array.getElem?_eq_some_iff.1 hh).1⟩
abbrev EN:=ByteArray×ByteArray
def ecells(e:EN):List Value:=[.string e.1,.string e.2]
theorem a0g(e:EN):(ecells e).length=2:=rfl
def keyL(s:ByteArray):Lit:=.string s.data.toList
theorem b6O(s t:ByteArray):(keyL s).sameKey (keyL t)=decide (s=t):=by
 show (s.data.toList==t.data.toList)=_
 by_cases h:s=t
 ·subst h;simp
 ·rw[decide_eq_false h,beq_eq_false_iff_ne]
  intro e
  apply h
  cases s;cases t
  simpa using e
theorem c1t(s:ByteArray):WideAt.IsKeyLit (keyL s):=by simp[keyL,WideAt.IsKeyLit]
theorem a5B:Keyed Tryz.prog 9:=string_keyed Tryz.underlying9
theorem b0e(w:World):(zeroValue 62).run Tryz.prog w=.ok (.agg #[]) w:=by kernel_rfl
def SetM(w:World)(B:Nat)(l:List ByteArray):Prop:=w.ownsMap (H:=Unit) Tryz.prog 9 unitElem B l.length (setOf (.agg []) (l.map keyL))
def inL(l:List ByteArray)(s:ByteArray):Bool:=l.any fun k=>decide (k=s)
theorem a6Y{l:List ByteArray}{s:ByteArray}:inL l s=true↔s∈l:=by
 unfold inL
 rw[List.any_eq_true]
 constructor
 ·rintro ⟨x,hx,he⟩;exact of_decide_eq_true he ▸ hx
 ·intro h;exact⟨s,h,decide_eq_true rfl⟩
theorem b7V(l:List ByteArray)(s:ByteArray):Maps.has (H:=Unit) (setOf (.agg []) (l.map keyL)) (keyL s)=inL l s:=by
 rw[has_setOf _ _ _ (fun x hx=>by obtain⟨t,-,rfl⟩:=List.mem_map.1 hx;exact c1t t),List.any_map]
 unfold inL
 congr 1
 funext t
 exact b6O t s
theorem SetM.lt{w:World}{B:Nat}{l:List ByteArray}(h:SetM w B l):B<w.heap.size:=World.ownsMap.lt h
theorem SetM.keeps{S:List Nat}{w w':World}{B:Nat}{l:List ByteArray}(h:SetM w B l)(hk:Keeps S w w')(hB:B∉S):SetM w' B l:=by
 obtain⟨es,clock,h1,h2,h3,h4⟩:=h
 exact⟨es,clock,hk.heap h1 hB,h2,h3,h4⟩
theorem b4v(w:World):SetM (w.alloc (.map #[] 0)) w.heap.size []:=World.ownsMap_made _ _ _ _
theorem SetM.snoc{w:World}{B:Nat}{l:List ByteArray}{s:ByteArray}(h:w.ownsMap (H:=Unit) Tryz.prog 9 unitElem B (l.length+1) ((setOf (.agg []) (l.map keyL)).put (keyL s) (.agg []))):SetM w B (l++[s]):=by
 unfold SetM
 rw[List.map_append,c3K,List.map_singleton,setOf_snoc]
 exact h
theorem c0H{s:ByteArray}(hs:s.size<=1000000000):keyOf Tryz.prog 9 (.string s)=some (keyL s):=keyOf_string_mk Tryz.underlying9 (by unfold maxLen;omega)
end Go.Proofs.YtghjlpechjggjaaGreatDoor
namespace Go.Proofs.YtghjlpechjggjaaGreatDoor
open Go.RowKit
theorem a8C {P:Program} {fn:Func} {p u v:Tmp} {ty:TypeId} (h:fn.results=#[.cell p ty,.tmp u,.tmp v]) (tmps:Array Value) (w:World) (g:Nat) (t:TypeId) (cs:Array Value) (fr:Nat×Nat) (d:TypeDesc)
  (hp:tmps.getD p undef=.pointer (some ⟨g,0,none⟩)) (hg:w.heap[g]? =some (.cells cs t fr))
  (hu:P.underlying ty=some d) (hd:(match d with|.struct _|.array _ _=>true|_=>false)=true) (hi:(P.info? ty).map (·.size)=some cs.size) :
  (results fn tmps).run P w=.ok (.tuple #[.agg cs,tmps.getD u undef,tmps.getD v undef]) w:=by
 have hp':tmps[p]?.getD undef=.pointer (some ⟨g,0,none⟩):=by simpa using hp
 simp[results,h,hp',asAddr,run_loadVar_row w g t ty cs fr d hg hu hd hi]
theorem b1o:(Tryz.prog.info? 51).map (·.size)=some 5:=by kernel_rfl
theorem a4J(w:World)(F o:Nat)(A:Option Addr)(n c:Nat)(xs:List Int)(p:Nat)(hf:FD w F o A n c p)(h:ZB w A n c xs)(hp:p+26<=n) :
  Calls Tryz.prog 104 #[.pointer (some ⟨F,o,none⟩)] w fun e w'=>∃ (b:Bool) (q:Nat),e=.returned (.tuple #[.agg #[.string ⟨#[]⟩,.int .i64 (zget xs (p+18) 4),.int .i64 (zget xs (p+14) 4),.int .u32 (zget xs (p+10) 4),.int .i64 (zget xs (p+4) 2)],.int .i64 (zget xs (p+22) 2),.bool b]) /\
   (b=true↔zget xs (p+2) 2=0/\zget xs (p+24) 2=0)/\(b=true->q=p+26)/\q<=p+26/\FD w' F o A n c q/\OnlyC F (o+1) w w':=by
 have HF:=c3o hf
 have HZ:=c3o h
 have hFw:=hf.lt
 obtain⟨c0,c1,f1,-⟩:=hf
 have s1:∀ q:Nat,q<=n->IntKind.i64.wrap ((q:Int)+2)=(q:Int)+2:=fun q hq=>c3t _ (by have:=h.len;omega)
 have s2:∀ q:Nat,q<=n->IntKind.i64.wrap ((q:Int)+4)=(q:Int)+4:=fun q hq=>c3t _ (by have:=h.len;omega)
 have S1:=c3o s1
 have S2:=c3o s2
 have t1:=s1 p (by omega)
 clear h s1 s2
 go_enter Tryz.func104,Tryz.ntmps104
 go_upto_region 2 with (fail)
 obtain⟨X,hX⟩:∃ X,X=w.heap.size:=⟨_,rfl⟩
 obtain⟨w2,hw2⟩:∃ z,z=(w.setCell ⟨F,o+1,none⟩ (.int .i64 ((p:Int)+2))).alloc (.cells #[.string ⟨#[]⟩,.int .i64 0,.int .i64 0,.int .u32 0,.int .i64 0] 51):=⟨_,rfl⟩
 rw[<-hw2,<-hX]
 have hwX:w.heap.size<=X:=by omega
 have hXF:F≠X:=by omega
 have hss:(w.setCell ⟨F,o+1,none⟩ (.int .i64 ((p:Int)+2))).heap.size=w.heap.size:=by simp[World.setCell]
 have ka:Keeps [] (w.setCell ⟨F,o+1,none⟩ (.int .i64 ((p:Int)+2))) w2:=by rw[hw2];exact (Keeps.refl [] _).alloc _
 have F2:Hid (FD w2 F o A n c (p+2)):=c3o ((HF.out.moved (Keeps.refl [] w) _ (by omega)).keeps ka (by simp))
 have O2:Hid (OnlyC F (o+1) w w2):=c3o (((OnlyC.refl w).set _).past ka hFw (by simp))
 have X2:Hid (Blk w2 X 51 [.string ⟨#[]⟩,.int .i64 0,.int .i64 0,.int .u32 0,.int .i64 0]):=c3o (by
  rw[hw2,hX,<-hss]
  exact a0d _ 51 [.string ⟨#[]⟩,.int .i64 0,.int .i64 0,.int .u32 0,.int .i64 0])
 have hXw:X<w2.heap.size:=X2.out.lt
 have HFO:=c3o HF.out.off
 have g2:=fun q (h:q+2<=xs.length)=>a2u HZ.out.byte (p:=q) h
 have g4:=fun q (h:q+4<=xs.length)=>a1C HZ.out.byte (p:=q) h
 have G2:=c3o g2
 have G4:=c3o g4
 have HLX:=c3o HZ.out.ri.len
 clear c0 c1 f1 t1 ka hw2 hX HF g2 g4 hss
 go_wp2_with fail
 refine (a0Z w2 F o A n c xs (p+2) F2.out (HZ.out.keeps O2.out.keeps HFO.out) (by omega)).mono ?_
 rintro _ w3 ⟨rfl,hf3,ho3⟩
 have F3:=c3o hf3
 have O3:=c3o (O2.out.trans ho3)
 have X3:=c3o (X2.out.keeps ho3.keeps (by simp;omega))
 clear hf3 ho3 F2 O2 X2
 obtain⟨v3,hv3⟩:∃ v,v=zget xs (p+2) 2:=⟨_,rfl⟩
 rw[<-hv3]
 have V3:=c3o hv3
 clear hv3
 go_wp2_with fail
 refine (a0Z w3 F o A n c xs (p+4) F3.out (HZ.out.keeps O3.out.keeps HFO.out) (by omega)).mono ?_
 rintro _ w4 ⟨rfl,hf4,ho4⟩
 have F4:=c3o hf4
 have O4:=c3o (O3.out.trans ho4)
 have X4:=c3o (X3.out.keeps ho4.keeps (by simp;omega))
 clear hf4 ho4 F3 O3 X3
 obtain⟨v4,hv4⟩:∃ v,v=zget xs (p+4) 2:=⟨_,rfl⟩
 rw[<-hv4]
 have V4:=c3o hv4
 clear hv4
 have cx5:=X4.out.cell 4
 simp only[c3q,c3s] at cx5
 have fx5:=X4.out.frozen 4
 go_upto_region 4 with (fail)
 obtain⟨w5,hw5⟩:∃ z,z=w4.setCell ⟨X,4,none⟩ (.int .i64 v4):=⟨_,rfl⟩
 rw[<-hw5]
 have kx5:Keeps [X] w4 w5:=by rw[hw5];exact (Keeps.refl [X] w4).setCell (p:=⟨X,4,none⟩) (.inl (by simp)) _
 have F5:=c3o (F4.out.keeps kx5 (by simp;omega))
 have O5:=c3o (O4.out.past kx5 hFw (by simp;omega))
 have X5:Hid (Blk w5 X 51 [.string ⟨#[]⟩,.int .i64 0,.int .i64 0,.int .u32 0,.int .i64 v4]):=c3o (by rw[hw5];exact X4.out.set 4 _)
 clear cx5 fx5 hw5 kx5 F4 O4 X4
 obtain⟨P6,hP6⟩:∃ P,P=p+6:=⟨_,rfl⟩
 obtain⟨d0,d1,d2,-⟩:=(show FD w5 F o A n c P6 by rw[hP6];exact F5.out)
 have HP6:=c3o hP6
 clear hP6
 have t6:=S2.out P6 (by have:=HP6.out;omega)
 go_upto_region 5 with (fail)
 obtain⟨w6,hw6⟩:∃ z,z=w5.setCell ⟨F,o+1,none⟩ (.int .i64 ((P6:Int)+4)):=⟨_,rfl⟩
 rw[<-hw6]
 have F6:Hid (FD w6 F o A n c (p+10)):=c3o (by rw[hw6];exact F5.out.moved (Keeps.refl [] _) _ (by have:=HP6.out;omega))
 have O6:Hid (OnlyC F (o+1) w w6):=c3o (by rw[hw6];exact O5.out.set _)
 have X6:Hid (Blk w6 X 51 [.string ⟨#[]⟩,.int .i64 0,.int .i64 0,.int .u32 0,.int .i64 v4]):=c3o (X5.out.keeps (show Keeps [F] w5 w6 by rw[hw6];exact (Keeps.refl [F] _).setCell (p:=⟨F,o+1,none⟩) (.inl (by simp)) _) (by simp;omega))
 clear d0 d1 d2 t6 hw6 F5 O5 X5
 go_wp2_with fail
 refine (a1f w6 F o A n c xs (p+10) F6.out (HZ.out.keeps O6.out.keeps HFO.out) (by omega)).mono ?_
 rintro _ w7 ⟨rfl,hf7,ho7⟩
 have F7:=c3o hf7
 have O7:=c3o (O6.out.trans ho7)
 have X7:=c3o (X6.out.keeps ho7.keeps (by simp;omega))
 clear hf7 ho7 F6 O6 X6
 obtain⟨v7,hv7⟩:∃ v,v=zget xs (p+10) 4:=⟨_,rfl⟩
 rw[<-hv7]
 have V7:=c3o hv7
 clear hv7
 have q7:IntKind.u32.wrap v7=v7:=IntWalk.u32_in _ (by have:=G4.out (p+10) (by rw[HLX.out];omega);have:=V7.out;omega)
 have cx8:=X7.out.cell 3
 simp only[c3q,c3s] at cx8
 have fx8:=X7.out.frozen 3
 go_upto_region 6 with (fail)
 obtain⟨w8,hw8⟩:∃ z,z=w7.setCell ⟨X,3,none⟩ (.int .u32 v7):=⟨_,rfl⟩
 rw[<-hw8]
 have kx8:Keeps [X] w7 w8:=by rw[hw8];exact (Keeps.refl [X] w7).setCell (p:=⟨X,3,none⟩) (.inl (by simp)) _
 have F8:=c3o (F7.out.keeps kx8 (by simp;omega))
 have O8:=c3o (O7.out.past kx8 hFw (by simp;omega))
 have X8:Hid (Blk w8 X 51 [.string ⟨#[]⟩,.int .i64 0,.int .i64 0,.int .u32 v7,.int .i64 v4]):=c3o (by rw[hw8];exact X7.out.set 3 _)
 clear cx8 fx8 hw8 kx8 F7 O7 X7
 go_wp2_with fail
 refine (a1f w8 F o A n c xs (p+14) F8.out (HZ.out.keeps O8.out.keeps HFO.out) (by omega)).mono ?_
 rintro _ w9 ⟨rfl,hf9,ho9⟩
 have F9:=c3o hf9
 have O9:=c3o (O8.out.trans ho9)
 have X9:=c3o (X8.out.keeps ho9.keeps (by simp;omega))
 clear hf9 ho9 F8 O8 X8
 obtain⟨v9,hv9⟩:∃ v,v=zget xs (p+14) 4:=⟨_,rfl⟩
 rw[<-hv9]
 have V9:=c3o hv9
 clear hv9
 have cx10:=X9.out.cell 2
 simp only[c3q,c3s] at cx10
 have fx10:=X9.out.frozen 2
 go_upto_region 7 with (fail)
 obtain⟨w10,hw10⟩:∃ z,z=w9.setCell ⟨X,2,none⟩ (.int .i64 v9):=⟨_,rfl⟩
 rw[<-hw10]
 have kx10:Keeps [X] w9 w10:=by rw[hw10];exact (Keeps.refl [X] w9).setCell (p:=⟨X,2,none⟩) (.inl (by simp)) _
 have F10:=c3o (F9.out.keeps kx10 (by simp;omega))
 have O10:=c3o (O9.out.past kx10 hFw (by simp;omega))
 have X10:Hid (Blk w10 X 51 [.string ⟨#[]⟩,.int .i64 0,.int .i64 v9,.int .u32 v7,.int .i64 v4]):=c3o (by rw[hw10];exact X9.out.set 2 _)
 clear cx10 fx10 hw10 kx10 F9 O9 X9
 go_wp2_with fail
 refine (a1f w10 F o A n c xs (p+18) F10.out (HZ.out.keeps O10.out.keeps HFO.out) (by omega)).mono ?_
 rintro _ w11 ⟨rfl,hf11,ho11⟩
 have F11:=c3o hf11
 have O11:=c3o (O10.out.trans ho11)
 have X11:=c3o (X10.out.keeps ho11.keeps (by simp;omega))
 clear hf11 ho11 F10 O10 X10
 obtain⟨v11,hv11⟩:∃ v,v=zget xs (p+18) 4:=⟨_,rfl⟩
 rw[<-hv11]
 have V11:=c3o hv11
 clear hv11
 have cx12:=X11.out.cell 1
 simp only[c3q,c3s] at cx12
 have fx12:=X11.out.frozen 1
 go_upto_region 8 with (fail)
 obtain⟨w12,hw12⟩:∃ z,z=w11.setCell ⟨X,1,none⟩ (.int .i64 v11):=⟨_,rfl⟩
 rw[<-hw12]
 have kx12:Keeps [X] w11 w12:=by rw[hw12];exact (Keeps.refl [X] w11).setCell (p:=⟨X,1,none⟩) (.inl (by simp)) _
 have F12:=c3o (F11.out.keeps kx12 (by simp;omega))
 have O12:=c3o (O11.out.past kx12 hFw (by simp;omega))
 have X12:Hid (Blk w12 X 51 [.string ⟨#[]⟩,.int .i64 v11,.int .i64 v9,.int .u32 v7,.int .i64 v4]):=c3o (by rw[hw12];exact X11.out.set 1 _)
 clear cx12 fx12 hw12 kx12 F11 O11 X11
 go_wp2_with fail
 refine (a0Z w12 F o A n c xs (p+22) F12.out (HZ.out.keeps O12.out.keeps HFO.out) (by omega)).mono ?_
 rintro _ w13 ⟨rfl,hf13,ho13⟩
 have F13:=c3o hf13
 have O13:=c3o (O12.out.trans ho13)
 have X13:=c3o (X12.out.keeps ho13.keeps (by simp;omega))
 clear hf13 ho13 F12 O12 X12
 obtain⟨v13,hv13⟩:∃ v,v=zget xs (p+22) 2:=⟨_,rfl⟩
 rw[<-hv13]
 have V13:=c3o hv13
 clear hv13
 go_upto_region 9 with (fail)
 have x0:=X13.out.cell 0
 have x1:=X13.out.cell 1
 have x2:=X13.out.cell 2
 have x3:=X13.out.cell 3
 have x4:=X13.out.cell 4
 simp only[c3q,c3s] at x0 x1 x2 x3 x4
 have xf:=X13.out.frozen
 by_cases hv:v3=0
 ·have y0:(v3==0)=true:=by simpa using hv
  have HV:=c3o hv
  clear hv
  have HC:Hid (∀ w',Below w13.heap.size w13 w'->Calls Tryz.prog 75 #[.pointer (some ⟨F,o,none⟩)] w' fun e w2=>e=.returned (.int .i64 (zget xs (p+24) 2))/\FD w2 F o A n c (p+24+2)/\OnlyC F (o+1) w13 w2):=
   c3o (fun w' hb=>by
    have hk:=Keeps.of_below hb (S:=[])
    exact (a0Z w' F o A n c xs (p+24) (F13.out.keeps hk (by simp)) ((HZ.out.keeps O13.out.keeps HFO.out).keeps hk (a0a _)) (by omega)).mono fun _ _ ⟨e,h1,h2⟩=>⟨e,h1,(OnlyC.of_keeps hk F13.out.lt).trans h2⟩)
  obtain⟨v14,hv14⟩:∃ v,v=zget xs (p+24) 2:=⟨_,rfl⟩
  rw[<-hv14] at HC
  have V14:=c3o hv14
  clear hv14
  go_cut [3,4] (fun u3 u4 wc=>u3=.int .i64 v13/\u4=.bool (v14==0)/\Hid (FD wc F o A n c (p+24+2))/\Hid (OnlyC F (o+1) w wc)/\Hid (Blk wc X 51 [.string ⟨#[]⟩,.int .i64 v11,.int .i64 v9,.int .u32 v7,.int .i64 v4]))
  case first=>
   go_region_with (first|(go_at_call 75;refine (HC.out _ (by repeat (first|exact c3M _ _|refine Below.drew ?_))).mono ?_;rintro _ w14 ⟨rfl,hf14,ho14⟩;have F14:=c3o hf14;have O14:=c3o ho14;have bX:=X13.out.keeps ho14.keeps (by simp;omega);have X14:=c3o bX;have x0':=bX.cell 0;have x1':=bX.cell 1;have x2':=bX.cell 2;have x3':=bX.cell 3;have x4':=bX.cell 4;simp only[c3q,c3s] at x0' x1' x2' x3' x4';have xf':=bX.frozen;clear hf14 ho14 bX))
   all_goals (
    clear HC
    go_wp2_with fail
    go_meet
    have kx:Keeps [X] w14 (((((w14.setCell ⟨X,0,none⟩ (.string ⟨#[]⟩)).setCell ⟨X,1,none⟩ (.int .i64 v11)).setCell ⟨X,2,none⟩ (.int .i64 v9)).setCell ⟨X,3,none⟩ (.int .u32 v7)).setCell ⟨X,4,none⟩ (.int .i64 v4)):=((((((Keeps.refl [X] w14).setCell (p:=⟨X,0,none⟩) (.inl (by simp)) _).setCell (p:=⟨X,1,none⟩) (.inl (by simp)) _).setCell (p:=⟨X,2,none⟩) (.inl (by simp)) _).setCell (p:=⟨X,3,none⟩) (.inl (by simp)) _).setCell (p:=⟨X,4,none⟩) (.inl (by simp)) _)
    exact⟨rfl,rfl,c3o (F14.out.keeps kx (by simp;omega)),c3o ((O13.out.trans O14.out).past kx hFw (by simp;omega)),c3o (((((X14.out.set 0 (.string ⟨#[]⟩)).set 1 (.int .i64 v11)).set 2 (.int .i64 v9)).set 3 (.int .u32 v7)).set 4 (.int .i64 v4))⟩)
  case rest=>
   obtain⟨rfl,rfl,FC,OC,XC⟩:=hcut
   clear HC x0 x1 x2 x3 x4 xf
   go_wp2_with fail
   refine c3E (a8C rfl _ _ X 51 _ (0,0) _ rfl XC.out Tryz.underlying51 rfl b1o) rfl ?_
   refine⟨v14==0,p+26,by rw[<-V4.out,<-V7.out,<-V9.out,<-V11.out,<-V13.out];rfl,?_,fun _=>rfl,by omega,FC.out,OC.out⟩
   rw[<-V3.out,<-V14.out]
   have:=HV.out
   simp[this]
 ·have y0:(v3==0)=false:=by simpa using hv
  go_region
  clear hv
  go_wp2_with fail
  obtain⟨w14,hw14⟩:∃ z,z=(((((w13.setCell ⟨X,0,none⟩ (.string ⟨#[]⟩)).setCell ⟨X,1,none⟩ (.int .i64 v11)).setCell ⟨X,2,none⟩ (.int .i64 v9)).setCell ⟨X,3,none⟩ (.int .u32 v7)).setCell ⟨X,4,none⟩ (.int .i64 v4)).drew:=⟨_,rfl⟩
  rw[<-hw14]
  have kx:Keeps [X] w13 w14:=by rw[hw14];exact ((((((Keeps.refl [X] w13).setCell (p:=⟨X,0,none⟩) (.inl (by simp)) _).setCell (p:=⟨X,1,none⟩) (.inl (by simp)) _).setCell (p:=⟨X,2,none⟩) (.inl (by simp)) _).setCell (p:=⟨X,3,none⟩) (.inl (by simp)) _).setCell (p:=⟨X,4,none⟩) (.inl (by simp)) _).drew
  have bx:Blk w14 X 51 [.string ⟨#[]⟩,.int .i64 v11,.int .i64 v9,.int .u32 v7,.int .i64 v4]:=by
   rw[hw14]
   exact (((((X13.out.set 0 (.string ⟨#[]⟩)).set 1 (.int .i64 v11)).set 2 (.int .i64 v9)).set 3 (.int .u32 v7)).set 4 (.int .i64 v4)).keeps (Keeps.refl [] _).drew (by simp)
  refine c3E (a8C rfl _ _ X 51 _ (0,0) _ rfl bx Tryz.underlying51 rfl b1o) rfl ?_
  refine⟨false,p+24,by rw[<-V4.out,<-V7.out,<-V9.out,<-V11.out,<-V13.out];rfl,?_,by simp,by omega,F13.out.keeps kx (by simp;omega),O13.out.past kx hFw (by simp;omega)⟩
  constructor
  ·intro h;cases h
  ·rintro ⟨h,-⟩;rw[<-V3.out] at h;simp[h] at y0
end Go.Proofs.YtghjlpechjggjaaGreatDoor
namespace Go.Proofs.YtghjlpechjggjaaGreatDoor
open Go.RowKit
def a8k(e:Int):List PanicEntry:=[{ v:=.iface 27 (.int .i64 e),recovered:=false }]
theorem a1J(w:World)(e:Int):Calls Tryz.prog 73 #[.bool true,.int .i64 e] w fun r w'=>r=.returned (.tuple #[])/\w'=w:=by
 go_enter Tryz.func73,Tryz.ntmps73
 go_wp2_with fail
 go_end0
 exact⟨rfl,rfl⟩
theorem a0s(w:World)(e:Int):Calls Tryz.prog 73 #[.bool false,.int .i64 e] w fun r w'=>r=.panicked (a8k e)/\w'=w:=by
 go_enter Tryz.func73,Tryz.ntmps73
 go_wp2_with fail
 exact⟨rfl,rfl,rfl⟩
end Go.Proofs.YtghjlpechjggjaaGreatDoor
namespace Go.Proofs.YtghjlpechjggjaaGreatDoor
open Go.RowKit
theorem a2e{P:Program}{ops:Array Oper}{w:World}{Q:Act->Prop}:∀ (l:List Oper) (a:Act),wpQuiet P ops (fun w'=>w'=w) Q l a->wpStill P ops w Q l a
 | [],_,h=>h
 | o::rest,a,h=>by
  unfold wpQuiet at h
  unfold wpStill
  split
  ·rename_i hw
   rw[if_pos hw] at h
   obtain⟨v,h1,h2⟩:=h
   have h3:=h1 w rfl
   have h4:=a2e rest _ h2
   unfold Oper.quietAt at h3
   unfold Oper.still
   revert h3
   generalize (execOp a.eval o).run P w=r
   intro h3
   unfold Oper.quietUpon at h3
   split at h3
   ·obtain⟨rfl,rfl⟩:=h3
    exact⟨rfl,h4⟩
   ·obtain⟨rfl,rfl⟩:=h3
    exact⟨rfl,h4⟩
   ·obtain⟨rfl,h5⟩:=h3
    exact⟨rfl,v,h5,h4⟩
   ·exact h3.elim
  ·rename_i hw
   rw[if_neg hw] at h
   exact a2e rest _ h
theorem a0L {P:Program} {id:Nat} {Q:Exit->Act->World->Prop} {a:Act} {w:World} {l:List Oper} (n:Nat) (hm:P.follows .mixedOrders=true) (hB:Region.lexTailB .any l.toArray n=true)
  (h:wpQuiet P l.toArray (fun w'=>w'=w.drew) (fun a'=>wpList P l.toArray Q (l.drop n) a' w.drew) (l.take n) a):(Code.region id l.toArray true).wp P Q a w:=
 wp_region_still_tail n hm hB (a2e _ _ h)
end Go.Proofs.YtghjlpechjggjaaGreatDoor
namespace Go.Proofs.YtghjlpechjggjaaGreatDoor
open Go.RowKit
theorem b0k(W:World)(v:Value):(Instr.typeAssert (.iface 27 v) 20 27 true).run Tryz.prog W=.ok (.tuple #[v,.bool true]) W:=by kernel_rfl
theorem b2g(O E:Nat)(e:Int)(w:World)(vo ve:Value)(h0:w.cell? ⟨O,0,none⟩=some vo)(h1:w.cell? ⟨E,0,none⟩=some ve)(f0:w.frozen? ⟨O,0,none⟩=false)(f1:w.frozen? ⟨E,0,none⟩=false)(hne:O≠E) :
  CallsD Tryz.prog 72 #[.pointer (some ⟨O,0,none⟩),.pointer (some ⟨E,0,none⟩)] (.panicking (a8k e)) w fun r u' w'=>
   r=.returned (.tuple #[])/\u'=.panicking [{ v:=.iface 27 (.int .i64 e),recovered:=true }]/\w'=(w.setCell ⟨O,0,none⟩ (.slice none 0 0)).setCell ⟨E,0,none⟩ (.int .i64 e):=by
 refine callsD_of_wpS Tryz.func72 rfl fun c₀ cs hu=>?_
 apply wpS_seq
 apply wpS_region
 simp[wpOpsS,go_sem,recoverD,hu,Tryz.ntmps72,Exit.thenS,a8k]
 simp only[Array.replicate_succ,Array.replicate_zero,List.push_toArray,List.append_toArray,List.nil_append,List.cons_append,List.setIfInBounds_toArray,List.set_cons_zero,List.set_cons_succ]
 refine wpS_of_wp ?_
 have hS:(World.setCell w ⟨O,0,none⟩ (.slice none 0 0)).cell? ⟨E,0,none⟩=some ve:=(World.cell?_setCell_other _ _ _ _ (by simpa using hne)).trans h1
 have hF:(World.setCell w ⟨O,0,none⟩ (.slice none 0 0)).frozen? ⟨E,0,none⟩=false:=(World.frozen?_setCell _ _ _ _).trans f1
 have hA:=b0k w (.int .i64 e)
 go_wp2_with fail
 simp[bodyPostS,results,Tryz.results72]
theorem b4T(O E:Nat)(w:World) :
  CallsD Tryz.prog 72 #[.pointer (some ⟨O,0,none⟩),.pointer (some ⟨E,0,none⟩)] .returning w fun r u' w'=>r=.returned (.tuple #[])/\u'=.returning/\w'=w:=by
 refine callsD_of_wpS Tryz.func72 rfl fun c₀ cs hu=>?_
 apply wpS_seq
 apply wpS_region
 simp[wpOpsS,go_sem,recoverD,hu,Tryz.ntmps72,Exit.thenS]
 simp only[Array.replicate_succ,Array.replicate_zero,List.push_toArray,List.append_toArray,List.nil_append,List.cons_append,List.setIfInBounds_toArray,List.set_cons_zero,List.set_cons_succ]
 refine wpS_of_wp ?_
 go_wp2_with fail
 cases c₀
 simp_all [bodyPostS,results,Tryz.results72]
end Go.Proofs.YtghjlpechjggjaaGreatDoor
namespace Go.Proofs.YtghjlpechjggjaaGreatDoor
open Go.RowKit
structure WT (t e:TypeId) (k:Nat) where
 z:Value
 bytes:Nat
 info:(Tryz.prog.info? e).map (fun i=>(i.zero,i.size,i.bytes))=some (some z,k,bytes)
 und:Tryz.prog.underlying t=some (.slice e)
 zs:z.cells.size=k
 k0:0<k
 b:bytes<=1000
theorem app_rw {α:Type} {t e:TypeId} {k:Nat} (T:WT t e k) {enc:α->List Value} (he:∀ x,(enc x).length=k) (hone:∀ x,∀ v∈enc x,v.oneCell'=true)
  {ops:Array Oper} {rest:List Oper} {o:Oper} {a:Act} {Q:Exit->Act->World->Prop} {w:World} (hgd:o.guard=none) (s x:Operand)
  (ho:o.op=.call { callee:=.builtin .append,args:=#[s,x],argTypes:=#[t,t] })
  (base:Nat) (v:Value) (n:Nat) (L:List α) (hs:a.eval s=v) (hown:w.ownsRow base e k v n (L.flatMap enc))
  (b:Nat) (p:α) (hx:a.eval x=.slice (some ⟨b,0,none⟩) 1 1) (hc:∀ i,i<k->w.cell? ⟨b,i,none⟩=(enc p)[i]?)
  (hn:n<=1000000000) (hbase:base<=w.heap.size)
  (h:∀ v' w',w'.ownsRow base e k v' (n+1) ((L++[p]).flatMap enc)->w.grownBy w' v.ownBlock->wpList Tryz.prog ops Q rest (a.put o.dst v') w'):wpList Tryz.prog ops Q (o::rest) a w:=by
 obtain⟨i0,hi,hz0,hz1,hz2⟩:=info_parts T.info
 have hb:=T.b
 refine wpList_append_own _ hgd s x t ho base e i0 T.z k T.bytes T.und hi hz0 hz1 hz2 T.zs T.k0 v n (L.flatMap enc) hs hown ⟨b,0,none⟩ 1 1 (enc p) hx (by rw[he];omega) ?_ (hone p) (by unfold maxLen;omega) (by have:(n+1)*T.bytes<=1000000001*1000:=Nat.mul_le_mul (by omega) hb;omega) hbase ?_
 ·intro j u hu
  have hj:j<k:=by rw[<-he p];exact (c3z.1 hu).1
  rw[a0R,hc j hj,hu]
 ·intro v' w' h2 h3 _
  refine h v' w' ?_ h3
  rw[List.flatMap_append]
  simpa using h2
theorem c1M {α:Type} {t e:TypeId} {k:Nat} (T:WT t e k) {enc:α->List Value} (he:∀ x,(enc x).length=k) (hone:∀ x,∀ v∈enc x,v.oneCell'=true)
  {ops:Array Oper} {o:Oper} {a:Act} {K:Act->World->Prop} {Q:Exit->Act->World->Prop} {E:Prop} {w:World} (hgd:o.guard=none) (s x:Operand)
  (ho:o.op=.call { callee:=.builtin .append,args:=#[s,x],argTypes:=#[t,t] })
  (base:Nat) (v:Value) (n:Nat) (L:List α) (hs:a.eval s=v) (hown:w.ownsRow base e k v n (L.flatMap enc))
  (b:Nat) (p:α) (hx:a.eval x=.slice (some ⟨b,0,none⟩) 1 1) (hc:∀ i,i<k->w.cell? ⟨b,i,none⟩=(enc p)[i]?)
  (hn:n<=1000000000) (hbase:base<=w.heap.size)
  (h:∀ g' c' w',w'.ownsRow base e k (.slice (some ⟨g',0,none⟩) (n+1) c') (n+1) ((L++[p]).flatMap enc)->w.grownBy w' v.ownBlock->K (a.put o.dst (.slice (some ⟨g',0,none⟩) (n+1) c')) w') :
  if Region.wanted o (yielded ops a.tmps)=true then Oper.wp Tryz.prog o a w K Q else E:=by
 obtain⟨i0,hi,hz0,hz1,hz2⟩:=info_parts T.info
 have hb:=T.b
 refine step_append_lies _ hgd s x t ho base e i0 T.z k T.bytes T.und hi hz0 hz1 hz2 T.zs T.k0 v n (L.flatMap enc) hs hown ⟨b,0,none⟩ 1 1 (enc p) hx (by rw[he];omega) ?_ (hone p) (by omega) (by unfold maxLen;omega) (by have:(n+1)*T.bytes<=1000000001*1000:=Nat.mul_le_mul (by omega) hb;omega) hbase _ rfl ?_
 ·intro j u hu
  have hj:j<k:=by rw[<-he p];exact (c3z.1 hu).1
  rw[a0R,hc j hj,hu]
 ·intro g' cap w' h2 h3 _ _
  refine h g' cap w' ?_ h3
  rw[List.flatMap_append]
  simpa using h2
end Go.Proofs.YtghjlpechjggjaaGreatDoor
namespace Go.Proofs.YtghjlpechjggjaaGreatDoor
theorem b4U(l:List Int):a0e l=0∨a0e l=1∨a0e l=30∨a0e l=31:=by
 unfold a0e
 repeat' split
 all_goals simp
theorem a3s{h:List Int×List Int×Nat×Int}{e:Int}(hh:h=([],[],0,e))(he:e≠0):codesE h=endF e 52:=by
 subst hh;unfold codesE;rw[if_pos he]
theorem b8T{bs:List Int}{p:Nat}(h:8*bs.length<p+14):codesE (headF bs p)=55:=by
 rw[a3s (e:=10) (by unfold headF;rw[if_pos h]) (by decide)];rfl
theorem b8U{bs:List Int}{p:Nat}(h:¬8*bs.length<p+14)(h2:29<numB bs p 5∨29<numB bs (p+5) 5):codesE (headF bs p)=52:=by
 rw[a3s (e:=40) (by unfold headF;rw[if_neg h,if_pos h2]) (by decide)];rfl
theorem b8V{bs:List Int}{p:Nat}(h:¬8*bs.length<p+14)(h2:¬(29<numB bs p 5∨29<numB bs (p+5) 5))(h3:8*bs.length<p+14+3*a2i bs p):codesE (headF bs p)=55:=by
 rw[a3s (e:=10) (by unfold headF;rw[if_neg h,if_neg h2,if_pos h3]) (by decide)];rfl
theorem b8W{bs:List Int}{p:Nat}(h:¬8*bs.length<p+14)(h2:¬(29<numB bs p 5∨29<numB bs (p+5) 5))(h3:¬8*bs.length<p+14+3*a2i bs p)(h4:a0e (codesH bs p)≠0):codesE (headF bs p)=52:=by
 rw[a3s (e:=a0e (codesH bs p)) (by unfold headF;rw[if_neg h,if_neg h2,if_neg h3,if_pos h4]) h4]
 rcases b4U (codesH bs p) with e|e|e|e<;>rw[e]<;>first|rfl|(exact absurd e h4)
theorem b8X{bs:List Int}{p:Nat}{e:Int}(h:¬8*bs.length<p+14)(h2:¬(29<numB bs p 5∨29<numB bs (p+5) 5))(h3:¬8*bs.length<p+14+3*a2i bs p)(h4:a0e (codesH bs p)=0)(h5:(readR bs p).2.2=e)(he:e≠0) :
  codesE (headF bs p)=endF e 52:=a3s (b4c h h2 h3 h4 h5 he) he
def lenOk(l:List Int):Prop:=∀ x∈l,0<=x/\x<=15
theorem c0Z{l l':List Int}{s e N:Int}(hl:lenOk l)(h:addF l s e N=some l'):lenOk l':=by
 unfold addF at h
 cases hs:sayF l s e with
 | none=>rw[hs] at h;cases h
 | some r=>
  obtain⟨v,k⟩:=r
  rw[hs] at h
  simp only[] at h
  split at h
  ·obtain rfl:=c3A h
   have hv:0<=v/\v<=15:=by
    unfold sayF at hs
    split at hs
    ·next h1=>injection hs with hs;injection hs with a b;omega
    split at hs
    ·injection hs with hs;injection hs with a b
     subst a
     by_cases hz:l.length-1<l.length
     ·rw[List.getD,c3v hz]
      exact hl _ (List.getElem_mem _)
     ·rw[List.getD,List.getElem?_eq_none (by omega)];exact⟨Int.le_refl _,by decide⟩
    split at hs
    ·injection hs with hs;injection hs with a b;omega
    split at hs
    ·injection hs with hs;injection hs with a b;omega
    ·cases hs
   intro x hx
   rcases List.mem_append.1 hx with hx|hx
   ·exact hl x hx
   ·rw[List.eq_of_mem_replicate hx];exact hv
  ·cases h
theorem b1y(codes bs:List Int)(N:Int):∀ f l q,lenOk l->lenOk (stepsF codes bs N f l q).1
 | 0,l,q,h=>h
 | f+1,l,q,h=>by
  rw[stepsF]
  split
  ·exact h
  split
  ·intro x hx;simp at hx
  split
  ·intro x hx;simp at hx
  split
  ·intro x hx;simp at hx
  ·next l' ha=>exact b1y codes bs N f l' _ (c0Z h ha)
theorem b5h(bs:List Int)(p:Nat):lenOk (headF bs p).1/\lenOk (headF bs p).2.1:=by
 have hr:lenOk (readR bs p).1:=b1y _ _ _ _ _ _ (by intro x hx;simp at hx)
 have hn:lenOk []:=by intro x hx;simp at hx
 unfold headF
 split
 ·exact⟨hn,hn⟩
 split
 ·exact⟨hn,hn⟩
 split
 ·exact⟨hn,hn⟩
 split
 ·exact⟨hn,hn⟩
 split
 ·exact⟨hn,hn⟩
 ·exact⟨fun x hx=>hr x (List.mem_of_mem_take hx),fun x hx=>hr x (List.mem_of_mem_drop hx)⟩
theorem b6X{l:List Int}(h:lenOk l):l.all okLen=true:=by
 rw[List.all_eq_true]
 intro x hx
 have:=h x hx
 simp[okLen];omega
theorem a8H(codes bs:List Int)(N:Int)(hN:0<=N):∀ f l q,(l.length:Int)<=N->((stepsF codes bs N f l q).1.length:Int)<=N
 | 0,l,q,h=>h
 | f+1,l,q,h=>by
  rw[stepsF]
  split
  ·exact h
  split
  ·simpa using hN
  split
  ·simpa using hN
  split
  ·simpa using hN
  ·next l' haf=>exact a8H codes bs N hN f l' _ (a5s haf).2.1
theorem a7P(codes bs:List Int)(N:Int):∀ f l q,N<=((l.length+f:Nat):Int)->(stepsF codes bs N f l q).2.2=0->N<=(stepsF codes bs N f l q).1.length
 | 0,l,q,hf,h=>by simpa [stepsF] using hf
 | f+1,l,q,hf,h=>by
  rw[stepsF] at h ⊢
  split
  ·assumption
  next h1=>
  rw[if_neg h1] at h
  split
  ·next h2=>rw[if_pos h2] at h;exact absurd h h2
  next h2=>
  rw[if_neg h2] at h
  split
  ·next h3=>rw[if_pos h3] at h;simp at h
  next h3=>
  rw[if_neg h3] at h
  split
  ·next ha=>rw[ha] at h;simp at h
  ·next l' ha=>
   rw[ha] at h
   have:=(a5s ha).1
   exact a7P codes bs N f l' _ (by omega) h
theorem a6X{bs:List Int}{p:Nat}(h:(headF bs p).2.2.2=0):(headF bs p).1.length=litF bs p/\(headF bs p).2.1.length=distF bs p:=by
 unfold headF at h ⊢
 split
 ·next h1=>rw[if_pos h1] at h;simp at h
 next h1=>
 rw[if_neg h1] at h
 split
 ·next h2=>rw[if_pos h2] at h;simp at h
 next h2=>
 rw[if_neg h2] at h
 split
 ·next h3=>rw[if_pos h3] at h;simp at h
 next h3=>
 rw[if_neg h3] at h
 split
 ·next h4=>rw[if_pos h4] at h;exact absurd h h4
 next h4=>
 rw[if_neg h4] at h
 split
 ·next h5=>rw[if_pos h5] at h;exact absurd h h5
 ·next h5=>
  have hf:=a7P (codesH bs p) bs ((litF bs p+distF bs p:Nat):Int) (litF bs p+distF bs p) [] (p+14+3*a2i bs p) (by simp) (by
   have:(readR bs p).2.2=0:=by omega
   exact this)
  have hl:=a8H (codesH bs p) bs ((litF bs p+distF bs p:Nat):Int) (Int.natCast_nonneg _) (litF bs p+distF bs p) [] (p+14+3*a2i bs p) (by simp;omega)
  change _<=((readR bs p).1.length:Int) at hf
  change ((readR bs p).1.length:Int)<=_ at hl
  simp only[List.length_take,List.length_drop]
  omega
theorem b2B(bs:List Int)(p:Nat):litF bs p<=288:=by
 have:=a0F bs p 5
 unfold litF
 have e:(2:Int)^5=32:=rfl
 omega
theorem a9i(bs:List Int)(p:Nat):distF bs p<=32:=by
 have:=a0F bs (p+5) 5
 unfold distF
 have e:(2:Int)^5=32:=rfl
 omega
theorem b0y{h:List Int×List Int×Nat×Int}(he:codesE h=0):h.2.2.2=0/\a0e h.1=0/\(a0z h.2.1=true->a0e h.2.1=0):=by
 have h0:=a6K he
 unfold codesE at he
 rw[if_neg (by rw[h0];simp)] at he
 split at he
 ·simp at he
 split at he
 ·simp at he
 next h2=>
 split at he
 ·simp at he
 next h3=>
 exact⟨h0,by omega,fun hu=>Classical.byContradiction fun hn=>h3 ⟨hu,hn⟩⟩
end Go.Proofs.YtghjlpechjggjaaGreatDoor
namespace Go.Proofs.YtghjlpechjggjaaGreatDoor
open Go.RowKit
structure Rdr (w:World) (g:Nat) (A:Option Addr) (c:Nat) (bs:List Int) (p:Nat):Prop where
 blk:Blk w g 204 [.slice A bs.length c,.int .i64 p]
 ri:RI .u8 w A bs.length bs
 off:Off [g] A
 le:p<=8*bs.length
 byte:∀ j,0<=nth bs j/\nth bs j<=255
 size:bs.length<=4000000000
theorem Rdr.lt{w:World}{g:Nat}{A:Option Addr}{c:Nat}{bs:List Int}{p:Nat}(h:Rdr w g A c bs p):g<w.heap.size:=h.blk.lt
theorem Rdr.keeps{S:List Nat}{w w':World}{g:Nat}{A:Option Addr}{c:Nat}{bs:List Int}{p:Nat}(h:Rdr w g A c bs p)(hk:Keeps S w w')(hg:g∉S)(ho:Off S A):Rdr w' g A c bs p:=
 ⟨h.blk.keeps hk hg,h.ri.keeps hk ho,h.off,h.le,h.byte,h.size⟩
theorem Rdr.dr{w w':World}{g:Nat}{A:Option Addr}{c:Nat}{bs:List Int}{p:Nat}(h:Rdr w g A c bs p)(hk:Keeps [] w w'):Rdr w' g A c bs p:=h.keeps hk (by simp) (a0a _)
theorem Rdr.move{w:World}{g:Nat}{A:Option Addr}{c:Nat}{bs:List Int}{p:Nat}(h:Rdr w g A c bs p){q:Nat}(hq:q<=8*bs.length):Rdr (w.setCell ⟨g,1,none⟩ (.int .i64 q)) g A c bs q:=
 ⟨h.blk.set 1 (.int .i64 q),h.ri.keeps ((Keeps.refl [g] w).setCell (Or.inl (by simp)) _) h.off,h.off,hq,h.byte,h.size⟩
theorem a8w(w:World)(g:Nat)(A:Option Addr)(c:Nat)(bs:List Int)(p:Nat)(hr:Rdr w g A c bs p) :
  Calls Tryz.prog 176 #[.pointer (some ⟨g,0,none⟩)] w fun e w'=>e=.returned (.int .i64 ((8*bs.length-p:Nat):Int))/\Dr w w':=by
 have hb:=hr.blk
 have h0:=hb.cell 0
 have h1:=hb.cell 1
 simp only[c3q,c3s] at h0 h1
 have hl:=hr.le
 have hs:=hr.size
 clear hb hr
 go_enter Tryz.func176,Tryz.ntmps176
 go_wp2
 go_quiet (fail)
 go_wp2
 go_ret
 rw[show ((8*bs.length-p:Nat):Int)=8*(bs.length:Int)-(p:Int) by omega]
 exact⟨rfl,_,rfl⟩
theorem a5x(w:World)(g:Nat)(A:Option Addr)(c:Nat)(bs:List Int)(p:Nat)(hr:Rdr w g A c bs p) :
  Calls Tryz.prog 107 #[.pointer (some ⟨g,0,none⟩)] w fun e w'=>e=.returned (.int .i64 p)/\Dr w w':=by
 have hb:=hr.blk
 have h1:=hb.cell 1
 simp only[c3q,c3s] at h1
 clear hb hr
 go_enter Tryz.func107,Tryz.ntmps107
 go_wp2
 go_ret
 exact⟨rfl,0,rfl⟩
theorem a5t(w:World)(g:Nat)(A:Option Addr)(c:Nat)(bs:List Int)(p n:Nat)(hr:Rdr w g A c bs p)(hn:n<=p) :
  Calls Tryz.prog 178 #[.pointer (some ⟨g,0,none⟩),.int .i64 n] w fun e w'=>e=.returned (.int .i64 0)/\Rdr w' g A c bs (p-n)/\Keeps [g] w w':=by
 have hb:=hr.blk
 have h1:=hb.cell 1
 simp only[c3q,c3s] at h1
 have hf:=hb.frozen 1
 have hl:=hr.le
 have hs:=hr.size
 have HR:=c3o hr
 clear hb hr
 have e1:decide ((n:Int)<0)=false:=by simp
 have e2:decide ((p:Int)<(n:Int))=false:=by simp;omega
 have e3:IntKind.i64.wrap ((p:Int)-(n:Int))=(p:Int)-(n:Int):=c3t _ (by omega)
 go_enter Tryz.func178,Tryz.ntmps178
 have E:Hid ((p:Int)-(n:Int)=((p-n:Nat):Int)):=by show _=_;omega
 go_wp2
 go_ret
 rw[E.out]
 exact⟨rfl,HR.out.move (by omega),(Keeps.refl _ _).setCell (Or.inl (by simp)) _⟩
theorem b2b(w:World)(g:Nat)(A:Option Addr)(c:Nat)(bs:List Int)(p n:Nat)(ni:Int)(hni:ni=n)(hr:Rdr w g A c bs p)(hn:n<=p) :
  Calls Tryz.prog 178 #[.pointer (some ⟨g,0,none⟩),.int .i64 ni] w fun e w'=>e=.returned (.int .i64 0)/\Rdr w' g A c bs (p-n)/\Keeps [g] w w':=by
 subst hni
 exact a5t w g A c bs p n hr hn
theorem a6x(w:World)(g:Nat)(A:Option Addr)(c:Nat)(bs:List Int)(p m:Nat)(hr:Rdr w g A c bs p)(hm:m<=32)(hf:8*bs.length<p+m) :
  Calls Tryz.prog 160 #[.pointer (some ⟨g,0,none⟩),.int .i64 m] w fun e w'=>e=.returned (.tuple #[.int .u32 0,.int .i64 10])/\Dr w w':=by
 have e1:decide ((m:Int)<0)=false:=by simp
 have e2:decide ((32:Int)<(m:Int))=false:=by simp;omega
 have HR:=c3o hr
 have hl:=hr.le
 clear hr
 go_enter Tryz.func160,Tryz.ntmps160
 go_wp2_with fail
 refine (a8w _ _ _ _ _ _ HR.out).mono ?_
 rintro e w' ⟨rfl,q,rfl⟩
 have e3:decide (8*bs.length-p<m)=true:=by simp;omega
 go_wp2_with fail
 go_ret2
 exact⟨rfl,_,rfl⟩
theorem a3Y(w:World)(g:Nat)(A:Option Addr)(c:Nat)(bs:List Int)(p m:Nat)(hr:Rdr w g A c bs p)(hm:m<=32)(hf:p+m<=8*bs.length) :
  Calls Tryz.prog 160 #[.pointer (some ⟨g,0,none⟩),.int .i64 m] w fun e w'=>e=.returned (.tuple #[.int .u32 (numB bs p m),.int .i64 0])/\Rdr w' g A c bs (p+m)/\Keeps [g] w w':=by
 have e1:decide ((m:Int)<0)=false:=by simp
 have e2:decide ((32:Int)<(m:Int))=false:=by simp;omega
 have HR:=c3o hr
 have hl:=hr.le
 have hsz:=hr.size
 clear hr
 go_enter Tryz.func160,Tryz.ntmps160
 go_wp2_with fail
 refine (a8w _ _ _ _ _ _ HR.out).mono ?_
 rintro e w' ⟨rfl,hd⟩
 have HR1:=c3o (HR.out.dr hd.keeps)
 have HD:=c3o hd
 have e3:decide (8*bs.length-p<m)=false:=by simp;omega
 clear hd HR
 go_wp2_with fail
 clear e1 e2 e3
 go_loopw [6,7] (fun v6 v7 wr=>∃ h:Nat,h<=m/\v6=.int .u64 (numB bs p h)/\v7=.int .i64 h/\Hid (Rdr wr g A c bs (p+h))/\Hid (Keeps [g] w' wr)) (fun _ v7 _=>(m-intOf v7).toNat)
 case atStart=>exact⟨0,by omega,rfl,rfl,HR1,c3o (Keeps.refl _ _)⟩
 case round=>
  clear HR1
  obtain⟨h,hh,rfl,rfl,HR,HK⟩:=hrel
  by_cases hlt:h<m
  ·have hb:=HR.out.blk
   have hri:=HR.out.ri
   have h0:=hb.cell 0
   have h1:=hb.cell 1
   simp only[c3q,c3s] at h0 h1
   have hfz:=hb.frozen 1
   obtain⟨b,o,rfl,hbyte⟩:=hri.at (show (p+h)/8<bs.length by omega)
   have hbb:=HR.out.byte ((p+h)/8)
   have hc1:((p+h:Nat):Int)=(p:Int)+(h:Int):=by omega
   rw[hc1] at h1
   clear hb hri hc1
   obtain⟨k,hk⟩:∃ k:Nat,(if 8-((p:Int)+h)%8<(m:Int)-h then 8-((p:Int)+h)%8 else (m:Int)-h)=(k:Int):=⟨min (m-h) (8-(p+h)%8),by split<;>omega⟩
   have hk1:1<=k:=by split at hk<;>omega
   have hk8:(p+h)%8+k<=8:=by split at hk<;>omega
   have hkm:h+k<=m:=by split at hk<;>omega
   have HKK:=c3o hk
   have s1:((p:Int)+h).toNat=p+h:=by omega
   have s2:(((p:Int)+h)/8).toNat=(p+h)/8:=by omega
   have s3:(0:Int)<=((p:Int)+h)/8:=by omega
   have s4:((p:Int)+h)/8<(bs.length:Int):=by omega
   have s5:(0:Int)<=((p:Int)+h)%8:=by omega
   have s6:((p:Int)+h)%8<8:=by omega
   have s7:(0:Int)<=(p:Int)+h:=by omega
   go_upto_region 11 with (fail)
   clear hk
   go_quiet (fail)
   have T:=c3o (b8j bs p h k hbb hk8 (by omega))
   go_upto_region 14 with (fail)
   rw[T.out]
   have E:Hid ((p:Int)+h+k=((p+(h+k):Nat):Int)):=by show _=_;omega
   have e4:IntKind.i64.wrap ((p:Int)+h+k)=(p:Int)+h+k:=c3t _ (by omega)
   go_wp2_with fail
   go_roundw
   case rel=>
    refine⟨h+k,hkm,rfl,by go_num,c3o ?_,c3o ?_⟩
    ·rw[E.out];exact (Rdr.dr HR.out (by repeat (first|exact Keeps.refl _ _|apply Keeps.drewN|apply Keeps.drew))).move (by omega)
    ·exact (HK.out.trans (by repeat (first|exact Keeps.refl _ _|apply Keeps.drewN|apply Keeps.drew))).setCell (Or.inl (by simp)) _
   case measure=>simp[intOf];omega
  ·obtain rfl:h=m:=by omega
   have E:=c3o (c1B bs p h hm)
   go_wp2_with fail
   go_ret2
   rw[E.out]
   exact⟨rfl,HR.out,(HD.out.keeps (S:=[g])).trans HK.out⟩
end Go.Proofs.YtghjlpechjggjaaGreatDoor
namespace Go.Proofs.YtghjlpechjggjaaGreatDoor
open Go.RowKit
theorem b5w (w:World) (g:Nat) (A:Option Addr) (n c:Nat) (bs:List Int) (hb:Blk w g 204 [.slice none 0 0,.int .i64 0]) (hr:RI .u8 w A n bs) (hnil:A=none->n=0/\c=0)
  (hbyte:∀ j,0<=nth bs j/\nth bs j<=255) (hn:n<=4000000000) :
  Calls Tryz.prog 141 #[.pointer (some ⟨g,0,none⟩),.slice A n c] w fun e w'=>∃ A' c',e=.returned (.int .i64 0)/\Rdr w' g A' c' bs 0/\(∀ a,A'=some a->g<a.block/\a.block<w'.heap.size)/\Below g w w':=by
 have h0:=hb.cell 0
 simp only[c3q] at h0
 have hf:=hb.frozen 0
 have hlt:=hb.lt
 have HB:=c3o hb
 have HR:=c3o hr
 have HN:=c3o hnil
 have HBY:=c3o hbyte
 clear hb hr hnil hbyte
 go_enter Tryz.func141,Tryz.ntmps141
 go_wp2_with (at_builtin;refine a4B rfl (.tmp 11) (.tmp 12) rfl (g+1) _ _ [] rfl (c3G _ _ _ _) A n c bs rfl HR.out HN.out (by omega) hlt ?_)
 intro v1 w1 h1 hg1
 have hb1:Blk w1 g 204 [.slice none 0 0,.int .i64 0]:=(hg1.block g hlt (by simp[Value.ownBlock])).trans HB.out
 have c0:=hb1.cell 0
 simp only[c3q] at c0
 have f0:=hb1.frozen 0
 obtain⟨A1,c1,rfl,hri,hcap,hblk⟩:=a0y h1
 have HB1:=c3o hb1
 have HRI:=c3o hri
 have HBK:=c3o hblk
 have HG:=c3o hg1
 clear hb1 hri hblk hg1 h1
 go_wp2_with fail
 go_ret
 have hl:=HR.out.len
 refine⟨A1,c1,rfl,⟨?_,?_,?_,by simp,HBY.out,by omega⟩,fun a ha=>⟨(HBK.out a ha).1,by have:=(HBK.out a ha).2.1;simpa [World.setCell] using this⟩,?_⟩
 ·rw[hl];exact HB1.out.set 0 _
 ·rw[hl]
  exact HRI.out.keeps ((Keeps.refl [g] w1).setCell (Or.inl (by simp)) _) (fun a ha=>by have:=(HBK.out a ha).1;simp;omega)
 ·intro a ha;have:=(HBK.out a ha).1;simp;omega
 ·exact ((c3M g w).grown HG.out (Nat.le_of_lt hlt) (fun k hk=>by simp[Value.ownBlock] at hk)).setCell (p:=⟨g,0,none⟩) (c3F g) _
theorem a7p (w:World) (A:Option Addr) (n c:Nat) (bs:List Int) (hr:RI .u8 w A n bs) (hnil:A=none->n=0/\c=0)
  (hbyte:∀ j,0<=nth bs j/\nth bs j<=255) (hn:n<=4000000000) :
  Calls Tryz.prog 127 #[.slice A n c] w fun e w'=>∃ g A' c',e=.returned (.pointer (some ⟨g,0,none⟩))/\Rdr w' g A' c' bs 0/\w.heap.size<=g/\(∀ a,A'=some a->g<a.block/\a.block<w'.heap.size)/\Below w.heap.size w w':=by
 have HR:=c3o hr
 have HN:=c3o hnil
 have HBY:=c3o hbyte
 clear hr hnil hbyte
 go_enter Tryz.func127,Tryz.ntmps127
 go_wp2_with fail
 refine (b5w _ _ _ _ _ bs (a0d w 204 [.slice none 0 0,.int .i64 0]) (HR.out.keeps ((Keeps.refl _ _).alloc _) (a0a _)) HN.out HBY.out hn).mono ?_
 rintro e w1 ⟨A1,c1,rfl,hrd,hab,hb⟩
 have HRD:=c3o hrd
 have HB:=c3o hb
 have HAB:=c3o hab
 clear hrd hb hab
 go_wp2_with fail
 go_ret
 exact⟨_,_,_,rfl,HRD.out,c3F _,HAB.out,((c3M _ w).alloc (c3F _) _).trans HB.out⟩
end Go.Proofs.YtghjlpechjggjaaGreatDoor
namespace Go.Proofs.YtghjlpechjggjaaGreatDoor
open Go.RowKit
structure Box (w:World) (b:Nat) (v:Value):Prop where
 cell:w.cell? ⟨b,0,none⟩=some v
 free:w.frozen? ⟨b,0,none⟩=false
theorem Box.lt{w:World}{b:Nat}{v:Value}(h:Box w b v):b<w.heap.size:=World.block_lt_of_cell? _ _ h.cell
theorem Box.keeps{S:List Nat}{w w':World}{b:Nat}{v:Value}(h:Box w b v)(hk:Keeps S w w')(hn:b∉S):Box w' b v:=
 ⟨hk.cell (p:=⟨b,0,none⟩) hn h.cell,(hk.frozen (p:=⟨b,0,none⟩) h.lt hn).trans h.free⟩
theorem Box.set{w:World}{b:Nat}{v:Value}(h:Box w b v)(u:Value):Box (w.setCell ⟨b,0,none⟩ u) b u:=
 ⟨World.cell?_setCell_same' _ _ _ (by rw[h.cell];rfl),by simpa using h.free⟩
structure Hd (w:World) (rb eb g:Nat) (A:Option Addr) (c:Nat) (bs:List Int) (p:Nat) (e:Int):Prop where
 rd:Rdr w g A c bs p
 bxr:Box w rb (.pointer (some ⟨g,0,none⟩))
 bxe:Box w eb (.int .i64 e)
 hgr:g<rb
 hre:rb<eb
 ha:∀ a,A=some a->a.block<rb
theorem Hd.offE{w:World}{rb eb g:Nat}{A:Option Addr}{c:Nat}{bs:List Int}{p:Nat}{e:Int}(h:Hd w rb eb g A c bs p e):Off [eb] A:=by
 intro a ha;have:=h.ha a ha;have:=h.hre;simp;omega
theorem Hd.take{w w':World}{rb eb g:Nat}{A:Option Addr}{c:Nat}{bs:List Int}{p q:Nat}{e:Int}(h:Hd w rb eb g A c bs p e)(hr:Rdr w' g A c bs q)(hk:Keeps [g] w w'):Hd w' rb eb g A c bs q e:=
 ⟨hr,h.bxr.keeps hk (by have:=h.hgr;simp;omega),h.bxe.keeps hk (by have:=h.hgr;have:=h.hre;simp;omega),h.hgr,h.hre,h.ha⟩
theorem Hd.keeps{S:List Nat}{w w':World}{rb eb g:Nat}{A:Option Addr}{c:Nat}{bs:List Int}{p:Nat}{e:Int}(h:Hd w rb eb g A c bs p e)(hk:Keeps S w w')(h1:g∉S)(h2:rb∉S)(h3:eb∉S)(h4:Off S A):Hd w' rb eb g A c bs p e:=
 ⟨h.rd.keeps hk h1 h4,h.bxr.keeps hk h2,h.bxe.keeps hk h3,h.hgr,h.hre,h.ha⟩
theorem Hd.set{w:World}{rb eb g:Nat}{A:Option Addr}{c:Nat}{bs:List Int}{p:Nat}{e:Int}(h:Hd w rb eb g A c bs p e)(e':Int):Hd (w.setCell ⟨eb,0,none⟩ (.int .i64 e')) rb eb g A c bs p e':=
 have hk:Keeps [eb] w (w.setCell ⟨eb,0,none⟩ (.int .i64 e')):=(Keeps.refl _ _).setCell (Or.inl (by simp)) _
 ⟨h.rd.keeps hk (by have:=h.hgr;have:=h.hre;simp;omega) h.offE,h.bxr.keeps hk (by have:=h.hre;simp;omega),h.bxe.set _,h.hgr,h.hre,h.ha⟩
theorem b9Y(w:World)(rb eb g:Nat)(A:Option Addr)(c:Nat)(bs:List Int)(p n:Nat)(e:Int)(h:Hd w rb eb g A c bs p e)(hn:n<=32)(hf:p+n<=8*bs.length) :
  Calls Tryz.prog 183 #[.int .i64 n,.pointer (some ⟨rb,0,none⟩),.pointer (some ⟨eb,0,none⟩)] w fun r w'=>r=.returned (.int .i64 (numB bs p n))/\Hd w' rb eb g A c bs (p+n) e/\Keeps [g,eb] w w':=by
 have c1:=h.bxr.cell
 have H:=c3o h
 clear h
 have hb:=a0F bs p n
 have hb2:=b7J n hn
 have e1:IntKind.i64.wrap (numB bs p n)=numB bs p n:=c3t _ (by omega)
 go_enter Tryz.func183,Tryz.ntmps183
 go_wp2_with fail
 refine (a3Y _ _ _ _ _ _ _ H.out.rd hn hf).mono ?_
 rintro r w' ⟨rfl,hr2,hk⟩
 have h2:=H.out.take hr2 hk
 have c2:=h2.bxe.cell
 have f2:=h2.bxe.free
 have H2:=c3o h2
 have HK:=c3o hk
 clear hr2 hk c1 h2 H
 by_cases he:e=0
 ·subst he
  go_wp2_with fail
  go_ret
  exact⟨rfl,H2.out.set 0,(HK.out.mono (by simp)).setCell (Or.inl (by simp)) _⟩
 ·have e2:(e==0)=false:=by simpa using he
  go_wp2_with fail
  go_ret
  exact⟨rfl,H2.out,HK.out.mono (by simp)⟩
theorem b7M(w:World)(rb eb g:Nat)(A:Option Addr)(c:Nat)(bs:List Int)(p n:Nat)(e:Int)(h:Hd w rb eb g A c bs p e)(hn:n<=32)(hf:8*bs.length<p+n) :
  Calls Tryz.prog 183 #[.int .i64 n,.pointer (some ⟨rb,0,none⟩),.pointer (some ⟨eb,0,none⟩)] w fun r w'=>r=.returned (.int .i64 0)/\Hd w' rb eb g A c bs p (if e=0 then 10 else e)/\Keeps [g,eb] w w':=by
 have c1:=h.bxr.cell
 have H:=c3o h
 clear h
 go_enter Tryz.func183,Tryz.ntmps183
 go_wp2_with fail
 refine (a6x _ _ _ _ _ _ _ H.out.rd hn hf).mono ?_
 rintro r w' ⟨rfl,hk⟩
 have h2:=H.out.keeps hk.keeps (S:=[]) (by simp) (by simp) (by simp) (a0a _)
 have c2:=h2.bxe.cell
 have f2:=h2.bxe.free
 have H2:=c3o h2
 have HK:=c3o hk
 clear hk c1 h2 H
 by_cases he:e=0
 ·subst he
  go_wp2_with fail
  go_ret
  exact⟨rfl,by first|exact H2.out.set 10|(rw[if_pos rfl];exact H2.out.set 10),(HK.out.keeps).setCell (Or.inl (by simp)) _⟩
 ·have e2:(e==0)=false:=by simpa using he
  go_wp2_with fail
  go_ret
  exact⟨rfl,by first|exact H2.out|(rw[if_neg he];exact H2.out),HK.out.keeps⟩
end Go.Proofs.YtghjlpechjggjaaGreatDoor
namespace Go.Proofs.YtghjlpechjggjaaGreatDoor
open Go.RowKit
end Go.Proofs.YtghjlpechjggjaaGreatDoor
namespace Go.Proofs.YtghjlpechjggjaaGreatDoor
open Go.RowKit
def setL(cs:List Value):Nat->List Value->List Value
 | _,[]=>cs
 | o,v::r=>setL (cs.set o v) (o+1) r
theorem a9T:∀ (vs a old b:List Value),old.length=vs.length->setL (a++(old++b)) a.length vs=a++(vs++b)
 | [],a,old,b,h=>by
  obtain rfl:=c3D (by simpa using h)
  rfl
 | v::r,a,[],b,h=>by simp at h
 | v::r,a,x::old,b,h=>by
  have e:(a++(x::old++b)).set a.length v=(a++[v])++(old++b):=by simp
  rw[setL,e]
  have:=a9T r (a++[v]) old b (by simpa using h)
  rw[show (a++[v]).length=a.length+1 by simp] at this
  rw[this];simp
theorem Blk.there{w:World}{g:Nat}{t:TypeId}{cs:List Value}(h:Blk w g t cs)(o n:Nat)(ho:o+n<=cs.length):w.there g o n:=fun j hj=>by
 rw[h.cell]
 refine⟨?_,h.frozen _⟩
 rw[c3v (by omega)];rfl
theorem Blk.setCells{g:Nat}{t:TypeId}:∀ (vs:List Value) (w:World) (cs:List Value) (o:Nat),Blk w g t cs->Blk (w.setCells g o vs) g t (setL cs o vs)
 | [],w,cs,o,h=>h
 | v::r,w,cs,o,h=>by
  rw[World.setCells,setL]
  exact Blk.setCells r _ _ _ (h.set o v)
theorem Keeps.setCells{S:List Nat}{w0:World}{g:Nat}(hp:g∈S∨w0.heap.size<=g):∀ (vs:List Value) (w:World) (o:Nat),Keeps S w0 w->Keeps S w0 (w.setCells g o vs)
 | [],w,o,h=>h
 | v::r,w,o,h=>by
  rw[World.setCells]
  exact Keeps.setCells hp r _ _ (h.setCell (p:=⟨g,o,none⟩) hp v)
def a2y(cd ct az:List Int)(v:Value)(L:Int):List Value:=ints .i64 cd++(ints .i64 ct++(ints .i64 az++[v,.int .i64 L]))
def DB(w:World)(g:Nat)(cd ct az:List Int)(v:Value)(L:Int):Prop:=cd.length=16/\ct.length=16/\az.length=16/\Blk w g 247 (a2y cd ct az v L)
theorem DB.lt{w:World}{g:Nat}{cd ct az:List Int}{v:Value}{L:Int}(h:DB w g cd ct az v L):g<w.heap.size:=h.2.2.2.lt
theorem DB.keeps{S:List Nat}{w w':World}{g:Nat}{cd ct az:List Int}{v:Value}{L:Int}(h:DB w g cd ct az v L)(hk:Keeps S w w')(hn:g∉S):DB w' g cd ct az v L:=
 ⟨h.1,h.2.1,h.2.2.1,h.2.2.2.keeps hk hn⟩
theorem DB.code{w:World}{g:Nat}{cd ct az:List Int}{v:Value}{L:Int}(h:DB w g cd ct az v L){j:Nat}(hj:j<16):w.cell? ⟨g,j,none⟩=some (.int .i64 (nth cd j)):=by
 obtain⟨h1,h2,h3,h4⟩:=h
 rw[h4.cell,a2y,c3y (by simp[ints];omega),a0f,a0o (by omega),c3v (by omega)];rfl
theorem DB.count{w:World}{g:Nat}{cd ct az:List Int}{v:Value}{L:Int}(h:DB w g cd ct az v L){j:Nat}(hj:j<16):w.cell? ⟨g,16+j,none⟩=some (.int .i64 (nth ct j)):=by
 obtain⟨h1,h2,h3,h4⟩:=h
 have e:(ints .i64 cd).length=16:=by simp[ints,h1]
 rw[h4.cell,a2y,c3r (by omega),e,show 16+j-16=j by omega,c3y (by simp[ints];omega),a0f,a0o (by omega),c3v (by omega)];rfl
theorem DB.at{w:World}{g:Nat}{cd ct az:List Int}{v:Value}{L:Int}(h:DB w g cd ct az v L){j:Nat}(hj:j<16):w.cell? ⟨g,32+j,none⟩=some (.int .i64 (nth az j)):=by
 obtain⟨h1,h2,h3,h4⟩:=h
 have e:(ints .i64 cd).length=16:=by simp[ints,h1]
 have e2:(ints .i64 ct).length=16:=by simp[ints,h2]
 rw[h4.cell,a2y,c3r (by omega),e,c3r (by omega),e2,show 32+j-16-16=j by omega,c3y (by simp[ints];omega),a0f,a0o (by omega),c3v (by omega)];rfl
theorem DB.syms{w:World}{g:Nat}{cd ct az:List Int}{v:Value}{L:Int}(h:DB w g cd ct az v L):w.cell? ⟨g,48,none⟩=some v/\w.cell? ⟨g,49,none⟩=some (.int .i64 L):=by
 obtain⟨h1,h2,h3,h4⟩:=h
 have e:(ints .i64 cd).length=16:=by simp[ints,h1]
 have e2:(ints .i64 ct).length=16:=by simp[ints,h2]
 have e3:(ints .i64 az).length=16:=by simp[ints,h3]
 constructor
 ·rw[h4.cell,a2y,c3r (by omega),e,c3r (by omega),e2,c3r (by omega),e3];rfl
 ·rw[h4.cell,a2y,c3r (by omega),e,c3r (by omega),e2,c3r (by omega),e3];rfl
theorem DB.free{w:World}{g:Nat}{cd ct az:List Int}{v:Value}{L:Int}(h:DB w g cd ct az v L)(j:Nat):w.frozen? ⟨g,j,none⟩=false:=h.2.2.2.frozen j
theorem DB.setAt{w:World}{g:Nat}{cd ct az:List Int}{v:Value}{L:Int}(h:DB w g cd ct az v L){j:Nat}(hj:j<16)(x:Int):DB (w.setCell ⟨g,32+j,none⟩ (.int .i64 x)) g cd ct (az.set j x) v L:=by
 obtain⟨h1,h2,h3,h4⟩:=h
 have e:(ints .i64 cd).length=16:=by simp[ints,h1]
 have e2:(ints .i64 ct).length=16:=by simp[ints,h2]
 have e3:(ints .i64 az).length=16:=by simp[ints,h3]
 refine⟨h1,h2,by simp[h3],?_⟩
 have:=h4.set (32+j) (.int .i64 x)
 unfold a2y at this ⊢
 rw[c3u _ _ (by omega),e,c3u _ _ (by omega),e2,show 32+j-16-16=j by omega,List.set_append_left _ _ (by omega)] at this
 simpa [ints,List.map_set] using this
theorem DB.setSyms{w:World}{g:Nat}{cd ct az:List Int}{v:Value}{L:Int}(h:DB w g cd ct az v L)(v':Value):DB (w.setCell ⟨g,48,none⟩ v') g cd ct az v' L:=by
 obtain⟨h1,h2,h3,h4⟩:=h
 have e:(ints .i64 cd).length=16:=by simp[ints,h1]
 have e2:(ints .i64 ct).length=16:=by simp[ints,h2]
 have e3:(ints .i64 az).length=16:=by simp[ints,h3]
 refine⟨h1,h2,h3,?_⟩
 have:=h4.set 48 v'
 unfold a2y at this ⊢
 rw[c3u _ _ (by omega),e,c3u _ _ (by omega),e2,c3u _ _ (by omega),e3] at this
 exact this
theorem DB.setLong{w:World}{g:Nat}{cd ct az:List Int}{v:Value}{L:Int}(h:DB w g cd ct az v L)(x:Int):DB (w.setCell ⟨g,49,none⟩ (.int .i64 x)) g cd ct az v x:=by
 obtain⟨h1,h2,h3,h4⟩:=h
 have e:(ints .i64 cd).length=16:=by simp[ints,h1]
 have e2:(ints .i64 ct).length=16:=by simp[ints,h2]
 have e3:(ints .i64 az).length=16:=by simp[ints,h3]
 refine⟨h1,h2,h3,?_⟩
 have:=h4.set 49 (.int .i64 x)
 unfold a2y at this ⊢
 rw[c3u _ _ (by omega),e,c3u _ _ (by omega),e2,c3u _ _ (by omega),e3] at this
 exact this
theorem DB.start{w:World}{g:Nat}{Z:List Value}(hZ:Z=a2y (List.replicate 16 0) (List.replicate 16 0) (List.replicate 16 0) (.slice none 0 0) 0)(h:Blk w g 247 Z)(cd ct:List Int)(h1:cd.length=16)(h2:ct.length=16) :
  w.there g 0 (ints .i64 cd).toArray.size/\(w.setCells g 0 (ints .i64 cd)).there g 16 (ints .i64 ct).toArray.size/\DB ((w.setCells g 0 (ints .i64 cd)).setCells g 16 (ints .i64 ct)) g cd ct (List.replicate 16 0) (.slice none 0 0) 0:=by
 subst hZ
 have e:(ints .i64 cd).length=16:=by simp[ints,h1]
 have e2:(ints .i64 ct).length=16:=by simp[ints,h2]
 have a:=Blk.setCells (ints .i64 cd) w _ 0 h
 have b:=a9T (ints .i64 cd) [] (ints .i64 (List.replicate 16 0)) (ints .i64 (List.replicate 16 0)++(ints .i64 (List.replicate 16 0)++[.slice none 0 0,.int .i64 0])) (by rw[e];simp[ints])
 rw[show setL (a2y (List.replicate 16 0) (List.replicate 16 0) (List.replicate 16 0) (.slice none 0 0) 0) 0 (ints .i64 cd)=_ from b] at a
 rw[List.nil_append] at a
 have c:=Blk.setCells (ints .i64 ct) _ _ 16 a
 have d:=a9T (ints .i64 ct) (ints .i64 cd) (ints .i64 (List.replicate 16 0)) (ints .i64 (List.replicate 16 0)++[.slice none 0 0,.int .i64 0]) (by rw[e2];simp[ints])
 rw[e] at d
 rw[d] at c
 refine⟨h.there _ _ ?_,a.there _ _ ?_,h1,h2,by simp,c⟩
 ·simp[a2y,ints,h1]
 ·simp[ints,h1,h2]
end Go.Proofs.YtghjlpechjggjaaGreatDoor
namespace Go.Proofs.YtghjlpechjggjaaGreatDoor
open Go.RowKit
theorem a2j{w:World}{base:Nat}{e:TypeId}{size n:Nat}{v:Value}{xs:List Value}(h:w.ownsRow base e size v n xs):∃ A c,v=.slice A n c:=by
 rcases h.2 with⟨rfl,rfl⟩|⟨g,cap,cur,rfl,_⟩
 ·exact⟨_,_,rfl⟩
 ·exact⟨_,_,rfl⟩
def DSt(w:World)(g:Nat)(l:List Int)(a:Nat)(S:List Int)(L:Int):Prop:=
 ∃ v,DB w g (lowL (lenCnt l) 16) (lenCnt l) (atL l a) v L/\w.ownsRow (g+1) 3 1 v S.length (ints .i64 S)
def Dec(w:World)(g:Nat)(l:List Int):Prop:=DSt w g l 16 (symsB l 16) (longN l 16)
theorem DSt.keeps{w w':World}{g a:Nat}{l S:List Int}{L:Int}{K:List Nat}(h:DSt w g l a S L)(hk:Keeps K w w')(hK:∀ x∈K,x<g∨w.heap.size<=x):DSt w' g l a S L:=by
 obtain⟨v,h1,h2⟩:=h
 refine⟨v,h1.keeps hk (fun hm=>by have:=h1.lt;rcases hK g hm with h|h<;>omega),a0b h2 hk fun x hx hm=>?_⟩
 have a:=a0j h2 x hx
 have b:=a2T h2 x hx
 rcases hK x hm with h|h<;>omega
theorem DSt.at'{w:World}{g a:Nat}{l S:List Int}{L:Int}(h:DSt w g l a S L)(j:Nat)(hj:j<16)(x:Int)(as':List Int)(ha:(atL l a).set j x=atL l as'.length):DSt (w.setCell ⟨g,32+j,none⟩ (.int .i64 x)) g l as'.length S L:=by
 obtain⟨v,h1,h2⟩:=h
 refine⟨v,?_,a0b h2 (S:=[g]) ((Keeps.refl [g] w).setCell (Or.inl (by simp)) _) fun x hx hm=>?_⟩
 ·have:=h1.setAt hj x;rwa [ha] at this
 ·have a:=a0j h2 x hx
  rw[c3p.1 hm] at a;omega
def Made(w:World)(l:List Int)(e:Ending)(w':World):Prop:=
 Below w.heap.size w w'/\if a0e l=0 then ∃ g,e=.returned (.tuple #[.pointer (some ⟨g,0,none⟩),.int .i64 0])/\Dec w' g l/\w.heap.size<=g
 else e=.returned (.tuple #[.pointer none,.int .i64 (a0e l)])
theorem b9B{w w':World}{l:List Int}{e:Int}(hc:¬a0e l=0)(he:e=a0e l)(h:Below w.heap.size w w'):Made w l (.returned (.tuple #[.pointer none,.int .i64 e])) w':=by
 subst he
 exact⟨h,by rw[if_neg hc]⟩
theorem c1y{w w':World}{l:List Int}{g:Nat}(hc:a0e l=0)(h:Below w.heap.size w w')(hd:Dec w' g l)(hg:w.heap.size<=g):Made w l (.returned (.tuple #[.pointer (some ⟨g,0,none⟩),.int .i64 0])) w':=
 ⟨h,by rw[if_pos hc];exact⟨g,rfl,hd,hg⟩⟩
theorem a7q(w:World)(A:Option Addr)(n c:Nat)(l:List Int)(hl:RI .i64 w A n l)(hn:n<=140737488355328) :
  Calls Tryz.prog 164 #[.slice A n c] w (Made w l):=by
 have HL:=c3o hl
 have HLL:=c3o hl.len
 clear hl
 go_enter Tryz.func164,Tryz.ntmps164
 go_wp2_with fail
 refine (a2Z _ _ _ _ l HL.out hn).mono ?_
 rintro _ w1 ⟨rfl,hd⟩
 have HD:=c3o hd
 clear hd
 by_cases hc:a0e l=0
 ·have e1:(a0e l !=0)=false:=by simp[hc]
  have HC:=c3o hc
  have hok:=a1P hc
  have HOK:=c3o hok.2
  have hn288:n<=288:=by rw[<-HLL.out];exact hok.1
  have HL1:=c3o (HL.out.keeps (HD.out.keeps (S:=[])) (a0a _))
  have HB1:=c3o (HD.out.keeps (S:=[])).below
  clear hc hok
  go_upto_region 5 with fail
  obtain⟨wz,hwz⟩:∃ wz,wz=(w1.alloc (.cells (a2y (List.replicate 16 0) (List.replicate 16 0) (List.replicate 16 0) (.slice none 0 0) 0).toArray 247)):=⟨_,rfl⟩
  change Code.wp _ _ _ _ (w1.alloc (.cells (a2y (List.replicate 16 0) (List.replicate 16 0) (List.replicate 16 0) (.slice none 0 0) 0).toArray 247))
  obtain⟨g,hg⟩:∃ g,g=w1.heap.size:=⟨_,rfl⟩
  rw[<-hg,<-hwz]
  have HZ:Hid (Blk wz g 247 (a2y (List.replicate 16 0) (List.replicate 16 0) (List.replicate 16 0) (.slice none 0 0) 0)):=by rw[hwz,hg];exact a0d w1 _ _
  have HKZ:Hid (Keeps [] w wz):=by rw[hwz];exact c3o ((HD.out.keeps (S:=[])).alloc _)
  have HG:Hid (w.heap.size<=g):=by rw[hg];exact c3o HB1.out.size
  have HL2:=c3o (HL.out.keeps HKZ.out (a0a _))
  clear hg hwz HL1 HB1
  go_wp2_with fail
  refine (a6S _ _ _ _ l HL2.out hn288 HOK.out).mono ?_
  rintro _ w2 ⟨rfl,hb⟩
  have HBZ:=c3o (HZ.out.keeps (Keeps.of_below (S:=[]) hb) (by simp))
  have HK2:=c3o (HKZ.out.trans ((Keeps.of_below (S:=[]) hb)))
  clear hb HZ HKZ HL2
  obtain⟨t1,t2,db⟩:=DB.start rfl HBZ.out (lowL (lenCnt l) 16) (lenCnt l) (a4R _ _) (a1M _)
  have hk3:Keeps [] w ((w2.setCells g 0 (ints .i64 (lowL (lenCnt l) 16))).setCells g 16 (ints .i64 (lenCnt l))):=Keeps.setCells (.inr HG.out) _ _ _ (Keeps.setCells (.inr HG.out) _ _ _ HK2.out)
  obtain⟨ca,hca⟩:∃ ca:Array Value,ca=(ints .i64 (lowL (lenCnt l) 16)).toArray:=⟨_,rfl⟩
  obtain⟨cb,hcb⟩:∃ cb:Array Value,cb=(ints .i64 (lenCnt l)).toArray:=⟨_,rfl⟩
  have ka:ints .i64 (lowL (lenCnt l) 16)=ca.toList:=by rw[hca]
  have kb:ints .i64 (lenCnt l)=cb.toList:=by rw[hcb]
  have OA:Hid (ca.all (·.oneCell')=true):=by rw[hca];exact c3o (a1L _)
  have OB:Hid (cb.all (·.oneCell')=true):=by rw[hcb];exact c3o (a1L _)
  have LX:Hid (ca.size=16):=by show _=_;rw[hca];simp[ints,a4R]
  have LY:Hid (cb.size=16):=by show _=_;rw[hcb];simp[ints,a1M]
  rw[<-hca,<-hcb]
  rw[<-hca] at t1
  rw[<-hcb,ka] at t2
  rw[ka,kb] at db hk3
  have T1:=c3o t1
  have T2:=c3o t2
  have DB0:=c3o db
  have HK3:=c3o hk3
  clear t1 t2 db hk3 ka kb hca hcb
  have KX:Hid ((Tryz.prog.info? 191).map (·.size)=some ca.size):=by show _=_;rw[LX.out];kernel_rfl
  have KY:Hid ((Tryz.prog.info? 191).map (·.size)=some cb.size):=by show _=_;rw[LY.out];kernel_rfl
  go_wp2_with (first
   | (refine wpList_store_mid rfl 191 (.tmp 24) (.tmp 21) rfl g 0 ca rfl rfl T1.out KX.out OA.out ?_)
   | (refine wpList_store_mid rfl 191 (.tmp 26) (.tmp 22) rfl g 16 cb rfl rfl T2.out KY.out OB.out ?_))
  generalize (w2.setCells g 0 ca.toList).setCells g 16 cb.toList=w3 at *
  have HS0:Hid (DSt w3 g l 1 (symsB l 1) (longN l 1)):=by rw[b8g,b7f];exact⟨_,by rw[c1h];exact DB0.out,c3G _ _ _ _⟩
  clear HBZ HK2 T1 T2 DB0 KX KY OA OB LX LY
  have HLk:Hid (∀ wr:World,Keeps [] w wr->RI .i64 wr A n l):=c3o (fun wr hk=>HL.out.keeps hk (a0a _))
  go_loopw [6] (fun mv wr=>∃ m:Nat,1<=m/\m<=16/\mv=.int .i64 m/\Hid (DSt wr g l m (symsB l m) (longN l m))/\Hid (Keeps [] w wr)) (fun mv _=>16-(intOf mv).toNat)
  case atStart=>exact⟨1,by omega,by omega,rfl,HS0,HK3⟩
  case round=>
   clear HS0 HK3
   obtain⟨m,hm1,hm2,rfl,HS,HK⟩:=hrel
   by_cases hm:m<=15
   ·have e0:decide ((m:Int)<=15)=true:=by simp;omega
    have hsl:=a5j l m
    obtain⟨v,hdb,how⟩:=HS.out
    obtain⟨vA,vc,rfl⟩:=a2j how
    obtain⟨q1,-⟩:=hdb.syms
    have q2:=hdb.at (j:=m) (by omega)
    have q3:=hdb.free (32+m)
    have HS1:Hid (DSt (wr.setCell ⟨g,32+m,none⟩ (.int .i64 ((symsB l m).length:Int))) g l (m+1) (symsB l m++symsOf l m 0) (a6j l m 0)):=by
     have:=HS.out.at' m (by omega) ((symsB l m).length:Int) (List.replicate (m+1) 0) (by rw[c3L,b8M l m hm1 (by omega)])
     rw[c3L] at this
     rw[b5v l m (by omega),show symsOf l m 0=[] from rfl,List.append_nil]
     exact this
    have HK1:=c3o (HK.out.setCell (p:=⟨g,32+m,none⟩) (.inr HG.out) (.int .i64 ((symsB l m).length:Int)))
    generalize nth (atL l m) m=z at *
    have HSL:=c3o hsl
    generalize hsz:(symsB l m).length=sz at *
    have HSZ:=c3o hsz
    clear hdb how HS HK hsl hsz
    go_wp2_with fail
    go_region
    go_wp2_with fail
    have HS2:Hid (DSt (wr.setCell ⟨g,32+m,none⟩ (.int .i64 (sz:Int))).drew g l (m+1) (symsB l m++symsOf l m 0) (a6j l m 0)):=c3o (HS1.out.keeps (Keeps.refl [] _).drew (by simp))
    have HK2:Hid (Keeps [] w (wr.setCell ⟨g,32+m,none⟩ (.int .i64 (sz:Int))).drew):=c3o HK1.out.drew
    clear HS1 HK1
    have q4:0=0:=rfl
    clear q1 q2 q3 q4
    go_loopw [43] (fun iv wr=>∃ i:Nat,i<=n/\iv=.int .i64 i/\Hid (DSt wr g l (m+1) (symsB l m++symsOf l m i) (a6j l m i))/\Hid (Keeps [] w wr)) (fun iv _=>n-(intOf iv).toNat)
    case atStart=>exact⟨0,by omega,rfl,HS2,HK2⟩
    case round=>
     clear HS2 HK2
     obtain⟨i,hi,rfl,HS,HK⟩:=hrel
     by_cases hlt:i<n
     ·have hil:Hid (i<l.length):=by have:=HLL.out;show _<_;omega
      obtain⟨b,o,rfl,hc⟩:=HL.out.at hlt
      have hc:=HK.out.cell (by simp) hc
      by_cases hx:nth l i=m
      ·have e1:(nth l i==(m:Int))=true:=by simpa using hx
       have hs1:=a4u l m i hx
       have hs2:=b5u l m i (by omega) hm1 hil.out hx
       have HX1:=c3o hs1
       have HX2:=c3o hs2
       have hol:(symsOf l m i).length<=i:=a5M l m i
       have hsl:=a5j l m
       clear hx hs1 hs2
       obtain⟨v,hdb,how⟩:=HS.out
       obtain⟨vA,vc,hvf⟩:=a2j how
       subst hvf
       have hsn:(symsB l m++symsOf l m i).length<=10000:=by
        rw[c3K]
        have:m*l.length<=15*288:=Nat.mul_le_mul (by omega) (by have:=HLL.out;omega)
        omega
       have HX3:Hid (symsB l m++symsOf l m (i+1)=(symsB l m++symsOf l m i)++[(i:Int)]):=by show _=_;rw[HX1.out,List.append_assoc]
       generalize symsB l m++symsOf l m i=S at *
       generalize hsz:S.length=sz at *
       obtain⟨q1,-⟩:=hdb.syms
       have HOW:=c3o (a0b how ((Keeps.refl [] wr).alloc (.cells #[.int .i64 (i:Int)] 3)) (by simp))
       have HDB:=c3o (hdb.keeps ((Keeps.refl [] wr).alloc (.cells #[.int .i64 (i:Int)] 3)) (by simp))
       have HRI:Hid (RI .i64 (wr.alloc (.cells #[.int .i64 (i:Int)] 3)) (some ⟨wr.heap.size,0,none⟩) 1 [(i:Int)]):=c3o (a8D wr _ _ _)
       have HKA:=c3o (HK.out.alloc (.cells #[.int .i64 (i:Int)] 3))
       have hgl:=hdb.lt
       have HSZ:=c3o hsz
       clear HS HK hdb how hol hsl hsz
       go_wp2_with (at_builtin;refine a0Y rfl (.tmp 55) (.tmp 57) rfl (g+1) _ _ S rfl (by exact HOW.out) _ 1 1 [(i:Int)] rfl (by exact HRI.out) ?c1 ?c2 ?c3 ?c4 ?_)
       case c1=>simp
       case c2=>simp
       case c3=>omega
       case c4=>simp;omega
       intro v' w4 hv hg
       obtain⟨A',c',hvf⟩:=a2j hv
       subst hvf
       have hk4:=(Keeps.refl (Value.ownBlock (.slice vA sz vc)).toList (wr.alloc (.cells #[.int .i64 (i:Int)] 3))).grown hg (fun k hk=>Or.inl (by simp[hk]))
       have hng:g∉(Value.ownBlock (.slice vA sz vc)).toList:=fun hm=>by
        have:=a0j HOW.out g (by simpa using hm)
        omega
       have hdb4:=HDB.out.keeps hk4 hng
       have hkw:=HKA.out.grown hg (fun k hk=>Or.inr (by have:=a0j HOW.out k hk;have:=HG.out;omega))
       have HDB4:=c3o hdb4
       have HKW:=c3o hkw
       have HV:=c3o hv
       obtain⟨r1,-⟩:=hdb4.syms
       have r2:=hdb4.free 48
       have hdb5:=hdb4.setSyms (.slice A' (sz+1) c')
       obtain⟨-,r3⟩:=hdb5.syms
       have r4:=hdb5.free 49
       have HDB6:=c3o (hdb5.setLong m)
       have hk6:Keeps [g] w4 ((w4.setCell ⟨g,48,none⟩ (.slice A' (sz+1) c')).setCell ⟨g,49,none⟩ (.int .i64 (m:Int))):=((Keeps.refl [g] w4).setCell (Or.inl (by simp)) _).setCell (Or.inl (by simp)) _
       have HO6:Hid (((w4.setCell ⟨g,48,none⟩ (.slice A' (sz+1) c')).setCell ⟨g,49,none⟩ (.int .i64 (m:Int))).ownsRow (g+1) 3 1 (.slice A' (sz+1) c') (sz+1) (ints .i64 (S++[(i:Int)]))):=
        a0b HV.out hk6 (fun x hx hm=>by have:=a0j HV.out x hx;rw[c3p.1 hm] at this;omega)
       have HKX:=c3o ((HKW.out.setCell (p:=⟨g,48,none⟩) (.inr HG.out) (.slice A' (sz+1) c')).setCell (p:=⟨g,49,none⟩) (.inr HG.out) (.int .i64 (m:Int)))
       clear hk4 hng hdb4 hkw hv hg hdb5 hk6 HOW HDB HRI HKA HDB4 HKW HV
       go_wp2_with fail
       go_roundw
       case rel=>exact⟨i+1,by omega,by go_num,by rw[HX2.out,HX3.out];exact⟨.slice A' (sz+1) c',HDB6.out,by rw[c3K,HSZ.out];exact HO6.out⟩,HKX⟩
       case measure=>simp[intOf];omega
      ·have e1:(nth l i==(m:Int))=false:=by simpa using hx
       have HX1:=c3o (a4t l m i hx)
       have HX2:=c3o (b5t l m i (by omega) hil.out hx)
       clear hx
       go_wp2_with fail
       go_roundw
       case rel=>exact⟨i+1,by omega,by go_num,by rw[HX1.out,HX2.out];exact HS,HK⟩
       case measure=>simp[intOf];omega
     ·obtain rfl:i=n:=by omega
      have HS3:Hid (DSt wr g l (m+1) (symsB l (m+1)) (longN l (m+1))):=by
       have:=HS.out
       rw[<-HLL.out,b7e l m hm1,<-a5K l m hm1] at this;exact this
      go_wp2_with fail
      go_roundw
      case rel=>exact⟨m+1,by omega,by omega,by go_num,HS3,HK⟩
      case measure=>simp[intOf];omega
   ·obtain rfl:m=16:=by omega
    go_wp2_with fail
    go_ret2
    exact c1y HC.out HK.out.below HS.out HG.out
 ·have e1:(a0e l !=0)=true:=by simpa using hc
  have HR:Hid (¬a0e l=0):=c3o hc
  go_wp2_with fail
  go_ret2
  exact b9B HR.out rfl (HD.out.keeps (S:=[])).below
end Go.Proofs.YtghjlpechjggjaaGreatDoor
namespace Go.Proofs.YtghjlpechjggjaaGreatDoor
open Go.RowKit
def DecN(w:World)(g gr:Nat)(l:List Int):Prop:=
 ∃ A c,DB w g (lowL (lenCnt l) 16) (lenCnt l) (atL l 16) (.slice A (symsB l 16).length c) (longN l 16)/\RI .i64 w A (symsB l 16).length (symsB l 16)/\g≠gr/\∀ x,A=some x->x.block≠gr
theorem DecN.keeps{w w':World}{g gr:Nat}{l:List Int}{K:List Nat}(h:DecN w g gr l)(hk:Keeps K w w')(hK:∀ x∈K,x=gr):DecN w' g gr l:=by
 obtain⟨A,c,h1,h2,h3,h4⟩:=h
 exact⟨A,c,h1.keeps hk (fun hm=>h3 (hK g hm)),h2.keeps hk (fun x hx hm=>h4 x hx (hK x.block hm)),h3,h4⟩
theorem Dec.apart{w:World}{g gr:Nat}{l:List Int}(h:Dec w g l)(hg:gr<g):DecN w g gr l:=by
 obtain⟨v,h1,h2⟩:=h
 obtain⟨A,c,rfl,hr,_,ha⟩:=a0y h2
 exact⟨A,c,h1,hr,by omega,fun x hx=>by have:=(ha x hx).1;omega⟩
theorem b9N(v b:Int)(h0:0<=v)(h:v<65536)(hb:0<=b/\b<=1):Go.bits .or .i64 (v*2) b=2*v+b:=by
 have:=bits_join .i64 62 (by decide) b1P 1 (v*2) b (by omega) (by omega) (by omega) (by omega) (by omega) (by omega)
 rw[this];omega
theorem b3z(w:World)(g:Nat)(A:Option Addr)(c:Nat)(bs:List Int)(p:Nat)(hr:Rdr w g A c bs p)(hf:p+1<=8*bs.length) :
  Calls Tryz.prog 160 #[.pointer (some ⟨g,0,none⟩),.int .i64 1] w fun e w'=>e=.returned (.tuple #[.int .u32 (bitAt bs p),.int .i64 0])/\Rdr w' g A c bs (p+1)/\Keeps [g] w w':=by
 have:=a3Y w g A c bs p 1 hr (by omega) hf
 simpa [numB] using this
theorem b8h(w:World)(g:Nat)(A:Option Addr)(c:Nat)(bs:List Int)(p:Nat)(hr:Rdr w g A c bs p)(hf:8*bs.length<p+1) :
  Calls Tryz.prog 160 #[.pointer (some ⟨g,0,none⟩),.int .i64 1] w fun e w'=>e=.returned (.tuple #[.int .u32 0,.int .i64 10])/\Dr w w':=by
 have:=a6x w g A c bs p 1 hr (by omega) hf
 simpa using this
def c0x(w:World)(gr:Nat)(A:Option Addr)(c:Nat)(bs:List Int)(p:Nat)(r:Int×Int×Nat)(e:Ending)(w':World):Prop:=
 e=.returned (.tuple #[.int .i64 r.1,.int .i64 r.2.1])/\Rdr w' gr A c bs (p+r.2.2)/\Keeps [gr] w w'
theorem b7s{w w':World}{gr:Nat}{A:Option Addr}{c:Nat}{bs:List Int}{p k:Nat}{r:Int×Int×Nat}{s e:Int}(hr:r=(s,e,k))(h:Rdr w' gr A c bs (p+k))(hk:Keeps [gr] w w') :
  c0x w gr A c bs p r (.returned (.tuple #[.int .i64 s,.int .i64 e])) w':=by
 subst hr;exact⟨rfl,h,hk⟩
theorem a4l(w:World)(g gr:Nat)(l:List Int)(A:Option Addr)(c:Nat)(bs:List Int)(p:Nat)(hd:DecN w g gr l)(hr:Rdr w gr A c bs p)(hl:l.length<=288) :
  Calls Tryz.prog 166 #[.pointer (some ⟨g,0,none⟩),.pointer (some ⟨gr,0,none⟩)] w (c0x w gr A c bs p (decF l bs p)):=by
 have HD:=c3o hd
 have HR:=c3o hr
 have HL:=c3o hl
 have hLL:longN l 16<16:=(a9y l 16).resolve_right (by omega)
 obtain⟨L,hL⟩:∃ L,L=longN l 16:=⟨_,rfl⟩
 rw[<-hL] at hLL
 have HLn:=c3o hL
 clear hd hr hl hL
 go_enter Tryz.func166,Tryz.ntmps166
 go_wp2_with fail
 go_step3
 go_wp2_with fail
 go_step3
 go_wp2_with fail
 go_loopw [6,7,8] (fun ev xv nv wr=>∃ (n:Nat) (x:Int),n<=L/\ev=.int .i64 32/\nv=.int .i64 n/\xv=.int .i64 x/\0<=x/\x<32768/\Hid (x<2^n)/\Hid (decF l bs p=decGo l bs p (L-n) n x)/\Hid (Rdr wr gr A c bs (p+n))/\Hid (Keeps [gr] w wr)) (fun _ _ nv _=>L-(intOf nv).toNat)
 case atStart=>exact⟨0,0,by omega,rfl,rfl,rfl,by omega,by omega,c3o (by simp),c3o (by rw[HLn.out];rfl),HR,c3o (Keeps.refl _ _)⟩
 case round=>
  clear HR
  obtain⟨n,x,hn,rfl,rfl,rfl,hx0,hx1,HX,HDF,HR,HK⟩:=hrel
  have HD1:=c3o (HD.out.keeps HK.out (fun y hy=>c3p.1 hy))
  obtain⟨sA,sc,hdb,hri,hgt,hat⟩:=HD1.out
  obtain⟨q1,q2⟩:=hdb.syms
  rw[<-HLn.out] at q2
  have HDB:=c3o hdb
  have HRI:=c3o hri
  have HAT:=c3o hat
  clear hdb hri hat q1
  by_cases hlt:n<L
  ·have e0:decide (n<L)=true:=by simpa using hlt
   by_cases hend:p+n+1<=8*bs.length
   ·have HEND:=c3o hend
    clear hend
    go_wp2_with fail
    refine (b3z _ _ _ _ _ _ HR.out HEND.out).mono ?_
    rintro _ w2 ⟨rfl,hr2,hk2⟩
    have HR2:Hid (Rdr w2 gr A c bs (p+(n+1))):=c3o (by rw[<-Nat.add_assoc];exact hr2)
    have HK2:=c3o (HK.out.trans hk2)
    have HD2:=c3o (HD.out.keeps HK2.out (fun y hy=>c3p.1 hy))
    clear hr2 hk2 HK HR HD1 HDB HRI HAT q2
    obtain⟨sA,sc,hdb,hri,hgt,hat⟩:=HD2.out
    obtain⟨q1,q2⟩:=hdb.syms
    have q3:=hdb.code (j:=n+1) (by omega)
    have q4:=hdb.count (j:=n+1) (by omega)
    have q5:=hdb.at (j:=n+1) (by omega)
    rw[c2l l (n+1) (by omega) (by omega)] at q5
    rw[show nth (lowL (lenCnt l) 16) (n+1)=lowF (lenCnt l) (n+1) by unfold lowL;rw[a1z _ _ _ (by omega),if_pos (by omega)]] at q3
    rw[<-HLn.out] at q2
    have HRI:=c3o hri
    clear hdb hri hat
    have hgo:Hid (decF l bs p=if 0<=2*x+bitAt bs (p+n)-lowF (lenCnt l) (n+1)/\2*x+bitAt bs (p+n)-lowF (lenCnt l) (n+1)<nth (lenCnt l) (n+1) then
      (nth (symsB l 16) ((symsB l (n+1)).length+(2*x+bitAt bs (p+n)-lowF (lenCnt l) (n+1)).toNat),0,n+1)
     else decGo l bs p (L-(n+1)) (n+1) (2*x+bitAt bs (p+n))):=by
     show _=_
     rw[HDF.out,show L-n=(L-(n+1))+1 by omega,decGo,if_pos HEND.out]
    have hsa:Hid (∀ k:Nat,(k:Int)<nth (lenCnt l) (n+1)->(symsB l (n+1)).length+k<(symsB l 16).length):=c3o (fun k hk=>(a6w l (n+1) (by omega) (by omega) k hk).1)
    obtain⟨b0,b1⟩:=a2E bs (p+n)
    obtain⟨l0,l1⟩:=a1N l HL.out (n+1) (by omega)
    obtain⟨c0,c1⟩:=a1F l (n+1) (by omega)
    have c2:nth (lenCnt l) (n+1)<=288:=by have:=HL.out;omega
    have hy1:Hid (2*x+bitAt bs (p+n)<2^(n+1)):=by show _<_;have:=HX.out;rw[Int.pow_succ];omega
    have hp:(2:Int)^(n+1)<=32768:=by
     have:(2:Nat)^(n+1)<=2^15:=Nat.pow_le_pow_right (by decide) (by omega)
     exact_mod_cast this
    have hy2:2*x+bitAt bs (p+n)<32768:=by have:=hy1.out;omega
    clear hp c1 HDF
    generalize bitAt bs (p+n)=b at *
    generalize lowF (lenCnt l) (n+1)=lo at *
    generalize nth (lenCnt l) (n+1)=ct at *
    have e4:Go.bits .or .i64 (x*2) b=2*x+b:=b9N x b hx0 (by omega) ⟨b0,b1⟩
    by_cases hk0:0<=2*x+b-lo
    ·obtain⟨K,hK⟩:∃ K:Nat,2*x+b-lo=K:=⟨(2*x+b-lo).toNat,by omega⟩
     by_cases hk1:(K:Int)<ct
     ·have HRES:Hid (decF l bs p=(nth (symsB l 16) ((symsB l (n+1)).length+K),0,n+1)):=by
       show _=_
       rw[hgo.out,hK,if_pos ⟨by omega,hk1⟩,Int.toNat_natCast]
      have hin:=hsa.out K hk1
      obtain⟨sb,so,rfl,hcell⟩:=HRI.out.at hin
      have HIN:=c3o hin
      have d2:decide ((K:Int)<ct)=true:=by simpa using hk1
      have hS16:(symsB l 16).length<=4608:=Nat.le_trans (a5j l 16) (by have:=HL.out;omega)
      generalize hS:(symsB l (n+1)).length=S at *
      generalize hSS:(symsB l 16).length=SS at *
      have s1:((S:Int)+(K:Int)).toNat=S+K:=by omega
      have s2:(0:Int)<=(S:Int)+(K:Int):=by omega
      have s3:(S:Int)+(K:Int)<(SS:Int):=by omega
      clear hS hSS hin
      have s7:IntKind.i64.wrap ((S:Int)+(K:Int))=(S:Int)+(K:Int):=c3t _ (by omega)
      have s4:(0:Int)<=(n:Int)+1:=by omega
      have s5:(n:Int)+1<16:=by omega
      have s6:((n:Int)+1).toNat=n+1:=by omega
      go_wp2_with fail
      go_quiet (fail)
      go_wp2_with fail
      go_ret2
      exact b7s HRES.out (HR2.out.dr ((Keeps.refl [] w2).drewN _)) (HK2.out.drewN _)
     ·have HRES:Hid (decF l bs p=decGo l bs p (L-(n+1)) (n+1) (2*x+b)):=by
       show _=_
       rw[hgo.out,hK,if_neg (fun h=>hk1 h.2)]
      have d2:decide ((K:Int)<ct)=false:=by simpa using hk1
      clear hgo hsa
      go_wp2_with fail
      go_roundw
      case rel=>exact⟨n+1,2*x+b,by omega,rfl,by go_num,rfl,by omega,hy2,hy1,HRES,HR2,HK2⟩
      case measure=>simp[intOf];omega
    ·have HRES:Hid (decF l bs p=decGo l bs p (L-(n+1)) (n+1) (2*x+b)):=by
      show _=_
      rw[hgo.out,if_neg (fun h=>hk0 h.1)]
     have d2:decide (0<=2*x+b-lo)=false:=by simpa using hk0
     clear hgo hsa
     go_wp2_with fail
     go_roundw
     case rel=>exact⟨n+1,2*x+b,by omega,rfl,by go_num,rfl,by omega,hy2,hy1,HRES,HR2,HK2⟩
     case measure=>simp[intOf];omega
   ·have HEND:=c3o hend
    clear hend
    have HRES:Hid (decF l bs p=(0,10,0)):=by
     show _=_
     rw[HDF.out,show L-n=(L-n-1)+1 by omega,decGo,if_neg HEND.out]
    go_wp2_with fail
    refine (b8h _ _ _ _ _ _ HR.out (by have:=HEND.out;omega)).mono ?_
    rintro _ w2 ⟨rfl,hd2⟩
    have HR2:=c3o (HR.out.dr (hd2.keeps (S:=[])))
    have HK2:=c3o (HK.out.trans (hd2.keeps (S:=[gr])))
    clear hd2
    go_wp2_with fail
    refine (a5t _ _ _ _ _ _ n HR2.out (by omega)).mono ?_
    rintro _ w3 ⟨rfl,hr3,hk3⟩
    have HR3:=c3o hr3
    have HK3:=c3o (HK2.out.trans hk3)
    clear hr3 hk3
    go_wp2_with fail
    go_ret2
    exact b7s HRES.out (by have:=HR3.out;rwa [Nat.add_sub_cancel] at this) HK3.out
  ·obtain rfl:n=L:=by omega
   have HRES:Hid (decF l bs p=(0,32,0)):=by show _=_;rw[HDF.out,Nat.sub_self];rfl
   go_wp2_with fail
   refine (a5t _ _ _ _ _ _ n HR.out (by omega)).mono ?_
   rintro _ w3 ⟨rfl,hr3,hk3⟩
   have HR3:=c3o hr3
   have HK3:=c3o (HK.out.trans hk3)
   clear hr3 hk3
   go_wp2_with fail
   go_ret2
   exact b7s HRES.out (by have:=HR3.out;rwa [Nat.add_sub_cancel] at this) HK3.out
end Go.Proofs.YtghjlpechjggjaaGreatDoor
namespace Go.Proofs.YtghjlpechjggjaaGreatDoor
open Go.RowKit
end Go.Proofs.YtghjlpechjggjaaGreatDoor
namespace Go.Proofs.YtghjlpechjggjaaGreatDoor
open Go.RowKit
theorem b8K {ops:Array Oper} {rest:List Oper} {o:Oper} {a:Act} {Q:Exit->Act->World->Prop} {w:World} (hgd:o.guard=none) (s x:Operand)
  (ho:o.op=.call { callee:=.builtin .append,args:=#[s,x],argTypes:=#[90,90] })
  (base:Nat) (v:Value) (n:Nat) (xs:List Int) (hs:a.eval s=v) (hown:w.ownsRow base 3 1 v n (ints .i64 xs))
  (g m c:Nat) (ys:List Int) (hx:a.eval x=.slice (some ⟨g,0,none⟩) m c) (hy:RI .i64 w (some ⟨g,0,none⟩) m ys)
  (hn:n+m<=1000000) (hbase:base<=w.heap.size)
  (h:∀ v' w',w'.ownsRow base 3 1 v' (n+m) (ints .i64 (xs++ys))->w.grownBy w' v.ownBlock->wpList Tryz.prog ops Q rest (a.put o.dst v') w'):wpList Tryz.prog ops Q (o::rest) a w:=by
 obtain⟨i0,hi,hz0,hz1,hz2⟩:=info_parts a1y
 refine wpList_append_own _ hgd s x 90 ho base 3 i0 (.int .i64 0) 1 8 c3w hi hz0 hz1 hz2 rfl (by decide) v n (ints .i64 xs) hs hown ⟨g,0,none⟩ m c (ints .i64 ys) hx (by simp[ints,hy.len]) ?_ (a9s _ _) (by unfold maxLen;omega) (by omega) hbase ?_
 ·intro j u hu
  have hj:j<m:=by have:=(c3z.1 hu).1;have:=hy.len;simp[ints] at *;omega
  rw[a0R]
  have hc:=hy.cell g 0 rfl j hj
  rw[c3H] at hc
  rw[hc,<-hu,a0f]
  simp[nth,List.getD,show j<ys.length by have:=hy.len;omega]
 ·intro v' w' h2 h3 _
  have e:ints .i64 (xs++ys)=ints .i64 xs++ints .i64 ys:=by simp[ints]
  rw[e] at h
  exact h v' w' h2 h3
def b4O(w:World)(base:Nat)(r:Option (List Int))(e:Ending)(w':World):Prop:=
 match r with
 | some l=>∃ v,e=.returned (.tuple #[v,.bool true])/\w'.ownsRow base 3 1 v l.length (ints .i64 l)/\Below base w w'
 | none=>e=.returned (.tuple #[.slice none 0 0,.bool false])/\Below base w w'
theorem c1a(w:World)(base len c:Nat)(A:Option Addr)(l:List Int)(sym extra n:Int)(hb:base<=w.heap.size)(hs:sym<0∨18<sym) :
  Calls Tryz.prog 184 #[.slice A len c,.agg #[.int .i64 sym,.int .i64 extra],.int .i64 n] w (b4O w base (addF l sym extra n)):=by
 have hr:addF l sym extra n=none:=a2f (by rcases hs with h|h;exact a2t (by omega) (Or.inl h);exact c0b h)
 rw[hr]
 clear hr
 rcases hs with h|h
 ·have e1:decide (sym<0)=true:=by simpa using h
  go_enter c3B,c3x
  go_wp2_with fail
  go_quiet (fail)
  go_wp2_with fail
  go_ret2
  exact⟨rfl,(((Keeps.refl [] w).alloc _).drewN _).below.mono hb⟩
 ·have e1:decide (sym<0)=false:=by simp;omega
  have e2:decide (19<=sym)=true:=by simp;omega
  go_enter c3B,c3x
  go_wp2_with fail
  go_quiet (fail)
  go_wp2_with fail
  go_ret2
  exact⟨rfl,(((Keeps.refl [] w).alloc _).drewN _).below.mono hb⟩
theorem c1b(w:World)(base len c:Nat)(A:Option Addr)(l:List Int)(sym extra n:Int)(hb:base<=w.heap.size)(h0:0<=sym)(h18:sym<=18)(hs:extra<0) :
  Calls Tryz.prog 184 #[.slice A len c,.agg #[.int .i64 sym,.int .i64 extra],.int .i64 n] w (b4O w base (addF l sym extra n)):=by
 have hr:addF l sym extra n=none:=a2f (by
  rcases (by omega:sym<=15∨sym=16∨sym=17∨sym=18) with h|rfl|rfl|rfl
  ·exact a2t (by omega) (Or.inr (by omega))
  ·exact a2L (Or.inl hs)
  ·exact a6b (Or.inl hs)
  ·exact a6c (Or.inl hs))
 rw[hr]
 clear hr
 have e1:decide (sym<0)=false:=by simp;omega
 have e2:decide (19<=sym)=false:=by simp;omega
 have e3:decide (extra<0)=true:=by simpa using hs
 go_enter c3B,c3x
 go_wp2_with fail
 go_quiet (fail)
 go_wp2_with fail
 go_ret2
 exact⟨rfl,(((Keeps.refl [] w).alloc _).drewN _).below.mono hb⟩
theorem c2S(s:Nat)(h:s<=15):nth a5Q s=0:=by
 rcases (by omega:s=0∨s=1∨s=2∨s=3∨s=4∨s=5∨s=6∨s=7∨s=8∨s=9∨s=10∨s=11∨s=12∨s=13∨s=14∨s=15) with rfl|rfl|rfl|rfl|rfl|rfl|rfl|rfl|rfl|rfl|rfl|rfl|rfl|rfl|rfl|rfl<;>rfl
theorem b8H (w:World) (base len c:Nat) (A:Option Addr) (l:List Int) (s:Nat) (extra n:Int) (hb:base<=w.heap.size) (ht:Tabs w) (h0:0<=extra)
  (hs:s<=15/\1<=extra∨s=16/\4<=extra∨s=17/\8<=extra∨s=18/\128<=extra) :
  Calls Tryz.prog 184 #[.slice A len c,.agg #[.int .i64 s,.int .i64 extra],.int .i64 n] w (b4O w base (addF l s extra n)):=by
 have e1:decide ((s:Int)<0)=false:=by simp
 have e2:decide (19<=(s:Int))=false:=by simp;omega
 have e3:decide (extra<0)=false:=by simp;omega
 have hl:(s:Int)<19:=by omega
 have hc:=ht.wid.cell _ _ rfl s (by omega)
 rw[c3H] at hc
 clear ht
 rcases hs with⟨h,hs⟩|⟨rfl,hs⟩|⟨rfl,hs⟩|⟨rfl,hs⟩
 ·have hr:addF l s extra n=none:=a2f (a2t (by omega) (Or.inr (by omega)))
  rw[hr]
  clear hr
  rw[c2S s h] at hc
  have hc':=fun o=>((Keeps.refl [] w).alloc o).cell (by simp) hc
  clear hc
  have e4:decide (1<=extra)=true:=by simpa using hs
  go_enter c3B,c3x
  go_wp2_with fail
  go_quiet (fail)
  go_wp2_with fail
  go_ret2
  exact⟨rfl,(((Keeps.refl [] w).alloc _).drewN _).below.mono hb⟩
 ·have hr:addF l ((16:Nat):Int) extra n=none:=a2f (a2L (Or.inr (Or.inl (by omega))))
  rw[hr]
  clear hr
  rw[show nth a5Q 16=2 from rfl] at hc
  have hc':=fun o=>((Keeps.refl [] w).alloc o).cell (by simp) hc
  clear hc
  have e4:decide (4<=extra)=true:=by simpa using hs
  go_enter c3B,c3x
  go_wp2_with fail
  go_quiet (fail)
  go_wp2_with fail
  go_ret2
  exact⟨rfl,(((Keeps.refl [] w).alloc _).drewN _).below.mono hb⟩
 ·have hr:addF l ((17:Nat):Int) extra n=none:=a2f (a6b (Or.inr (by omega)))
  rw[hr]
  clear hr
  rw[show nth a5Q 17=3 from rfl] at hc
  have hc':=fun o=>((Keeps.refl [] w).alloc o).cell (by simp) hc
  clear hc
  have e4:decide (8<=extra)=true:=by simpa using hs
  go_enter c3B,c3x
  go_wp2_with fail
  go_quiet (fail)
  go_wp2_with fail
  go_ret2
  exact⟨rfl,(((Keeps.refl [] w).alloc _).drewN _).below.mono hb⟩
 ·have hr:addF l ((18:Nat):Int) extra n=none:=a2f (a6c (Or.inr (by omega)))
  rw[hr]
  clear hr
  rw[show nth a5Q 18=7 from rfl] at hc
  have hc':=fun o=>((Keeps.refl [] w).alloc o).cell (by simp) hc
  clear hc
  have e4:decide (128<=extra)=true:=by simpa using hs
  go_enter c3B,c3x
  go_wp2_with fail
  go_quiet (fail)
  go_wp2_with fail
  go_ret2
  exact⟨rfl,(((Keeps.refl [] w).alloc _).drewN _).below.mono hb⟩
theorem b6h(w:World)(base c:Nat)(A:Option Addr)(extra n:Int)(hb:base<=w.heap.size)(ht:Tabs w)(h0:0<=extra)(h3:extra<=3) :
  Calls Tryz.prog 184 #[.slice A 0 c,.agg #[.int .i64 16,.int .i64 extra],.int .i64 n] w (b4O w base (addF [] 16 extra n)):=by
 have hr:addF [] 16 extra n=none:=a2f (a2L (Or.inr (Or.inr rfl)))
 rw[hr]
 clear hr
 have e3:decide (extra<0)=false:=by simp;omega
 have e4:decide (4<=extra)=false:=by simp;omega
 have hc:=ht.wid.cell _ _ rfl 16 (by omega)
 rw[c3H,show nth a5Q 16=2 from rfl] at hc
 have hd:=ht.fro.cell _ _ rfl 16 (by omega)
 rw[c3H,show nth a9n 16=3 from rfl] at hd
 have hc':=fun o=>((Keeps.refl [] w).alloc o).cell (by simp) hc
 have hd':=fun o=>((Keeps.refl [] w).alloc o).cell (by simp) hd
 have e2:IntKind.i64.wrap (3+extra)=3+extra:=c3t _ (by omega)
 clear hc hd ht
 go_enter c3B,c3x
 go_wp2_with fail
 go_quiet (fail)
 go_wp2_with fail
 go_quiet (fail)
 go_wp2_with fail
 go_ret2
 exact⟨rfl,(((Keeps.refl [] w).alloc _).drewN _).below.mono hb⟩
end Go.Proofs.YtghjlpechjggjaaGreatDoor
namespace Go.Proofs.YtghjlpechjggjaaGreatDoor
open Go.RowKit
theorem c1g {ops:Array Oper} {rest:List Oper} {o:Oper} {a:Act} {Q:Exit->Act->World->Prop} {w:World} (hgd:o.guard=none) (s x:Operand)
  (ho:o.op=.call { callee:=.builtin .append,args:=#[s,x],argTypes:=#[90,90] })
  (base:Nat) (v:Value) (n:Nat) (xs:List Int) (hs:a.eval s=v) (hown:w.ownsRow base 3 1 v n (ints .i64 xs))
  (A:Option Addr) (m c:Nat) (ys:List Int) (hx:a.eval x=.slice A m c) (hy:RI .i64 w A m ys) (hnil:A=none->m=0/\c=0) (hpl:∀ ad,A=some ad->∃ b o,ad=⟨b,o,none⟩)
  (hn:n+m<=1000000) (hbase:base<=w.heap.size)
  (h:∀ v' w',w'.ownsRow base 3 1 v' (n+m) (ints .i64 (xs++ys))->w.grownBy w' v.ownBlock->wpList Tryz.prog ops Q rest (a.put o.dst v') w'):wpList Tryz.prog ops Q (o::rest) a w:=by
 obtain⟨i0,hi,hz0,hz1,hz2⟩:=info_parts a1y
 cases A with
 | none=>
  obtain⟨rfl,rfl⟩:=hnil rfl
  obtain rfl:ys=[]:=c3D hy.len
  refine wpList_append_own_none hgd s x 90 ho base 3 i0 1 c3w hi v n (ints .i64 xs) hs hown hx ?_
  exact h v w (by simpa using hown) ⟨rfl,rfl,rfl,c3F _,fun _ _ _=>rfl⟩
 | some ad=>
  obtain⟨b,of,rfl⟩:=hpl ad rfl
  refine wpList_append_own _ hgd s x 90 ho base 3 i0 (.int .i64 0) 1 8 c3w hi hz0 hz1 hz2 rfl (by decide) v n (ints .i64 xs) hs hown ⟨b,of,none⟩ m c (ints .i64 ys) hx (by simp[ints,hy.len]) ?_ (a9s _ _) (by unfold maxLen;omega) (by omega) hbase ?_
  ·intro j u hu
   have hj:j<m:=by have:=(c3z.1 hu).1;have:=hy.len;simp[ints] at *;omega
   rw[a0w]
   have hc:=hy.cell b of rfl j hj
   rw[hc,<-hu,a0f]
   simp[nth,List.getD,show j<ys.length by have:=hy.len;omega]
  ·intro v' w' h2 h3 _
   have e:ints .i64 (xs++ys)=ints .i64 xs++ints .i64 ys:=by simp[ints]
   rw[e] at h
   exact h v' w' h2 h3
end Go.Proofs.YtghjlpechjggjaaGreatDoor
namespace Go.Proofs.YtghjlpechjggjaaGreatDoor
open Go.RowKit
def sLen:Value->Nat
 | .slice _ n _=>n
 | _=>0
theorem a5S(w:World)(A:Option Addr)(n c:Nat)(xs:List Int)(hx:RI .i64 w A n xs)(hnil:A=none->n=0/\c=0)(hpl:∀ ad,A=some ad->∃ b o,ad=⟨b,o,none⟩)(hn:n<=100000) :
  Calls Tryz.prog 185 #[.slice A n c] w fun e w'=>∃ v,e=.returned v/\w'.ownsRow w.heap.size 3 1 v n (ints .i64 xs)/\Below w.heap.size w w':=by
 have HX:=c3o hx
 have HP:=c3o hpl
 clear hx hpl
 go_enter Tryz.func185,Tryz.ntmps185
 cases A with
 | none=>
  obtain⟨rfl,rfl⟩:=hnil rfl
  obtain rfl:xs=[]:=c3D HX.out.len
  have hq:=fun w=>Lib.run_eql_slice_nil (P:=Tryz.prog) w 90 3 none 0 0 0 0 c3w
  go_wp2_with fail
  go_ret
  exact⟨_,rfl,c3G _ _ _ _,c3M _ _⟩
 | some ad=>
  obtain⟨b,o,rfl⟩:=HP.out ad rfl
  have hq:=fun w=>Lib.run_eql_slice_nil (P:=Tryz.prog) w 90 3 (some ⟨b,o,none⟩) n c 0 0 c3w
  have HO:Hid ((w.alloc (.cells #[] 3)).ownsRow w.heap.size 3 1 (.slice (some ⟨w.heap.size,0,none⟩) 0 0) 0 (ints .i64 [])):=c3o (World.ownsRow_lit w #[] 0 (c3F _) (by decide) rfl)
  have HR:=c3o (HX.out.keeps ((Keeps.refl [] w).alloc (.cells #[] 3)) (a0a _))
  go_wp2_with (at_builtin;refine c1g rfl (.tmp 5) (.tmp 6) rfl w.heap.size _ _ [] rfl (by exact HO.out) (some ⟨b,o,none⟩) n c xs rfl (by exact HR.out) (by simp) (by intro ad h;exact⟨_,_,(c3A h).symm⟩) (by omega) (by simp) ?_)
  intro v1 w1 ho1 hg1
  have HB1:=c3o ((((c3M w.heap.size w).alloc (c3F _) (.cells #[] 3))).grown hg1 (by simp) (fun k hk=>(HO.out.lt k hk).1))
  have HO1:=c3o ho1
  clear ho1 hg1
  go_wp2_with fail
  go_ret
  exact⟨_,rfl,by simpa using HO1.out,HB1.out⟩
end Go.Proofs.YtghjlpechjggjaaGreatDoor
namespace Go.Proofs.YtghjlpechjggjaaGreatDoor
open Go.RowKit
theorem c2J{w:World}{g t m:Nat}{v:Int}(h:Blk w g t (ints .i64 (List.replicate m v))):RI .i64 w (some ⟨g,0,none⟩) m (List.replicate m v):=by
 have:=Blk.ri (ys:=[]) (xs:=List.replicate m v) (by simpa using h)
 simpa using this
theorem b8G(w:World)(base len:Nat)(u:Value)(l:List Int)(s:Nat)(extra n v:Int)(k:Nat)(hb:base<=w.heap.size)(ht:Tabs w)(hu:w.ownsRow base 3 1 u len (ints .i64 l))(hlen:len<=1000)(hsay:sayF l s extra=some (v,k)) :
  Calls Tryz.prog 184 #[u,.agg #[.int .i64 s,.int .i64 extra],.int .i64 n] w (b4O w base (addF l s extra n)):=by
 obtain⟨A,c,rfl,hri,hcap,hblk⟩:=a0y hu
 have hll:l.length=len:=hri.len
 have hkp:=a9R hsay
 have HS:=c3o hsay
 have HU:=c3o hu
 clear hu
 have HC:Hid (s<=15/\extra=0/\v=s/\k=1∨s=16/\0<=extra/\extra<=3/\1<=len/\v=nth l (len-1)/\(k:Int)=3+extra∨s=17/\0<=extra/\extra<=7/\v=0/\(k:Int)=3+extra∨s=18/\0<=extra/\extra<=127/\v=0/\(k:Int)=11+extra):=by
  simp only[sayF] at hsay
  split at hsay
  ·rename_i h;simp at hsay;exact Or.inl ⟨by omega,h.2.2,hsay.1.symm,hsay.2.symm⟩
  ·split at hsay
   ·rename_i h;simp at hsay
    have:1<=l.length:=by
     rcases Nat.eq_zero_or_pos l.length with h'|h'
     ·exact absurd (c3D h') h.2.2.2
     ·exact h'
    exact Or.inr (Or.inl ⟨by omega,h.2.1,h.2.2.1,by omega,by rw[<-hll];simpa [nth] using hsay.1.symm,by omega⟩)
   ·split at hsay
    ·rename_i h;simp at hsay;exact Or.inr (Or.inr (Or.inl ⟨by omega,h.2.1,h.2.2,hsay.1.symm,by omega⟩))
    ·split at hsay
     ·rename_i h;simp at hsay;exact Or.inr (Or.inr (Or.inr ⟨by omega,h.2.1,h.2.2,hsay.1.symm,by omega⟩))
     ·simp at hsay
 clear hsay
 have hglob:∀ (j:Nat) (o:Obj),j<19->(w.alloc o).cell? ⟨2,j,none⟩=some (.int .i64 (nth a5Q j))/\(w.alloc o).cell? ⟨4,j,none⟩=some (.int .i64 (nth a9n j)):=fun j o hj=>by
  have h1:=ht.wid.cell _ _ rfl j hj
  have h2:=ht.fro.cell _ _ rfl j hj
  rw[c3H] at h1 h2
  exact⟨((Keeps.refl [] w).alloc o).cell (by simp) h1,((Keeps.refl [] w).alloc o).cell (by simp) h2⟩
 have HR:=c3o hri
 clear ht hri hll
 have e1:decide ((s:Int)<0)=false:=by simp
 rcases HC.out with⟨hs,rfl,hv,hk0⟩|⟨rfl,hx0,hx3,hl1,hv,hk⟩|⟨rfl,hx0,hx3,hv,hk⟩|⟨rfl,hx0,hx3,hv,hk⟩
 case' inl=>
  have hk1:(k:Int)<=1:=by omega
  have hk2:1<=(k:Int):=by omega
  have HV:=c3o hv
  clear hv hk0
  have e2:decide (19<=(s:Int))=false:=by simp;omega
  have hl:(s:Int)<19:=by omega
  have hc:=fun o=>(hglob s o (by omega)).1
  rw[c2S s hs] at hc
  have e5:decide (15<(s:Int))=false:=by simp;omega
  have e6:((s:Int)==16)=false:=by simp;omega
  clear hglob HC
  go_enter c3B,c3x
  go_wp2_with fail
  go_quiet (fail)
  go_upto_region 10 with (fail)
 case' inr.inl=>
  have hk1:(k:Int)<=3+extra:=by omega
  have hk2:3+extra<=(k:Int):=by omega
  have HV:=c3o hv
  clear hv hk
  have e3:decide (extra<0)=false:=by simp;omega
  have e4:decide (4<=extra)=false:=by simp;omega
  have hc:=fun o=>(hglob 16 o (by omega)).1
  have hd:=fun o=>(hglob 16 o (by omega)).2
  rw[show nth a5Q 16=2 from rfl] at hc
  rw[show nth a9n 16=3 from rfl] at hd
  have e2:IntKind.i64.wrap (3+extra)=3+extra:=c3t _ (by omega)
  obtain⟨b,o,rfl,hlast⟩:=HR.out.at (show len-1<len by omega)
  have hlast':=fun ob=>((Keeps.refl [] w).alloc ob).cell (by simp) hlast
  have e7:((len:Int)==0)=false:=by simp;omega
  have e8:((len:Int)-1).toNat=len-1:=by omega
  clear hglob HC hlast
  go_enter c3B,c3x
  go_wp2_with fail
  go_quiet (fail)
  go_wp2_with fail
  go_quiet (fail)
  go_upto_region 10 with (fail)
 case' inr.inr.inl=>
  have hk1:(k:Int)<=3+extra:=by omega
  have hk2:3+extra<=(k:Int):=by omega
  have HV:=c3o hv
  clear hv hk
  have e3:decide (extra<0)=false:=by simp;omega
  have e4:decide (8<=extra)=false:=by simp;omega
  have hc:=fun o=>(hglob 17 o (by omega)).1
  have hd:=fun o=>(hglob 17 o (by omega)).2
  rw[show nth a5Q 17=3 from rfl] at hc
  rw[show nth a9n 17=3 from rfl] at hd
  have e2:IntKind.i64.wrap (3+extra)=3+extra:=c3t _ (by omega)
  clear hglob HC
  go_enter c3B,c3x
  go_wp2_with fail
  go_quiet (fail)
  go_wp2_with fail
  go_quiet (fail)
  go_upto_region 10 with (fail)
 case' inr.inr.inr=>
  have hk1:(k:Int)<=11+extra:=by omega
  have hk2:11+extra<=(k:Int):=by omega
  have HV:=c3o hv
  clear hv hk
  have e3:decide (extra<0)=false:=by simp;omega
  have e4:decide (128<=extra)=false:=by simp;omega
  have hc:=fun o=>(hglob 18 o (by omega)).1
  have hd:=fun o=>(hglob 18 o (by omega)).2
  rw[show nth a5Q 18=7 from rfl] at hc
  rw[show nth a9n 18=11 from rfl] at hd
  have e2:IntKind.i64.wrap (11+extra)=11+extra:=c3t _ (by omega)
  clear hglob HC
  go_enter c3B,c3x
  go_wp2_with fail
  go_quiet (fail)
  go_wp2_with fail
  go_quiet (fail)
  go_upto_region 10 with (fail)
 all_goals
  by_cases hn:n<(len:Int)+(k:Int)
  ·go_wp2_with fail
   go_ret2
   rw[a3q HS.out (by have:=HR.out.len;omega)]
   exact⟨rfl,Keeps.below (by repeat (first|exact Keeps.refl _ _|apply Keeps.drewN|apply Keeps.alloc)) |>.mono hb⟩
  ·go_wp2_with fail
   refine (a1g _ _ _ k _ v (by omega) (by rw[HV.out];go_simp) (by omega) (by omega)).mono ?_
   rintro e w6 ⟨g,rfl,hB,hg,hb6⟩
   have hK:Keeps [] w w6:=Keeps.trans (by repeat (first|exact Keeps.refl _ _|apply Keeps.drewN|apply Keeps.alloc)) (Keeps.of_below hb6)
   have hO:=a0b HU.out hK (by simp)
   have hRI:=c2J hB
   have hsz:base<=w6.heap.size:=Nat.le_trans hb hK.size
   have HO:=c3o hO
   have HRI:=c3o hRI
   have HK:=c3o hK
   clear hB hb6 hO hRI hK hg
   go_wp2_with (at_builtin;refine b8K rfl (.tmp 63) (.tmp 67) rfl base _ _ _ rfl HO.out g k k (List.replicate k v) rfl HRI.out (by omega) hsz ?_)
   intro v' w7 h7 hg7
   have H7:=c3o h7
   have HG:=c3o hg7
   clear h7 hg7
   go_wp2_with fail
   go_ret2
   rw[a2O HS.out (by have:=HR.out.len;omega)]
   refine⟨v',rfl,?_,?_⟩
   ·rw[show (l++List.replicate k v).length=len+k by have:=HR.out.len;simp;omega];exact H7.out
   ·exact ((HK.out.below.mono hb).grown HG.out hsz (fun k hk=>(HU.out.lt k hk).1))
end Go.Proofs.YtghjlpechjggjaaGreatDoor
namespace Go.Proofs.YtghjlpechjggjaaGreatDoor
open Go.RowKit
theorem b6g(w:World)(base len:Nat)(u:Value)(l:List Int)(sym extra n:Int)(hb:base<=w.heap.size)(ht:Tabs w)(hu:w.ownsRow base 3 1 u len (ints .i64 l))(hlen:len<=1000) :
  Calls Tryz.prog 184 #[u,.agg #[.int .i64 sym,.int .i64 extra],.int .i64 n] w (b4O w base (addF l sym extra n)):=by
 cases hsay:sayF l sym extra with
 | some p=>
  obtain⟨v,k⟩:=p
  have h0:0<=sym:=by
   rcases Int.lt_or_le sym 0 with h|h
   ·rw[a2t (by omega) (Or.inl h)] at hsay;cases hsay
   ·exact h
  obtain⟨s,rfl⟩:=c3J h0
  exact b8G w base len u l s extra n v k hb ht hu hlen hsay
 | none=>
  obtain⟨A,c,rfl,hri,hcap,hblk⟩:=a0y hu
  by_cases hs:sym<0∨18<sym
  ·exact c1a w base len c A l sym extra n hb hs
  ·by_cases hx:extra<0
   ·exact c1b w base len c A l sym extra n hb (by omega) (by omega) hx
   ·obtain⟨s,rfl⟩:=c3J (show 0<=sym by omega)
    by_cases ho:s<=15/\1<=extra∨s=16/\4<=extra∨s=17/\8<=extra∨s=18/\128<=extra
    ·exact b8H w base len c A l s extra n hb ht (by omega) ho
    ·rcases (by omega:s<=15∨s=16∨s=17∨s=18) with h|rfl|rfl|rfl
     ·obtain rfl:extra=0:=by omega
      rw[a6u (by omega) (by omega)] at hsay;cases hsay
     ·have hl:l=[]:=by
       rcases Classical.em (l=[]) with h|h
       ·exact h
       ·rw[show ((16:Nat):Int)=16 from rfl,b3n (by omega) (by omega) h] at hsay;cases hsay
      subst hl
      obtain rfl:len=0:=by have:=hri.len;simpa using this.symm
      exact b6h w base c A extra n hb ht (by omega) (by omega)
     ·rw[show ((17:Nat):Int)=17 from rfl,b3o (by omega) (by omega)] at hsay;cases hsay
     ·rw[show ((18:Nat):Int)=18 from rfl,b3p (by omega) (by omega)] at hsay;cases hsay
end Go.Proofs.YtghjlpechjggjaaGreatDoor
namespace Go.Proofs.YtghjlpechjggjaaGreatDoor
open Go.RowKit
theorem Keeps.under{S:List Nat}{w w1 w2:World}{B:Nat}(h:Keeps S w w1)(hb:Below B w1 w2)(hB:w.heap.size<=B):Keeps S w w2:=
 ⟨hb.os.trans h.os,hb.tape.trans h.tape,hb.output.trans h.output,Nat.le_trans h.size hb.size,fun k hk hs=>(hb.block k (by omega)).trans (h.block k hk hs)⟩
theorem b4n{w:World}{base:Nat}{e:TypeId}{v:Value}{n:Nat}{k:IntKind}{xs:List Int}(h:w.ownsRow base e 1 v n (ints k xs)) :
  ∃ A c,v=.slice A n c/\RI k w A n xs/\n<=c/\(A=none->n=0/\c=0)/\(∀ ad,A=some ad->∃ b o,ad=⟨b,o,none⟩)/\(∀ a,A=some a->base<=a.block/\a.block<w.heap.size):=by
 obtain⟨A,c,rfl,h1,h2,h3⟩:=a0y h
 refine⟨A,c,rfl,h1,h2,?_,?_,fun a ha=>⟨(h3 a ha).1,(h3 a ha).2.1⟩⟩
 ·rintro rfl
  rcases h.2 with⟨h4,h5⟩|⟨g,cap,cur,h4,_⟩
  ·injection h4 with _ _ h6
   exact⟨h5,h6⟩
  ·injection h4 with h6;cases h6
 ·rintro ad rfl
  rcases h.2 with⟨h4,h5⟩|⟨g,cap,cur,h4,_⟩
  ·injection h4 with h6;cases h6
  ·injection h4 with h6;injection h6 with h7;exact⟨g,0,h7⟩
end Go.Proofs.YtghjlpechjggjaaGreatDoor
namespace Go.Proofs.YtghjlpechjggjaaGreatDoor
open Go.RowKit
end Go.Proofs.YtghjlpechjggjaaGreatDoor
namespace Go.Proofs.YtghjlpechjggjaaGreatDoor
open Go.RowKit
def c3b(w:World)(rb eb g:Nat)(A:Option Addr)(c q n:Nat)(e:Int)(bs:List Int)(r:Ending)(w':World):Prop:=
 ∃ (v:Int) (q':Nat) (e':Int),r=.returned (.int .i64 v)/\Hd w' rb eb g A c bs q' e'/\Keeps [g,eb] w w'/\0<=v/\v<256/\q<=q' /\
  ((e=0/\q+n<=8*bs.length/\e'=0/\v=numB bs q n/\q'=q+n)∨((e≠0∨8*bs.length<q+n)/\e'=10))
theorem a5e(w:World)(rb eb g:Nat)(A:Option Addr)(c q n:Nat)(e:Int)(bs:List Int)(h:Hd w rb eb g A c bs q e)(he:e=0∨e=10)(hn:n<=8) :
  Calls Tryz.prog 183 #[.int .i64 n,.pointer (some ⟨rb,0,none⟩),.pointer (some ⟨eb,0,none⟩)] w (c3b w rb eb g A c q n e bs):=by
 obtain⟨n0,n1⟩:=a0F bs q n
 have n2:=a2M n hn
 by_cases hf:q+n<=8*bs.length
 ·refine (b9Y w rb eb g A c bs q n e h (by omega) hf).mono ?_
  rintro r w' ⟨rfl,h1,h2⟩
  refine⟨_,_,_,rfl,h1,h2,n0,by omega,by omega,?_⟩
  rcases he with rfl|rfl
  ·exact .inl ⟨rfl,hf,rfl,rfl,rfl⟩
  ·exact .inr ⟨.inl (by decide),rfl⟩
 ·refine (b7M w rb eb g A c bs q n e h (by omega) (by omega)).mono ?_
  rintro r w' ⟨rfl,h1,h2⟩
  refine⟨_,_,_,rfl,h1,h2,by omega,by omega,c3F _,.inr ⟨.inr (by omega),?_⟩⟩
  rcases he with rfl|rfl<;>rfl
theorem Rdr.below{w w':World}{B g:Nat}{A:Option Addr}{c:Nat}{bs:List Int}{p:Nat}(h:Rdr w g A c bs p)(hb:Below B w w')(hg:g<B)(ha:∀ a,A=some a->a.block<B):Rdr w' g A c bs p:=
 ⟨(hb.block g hg).trans h.blk,h.ri.below hb ha,h.off,h.le,h.byte,h.size⟩
theorem b2k {T q q' i p o:Nat} {E E' v:Int} {bs cs:List Int}
  (hcL:cL bs (p+14) (i+1)=(cL bs (p+14) i).set o (numB bs (p+14+3*i) 3))
  (hI:(p+14+3*i<=T/\E=0/\q=p+14+3*i/\cs=cL bs (p+14) i)∨(T<p+14+3*i/\E=10))
  (hc:(E=0/\q+3<=T/\E'=0/\v=numB bs q 3/\q'=q+3)∨((E≠0∨T<q+3)/\E'=10)) :
  (E'=0∨E'=10)/\((p+14+3*(i+1)<=T/\E'=0/\q'=p+14+3*(i+1)/\cs.set o v=cL bs (p+14) (i+1))∨(T<p+14+3*(i+1)/\E'=10)):=by
 refine⟨by omega,?_⟩
 rcases hI with⟨a1,rfl,rfl,rfl⟩|⟨a1,rfl⟩
 ·rcases hc with⟨_,b1,rfl,rfl,rfl⟩|⟨b1,rfl⟩
  ·exact .inl ⟨by omega,rfl,by omega,hcL.symm⟩
  ·exact .inr ⟨by omega,rfl⟩
 ·rcases hc with⟨b0,_⟩|⟨_,rfl⟩
  ·exact absurd b0 (by decide)
  ·exact .inr ⟨by omega,rfl⟩
theorem b9r{g eb:Nat}{w w1 w2:World}(h:Keeps [g] w w1)(hk:Keeps [g,eb] w1 w2)(he:w.heap.size<=eb):Keeps [g] w w2:=h.then hk (fun x hx=>by
 rcases c3N.1 hx with rfl|hx
 ·exact Or.inl (by simp)
 ·rw[c3p.1 hx];exact Or.inr he)
def c2i(w:World)(g:Nat)(A:Option Addr)(c:Nat)(bs:List Int)(p:Nat)(h:List Int×List Int×Nat×Int)(e:Ending)(w':World):Prop:=
 ∃ (v1 v2:Value) (q:Nat),e=.returned (.tuple #[v1,v2,.int .i64 h.2.2.2])/\w'.ownsRow w.heap.size 3 1 v1 h.1.length (ints .i64 h.1)/\w'.ownsRow w.heap.size 3 1 v2 h.2.1.length (ints .i64 h.2.1) /\
  Rdr w' g A c bs q/\p<=q/\(h.2.2.2=0->q=p+h.2.2.1)/\Keeps [g] w w'
theorem a2l{w w':World}{g:Nat}{A:Option Addr}{c:Nat}{bs:List Int}{p q:Nat}{h:List Int×List Int×Nat×Int}{e:Int}(hh:h=([],[],0,e))(he:e≠0)(hr:Rdr w' g A c bs q)(hp:p<=q)(hk:Keeps [g] w w') :
  c2i w g A c bs p h (.returned (.tuple #[.slice none 0 0,.slice none 0 0,.int .i64 e])) w':=by
 subst hh
 exact⟨_,_,q,rfl,c3G _ _ _ _,c3G _ _ _ _,hr,hp,fun h=>absurd h he,hk⟩
theorem b5F(w:World)(g:Nat)(A:Option Addr)(c:Nat)(bs:List Int)(p:Nat)(hT:Tabs w)(hg:gtop<=g)(hr:Rdr w g A c bs p)(ha:∀ a,A=some a->a.block<w.heap.size) :
  Calls Tryz.prog 179 #[.pointer (some ⟨g,0,none⟩)] w (c2i w g A c bs p (headF bs p)):=by
 have hglt:=hr.lt
 have hple:=hr.le
 have hsz:=hr.size
 obtain⟨rb,hrb⟩:∃ x,x=w.heap.size:=⟨_,rfl⟩
 obtain⟨eb,heb⟩:∃ x,x=w.heap.size+1:=⟨_,rfl⟩
 obtain⟨w0,hw0⟩:∃ w0,w0=(w.alloc (.cells #[.pointer (some ⟨g,0,none⟩)] 176)).alloc (.cells #[.int .i64 0] 27):=⟨_,rfl⟩
 have k1:Keeps [] w w0:=by rw[hw0];exact ((Keeps.refl [] w).alloc _).alloc _
 have H0:Hid (Hd w0 rb eb g A c bs p 0):=by
  rw[hrb,heb,hw0]
  exact c3o ⟨by rw[<-hw0];exact hr.dr k1,⟨by simp,by simp⟩,⟨by simp,by simp⟩,by omega,by omega,ha⟩
 have K0:=c3o (k1.mono (by simp):Keeps [g] w w0)
 have HT:=c3o hT
 have HRB:Hid (w.heap.size<=rb):=c3o (by omega)
 have HEB:Hid (w.heap.size<=eb):=c3o (by omega)
 have HA:=c3o ha
 have hre:rb<eb:=by omega
 have hgr:g<rb:=by omega
 clear hr ha hT k1
 go_enter Tryz.func179,Tryz.ntmps179
 go_wp2_with fail
 change Calls _ _ #[.int .i64 5,.pointer (some ⟨w.heap.size,0,none⟩),.pointer (some ⟨w.heap.size+1,0,none⟩)] ((w.alloc (.cells #[.pointer (some ⟨g,0,none⟩)] 176)).alloc (.cells #[.int .i64 0] 27)) _
 rw[<-hw0,<-heb,<-hrb]
 clear hw0 hrb heb
 refine (a5e _ _ _ _ _ _ p 5 0 bs H0.out (.inl rfl) (by omega)).mono ?_
 rintro _ w1 ⟨v1,q1,E1,rfl,hh1,hk1,v10,v11,hq1,hc1⟩
 have H1:=c3o hh1
 have K1:=c3o (K0.out.then hk1 (fun x hx=>by
  rcases c3N.1 hx with rfl|hx
  ·exact Or.inl (by simp)
  ·rw[c3p.1 hx];exact Or.inr HEB.out))
 have hE1:E1=0∨E1=10:=by omega
 clear hh1 hk1 H0 K0
 go_wp2_with fail
 refine (a5e _ _ _ _ _ _ q1 5 E1 bs H1.out hE1 (by omega)).mono ?_
 rintro _ w2 ⟨v2,q2,E2,rfl,hh1,hk1,v20,v21,hq2,hc2⟩
 have H2:=c3o hh1
 have K2:=c3o (K1.out.then hk1 (fun x hx=>by
  rcases c3N.1 hx with rfl|hx
  ·exact Or.inl (by simp)
  ·rw[c3p.1 hx];exact Or.inr HEB.out))
 have hE2:E2=0∨E2=10:=by omega
 clear hh1 hk1 H1 K1
 go_wp2_with fail
 refine (a5e _ _ _ _ _ _ q2 4 E2 bs H2.out hE2 (by omega)).mono ?_
 rintro _ w3 ⟨v3,q3,E3,rfl,hh1,hk1,v30,v31,hq3,hc3⟩
 have H3:=c3o hh1
 have K3:=c3o (K2.out.then hk1 (fun x hx=>by
  rcases c3N.1 hx with rfl|hx
  ·exact Or.inl (by simp)
  ·rw[c3p.1 hx];exact Or.inr HEB.out))
 have hpq:p<=q3:=by omega
 have HC:Hid ((p+14<=8*bs.length/\E3=0/\v1=numB bs p 5/\v2=numB bs (p+5) 5/\v3=numB bs (p+10) 4/\q3=p+14)∨(8*bs.length<p+14/\E3=10)):=by
  rcases hc1 with⟨_,a1,rfl,rfl,rfl⟩|⟨a1,rfl⟩
  ·rcases hc2 with⟨_,a2,rfl,rfl,rfl⟩|⟨a2,rfl⟩
   ·rcases hc3 with⟨_,a3,rfl,rfl,rfl⟩|⟨a3,rfl⟩
    ·exact c3o (.inl ⟨by omega,rfl,rfl,rfl,rfl,rfl⟩)
    ·exact c3o (.inr ⟨by omega,rfl⟩)
   ·exact c3o (.inr ⟨by omega,by omega⟩)
  ·exact c3o (.inr ⟨by omega,by omega⟩)
 clear hh1 hk1 H2 K2 hc1 hc2 hc3 hE1 hE2 hq1 hq2 hq3
 have ce:=H3.out.bxe.cell
 have fe:=H3.out.bxe.free
 rcases HC.out with⟨hfit,rfl,hv1,hv2,hv3,rfl⟩|⟨hend,rfl⟩
 ·clear HC
  have HV1:=c3o hv1
  have HV2:=c3o hv2
  have HV3:=c3o hv3
  clear hv1 hv2 hv3
  by_cases hb1:286<257+v1
  ·have HRES:Hid (headF bs p=([],[],0,40)):=c3o (by unfold headF;rw[if_neg (by omega),if_pos (by left;have:=HV1.out;omega)])
   have e1:decide (286<257+v1)=true:=by simpa using hb1
   go_wp2_with fail
   have H4:=H3.out.set 40
   have c4:=H4.bxe.cell
   exact c3E (v:=.tuple #[.slice none 0 0,.slice none 0 0,.int .i64 40]) (by simp[results,c3C,go_sem,c4]) rfl (a2l HRES.out (by first|decide|assumption) H4.rd hpq (K3.out.setCell (p:=⟨eb,0,none⟩) (Or.inr HEB.out) _))
  have e1:decide (286<257+v1)=false:=by simpa using hb1
  by_cases hb2:30<1+v2
  ·have HRES:Hid (headF bs p=([],[],0,40)):=c3o (by unfold headF;rw[if_neg (by omega),if_pos (by right;have:=HV2.out;omega)])
   have e2:decide (30<1+v2)=true:=by simpa using hb2
   go_wp2_with fail
   have H4:=H3.out.set 40
   have c4:=H4.bxe.cell
   exact c3E (v:=.tuple #[.slice none 0 0,.slice none 0 0,.int .i64 40]) (by simp[results,c3C,go_sem,c4]) rfl (a2l HRES.out (by first|decide|assumption) H4.rd hpq (K3.out.setCell (p:=⟨eb,0,none⟩) (Or.inr HEB.out) _))
  have e2:decide (30<1+v2)=false:=by simpa using hb2
  have HNB:Hid (¬(29<numB bs p 5∨29<numB bs (p+5) 5)):=c3o (by have:=HV1.out;have:=HV2.out;omega)
  obtain⟨mn,hmn⟩:∃ mn,mn=a2i bs p:=⟨_,rfl⟩
  have hmn2:4+v3=(mn:Int):=by rw[hmn];unfold a2i;rw[<-HV3.out];omega
  have hmn3:mn<=19:=by rw[hmn];exact b9D bs p
  have HMN:=c3o hmn
  obtain⟨lit,hlit⟩:∃ x,x=litF bs p:=⟨_,rfl⟩
  obtain⟨dist,hdist⟩:∃ x,x=distF bs p:=⟨_,rfl⟩
  have hl2:257+v1=(lit:Int):=by rw[hlit];unfold litF;rw[<-HV1.out];omega
  have hd2:1+v2=(dist:Int):=by rw[hdist];unfold distF;rw[<-HV2.out];omega
  have hlb:lit<=286:=by omega
  have hdb:dist<=30:=by omega
  have hd1:1<=dist:=by omega
  have HLI:=c3o hlit
  have HDI:=c3o hdist
  clear hmn hlit hdist HV1 HV2 HV3
  have e1':decide (286<(lit:Int))=false:=by simp;omega
  have e2':decide (30<(dist:Int))=false:=by simp;omega
  clear e1 e2 v10 v11 v20 v21 hb1 hb2
  have hmk:=fun w=>a1h (P:=Tryz.prog) w 90 3 .i64 8 c3w a1y 19 19 rfl (by omega) (by omega)
  obtain⟨gc,hgc⟩:∃ x,x=w3.heap.size:=⟨_,rfl⟩
  obtain⟨w4,hw4⟩:∃ x,x=w3.alloc (.cells (ints .i64 (List.replicate 19 0)).toArray 3):=⟨_,rfl⟩
  have hk4:Keeps [] w3 w4:=by rw[hw4];exact (Keeps.refl [] w3).alloc _
  have HC4:Hid (Blk w4 gc 3 (ints .i64 (cL bs (p+14) 0))):=by rw[hw4,hgc];exact c3o (a0d w3 _ _)
  have H4:=c3o (H3.out.keeps hk4 (by simp) (by simp) (by simp) (a0a _))
  have K4:=c3o (K3.out.trans (hk4.mono (by simp)))
  have hgce:eb<gc:=by have:=H3.out.bxe.lt;omega
  have hgcg:gc≠g:=by omega
  have HGC:Hid (w.heap.size<=gc):=c3o (by have:=HEB.out;omega)
  clear hk4 H3 K3
  have hsl:=fun w=>b1p w 1 mn hmn3
  go_upto_region 10 with (fail)
  change Code.wp _ _ _ _ (w3.alloc (.cells (ints .i64 (List.replicate 19 0)).toArray 3))
  rw[<-hw4,<-hgc]
  clear hw4 hgc hmk
  go_wp2_with fail
  go_loopw [43] (fun iv wr=>∃ (i q:Nat) (E:Int) (cs:List Int),i<=mn/\iv=.int .i64 i/\cs.length=19/\p<=q/\(E=0∨E=10)/\Hid ((p+14+3*i<=8*bs.length/\E=0/\q=p+14+3*i/\cs=cL bs (p+14) i)∨(8*bs.length<p+14+3*i/\E=10)) /\
   Hid (Blk wr gc 3 (ints .i64 cs))/\Hid (Hd wr rb eb g A c bs q E)/\Hid (Keeps [g] w wr)) (fun iv _=>mn-(intOf iv).toNat)
  case atStart=>exact⟨0,p+14,0,cL bs (p+14) 0,by omega,rfl,a6I _ _ _,by omega,.inl rfl,c3o (.inl ⟨by omega,rfl,rfl,rfl⟩),HC4,H4,K4⟩
  case round=>
   clear HC4 H4 K4
   obtain⟨i,q,E,cs,hi,rfl,hcl,hq,hE,HI,HC,H,HK⟩:=hrel
   by_cases hlt:i<mn
   ·have e0:decide (i<mn)=true:=by simpa using hlt
    obtain⟨o0,o1⟩:=a4Y i (by omega)
    have ho:=(HT.out.keeps HK.out (fun x hx=>by rw[c3p.1 hx];exact hg)).ord.cell _ _ rfl i (by omega)
    rw[c3H] at ho
    have HCL:Hid (cL bs (p+14) (i+1)=(cL bs (p+14) i).set (nth orderL i).toNat (numB bs (p+14+3*i) 3)):=c3o rfl
    obtain⟨o,hoo⟩:∃ o:Nat,nth orderL i=o:=⟨(nth orderL i).toNat,by omega⟩
    rw[hoo] at ho o1 HCL
    rw[Int.toNat_natCast] at HCL
    have ho19:o<19:=by omega
    clear hoo o0 o1
    go_wp2_with fail
    refine (a5e _ _ _ _ _ _ q 3 E bs H.out hE (by omega)).mono ?_
    rintro _ w5 ⟨v,q',E',rfl,hh5,hk5,hv0,hv1,hq',hc'⟩
    have hb5:=HC.out.keeps hk5 (by simp;omega)
    have hc5:=hb5.cell o
    rw[show (ints .i64 cs)[o]? =some (.int .i64 (nth cs o)) by rw[a0f];simp[nth,List.getD,show o<cs.length by omega]] at hc5
    have hf5:=hb5.frozen o
    obtain⟨hE',hI'⟩:=b2k HCL.out HI.out hc'
    have HI':=c3o hI'
    have ks:Keeps [gc] w5 (w5.setCell ⟨gc,o,none⟩ (.int .i64 v)):=(Keeps.refl [gc] w5).setCell (p:=⟨gc,o,none⟩) (Or.inl (by simp)) _
    have HC':Hid (Blk (w5.setCell ⟨gc,o,none⟩ (.int .i64 v)) gc 3 (ints .i64 (cs.set o v))):=c3o (by
     have:=hb5.set o (.int .i64 v)
     rwa [show (ints .i64 cs).set o (.int .i64 v)=ints .i64 (cs.set o v) by simp[ints,List.map_set]] at this)
    have H':=c3o (hh5.keeps ks (by simpa using Ne.symm hgcg) (by simp;omega) (by simp;omega) (fun a ha hm=>by have:=HA.out a ha;rw[c3p.1 hm] at this;have:=HGC.out;omega))
    have HK':=c3o ((b9r HK.out hk5 HEB.out).setCell (p:=⟨gc,o,none⟩) (Or.inr HGC.out) (.int .i64 v))
    clear hh5 hk5 hb5 hI' hc' ks HC H HK HI HCL ho
    go_wp2_with fail
    go_roundw
    case rel=>exact⟨i+1,q',E',cs.set o v,by omega,by go_num,by rw[List.length_set];exact hcl,by omega,hE',HI',HC',H',HK'⟩
    case measure=>simp[intOf];omega
   ·obtain rfl:i=mn:=by omega
    have e0:decide (i<i)=false:=by simp
    have ce:=H.out.bxe.cell
    have fe:=H.out.bxe.free
    rcases HI.out with⟨hf3,rfl,rfl,rfl⟩|⟨hend,rfl⟩
    ·clear HI
     obtain⟨cd,hcd⟩:∃ cd,cd=cL bs (p+14) i:=⟨_,rfl⟩
     have hcl':cd.length=19:=by rw[hcd];exact a6I _ _ _
     have HCD:Hid (cd=codesH bs p):=c3o (by rw[hcd];unfold codesH;rw[<-HMN.out])
     rw[<-hcd] at HC
     have HCR:Hid (RI .i64 wr (some ⟨gc,0,none⟩) 19 cd):=c3o (by
      have:=Blk.ri (xs:=cd) (ys:=[]) (by rw[List.append_nil];exact HC.out)
      rwa [hcl'] at this)
     have HF3:Hid (¬(8*bs.length<p+14+3*a2i bs p)):=c3o (by rw[<-HMN.out];omega)
     have HQ:Hid (p+14+3*i=p+14+3*a2i bs p):=c3o (by rw[<-HMN.out])
     have HF1:Hid (¬8*bs.length<p+14):=c3o (by omega)
     clear hcd HC hcl
     obtain⟨wc,hwc⟩:∃ x:World,x=wr:=⟨_,rfl⟩
     rw[<-hwc] at H HK HCR ce fe ⊢
     clear hwc
     go_wp2_with fail
     refine (a7q wc _ _ _ cd HCR.out (by omega)).mono ?_
     rintro e w6 ⟨hb6,hmade⟩
     have hk6:=Keeps.of_below hb6 (S:=[])
     have H6:=c3o (H.out.keeps hk6 (by simp) (by simp) (by simp) (a0a _))
     have K6:=c3o (HK.out.trans (hk6.mono (by simp)))
     have c6:=H6.out.bxe.cell
     have f6:=H6.out.bxe.free
     have hgd:g<wc.heap.size:=H.out.rd.lt
     have hebd:eb<wc.heap.size:=H.out.bxe.lt
     clear ce fe H HK HCR hb6 hk6
     by_cases hck:a0e cd=0
     ·rw[if_pos hck] at hmade
      obtain⟨gd,rfl,hd,hgd2⟩:=hmade
      have HCK:=c3o hck
      obtain⟨w7,hw7⟩:∃ x,x=w6.setCell ⟨eb,0,none⟩ (.int .i64 0):=⟨_,rfl⟩
      have hk7:Keeps [eb] w6 w7:=by rw[hw7];exact (Keeps.refl [eb] w6).setCell (p:=⟨eb,0,none⟩) (Or.inl (by simp)) _
      have H7:Hid (Hd w7 rb eb g A c bs (p+14+3*i) 0):=by rw[hw7];exact c3o (H6.out.set 0)
      have K7:Hid (Keeps [g] w w7):=by rw[hw7];exact c3o (K6.out.setCell (p:=⟨eb,0,none⟩) (Or.inr HEB.out) _)
      have D7:=c3o (Dec.apart (gr:=g) (show Dec w7 gd cd from DSt.keeps hd hk7 (fun x hx=>by rw[c3p.1 hx];exact Or.inl (by omega))) (by omega))
      have T7:=c3o (HT.out.keeps K7.out (fun x hx=>by rw[c3p.1 hx];exact hg))
      obtain⟨b0,hb0⟩:∃ x,x=w7.heap.size:=⟨_,rfl⟩
      have c7:=H7.out.bxe.cell
      obtain⟨N,hN⟩:∃ N,N=lit+dist:=⟨_,rfl⟩
      have HRR0:Hid (readR bs p=stepsF cd bs N N [] (p+14+3*i)):=c3o (by
       unfold readR
       rw[<-HCD.out,HQ.out,hN,HLI.out,HDI.out])
      have hNb:N<=316:=by omega
      have hN3:IntKind.i64.wrap ((lit:Int)+(dist:Int))=(N:Int):=by rw[show (lit:Int)+(dist:Int)=(N:Int) by omega];exact c3t _ (by omega)
      have hLN:lit<N:=by omega
      have HE1:Hid (∀ e,(readR bs p).2.2=e->e≠0->headF bs p=([],[],0,e)):=c3o (fun e h he=>b4c HF1.out HNB.out HF3.out (by rw[<-HCD.out];exact HCK.out) h he)
      have HE2:Hid (∀ l q,readR bs p=(l,q,0)->headF bs p=(l.take lit,l.drop lit,q-p,0)):=c3o (fun l q h=>by rw[HLI.out];exact b2u HF1.out HNB.out HF3.out (by rw[<-HCD.out];exact HCK.out) h)
      have hpi:p<=p+14+3*i:=by omega
      have hb0w:w.heap.size<=b0:=by rw[hb0];exact K7.out.size
      have hb0g:g<b0:=by omega
      have hb0e:eb<b0:=by rw[hb0];exact H7.out.bxe.lt
      have HW7:Hid (Keeps [g] w7 w7):=c3o (Keeps.refl _ _)
      clear hN hck hd hk7 e1' e2' hl2 hd2 hmn2 HF3 HQ HCD HLI HDI HNB HMN H6 K6 HF1
      go_wp2_with fail
      rw[<-hw7]
      clear hw7
      go_loopw [13] (fun lv wr=>∃ (f q len cc:Nat) (l:List Int) (AL:Option Addr),lv=.slice AL len cc/\len<=N/\N<=len+f/\p<=q/\Hid (readR bs p=stepsF cd bs N f l q)/\Hid (wr.ownsRow b0 3 1 (.slice AL len cc) len (ints .i64 l)) /\
       Hid (Rdr wr g A c bs q)/\Hid (Keeps [g] w7 wr)) (fun lv _=>N-sLen lv)
      case atStart=>exact⟨N,p+14+3*i,0,0,[],none,rfl,by omega,by omega,hpi,HRR0,c3o (c3G _ _ _ _),c3o H7.out.rd,HW7⟩
      case round=>
       clear HRR0 HW7
       obtain⟨f,q,len,cc,l,AL,rfl,hlen,hf,hpq',HRD,HLO,HR,HK⟩:=hrel
       have HLEN:Hid (l.length=len):=c3o (by have:=HLO.out.1;simpa [ints] using this)
       by_cases hlt2:len<N
       ·have e4:decide ((len:Int)<(N:Int))=true:=by simp;omega
        obtain⟨f',rfl⟩:∃ f',f=f'+1:=⟨f-1,by omega⟩
        have HUN:Hid (readR bs p=if (decF cd bs q).2.1≠0 then ([],q,(decF cd bs q).2.1)
          else if 8*bs.length<q+(decF cd bs q).2.2+wN (decF cd bs q).1 then ([],q,10)
          else match addF l (decF cd bs q).1 (numB bs (q+(decF cd bs q).2.2) (wN (decF cd bs q).1)) N with
           | none=>([],q,41)
           | some l'=>stepsF cd bs N f' l' (q+(decF cd bs q).2.2+wN (decF cd bs q).1)):=c3o (by
         rw[HRD.out,stepsF,if_neg (by rw[HLEN.out];omega)]
         rfl)
        have hqT:=HR.out.le
        clear HRD
        obtain⟨wl,hwl⟩:∃ x:World,x=wr:=⟨_,rfl⟩
        rw[<-hwl] at HLO HR HK ⊢
        clear hwl
        have kr:=(H7.out.bxr.keeps HK.out (by simp;omega)).cell
        go_wp2_with fail
        refine (a4l wl gd g cd A c bs q (D7.out.keeps HK.out (fun x hx=>c3p.1 hx)) HR.out (by omega)).mono ?_
        rintro _ w8 ⟨rfl,hr8,hk8⟩
        have HK8:=c3o (HK.out.trans hk8)
        have HLO8:=c3o (a0b HLO.out hk8 (fun x hx hm=>by have:=(HLO.out.lt x hx).1;rw[c3p.1 hm] at this;omega))
        have HR8:=c3o hr8
        have HBD:=c3o (a6O cd bs q hqT)
        clear hr8 hk8 HR HK HLO kr
        generalize decF cd bs q=d at *
        obtain⟨sy0,er,k⟩:=d
        have HR8':Hid (Rdr w8 g A c bs (q+k)):=HR8
        simp only[] at HBD HUN
        have b8:=H7.out.bxe.keeps HK8.out (by simp;omega)
        have ce8:=b8.cell
        have fe8:=b8.free
        have hse:∀ (W:World) (e:Int),Keeps [eb] W (W.setCell ⟨eb,0,none⟩ (.int .i64 e)):=fun W e=>(Keeps.refl [eb] W).setCell (p:=⟨eb,0,none⟩) (Or.inl (by simp)) _
        have hoE:Off [eb] A:=fun a ha hm=>by have:=HA.out a ha;rw[c3p.1 hm] at this;have:=HEB.out;omega
        have hge:g∉[eb]:=by simp;omega
        by_cases her:er=0
        ·subst her
         obtain⟨j,rfl,hj,hpk⟩:∃ j:Nat,sy0=j/\j<19/\q+k<=8*bs.length:=by
          rcases HBD.out with⟨_,j,h1,h2,h3⟩|⟨h,_⟩
          ·exact⟨j,h1,by omega,h3⟩
          ·exact absurd rfl h
         clear HBD HR8
         have kr:=(H7.out.bxr.keeps HK8.out (by simp;omega)).cell
         have kw:=(T7.out.keeps HK8.out (fun x hx=>by rw[c3p.1 hx];exact hg)).wid.cell _ _ rfl j (by omega)
         rw[c3H,b8o j hj] at kw
         have hw7:=c1T (j:Int)
         obtain⟨W,hW⟩:∃ W,W=wN (j:Int):=⟨_,rfl⟩
         rw[<-hW] at kw hw7 HUN
         have s1:(j:Int)<19:=by omega
         have s2:(0:Int)<=(j:Int):=by omega
         have s3:IntKind.i64.wrap (j:Int)=(j:Int):=c3t _ (by omega)
         clear hW
         by_cases hov:8*bs.length<q+k+W
         ·have HRES:=c3o (HE1.out 10 (by rw[HUN.out,if_neg (by simp),if_pos hov]) (by decide))
          clear HUN
          go_wp2_with fail
          go_region_with (first|(go_at_call 160;refine (a6x _ g A c bs (q+k) W (HR8'.out.dr (Keeps.refl [] w8).drew) (by omega) (by omega)).mono ?_;rintro _ w9 ⟨rfl,hd9⟩))
          all_goals (
           have HK9:=HK8.out.trans (((Keeps.refl [g] w8).drew).trans (hd9.keeps (S:=[g])))
           have HR9:=(HR8'.out.dr (Keeps.refl [] w8).drew).dr (hd9.keeps (S:=[]))
           have b9:=H7.out.bxe.keeps HK9 (by simp;omega)
           have ce9:=b9.cell
           have fe9:=b9.free
           go_wp2_with fail
           have c4:=(b9.set (.int .i64 10)).cell
           exact c3E (v:=.tuple #[.slice none 0 0,.slice none 0 0,.int .i64 10]) (by simp[results,c3C,go_sem,c4]) rfl (a2l HRES.out (by decide) (HR9.keeps (hse _ _) hge hoE) (by omega) ((K7.out.trans HK9).setCell (p:=⟨eb,0,none⟩) (Or.inr HEB.out) _)))
         ·have HUN2:Hid (readR bs p=match addF l (j:Int) (numB bs (q+k) W) N with
           | none=>([],q,41)
           | some l'=>stepsF cd bs N f' l' (q+k+W)):=c3o (by rw[HUN.out,if_neg (by simp),if_neg hov])
          clear HUN
          obtain⟨n0,n1⟩:=a0F bs (q+k) W
          have n2:=a2M W (by omega)
          have hex:Hid (numB bs (q+k) W=numB bs (q+k) W):=c3o rfl
          have e5:IntKind.i64.wrap (numB bs (q+k) W)=numB bs (q+k) W:=c3t _ (by omega)
          go_wp2_with fail
          go_region_with (first|(go_at_call 160;refine (a3Y _ g A c bs (q+k) W (HR8'.out.dr (Keeps.refl [] w8).drew) (by omega) (by omega)).mono ?_;rintro _ w9 ⟨rfl,hr9,hk9⟩))
          all_goals (
           have HK9:=c3o (HK8.out.trans (((Keeps.refl [g] w8).drew).trans hk9))
           have HR9:=c3o hr9
           have HLO9:=c3o (a0b HLO8.out (((Keeps.refl [g] w8).drew).trans hk9) (fun x hx hm=>by have:=(HLO8.out.lt x hx).1;rw[c3p.1 hm] at this;omega))
           have HT9:=c3o (T7.out.keeps HK9.out (fun x hx=>by rw[c3p.1 hx];exact hg))
           have hb9:b0<=w9.heap.size:=by rw[hb0];exact HK9.out.size
           clear hr9 hk9 HK8 HLO8 HR8' kr kw ce8 fe8 b8 hov
           generalize numB bs (q+k) W=ex at *
           generalize hqq:q+k+W=q2 at *
           have hpq2:p<=q2:=by omega
           go_wp2_with fail
           refine (b6g w9 b0 len _ l j ex N hb9 HT9.out HLO9.out (by omega)).mono ?_
           intro e w10 hv
           have hw70:w7.heap.size<=b0:=by omega
           have hAb:∀ a,A=some a->a.block<b0:=fun a ha=>by have:=HA.out a ha;omega
           cases haf:addF l (j:Int) ex N with
           | none=>
            rw[haf] at hv
            obtain⟨rfl,hb10⟩:=hv
            have HRES:=c3o (HE1.out 41 (by rw[HUN2.out,haf]) (by decide))
            have HK10:=HK9.out.under hb10 hw70
            have HR10:=HR9.out.below hb10 hb0g hAb
            have b10:=H7.out.bxe.keeps HK10 (by simp;omega)
            have ce10:=b10.cell
            have fe10:=b10.free
            go_wp2_with fail
            have c4:=(b10.set (.int .i64 41)).cell
            exact c3E (v:=.tuple #[.slice none 0 0,.slice none 0 0,.int .i64 41]) (by simp[results,c3C,go_sem,c4]) rfl (a2l HRES.out (by decide) (HR10.keeps (hse _ _) hge hoE) (by omega) ((K7.out.trans HK10).setCell (p:=⟨eb,0,none⟩) (Or.inr HEB.out) _))
           | some l'=>
            rw[haf] at hv
            obtain⟨v10,rfl,ho10,hb10⟩:=hv
            obtain⟨g1,g2,-⟩:=a5s haf
            obtain⟨A10,c10,rfl⟩:=a2j ho10
            have HRD10:Hid (readR bs p=stepsF cd bs N f' l' q2):=c3o (by rw[HUN2.out,haf])
            have HK10:=c3o (HK9.out.under hb10 hw70)
            have HR10:=c3o (HR9.out.below hb10 hb0g hAb)
            have HLO10:=c3o ho10
            have hlen':=HLEN.out
            clear ho10 hb10 HK9 HR9 HLO9 HT9 HUN2
            go_wp2_with fail
            go_roundw
            case rel=>exact⟨f',q2,l'.length,c10,l',A10,rfl,by omega,by omega,hpq2,HRD10,HLO10,HR10,HK10⟩
            case measure=>simp[sLen];omega)
        ·have HRES:=c3o (HE1.out er (by rw[HUN.out,if_pos her]) her)
         have e5:(er !=0)=true:=by simpa using her
         clear HUN HBD
         go_wp2_with fail
         have c4:=(b8.set (.int .i64 er)).cell
         exact c3E (v:=.tuple #[.slice none 0 0,.slice none 0 0,.int .i64 er]) (by simp[results,c3C,go_sem,c4]) rfl (a2l HRES.out her (HR8'.out.keeps (hse _ _) hge hoE) (by omega) ((K7.out.trans HK8.out).setCell (p:=⟨eb,0,none⟩) (Or.inr HEB.out) _))
       ·obtain rfl:len=N:=by omega
        have e4:decide ((len:Int)<(len:Int))=false:=by simp
        have HRES:=c3o (HE2.out l q (by rw[HRD.out,a4r _ _ _ _ _ _ (by rw[HLEN.out];omega)]))
        obtain⟨A9,c9,hv9,hri9,hcap9,-,-,hbk9⟩:=b4n HLO.out
        injection hv9 with hv1 hv2 hv3
        subst hv1
        subst hv3
        obtain⟨ab,ao,rfl⟩:=hri9.hd (by omega)
        have hr0:=hri9.keeps (Keeps.refl [] wr).drew (a0a _)
        have hr1:RI .i64 wr.drew (some ⟨ab,ao,none⟩) lit (l.take lit):=hr0.take (by omega)
        have hl2':(l.drop lit).length=len-lit:=by rw[List.length_drop,HLEN.out]
        have hr2:RI .i64 wr.drew (some ⟨ab,ao+lit,none⟩) (len-lit) (l.drop lit):=⟨hl2',fun _=>⟨_,_,rfl⟩,fun b' o' ha j hj=>by
         injection ha with ha;injection ha with h1 h2 h3;subst h1;subst h2
         have:=hr0.cell ab ao rfl (lit+j) (by omega)
         rw[show ao+lit+j=ao+(lit+j) by omega,this]
         simp[nth,List.getD]⟩
        have HR1:=c3o hr1
        have HR2:=c3o hr2
        have t2:(0:Int)<=(lit:Int):=by omega
        have t3:(lit:Int)<=(len:Int):=by omega
        have t4:(lit:Int)<=(cc:Int):=by omega
        have t5:lit<=len:=by omega
        have t6:lit<=cc:=by omega
        have t7:¬cc=lit:=by omega
        have t8:¬lit=cc:=by omega
        have hwlt:w7.heap.size<=wr.heap.size:=HK.out.size
        have b8:=H7.out.bxe.keeps HK.out (by simp;omega)
        have HB8:=c3o b8
        clear HRD hri9 hv2 hr0 hr1 hr2 b8
        go_wp2_with fail
        go_region_with (first
         | (go_at_call_of 185 (some (Addr.mk ab ao none));refine (a5S _ _ _ _ (l.take lit) (by first|exact HR1.out|exact HR1.out.keeps (Keeps.of_below hbB) (a0a _)) (by simp) (by intro ad h;exact⟨_,_,(c3A h).symm⟩) (by omega)).mono ?_;rintro _ wA ⟨vA,rfl,hoA,hbA⟩;have bxA:Box wA eb (.int .i64 0):=(by first|exact HB8.out.keeps ((Keeps.refl [] wr).drew.trans (Keeps.of_below hbA)) (by simp)|exact bxB.keeps (Keeps.of_below (S:=[]) hbA) (by simp));have ceA:=bxA.cell;have feA:=bxA.free)
         | (go_at_call_of 185 (some (Addr.mk ab (ao+lit) none));refine (a5S _ _ _ _ (l.drop lit) (by first|exact HR2.out|exact HR2.out.keeps (Keeps.of_below hbA) (a0a _)) (by simp) (by intro ad h;exact⟨_,_,(c3A h).symm⟩) (by omega)).mono ?_;rintro _ wB ⟨vB,rfl,hoB,hbB⟩;have bxB:Box wB eb (.int .i64 0):=(by first|exact HB8.out.keeps ((Keeps.refl [] wr).drew.trans (Keeps.of_below hbB)) (by simp)|exact bxA.keeps (Keeps.of_below (S:=[]) hbB) (by simp));have ceB:=bxB.cell;have feB:=bxB.free))
        all_goals (
         have kA:Keeps [] wr wA:=(Keeps.refl [] wr).drew.trans (Keeps.of_below hbA)
         have kB:Keeps [] wA wB:=Keeps.of_below hbB
         have hwr:wr.heap.size<=wA.heap.size:=kA.size
         have hebw:eb<wr.heap.size:=by omega
         have kS:Keeps [eb] wB (wB.setCell ⟨eb,0,none⟩ (.int .i64 0)):=(Keeps.refl [eb] wB).setCell (p:=⟨eb,0,none⟩) (Or.inl (by simp)) _
         have oA:=a0b (a0b hoA kB (by simp)) kS (fun x hx hm=>by
          have h1:=(hoA.lt x hx).1
          rw[c3p.1 hm] at h1
          have h2:wr.heap.size<=eb:=h1
          omega)
         have oB:=a0b hoB kS (fun x hx hm=>by
          have h1:=(hoB.lt x hx).1
          rw[c3p.1 hm] at h1
          omega)
         have hR:=(((HR.out.dr kA).dr kB).keeps kS (by simp;omega) (fun a ha hm=>by have:=HA.out a ha;rw[c3p.1 hm] at this;have:=HEB.out;omega))
         have hKK:Keeps [g] w (wB.setCell ⟨eb,0,none⟩ (.int .i64 0)):=(((K7.out.trans HK.out).trans (kA.mono (by simp))).trans (kB.mono (by simp))).setCell (p:=⟨eb,0,none⟩) (Or.inr HEB.out) _
         have hww:w.heap.size<=wr.heap.size:=by omega
         have c4:=(bxB.set (.int .i64 0)).cell
         have hl1:(l.take lit).length=lit:=by rw[List.length_take,HLEN.out];omega
         go_wp2_with fail
         refine c3E (v:=.tuple #[vA,vB,.int .i64 0]) (by simp[results,c3C,go_sem,c4]) rfl ?_
         rw[HRES.out]
         exact⟨vA,vB,q,rfl,by rw[hl1];exact oA.mono hww,by rw[hl2'];exact oB.mono (by omega),hR,hpq',fun _=>by simp only[];omega,hKK⟩)
     ·rw[if_neg hck] at hmade
      subst hmade
      have HRES:Hid (headF bs p=([],[],0,a0e cd)):=c3o (by unfold headF;rw[if_neg HF1.out,if_neg HNB.out,if_neg HF3.out,<-HCD.out,if_pos hck])
      have e3:(a0e cd !=0)=true:=by simpa using hck
      generalize a0e cd=er at *
      go_wp2_with fail
      go_region
      go_wp2_with fail
      have H8:=(((H6.out.set er).set er).keeps (Keeps.refl [] _).drew (by simp) (by simp) (by simp) (a0a _))
      have c4:=H8.bxe.cell
      exact c3E (v:=.tuple #[.slice none 0 0,.slice none 0 0,.int .i64 er]) (by simp[results,c3C,go_sem,c4]) rfl (a2l HRES.out hck H8.rd (by omega) ((K6.out.setCell (p:=⟨eb,0,none⟩) (Or.inr HEB.out) _).setCell (p:=⟨eb,0,none⟩) (Or.inr HEB.out) _).drew)
    ·have HRES:Hid (headF bs p=([],[],0,10)):=c3o (by unfold headF;rw[if_neg (by omega),if_neg HNB.out,<-HMN.out,if_pos hend])
     clear HI
     go_wp2_with fail
     go_region
     go_wp2_with fail
     have H5:=(H.out.set 10).keeps (Keeps.refl [] _).drew (by simp) (by simp) (by simp) (a0a _)
     have c4:=H5.bxe.cell
     exact c3E (v:=.tuple #[.slice none 0 0,.slice none 0 0,.int .i64 10]) (by simp[results,c3C,go_sem,c4]) rfl (a2l HRES.out (by first|decide|assumption) H5.rd hq (HK.out.setCell (p:=⟨eb,0,none⟩) (Or.inr HEB.out) _).drew)
 ·have HRES:Hid (headF bs p=([],[],0,10)):=c3o (by unfold headF;rw[if_pos hend])
  clear HC
  go_wp2_with fail
  go_region
  go_wp2_with fail
  have H4:=(H3.out.set 10).keeps (Keeps.refl [] _).drew (by simp) (by simp) (by simp) (a0a _)
  have c4:=H4.bxe.cell
  exact c3E (v:=.tuple #[.slice none 0 0,.slice none 0 0,.int .i64 10]) (by simp[results,c3C,go_sem,c4]) rfl (a2l HRES.out (by first|decide|assumption) H4.rd hpq (K3.out.setCell (p:=⟨eb,0,none⟩) (Or.inr HEB.out) _).drew)
end Go.Proofs.YtghjlpechjggjaaGreatDoor
