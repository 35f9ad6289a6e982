import Derived.Test.YtghjlpechjggjaaGreatDoorZrdA
import Derived.Lib.Strings
import Derived.Lib.Slices
import Derived.Lib.Small
import Derived.Lib.Walk
import Derived.Lib.BitFns
import Derived.Test.YtghjlpechjggjaaGreatDoorZrdK
import Derived.Test.YtghjlpechjggjaaGreatDoorZrdC
import Derived.BigQuiet
import Derived.Test.YtghjlpechjggjaaGreatDoorZrdE
import Derived.Test.YtghjlpechjggjaaGreatDoorZrdD
import Derived.Test.YtghjlpechjggjaaGreatDoorZrdF
import Derived.Test.YtghjlpechjggjaaGreatDoorZrdB
import Derived.BigRegion
import Derived.Lib.SliceRun
set_option linter.defProp false
set_option linter.unnecessarySimpa false
set_option linter.unusedVariables false
set_option linter.unusedSimpArgs false
set_option linter.constructorNameAsVariable false
set_option maxRecDepth 100000
set_option maxHeartbeats 60000000
namespace Go.Proofs.YtghjlpechjggjaaGreatDoor
open Go.RowKit
private def c3o := @Lib.hid
private def c3p := @List.length_append
private def c3q := @List.getElem?_cons_zero
private def c3r := @Nat.pow_le_pow_right
private def c3s := @Nat.lt_of_lt_of_le
private def c3t := @Int.toNat_natCast
private def c3u := @IntWalk.i64_in
private def c3v := @Int.eq_ofNat_of_zero_le
private def c3w := @List.getElem?_cons_succ
private def c3x := @List.append_assoc
private def c3y := @Nat.le_of_lt
private def c3z := @Below.refl
private def c3A := @World.cell?_of_block
private def c3B := @rounds_succ
private def c3C := @List.append_nil
private def c3D := @Nat.le_trans
private def c3E := @Nat.le_refl
open Go.RowKit
theorem b3T(x:Int)(w:World)(h0:0<=x)(h1:x<=18446744073709551615) :
  Calls Tryz.prog 96 #[.int .u64 x] w fun e w'=>e=.returned (.int .i64 (Lib.bitLen x.toNat))/\w'=w:=by
 go_enter Tryz.func96,Tryz.ntmps96
 go_wp2_with (go_at_call 121;refine (b4S x _ h0 h1).mono ?_;rintro e w' ⟨rfl,rfl⟩)
 go_ret
 exact⟨rfl,rfl⟩
open Go.RowKit
theorem a8j(m:Nat):m≠0->m<2^64->Lib.bitLen m=Nat.log2 m+1:=by
 induction m using Nat.strongRecOn with
 | ind m ih=>
  intro h0 h
  rw[Lib.bitLen_half m h0 h]
  by_cases h1:m/2=0
  ·obtain rfl:m=1:=by omega
   decide
  ·rw[ih (m/2) (by omega) h1 (by omega),Nat.log2_def m,if_pos (by omega)];omega
theorem c1d(a k:Nat)(ha:a<2^62)(hk:k<=20):Go.bits .and .i64 (a:Int) (((2^k-1:Nat)):Int)=((a%2^k:Nat):Int):=by
 have hp:2^k<=2^20:=c3r (by omega) hk
 have e:Go.bits .and .i64 (a:Int) (((2^k-1:Nat)):Int)=((a &&& (2^k-1):Nat):Int):=by
  have h:a &&& (2^k-1)<=a:=Nat.and_le_left
  simp only[Go.bits,BitVec.ofInt_natCast,BitVec.toNat_and,BitVec.toNat_ofNat,show a%2^IntKind.i64.bits=a from Nat.mod_eq_of_lt (c3s ha (by decide)),show (2^k-1)%2^IntKind.i64.bits=2^k-1 from Nat.mod_eq_of_lt (by have:2^IntKind.i64.bits=2^64:=rfl;omega)]
  exact c3u _ (by omega)
 rw[e,Nat.and_two_pow_sub_one_eq_mod]
theorem a8N(x:Int)(h:-9223372036854775808<=x/\x<=9223372036854775807):wrap64 x=x:=by unfold wrap64;omega
theorem b4j(a k:Nat)(ha:a<2^31)(hk:k<=20):Go.bits .and .i64 (a:Int) (wrap64 (wrap64 (2^k)-1))%4294967296=((a%2^k:Nat):Int):=by
 have hp:2^k<=2^20:=c3r (by omega) hk
 have hp0:=Nat.two_pow_pos k
 have e0:((2^k:Nat):Int)=(2:Int)^k:=by simp
 have e1:wrap64 (2^k)=((2^k:Nat):Int):=by rw[<-e0];exact a8N _ (by omega)
 have e2:wrap64 (((2^k:Nat):Int)-1)=((2^k-1:Nat):Int):=by rw[a8N _ (by omega)];omega
 rw[e1,e2,c1d a k (by omega) hk]
 have:=Nat.mod_le a (2^k)
 omega
theorem a5W(w:World)(n:Nat)(h3:3<=n)(h258:n<=258) :
  Calls Tryz.prog 66 #[.int .i64 n] w fun e w'=>e=.returned (.tuple #[.int .i64 (lsym n:Nat),.int .u32 (a4P n:Nat),.int .i64 (lk n:Nat)])/\Dr w w':=by
 by_cases h0:n=258
 ·subst h0
  go_enter Tryz.func66,Tryz.ntmps66
  go_wp2_with fail
  go_ret3
  exact⟨rfl,⟨0,rfl⟩⟩
 ·have x0:decide ((n:Int)=258)=false:=by simp;omega
  have x0':((n:Int)==258)=false:=by simp;omega
  by_cases h1:n<11
  ·have x1:decide ((n:Int)<11)=true:=by simp;omega
   have s1:IntKind.i64.wrap ((n:Int)+254)=(n:Int)+254:=c3u _ (by omega)
   go_enter Tryz.func66,Tryz.ntmps66
   go_wp2_with fail
   go_ret3
   have e1:lsym n=n+254:=by unfold lsym;rw[if_neg h0,if_pos h1]
   have e2:a4P n=0:=if_pos (.inr h1)
   have e3:lk n=0:=if_pos (.inr h1)
   rw[e1,e2,e3]
   exact⟨rfl,⟨0,rfl⟩⟩
  ·have x1:decide ((n:Int)<11)=false:=by simp;omega
   obtain⟨m,hm⟩:∃ m:Nat,n=m+3:=⟨n-3,by omega⟩
   have hmb:=b2C (n:=m) (by omega)
   obtain⟨K,hK⟩:∃ K,Nat.log2 m=K+2:=by
    refine⟨Nat.log2 m-2,?_⟩
    have:3<=Nat.log2 m:=by
     rcases Nat.lt_or_ge (Nat.log2 m) 3 with hh|hh
     ·have:2^(Nat.log2 m+1)<=2^3:=c3r (by omega) (by omega)
      omega
     ·exact hh
    omega
   have hK5:K<=5:=by
    rcases Nat.lt_or_ge 5 K with hh|hh
    ·have:2^8<=2^Nat.log2 m:=c3r (by omega) (by omega)
     omega
    ·exact hh
   have hbl:Lib.bitLen (m:Int).toNat=K+3:=by rw[c3t,a8j m (by omega) (by omega),hK]
   have HE:Hid (lsym n=261+4*K+m/2^K-4/\a4P n=m%2^K/\lk n=K):=c3o (by
    have hnm:n-3=m:=by omega
    have e3:lk n=K:=by unfold lk;rw[if_neg (by omega),hnm,hK];rfl
    refine⟨?_,?_,e3⟩
    ·unfold lsym;rw[if_neg h0,if_neg h1,e3,hnm]
    ·unfold a4P;rw[if_neg (by omega),e3,hnm])
   have hm2:(n:Int)-3=(m:Int):=by omega
   have s1:IntKind.i64.wrap ((n:Int)-3)=(m:Int):=by rw[c3u _ (by omega)];omega
   have s2:IntKind.u64.wrap (m:Int)=(m:Int):=IntWalk.u64_in _ (by omega)
   have hm0:(m:Int)<=255:=by omega
   have hm8:8<=m:=by omega
   clear hmb hK h0 h1 hm
   go_enter Tryz.func66,Tryz.ntmps66
   go_wp2_with fail
   refine (b3T (m:Int) _ (by omega) (by omega)).mono ?_
   rintro _ _ ⟨rfl,rfl⟩
   rw[hbl]
   have s3:IntKind.i64.wrap (((K+3:Nat):Int)-3)=(K:Int):=by rw[c3u _ (by omega)];omega
   go_upto_region 7 with (fail)
   go_quiet (fail)
   go_wp2_with fail
   go_ret3
   obtain⟨e1,e2,e3⟩:=HE.out
   rw[e1,e2,e3]
   have ed:((m/2^K:Nat):Int)=(m:Int)/2^K:=by rw[Int.natCast_ediv];simp
   have hdl:=Nat.div_le_self m (2^K)
   have v1:wrap64 (wrap64 (261+4*(K:Int)+(m:Int)/2^K)-4)=((261+4*K+m/2^K-4:Nat):Int):=by
    rw[<-ed]
    rw[a8N (261+4*(K:Int)+((m/2^K:Nat):Int)) (by generalize m/2^K=q at *;omega)]
    generalize m/2^K=q at *
    rw[a8N _ (by omega)];omega
   have v2:bits BinOp.and IntKind.i64 (m:Int) (wrap64 (wrap64 (2^K)-1))%4294967296=((m%2^K:Nat):Int):=b4j m K (by omega) (by omega)
   refine⟨?_,⟨_,rfl⟩⟩
   show Ending.returned (Value.tuple #[Value.int IntKind.i64 (wrap64 (wrap64 (261+4*(K:Int)+(m:Int)/2^K)-4)),Value.int IntKind.u32 (bits BinOp.and IntKind.i64 (m:Int) (wrap64 (wrap64 (2^K)-1))%4294967296),Value.int IntKind.i64 (K:Int)])=_
   rw[v1,v2]
theorem a4b(w:World)(d:Nat)(h1:1<=d)(h2:d<=32768) :
  Calls Tryz.prog 67 #[.int .i64 d] w fun e w'=>e=.returned (.tuple #[.int .i64 (dsym d:Nat),.int .u32 (a3u d:Nat),.int .i64 (dk d:Nat)])/\Dr w w':=by
 obtain⟨m,hm⟩:∃ m:Nat,d=m+1:=⟨d-1,by omega⟩
 have hm2:(d:Int)-1=(m:Int):=by omega
 have s1:IntKind.i64.wrap ((d:Int)-1)=(m:Int):=by rw[c3u _ (by omega)];omega
 by_cases h4:m<4
 ·have x1:decide ((m:Int)<4)=true:=by simp;omega
  have e1:dsym d=m:=by unfold dsym;rw[if_pos (by omega)];omega
  have e2:a3u d=0:=if_pos (by omega)
  have e3:dk d=0:=if_pos (by omega)
  rw[e1,e2,e3]
  clear hm h1 h2
  go_enter Tryz.func67,Tryz.ntmps67
  go_wp2_with fail
  go_ret3
  exact⟨rfl,⟨0,rfl⟩⟩
 ·have x1:decide ((m:Int)<4)=false:=by simp;omega
  have hmb:=b2C (n:=m) (by omega)
  obtain⟨K,hK⟩:∃ K,Nat.log2 m=K+1:=by
   refine⟨Nat.log2 m-1,?_⟩
   have:2<=Nat.log2 m:=by
    rcases Nat.lt_or_ge (Nat.log2 m) 2 with hh|hh
    ·have:2^(Nat.log2 m+1)<=2^2:=c3r (by omega) (by omega)
     omega
    ·exact hh
   omega
  have hK13:K<=13:=by
   rcases Nat.lt_or_ge 13 K with hh|hh
   ·have:2^15<=2^Nat.log2 m:=c3r (by omega) (by omega)
    omega
   ·exact hh
  have hbl:Lib.bitLen (m:Int).toNat=K+2:=by rw[c3t,a8j m (by omega) (by omega),hK]
  have HE:Hid (dsym d=2+2*K+m/2^K-2/\a3u d=m%2^K/\dk d=K):=c3o (by
   have hnm:d-1=m:=by omega
   have e3:dk d=K:=by unfold dk;rw[if_neg (by omega),hnm,hK];rfl
   refine⟨?_,?_,e3⟩
   ·unfold dsym;rw[if_neg (by omega),e3,hnm]
   ·unfold a3u;rw[if_neg (by omega),e3,hnm])
  have s2:IntKind.u64.wrap (m:Int)=(m:Int):=IntWalk.u64_in _ (by omega)
  have hm0:(m:Int)<=32767:=by omega
  have hm8:4<=m:=by omega
  clear hmb hK h1 h2 hm
  go_enter Tryz.func67,Tryz.ntmps67
  go_wp2_with fail
  refine (b3T (m:Int) _ (by omega) (by omega)).mono ?_
  rintro _ _ ⟨rfl,rfl⟩
  rw[hbl]
  have s3:IntKind.i64.wrap (((K+2:Nat):Int)-2)=(K:Int):=by rw[c3u _ (by omega)];omega
  go_upto_region 5 with (fail)
  go_quiet (fail)
  go_wp2_with fail
  go_ret3
  obtain⟨e1,e2,e3⟩:=HE.out
  rw[e1,e2,e3]
  have ed:((m/2^K:Nat):Int)=(m:Int)/2^K:=by rw[Int.natCast_ediv];simp
  have hdl:=Nat.div_le_self m (2^K)
  have v1:wrap64 (wrap64 (2+2*(K:Int)+(m:Int)/2^K)-2)=((2+2*K+m/2^K-2:Nat):Int):=by
   rw[<-ed]
   rw[a8N (2+2*(K:Int)+((m/2^K:Nat):Int)) (by generalize m/2^K=q at *;omega)]
   generalize m/2^K=q at *
   rw[a8N _ (by omega)];omega
  have v2:bits BinOp.and IntKind.i64 (m:Int) (wrap64 (wrap64 (2^K)-1))%4294967296=((m%2^K:Nat):Int):=b4j m K (by omega) (by omega)
  refine⟨?_,⟨_,rfl⟩⟩
  show Ending.returned (Value.tuple #[Value.int IntKind.i64 (wrap64 (wrap64 (2+2*(K:Int)+(m:Int)/2^K)-2)),Value.int IntKind.u32 (bits BinOp.and IntKind.i64 (m:Int) (wrap64 (wrap64 (2^K)-1))%4294967296),Value.int IntKind.i64 (K:Int)])=_
  rw[v1,v2]
open Go.RowKit
structure CodeS (l cs:List Int) (s:Nat) (y:Int) (M:Nat):Prop where
 len:nth l s=M
 code:nth cs s=y
 lo:0<=y
 hi:y<4294967296
 m15:M<=15
 top:y/2^M=0
 bits:vbits y M=cbit l s
theorem b9U(M:Nat)(h:M<=15):(2:Int)^M<4294967296:=by
 have:(2:Nat)^M<=2^15:=c3r (by omega) h
 have e:((2^M:Nat):Int)=(2:Int)^M:=by simp
 rw[<-e]
 have:(2:Nat)^15=32768:=rfl
 omega
theorem b3Y{l:List Int}{s:Nat}(hc:a0e l=0)(h:Tells l s):∃ y M,CodeS l (codesF l).1 s y M:=by
 obtain⟨h1,h2,h3⟩:=h
 obtain⟨M,hM⟩:∃ M:Nat,nth l s=M:=⟨(nth l s).toNat,by omega⟩
 obtain⟨-,hca⟩:=a4E hc
 have hrb:=a9L (a0P l s) M
 have hp:=b9U M (by omega)
 refine⟨revF (a0P l s) M,M,hM,hca s M h1 hM (by omega),hrb.1,by omega,by omega,Int.ediv_eq_zero_of_lt hrb.1 hrb.2,?_⟩
 unfold cbit
 rw[hM,c3t]
 exact a8M _ _
structure LS (wb w':World) (g gs:Nat) (bits:List Int) (t:Tok):Prop where
 wt:Wtr w' g bits
 be:Below g wb w'
 pt:PT g wb w'
 tk:Blk w' gs 98 (tcells t)
 ne:gs≠g
theorem LS.keeps{wb w' w'':World}{g gs:Nat}{bits:List Int}{t:Tok}(h:LS wb w' g gs bits t)(k:Keeps [] w' w''):LS wb w'' g gs bits t:=
 ⟨h.wt.keeps k (by simp),h.be.trans (a0p k.below (c3y h.wt.lt)),h.pt.trans (PT.of_keeps k),h.tk.keeps k (by simp),h.ne⟩
theorem LS.put{wb w' w'':World}{g gs:Nat}{bits bits':List Int}{t:Tok}(h:LS wb w' g gs bits t)(h1:Wtr w'' g bits')(h2:Below g w' w'')(h3:PT g w' w''):LS wb w'' g gs bits' t:=
 ⟨h1,h.be.trans h2,h.pt.trans h3,(h3.same gs h.tk.lt h.ne (fun ⟨c,f,hc⟩=>by
  have h2:w'.heap[gs]? =_:=h.tk
  rw[h2] at hc
  injection hc with hc
  injection hc with _ h2 _
  exact absurd h2 (by decide))).trans h.tk,h.ne⟩
theorem b4J{v:Nat}{k:Nat}(h:v<2^k):((v:Nat):Int)/2^k=0:=Int.ediv_eq_zero_of_lt (by omega) (by exact_mod_cast h)
theorem b4s(k:Nat)(h:k<=13):2^k<=8192:=c3r (by omega) h
theorem a8m (w:World) (g:Nat) (bl:List Int) (At A1 A2:Option Addr) (nt n1 n2 ct c1 c2:Nat) (ts:List Tok) (lit dist:List Int) (hw:Wtr w g bl) (hb:bl.length<=1000000)
  (ht:∀ w',Below g w w'->PT g w w'->RT w' At nt ts) (hx:∀ w',Below g w w'->PT g w w'->RI .i64 w' A1 n1 lit) (hy:∀ w',Below g w w'->PT g w w'->RI .i64 w' A2 n2 dist)
  (hn:nt<=16384) (hn1:n1<=288) (hn2:n2<=288) (hc:a0e lit=0) (h256:Tells lit 256) (htk:∀ t∈ts,TokOk lit dist t) (hr:∀ t∈ts,t.2.1≠0->3<=t.2.1/\t.2.1<=258/\1<=t.2.2/\t.2.2<=32768) :
  Calls Tryz.prog 64 #[.pointer (some ⟨g,0,none⟩),.slice At nt ct,.slice A1 n1 c1,.slice A2 n2 c2] w fun e w'=>(∃ v,e=.returned v)/\Wtr w' g (bl++(toksB lit dist ts++cbit lit 256))/\Below g w w'/\PT g w w':=by
 have hgl:=hw.lt
 have HW:=c3o hw
 have HB:=c3o hb
 have HT:=c3o ht
 have HX:=c3o hx
 have HY:=c3o hy
 have HC:=c3o hc
 have H256:=c3o h256
 have HTK:=c3o htk
 have HR:=c3o hr
 have HLT:Hid (ts.length=nt):=c3o (ht w (c3z _ _) (PT.refl _ _)).len
 have HL1:Hid (lit.length=n1):=c3o (hx w (c3z _ _) (PT.refl _ _)).len
 have HL2:Hid (dist.length=n2):=c3o (hy w (c3z _ _) (PT.refl _ _)).len
 clear hw hb ht hx hy hc htk hr
 go_enter Tryz.func64,Tryz.ntmps64
 go_wp2_with fail
 refine (a4e w _ _ _ lit (HX.out w (c3z _ _) (PT.refl _ _)) (by omega)).mono ?_
 rintro e wa ⟨va,rfl,hoa,hba⟩
 rw[(a4E HC.out).1,HL1.out] at hoa
 obtain⟨AR,cr,rfl⟩:=a0h hoa
 have HOA:=c3o hoa
 have HKA:=c3o (Keeps.of_below hba (S:=[]))
 clear hoa hba
 go_wp2_with fail
 refine (a4e wa _ _ _ dist (HY.out wa (a0p HKA.out.below (c3y hgl)) (PT.of_keeps HKA.out)) (by omega)).mono ?_
 rintro e wb ⟨vd,rfl,hod,hbd⟩
 obtain⟨AD,cd,rfl⟩:=a0h hod
 have hkb:=Keeps.of_below hbd (S:=[])
 have hkk:=HKA.out.trans hkb
 have hgb:g<wb.heap.size:=c3s hgl hkk.size
 have HBW:Hid (Below g w wb):=c3o (a0p hkk.below (c3y hgl))
 have HPW:Hid (PT g w wb):=c3o (PT.of_keeps hkk)
 have HWB:Hid (Wtr wb g bl):=c3o (HW.out.keeps hkk (by simp))
 have HTB:Hid (∀ w',Below g wb w'->PT g wb w'->RT w' At nt ts):=c3o (fun w' h1 h2=>HT.out w' (HBW.out.trans h1) (HPW.out.trans h2))
 have HXB:Hid (∀ w',Below g wb w'->PT g wb w'->RI .i64 w' A1 n1 lit):=c3o (fun w' h1 h2=>HX.out w' (HBW.out.trans h1) (HPW.out.trans h2))
 have HYB:Hid (∀ w',Below g wb w'->PT g wb w'->RI .i64 w' A2 n2 dist):=c3o (fun w' h1 h2=>HY.out w' (HBW.out.trans h1) (HPW.out.trans h2))
 have HCL:Hid (∀ w',PT g wb w'->RI .u32 w' AR n1 (codesF lit).1):=c3o (fun w' h2=>b7O (by decide) (Nat.lt_succ_self g) ((a0b HOA.out hkb (by simp)).mono (Nat.succ_le_of_lt hgl)) h2)
 have HCD:Hid (∀ w',PT g wb w'->RI .u32 w' AD (codesF dist).1.length (codesF dist).1):=c3o (fun w' h2=>b7O (by decide) (Nat.lt_succ_self g) (hod.mono (Nat.succ_le_of_lt (c3s hgl HKA.out.size))) h2)
 have HDL:Hid (a0e dist=0->(codesF dist).1.length=n2):=c3o (fun h=>by rw[(a4E h).1,HL2.out])
 have HSL:Hid (∀ s,Tells lit s->∃ y M,CodeS lit (codesF lit).1 s y M):=c3o (fun s h=>b3Y HC.out h)
 have HSD:Hid (a0e dist=0->∀ s,Tells dist s->∃ y M,CodeS dist (codesF dist).1 s y M):=c3o (fun hc s h=>b3Y hc h)
 clear hod hbd hkb hkk HOA HKA HT HX HY HW HC
 generalize (codesF lit).1=cl at *
 generalize (codesF lit).2=el at *
 generalize (codesF dist).1=dl at *
 generalize (codesF dist).2=ed at *
 generalize hnd:dl.length=nd at *
 clear hnd
 have h256':256<n1:=by rw[<-HL1.out];exact h256.1
 clear h256
 go_wp2_with fail
 go_loopw [30] (fun iv wr=>∃ (p:Nat),p<=nt/\iv=.int .i64 p/\Hid (Wtr wr g (bl++toksB lit dist (ts.take p)))/\Hid (Below g wb wr)/\Hid (PT g wb wr)) (fun iv _=>nt-(intOf iv).toNat)
 case atStart=>exact⟨0,by omega,rfl,c3o (by rw[List.take_zero,show toksB lit dist []=[] from rfl,c3C];exact HWB.out),c3o (c3z _ _),c3o (PT.refl _ _)⟩
 case round=>
  clear HWB
  obtain⟨p,hp,rfl,HWl,HBl,HPl⟩:=hrel
  have HLB:Hid ((toksB lit dist (ts.take p)).length<=48*16384):=c3o (by
   have h1:=a5o (lit:=lit) (dist:=dist) (ts.take p) (fun t h=>HTK.out t (List.mem_of_mem_take h)) (fun t h=>HR.out t (List.mem_of_mem_take h))
   have h2:(ts.take p).length<=16384:=by rw[List.length_take];have:=HLT.out;omega
   omega)
  by_cases hlt:p<nt
  ·have e5:decide (p<nt)=true:=by simpa using hlt
   have hps:p<ts.length:=by rw[HLT.out];exact hlt
   have hrt:=HTB.out wr HBl.out HPl.out
   obtain⟨tb,to',hAt⟩:=hrt.hd (by omega)
   obtain⟨p0,p1,p2⟩:=hrt.cell tb to' hAt p hlt
   subst hAt
   have HTO:=c3o (HTK.out _ (b0b hps))
   have HRO:=c3o (HR.out _ (b0b hps))
   have HSN:Hid (toksB lit dist (ts.take (p+1))=toksB lit dist (ts.take p)++tokB lit dist (tth ts p)):=c3o (by rw[b0a hps,b5W])
   clear hrt hps
   generalize tth ts p=t at *
   obtain⟨a,b,c⟩:=t
   dsimp only at p0 p1 p2
   obtain⟨gs,hgs⟩:∃ z,z=wr.heap.size:=⟨_,rfl⟩
   obtain⟨w20,hw20⟩:∃ z,z=wr.alloc (.cells #[.int .u8 a,.int .i64 b,.int .i64 c] 98):=⟨_,rfl⟩
   have ka:Keeps [] wr w20:=by rw[hw20];exact (Keeps.refl [] wr).alloc _
   have HLS:Hid (LS wb w20 g gs (bl++toksB lit dist (ts.take p)) (a,b,c)):=c3o (by
    refine⟨HWl.out.keeps ka (by simp),HBl.out.trans (a0p ka.below (c3y HWl.out.lt)),HPl.out.trans (PT.of_keeps ka),?_,?_⟩
    ·rw[hw20,hgs];exact a0d wr _ [.int .u8 a,.int .i64 b,.int .i64 c]
    ·have:=HWl.out.lt;omega)
   go_upto_region 5 with (fail)
   change Code.wp _ _ _ _ (wr.alloc (.cells #[.int .u8 a,.int .i64 b,.int .i64 c] 98))
   rw[<-hw20,<-hgs]
   clear ka HWl HBl HPl p0 p1 p2 hw20 hgs e5
   generalize hbl2:bl++toksB lit dist (ts.take p)=bl2 at *
   have HBL2:Hid (bl2.length<=2000000):=c3o (by have:=HB.out;have:=HLB.out;rw[<-hbl2,c3p];omega)
   have HEN:Hid (bl++toksB lit dist (ts.take (p+1))=bl2++tokB lit dist (a,b,c)):=c3o (by rw[HSN.out,<-c3x,hbl2])
   clear hbl2 HSN HLB
   have b0:=HLS.out.tk.cell 0
   have b1:=HLS.out.tk.cell 1
   simp only[tcells,c3q,c3w] at b0 b1
   by_cases h0:b=0
   ·obtain⟨l0,l1,l2⟩:=HTO.out.1 h0
    dsimp only at l0 l1 l2
    obtain⟨j,rfl⟩:=c3v l0
    rw[c3t] at l2
    subst h0
    obtain⟨y,M,sy⟩:=HSL.out j l2
    have hjn:j<n1:=by rw[<-HL1.out];exact l2.1
    have SY:=c3o sy
    have hri:=HXB.out w20 HLS.out.be HLS.out.pt
    have hrc:=HCL.out w20 HLS.out.pt
    obtain⟨lb,lo,hA1,hlc⟩:=hri.at hjn
    obtain⟨rb,ro,hAR,hrcc⟩:=hrc.at hjn
    subst hA1
    subst hAR
    rw[sy.len] at hlc
    rw[sy.code] at hrcc
    have t0:IntKind.i64.wrap (j:Int)=(j:Int):=c3u _ (by omega)
    clear hri hrc sy l2
    go_wp2_with fail
    go_still_tail 11,(by kernel_rfl)
    change wpList _ _ _ _ _ w20.drew
    have HL2:=c3o (HLS.out.keeps (Keeps.refl [] w20).drew)
    clear HLS hlc hrcc b0 b1
    go_wp2_with fail
    refine (a0K _ g _ y M HL2.out.wt SY.out.lo SY.out.hi (by have:=SY.out.m15;omega) SY.out.top (by have:=HBL2.out;omega)).mono ?_
    rintro _ w21 ⟨rfl,hw21,hb21,hp21⟩
    rw[SY.out.bits] at hw21
    have HL3:=c3o (HL2.out.put hw21 hb21 hp21)
    clear hw21 hb21 hp21 HL2
    go_wp2_with fail
    go_roundw
    case rel=>
     refine⟨p+1,by omega,by go_num,?_,c3o HL3.out.be,c3o HL3.out.pt⟩
     rw[HEN.out]
     exact c3o HL3.out.wt
    case measure=>simp[intOf];omega
   ·have x0:decide (b=0)=false:=by simpa using h0
    have x0':(b==0)=false:=by simpa using h0
    obtain⟨r1,r2,r3,r4⟩:=HRO.out h0
    obtain⟨l1,l2,l3⟩:=HTO.out.2 h0
    dsimp only at r1 r2 r3 r4 l1 l2
    obtain⟨m,rfl⟩:=c3v (show 0<=b by omega)
    obtain⟨d,rfl⟩:=c3v (show 0<=c by omega)
    rw[c3t] at l1 l2
    obtain⟨-,f2,-,-,f5,f6⟩:=a3B m (by omega) (by omega)
    obtain⟨g1,-,-,g4,g5⟩:=a3U d (by omega) (by omega)
    have HEB:Hid (tokB lit dist (a,(m:Int),(d:Int))=cbit lit (lsym m)++(vbits (a4P m) (lk m)++(cbit dist (dsym d)++vbits (a3u d) (dk d)))):=c3o (by
     unfold tokB behB
     rw[if_neg h0]
     simp only[c3t])
    have HLC:=c3o (fun w=>a5W w m (by omega) (by omega))
    have HDC:=c3o (fun w=>a4b w d (by omega) (by omega))
    obtain⟨y,M,sy⟩:=HSL.out (lsym m) l1
    obtain⟨z,Q,sz⟩:=HSD.out l3 (dsym d) l2
    have hS:lsym m<n1:=by rw[<-HL1.out];exact l1.1
    have hT2:dsym d<n2:=by rw[<-HL2.out];exact l2.1
    have hT:dsym d<nd:=by rw[HDL.out l3];exact hT2
    have SY:=c3o sy
    have SZ:=c3o sz
    have HV:Hid (((a4P m:Nat):Int)/2^lk m=0):=c3o (b4J f5)
    have HU:Hid (((a3u d:Nat):Int)/2^dk d=0):=c3o (b4J g4)
    have hV:a4P m<8192:=c3s f5 (b4s _ (by omega))
    have hU:a3u d<8192:=c3s g4 (b4s _ (by omega))
    clear l1 l2 l3 sy sz r1 r2 r3 r4 f2 f5 g1 g4 h0 HRO HTO
    generalize lsym m=S at *
    generalize a4P m=V at *
    generalize lk m=k at *
    generalize dsym d=T at *
    generalize a3u d=U at *
    generalize dk d=j at *
    go_wp2_with fail
    refine (HLC.out w20).mono ?_
    rintro _ w21 ⟨rfl,hd⟩
    have HL2:=c3o (HLS.out.keeps (hd.keeps (S:=[])))
    clear hd HLS b0 b1
    obtain⟨lb,lo,hA1,hlc⟩:=(HXB.out w21 HL2.out.be HL2.out.pt).at hS
    obtain⟨rb,ro,hAR,hrcc⟩:=(HCL.out w21 HL2.out.pt).at hS
    subst hA1
    subst hAR
    rw[SY.out.len] at hlc
    rw[SY.out.code] at hrcc
    go_wp2_with fail
    go_still_tail 9,(by kernel_rfl)
    change wpList _ _ _ _ _ w21.drew
    have HL3:=c3o (HL2.out.keeps (Keeps.refl [] w21).drew)
    clear HL2 hlc hrcc
    go_wp2_with fail
    refine (a0K _ g _ y M HL3.out.wt SY.out.lo SY.out.hi (by have:=SY.out.m15;omega) SY.out.top (by have:=HBL2.out;omega)).mono ?_
    rintro _ w22 ⟨rfl,hw22,hb22,hp22⟩
    rw[SY.out.bits] at hw22
    have HL4:=c3o (HL3.out.put hw22 hb22 hp22)
    have HLA:Hid ((cbit lit S).length<=15):=c3o (by rw[<-SY.out.bits,a0k];exact SY.out.m15)
    have HLD:Hid ((cbit dist T).length<=15):=c3o (by rw[<-SZ.out.bits,a0k];exact SZ.out.m15)
    clear hw22 hb22 hp22 HL3
    go_wp2_with fail
    refine (a0K _ g _ (V:Int) k HL4.out.wt (by omega) (by omega) (by omega) HV.out (by have:=HBL2.out;have:=HLA.out;rw[c3p];omega)).mono ?_
    rintro _ w23 ⟨rfl,hw23,hb23,hp23⟩
    have HL5:=c3o (HL4.out.put hw23 hb23 hp23)
    clear hw23 hb23 hp23 HL4
    have b2:=HL5.out.tk.cell 2
    simp only[tcells,c3q,c3w] at b2
    go_wp2_with fail
    refine (HDC.out w23).mono ?_
    rintro _ w24 ⟨rfl,hd⟩
    have HL6:=c3o (HL5.out.keeps (hd.keeps (S:=[])))
    clear hd HL5 b2
    obtain⟨db,do',hA2,hdc⟩:=(HYB.out w24 HL6.out.be HL6.out.pt).at hT2
    obtain⟨qb,qo,hAD,hqc⟩:=(HCD.out w24 HL6.out.pt).at hT
    subst hA2
    subst hAD
    rw[SZ.out.len] at hdc
    rw[SZ.out.code] at hqc
    go_wp2_with fail
    go_still_tail 9,(by kernel_rfl)
    change wpList _ _ _ _ _ w24.drew
    have HL7:=c3o (HL6.out.keeps (Keeps.refl [] w24).drew)
    clear HL6 hdc hqc
    go_wp2_with fail
    refine (a0K _ g _ z Q HL7.out.wt SZ.out.lo SZ.out.hi (by have:=SZ.out.m15;omega) SZ.out.top (by have:=HBL2.out;have:=HLA.out;simp only[c3p,a0k];omega)).mono ?_
    rintro _ w25 ⟨rfl,hw25,hb25,hp25⟩
    rw[SZ.out.bits] at hw25
    have HL8:=c3o (HL7.out.put hw25 hb25 hp25)
    clear hw25 hb25 hp25 HL7
    go_wp2_with fail
    refine (a0K _ g _ (U:Int) j HL8.out.wt (by omega) (by omega) (by omega) HU.out (by have:=HBL2.out;have:=HLA.out;have:=HLD.out;simp only[c3p,a0k];omega)).mono ?_
    rintro _ w26 ⟨rfl,hw26,hb26,hp26⟩
    have HL9:=c3o (HL8.out.put hw26 hb26 hp26)
    clear hw26 hb26 hp26 HL8
    go_wp2_with fail
    go_roundw
    case rel=>
     refine⟨p+1,by omega,by go_num,?_,c3o HL9.out.be,c3o HL9.out.pt⟩
     rw[HEN.out,HEB.out]
     have h:=HL9.out.wt
     simp only[c3x] at h ⊢
     exact c3o h
    case measure=>simp[intOf];omega
  ·obtain rfl:p=nt:=by omega
   have e5:decide (p<p)=false:=by simp
   obtain⟨y,M,sy⟩:=HSL.out 256 H256.out
   have SY:=c3o sy
   obtain⟨lb,lo,hA1,hlc⟩:=(HXB.out wr HBl.out HPl.out).at h256'
   obtain⟨rb,ro,hAR,hrcc⟩:=(HCL.out wr HPl.out).at h256'
   subst hA1
   subst hAR
   rw[sy.len] at hlc
   rw[sy.code] at hrcc
   rw[List.take_of_length_le (by have:=HLT.out;omega)] at HWl HLB
   clear sy
   have t3:(256:Int)<(n1:Int):=by omega
   have t4:decide ((256:Int)<(n1:Int))=true:=by simpa using t3
   go_wp2_with fail
   go_still_tail 7,(by kernel_rfl)
   change wpList _ _ _ _ _ wr.drew
   have hk:=(Keeps.refl [] wr).drew
   have HW2:=c3o (HWl.out.keeps hk (by simp))
   have HB2:=c3o (HBl.out.trans (a0p hk.below (c3y HWl.out.lt)))
   have HP2:=c3o (HPl.out.trans (PT.of_keeps hk))
   clear hk HWl HBl HPl hlc hrcc
   go_wp2_with fail
   refine (a0K _ g _ y M HW2.out SY.out.lo SY.out.hi (by have:=SY.out.m15;omega) SY.out.top (by have:=HB.out;have:=HLB.out;rw[c3p];omega)).mono ?_
   rintro _ w21 ⟨rfl,hw21,hb21,hp21⟩
   rw[SY.out.bits,c3x] at hw21
   have HL3:=c3o hw21
   have HB3:=c3o (HBW.out.trans (HB2.out.trans hb21))
   have HP3:=c3o (HPW.out.trans (HP2.out.trans hp21))
   clear hw21 hb21 hp21
   go_wp2_with fail
   go_end0
   exact⟨⟨_,rfl⟩,HL3.out,HB3.out,HP3.out⟩
open Go.RowKit
def Outp(w:World)(E:Int)(P:List Int->Prop)(e:Ending)(w':World):Prop:=
 (E=0/\∃ g n c xs,e=.returned (.tuple #[.slice (some ⟨g,0,none⟩) n c,.int .i64 0])/\RI .u8 w' (some ⟨g,0,none⟩) n xs/\w.heap.size<=g/\P xs/\Below w.heap.size w w'/\a4d (some ⟨g,0,none⟩) n c) ∨
 (E≠0/\e=.returned (.tuple #[.slice none 0 0,.int .i64 E])/\Below w.heap.size w w')
theorem c2o{w w':World}{g k:Nat}{t:TypeId}{cs:List Value}(ht:t≠5)(hk:k≠g)(h:Blk w k t cs)(hp:PT g w w'):Blk w' k t cs:=
 (hp.same k h.lt hk (fun ⟨c,f,hc⟩=>by
  have h2:w.heap[k]? =_:=h
  rw[h2] at hc
  injection hc with hc
  injection hc with _ h2 _
  exact ht h2)).trans h
theorem a7C{w w':World}{B n:Nat}{k:IntKind}{A:Option Addr}{xs:List Int}(h:RI k w A n xs)(ha:∀ a,A=some a->a.block<B)(hb:Below B w w'):RI k w' A n xs:=
 ⟨h.len,h.hd,fun b o e j hj=>by
  have h1:=h.cell b o e j hj
  exact (c3A (a:=⟨b,o+j,none⟩) (hb.block b (ha _ e))).trans h1⟩
theorem b4u{w w':World}{B n:Nat}{A:Option Addr}{ts:List Tok}(h:RT w A n ts)(ha:∀ a,A=some a->a.block<B)(hb:Below B w w'):RT w' A n ts:=
 ⟨h.len,h.hd,fun b o e j hj=>by
  obtain⟨h1,h2,h3⟩:=h.cell b o e j hj
  have hbb:=hb.block b (ha _ e)
  exact⟨(c3A (a:=⟨b,o+j*3,none⟩) hbb).trans h1,(c3A (a:=⟨b,o+j*3+1,none⟩) hbb).trans h2,(c3A (a:=⟨b,o+j*3+2,none⟩) hbb).trans h3⟩⟩
theorem c0z{g n:Nat}(h:n<=1000000):a4d (some ⟨g,0,none⟩) n n:=⟨c3E _,by unfold maxLen;omega,fun _=>⟨_,_,rfl⟩⟩
theorem a6E{w:World}{g n:Nat}{v:Int}(h:Blk w g 3 (ints .i64 (List.replicate n v))):RI .i64 w (some ⟨g,0,none⟩) n (List.replicate n v):=by
 have:=Blk.ri (xs:=List.replicate n v) (ys:=[]) (by rw[c3C];exact h)
 rwa [List.length_replicate] at this
theorem b0F(w:World)(At:Option Addr)(nt ct:Nat)(ts:List Tok)(ht:RT w At nt ts)(ha:∀ a,At=some a->a.block<w.heap.size)(hl:LitOk ts)(hn:nt<=140737488355328) :
  Calls Tryz.prog 42 #[.slice At nt ct] w (Outp w (a1D ts 0) (fun xs=>WB xs (fixB ts))):=by
 have HT:=c3o ht
 have HA:=c3o ha
 have HL:=c3o hl
 have HLT:Hid (ts.length=nt):=c3o ht.len
 clear ht ha hl
 go_enter Tryz.func42,Tryz.ntmps42
 go_wp2_with fail
 refine (a6g w At nt ct ts HT.out hn).mono ?_
 rintro _ w1 ⟨rfl,hk1⟩
 have K1:=c3o hk1
 clear hk1
 by_cases hE:a1D ts 0=0
 ·have HC:=c3o hE
  have HX0:Hid ((expandF 16384 ts []).2=0):=c3o ((a1x ts []).trans hE)
  have hmany:=a3Q hE
  rw[hE]
  clear hE
  have hnt:nt<=16384:=by rw[<-HLT.out];exact hmany
  go_wp2_with fail
  refine (a1g _ w1.heap.size 1 144 144 8 rfl (by simp) (by omega) (by omega)).mono ?_
  rintro _ w2 ⟨g1,rfl,hb1,hg1,hB1⟩
  have KK:Keeps [] w1 w2:=((Keeps.refl [] w1).alloc _).trans (Keeps.of_below hB1)
  have B1:=c3o hb1
  have K2:=c3o (K1.out.trans KK)
  clear hb1 hg1 hB1 KK
  go_wp2_with fail
  refine (a1g _ w2.heap.size 1 112 112 9 rfl (by simp) (by omega) (by omega)).mono ?_
  rintro _ w3 ⟨g2,rfl,hb1,hg1,hB1⟩
  have KK:Keeps [] w2 w3:=((Keeps.refl [] w2).alloc _).trans (Keeps.of_below hB1)
  have B2:=c3o hb1
  have B12:=c3o (B1.out.keeps KK (by simp))
  have K3:=c3o (K2.out.trans KK)
  clear hb1 hg1 hB1 KK
  go_wp2_with fail
  refine (a1g _ w3.heap.size 1 24 24 7 rfl (by simp) (by omega) (by omega)).mono ?_
  rintro _ w4 ⟨g3,rfl,hb1,hg1,hB1⟩
  have KK:Keeps [] w3 w4:=((Keeps.refl [] w3).alloc _).trans (Keeps.of_below hB1)
  have B3:=c3o hb1
  have B13:=c3o (B12.out.keeps KK (by simp))
  have B23:=c3o (B2.out.keeps KK (by simp))
  have K4:=c3o (K3.out.trans KK)
  clear hb1 hg1 hB1 KK
  go_wp2_with fail
  refine (a1g _ w4.heap.size 1 8 8 8 rfl (by simp) (by omega) (by omega)).mono ?_
  rintro _ w5 ⟨g4,rfl,hb1,hg1,hB1⟩
  have KK:Keeps [] w4 w5:=((Keeps.refl [] w4).alloc _).trans (Keeps.of_below hB1)
  have B4:=c3o hb1
  have B14:=c3o (B13.out.keeps KK (by simp))
  have B24:=c3o (B23.out.keeps KK (by simp))
  have B34:=c3o (B3.out.keeps KK (by simp))
  have K5:=c3o (K4.out.trans KK)
  clear hb1 hg1 hB1 KK B1 B12 B13 B2 B23 B3 K1 K2 K3 K4
  obtain⟨w6,hw6⟩:∃ x,x=w5.alloc (.cells #[.slice (some ⟨g1,0,none⟩) 144 144,.slice (some ⟨g2,0,none⟩) 112 112,.slice (some ⟨g3,0,none⟩) 24 24,.slice (some ⟨g4,0,none⟩) 8 8] 90):=⟨_,rfl⟩
  have hbx:Blk w6 w5.heap.size 90 [.slice (some ⟨g1,0,none⟩) 144 144,.slice (some ⟨g2,0,none⟩) 112 112,.slice (some ⟨g3,0,none⟩) 24 24,.slice (some ⟨g4,0,none⟩) 8 8]:=by rw[hw6];exact a0d w5 _ [.slice (some ⟨g1,0,none⟩) 144 144,.slice (some ⟨g2,0,none⟩) 112 112,.slice (some ⟨g3,0,none⟩) 24 24,.slice (some ⟨g4,0,none⟩) 8 8]
  have K6:=c3o (show Keeps [] w5 w6 by rw[hw6];exact (Keeps.refl [] w5).alloc _)
  have HCC:=c3o (a9f w6 w5.heap.size g1 g2 g3 g4 144 112 24 8 144 112 24 8 _ _ _ _ (hbx.cell 0) (hbx.cell 1) (hbx.cell 2) (hbx.cell 3) (a6E (B14.out.keeps K6.out (by simp))) (a6E (B24.out.keeps K6.out (by simp))) (a6E (B34.out.keeps K6.out (by simp))) (a6E (B4.out.keeps K6.out (by simp))) (by omega) (by omega) (by omega) (by omega))
  clear hbx B14 B24 B34 B4
  go_wp2_with fail
  change Calls _ _ _ (w5.alloc (.cells #[.slice (some ⟨g1,0,none⟩) 144 144,.slice (some ⟨g2,0,none⟩) 112 112,.slice (some ⟨g3,0,none⟩) 24 24,.slice (some ⟨g4,0,none⟩) 8 8] 90)) _
  rw[<-hw6]
  refine HCC.out.mono ?_
  rintro _ w7 ⟨vl,rfl,ho,hb⟩
  obtain⟨AL,cl,rfl⟩:=a0h ho
  have hol:w7.ownsRow w6.heap.size 3 1 (.slice AL 288 cl) 288 (ints .i64 fixLit):=ho
  have HOL:=c3o hol
  have K7:=c3o (K5.out.trans (K6.out.trans (Keeps.of_below hb)))
  clear hol ho hb HCC hw6 K5 K6
  go_wp2_with fail
  refine (a3D w7).mono ?_
  rintro _ w8 ⟨rfl,hwr,hb8⟩
  have HW:=c3o hwr
  have hg8:=hwr.lt
  have K8:=c3o (K7.out.trans (Keeps.of_below hb8))
  have HOL8:=c3o (a0b HOL.out (Keeps.of_below hb8 (S:=[])) (by simp))
  have HALo:Hid (∀ a,AL=some a->a.block<w7.heap.size):=c3o (fun a h=>(a2T HOL.out a.block (by rw[h];rfl)))
  have h7:=K7.out.size
  clear hwr hb8 HOL K7
  generalize w7.heap.size=g at *
  go_wp2_with fail
  refine (a0K _ g [] 1 1 HW.out (by omega) (by omega) (by omega) (by decide) (by simp)).mono ?_
  rintro _ w9 ⟨rfl,hw9,hb9,hp9⟩
  have HW9:=c3o hw9
  have HB9:=c3o hb9
  have HP9:=c3o hp9
  clear hw9 hb9 hp9 HW
  go_wp2_with fail
  refine (a0K _ g _ 1 2 HW9.out (by omega) (by omega) (by omega) (by decide) (by simp[a0k])).mono ?_
  rintro _ w10 ⟨rfl,hw10,hb10,hp10⟩
  have HW10:Hid (Wtr w10 g [1,1,0]):=c3o hw10
  have HB10:=c3o (HB9.out.trans hb10)
  have HP10:=c3o (HP9.out.trans hp10)
  clear hw10 hb10 hp10 HW9 HB9 HP9
  go_wp2_with fail
  refine (a1g _ w10.heap.size 1 32 32 5 rfl (by simp) (by omega) (by omega)).mono ?_
  rintro _ w11 ⟨g5,rfl,hb5,hg5,hB5⟩
  have KK:Keeps [] w10 w11:=((Keeps.refl [] w10).alloc _).trans (Keeps.of_below hB5)
  have HB5:=c3o hb5
  have hgl:=HW10.out.lt
  have hg5':g5≠g:=by simp at hg5;omega
  have HW11:=c3o (HW10.out.keeps KK (by simp))
  have HB11:=c3o (HB10.out.trans (a0p KK.below (c3y hgl)))
  have HP11:=c3o (HP10.out.trans (PT.of_keeps KK))
  clear hb5 hg5 hB5 KK HW10 HB10 HP10
  have hwg:w.heap.size<=g:=h7
  have hAt:∀ a,At=some a->a.block<g:=fun a h=>c3s (HA.out a h) hwg
  have HAL:=c3o hAt
  have HR8:=c3o (HT.out.keeps K8.out (a0a _))
  clear hAt
  go_wp2_with fail
  refine (a8m w11 g [1,1,0] At AL (some ⟨g5,0,none⟩) nt 288 32 ct cl 32 ts fixLit fixDist HW11.out (by simp) (fun w' h1 h2=>b4u HR8.out HAL.out (HB11.out.trans h1))
   (fun w' h1 h2=>?hx) (fun w' h1 h2=>a6E (c2o (by decide) hg5' HB5.out h2)) hnt (by omega) (by omega) b6J (a3x 256 (by decide)) (a9m HL.out HX0.out) (a1r ts [] HX0.out)).mono ?_
  case hx=>
   obtain⟨A',c',hv,hr,-⟩:=a0y HOL8.out
   injection hv with q1 q2 q3
   subst q1
   exact a7C hr HALo.out (HB11.out.trans h1)
  rintro _ w12 ⟨⟨v0,rfl⟩,hw12,hb12,hp12⟩
  have HW12:=c3o hw12
  have HB12:=c3o (HB11.out.trans hb12)
  have HLEN:Hid (([1,1,0]++(toksB fixLit fixDist ts++cbit fixLit 256):List Int).length<=1000000):=c3o (by
   have h1:=a5o (lit:=fixLit) (dist:=fixDist) ts (a9m HL.out HX0.out) (a1r ts [] HX0.out)
   have h2:=(a2d (a3x 256 (by decide))).2
   simp only[c3p,List.length_cons,List.length_nil];omega)
  clear hw12 hb12 hp12 HW11 HB11 HP11
  go_wp2_with fail
  refine (a6H w12 g _ HW12.out (by have:=HLEN.out;omega)).mono ?_
  rintro _ w13 ⟨n,xs,rfl,hri,hwb,hb13⟩
  have HRI:=c3o hri
  have HWB:=c3o hwb
  have HB13:=c3o (K8.out.below.trans (a0p (HB12.out.trans (a0p hb13 (c3D (c3y hg8) HB12.out.size))) hwg))
  have HSZ:=c3o (c3D (c3D hwg (c3y hg8)) HB12.out.size)
  clear hri hwb hb13
  go_wp2_with fail
  go_ret2
  exact .inl ⟨HC.out,_,_,_,_,rfl,HRI.out,HSZ.out,HWB.out,HB13.out,c0z (by have:=HRI.out.len;have:=HWB.out.len;have:=HLEN.out;omega)⟩
 ·have e1:(a1D ts 0 !=0)=true:=by simpa using hE
  have e2:decide (a1D ts 0=0)=false:=by simpa using hE
  have HE:=c3o hE
  clear hE
  go_wp2_with fail
  go_ret2
  exact .inr ⟨HE.out,rfl,K1.out.below⟩
open Go.RowKit
def c2k(w:World)(n:Nat)(xs:List Int)(e:Ending)(w':World):Prop:=
 (16384<n/\e=.returned (.tuple #[.slice none 0 0,.int .i64 2])/\Below w.heap.size w w') ∨
 (n<=16384/\∃ v,e=.returned (.tuple #[v,.int .i64 0])/\w'.ownsRow w.heap.size 5 1 v (5+n) (ints .u8 (storB 1 xs))/\AllU8 w' v/\Below w.heap.size w w')
theorem c1V(n:Nat)(h:n<=65535):Go.bits .xor .u16 IntKind.u16.max (n:Int)=65535-(n:Int):=by
 have e:(BitVec.ofInt 16 65535 ^^^ BitVec.ofNat 16 n).toNat=65535-n:=by
  rw[show BitVec.ofInt 16 65535=BitVec.allOnes 16 from rfl,BitVec.allOnes_xor,BitVec.toNat_not,BitVec.toNat_ofNat];omega
 simp only[Go.bits,BitVec.ofInt_natCast]
 show IntKind.u16.wrap ((BitVec.ofInt 16 65535 ^^^ BitVec.ofNat 16 n).toNat:Int)=_
 rw[e,IntWalk.u16_in _ (by omega)];omega
theorem b5O{n:Nat}{xs:List Int}{M:Int}(hl:xs.length=n)(hM:M=65535-(n:Int))(hn:n<=16384):[1,(n:Int)%256,(n:Int)/256,M%256,M/256%256]++xs=storB 1 xs:=by
 unfold storB
 rw[hl,show M%256=255-(n:Int)%256 by omega,show M/256%256=255-(n:Int)/256 by omega]
theorem a9j(w:World)(A:Option Addr)(n c:Nat)(xs:List Int)(hr:RI .u8 w A n xs)(hnil:A=none->n=0/\c=0) :
  Calls Tryz.prog 40 #[.slice A n c] w (c2k w n xs):=by
 have HR:=c3o hr
 have HN:=c3o hnil
 have HLN:Hid (xs.length=n):=c3o hr.len
 clear hr hnil
 by_cases hb:16384<n
 ·have x1:decide (16384<n)=true:=by simpa using hb
  have x2:decide ((16384:Int)<(n:Int))=true:=by simp;omega
  go_enter Tryz.func40,Tryz.ntmps40
  go_wp2_with fail
  go_ret2
  exact .inl ⟨hb,rfl,c3z _ _⟩
 ·have x1:decide (16384<n)=false:=by simpa using hb
  have x2:decide ((16384:Int)<(n:Int))=false:=by simp;omega
  have s0:IntKind.u16.wrap (n:Int)=(n:Int):=IntWalk.u16_in _ (by omega)
  have HM:=c3o (b5O HLN.out (c1V n (by omega)) (by omega))
  have hblk:=a0d w 5 (ints .u8 [1,(n:Int)%256,(n:Int)/256,Go.bits .xor .u16 IntKind.u16.max (n:Int)%256,Go.bits .xor .u16 IntKind.u16.max (n:Int)/256%256])
  have HO:=c3o (a4m (n:=5) (base:=w.heap.size) hblk rfl (c3E _) (by omega))
  have HR1:=c3o (HR.out.keeps ((Keeps.refl [] w).alloc (.cells (ints .u8 [1,(n:Int)%256,(n:Int)/256,Go.bits .xor .u16 IntKind.u16.max (n:Int)%256,Go.bits .xor .u16 IntKind.u16.max (n:Int)/256%256]).toArray 5)) (a0a _))
  have HU:Hid (AllU8 (w.alloc (.cells (ints .u8 [1,(n:Int)%256,(n:Int)/256,Go.bits .xor .u16 IntKind.u16.max (n:Int)%256,Go.bits .xor .u16 IntKind.u16.max (n:Int)/256%256]).toArray 5)) (.slice (some ⟨w.heap.size,0,none⟩) 5 5)):=c3o (fun k hk=>by
   simp only[Value.ownBlock,Option.some.injEq] at hk
   subst hk
   exact⟨_,hblk,fun u hu=>by rw[List.toList_toArray] at hu;exact a9t u hu⟩)
  clear hblk
  go_enter Tryz.func40,Tryz.ntmps40
  go_wp2_with (at_builtin;refine a8h rfl (.tmp 23) (.tmp 24) rfl w.heap.size (.slice (some ⟨w.heap.size,0,none⟩) 5 5) 5 [1,(n:Int)%256,(n:Int)/256,Go.bits .xor .u16 IntKind.u16.max (n:Int)%256,Go.bits .xor .u16 IntKind.u16.max (n:Int)/256%256] rfl (by exact HO.out) A n c xs rfl (by exact HR1.out) HN.out (by omega) (by simp) ?_)
  intro v' w' hown hg hwh hU
  have HOW:=c3o hown
  have HU2:=c3o (hU HU.out)
  have HBW:=c3o (((c3z w.heap.size w).alloc (c3E _) (.cells (ints .u8 [1,(n:Int)%256,(n:Int)/256,Go.bits .xor .u16 IntKind.u16.max (n:Int)%256,Go.bits .xor .u16 IntKind.u16.max (n:Int)/256%256]).toArray 5)).grown hg (by simp) (fun k hk=>by simp only[Value.ownBlock,Option.some.injEq] at hk;omega))
  clear hown hg hwh hU
  go_wp2_with fail
  go_ret2
  refine .inr ⟨by omega,_,rfl,?_,HU2.out,HBW.out⟩
  rw[<-HM.out]
  exact HOW.out
open Go.RowKit
theorem b7d:(ints .i64 (List.replicate 286 0)).set 256 (.int .i64 1)=ints .i64 (cntF 286 [256]):=by
 have h:=a2Q 286 [] 256 (by omega)
 rw[List.nil_append,a3R] at h
 have e:nth (List.replicate 286 (0:Int)) 256=0:=by decide +kernel
 rw[e] at h
 have h2:cntF 286 [256]=(List.replicate 286 0).set 256 1:=h
 rw[h2]
 simp only[ints,List.map_set]
theorem a6l{w:World}{g N:Nat}{S:List Int}{j:Nat}(h:Blk w g 3 (ints .i64 (cntF N S)))(hj:j<N):w.cell? ⟨g,j,none⟩=some (.int .i64 (nth (cntF N S) j)):=by
 rw[h.cell,a0f]
 have hl:=a1o N S
 simp[nth,List.getD,show j<(cntF N S).length by omega]
theorem b2j{w:World}{g N:Nat}{S:List Int}{j:Nat}(h:Blk w g 3 (ints .i64 (cntF N S)))(hj:j<N):Blk (w.setCell ⟨g,j,none⟩ (.int .i64 (nth (cntF N S) j+1))) g 3 (ints .i64 (cntF N (S++[(j:Int)]))):=by
 have:=h.set j (.int .i64 (nth (cntF N S) j+1))
 rwa [show (ints .i64 (cntF N S)).set j (.int .i64 (nth (cntF N S) j+1))=ints .i64 (cntF N (S++[(j:Int)])) by rw[a2Q N S j hj];simp[ints,List.map_set]] at this
theorem b5c(w:World)(At:Option Addr)(nt ct:Nat)(ts:List Tok)(hT:Tabs w)(ht:RT w At nt ts)(ha:∀ a,At=some a->a.block<w.heap.size)(hl:LitOk ts)(hn:nt<=140737488355328) :
  Calls Tryz.prog 44 #[.slice At nt ct] w (Outp w (a1D ts 0) (fun xs=>WB xs (dynB (dynLit ts) (dynDist ts) ts))):=by
 have HTB:=c3o hT
 have HT:=c3o ht
 have HA:=c3o ha
 have HL:=c3o hl
 have HLT:Hid (ts.length=nt):=c3o ht.len
 clear ht ha hl hT
 go_enter Tryz.func44,Tryz.ntmps44
 go_wp2_with fail
 refine (a6g w At nt ct ts HT.out hn).mono ?_
 rintro _ w1 ⟨rfl,hk1⟩
 have K1:=c3o hk1
 clear hk1
 by_cases hE:a1D ts 0=0
 ·have HC:=c3o hE
  have HX0:Hid ((expandF 16384 ts []).2=0):=c3o ((a1x ts []).trans hE)
  have hmany:=a3Q hE
  rw[hE]
  clear hE
  have hnt:nt<=16384:=by rw[<-HLT.out];exact hmany
  clear hmany
  go_upto_region 4 with (fail)
  obtain⟨z1,hz1⟩:∃ z,z=List.replicate 286 (0:Int):=⟨_,rfl⟩
  obtain⟨z2,hz2⟩:∃ z,z=List.replicate 30 (0:Int):=⟨_,rfl⟩
  have HZ1:=c3o hz1
  have HZ2:=c3o hz2
  clear hz1 hz2
  go_cut [5,6] (fun v5 v6 wc=>∃ g1 g2:Nat,v5=.slice (some ⟨g1,0,none⟩) 286 286/\v6=.slice (some ⟨g2,0,none⟩) 30 30/\g1≠g2/\w1.heap.size<=g1/\w1.heap.size<=g2/\Hid (Blk wc g1 3 (ints .i64 z1))/\Hid (Blk wc g2 3 (ints .i64 z2))/\Hid (Keeps [] w1 wc))
  case first=>
   have hmk1:=fun w=>a1h (P:=Tryz.prog) w 90 3 .i64 8 Tryz.underlying90 a1y 286 286 rfl (by omega) (by omega)
   have hmk2:=fun w=>a1h (P:=Tryz.prog) w 90 3 .i64 8 Tryz.underlying90 a1y 30 30 rfl (by omega) (by omega)
   rw[<-HZ1.out] at hmk1
   rw[<-HZ2.out] at hmk2
   go_region
   ·go_wp2_with fail
    go_meet
    refine⟨w1.heap.size,w1.heap.size+1,rfl,rfl,by omega,by omega,by omega,?_,?_,?_⟩
    ·exact c3o (((a0d w1 _ _).alloc _).drewN 1)
    ·exact c3o ((by have:=a0d (w1.alloc (.cells (ints .i64 z1).toArray 3)) 3 (ints .i64 z2);rwa [World.size_alloc] at this:Blk _ _ _ _).drewN 1)
    ·exact c3o (((Keeps.refl [] w1).alloc _).alloc _).drew
   ·go_wp2_with fail
    go_meet
    refine⟨w1.heap.size+1,w1.heap.size,rfl,rfl,by omega,by omega,by omega,?_,?_,?_⟩
    ·exact c3o ((by have:=a0d (w1.alloc (.cells (ints .i64 z2).toArray 3)) 3 (ints .i64 z1);rwa [World.size_alloc] at this:Blk _ _ _ _).drewN 1)
    ·exact c3o (((a0d w1 _ _).alloc _).drewN 1)
    ·exact c3o (((Keeps.refl [] w1).alloc _).alloc _).drew
  case rest=>
   obtain⟨g1,g2,rfl,rfl,hg12,hg1,hg2,HB1,HB2,HK⟩:=hcut
   have KC:=c3o (K1.out.trans HK.out)
   have hb1:Blk wc g1 3 (ints .i64 (List.replicate 286 0)):=by rw[<-HZ1.out];exact HB1.out
   have hb2:Blk wc g2 3 (ints .i64 (cntF 30 (([]:List Tok).flatMap a3b))):=by rw[List.flatMap_nil,a3R,<-HZ2.out];exact HB2.out
   have hc0:=hb1.cell 256
   rw[show (ints .i64 (List.replicate 286 0))[256]? =some (.int .i64 0) by simp only[ints,List.map_replicate];rw[List.getElem?_replicate];simp] at hc0
   have hf0:=hb1.frozen 256
   have hg1w:w.heap.size<=g1:=c3D K1.out.size hg1
   have hg2w:w.heap.size<=g2:=c3D K1.out.size hg2
   have HA1:Hid (Blk (wc.setCell ⟨g1,256,none⟩ (.int .i64 1)) g1 3 (ints .i64 (cntF 286 ([256]++([]:List Tok).map litS)))):=c3o (by
    have:=hb1.set 256 (.int .i64 1)
    rwa [b7d] at this)
   have HA2:Hid (Blk (wc.setCell ⟨g1,256,none⟩ (.int .i64 1)) g2 3 (ints .i64 (cntF 30 (([]:List Tok).flatMap a3b)))):=c3o (hb2.set_other (by show g2≠g1;omega) _)
   have HKA:Hid (Keeps [g1,g2] w (wc.setCell ⟨g1,256,none⟩ (.int .i64 1))):=c3o ((KC.out.mono (by simp)).setCell (p:=⟨g1,256,none⟩) (Or.inl (by simp)) _)
   have hg1c:=hb1.lt
   have hg2c:=hb2.lt
   clear hb1 hb2 HB1 HB2 HK KC HZ1 HZ2
   go_wp2_with fail
   clear hc0 hf0
   go_loopw [32] (fun iv wr=>∃ p:Nat,p<=nt/\iv=.int .i64 p/\Hid (Blk wr g1 3 (ints .i64 (cntF 286 ([256]++(ts.take p).map litS))))/\Hid (Blk wr g2 3 (ints .i64 (cntF 30 ((ts.take p).flatMap a3b))))/\Hid (Keeps [g1,g2] w wr)) (fun iv _=>nt-(intOf iv).toNat)
   case atStart=>exact⟨0,by omega,rfl,by rw[List.take_zero];exact HA1,by rw[List.take_zero];exact HA2,HKA⟩
   case round=>
    clear HA1 HA2 HKA
    obtain⟨p,hp,rfl,HB1,HB2,HK⟩:=hrel
    by_cases hlt:p<nt
    ·have e5:decide (p<nt)=true:=by simpa using hlt
     have hps:p<ts.length:=by rw[HLT.out];exact hlt
     have hrt:=HT.out.keeps HK.out (fun a ha hm=>by have:=HA.out a ha;simp at hm;omega)
     obtain⟨tb,to',hAt⟩:=hrt.hd (by omega)
     obtain⟨p0,p1,p2⟩:=hrt.cell tb to' hAt p hlt
     subst hAt
     have HLO:=c3o (HL.out _ (b0b hps))
     have HRO:=c3o (a1r ts [] HX0.out _ (b0b hps))
     have HS1:Hid ([256]++(ts.take (p+1)).map litS=([256]++(ts.take p).map litS)++[litS (tth ts p)]):=c3o (by rw[b0a hps,List.map_append,List.map_singleton,c3x])
     have HS2:Hid ((ts.take (p+1)).flatMap a3b=(ts.take p).flatMap a3b++a3b (tth ts p)):=c3o (by rw[b0a hps,List.flatMap_append,List.flatMap_singleton])
     have HLS:Hid (([256]++(ts.take p).map litS).length<=16385):=c3o (by simp;omega)
     have HLD:Hid (((ts.take p).flatMap a3b).length<=16385):=c3o (by have:=a6P (ts.take p);rw[List.length_take] at this;omega)
     clear hrt hps
     generalize tth ts p=t at *
     generalize [256]++(ts.take p).map litS=S at *
     generalize (ts.take p).flatMap a3b=D at *
     obtain⟨a,b,c⟩:=t
     dsimp only at p0 p1 p2
     have h1r:=HB1.out.lt
     have h2r:=HB2.out.lt
     obtain⟨gs,hgs⟩:∃ z,z=wr.heap.size:=⟨_,rfl⟩
     obtain⟨w20,hw20⟩:∃ z,z=wr.alloc (.cells #[.int .u8 a,.int .i64 b,.int .i64 c] 98):=⟨_,rfl⟩
     have ka:Keeps [] wr w20:=by rw[hw20];exact (Keeps.refl [] wr).alloc _
     have HBX:Hid (Blk w20 gs 98 [.int .u8 a,.int .i64 b,.int .i64 c]):=c3o (by rw[hw20,hgs];exact a0d wr _ [.int .u8 a,.int .i64 b,.int .i64 c])
     have C1:=c3o (HB1.out.keeps ka (by simp))
     have C2:=c3o (HB2.out.keeps ka (by simp))
     have CK:=c3o (HK.out.trans (ka.mono (by simp)))
     have hgs1:gs≠g1:=by omega
     have hgs2:gs≠g2:=by omega
     go_upto_region 9 with (fail)
     change Code.wp _ _ _ _ (wr.alloc (.cells #[.int .u8 a,.int .i64 b,.int .i64 c] 98))
     rw[<-hw20,<-hgs]
     clear ka HB1 HB2 HK p0 p1 p2 hw20 hgs e5 h1r h2r
     have b0:=HBX.out.cell 0
     have b1:=HBX.out.cell 1
     simp only[c3q,c3w] at b0 b1
     by_cases h0:b=0
     ·subst h0
      obtain⟨l0,l1⟩:=HLO.out
      dsimp only at l0 l1
      obtain⟨j,rfl⟩:=c3v l0
      have hj:j<286:=by omega
      have cc:=a6l C1.out hj
      have cf:=C1.out.frozen j
      have HE1:=c3o (b2j C1.out hj)
      obtain⟨n0,n1⟩:=a5T 286 S j hj
      have HEL:Hid (litS ((j:Int),(0:Int),c)=(j:Int)):=c3o (by unfold litS;rw[if_pos rfl,c3t])
      have HED:Hid (a3b ((j:Int),(0:Int),c)=[]):=c3o (if_pos rfl)
      have s1:IntKind.i64.wrap (nth (cntF 286 S) j+1)=nth (cntF 286 S) j+1:=c3u _ (by have:=HLS.out;omega)
      have t0:IntKind.i64.wrap (j:Int)=(j:Int):=c3u _ (by omega)
      have t1:decide ((j:Int)<286)=true:=by simp;omega
      generalize nth (cntF 286 S) j=v at *
      go_wp2_with fail
      go_roundw
      case rel=>
       refine⟨p+1,by omega,by go_num,?_,?_,c3o (CK.out.setCell (p:=⟨g1,j,none⟩) (Or.inl (by simp)) _)⟩
       ·rw[HS1.out,HEL.out];exact HE1
       ·rw[HS2.out,HED.out,c3C];exact c3o (C2.out.set_other (by show g2≠g1;omega) _)
      case measure=>simp[intOf];omega
     ·have x0:decide (b=0)=false:=by simpa using h0
      have x0':(b==0)=false:=by simpa using h0
      obtain⟨r1,r2,r3,r4⟩:=HRO.out h0
      dsimp only at r1 r2 r3 r4
      obtain⟨m,rfl⟩:=c3v (show 0<=b by omega)
      obtain⟨d,rfl⟩:=c3v (show 0<=c by omega)
      obtain⟨-,f2,-⟩:=a3B m (by omega) (by omega)
      obtain⟨f3,-⟩:=a3U d (by omega) (by omega)
      have HLC:=c3o (fun w=>a5W w m (by omega) (by omega))
      have HDC:=c3o (fun w=>a4b w d (by omega) (by omega))
      have HEL:Hid (litS (a,(m:Int),(d:Int))=(lsym m:Int)):=c3o (by unfold litS;rw[if_neg h0,c3t])
      have HED:Hid (a3b (a,(m:Int),(d:Int))=[(dsym d:Int)]):=c3o (by unfold a3b;rw[if_neg h0,c3t])
      have hj:lsym m<286:=by omega
      have hi:dsym d<30:=by omega
      clear r1 r2 r3 r4 f2 f3 h0 HRO
      generalize lsym m=j at *
      generalize a4P m=q1 at *
      generalize lk m=q2 at *
      generalize dsym d=i at *
      generalize a3u d=q3 at *
      generalize dk d=q4 at *
      go_wp2_with fail
      refine (HLC.out w20).mono ?_
      rintro _ w21 ⟨rfl,hd⟩
      have hk:=hd.keeps (S:=[])
      have b2:=(HBX.out.keeps hk (by simp)).cell 2
      simp only[c3q,c3w] at b2
      have D1:=c3o (C1.out.keeps hk (by simp))
      have D2:=c3o (C2.out.keeps hk (by simp))
      have DK:=c3o (CK.out.trans (hk.mono (by simp)))
      clear hk hd C1 C2 CK b0 b1 HBX
      go_wp2_with fail
      refine (HDC.out w21).mono ?_
      rintro _ w22 ⟨rfl,hd⟩
      have hk:=hd.keeps (S:=[])
      have E1:=c3o (D1.out.keeps hk (by simp))
      have E2:=c3o (D2.out.keeps hk (by simp))
      have EK:=c3o (DK.out.trans (hk.mono (by simp)))
      clear hk hd D1 D2 DK b2
      have cc:=a6l E1.out hj
      have cf:=E1.out.frozen j
      have HE1:=c3o (b2j E1.out hj)
      have HE2:=c3o (E2.out.set_other (a:=⟨g1,j,none⟩) (by show g2≠g1;omega) (.int .i64 (nth (cntF 286 S) j+1)))
      have HEK:=c3o (EK.out.setCell (p:=⟨g1,j,none⟩) (Or.inl (by simp)) (.int .i64 (nth (cntF 286 S) j+1)))
      obtain⟨n0,n1⟩:=a5T 286 S j hj
      obtain⟨n2,n3⟩:=a5T 30 D i hi
      have s1:IntKind.i64.wrap (nth (cntF 286 S) j+1)=nth (cntF 286 S) j+1:=c3u _ (by have:=HLS.out;omega)
      have s2:IntKind.i64.wrap (nth (cntF 30 D) i+1)=nth (cntF 30 D) i+1:=c3u _ (by have:=HLD.out;omega)
      have dc:=a6l E2.out hi
      have df:=E2.out.frozen i
      have dc2:=a6l HE2.out hi
      have df2:=HE2.out.frozen i
      have HF2:=c3o (b2j HE2.out hi)
      have HF1:=c3o (HE1.out.set_other (a:=⟨g2,i,none⟩) (by show g1≠g2;omega) (.int .i64 (nth (cntF 30 D) i+1)))
      have HFK:=c3o (HEK.out.setCell (p:=⟨g2,i,none⟩) (Or.inl (by simp)) (.int .i64 (nth (cntF 30 D) i+1)))
      have t1:decide ((j:Int)<286)=true:=by simp;omega
      have t2:decide ((i:Int)<30)=true:=by simp;omega
      generalize nth (cntF 286 S) j=v at *
      generalize nth (cntF 30 D) i=u at *
      clear E1 E2 EK HE1 HE2 HEK
      go_wp2_with fail
      go_roundw
      case rel=>
       refine⟨p+1,by omega,by go_num,?_,?_,HFK⟩
       ·rw[HS1.out,HEL.out];exact HF1
       ·rw[HS2.out,HED.out];exact HF2
      case measure=>simp[intOf];omega
    ·obtain rfl:p=nt:=by omega
     have e5:decide (p<p)=false:=by simp
     rw[List.take_of_length_le (by have:=HLT.out;omega)] at HB1 HB2
     obtain⟨hcod,htk,hlim1,hlim2,hlen1,hlen2⟩:=a6R HL.out HX0.out (by rw[HLT.out];exact hnt)
     have HCOD:=c3o hcod
     have HTK:=c3o htk
     have HLIM1:=c3o hlim1
     have HLIM2:=c3o hlim2
     have HLEN1:=c3o hlen1
     have HLEN2:=c3o hlen2
     have R1:Hid (RI .i64 wr (some ⟨g1,0,none⟩) 286 (litC ts)):=c3o (by
      have:=Blk.ri (xs:=litC ts) (ys:=[]) (by rw[c3C];exact HB1.out)
      rwa [show (litC ts).length=286 from a1o _ _] at this)
     have R2:Hid (RI .i64 wr (some ⟨g2,0,none⟩) 30 (distC ts)):=c3o (by
      have:=Blk.ri (xs:=distC ts) (ys:=[]) (by rw[c3C];exact HB2.out)
      rwa [show (distC ts).length=30 from a1o _ _] at this)
     have hgt:=HTB.out.size
     have TW:Hid (Tabs wr):=c3o (HTB.out.keeps HK.out (by intro x hx;simp at hx;omega))
     have TT:Hid (RT wr At p ts):=c3o (HT.out.keeps HK.out (fun a ha hm=>by have:=HA.out a ha;simp at hm;omega))
     have HBL:Hid (Below w.heap.size w wr):=c3o (a0c HK.out (c3E _) (fun x hx=>by simp at hx;omega))
     have hwr:=HK.out.size
     clear hcod htk hlim1 hlim2 hlen1 hlen2 HB1 HB2 HK
     go_wp2_with fail
     refine (a4k wr _ _ _ (litC ts) 15 R1.out).mono ?_
     rw[HLIM1.out]
     rintro _ w2 ⟨vl,rfl,ho,hb⟩
     dsimp only at ho
     rw[HLEN1.out] at ho
     obtain⟨AL,cl,rfl⟩:=a0h ho
     have hk2:=Keeps.of_below hb (S:=[])
     have HOL:=c3o ho
     have R22:=c3o (R2.out.keeps hk2 (a0a _))
     have KW:=c3o hk2
     clear ho hb hk2 R1 R2
     go_wp2_with fail
     refine (a4k w2 _ _ _ (distC ts) 15 R22.out).mono ?_
     rw[HLIM2.out]
     rintro _ w3 ⟨vd,rfl,ho,hb⟩
     dsimp only at ho
     rw[HLEN2.out] at ho
     obtain⟨AD,cd,rfl⟩:=a0h ho
     have hk3:=Keeps.of_below hb (S:=[])
     have HOD:=c3o ho
     have HOL3:=c3o (a0b HOL.out hk3 (by simp))
     have hs2:=KW.out.size
     have KW3:=c3o (KW.out.trans hk3)
     clear ho hb hk3 HOL R22 KW
     go_wp2_with fail
     refine (a3D w3).mono ?_
     rintro _ w8 ⟨rfl,hwt,hb8⟩
     have HW:=c3o hwt
     have hg8:=hwt.lt
     have K8:=c3o (KW3.out.trans (Keeps.of_below hb8))
     have OL8:=c3o (a0b HOL3.out (Keeps.of_below hb8 (S:=[])) (by simp))
     have OD8:=c3o (a0b HOD.out (Keeps.of_below hb8 (S:=[])) (by simp))
     have HALo:Hid (∀ a,AL=some a->a.block<w3.heap.size):=c3o (fun a h=>(a2T HOL3.out a.block (by rw[h];rfl)))
     have HADo:Hid (∀ a,AD=some a->a.block<w3.heap.size):=c3o (fun a h=>(a2T HOD.out a.block (by rw[h];rfl)))
     have h7:=KW3.out.size
     clear hwt hb8 HOL3 HOD KW3
     generalize w3.heap.size=g at *
     go_wp2_with fail
     refine (a0K _ g [] 1 1 HW.out (by omega) (by omega) (by omega) (by decide) (by simp)).mono ?_
     rintro _ w9 ⟨rfl,hw9,hb9,hp9⟩
     have HW9:=c3o hw9
     have HB9:=c3o hb9
     have HP9:=c3o hp9
     clear hw9 hb9 hp9 HW
     go_wp2_with fail
     refine (a0K _ g _ 2 2 HW9.out (by omega) (by omega) (by omega) (by decide) (by simp[a0k])).mono ?_
     rintro _ w10 ⟨rfl,hw10,hb10,hp10⟩
     have HW10:Hid (Wtr w10 g [1,0,1]):=c3o hw10
     have HB10:=c3o (HB9.out.trans hb10)
     have HP10:=c3o (HP9.out.trans hp10)
     have HXL:Hid (∀ w',Below g w10 w'->PT g w10 w'->RI .i64 w' AL 286 (dynLit ts)):=c3o (fun w' h1 h2=>by
      obtain⟨A',c',hv,hr,-⟩:=a0y OL8.out
      injection hv with q1 q2 q3
      subst q1
      exact a7C hr HALo.out (HB10.out.trans h1))
     have HXD:Hid (∀ w',Below g w10 w'->PT g w10 w'->RI .i64 w' AD 30 (dynDist ts)):=c3o (fun w' h1 h2=>by
      obtain⟨A',c',hv,hr,-⟩:=a0y OD8.out
      injection hv with q1 q2 q3
      subst q1
      exact a7C hr HADo.out (HB10.out.trans h1))
     have hwg:w.heap.size<=g:=c3D hwr h7
     have HXT:Hid (∀ w',Below g w10 w'->PT g w10 w'->RT w' At p ts):=c3o (fun w' h1 h2=>b4u (TT.out.keeps K8.out (a0a _)) (fun a h=>c3s (HA.out a h) hwg) (HB10.out.trans h1))
     have TW10:=c3o ((TW.out.keeps K8.out (by simp)).below HB10.out (show gtop<=g by omega))
     have HBB:Hid (Below w.heap.size w w10):=c3o ((HBL.out.trans (a0p K8.out.below hwr)).trans (a0p HB10.out hwg))
     clear hw10 hb10 hp10 HW9 HB9 HP9 OL8 OD8 HB10 HP10 K8 TW TT HBL
     go_wp2_with fail
     refine (b3D w10 g [1,0,1] AL AD 286 30 cl cd (dynLit ts) (dynDist ts) TW10.out (by omega) HW10.out (by simp) (HXL.out _ (c3z _ _) (PT.refl _ _)) (HXD.out _ (c3z _ _) (PT.refl _ _))).mono ?_
     rintro e w11 hwr11
     obtain⟨rfl,hw11,hb11,hp11⟩:e=.returned (.int .i64 0)/\Wtr w11 g ([1,0,1]++a2p (dynLit ts) (dynDist ts))/\Below g w10 w11/\PT g w10 w11:=by
      rcases hwr11 with⟨_,h⟩|⟨h,_⟩
      ·exact h
      ·exact absurd HCOD.out.may h
     have HW11:=c3o hw11
     have HB11:=c3o hb11
     have HP11:=c3o hp11
     have HHL:Hid (([1,0,1]++a2p (dynLit ts) (dynDist ts):List Int).length<=5000):=c3o (by
      have:=HCOD.out.may.len
      rw[HLEN1.out,HLEN2.out] at this
      simp only[c3p,List.length_cons,List.length_nil];omega)
     have HTL:Hid ((toksB (dynLit ts) (dynDist ts) ts++cbit (dynLit ts) 256).length<=800000):=c3o (by
      have h1:=a5o (lit:=dynLit ts) (dist:=dynDist ts) ts HTK.out (a1r ts [] HX0.out)
      have h2:=(a2d HCOD.out.stop).2
      have h3:=HLT.out
      simp only[c3p];omega)
     clear hw11 hb11 hp11 hwr11 HW10 TW10
     go_wp2_with fail
     refine (a8m w11 g _ At AL AD p 286 30 ct cl cd ts (dynLit ts) (dynDist ts) HW11.out (by have:=HHL.out;omega) (fun w' h1 h2=>HXT.out w' (HB11.out.trans h1) (HP11.out.trans h2)) (fun w' h1 h2=>HXL.out w' (HB11.out.trans h1) (HP11.out.trans h2)) (fun w' h1 h2=>HXD.out w' (HB11.out.trans h1) (HP11.out.trans h2)) hnt (by omega) (by omega) HCOD.out.litC HCOD.out.stop HTK.out (a1r ts [] HX0.out)).mono ?_
     rintro _ w12 ⟨⟨v0,rfl⟩,hw12,hb12,hp12⟩
     rw[c3x] at hw12
     have HW12:=c3o hw12
     have HB12:=c3o (HB11.out.trans hb12)
     have h12:=hw12.lt
     clear hw12 hb12 hp12 HW11 HB11 HP11
     go_wp2_with fail
     refine (a6H w12 g _ HW12.out (by have:=HHL.out;have:=HTL.out;rw[<-c3x,c3p];omega)).mono ?_
     rintro _ w13 ⟨n,xs,rfl,hri,hwb,hb13⟩
     have HRI:=c3o hri
     have HWB:=c3o hwb
     have HB13:=c3o (HBB.out.trans (a0p (HB12.out.trans (a0p hb13 (c3y h12))) hwg))
     clear hri hwb hb13
     go_wp2_with fail
     go_ret2
     exact .inl ⟨HC.out,_,_,_,_,rfl,HRI.out,by omega,HWB.out,HB13.out,c0z (by have h1:=HRI.out.len;have h2:=HWB.out.len;have h3:=HHL.out;have h4:=HTL.out;rw[<-c3x,c3p] at h2;omega)⟩
 ·have e1:(a1D ts 0 !=0)=true:=by simpa using hE
  have e2:decide (a1D ts 0=0)=false:=by simpa using hE
  have HE:=c3o hE
  clear hE
  go_wp2_with fail
  go_ret2
  exact .inr ⟨HE.out,rfl,K1.out.below⟩
open Go.RowKit
theorem b5Y(w:World)(B:Nat)(A:Option Addr)(n c:Nat)(xs:List Int)(hB:w.cell? ⟨B,0,none⟩=some (.slice A n c))(hr:RI .u8 w A n xs)(hnil:A=none->n=0/\c=0) :
  Calls Tryz.prog 39 #[.pointer (some ⟨B,0,none⟩)] w (c2k w n xs):=by
 have HR:=c3o hr
 have HN:=c3o hnil
 clear hr hnil
 go_enter Tryz.func39,Tryz.ntmps39
 go_wp2_with fail
 refine (a9j w A n c xs HR.out HN.out).mono ?_
 rintro e w' (⟨h1,rfl,h2⟩|⟨h1,v,rfl,h2⟩)
 ·have H2:=c3o h2
  clear h2
  go_wp2_with fail
  go_ret2
  exact .inl ⟨h1,rfl,H2.out⟩
 ·have H2:=c3o h2
  clear h2
  go_wp2_with fail
  go_ret2
  exact .inr ⟨h1,v,rfl,H2.out⟩
theorem b5Z(w:World)(B:Nat)(At:Option Addr)(nt ct:Nat)(ts:List Tok)(hB:w.cell? ⟨B,0,none⟩=some (.slice At nt ct))(ht:RT w At nt ts)(ha:∀ a,At=some a->a.block<w.heap.size)(hl:LitOk ts)(hn:nt<=140737488355328) :
  Calls Tryz.prog 41 #[.pointer (some ⟨B,0,none⟩)] w (Outp w (a1D ts 0) (fun xs=>WB xs (fixB ts))):=by
 have HC:=c3o (b0F w At nt ct ts ht ha hl hn)
 clear ht ha hl
 go_enter Tryz.func41,Tryz.ntmps41
 go_wp2_with fail
 refine HC.out.mono ?_
 rintro e w' (⟨h1,g,n,c,xs,rfl,h2⟩|⟨h1,rfl,h2⟩)
 ·have H2:=c3o h2
  have H1:=c3o h1
  clear h2 h1
  go_wp2_with fail
  go_ret2
  exact .inl ⟨H1.out,_,_,_,_,rfl,H2.out⟩
 ·have H2:=c3o h2
  have H1:=c3o h1
  clear h2 h1
  go_wp2_with fail
  go_ret2
  exact .inr ⟨H1.out,rfl,H2.out⟩
theorem b6a(w:World)(B:Nat)(At:Option Addr)(nt ct:Nat)(ts:List Tok)(hT:Tabs w)(hB:w.cell? ⟨B,0,none⟩=some (.slice At nt ct))(ht:RT w At nt ts)(ha:∀ a,At=some a->a.block<w.heap.size)(hl:LitOk ts)(hn:nt<=140737488355328) :
  Calls Tryz.prog 43 #[.pointer (some ⟨B,0,none⟩)] w (Outp w (a1D ts 0) (fun xs=>WB xs (dynB (dynLit ts) (dynDist ts) ts))):=by
 have HC:=c3o (b5c w At nt ct ts hT ht ha hl hn)
 clear ht ha hl hT
 go_enter Tryz.func43,Tryz.ntmps43
 go_wp2_with fail
 refine HC.out.mono ?_
 rintro e w' (⟨h1,g,n,c,xs,rfl,h2⟩|⟨h1,rfl,h2⟩)
 ·have H2:=c3o h2
  have H1:=c3o h1
  clear h2 h1
  go_wp2_with fail
  go_ret2
  exact .inl ⟨H1.out,_,_,_,_,rfl,H2.out⟩
 ·have H2:=c3o h2
  have H1:=c3o h1
  clear h2 h1
  go_wp2_with fail
  go_ret2
  exact .inr ⟨H1.out,rfl,H2.out⟩
def c2W(w:World)(n:Nat)(xs:List Int)(e:Ending)(w':World):Prop:=
 (16384<n/\e=.returned (.tuple #[.slice none 0 0,.int .i64 2])/\Below w.heap.size w w') ∨
 (n<=16384/\∃ g m c ys,e=.returned (.tuple #[.slice (some ⟨g,0,none⟩) m c,.int .i64 0])/\RI .u8 w' (some ⟨g,0,none⟩) m ys/\w.heap.size<=g/\Defl xs ys/\Below w.heap.size w w'/\a4d (some ⟨g,0,none⟩) m c)
theorem b9O{w:World}{base n size:Nat}{e:TypeId}{v:Value}{xs:List Value}(h:w.ownsRow base e size v n xs)(hn:0<n):∃ g c,v=.slice (some ⟨g,0,none⟩) n c/\base<=g:=by
 rcases h.2 with⟨rfl,h0⟩|⟨g,cap,cur,rfl,hb,_⟩
 ·omega
 ·exact⟨g,cap,rfl,hb⟩
theorem a9h(w:World)(A:Option Addr)(n c:Nat)(xs:List Int)(hT:Tabs w)(hr:RI .u8 w A n xs)(hnil:A=none->n=0/\c=0)(ha:∀ a,A=some a->a.block<w.heap.size)(hb:∀ j,0<=nth xs j/\nth xs j<=255) :
  Calls Tryz.prog 15 #[.slice A n c] w (c2W w n xs):=by
 have HT:=c3o hT
 have HR:=c3o hr
 have HN:=c3o hnil
 have HA:=c3o ha
 have HB:=c3o hb
 have HL:Hid (xs.length=n):=c3o hr.len
 have ka:Keeps [] w (w.alloc (.cells #[.slice A n c] 26)):=(Keeps.refl [] w).alloc _
 have kb:Below w.heap.size w (w.alloc (.cells #[.slice A n c] 26)):=(c3z _ w).alloc (c3E _) _
 clear hT hr hnil ha hb
 by_cases hbig:16384<n
 ·have x1:decide (16384<n)=true:=by simpa using hbig
  have x2:decide ((16384:Int)<(n:Int))=true:=by simp;omega
  go_enter Tryz.func15,Tryz.ntmps15
  go_wp2_with fail
  go_ret2
  exact .inl ⟨hbig,rfl,kb⟩
 ·have x1:decide (16384<n)=false:=by simpa using hbig
  have x2:decide ((16384:Int)<(n:Int))=false:=by simp;omega
  have hn:n<=16384:=by omega
  have hmf:∀ (fn:Fn) (first cap:Array Value) (w:World),(Instr.makeFunc fn first cap).run Tryz.prog w=.ok (.func fn first cap) w:=fun _ _ _ _=>rfl
  have HFC:=c3o (b5d _ A n c xs (HR.out.keeps ka (a0a _)) HN.out hn HB.out)
  have hbx:=a0d w 26 [.slice A n c]
  have HBX:=c3o hbx
  have KA:=c3o ka
  clear hbig ka kb hbx
  go_enter Tryz.func15,Tryz.ntmps15
  go_wp2_with fail
  refine HFC.out.mono ?_
  rintro _ w2 ⟨vt,rfl,hot,hbt⟩
  obtain⟨At,ct,rfl⟩:=a0h hot
  have hxp:=a5n (xs:=xs) (most:=16384) (by have:=HL.out;omega) (by have:=HL.out;omega)
  have hn0:=fun (w:World)=>run_eql_nil_slice (P:=Tryz.prog) w 26 5 none 0 0 0 0 Tryz.underlying26
  have hn1:=fun (w:World) (g n c:Nat)=>run_eql_nil_slice (P:=Tryz.prog) w 26 5 (some ⟨g,0,none⟩) n c 0 0 Tryz.underlying26
  have hn2:=fun (w:World) (g n c:Nat)=>Lib.run_eql_slice_nil (P:=Tryz.prog) w 26 5 (some ⟨g,0,none⟩) n c 0 0 Tryz.underlying26
  have HCK:Hid (a1D (tokensF xs) 0=0):=c3o (by rw[<-show (expandF 16384 (tokensF xs) []).2=a1D (tokensF xs) 0 from a1x _ _,hxp])
  have HLI:Hid (LitOk (tokensF xs)):=c3o (a4G HB.out _ _)
  have hmany:=a3Q HCK.out
  have KB:=c3o (KA.out.trans (Keeps.of_below hbt))
  have HBX2:=c3o (HBX.out.keeps (Keeps.of_below hbt (S:=[])) (by simp))
  have HOT:=c3o hot
  have hs2:=KB.out.size
  have hs3:w.heap.size<w2.heap.size:=HBX2.out.lt
  clear hot hbt hxp HFC KA HBX
  generalize hts:tokensF xs=ts at *
  have HTS:=c3o hts
  generalize hnt:ts.length=nt at *
  clear hts
  go_wp2_with fail
  refine wp_loop_rounds 4 ?_
  rw[c3B]
  obtain⟨w4,hw4⟩:∃ x,x=(w2.alloc (.cells #[.slice At nt ct] 68)).alloc (.cells #[.func (.func 39) #[] #[.pointer (some ⟨w.heap.size,0,none⟩)],.func (.func 41) #[] #[.pointer (some ⟨w2.heap.size,0,none⟩)],.func (.func 43) #[] #[.pointer (some ⟨w2.heap.size,0,none⟩)]] 70):=⟨_,rfl⟩
  rw[<-hw4]
  obtain⟨f1,hf1⟩:∃ x,x=Value.func (.func 39) #[] #[.pointer (some ⟨w.heap.size,0,none⟩)]:=⟨_,rfl⟩
  have k23:Keeps [] w2 (w2.alloc (.cells #[.slice At nt ct] 68)):=(Keeps.refl [] w2).alloc _
  have hsz:(w2.alloc (.cells #[.slice At nt ct] 68)).heap.size=w2.heap.size+1:=by simp
  have k34:Keeps [] (w2.alloc (.cells #[.slice At nt ct] 68)) w4:=by rw[hw4];exact (Keeps.refl [] _).alloc _
  have K24:=c3o (k23.trans k34)
  have T4:=c3o ((a0d w2 68 [.slice At nt ct]).keeps k34 (by simp))
  have F4:Hid (Blk w4 (w2.heap.size+1) 70 [.func (.func 39) #[] #[.pointer (some ⟨w.heap.size,0,none⟩)],.func (.func 41) #[] #[.pointer (some ⟨w2.heap.size,0,none⟩)],.func (.func 43) #[] #[.pointer (some ⟨w2.heap.size,0,none⟩)]]):=c3o (by
   have:=a0d (w2.alloc (.cells #[.slice At nt ct] 68)) 70 [.func (.func 39) #[] #[.pointer (some ⟨w.heap.size,0,none⟩)],.func (.func 41) #[] #[.pointer (some ⟨w2.heap.size,0,none⟩)],.func (.func 43) #[] #[.pointer (some ⟨w2.heap.size,0,none⟩)]]
   rw[hsz] at this
   rw[hw4];exact this)
  have hs4:w2.heap.size+2<=w4.heap.size:=by rw[hw4];simp
  clear k23 k34 hsz hw4 hf1 hmf f1
  have hc1:=F4.out.cell 0
  simp only[c3q] at hc1
  have K04:=c3o (KB.out.trans K24.out)
  have HW1:=c3o (b5Y w4 w.heap.size A n c xs (by have:=(HBX2.out.keeps K24.out (by simp)).cell 0;simpa using this) (HR.out.keeps K04.out (a0a _)) HN.out)
  have HBW:Hid (Below w.heap.size w w4):=c3o K04.out.below
  go_wp2_with fail
  refine HW1.out.mono ?_
  rintro e w5 (⟨h1,_⟩|⟨-,v1,rfl,ho1,-,hb1⟩)
  ·omega
  obtain⟨g1,m1,rfl,hg1⟩:=b9O ho1 (by omega)
  have hri1:RI .u8 w5 (some ⟨g1,0,none⟩) (5+n) (storB 1 xs):=by
   obtain⟨A',c',hv,hr,-⟩:=a0y ho1
   injection hv with q1 q2 q3
   subst q1
   exact hr
  have HR1:=c3o hri1
  have HO1:=c3o ho1
  have k45:=Keeps.of_below hb1 (S:=[])
  have F5:=c3o (F4.out.keeps k45 (by simp))
  have T5:=c3o (T4.out.keeps k45 (by simp))
  have K05:=c3o (K04.out.trans k45)
  have K25:=c3o (K24.out.trans k45)
  have hs5:=k45.size
  have CAP1:=c3o (a9D ho1)
  clear hc1 k45 hri1 ho1 hb1 HW1 F4 T4 K04 K24
  go_wp2_with fail
  rw[c3B]
  have hc2:=F5.out.cell 1
  simp only[c3q,c3w] at hc2
  have hAlo:∀ a,At=some a->a.block<w2.heap.size:=fun a h=>a2T HOT.out a.block (by rw[h];rfl)
  have HALO:=c3o hAlo
  have HRT:Hid (RT w2 At nt ts):=c3o (by
   obtain⟨A',c',hv,hr,-⟩:=c2G HOT.out
   injection hv with q1 q2 q3
   subst q1
   exact hr)
  have HW2:=c3o (b5Z w5 w2.heap.size At nt ct ts (by have:=T5.out.cell 0;simpa using this) (HRT.out.keeps K25.out (a0a _)) (fun a h=>c3s (HALO.out a h) K25.out.size) HLI.out (by omega))
  clear hAlo
  go_wp2_with fail
  refine HW2.out.mono ?_
  rintro e w6 (⟨-,g2,n2,c2,ys2,rfl,hr2,hg2,hwb2,hb2,hcap2⟩|⟨h1,_⟩)
  rotate_left
  ·exact absurd HCK.out h1
  have k56:=Keeps.of_below hb2 (S:=[])
  have HR2:=c3o hr2
  have HR16:=c3o (HR1.out.keeps k56 (a0a _))
  have F6:=c3o (F5.out.keeps k56 (by simp))
  have T6:=c3o (T5.out.keeps k56 (by simp))
  have K06:=c3o (K05.out.trans k56)
  have K26:=c3o (K25.out.trans k56)
  have hs6:=k56.size
  have HWB2:=c3o hwb2
  have CAP2:=c3o hcap2
  have hln2:ys2.length=n2:=hr2.len
  have hc3:=F6.out.cell 2
  simp only[c3q,c3w] at hc3
  have TW6:=c3o (HT.out.keeps K06.out (by simp))
  have HW3:=c3o (b6a w6 w2.heap.size At nt ct ts TW6.out (by have:=T6.out.cell 0;simpa using this) (HRT.out.keeps K26.out (a0a _)) (fun a h=>c3s (HALO.out a h) K26.out.size) HLI.out (by omega))
  clear hc2 k56 hr2 hb2 HW2 F5 T5 K05 K25 HR1 hwb2 hcap2 HBX2 KB
  have HSL:Hid ((storB 1 xs).length=5+n):=c3o (by rw[a2W,HL.out])
  by_cases hlt2:n2<5+n
  ·have y1:decide (n2<5+n)=true:=by simp;omega
   have y2:decide ((n2:Int)<5+(n:Int))=true:=by simp;omega
   have y3:decide ((n2:Int)<((5+n:Nat):Int))=true:=by simp;omega
   go_wp2_with fail
   rw[c3B]
   clear y1 y2 y3
   go_wp2_with fail
   refine HW3.out.mono ?_
   rintro e w7 (⟨-,g3,n3,c3,ys3,rfl,hr3,hg3,hwb3,hb3,hcap3⟩|⟨h1,_⟩)
   rotate_left
   ·exact absurd HCK.out h1
   have k67:=Keeps.of_below hb3 (S:=[])
   have HR3:=c3o hr3
   have HRL:=c3o (HR2.out.keeps k67 (a0a _))
   have K07:=c3o (K06.out.trans k67).below
   have HWB3:=c3o hwb3
   have CAP3:=c3o hcap3
   have hln3:ys3.length=n3:=hr3.len
   clear hc3 k67 hr3 hb3 HW3 hwb3 hcap3 F6 T6
   by_cases hlt3:n3<n2
   ·have y1:decide (n3<n2)=true:=by simp;omega
    have y2:decide ((n3:Int)<((n2:Nat):Int))=true:=by simp;omega
    have y3:decide ((n3:Int)<(n2:Int))=true:=by simp;omega
    have HD:Hid (Defl xs ys3):=c3o ⟨⟨ys2,ys3,by rw[HTS.out];exact HWB2.out,by rw[HTS.out];exact HWB3.out,by
     rw[show lessL (storB 1 xs) ys2=ys2 from if_pos (by have:=HSL.out;omega)]
     exact (if_pos (by have:=HSL.out;omega)).symm⟩⟩
    go_wp2_with fail
    rw[c3B]
    go_wp2_with fail
    go_ret2
    exact .inr ⟨hn,g3,n3,c3,_,rfl,HR3.out,by omega,HD.out,K07.out,CAP3.out⟩
   ·have y1:decide (n3<n2)=false:=by simp;omega
    have y2:decide ((n3:Int)<((n2:Nat):Int))=false:=by simp;omega
    have y3:decide ((n3:Int)<(n2:Int))=false:=by simp;omega
    have HD:Hid (Defl xs ys2):=c3o ⟨⟨ys2,ys3,by rw[HTS.out];exact HWB2.out,by rw[HTS.out];exact HWB3.out,by
     rw[show lessL (storB 1 xs) ys2=ys2 from if_pos (by have:=HSL.out;omega)]
     exact (if_neg (by have:=HSL.out;omega)).symm⟩⟩
    go_wp2_with fail
    rw[c3B]
    go_wp2_with fail
    go_ret2
    exact .inr ⟨hn,g2,n2,c2,_,rfl,HRL.out,by omega,HD.out,K07.out,CAP2.out⟩
  ·have y1:decide (n2<5+n)=false:=by simp;omega
   have y2:decide ((n2:Int)<5+(n:Int))=false:=by simp;omega
   have y3:decide ((n2:Int)<((5+n:Nat):Int))=false:=by simp;omega
   go_wp2_with fail
   rw[c3B]
   clear y1 y2 y3
   go_wp2_with fail
   refine HW3.out.mono ?_
   rintro e w7 (⟨-,g3,n3,c3,ys3,rfl,hr3,hg3,hwb3,hb3,hcap3⟩|⟨h1,_⟩)
   rotate_left
   ·exact absurd HCK.out h1
   have k67:=Keeps.of_below hb3 (S:=[])
   have HR3:=c3o hr3
   have HRL:=c3o (HR16.out.keeps k67 (a0a _))
   have K07:=c3o (K06.out.trans k67).below
   have HWB3:=c3o hwb3
   have CAP3:=c3o hcap3
   have hln3:ys3.length=n3:=hr3.len
   clear hc3 k67 hr3 hb3 HW3 hwb3 hcap3 F6 T6
   by_cases hlt3:n3<(5+n)
   ·have y1:decide (n3<(5+n))=true:=by simp;omega
    have y2:decide ((n3:Int)<(((5+n):Nat):Int))=true:=by simp;omega
    have y3:decide ((n3:Int)<5+(n:Int))=true:=by simp;omega
    have HD:Hid (Defl xs ys3):=c3o ⟨⟨ys2,ys3,by rw[HTS.out];exact HWB2.out,by rw[HTS.out];exact HWB3.out,by
     rw[show lessL (storB 1 xs) ys2=storB 1 xs from if_neg (by have:=HSL.out;omega)]
     exact (if_pos (by have:=HSL.out;omega)).symm⟩⟩
    go_wp2_with fail
    rw[c3B]
    go_wp2_with fail
    go_ret2
    exact .inr ⟨hn,g3,n3,c3,_,rfl,HR3.out,by omega,HD.out,K07.out,CAP3.out⟩
   ·have y1:decide (n3<(5+n))=false:=by simp;omega
    have y2:decide ((n3:Int)<(((5+n):Nat):Int))=false:=by simp;omega
    have y3:decide ((n3:Int)<5+(n:Int))=false:=by simp;omega
    have HD:Hid (Defl xs (storB 1 xs)):=c3o ⟨⟨ys2,ys3,by rw[HTS.out];exact HWB2.out,by rw[HTS.out];exact HWB3.out,by
     rw[show lessL (storB 1 xs) ys2=storB 1 xs from if_neg (by have:=HSL.out;omega)]
     exact (if_neg (by have:=HSL.out;omega)).symm⟩⟩
    go_wp2_with fail
    rw[c3B]
    go_wp2_with fail
    go_ret2
    exact .inr ⟨hn,g1,(5+n),m1,_,rfl,HRL.out,by omega,HD.out,K07.out,CAP1.out⟩
end Go.Proofs.YtghjlpechjggjaaGreatDoor
