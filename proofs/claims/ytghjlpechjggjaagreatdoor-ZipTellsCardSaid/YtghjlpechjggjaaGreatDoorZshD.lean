import Derived.Test.YtghjlpechjggjaaGreatDoorZshC
import Derived.Test.YtghjlpechjggjaaGreatDoorZshB
import Derived.Laws.Tables
import Derived.Test.YtghjlpechjggjaaGreatDoorZshA
import Derived.TacticsInMore
import Derived.OwnWalkIn
import Derived.Shelf.Abstract
import Derived.LoopIn
import Derived.Laws.BitsAllLaws
import Derived.StillTailTactics
import Derived.Lib.AppendStr
import Derived.Lib.ConvBytes
import Derived.Deep.RegionHeld3
import Derived.Deep.Onto
set_option linter.defProp false
set_option linter.unnecessarySimpa false
set_option linter.unusedVariables false
set_option linter.unusedSimpArgs false
set_option linter.constructorNameAsVariable false
set_option maxRecDepth 100000
set_option maxHeartbeats 60000000
namespace Go.Proofs.YtghjlpechjggjaaGreatDoor
open Go.RowKit
private def c1n := @Lib.hid
private def c1o := @IntWalk.i64_in
private def c1p := @World.cell?_of_block
private def c1q := @World.frozen?_of_block
private def c1r := @List.length_append
private def c1s := @List.length_cons
private def c1t := @Nat.le_refl
private def c1u := @World.block_lt_of_cell?
private def c1v := @Nat.le_trans
private def c1w := @Tryz.underlying26
private def c1x := @Below.refl
private def c1y := @List.append_assoc
private def c1z := @Array.getElem?_eq_some_iff
private def c1A := @List.getElem?_append_right
private def c1B := @List.mem_cons_of_mem
private def c1C := @List.mem_iff_getElem
private def c1D := @List.getElem_mem
private def c1E := @Tryz.underlying9
private def c1F := @List.mem_cons_self
private def c1G := @List.flatMap_cons
private def c1H := @Array.getElem?_toList
private def c1I := @Exit.noGoto_ret
private def c1J := @List.mem_append
private def c1K := @Nat.lt_of_lt_of_le
open Go.RowKit
def doneOf(w:World)(g:Nat):Nat:=match w.cell? ⟨g,4098,none⟩ with|some v=>(intOf v).toNat|none=>0
theorem FB.doneOf{w:World}{g b:Nat}{A:Option Addr}{n c:Nat}{xs:List Int}{k:Nat}(h:FB w g b A n c xs k):doneOf w g=k:=by
 obtain⟨pr,last,p1,-,-⟩:=h.raw
 unfold Proofs.YtghjlpechjggjaaGreatDoor.doneOf
 rw[p1.cells.2.2.1];simp[intOf]
theorem FRaw.cast{w:World}{g b:Nat}{A:Option Addr}{n c:Nat}{pr last:List Int}{x y:Int}(h:FRaw w g b A n c pr last x)(e:x=y):FRaw w g b A n c pr last y:=e ▸ h
theorem b5i{w:World}{g b:Nat}{A:Option Addr}{n c:Nat}{xs pr last:List Int}{d:Nat}(h:FRaw w g b A n c pr last d)(hl:∀ v,v<4096->nth last v=(lastF (hashF xs) v d:Int))(hp:∀ j,j<d->nth pr j=(lastF (hashF xs) (hashF xs j) j:Int))(hd:d<n) :
  (∀ v,v<4096->nth (last.set (hashF xs d) ((d:Int)+1)) v=(lastF (hashF xs) v (d+1):Int))/\(∀ j,j<d+1->nth (pr.set d (nth last (hashF xs d))) j=(lastF (hashF xs) (hashF xs j) j:Int)):=by
 have hh:=a8g xs d
 refine⟨fun v hv=>?_,fun j hj=>?_⟩
 ·rw[lastF]
  by_cases e:hashF xs d=v
  ·subst e;rw[if_pos rfl,a1F _ _ _ (by rw[h.lenL];exact hv)];omega
  ·rw[if_neg e,a2z _ _ _ _ (fun e2=>e e2.symm),hl v hv]
 ·by_cases e:j=d
  ·subst e;rw[a1F _ _ _ (by rw[h.lenP];omega),hl _ hh]
  ·rw[a2z _ _ _ _ e,hp j (by omega)]
theorem b3z(w:World)(g b:Nat)(A:Option Addr)(n c:Nat)(xs:List Int)(k m:Nat)(h:FB w g b A n c xs k)(hk:k<=m)(hto:m+3<=n) :
  Calls Tryz.prog 113 #[.pointer (some ⟨g,0,none⟩),.int .i64 m] w fun e w'=>e=.returned (.tuple #[])/\FB w' g b A n c xs m/\Keeps [g,b] w w':=by
 have hB:=h.bound
 have H:=c1n h
 clear h
 go_enter Tryz.func113,Tryz.ntmps113
 go_wp2_with fail
 go_loopw [4] (fun hv wr=>∃ d:Nat,k<=d/\d<=m/\Hid (FB wr g b A n c xs d)/\Hid (Keeps [g,b] w wr)) (fun _ wr=>m-doneOf wr g)
 case atStart=>exact⟨k,by omega,by omega,H,c1n (Keeps.refl _ _)⟩
 case round=>
  clear H
  obtain⟨d,hd,hdt,HF,HK⟩:=hrel
  have hm0:=HF.out.doneOf
  have HM:=c1n hm0
  obtain⟨pr,last,hraw,hl,hp⟩:=HF.out.raw
  have HR:=c1n hraw
  have HL:=c1n hl
  have HP:=c1n hp
  obtain⟨c0,c1,c2,c3,c4,f1,f2⟩:=hraw.cells
  clear hm0 hraw hl hp
  have w3:IntKind.i64.wrap ((d:Int)+3)=(d:Int)+3:=c1o _ (by omega)
  have w1:IntKind.i64.wrap ((d:Int)+1)=(d:Int)+1:=c1o _ (by omega)
  by_cases hlt:d<m
  ·have x1:decide ((d:Int)<(m:Int))=true:=by simp;omega
   have x2:decide ((d:Int)+3<=(n:Int))=true:=by simp;omega
   have d4:=c4 d (by omega)
   have HC3:=c1n c3
   clear c3 c4
   go_upto_region 0 with (fail)
   go_quiet (fail)
   go_wp2_with fail
   refine (a7r _ g b A n c xs d d (HF.out.keeps (S:=[]) (by repeat (first|exact Keeps.refl _ _|apply Keeps.drewN|apply Keeps.drew)) (by simp) (by simp) (a0a _)) (by omega)).mono ?_
   rintro _ w4 ⟨rfl,hd4⟩
   have hk4:=((Keeps.refl [] wr).drewN _).trans (hd4.keeps (S:=[]))
   have HR4:=c1n (HR.out.keeps hk4 (by simp) (by simp))
   have HK4:=c1n hk4
   have hst:=b5i HR.out HL.out HP.out (show d<n by omega)
   have hlt4:=a8g xs d
   obtain⟨q,hq⟩:∃ q,q=hashF xs d:=⟨_,rfl⟩
   rw[<-hq] at hst hlt4 ⊢
   have HST:=c1n hst
   have c3:=HC3.out q hlt4
   clear hd4 hk4 hst hq c0 c1 c2 d4 c3 f1 f2
   obtain⟨c0,c1,c2,c3,c4,f1,f2⟩:=HR4.out.cells
   have d4:=c4 d (by omega)
   have c3:=c3 q hlt4
   clear c4
   go_upto_region 3 with (fail)
   go_region
   obtain⟨w5,hw5⟩:∃ w5,w5=(w4.setCell ⟨b,d,none⟩ (.int .i64 (nth last q))).drew:=⟨_,rfl⟩
   rw[<-hw5]
   have hr5:FRaw w5 g b A n c (pr.set d (nth last q)) last d:=by rw[hw5];exact (HR4.out.setP d _).keeps (S:=[]) ((Keeps.refl [] _).drew) (by simp) (by simp)
   have hk5:Keeps [g,b] wr w5:=by rw[hw5];exact ((HK4.out.mono (S':=[g,b]) (fun x hx=>by cases hx)).setCell (p:=⟨b,d,none⟩) (.inl (by simp)) _).drew
   have HR5:=c1n hr5
   have HK5:=c1n hk5
   clear hr5 hk5 hw5 HR4 HK4 c0 c1 c2 c3 d4 f1 f2
   obtain⟨c0,c1,c2,c3,c4,f1,f2⟩:=HR5.out.cells
   have c3:=c3 q hlt4
   clear c4
   go_upto_region 4 with (fail)
   go_region
   obtain⟨w6,hw6⟩:∃ w6,w6=(w5.setCell ⟨g,1+q,none⟩ (.int .i64 ((d:Int)+1))).drew:=⟨_,rfl⟩
   rw[<-hw6]
   have hr6:FRaw w6 g b A n c (pr.set d (nth last q)) (last.set q ((d:Int)+1)) d:=by rw[hw6];exact (HR5.out.setL q hlt4 _).keeps (S:=[]) ((Keeps.refl [] _).drew) (by simp) (by simp)
   have hk6:Keeps [g,b] wr w6:=by rw[hw6];exact (HK5.out.setCell (p:=⟨g,1+q,none⟩) (.inl (by simp)) _).drew
   have HR6:=c1n hr6
   have HK6:=c1n hk6
   clear hr6 hk6 hw6 HR5 HK5 c0 c1 c2 c3 f1 f2
   obtain⟨c0,c1,c2,c3,c4,f1,f2⟩:=HR6.out.cells
   clear c3 c4
   go_wp2_with fail
   have hfb:FB (w6.setCell ⟨g,4098,none⟩ (.int .i64 ((d:Int)+1))) g b A n c xs (d+1):=
    ⟨⟨_,_,(HR6.out.setD ((d:Int)+1)).cast (by omega),HST.out.1,HST.out.2⟩,HF.out.ri.keeps (HK6.out.setCell (p:=⟨g,4098,none⟩) (.inl (by simp)) _) HF.out.off,HF.out.cap,HF.out.off,HF.out.byte,HF.out.bound,by have:=HF.out.known;omega⟩
   have HFB:=c1n hfb
   have hdn:=hfb.doneOf
   clear hfb
   go_roundw
   case rel=>exact⟨d+1,by omega,by omega,HFB,c1n (HK.out.trans (HK6.out.setCell (p:=⟨g,4098,none⟩) (.inl (by simp)) _))⟩
   case measure=>rw[hdn,HM.out];omega
  ·obtain rfl:d=m:=by omega
   have x1:decide ((d:Int)<(d:Int))=false:=by simp
   go_upto_region 0 with (fail)
   go_quiet (fail)
   go_wp2_with fail
   go_end0
   exact⟨rfl,HF.out.keeps (S:=[]) (by repeat (first|exact Keeps.refl _ _|apply Keeps.drewN|apply Keeps.drew)) (by simp) (by simp) (a0a _),HK.out.trans (by repeat (first|exact Keeps.refl _ _|apply Keeps.drewN|apply Keeps.drew))⟩
end Go.Proofs.YtghjlpechjggjaaGreatDoor
namespace Go.Proofs.YtghjlpechjggjaaGreatDoor
open Go.RowKit
theorem a6k(w:World)(g b:Nat)(A:Option Addr)(n c:Nat)(xs:List Int)(k i:Nat)(h:FB w g b A n c xs k)(hk:k<=i)(hi:i<=n) :
  Calls Tryz.prog 91 #[.pointer (some ⟨g,0,none⟩),.int .i64 i] w fun e w'=>e=.returned (.tuple #[.int .i64 (mF xs i).1,.int .i64 (mF xs i).2])/\∃ k',k<=k'/\k'<=i/\FB w' g b A n c xs k'/\Keeps [g,b] w w':=by
 have hB:=h.bound
 have H:=c1n h
 have hlen:xs.length=n:=h.ri.len
 obtain⟨pr,last,hraw,-,-⟩:=h.raw
 have c0:=hraw.cells.1
 clear hraw h
 have w3:IntKind.i64.wrap ((i:Int)+3)=(i:Int)+3:=c1o _ (by omega)
 by_cases hs:i+3<=n
 rotate_left
 ·have x1:decide ((n:Int)<(i:Int)+3)=true:=by simp;omega
  rw[b7B xs i (by omega) (by omega)]
  go_enter Tryz.func91,Tryz.ntmps91
  go_wp2_with fail
  go_step3
  go_wp2_with fail
  rw[c1I]
  go_ret2
  exact⟨rfl,k,c1t _,hk,H.out,Keeps.refl _ _⟩
 have x1:decide ((n:Int)<(i:Int)+3)=false:=by simp;omega
 go_enter Tryz.func91,Tryz.ntmps91
 go_wp2_with fail
 go_step3
 go_wp2_with fail
 refine (b3z w g b A n c xs k i H.out hk hs).mono ?_
 rintro _ w1 ⟨rfl,h1,hk1⟩
 have H1:=c1n h1
 have HK1:=c1n hk1
 obtain⟨pr1,last1,hr1,hl1,hp1⟩:=h1.raw
 have HR1:=c1n hr1
 have HL1:=c1n hl1
 have HP1:=c1n hp1
 clear h1 hk1 hr1 hl1 hp1 c0 H x1
 obtain⟨E,hE⟩:∃ E:Nat,(if (n:Int)-(i:Int)<258 then (n:Int)-(i:Int) else 258)=(E:Int):=⟨min 258 (n-i),by split<;>omega⟩
 have hE2:E=min 258 (n-i):=by split at hE<;>omega
 have HE:=c1n hE2
 have hq:=fun m=>a7r (w1.drewN m) g b A n c xs i i (H1.out.keeps (S:=[]) ((Keeps.refl [] w1).drewN m) (by simp) (by simp) (a0a _)) hs
 have hlt:=a8g xs i
 obtain⟨q,hqq⟩:∃ q,q=hashF xs i:=⟨_,rfl⟩
 rw[<-hqq] at hq hlt
 have HQ:=c1n hq
 have HQQ:=c1n hqq
 obtain⟨c0,c1,c2,c3,c4,f1,f2⟩:=HR1.out.cells
 replace c3:=c3 q hlt
 rw[HL1.out q hlt] at c3
 obtain⟨p0,hp0⟩:∃ p0,p0=lastF (hashF xs) q i:=⟨_,rfl⟩
 rw[<-hp0] at c3
 have HP0:=c1n hp0
 have hp0i:p0<=i:=by rw[hp0];exact (a1Z _ _ _).1
 clear hE2 hq hqq c4 hp0
 have wp:IntKind.i64.wrap ((p0:Int)-1)=(p0:Int)-1:=c1o _ (by omega)
 go_wp2_with fail
 go_step3
 go_upto_region 5 with (fail)
 clear hE
 go_quiet (first|(go_at_call 114;exact Calls.quiet_of (HQ.out _)))
 go_wp2_with fail
 have hb0:bestF xs i (i-p0)=(0,0):=by
  rw[HP0.out,HQQ.out,a7h (a5X xs) i i (c1t _),Nat.sub_self];rfl
 have hh0:p0≠0->hashF xs (p0-1)=q:=by rw[HP0.out];exact (a1Z (hashF xs) q i).2.2
 have HB0:=c1n hb0
 have HH0:=c1n hh0
 clear hb0 hh0 c0 c1 c2 c3 f1 f2 wp
 go_loopw [4,5,7] (fun lv dv av wr=>∃ p l d:Nat,p<=i/\av=.int .i64 ((p:Int)-1)/\lv=.int .i64 l/\dv=.int .i64 d/\Hid (bestF xs i (i-p)=(l,d))/\Hid (p≠0->hashF xs (p-1)=q)/\Hid (Keeps [] w1 wr)) (fun _ _ av _=>(intOf av+1).toNat)
 case atStart=>exact⟨p0,0,0,hp0i,rfl,rfl,rfl,HB0,HH0,c1n (by repeat (first|exact Keeps.refl _ _|apply Keeps.drewN|apply Keeps.drew))⟩
 case round=>
  clear HB0 HH0 HP0 hp0i
  obtain⟨p,l,d,hp,rfl,rfl,rfl,HBF,HH,HK⟩:=hrel
  by_cases hp1:p=0
  ·subst hp1
   have x2:decide ((0:Int)<=((0:Nat):Int)-1)=false:=by decide
   have HM:Hid (mF xs i=(l,d)):=c1n HBF.out
   go_wp2_with fail
   rw[c1I]
   go_ret2
   exact⟨by rw[HM.out];rfl,i,hk,c1t _,H1.out.keeps HK.out (by simp) (by simp) (a0a _),HK1.out.trans (HK.out.mono (fun x hx=>by cases hx))⟩
  ·obtain⟨t,rfl⟩:∃ t,p=t+1:=⟨p-1,by omega⟩
   have ht:(((t+1:Nat):Int)-1)=(t:Int):=by omega
   rw[ht]
   have x3:decide ((32768:Int)<(i:Int)-t)=false:=by simp;omega
   obtain⟨c0,c1,c2,-,c4,f1,f2⟩:=(HR1.out.keeps HK.out (by simp) (by simp)).cells
   have hHK0:Hid (∀ j,j<0->i+j<xs.length/\nth xs (i+j)=nth xs (i+j-(i-t))):=c1n (fun j hj=>by omega)
   go_wp2_with fail
   go_loopw [4,5,8,52] (fun lv dv _ kv wi=>∃ kk:Nat,kk<=E/\kv=.int .i64 kk/\lv=.int .i64 l/\dv=.int .i64 d/\Hid (∀ j,j<kk->i+j<xs.length/\nth xs (i+j)=nth xs (i+j-(i-t)))/\Hid (Keeps [] w1 wi)) (fun _ _ _ kv _=>E-(intOf kv).toNat)
   case atStart=>exact⟨0,by omega,rfl,rfl,rfl,hHK0,HK⟩
   case round=>
    clear hHK0 HK c0 c1 c2 c4 f1 f2
    obtain⟨kk,hkk,rfl,rfl,rfl,HEQ,HK⟩:=hrel
    obtain⟨c0,c1,c2,-,c4,f1,f2⟩:=(HR1.out.keeps HK.out (by simp) (by simp)).cells
    by_cases hlt2:kk<E
    ·have he:=HE.out
     have hri:=H1.out.ri.keeps HK.out (a0a _)
     obtain⟨bb,o,hA,k1⟩:=hri.at (show i+kk<n by omega)
     have k2:=hri.cell bb o hA (t+kk) (by omega)
     have s1:((i:Int)+kk).toNat=i+kk:=by omega
     have s2:((t:Int)+kk).toNat=t+kk:=by omega
     have s3:(0:Int)<=(i:Int)+kk:=by omega
     have s4:(0:Int)<=(t:Int)+kk:=by omega
     have s5:(i:Int)+kk<(n:Int):=by omega
     have s6:(t:Int)+kk<(n:Int):=by omega
     have w4:IntKind.i64.wrap ((i:Int)+kk)=(i:Int)+kk:=c1o _ (by omega)
     have w5:IntKind.i64.wrap ((t:Int)+kk)=(t:Int)+kk:=c1o _ (by omega)
     have x4:decide ((kk:Int)<(E:Int))=true:=by simp;omega
     obtain⟨x,hx⟩:∃ x,x=nth xs (i+kk):=⟨_,rfl⟩
     obtain⟨y,hy⟩:∃ y,y=nth xs (t+kk):=⟨_,rfl⟩
     rw[<-hx] at k1
     rw[<-hy] at k2
     have HX:=c1n hx
     have HY:=c1n hy
     subst hA
     have k3:=c4 t (by omega)
     rw[HP1.out t (by omega)] at k3
     have hht:hashF xs t=q:=HH.out (by omega)
     rw[hht] at k3
     obtain⟨p2,hp2⟩:∃ p2,p2=lastF (hashF xs) q t:=⟨_,rfl⟩
     rw[<-hp2] at k3
     have hp2t:p2<=t:=by rw[hp2];exact (a1Z _ _ _).1
     have HP2:=c1n hp2
     have HHT:=c1n hht
     have wp2:IntKind.i64.wrap ((p2:Int)-1)=(p2:Int)-1:=c1o _ (by omega)
     have wk:IntKind.i64.wrap ((kk:Int)+1)=(kk:Int)+1:=c1o _ (by omega)
     have wd:IntKind.i64.wrap ((i:Int)-t)=(i:Int)-t:=c1o _ (by omega)
     have hnext:Hid (bestF xs i (i-p2)=bestF xs i (i-t)):=c1n (by rw[HP2.out,HQQ.out];exact a7h (a5X xs) i t (by omega))
     have hprev:Hid (p2≠0->hashF xs (p2-1)=q):=c1n (by rw[HP2.out];exact (a1Z (hashF xs) q t).2.2)
     have hstep:Hid (bestF xs i (i-t)=updF (l,d) (clF xs i (i-t)) (i-t)):=c1n (by
      rw[show i-t=(i-(t+1))+1 by omega,bestF,HBF.out])
     clear he hri hx hy c4 hp2 hht
     by_cases hxy:y=x
     ·have x5:(y !=x)=false:=by simpa using hxy
      go_upto_region 12 with (fail)
      go_quiet (fail)
      go_wp2_with fail
      go_roundw
      case rel=>
       refine⟨kk+1,by omega,by go_num,rfl,rfl,c1n (fun j hj=>?_),c1n (HK.out.trans (by repeat (first|exact Keeps.refl _ _|apply Keeps.drewN|apply Keeps.drew)))⟩
       rcases Nat.lt_or_ge j kk with h1|h1
       ·exact HEQ.out j h1
       ·obtain rfl:j=kk:=by omega
        exact⟨by omega,by rw[show i+j-(i-t)=t+j by omega,<-HX.out,<-HY.out,hxy]⟩
      case measure=>simp[intOf];omega
     ·have x5:(y !=x)=true:=by simpa using hxy
      have hcl:clF xs i (i-t)=kk:=b8A xs i (i-t) kk HEQ.out (by have:=HE.out;omega) (.inr (.inr (by rw[show i+kk-(i-t)=t+kk by omega,<-HX.out,<-HY.out];exact fun e=>hxy e.symm)))
      rw[hcl] at hstep
      have HCL:=c1n hcl
      clear hcl
      by_cases h3:3<=kk
      ·have x6:decide ((3:Int)<=(kk:Int))=true:=by simp;omega
       by_cases hlk:l<kk
       ·have x7:decide ((l:Int)<(kk:Int))=true:=by simp;omega
        go_upto_region 12 with (fail)
        go_quiet (fail)
        go_wp2_with fail
        go_roundw
        case rel=>exact⟨p2,kk,i-t,by omega,rfl,rfl,by go_num,c1n (by rw[hnext.out,hstep.out,updF,if_pos ⟨h3,hlk⟩]),hprev,c1n (HK.out.trans (by repeat (first|exact Keeps.refl _ _|apply Keeps.drewN|apply Keeps.drew)))⟩
        case measure=>simp[intOf];omega
       ·have x7:decide ((l:Int)<(kk:Int))=false:=by simp;omega
        go_upto_region 12 with (fail)
        go_quiet (fail)
        go_wp2_with fail
        go_roundw
        case rel=>exact⟨p2,l,d,by omega,rfl,rfl,rfl,c1n (by rw[hnext.out,hstep.out,updF,if_neg (by rintro ⟨a1,a2⟩;omega)]),hprev,c1n (HK.out.trans (by repeat (first|exact Keeps.refl _ _|apply Keeps.drewN|apply Keeps.drew)))⟩
        case measure=>simp[intOf];omega
      ·have x6:decide ((3:Int)<=(kk:Int))=false:=by simp;omega
       go_upto_region 12 with (fail)
       go_quiet (fail)
       go_wp2_with fail
       go_roundw
       case rel=>exact⟨p2,l,d,by omega,rfl,rfl,rfl,c1n (by rw[hnext.out,hstep.out,updF,if_neg (by rintro ⟨a1,a2⟩;omega)]),hprev,c1n (HK.out.trans (by repeat (first|exact Keeps.refl _ _|apply Keeps.drewN|apply Keeps.drew)))⟩
       case measure=>simp[intOf];omega
    ·obtain rfl:kk=E:=by omega
     have x4:decide ((kk:Int)<(kk:Int))=false:=by simp
     have wd:IntKind.i64.wrap ((i:Int)-t)=(i:Int)-t:=c1o _ (by omega)
     have he:=HE.out
     have hcl:clF xs i (i-t)=kk:=b8A xs i (i-t) kk HEQ.out (by omega) (by omega)
     have hstep:bestF xs i (i-t)=updF (l,d) kk (i-t):=by rw[show i-t=(i-(t+1))+1 by omega,bestF,HBF.out,<-show i-t=(i-(t+1))+1 by omega,hcl]
     by_cases hlk:l<kk
     ·have x7:decide ((l:Int)<(kk:Int))=true:=by simp;omega
      have hb:bestF xs i (i-t)=(kk,i-t):=by rw[hstep,updF,if_pos ⟨by omega,hlk⟩]
      have hm:mF xs i=(kk,i-t):=by rw[<-hb];exact b5w xs i (i-t) (by omega) (by omega) (by rw[hb,hlen];exact he)
      have HM:=c1n hm
      clear c4 he hcl hstep hb hm
      go_wp2_with fail
      rw[c1I]
      go_ret2
      exact⟨by rw[HM.out,show ((i:Int)-t)=((i-t:Nat):Int) by omega];rfl,i,hk,c1t _,H1.out.keeps HK.out (by simp) (by simp) (a0a _),HK1.out.trans (HK.out.mono (fun x hx=>by cases hx))⟩
     ·have x7:decide ((l:Int)<(kk:Int))=false:=by simp;omega
      have hb:bestF xs i (i-t)=(l,d):=by rw[hstep,updF,if_neg (by rintro ⟨a1,a2⟩;omega)]
      have hl2:l=kk:=by
       rcases a5J xs i (i-(t+1)) with h1|⟨h1,h2,h3,h4⟩
       ·rw[HBF.out] at h1;injection h1 with h1 _;omega
       ·rw[HBF.out] at h4
        have:=b4R xs i d
        have:=a5O xs i d (by omega)
        simp only[] at h4
        omega
      have hm:mF xs i=(l,d):=by rw[<-hb];exact b5w xs i (i-t) (by omega) (by omega) (by rw[hb,hlen,<-he];exact hl2)
      have HM:=c1n hm
      have HL2:=c1n hl2
      clear c4 he hcl hstep hb hm hl2
      go_wp2_with fail
      rw[c1I]
      go_ret2
      exact⟨by rw[HM.out];rfl,i,hk,c1t _,H1.out.keeps HK.out (by simp) (by simp) (a0a _),HK1.out.trans (HK.out.mono (fun x hx=>by cases hx))⟩
end Go.Proofs.YtghjlpechjggjaaGreatDoor
namespace Go.Proofs.YtghjlpechjggjaaGreatDoor
open Go.RowKit
theorem a8V(A:Option Addr)(n c b:Nat):Tryz.prog.built 139 [(0,.slice A n c),(2,.slice (some ⟨b,0,none⟩) n n)]=some (a2V A n c (List.replicate 4096 0) b 0).toArray:=by kernel_rfl
theorem b2b(A:Option Addr)(n c b:Nat):(Tryz.zeroCells139.setIfInBounds 0 (.slice A n c)).setIfInBounds 4097 (.slice (some ⟨b,0,none⟩) n n)=(a2V A n c (List.replicate 4096 0) b 0).toArray:=by kernel_rfl
theorem b7K(m v:Nat)(h:v<m):nth (List.replicate m (0:Int)) v=0:=by
 simp[nth,List.getD,List.getElem?_replicate,h]
theorem FB.start{w:World}{g b:Nat}{A:Option Addr}{n c:Nat}{xs:List Int}(h1:Blk w g 139 (a2V A n c (List.replicate 4096 0) b 0))(h2:Blk w b 3 (ints .i64 (List.replicate n 0)))(hr:RI .u8 w A n xs)(hc:CapOk A n c)(ho:Off [g,b] A)(hne:g≠b)(hb:∀ j,0<=nth xs j/\nth xs j<=255)(hn:n<=16384):FB w g b A n c xs 0:=
 ⟨⟨List.replicate n 0,List.replicate 4096 0,⟨h1,h2,List.length_replicate,List.length_replicate,hne⟩,fun v hv=>by rw[b7K _ _ hv];rfl,fun j hj=>by omega⟩,hr,hc,ho,hb,hn,Nat.zero_le _⟩
theorem KeepsOn.heap{C:Nat->Prop}{W W':World}(h:KeepsOn C W W'){g:Nat}{o:Obj}(hg:W.heap[g]? =some o)(hc:C g):W'.heap[g]? =some o:=(h.block g (c1z.1 hg).1 hc).trans hg
theorem KeepsOn.cell{C:Nat->Prop}{W W':World}(h:KeepsOn C W W'){p:Addr}{v:Value}(hv:W.cell? p=some v)(hc:C p.block):W'.cell? p=some v:=by
 have hlt:p.block<W.heap.size:=by
  rcases Nat.lt_or_ge p.block W.heap.size with h1|h1
  ·exact h1
  ·exfalso
   have:W.heap[p.block]? =none:=Array.getElem?_eq_none h1
   simp[World.cell?,this] at hv
 have e:=h.block _ hlt hc
 rw[<-hv]
 simp only[World.cell?,e]
theorem FB.keepsOn{w w':World}{g b:Nat}{A:Option Addr}{n c:Nat}{xs:List Int}{k:Nat}{C:Nat->Prop}(h:FB w g b A n c xs k)(hk:KeepsOn C w w')(hg:C g)(hb:C b)(hA:∀ a,A=some a->C a.block):FB w' g b A n c xs k:=by
 obtain⟨pr,last,p1,p2,p3⟩:=h.raw
 exact⟨⟨pr,last,⟨hk.heap p1.blk hg,hk.heap p1.row hb,p1.lenP,p1.lenL,p1.ne⟩,p2,p3⟩,⟨h.ri.len,h.ri.hd,fun bb o ha j hj=>hk.cell (h.ri.cell bb o ha j hj) (show C bb from hA _ ha)⟩,h.cap,h.off,h.byte,h.bound,h.known⟩
theorem find_at{xs:List Int}{i:Nat}(h:i<xs.length):findF xs xs.length i=if (mF xs i).1=0∨(mF xs i).1<(mF xs (i+1)).1 then (nth xs i,0,0)::findF xs xs.length (i+1) else (0,((mF xs i).1:Int),((mF xs i).2:Int))::findF xs xs.length (i+(mF xs i).1):=by
 obtain⟨f,hf⟩:∃ f,xs.length=f+1:=⟨xs.length-1,by omega⟩
 have e:findF xs xs.length i=findF xs (f+1) i:=by rw[hf]
 rw[e,findF,if_pos h]
 split
 ·rw[a3U xs f xs.length (i+1) (by omega) (by omega)]
 ·next hc=>
  have:1<=(mF xs i).1:=by omega
  rw[a3U xs f xs.length (i+(mF xs i).1) (by omega) (by omega)]
end Go.Proofs.YtghjlpechjggjaaGreatDoor
namespace Go.Proofs.YtghjlpechjggjaaGreatDoor
open Go.RowKit
def bkT(xs:List Int):Nat->List (Nat×Int)
 | 0=>[]
 | k+1=>(k,nth xs k)::bkT xs k
def bkE(p:Nat×Int):Array Value:=#[.int .i64 p.1,.int .u8 p.2]
theorem b4F(w0:World)(Bo:Nat)(A:Option Addr)(n c:Nat)(xs:List Int)(hr:RI .u8 w0 A n xs)(hB:w0.cell? ⟨Bo,0,none⟩=some (.slice A n c))(hn:n<=1000000000) :
  b9b Tryz.prog 159 #[.pointer (some ⟨Bo,0,none⟩)] bkE (bkT xs n) [] (fun k=>k=Bo∨∃ a,A=some a/\k=a.block) w0:=by
 intro l J Jx W hW hJ hY h0
 refine callsIn_wide.2 ?_
 have c0:=hW.cell (p:=⟨Bo,0,none⟩) (by simp) hB
 have HR:=c1n (hr.keeps hW (a0a _))
 have HL:Hid (xs.length=n):=c1n hr.len
 have HJ:=c1n hJ
 have HY:=c1n hY
 have H0:=c1n h0
 have s1:IntKind.i64.wrap ((n:Int)-1)=(n:Int)-1:=c1o _ (by omega)
 clear hr hJ hY h0 hB
 go_enter Tryz.func159,Tryz.ntmps159
 go_wp2_with fail
 go_loopw [3] (fun iv wr=>∃ (k:Nat) (pre:List (Nat×Int)),k<=n/\iv=.int .i64 ((k:Int)-1)/\wr.cell? ⟨Bo,0,none⟩=some (.slice A n c)/\Hid (pre++bkT xs k=bkT xs n)/\Hid (J pre wr)/\Hid (RI .u8 wr A n xs)) (fun iv _=>(intOf iv+1).toNat)
 case atStart=>exact⟨n,[],by omega,rfl,c0,c1n rfl,H0,HR⟩
 case round=>
  clear c0 H0 HR
  obtain⟨k,pre,hk,rfl,c1,HT,HJP,HX⟩:=hrel
  match k with
  | 0=>
   have x1:decide ((0:Int)<=((0:Nat):Int)-1)=false:=by decide
   have e:pre=bkT xs n:=by have:=HT.out;rwa [bkT,List.append_nil] at this
   go_wp2_with fail
   go_end0
   exact⟨⟨_,rfl⟩,.inl (by rw[<-e];exact HJP.out)⟩
  | j+1=>
   have e1:((j+1:Nat):Int)-1=(j:Int):=by omega
   rw[e1]
   have x1:decide ((0:Int)<=(j:Int))=true:=by simp
   have hjn:j<n:=by omega
   have hjn':(j:Int)<(n:Int):=by omega
   obtain⟨b,o,rfl,hc⟩:=HX.out.at hjn
   have s2:IntKind.i64.wrap ((j:Int)-1)=(j:Int)-1:=c1o _ (by omega)
   have hpre:pre++[(j,nth xs j)] <+: bkT xs n:=⟨bkT xs j,by rw[<-HT.out,bkT];simp⟩
   have HT2:Hid ((pre++[(j,nth xs j)])++bkT xs j=bkT xs n):=c1n (by rw[<-HT.out,bkT];simp)
   obtain⟨fn,tmps,assign,body,hy,hR⟩:=HY.out pre (j,nth xs j) wr HJP.out hpre
   have HRR:=c1n hR
   dsimp only[bkE] at hy
   generalize nth xs j=v at *
   clear hR HT hpre
   go_upto_region 3 with (fail)
   refine (wpIn_wide (n:=0)).1 ?_
   gi_wp2
   refine⟨rfl,HRR.out.mono ?_⟩
   rintro _ W7 (⟨rfl,hJ7,hk7⟩|⟨rfl,hx7⟩)
   ·have c7:=hk7.cell (p:=⟨Bo,0,none⟩) c1 (.inl rfl)
    have HJ7:=c1n hJ7
    have HX7:Hid (RI .u8 W7 (some ⟨b,o,none⟩) n xs):=c1n ⟨HX.out.len,HX.out.hd,fun b' o' ha i hi=>hk7.cell (p:=⟨b',o'+i,none⟩) (HX.out.cell b' o' ha i hi) (.inr ⟨_,ha,rfl⟩)⟩
    clear hJ7 hk7 hy HRR c1 HX HJP hc
    gi_wp2
    go_wp2_with fail
    go_roundw
    case rel=>exact⟨j,pre++[(j,v)],by omega,by go_num,c7,HT2,HJ7,HX7⟩
    case measure=>simp[intOf]
   ·have HX7:=c1n hx7
    clear hy HRR hx7
    gi_wp2
    go_wp2_with fail
    exact bodyPost_ret (v:=.tuple #[]) (results_none rfl _ _ _) rfl ⟨⟨_,rfl⟩,.inr ⟨_,⟨_,HT2.out⟩,HX7.out⟩⟩
end Go.Proofs.YtghjlpechjggjaaGreatDoor
namespace Go.Proofs.YtghjlpechjggjaaGreatDoor
open Go.RowKit
def tokV(t:Tok):Value:=.agg #[.int .u8 t.1,.int .i64 t.2.1,.int .i64 t.2.2]
def tcells(t:Tok):List Value:=[.int .u8 t.1,.int .i64 t.2.1,.int .i64 t.2.2]
def tth(ts:List Tok)(j:Nat):Tok:=ts.getD j (0,0,0)
theorem b6t{ts:List Tok}{j:Nat}(h:j<ts.length):tth ts j=ts[j]:=by simp[tth,List.getD,h]
theorem a8F{ts:List Tok}{j:Nat}(h:j<ts.length):tth ts j∈ts:=by rw[b6t h];exact c1D _
theorem a8E{ts:List Tok}{j:Nat}(h:j<ts.length):ts.take (j+1)=ts.take j++[tth ts j]:=by
 rw[List.take_succ_eq_append_getElem h,b6t h]
theorem b7a{ts:List Tok}{j:Nat}(h:j<ts.length):ts.drop j=tth ts j::ts.drop (j+1):=by
 rw[List.drop_eq_getElem_cons h,b6t h]
structure RT (w:World) (A:Option Addr) (n:Nat) (ts:List Tok):Prop where
 len:ts.length=n
 hd:0<n->∃ b o,A=some ⟨b,o,none⟩
 cell:∀ b o,A=some ⟨b,o,none⟩->∀ j,j<n->w.cell? ⟨b,o+j*3,none⟩=some (.int .u8 (tth ts j).1)/\w.cell? ⟨b,o+j*3+1,none⟩=some (.int .i64 (tth ts j).2.1)/\w.cell? ⟨b,o+j*3+2,none⟩=some (.int .i64 (tth ts j).2.2)
theorem RT.keeps{S:List Nat}{w w':World}{A:Option Addr}{n:Nat}{ts:List Tok}(h:RT w A n ts)(hk:Keeps S w w')(ho:Off S A):RT w' A n ts:=
 ⟨h.len,h.hd,fun b o ha j hj=>⟨hk.cell (p:=⟨b,o+j*3,none⟩) (ho ⟨b,o,none⟩ ha) (h.cell b o ha j hj).1,hk.cell (p:=⟨b,o+j*3+1,none⟩) (ho ⟨b,o,none⟩ ha) (h.cell b o ha j hj).2.1,hk.cell (p:=⟨b,o+j*3+2,none⟩) (ho ⟨b,o,none⟩ ha) (h.cell b o ha j hj).2.2⟩⟩
theorem b4j(ts:List Tok):(ts.flatMap tcells).length=ts.length*3:=by
 induction ts with
 | nil=>rfl
 | cons t ts ih=>rw[c1G,c1r,ih,c1s];simp[tcells];omega
theorem a7G:∀ (ts:List Tok) (j:Nat),j<ts.length->(ts.flatMap tcells)[j*3]? =some (.int .u8 (tth ts j).1)/\(ts.flatMap tcells)[j*3+1]? =some (.int .i64 (tth ts j).2.1)/\(ts.flatMap tcells)[j*3+2]? =some (.int .i64 (tth ts j).2.2)
 | [],j,h=>by simp at h
 | t::ts,0,h=>by rw[c1G];simp[tcells,tth]
 | t::ts,j+1,h=>by
  have ih:=a7G ts j (by simpa using h)
  rw[c1G]
  have hl:(tcells t).length=3:=rfl
  rw[show (j+1)*3=(tcells t).length+j*3 by rw[hl];omega,c1A (by omega),c1A (by omega),c1A (by omega)]
  rw[show (tcells t).length+j*3-(tcells t).length=j*3 by omega,show (tcells t).length+j*3+1-(tcells t).length=j*3+1 by omega,show (tcells t).length+j*3+2-(tcells t).length=j*3+2 by omega]
  simpa [tth] using ih
theorem c0G{w:World}{base:Nat}{e:TypeId}{v:Value}{n:Nat}{ts:List Tok}(h:w.ownsRow base e 3 v n (ts.flatMap tcells)) :
  ∃ A c,v=.slice A n c/\RT w A n ts/\n<=c/\(∀ a,A=some a->base<=a.block/\a.block<w.heap.size):=by
 obtain⟨h1,h2⟩:=h
 have hl:ts.length=n:=by rw[b4j] at h1;omega
 rcases h2 with⟨rfl,rfl⟩|⟨g,cap,cur,rfl,hb,hh,hc,hm,hs,ht⟩
 ·exact⟨none,0,rfl,⟨hl,by omega,by simp⟩,by omega,by simp⟩
 ·refine⟨_,_,rfl,⟨hl,fun _=>⟨_,_,rfl⟩,fun b o ha j hj=>?_⟩,hc,fun a ha=>?_⟩
  ·injection ha with ha;injection ha with h1 h2 h3;subst h1;subst h2
   have hp:=a7G ts j (by omega)
   have e1:∀ i,i<n*3->cur.toList[i]? =(ts.flatMap tcells)[i]? :=fun i hi=>by rw[<-ht,List.getElem?_take,if_pos hi]
   rw[Nat.zero_add]
   unfold World.cell?
   simp only[hh]
   rw[<-c1H,<-c1H,<-c1H,e1 _ (by omega),e1 _ (by omega),e1 _ (by omega)]
   exact hp
  ·obtain rfl:=Option.some.inj ha
   exact⟨hb,(c1z.1 hh).1⟩
end Go.Proofs.YtghjlpechjggjaaGreatDoor
namespace Go.Proofs.YtghjlpechjggjaaGreatDoor
open Go.RowKit
theorem b4y(w0:World)(Bo:Nat)(A:Option Addr)(n c:Nat)(xs:List Int)(hr:RI .u8 w0 A n xs)(hc:CapOk A n c)(hb:∀ j,0<=nth xs j/\nth xs j<=255)(hn:n<=16384)(hB:w0.cell? ⟨Bo,0,none⟩=some (.slice A n c))(hA:∀ a,A=some a->a.block<w0.heap.size)(hBo:Bo<w0.heap.size) :
  Iter Tryz.prog 90 #[.pointer (some ⟨Bo,0,none⟩)] (fun t=>#[tokV t]) (tokensF xs) (fun k=>k=w0.heap.size+2∨k=w0.heap.size+3∨k=Bo∨∃ a,A=some a/\k=a.block) w0:=by
 intro l J W hW hWs hJ hY h0
 refine callsIn_wide.2 ?_
 have hlen:xs.length=n:=hr.len
 have c0:=hW.cell (p:=⟨Bo,0,none⟩) (by simp) hB
 have HR:=c1n (hr.keeps hW (a0a _))
 have HJ:=c1n hJ
 have HY:=c1n hY
 have H0:=c1n h0
 have x1:decide ((16384:Int)<(n:Int))=false:=by simp;omega
 clear hr hJ hY h0 hB
 go_enter Tryz.func90,Tryz.ntmps90
 go_wp2_with fail
 have hmk:=fun w=>a1c (P:=Tryz.prog) w 90 3 .i64 8 Tryz.underlying90 a1r (n:Int) n rfl (by omega) (by omega)
 have hbd:=fun (w:World) (b:Nat)=>run_build (P:=Tryz.prog) w 139 #[(0,.slice A n c),(2,.slice (some ⟨b,0,none⟩) n n)] _ (a8V A n c b)
 have c0a:(W.alloc (.cells (ints .i64 (List.replicate n 0)).toArray 3)).cell? ⟨Bo,0,none⟩=some (.slice A n c):=((Keeps.refl [] W).alloc _).cell (by simp) c0
 go_region
 clear hmk hbd c0a
 obtain⟨m,hm⟩:∃ m,m=w0.heap.size+2:=⟨_,rfl⟩
 rw[<-hm]
 obtain⟨W2,hW2⟩:∃ W2,W2=(((W.alloc (.cells (ints .i64 (List.replicate n 0)).toArray 3)).alloc (.cells ((Tryz.zeroCells139.setIfInBounds 0 (.slice A n c)).setIfInBounds 4097 (.slice (some ⟨m,0,none⟩) n n)) 139)).drew):=⟨_,rfl⟩
 rw[<-hW2]
 have hk2:Keeps [] W W2:=by rw[hW2];exact (((Keeps.refl [] W).alloc _).alloc _).drew
 have hs2:W2.heap.size=m+2:=by rw[hW2];simp[hWs,hm]
 have hbb:Blk W2 m 3 (ints .i64 (List.replicate n 0)):=by
  have h1:=a0d W 3 (ints .i64 (List.replicate n 0))
  rw[hWs,<-hm] at h1
  rw[hW2]
  exact h1.keeps (S:=[]) (((Keeps.refl [] _).alloc _).drew) (by simp)
 have hgg:Blk W2 (m+1) 139 (a2V A n c (List.replicate 4096 0) m 0):=by
  have h1:=a0d (W.alloc (.cells (ints .i64 (List.replicate n 0)).toArray 3)) 139 (a2V A n c (List.replicate 4096 0) m 0)
  rw[World.size_alloc,hWs,<-hm] at h1
  rw[hW2,b2b]
  exact h1.keeps (S:=[]) ((Keeps.refl [] _).drew) (by simp)
 have hfb:FB W2 (m+1) m A n c xs 0:=FB.start hgg hbb (HR.out.keeps hk2 (a0a _)) hc (fun a ha hx=>by have:=hA a ha;simp at hx;omega) (by omega) hb hn
 have c2:=hk2.cell (p:=⟨Bo,0,none⟩) (by simp) c0
 have hj2:=HJ.out [] W W2 H0.out (hk2.mono (fun x hx=>by cases hx))
 rw[<-hm,show w0.heap.size+3=m+1 by omega] at HJ
 rw[show w0.heap.size+4=m+2 by omega] at HY
 have hfind:[]++findF xs xs.length 0=tokensF xs:=rfl
 have HF0:=c1n hfb
 have HJ0:=c1n hj2
 have HT0:=c1n hfind
 have HSZ0:Hid (m+2<=W2.heap.size):=c1n (by omega)
 have HM0:=c1n hm
 clear hm hW2 hk2 hs2 hbb hgg hfb hj2 hfind c0 HR H0 hW hWs x1
 go_wp2_with fail
 go_loopw [4] (fun iv wr=>∃ (i k:Nat) (pre:List Tok),i<=n/\k<=i/\iv=.int .i64 i/\wr.cell? ⟨Bo,0,none⟩=some (.slice A n c)/\Hid (pre++findF xs xs.length i=tokensF xs)/\Hid (J pre wr)/\Hid (FB wr (m+1) m A n c xs k)/\Hid (m+2<=wr.heap.size)) (fun iv _=>n-(intOf iv).toNat)
 case atStart=>exact⟨0,0,[],by omega,by omega,rfl,c2,HT0,HJ0,HF0,HSZ0⟩
 case round=>
  clear HT0 HJ0 HF0 HSZ0 c2
  obtain⟨i,k,pre,hi,hk,rfl,c2,HT,HJP,HF,HSZ⟩:=hrel
  by_cases hlt:i<n
  ·have x2:decide ((i:Int)<(n:Int))=true:=by simp;omega
   obtain⟨bb,o,hAA,k1⟩:=HF.out.ri.at (show i<n by omega)
   subst hAA
   have s1:((i:Int)).toNat=i:=by omega
   have hBm:Bo<m:=by have:=HM0.out;omega
   have hbbm:bb<m:=by have:=HM0.out;have:=hA _ rfl;simp at this;omega
   go_wp2_with fail
   obtain⟨x,hx⟩:∃ x,x=nth xs i:=⟨_,rfl⟩
   rw[<-hx]
   obtain⟨tb,htb⟩:∃ tb,tb=wr.heap.size:=⟨_,rfl⟩
   rw[<-htb]
   obtain⟨w3,hw3⟩:∃ w3,w3=wr.alloc (.cells #[.int .u8 x,.int .i64 0,.int .i64 0] 98):=⟨_,rfl⟩
   rw[<-hw3]
   have hk3:Keeps [] wr w3:=by rw[hw3];exact (Keeps.refl [] wr).alloc _
   have hb3:Blk w3 tb 98 (tcells (x,0,0)):=by rw[hw3,htb];exact a0d wr _ (tcells (x,0,0))
   have hs3:m+2<=w3.heap.size:=c1v HSZ.out hk3.size
   have htm:m+2<=tb:=by rw[htb];exact HSZ.out
   have HF3:=c1n (HF.out.keeps hk3 (by simp) (by simp) (a0a _))
   have HTB:Hid (wr.heap.size<=tb):=c1n (by omega)
   have HX:=c1n hx
   have HK3:=c1n hk3
   have HB3:=c1n hb3
   clear hx hw3 hk3 hb3 HF k1 htb
   refine (a6k w3 (m+1) m _ n c xs k i HF3.out hk (by omega)).mono ?_
   rintro _ w4 ⟨rfl,k',hk1,hk2,h4,hkp4⟩
   have c4:=hkp4.cell (p:=⟨Bo,0,none⟩) (by simp;omega) (HK3.out.cell (p:=⟨Bo,0,none⟩) (by simp) c2)
   have HB4:=c1n (HB3.out.keeps hkp4 (by simp;omega))
   have HJ4:=c1n (HJ.out pre wr w4 HJP.out ((HK3.out.mono (fun x hx=>by cases hx)).trans (hkp4.mono (fun x hx=>by simp at hx ⊢;omega))))
   have HKR4:=c1n ((HK3.out.mono (S':=[m,m+1]) (fun x hx=>by cases hx)).trans (hkp4.mono (S':=[m,m+1]) (fun x hx=>by simp at hx ⊢;omega)))
   have HF4:=c1n h4
   have HS4:Hid (m+2<=w4.heap.size):=c1n (c1v hs3 hkp4.size)
   have HFA:=c1n (find_at (xs:=xs) (i:=i) (by omega))
   have HTS:=c1n HT.out
   have HPL:Hid (pre.length<(tokensF xs).length):=c1n (by rw[<-HTS.out,c1r,find_at (xs:=xs) (i:=i) (by omega)];split<;>simp)
   clear h4 hkp4 HF3 HB3 HK3 c2 hs3 HSZ HT
   have hsp:=b1f xs i
   generalize hmm:mF xs i=mm at *
   obtain⟨ln,ds⟩:=mm
   simp only[] at HFA hsp ⊢
   have HMM:=c1n hmm
   have HSP:=c1n hsp
   clear hmm hsp
   by_cases hz:ln=0
   ·subst hz
    have x3:decide ((0:Int)<((0:Nat):Int))=false:=by decide
    obtain⟨fn,tmps,assign,body,hy,hR⟩:=HY.out pre (x,0,0) w4 HJ4.out HPL.out HS4.out
    have HRR:=c1n hR
    clear hR
    obtain⟨t0,t1,t2⟩:w4.cell? ⟨tb,0,none⟩=some (.int .u8 x)/\w4.cell? ⟨tb,1,none⟩=some (.int .i64 0)/\w4.cell? ⟨tb,2,none⟩=some (.int .i64 0):=⟨HB4.out.cell 0,HB4.out.cell 1,HB4.out.cell 2⟩
    go_upto_region 11 with (fail)
    dsimp only[tokV] at hy
    refine (wpIn_wide (n:=0)).1 ?_
    gi_wp2
    refine⟨rfl,HRR.out.mono ?_⟩
    rintro _ W5 ⟨rfl,hJ5,hk5⟩
    have c5:=hk5.cell (p:=⟨Bo,0,none⟩) c4 (.inr (.inr (.inl rfl)))
    have HJ5:=c1n hJ5
    have HF5:=c1n (HF4.out.keepsOn hk5 (.inr (.inl (by have:=HM0.out;omega))) (.inl HM0.out) (fun a ha=>.inr (.inr (.inr ⟨a,ha,rfl⟩))))
    have HS5:Hid (m+2<=W5.heap.size):=c1n (c1v HS4.out hk5.size)
    clear hJ5 hk5 hy HRR c4 HB4 HF4 HS4 HJ4
    have w1:IntKind.i64.wrap ((i:Int)+1)=(i:Int)+1:=c1o _ (by omega)
    gi_wp2
    go_wp2_with fail
    go_roundw
    case rel=>
     refine⟨i+1,k',pre++[(x,0,0)],by omega,by omega,by go_num,c5,c1n ?_,HJ5,HF5,HS5⟩
     rw[if_pos (.inl (by simp)),<-HX.out] at HFA
     rw[<-HTS.out,HFA.out,c1y];rfl
    case measure=>simp[intOf];omega
   ·have x3:decide ((0:Int)<(ln:Int))=true:=by simp;omega
    obtain⟨q1,q2,q3,q4⟩:=HSP.out.resolve_left (fun e=>hz (congrArg Prod.fst e))
    have hend:=a5O xs i ds (by omega)
    rw[q4,hlen] at hend
    have HQ4:=c1n q4
    clear q4
    have w1:IntKind.i64.wrap ((i:Int)+1)=(i:Int)+1:=c1o _ (by omega)
    have wl:IntKind.i64.wrap ((i:Int)+ln)=(i:Int)+ln:=c1o _ (by omega)
    go_wp2_with fail
    have hcall:=a6k w4 (m+1) m _ n c xs k' (i+1) HF4.out (by omega) (by omega)
    rw[show (((i+1:Nat):Int))=(i:Int)+1 by omega] at hcall
    refine hcall.mono ?_
    clear hcall
    rintro _ w6 ⟨rfl,k6,hk61,hk62,h6,hkp6⟩
    have c6:=hkp6.cell (p:=⟨Bo,0,none⟩) (by simp;omega) c4
    have hB6:=HB4.out.keeps hkp6 (by simp;omega)
    have HJ6a:=c1n (HJ.out pre w4 w6 HJ4.out (hkp6.mono (fun x hx=>by simp at hx ⊢;omega)))
    have HKR6:=c1n (HKR4.out.trans (hkp6.mono (S':=[m,m+1]) (fun x hx=>by simp at hx ⊢;omega)))
    have HF6a:=c1n h6
    have HS6a:Hid (m+2<=w6.heap.size):=c1n (c1v HS4.out hkp6.size)
    have HB6a:=c1n hB6
    clear h6 hkp6 hB6 c4 HF4 HB4 HS4 HJ4
    generalize (mF xs (i+1)).1=l2 at *
    generalize (mF xs (i+1)).2=d2 at *
    by_cases hl2:l2<=ln
    ·have x4:decide ((l2:Int)<=(ln:Int))=true:=by simp;omega
     obtain⟨t0,t1,t2⟩:w6.cell? ⟨tb,0,none⟩=some (.int .u8 x)/\w6.cell? ⟨tb,1,none⟩=some (.int .i64 0)/\w6.cell? ⟨tb,2,none⟩=some (.int .i64 0):=⟨HB6a.out.cell 0,HB6a.out.cell 1,HB6a.out.cell 2⟩
     have fz:=HB6a.out.frozen
     go_upto_region 11 with (fail)
     obtain⟨W6,hW6⟩:∃ W6,W6=(((w6.setCell ⟨tb,0,none⟩ (.int .u8 0)).setCell ⟨tb,1,none⟩ (.int .i64 ln)).setCell ⟨tb,2,none⟩ (.int .i64 ds)):=⟨_,rfl⟩
     rw[<-hW6]
     have hk6:Keeps [tb] w6 W6:=by rw[hW6];exact (((Keeps.refl [tb] w6).setCell (p:=⟨tb,0,none⟩) (.inl (by simp)) _).setCell (p:=⟨tb,1,none⟩) (.inl (by simp)) _).setCell (p:=⟨tb,2,none⟩) (.inl (by simp)) _
     have hkr:Keeps [m,m+1] wr W6:=by rw[hW6];exact (((HKR6.out).setCell (p:=⟨tb,0,none⟩) (.inr HTB.out) _).setCell (p:=⟨tb,1,none⟩) (.inr HTB.out) _).setCell (p:=⟨tb,2,none⟩) (.inr HTB.out) _
     have hb6:Blk W6 tb 98 (tcells (0,ln,ds)):=by rw[hW6];exact ((HB6a.out.set 0 _).set 1 _).set 2 _
     have HB6:=c1n hb6
     have HJ6:=c1n (HJ.out pre wr W6 HJP.out hkr)
     have HF6:=c1n (HF6a.out.keeps hk6 (by simp;omega) (by simp;omega) (fun a ha=>by injection ha with ha;subst ha;simp;omega))
     have HS6:Hid (m+2<=W6.heap.size):=c1n (c1v HS6a.out hk6.size)
     replace c6:=hk6.cell (p:=⟨Bo,0,none⟩) (by simp;omega) c6
     clear hW6 hk6 hkr hb6 HB6a HJ6a HF6a HS6a t0 t1 t2 fz HKR6 HJP
     obtain⟨fn,tmps,assign,body,hy,hR⟩:=HY.out pre (0,(ln:Int),(ds:Int)) W6 HJ6.out HPL.out HS6.out
     have HRR:=c1n hR
     clear hR
     obtain⟨t0,t1,t2⟩:W6.cell? ⟨tb,0,none⟩=some (.int .u8 0)/\W6.cell? ⟨tb,1,none⟩=some (.int .i64 ln)/\W6.cell? ⟨tb,2,none⟩=some (.int .i64 ds):=⟨HB6.out.cell 0,HB6.out.cell 1,HB6.out.cell 2⟩
     dsimp only[tokV] at hy
     refine (wpIn_wide (n:=0)).1 ?_
     gi_wp2
     refine⟨rfl,HRR.out.mono ?_⟩
     rintro _ W7 ⟨rfl,hJ7,hk7⟩
     have c7:=hk7.cell (p:=⟨Bo,0,none⟩) c6 (.inr (.inr (.inl rfl)))
     have HJ7:=c1n hJ7
     have HF7:=c1n (HF6.out.keepsOn hk7 (.inr (.inl (by have:=HM0.out;omega))) (.inl HM0.out) (fun a ha=>.inr (.inr (.inr ⟨a,ha,rfl⟩))))
     have HS7:Hid (m+2<=W7.heap.size):=c1n (c1v HS6.out hk7.size)
     clear hJ7 hk7 hy HRR c6 HB6 HF6 HS6 HJ6
     gi_wp2
     go_wp2_with fail
     go_roundw
     case rel=>
      refine⟨i+ln,k6,pre++[(0,(ln:Int),(ds:Int))],by omega,by omega,by go_num,c7,c1n ?_,HJ7,HF7,HS7⟩
      have hfa:=HFA.out
      rw[if_neg (by rintro (h1|h1)<;>omega)] at hfa
      rw[<-HTS.out,hfa,c1y];rfl
     case measure=>simp[intOf];omega
    ·have x4:decide ((l2:Int)<=(ln:Int))=false:=by simp;omega
     have HB6:=HB6a
     have HF6:=HF6a
     have HJ6:=HJ6a
     have HS6:=HS6a
     clear HB6a HF6a HJ6a HS6a
     obtain⟨fn,tmps,assign,body,hy,hR⟩:=HY.out pre (x,0,0) w6 HJ6.out HPL.out HS6.out
     have HRR:=c1n hR
     clear hR
     obtain⟨t0,t1,t2⟩:w6.cell? ⟨tb,0,none⟩=some (.int .u8 x)/\w6.cell? ⟨tb,1,none⟩=some (.int .i64 0)/\w6.cell? ⟨tb,2,none⟩=some (.int .i64 0):=⟨HB6.out.cell 0,HB6.out.cell 1,HB6.out.cell 2⟩
     go_upto_region 11 with (fail)
     dsimp only[tokV] at hy
     refine (wpIn_wide (n:=0)).1 ?_
     gi_wp2
     refine⟨rfl,HRR.out.mono ?_⟩
     rintro _ W7 ⟨rfl,hJ7,hk7⟩
     have c7:=hk7.cell (p:=⟨Bo,0,none⟩) c6 (.inr (.inr (.inl rfl)))
     have HJ7:=c1n hJ7
     have HF7:=c1n (HF6.out.keepsOn hk7 (.inr (.inl (by have:=HM0.out;omega))) (.inl HM0.out) (fun a ha=>.inr (.inr (.inr ⟨a,ha,rfl⟩))))
     have HS7:Hid (m+2<=W7.heap.size):=c1n (c1v HS6.out hk7.size)
     clear hJ7 hk7 hy HRR c6 HB6 HF6 HS6 HJ6
     gi_wp2
     go_wp2_with fail
     go_roundw
     case rel=>
      refine⟨i+1,k6,pre++[(x,0,0)],by omega,by omega,by go_num,c7,c1n ?_,HJ7,HF7,HS7⟩
      have hfa:=HFA.out
      rw[if_pos (.inr (by omega)),<-HX.out] at hfa
      rw[<-HTS.out,hfa,c1y];rfl
     case measure=>simp[intOf];omega
  ·obtain rfl:i=n:=by omega
   have x2:decide ((i:Int)<(i:Int))=false:=by simp
   go_wp2_with fail
   go_end0
   refine⟨⟨_,rfl⟩,?_⟩
   have:=HT.out
   have e:findF xs xs.length i=[]:=by
    cases hxl:xs.length with
    | zero=>rfl
    | succ f=>rw[findF,if_neg (by omega)]
   rw[e,List.append_nil] at this
   rw[<-this];exact HJP.out
end Go.Proofs.YtghjlpechjggjaaGreatDoor
namespace Go.Proofs.YtghjlpechjggjaaGreatDoor
open Go.RowKit
theorem b4z(w:World)(A:Option Addr)(n c:Nat)(xs:List Int)(hr:RI .u8 w A n xs)(hnil:A=none->n=0/\c=0)(hn:n<=100000000) :
  Calls Tryz.prog 58 #[.slice A n c] w fun e w'=>∃ (Bo:Nat) (A':Option Addr) (c':Nat),e=.returned (.func (.func 90) #[] #[.pointer (some ⟨Bo,0,none⟩)])/\w'.cell? ⟨Bo,0,none⟩=some (.slice A' n c') /\
   w'.ownsRow w.heap.size 5 1 (.slice A' n c') n (ints .u8 xs)/\w.heap.size<=Bo/\Bo<w'.heap.size/\Below w.heap.size w w':=by
 have HR:=c1n hr
 have HN:=c1n hnil
 have hmf:∀ (fn:Fn) (first cap:Array Value) (w:World),(Instr.makeFunc fn first cap).run Tryz.prog w=.ok (.func fn first cap) w:=fun _ _ _ _=>rfl
 clear hr hnil
 go_enter Tryz.func58,Tryz.ntmps58
 go_wp2_with (at_builtin;refine a4C rfl (.const (.slice none 0 0)) (.tmp 4) rfl w.heap.size _ _ [] rfl (World.ownsRow_nil _ _ _ _) A n c xs rfl (by exact HR.out) HN.out ?c1 (c1t _) ?_)
 case c1=>omega
 intro v' w1 hown hgrow hwhere
 obtain⟨A',c',rfl⟩:=a0g hown
 have hb:Below w.heap.size w w1:=(c1x _ w).grown hgrow (c1t _) (fun k hk=>by simp[Value.ownBlock] at hk)
 have HO:=c1n hown
 have HB:=c1n hb
 clear hown hgrow hwhere hb
 go_wp2_with fail
 go_ret
 refine⟨w1.heap.size,A',c',rfl,?_,HO.out.alloc _,HB.out.size,by simp,HB.out.trans (((c1x w1.heap.size w1).alloc (c1t _) _).mono HB.out.size)⟩
 have:=a0d w1 26 [.slice A' n c']
 exact this.cell 0
end Go.Proofs.YtghjlpechjggjaaGreatDoor
namespace Go.Proofs.YtghjlpechjggjaaGreatDoor
open Go.RowKit Go.Shelf
attribute [local go_sem] Oper.semAt_some
theorem b7m:(Tryz.prog.info? 98).map (fun i=>(i.zero,i.size,i.bytes))=some (some (.agg #[.int .u8 0,.int .i64 0,.int .i64 0]),3,24):=by kernel_rfl
theorem b4k(p:Tok):∀ u∈tcells p,u.oneCell'=true:=by
 intro u hu
 simp[tcells] at hu
 rcases hu with rfl|rfl|rfl<;>rfl
theorem b4E {F:Fence} {k:Nat} {ops:Array Oper} {rest:List Oper} {o:Oper} {a:Act} {Q:Exit->Act->World->Prop} {w:World} (hgd:o.guard=none) (s x:Operand)
  (ho:o.op=.call { callee:=.builtin .append,args:=#[s,x],argTypes:=#[68,68] })
  (base:Nat) (v:Value) (n:Nat) (L:List Tok) (hs:a.eval s=v) (hown:w.ownsRow base 98 3 v n (L.flatMap tcells))
  (b:Nat) (p:Tok) (hx:a.eval x=.slice (some ⟨b,0,none⟩) 1 1) (h0:w.cell? ⟨b,0,none⟩=some (.int .u8 p.1)) (h1:w.cell? ⟨b,1,none⟩=some (.int .i64 p.2.1)) (h2:w.cell? ⟨b,2,none⟩=some (.int .i64 p.2.2))
  (hn:n<=1000000000) (hbase:base<=w.heap.size)
  (h:∀ v' w',w'.ownsRow base 98 3 v' (n+1) ((L++[p]).flatMap tcells)->w.grownBy w' v.ownBlock->wpListIn F k Tryz.prog ops Q rest (a.put o.dst v') w'):wpListIn F k Tryz.prog ops Q (o::rest) a w:=by
 obtain⟨i0,hi,hz0,hz1,hz2⟩:=info_parts b7m
 refine wpListIn_append_own w hgd s x 68 ho base 98 i0 (.agg #[.int .u8 0,.int .i64 0,.int .i64 0]) 3 24 Tryz.underlying68 hi hz0 hz1 hz2 rfl (by decide) v n (L.flatMap tcells) hs hown ⟨b,0,none⟩ 1 1 (tcells p) hx rfl ?_ (b4k p) (by unfold maxLen;omega) (by omega) hbase ?_
 ·intro j u hu
  match j,hu with
  | 0,hu=>simp[tcells] at hu;subst hu;rw[a0H];exact h0
  | 1,hu=>simp[tcells] at hu;subst hu;rw[a0H];exact h1
  | 2,hu=>simp[tcells] at hu;subst hu;rw[a0H];exact h2
  | j+3,hu=>simp[tcells] at hu
 ·intro v' w' h2 h3 _
  rw[List.flatMap_append,List.flatMap_singleton] at h
  exact h v' w' h2 h3
theorem b1p{w:World}{base n:Nat}{A:Option Addr}{c:Nat}{xs:List Int}(h:w.ownsRow base 5 1 (.slice A n c) n (ints .u8 xs)):∀ a,A=some a->a.block<w.heap.size:=by
 obtain⟨A5,c5,h1,-,h3,h4⟩:=a0B h
 injection h1 with q1 q2 q3
 subst q1
 exact fun a ha=>(h4 a ha).2.1
theorem b5J{w:World}{base size n:Nat}{e:TypeId}{v:Value}{xs:List Value}(h:w.ownsRow base e size v n xs):∀ g,v.ownBlock=some g->base<=g:=by
 intro g hg
 rcases h.2 with h2|⟨g2,cap,cur,hv,hb,-⟩
 ·rw[h2.1] at hg;simp[Value.ownBlock] at hg
 ·rw[hv] at hg
  simp[Value.ownBlock] at hg
  omega
theorem a6s{w:World}{base b2 size n:Nat}{e:TypeId}{v:Value}{xs:List Value}(h:w.ownsRow base e size v n xs)(hb2:b2<=base):w.ownsRow b2 e size v n xs:=by
 refine⟨h.1,?_⟩
 rcases h.2 with h2|⟨g2,cap,cur,hv,hb,hh⟩
 ·exact .inl h2
 ·exact .inr ⟨g2,cap,cur,hv,c1v hb2 hb,hh⟩
theorem a0c{S:List Nat}{W1 W2:World}{n0:Nat}(h:Keeps S W1 W2)(hn:n0<=W1.heap.size)(hS:∀ x∈S,n0<=x):Below n0 W1 W2:=
 ⟨h.os,h.tape,h.output,h.size,fun k hk=>h.block k (by omega) (fun hm=>by have:=hS k hm;omega)⟩
theorem b3t(w:World)(A:Option Addr)(n c:Nat)(xs:List Int)(hr:RI .u8 w A n xs)(hnil:A=none->n=0/\c=0)(hn:n<=16384)(hb:∀ j,0<=nth xs j/\nth xs j<=255) :
  Calls Tryz.prog 38 #[.slice A n c] w fun e w'=>∃ v,e=.returned v/\w'.ownsRow w.heap.size 98 3 v (tokensF xs).length ((tokensF xs).flatMap tcells)/\Below w.heap.size w w':=by
 have HR:=c1n hr
 have HN:=c1n hnil
 clear hr hnil
 refine (callsIn_wide (n:=0)).1 (callsIn_of_wp_marks Tryz.func38 rfl trivial ?_ rfl)
 simp only[Tryz.ntmps38,List.size_toArray,c1s,List.length_nil,Nat.reduceAdd,Nat.reduceSub,Array.replicate_succ,Array.replicate_zero,List.push_toArray,List.append_toArray,List.nil_append,List.cons_append]
 gi_wp2
 refine⟨trivial,rfl,((callsIn_wide (n:=0)).2 (b4z _ A n c xs (HR.out.keeps ((Keeps.refl [] w).alloc _) (a0a _)) HN.out (by omega))).mono ?_⟩
 rintro _ w2 ⟨Bo,A',c',rfl,hBo,hown,hge,hlt,hbel⟩
 have hbox:w2.heap[w.heap.size]? =some (.cells #[.slice none 0 0] 68 (0,0)):=by
  have h1:=a0d w 68 [.slice none 0 0]
  exact (hbel.block _ (by simp)).trans h1
 have hb2:Below w.heap.size w w2:=((c1x w.heap.size w).alloc (c1t _) _).trans (hbel.mono (by simp))
 have HBO:=c1n hBo
 have HOW:=c1n hown
 have HGE:=c1n hge
 have HLT:=c1n hlt
 have HBX:=c1n hbox
 have HB2:=c1n hb2
 clear hBo hown hge hlt hbel hbox hb2
 gi_wp2
 obtain⟨ri',-⟩:RI .u8 w2 A' n xs/\True:=by
  obtain⟨A5,c5,h1,h2,-,-⟩:=a0B HOW.out
  injection h1 with q1 q2 q3
  subst q1
  exact⟨h2,trivial⟩
 refine b5R (gf:=90) (lb:=#[.pointer (some ⟨Bo,0,none⟩)]) rfl (enters_of Tryz.func90 (by kernel_rfl) rfl) ?hC
  (b4y w2 Bo A' n c' xs ri' (b1o HOW.out) hb hn HBO.out ?hA HLT.out) (fun _=>rfl)
  (fun pre W=>(∃ v,W.heap[w.heap.size]? =some (.cells #[v] 68 (0,0))/\W.ownsRow (w2.heap.size+4) 98 3 v pre.length (pre.flatMap tcells))/\Below w.heap.size w W)
  ?hI ?h0 (fun x W a' W1=>W1=W.alloc (.cells (tcells x).toArray 98)/\a'={ tmps:=#[.slice A n c,undef,.slice none 0 0,.pointer (some ⟨w.heap.size,0,none⟩),.pointer (some ⟨W.heap.size,0,none⟩),.slice A n c,.func (.func 90) #[] #[.pointer (some ⟨Bo,0,none⟩)],tokV x,undef,undef,undef,undef,undef],defers:=[] }) ?hAx ?assign ?body ?done
 case hC=>
  have h1:=HLT.out
  rintro k (h|h|h|⟨a,ha,h⟩)
  ·omega
  ·omega
  ·omega
  ·have:=(b1p HOW.out) a ha
   omega
 case hA=>exact fun a ha=>(b1p HOW.out) a ha
 case h0=>exact⟨⟨_,HBX.out,World.ownsRow_nil _ _ _ _⟩,HB2.out⟩
 case hAx=>rintro x W a' W1 ⟨rfl,-⟩;exact (Keeps.refl [] W).alloc _
 case hI=>
  have hsz:=HB2.out.size
  have hlt2:=HGE.out
  have hlt3:=HLT.out
  simp at hlt2
  rintro s W1 W2 ⟨⟨v,hv,ho⟩,hB⟩ hk
  refine⟨⟨v,hk.heap hv (by simp;omega),a0b ho hk (fun g hg hm=>by have:=b5J ho g hg;simp at hm;omega)⟩,hB.trans (a0c hk hB.size (fun x hx=>by simp at hx;omega))⟩
 case assign=>
  intro l pre x W K hi hsz hK
  have HK:=c1n hK
  clear hK
  dsimp only[tokV]
  gi_wp2
  exact HK.out _ _ ⟨rfl,rfl⟩
 case done=>
  rintro W ⟨⟨v,hv,ho⟩,hB⟩ hD
  have hc:W.cell? ⟨w.heap.size,0,none⟩=some v:=by simp[World.cell?,hv]
  have HO:=c1n ho
  have HBW:=c1n hB
  clear hv ho hB
  gi_wp2
  refine⟨by simp,.inl ⟨_,_,rfl,run_takeDeferred hD,?_⟩⟩
  exact⟨_,results_tmp rfl _ _ _,v,rfl,a6s (a0b HO.out (a0x W w2.heap.size _) (fun g hg hm=>by have:=b5J HO.out g hg;simp at hm;omega)) (by have:=HB2.out.size;omega),
   HBW.out.trans (a0c (a0x W w2.heap.size _) HBW.out.size (fun x hx=>by simp at hx;have:=HB2.out.size;omega))⟩
 case body=>
  rintro pre x W a' W1 W2 ⟨⟨v,hv,ho⟩,hB⟩ hpl hsz ⟨rfl,rfl⟩ hk2
  have hbs:=HB2.out.size
  have hc:W2.cell? ⟨w.heap.size,0,none⟩=some v:=by
   have h1:(W.alloc (.cells (tcells x).toArray 98)).heap[w.heap.size]? =some (.cells #[v] 68 (0,0)):=((Keeps.refl [] W).alloc _).heap hv (by simp)
   have h2:=hk2.heap h1 (by simp;omega)
   simp[World.cell?,h2]
  have hx:Blk W2 W.heap.size 98 (tcells x):=(a0d W _ (tcells x)).keeps hk2 (by simp;omega)
  have t0:=hx.cell 0
  have t1:=hx.cell 1
  have t2:=hx.cell 2
  simp only[tcells,List.getElem?_cons_zero,List.getElem?_cons_succ] at t0 t1 t2
  have hne:∀ g,v.ownBlock=some g->w2.heap.size+4<=g:=b5J ho
  have hw2:W2.heap[w.heap.size]? =some (.cells #[v] 68 (0,0)):=by
   have h1:(W.alloc (.cells (tcells x).toArray 98)).heap[w.heap.size]? =some (.cells #[v] 68 (0,0)):=((Keeps.refl [] W).alloc _).heap hv (by simp)
   exact hk2.heap h1 (by simp;omega)
  have hfz:W2.frozen? ⟨w.heap.size,0,none⟩=false:=by simp[World.frozen?,hw2]
  have HW2:=c1n hw2
  have hlen:pre.length+1<=16384:=by
   have h1:=a8c xs xs.length 0
   have h2:=ri'.len
   unfold tokensF at hpl
   omega
  have HO:=c1n (a0b (ho.alloc (.cells (tcells x).toArray 98)) hk2 (fun g hg hm=>by have:=hne g hg;simp at hm;omega))
  have hks:W.heap.size<W2.heap.size:=by have h1:=hk2.size;simp at h1;omega
  have HKS:=c1n hks
  have HBW:=c1n hB
  have HNE:=c1n hne
  have HK2:=c1n hk2
  have hbx:w.heap.size<W2.heap.size:=by omega
  have HBX2:=c1n hbx
  clear hv ho hB hx hk2 hne ri' hks hw2
  gi_wp2_with (gi_at_builtin;refine b4E rfl (.tmp 8) (.tmp 10) rfl (w2.heap.size+4) v pre.length pre ?_ (by exact HO.out.alloc _) W2.heap.size x ?_ (by simp) (by simp) (by simp) (by omega) ?_ ?_)
  ·rfl
  ·rfl
  ·have h1:=HKS.out;simp;omega
  ·intro v' w' h1 hg
   obtain⟨A9,c9,rfl⟩:=a0g h1
   have hbl:w'.heap[w.heap.size]? =W2.heap[w.heap.size]? :=(hg.block _ (by simp;omega) (fun e=>by have:=HNE.out _ e.symm;omega)).trans (Go.Deep.blk_alloc_lt _ _ _ hbx)
   have hc':w'.cell? ⟨w.heap.size,0,none⟩=some v:=(c1p (a:=⟨w.heap.size,0,none⟩) hbl).trans hc
   have hf':w'.frozen? ⟨w.heap.size,0,none⟩=false:=(c1q (a:=⟨w.heap.size,0,none⟩) hbl).trans hfz
   have HH:=c1n (hbl.trans HW2.out)
   have H1:=c1n h1
   have HG:=c1n hg
   clear h1 hg hbl t0 t1 t2 hc hfz
   gi_wp2_with fail
   refine⟨⟨⟨.slice A9 (pre.length+1) c9,?_,?_⟩,?_⟩,?_⟩
   ·have h1:Blk w' w.heap.size 68 [v]:=HH.out
    exact Blk.set h1 0 _
   ·rw[c1r,List.flatMap_append,List.flatMap_singleton]
    exact ownsRow_setCell_below H1.out (show w.heap.size<w2.heap.size+4 by omega) _
   ·have hk:Keeps [w2.heap.size+1] W W2:=((Keeps.refl [] W).alloc (.cells (tcells x).toArray 98)).mono (fun _ h=>by cases h) |>.trans HK2.out
    have hb1:=HBW.out.trans (a0c hk HBW.out.size (fun z hz=>by simp at hz;omega))
    exact ((hb1.alloc hb1.size _).grown HG.out (by have:=hb1.size;simp;omega) (fun g hg=>by have:=HNE.out g hg;omega)).setCell (p:=⟨w.heap.size,0,none⟩) (c1t _) _
   ·refine⟨?_,fun k hk hc=>?_⟩
    ·have:=HG.out.size;simp at this;simp[World.setCell];omega
    ·have hge:=HGE.out
     simp at hge
     have hlo:k<w2.heap.size+4:=by
      have hlt:=HLT.out
      rcases hc with (h|h|h|⟨a,ha,h⟩)|h|h
      ·omega
      ·omega
      ·omega
      ·have:=(b1p HOW.out) a ha;omega
      ·omega
      ·omega
     have hkw:k≠w.heap.size:=by
      rcases hc with (h|h|h|⟨a,ha,h⟩)|h|h
      ·omega
      ·omega
      ·omega
      ·obtain⟨A5,c5,q1,-,q3,q4⟩:=a0B HOW.out
       injection q1 with q5 q6 q7
       subst q5
       have:=(q4 a ha).1
       simp at this
       omega
      ·have:=(c1z.1 HBX.out).1;omega
      ·omega
     exact (Go.Deep.blk_setCell_other _ _ _ _ hkw).trans ((HG.out.block k (by simp;omega) (fun e=>by have:=HNE.out _ e.symm;omega)).trans (Go.Deep.blk_alloc_lt _ _ _ hk))
end Go.Proofs.YtghjlpechjggjaaGreatDoor
namespace Go.Proofs.YtghjlpechjggjaaGreatDoor
open Go.RowKit Go.Shelf
attribute [local go_sem] Oper.semAt_some
def leI:List Int->Int
 | []=>0
 | x::xs=>x+256*leI xs
def bkV(l:List (Nat×Int)):Int:=l.foldl (fun v p=>v*256+p.2) 0
theorem b6T(l:List (Nat×Int))(p:Nat×Int):bkV (l++[p])=bkV l*256+p.2:=by simp[bkV]
theorem b2m(xs:List Int):∀ k (v:Int),k<=xs.length->(bkT xs k).foldl (fun v p=>v*256+p.2) v=v*256^k+leI (xs.take k)
 | 0,v,_=>by simp[bkT,leI]
 | k+1,v,h=>by
  rw[bkT,List.foldl_cons,b2m xs k _ (by omega)]
  have e:∀ (ys:List Int) (x:Int),leI (ys++[x])=leI ys+256^ys.length*x:=by
   intro ys x
   induction ys with
   | nil=>simp[leI]
   | cons y ys ih=>rw[List.cons_append,leI,ih,leI,c1s,Int.pow_succ,Int.mul_add,<-Int.mul_assoc,Int.mul_comm 256 (256^ys.length)];omega
  rw[List.take_succ_eq_append_getElem (show k<xs.length by omega),e,<-a0q (show k<xs.length by omega),List.length_take,Nat.min_eq_left (show k<=xs.length by omega),Int.pow_succ,Int.add_mul]
  have:v*256*256^k=v*(256^k*256):=by rw[Int.mul_assoc,Int.mul_comm 256]
  rw[this,Int.mul_comm (256^k) (nth xs k)]
  dsimp only
  omega
theorem b9m{xs:List Int}{k:Nat}(h:xs.length=k):bkV (bkT xs k)=leI xs:=by
 unfold bkV
 rw[b2m xs k 0 (by omega),Int.zero_mul,Int.zero_add,List.take_of_length_le (by omega)]
theorem c0p:∀ (l:List (Nat×Int)),(∀ p∈l,0<=p.2/\p.2<=255)->0<=bkV l/\bkV l<256^l.length:=fun l=>by
 suffices h:∀ (l:List (Nat×Int)) (v:Int) (k:Nat),0<=v->v<256^k->(∀ p∈l,0<=p.2/\p.2<=255)->0<=l.foldl (fun v p=>v*256+p.2) v/\l.foldl (fun v p=>v*256+p.2) v<256^(k+l.length) by
  intro hl
  have:=h l 0 0 (by omega) (by omega) hl
  rwa [Nat.zero_add] at this
 intro l
 induction l with
 | nil=>intro v k h0 h1 _;exact⟨h0,by simpa using h1⟩
 | cons p l ih=>
  intro v k h0 h1 hl
  obtain⟨p0,p1⟩:=hl p c1F
  have:=ih (v*256+p.2) (k+1) (by omega) (by rw[Int.pow_succ];omega) (fun q hq=>hl q (c1B _ hq))
  rw[List.foldl_cons,c1s,show k+(l.length+1)=k+1+l.length by omega]
  exact this
theorem a9w:∀ {xs:List Int},(∀ x∈xs,0<=x/\x<=255)->0<=leI xs/\leI xs<256^xs.length
 | [],_=>by simp[leI]
 | x::xs,h=>by
  obtain⟨a,b⟩:=a9w (fun y hy=>h y (c1B _ hy))
  obtain⟨c,d⟩:=h x c1F
  rw[leI,c1s,Int.pow_succ];omega
theorem b0G{xs:List Int}:∀ {k:Nat} {p:Nat×Int},p∈bkT xs k->p.2=nth xs p.1/\p.1<k
 | 0,_,h=>by cases h
 | k+1,p,h=>by
  rcases List.mem_cons.1 h with rfl|h
  ·exact⟨rfl,by simp⟩
  ·obtain⟨a,b⟩:=b0G h;exact⟨a,by omega⟩
theorem b4J(xs:List Int):∀ k,(bkT xs k).length=k
 | 0=>rfl
 | k+1=>by rw[bkT,c1s,b4J]
def seg(xs:List Int)(l k:Nat):List Int:=(xs.take (l+k)).drop l
theorem a4M{xs:List Int}{l k:Nat}(h:l+k<=xs.length):(seg xs l k).length=k:=by simp[seg];omega
theorem a6H{xs:List Int}(hb:∀ x∈xs,0<=x/\x<=255)(l k:Nat):∀ x∈seg xs l k,0<=x/\x<=255:=fun x hx=>hb x (List.mem_of_mem_take (List.mem_of_mem_drop hx))
def zget(xs:List Int)(l k:Nat):Int:=leI (seg xs l k)
theorem c0M{v x:Int}(h0:0<=v)(h1:v*256<18446744073709551616)(hx:0<=x/\x<=255):bits .or .u64 (v*256) x=v*256+x:=by
 obtain⟨a,rfl⟩:=Int.eq_ofNat_of_zero_le h0
 obtain⟨b,rfl⟩:=Int.eq_ofNat_of_zero_le hx.1
 have:=u64_or_nat (a*256) b (by omega) (by omega)
 have e:a*256 ||| b=a*256+b:=by
  have:=Nat.two_pow_add_eq_or_of_lt (i:=8) (b:=b) (by omega) a
  rw[show (2:Nat)^8=256 from rfl] at this
  rw[Nat.mul_comm a 256,this]
 rw[e] at this
 rw[show ((a:Int)*256)=((a*256:Nat):Int) by omega,this];omega
theorem b0E(w:World)(A:Option Addr)(n c:Nat):Calls Tryz.prog 140 #[.slice A n c] w fun e w'=>e=.returned (.func (.func 159) #[] #[.pointer (some ⟨w.heap.size,0,none⟩)])/\w'=w.alloc (.cells #[.slice A n c] 26):=by
 go_enter Tryz.func140,Tryz.ntmps140
 go_wp2_with fail
 go_ret
 exact⟨rfl,rfl⟩
theorem a9q(w:World)(A:Option Addr)(n c:Nat)(xs:List Int)(hr:RI .u8 w A n xs)(hc:CapOk A n c)(hb:∀ x∈xs,0<=x/\x<=255)(hn:n<=1000000000)(hA:∀ a,A=some a->a.block<w.heap.size)(l k:Nat)(hk:k<=8)(hlk:l+k<=n) :
  Calls Tryz.prog 126 #[.slice A n c,.int .i64 l,.int .i64 k] w fun e w'=>e=.returned (.tuple #[.int .u64 (zget xs l k),.int .i64 0])/\Below w.heap.size w w':=by
 have HR:=c1n hr
 have HL:Hid (xs.length=n):=c1n hr.len
 have HC:=c1n hc
 have HBY:=c1n hb
 have x1:decide ((l:Int)<0)=false:=by simp
 have s0:IntKind.i64.wrap ((n:Int)-(k:Int))=(n:Int)-(k:Int):=c1o _ (by omega)
 have x2:decide ((n:Int)-(k:Int)<(l:Int))=false:=by simp;omega
 have s1:IntKind.i64.wrap ((l:Int)+(k:Int))=(l:Int)+(k:Int):=c1o _ (by omega)
 have hsl:=fun w=>a3v w A n c l (l+k) (l:Int) ((l:Int)+(k:Int)) rfl (by omega) (by omega) hlk hc
 clear hr hc hb
 refine (callsIn_wide (n:=0)).1 (callsIn_of_wp_marks Tryz.func126 rfl trivial ?_ rfl)
 simp only[Tryz.ntmps126,List.size_toArray,c1s,List.length_nil,Nat.reduceAdd,Nat.reduceSub,Array.replicate_succ,Array.replicate_zero,List.push_toArray,List.append_toArray,List.nil_append,List.cons_append]
 gi_wp2
 refine⟨trivial,rfl,((callsIn_wide (n:=0)).2 (b0E _ (cutA A l c) k (c-l))).mono ?_⟩
 rintro _ w2 ⟨rfl,rfl⟩
 have hsg:(seg xs l k).length=k:=a4M (by rw[HL.out];exact hlk)
 have hk2:Keeps [] w ((w.alloc (.cells #[.int .u64 0] 114)).alloc (.cells #[.slice (cutA A l c) k (c-l)] 26)):=((Keeps.refl [] w).alloc _).alloc _
 have HRS:Hid (RI .u8 ((w.alloc (.cells #[.int .u64 0] 114)).alloc (.cells #[.slice (cutA A l c) k (c-l)] 26)) (cutA A l c) k (seg xs l k)):=c1n (by
  have:=(HR.out.mid HC.out (l:=l) (m:=l+k) (by omega) hlk).keeps hk2 (a0a _)
  rwa [show l+k-l=k by omega] at this)
 gi_wp2
 obtain⟨g,hg⟩:∃ g,g=w.heap.size:=⟨_,rfl⟩
 obtain⟨w3,hw3⟩:∃ x,x=((w.alloc (.cells #[.int .u64 0] 114)).alloc (.cells #[.slice (cutA A l c) k (c-l)] 26)):=⟨_,rfl⟩
 have hB3:w3.cell? ⟨g+1,0,none⟩=some (.slice (cutA A l c) k (c-l)):=by
  have:=a0d (w.alloc (.cells #[.int .u64 0] 114)) 26 [.slice (cutA A l c) k (c-l)]
  have:=this.cell 0
  rw[hw3,hg]
  rw[World.size_alloc] at this
  exact this
 have hB0:w3.heap[g]? =some (.cells #[.int .u64 0] 114 (0,0)):=by
  have:=(a0d w 114 [.int .u64 0]).keeps (S:=[]) ((Keeps.refl [] _).alloc (.cells #[.slice (cutA A l c) k (c-l)] 26)) (by simp)
  rw[hw3,hg]
  exact this
 have hs3:w3.heap.size=g+2:=by rw[hw3,hg];simp
 have hbl3:Below w.heap.size w w3:=by rw[hw3];exact ((c1x w.heap.size w).alloc (c1t _) _).alloc (by simp) _
 have hcut:∀ a,cutA A l c=some a->a.block<g:=fun a ha=>by
  unfold cutA at ha
  split at ha
  ·rw[hg];exact hA a ha
  ·cases A with
   | none=>cases ha
   | some x=>
    have hx:=hA x rfl
    injection ha with ha
    subst ha
    rw[hg]
    show (x.add l).block<_
    unfold Addr.add
    split<;>exact hx
 rw[<-hw3] at hk2 HRS ⊢
 rw[<-hg]
 have HB0:=c1n hB0
 have HBL:=c1n hbl3
 have HG:=c1n hg
 have HSG:=c1n hsg
 have HS3:=c1n hs3
 clear hw3 hsl hB0 hbl3 hg hk2 hsg hs3
 refine a7y (gf:=159) (lb:=#[.pointer (some ⟨g+1,0,none⟩)]) (encs:=bkE) (toks:=bkT (seg xs l k) k) rfl (enters_of Tryz.func159 (by kernel_rfl) rfl) (O:=[]) (C:=fun j=>j=g+1∨∃ a,cutA A l c=some a/\j=a.block) (by simp) ?hC
  (b4F w3 (g+1) (cutA A l c) k (c-l) (seg xs l k) HRS.out hB3 (by omega)) (fun _=>rfl)
  (fun pre W=>W.heap[g]? =some (.cells #[.int .u64 (bkV pre)] 114 (0,0))/\Below w.heap.size w W) (fun _ _=>False)
  ?hI (fun _ _ _ h=>h.elim) ?h0 (fun x W a' W1=>W1=W/\a'={ tmps:=#[.slice A n c,.int .i64 l,.int .i64 k,undef,undef,undef,.int .u64 0,.int .i64 0,.pointer (some ⟨g,0,none⟩),undef,.int .u8 x.2,.int .i64 l,.bool false,.bool false,.int .i64 l,.slice A n c,.int .i64 n,.int .i64 k,.int .i64 ((n:Int)-k),.bool false,.bool false,.slice A n c,.int .i64 l,.int .i64 l,.int .i64 k,.int .i64 ((l:Int)+k),.slice (cutA A l c) k (c-l),.func (.func 159) #[] #[.pointer (some ⟨g+1,0,none⟩)],.int .i64 x.1,.int .u8 x.2,undef,undef,undef,undef,undef,undef],defers:=[] }) ?hAx ?assign ?body ?done ?stop
 case hC=>
  have:=HS3.out
  rintro j (h|⟨a,ha,h⟩)
  ·omega
  ·have:=hcut a ha;omega
 case h0=>exact⟨HB0.out,HBL.out⟩
 case hAx=>rintro x W a' W1 ⟨rfl,-⟩;exact Keeps.refl [] _
 case hI=>
  have:=HS3.out
  have:=HG.out
  rintro s W1 W2 ⟨hv,hB⟩ hk
  exact⟨hk.heap hv (by simp;omega),hB.trans (a0c hk hB.size (fun x hx=>by simp at hx;omega))⟩
 case assign=>
  intro l' pre x W K hi hsz hK
  have HK:=c1n hK
  clear hK
  dsimp only[bkE]
  gi_wp2
  exact HK.out _ _ ⟨rfl,rfl⟩
 case stop=>rintro pre W _ h;exact h.elim
 case done=>
  rintro W ⟨hv,hB⟩ hD
  have hc:W.cell? ⟨g,0,none⟩=some (.int .u64 (zget xs l k)):=by
   rw[b9m HSG.out] at hv
   simp[World.cell?,hv,zget]
  have HBW:=c1n hB
  clear hv hB
  gi_wp2
  have h3:=HS3.out
  have h4:=HG.out
  refine⟨by simp,.inl ⟨_,_,rfl,run_takeDeferred hD,?_⟩⟩
  exact⟨_,results_tmp2 rfl _ _ _,rfl,HBW.out.trans (a0c (a0x W w3.heap.size _) HBW.out.size (fun x hx=>by simp at hx;omega))⟩
 case body=>
  rintro pre x W a' W1 W2 ⟨hv,hB⟩ hpl hsz ⟨rfl,rfl⟩ hk2
  have hx:0<=x.2/\x.2<=255:=by
   have hm:x∈bkT (seg xs l k) k:=List.IsPrefix.subset hpl (c1J.2 (.inr (by simp)))
   obtain⟨h1,h2⟩:=b0G hm
   rw[h1,a0q (by rw[HSG.out];exact h2)]
   exact a6H HBY.out l k _ (c1D _)
  have hpb:0<=bkV pre/\bkV pre*256<18446744073709551616:=by
   have hl:=hpl.length_le
   rw[b4J,c1r,List.length_singleton] at hl
   have hb:=c0p pre (fun p hp=>by
    have hm:p∈bkT (seg xs l k) k:=List.IsPrefix.subset hpl (c1J.2 (.inl hp))
    obtain⟨h1,h2⟩:=b0G hm
    rw[h1,a0q (by rw[HSG.out];exact h2)]
    exact a6H HBY.out l k _ (c1D _))
   refine⟨hb.1,?_⟩
   have h7:(256:Int)^pre.length<=256^7:=by
    have:(256:Nat)^pre.length<=256^7:=Nat.pow_le_pow_right (by omega) (by omega)
    exact_mod_cast this
   have h8:(256:Int)^7=72057594037927936:=by decide
   omega
  have hv2:W2.heap[g]? =some (.cells #[.int .u64 (bkV pre)] 114 (0,0)):=hk2.heap hv (by have:=HS3.out;simp;omega)
  have hc:W2.cell? ⟨g,0,none⟩=some (.int .u64 (bkV pre)):=by simp[World.cell?,hv2]
  have hf:W2.frozen? ⟨g,0,none⟩=false:=by simp[World.frozen?,hv2]
  have HV2:=c1n hv2
  have HBW:=c1n hB
  have HK2:=c1n hk2
  have q1:=c0M hpb.1 hpb.2 hx
  have q2:IntKind.u64.wrap (bkV pre*256)=bkV pre*256:=IntWalk.u64_in _ (by omega)
  have q3:IntKind.u64.wrap x.2=x.2:=IntWalk.u64_in _ (by omega)
  have HE:Hid (bkV (pre++[x])=bkV pre*256+x.2):=c1n (b6T pre x)
  clear hv hB hk2 hv2 hpl hpb hx
  generalize bkV pre=v at *
  generalize x.2=y at *
  gi_wp2
  have h3:=HS3.out
  have h4:=HG.out
  refine⟨⟨?_,?_⟩,?_,?_⟩
  ·rw[HE.out];exact Blk.set (show Blk W2 g 114 [.int .u64 v] from HV2.out) 0 _
  ·exact (HBW.out.trans (a0c HK2.out HBW.out.size (fun z hz=>by simp at hz;omega))).setCell (p:=⟨g,0,none⟩) (by simp;omega) _
  ·simp[World.setCell]
  ·intro j hj hj2
   refine Go.Deep.blk_setCell_other _ _ _ _ (fun e=>?_)
   have e:j=g:=e
   rcases hj2 with (h|⟨a,ha,h⟩)|h|h
   ·omega
   ·have:=hcut a ha;omega
   ·omega
   ·omega
end Go.Proofs.YtghjlpechjggjaaGreatDoor
namespace Go.Proofs.YtghjlpechjggjaaGreatDoor
open Go.RowKit
structure OnlyC (F j:Nat) (w w':World):Prop where
 keeps:Keeps [F] w w'
 cell:∀ i,i≠j->w'.cell? ⟨F,i,none⟩=w.cell? ⟨F,i,none⟩
 frozen:∀ i,w'.frozen? ⟨F,i,none⟩=w.frozen? ⟨F,i,none⟩
theorem OnlyC.trans{F j:Nat}{a b c:World}(h:OnlyC F j a b)(k:OnlyC F j b c):OnlyC F j a c:=
 ⟨h.keeps.trans k.keeps,fun i hi=>(k.cell i hi).trans (h.cell i hi),fun i=>(k.frozen i).trans (h.frozen i)⟩
theorem OnlyC.of_keeps{F j:Nat}{w w':World}(h:Keeps [] w w')(hF:F<w.heap.size):OnlyC F j w w':=
 ⟨h.mono (fun x hx=>by cases hx),fun i _=>c1p (a:=⟨F,i,none⟩) (h.block F hF (by simp)),fun i=>c1q (a:=⟨F,i,none⟩) (h.block F hF (by simp))⟩
theorem OnlyC.set{F j:Nat}{w w':World}(h:OnlyC F j w w')(v:Value):OnlyC F j w (w'.setCell ⟨F,j,none⟩ v):=
 ⟨h.keeps.setCell (p:=⟨F,j,none⟩) (.inl (by simp)) v,fun i hi=>(World.cell?_setCell_other _ _ _ _ (by simp[Ne.symm hi])).trans (h.cell i hi),fun i=>(World.frozen?_setCell _ _ _ _).trans (h.frozen i)⟩
structure FD (w:World) (F o:Nat) (A:Option Addr) (n c p:Nat):Prop where
 c0:w.cell? ⟨F,o,none⟩=some (.slice A n c)
 c1:w.cell? ⟨F,o+1,none⟩=some (.int .i64 p)
 f1:w.frozen? ⟨F,o+1,none⟩=false
 ne:∀ a,A=some a->a.block≠F
theorem FD.lt{w:World}{F o:Nat}{A:Option Addr}{n c p:Nat}(h:FD w F o A n c p):F<w.heap.size:=c1u _ _ h.c0
theorem FD.moved{w w':World}{F o:Nat}{A:Option Addr}{n c p q:Nat}(h:FD w F o A n c p)(hk:Keeps [] w w')(v:Int)(hv:v=q):FD (w'.setCell ⟨F,o+1,none⟩ (.int .i64 v)) F o A n c q:=by
 have hb:=hk.block F h.lt (by simp)
 have e0:=(c1p (a:=⟨F,o,none⟩) hb).trans h.c0
 have e1:=(c1p (a:=⟨F,o+1,none⟩) hb).trans h.c1
 have e2:=(c1q (a:=⟨F,o+1,none⟩) hb).trans h.f1
 exact⟨(World.cell?_setCell_other _ _ _ _ (by simp)).trans e0,by rw[World.cell?_setCell_same _ _ _ e1,hv],(World.frozen?_setCell _ _ _ _).trans e2,h.ne⟩
theorem FD.keeps{S:List Nat}{w w':World}{F o:Nat}{A:Option Addr}{n c p:Nat}(h:FD w F o A n c p)(hk:Keeps S w w')(hF:F∉S):FD w' F o A n c p:=by
 have hb:=hk.block F h.lt hF
 exact⟨(c1p (a:=⟨F,o,none⟩) hb).trans h.c0,(c1p (a:=⟨F,o+1,none⟩) hb).trans h.c1,(c1q (a:=⟨F,o+1,none⟩) hb).trans h.f1,h.ne⟩
theorem OnlyC.past{F j:Nat}{a b c:World}{S:List Nat}(h:OnlyC F j a b)(k:Keeps S b c)(hF:F<a.heap.size)(hS:∀ x∈S,a.heap.size<=x):OnlyC F j a c:=by
 have hb:=k.block F (c1K hF h.keeps.size) (fun hm=>by have:=hS F hm;omega)
 refine⟨⟨k.os.trans h.keeps.os,k.tape.trans h.keeps.tape,k.output.trans h.keeps.output,c1v h.keeps.size k.size,fun i hi hn=>(k.block i (c1K hi h.keeps.size) (fun hm=>by have:=hS i hm;omega)).trans (h.keeps.block i hi hn)⟩,fun i hi=>(c1p (a:=⟨F,i,none⟩) hb).trans (h.cell i hi),fun i=>(c1q (a:=⟨F,i,none⟩) hb).trans (h.frozen i)⟩
theorem OnlyC.refl{F j:Nat}(w:World):OnlyC F j w w:=⟨Keeps.refl _ _,fun _ _=>rfl,fun _=>rfl⟩
structure ZB (w:World) (A:Option Addr) (n c:Nat) (xs:List Int):Prop where
 ri:RI .u8 w A n xs
 cap:CapOk A n c
 byte:∀ x∈xs,0<=x/\x<=255
 len:n<=1000000000
 old:∀ a,A=some a->a.block<w.heap.size
theorem ZB.keeps{S:List Nat}{w w':World}{A:Option Addr}{n c:Nat}{xs:List Int}(h:ZB w A n c xs)(hk:Keeps S w w')(ho:Off S A):ZB w' A n c xs:=
 ⟨h.ri.keeps hk ho,h.cap,h.byte,h.len,fun a ha=>c1K (h.old a ha) hk.size⟩
theorem FD.off{w:World}{F o:Nat}{A:Option Addr}{n c p:Nat}(h:FD w F o A n c p):Off [F] A:=fun a ha hm=>h.ne a ha (by simpa using hm)
theorem a2P{xs:List Int}(hb:∀ x∈xs,0<=x/\x<=255){p:Nat}(h:p+2<=xs.length):0<=zget xs p 2/\zget xs p 2<65536:=by
 have:=a9w (a6H hb p 2)
 rw[a4M h] at this
 exact this
theorem a2q{xs:List Int}(hb:∀ x∈xs,0<=x/\x<=255){p:Nat}(h:p+4<=xs.length):0<=zget xs p 4/\zget xs p 4<4294967296:=by
 have:=a9w (a6H hb p 4)
 rw[a4M h] at this
 exact this
theorem b0T(w:World)(A:Option Addr)(n c:Nat)(xs:List Int)(h:ZB w A n c xs)(p:Nat)(hp:p+2<=n) :
  Calls Tryz.prog 103 #[.slice A n c,.int .i64 p] w fun e w'=>e=.returned (.tuple #[.int .u16 (zget xs p 2),.int .i64 0])/\Below w.heap.size w w':=by
 have HC:=c1n (a9q w A n c xs h.ri h.cap h.byte h.len h.old p 2 (by omega) hp)
 have hb:=a2P h.byte (p:=p) (by rw[h.ri.len];exact hp)
 have s1:IntKind.u16.wrap (zget xs p 2)=zget xs p 2:=IntWalk.u16_in _ (by omega)
 clear h hb
 generalize zget xs p 2=v at *
 go_enter Tryz.func103,Tryz.ntmps103
 go_wp2_with fail
 refine HC.out.mono ?_
 rintro _ w' ⟨rfl,hb⟩
 have HB:=c1n hb
 clear hb
 go_wp2_with fail
 go_ret2
 exact⟨rfl,HB.out⟩
theorem b0U(w:World)(A:Option Addr)(n c:Nat)(xs:List Int)(h:ZB w A n c xs)(p:Nat)(hp:p+4<=n) :
  Calls Tryz.prog 102 #[.slice A n c,.int .i64 p] w fun e w'=>e=.returned (.tuple #[.int .u32 (zget xs p 4),.int .i64 0])/\Below w.heap.size w w':=by
 have HC:=c1n (a9q w A n c xs h.ri h.cap h.byte h.len h.old p 4 (by omega) hp)
 have hb:=a2q h.byte (p:=p) (by rw[h.ri.len];exact hp)
 have s1:IntKind.u32.wrap (zget xs p 4)=zget xs p 4:=IntWalk.u32_in _ (by omega)
 clear h hb
 generalize zget xs p 4=v at *
 go_enter Tryz.func102,Tryz.ntmps102
 go_wp2_with fail
 refine HC.out.mono ?_
 rintro _ w' ⟨rfl,hb⟩
 have HB:=c1n hb
 clear hb
 go_wp2_with fail
 go_ret2
 exact⟨rfl,HB.out⟩
theorem a0P(w:World)(F o:Nat)(A:Option Addr)(n c:Nat)(xs:List Int)(p:Nat)(hf:FD w F o A n c p)(h:ZB w A n c xs)(hp:p+2<=n) :
  Calls Tryz.prog 75 #[.pointer (some ⟨F,o,none⟩)] w fun e w'=>e=.returned (.int .i64 (zget xs p 2))/\FD w' F o A n c (p+2)/\OnlyC F (o+1) w w':=by
 have HF:=c1n hf
 have HZ:=c1n h
 have HC:Hid (∀ w',Below w.heap.size w w'->Calls Tryz.prog 103 #[.slice A n c,.int .i64 p] w' fun e w2=>e=.returned (.tuple #[.int .u16 (zget xs p 2),.int .i64 0])/\Below w.heap.size w w2):=
  c1n (fun w' hk=>(b0T w' A n c xs (h.keeps (Keeps.of_below hk (S:=[])) (a0a _)) p hp).mono fun _ _ ⟨e,hb⟩=>⟨e,hk.trans (hb.mono hk.size)⟩)
 have hb:=a2P h.byte (p:=p) (by rw[h.ri.len];exact hp)
 have s1:IntKind.i64.wrap (zget xs p 2)=zget xs p 2:=c1o _ (by omega)
 have s2:IntKind.i64.wrap ((p:Int)+2)=(p:Int)+2:=c1o _ (by have:=h.len;omega)
 obtain⟨c0,c1,f1,-⟩:=hf
 clear h hb
 generalize zget xs p 2=v at *
 go_enter Tryz.func75,Tryz.ntmps75
 go_upto_region 1 with (fail)
 go_cut [3] (fun v3 wc=>v3=.int .u16 v/\Hid (Below w.heap.size w wc))
 case first=>
  go_region_with (first|(go_at_call 103;refine (HC.out _ (by repeat (first|exact c1x _ _|refine Below.drew ?_))).mono ?_;rintro _ w2 ⟨rfl,hb2⟩;have HB2:=c1n hb2;clear hb2))
  all_goals (go_wp2_with fail;go_meet;exact⟨rfl,HB2⟩)
 case rest=>
  obtain⟨rfl,HB⟩:=hcut
  have hk:=Keeps.of_below HB.out (S:=[])
  have hbk:=hk.block F HF.out.lt (by simp)
  have d1:=(c1p (a:=⟨F,o+1,none⟩) hbk).trans c1
  have e1:=(c1q (a:=⟨F,o+1,none⟩) hbk).trans f1
  have HK:=c1n hk
  clear hk hbk c0 c1 f1
  go_wp2_with fail
  go_ret
  exact⟨rfl,HF.out.moved HK.out _ (by omega),(OnlyC.of_keeps HK.out HF.out.lt).set _⟩
theorem a0U(w:World)(F o:Nat)(A:Option Addr)(n c:Nat)(xs:List Int)(p:Nat)(hf:FD w F o A n c p)(h:ZB w A n c xs)(hp:p+4<=n) :
  Calls Tryz.prog 74 #[.pointer (some ⟨F,o,none⟩)] w fun e w'=>e=.returned (.int .i64 (zget xs p 4))/\FD w' F o A n c (p+4)/\OnlyC F (o+1) w w':=by
 have HF:=c1n hf
 have HZ:=c1n h
 have HC:Hid (∀ w',Below w.heap.size w w'->Calls Tryz.prog 102 #[.slice A n c,.int .i64 p] w' fun e w2=>e=.returned (.tuple #[.int .u32 (zget xs p 4),.int .i64 0])/\Below w.heap.size w w2):=
  c1n (fun w' hk=>(b0U w' A n c xs (h.keeps (Keeps.of_below hk (S:=[])) (a0a _)) p hp).mono fun _ _ ⟨e,hb⟩=>⟨e,hk.trans (hb.mono hk.size)⟩)
 have hb:=a2q h.byte (p:=p) (by rw[h.ri.len];exact hp)
 have s1:IntKind.i64.wrap (zget xs p 4)=zget xs p 4:=c1o _ (by omega)
 have s2:IntKind.i64.wrap ((p:Int)+4)=(p:Int)+4:=c1o _ (by have:=h.len;omega)
 obtain⟨c0,c1,f1,-⟩:=hf
 clear h hb
 generalize zget xs p 4=v at *
 go_enter Tryz.func74,Tryz.ntmps74
 go_upto_region 1 with (fail)
 go_cut [3] (fun v3 wc=>v3=.int .u32 v/\Hid (Below w.heap.size w wc))
 case first=>
  go_region_with (first|(go_at_call 102;refine (HC.out _ (by repeat (first|exact c1x _ _|refine Below.drew ?_))).mono ?_;rintro _ w2 ⟨rfl,hb2⟩;have HB2:=c1n hb2;clear hb2))
  all_goals (go_wp2_with fail;go_meet;exact⟨rfl,HB2⟩)
 case rest=>
  obtain⟨rfl,HB⟩:=hcut
  have hk:=Keeps.of_below HB.out (S:=[])
  have hbk:=hk.block F HF.out.lt (by simp)
  have d1:=(c1p (a:=⟨F,o+1,none⟩) hbk).trans c1
  have e1:=(c1q (a:=⟨F,o+1,none⟩) hbk).trans f1
  have HK:=c1n hk
  clear hk hbk c0 c1 f1
  go_wp2_with fail
  go_ret
  exact⟨rfl,HF.out.moved HK.out _ (by omega),(OnlyC.of_keeps HK.out HF.out.lt).set _⟩
theorem c0d{w:World}{A:Option Addr}{n c:Nat}{xs:List Int}(h:RI .u8 w A n xs):(convert 26 9 (.slice A n c)).run Tryz.prog w=.ok (.string (strOfNums xs)) w:=by
 by_cases hn:0<n
 ·obtain⟨b,o,rfl⟩:=h.hd hn
  exact run_convert_bytes_arg w 26 5 c1w Tryz.underlying5 b o n c xs h.len (fun i hi=>h.cell b o rfl i hi) 9 c1E
 ·obtain rfl:n=0:=by omega
  obtain rfl:xs=[]:=List.eq_nil_of_length_eq_zero h.len
  cases A with
  | none=>exact run_convert_bytes_nil w 26 5 c1w Tryz.underlying5 0 c 9 c1E
  | some a=>
   have hl:(loadCells a 0).run Tryz.prog w=.ok (([]:List Int).map (Value.int .u8)).toArray w:=run_loadCells_list (P:=Tryz.prog) w a [] (by simp)
   rw[run_convert_bytes_string w 26 9 5 _ 0 c c1w Tryz.underlying5 c1E,run_bytesToString w _ 0 c [] hl]
   rfl
theorem a5V(w:World)(F o:Nat)(A:Option Addr)(n c:Nat)(xs:List Int)(p k:Nat)(hf:FD w F o A n c p)(h:ZB w A n c xs)(hp:p+k<=n) :
  Calls Tryz.prog 105 #[.pointer (some ⟨F,o,none⟩),.int .i64 k] w fun e w'=>e=.returned (.string (strOfNums (seg xs p k)))/\FD w' F o A n c (p+k)/\OnlyC F (o+1) w w':=by
 have HF:=c1n hf
 have s2:IntKind.i64.wrap ((p:Int)+(k:Int))=(p:Int)+(k:Int):=c1o _ (by have:=h.len;omega)
 have hsl:=fun w=>a3v w A n c p (p+k) (p:Int) ((p:Int)+(k:Int)) rfl (by omega) (by omega) hp h.cap
 have hcv:(convert 26 9 (.slice (cutA A p c) (p+k-p) (c-p))).run Tryz.prog w.drew=.ok (.string (strOfNums (seg xs p k))) w.drew:=c0d ((h.ri.mid h.cap (by omega) hp).keeps (Keeps.refl [] w).drew (a0a _))
 obtain⟨c0,c1,f1,-⟩:=hf
 rw[show p+k-p=k by omega] at hcv hsl
 clear h
 go_enter Tryz.func105,Tryz.ntmps105
 go_upto_region 1 with (fail)
 go_region
 clear hsl hcv
 go_wp2_with fail
 go_ret
 exact⟨rfl,HF.out.moved (Keeps.refl [] w).drew _ (by omega),(OnlyC.of_keeps (Keeps.refl [] w).drew HF.out.lt).set _⟩
end Go.Proofs.YtghjlpechjggjaaGreatDoor
namespace Go.Proofs.YtghjlpechjggjaaGreatDoor
open Go.RowKit
theorem a4b(w:World)(l:List Int):RI .i64 (w.alloc (.cells (ints .i64 l).toArray 3)) (some ⟨w.heap.size,0,none⟩) l.length l:=by
 have:=Blk.ri (xs:=l) (ys:=[]) (k:=.i64) (by simpa using a0d w 3 (ints .i64 l))
 exact this
theorem a4S(w:World)(A:Option Addr)(n c:Nat)(xs:List Int)(hx:RI .u8 w A n xs)(hn:n<=900000000)(l:List Int)(h0:0<l.length)(h1:l.length<=1000) :
  Calls Tryz.prog 36 #[.slice A n c,.slice (some ⟨w.heap.size,0,none⟩) l.length l.length] (w.alloc (.cells (ints .i64 l).toArray 3)) fun e w'=>∃ v',e=.returned v'/\w'.ownsRow w.heap.size 5 1 v' (n+l.length*2) (ints .u8 (xs++zlesB 2 l))/\Below w.heap.size w w':=
 (b6u _ A n c xs (hx.keeps ((Keeps.refl [] w).alloc _) (a0a _)) hn _ l.length l.length l (a4b w l) h0 h1).mono fun _ _ ⟨v,e,ho,hb⟩=>
  ⟨v,e,a0u ho (by simp),((c1x w.heap.size w).alloc (c1t _) _).trans (hb.mono (by simp))⟩
theorem a5u(w:World)(A:Option Addr)(n c:Nat)(xs:List Int)(hx:RI .u8 w A n xs)(hn:n<=900000000)(l:List Int)(h0:0<l.length)(h1:l.length<=1000) :
  Calls Tryz.prog 37 #[.slice A n c,.slice (some ⟨w.heap.size,0,none⟩) l.length l.length] (w.alloc (.cells (ints .i64 l).toArray 3)) fun e w'=>∃ v',e=.returned v'/\w'.ownsRow w.heap.size 5 1 v' (n+l.length*4) (ints .u8 (xs++zlesB 4 l))/\Below w.heap.size w w':=
 (a4G _ A n c xs (hx.keeps ((Keeps.refl [] w).alloc _) (a0a _)) hn _ l.length l.length l (a4b w l) h0 h1).mono fun _ _ ⟨v,e,ho,hb⟩=>
  ⟨v,e,a0u ho (by simp),((c1x w.heap.size w).alloc (c1t _) _).trans (hb.mono (by simp))⟩
theorem a0n{w:World}{base n:Nat}{v:Value}{xs:List Int}(h:w.ownsRow base 5 1 v n (ints .u8 xs)):∃ A c,v=.slice A n c/\RI .u8 w A n xs:=by
 obtain⟨A,c,hv,hr,-⟩:=a0B h
 exact⟨A,c,hv,hr⟩
def sharedB(way sum bl dl nl:Int):List Int:=zlesB 2 [20,0,way,0,33]++(zlesB 4 [sum,bl,dl]++zlesB 2 [nl,0])
theorem a1f(way sum bl dl nl:Int):(sharedB way sum bl dl nl).length=26:=by simp[sharedB,a1Q]
structure ShB (w:World) (Bw Bd Bb Bx:Nat) (way:Int) (Ad:Option Addr) (nd cd:Nat) (data:List Int) (Ab:Option Addr) (nb cb:Nat) (name dat:ByteArray):Prop where
 cw:w.cell? ⟨Bw,0,none⟩=some (.int .i64 way)
 cd:w.cell? ⟨Bd,0,none⟩=some (.slice Ad nd cd)
 cb:w.cell? ⟨Bb,0,none⟩=some (.slice Ab nb cb)
 cx:w.cell? ⟨Bx,0,none⟩=some (.string name)
 cy:w.cell? ⟨Bx,1,none⟩=some (.string dat)
 rd:RI .u8 w Ad nd data
theorem ShB.keeps{w w':World}{Bw Bd Bb Bx:Nat}{way:Int}{Ad:Option Addr}{nd cd:Nat}{data:List Int}{Ab:Option Addr}{nb cb:Nat}{name dat:ByteArray}(h:ShB w Bw Bd Bb Bx way Ad nd cd data Ab nb cb name dat)(hk:Keeps [] w w'):ShB w' Bw Bd Bb Bx way Ad nd cd data Ab nb cb name dat:=
 ⟨hk.cell (p:=⟨Bw,0,none⟩) (by simp) h.cw,hk.cell (p:=⟨Bd,0,none⟩) (by simp) h.cd,hk.cell (p:=⟨Bb,0,none⟩) (by simp) h.cb,hk.cell (p:=⟨Bx,0,none⟩) (by simp) h.cx,hk.cell (p:=⟨Bx,1,none⟩) (by simp) h.cy,h.rd.keeps hk (a0a _)⟩
theorem a5j (w:World) (A:Option Addr) (n c:Nat) (xs:List Int) (hx:RI .u8 w A n xs) (hn:n<=800000000) (Bw Bd Bb Bx:Nat) (way:Int) (Ad:Option Addr) (nd cd:Nat) (data:List Int) (Ab:Option Addr) (nb cb:Nat) (name dat:ByteArray)
  (h:ShB w Bw Bd Bb Bx way Ad nd cd data Ab nb cb name dat) (hd:∀ x∈data,0<=x/\x<=255) (hnd:nd<=1000000) (hT:Tabz w) :
  Calls Tryz.prog 55 #[.slice A n c,.pointer (some ⟨Bw,0,none⟩),.pointer (some ⟨Bd,0,none⟩),.pointer (some ⟨Bb,0,none⟩),.pointer (some ⟨Bx,0,none⟩)] w fun e w'=>∃ v',e=.returned v' /\
   w'.ownsRow w.heap.size 5 1 v' (n+26) (ints .u8 (xs++sharedB way (crcF data:Nat) nb nd name.size))/\Below w.heap.size w w':=by
 have HX:=c1n hx
 have HH:=c1n h
 have HD:=c1n hd
 have HT:=c1n hT
 have hcr:=b0M hd
 have hcw:=h.cw
 clear hx h hd hT
 go_enter Tryz.func55,Tryz.ntmps55
 go_wp2_with fail
 refine (a4S w A n c xs HX.out (by omega) [20,0,way,0,33] (by simp) (by simp)).mono ?_
 rintro _ w1 ⟨v1,rfl,ho1,hb1⟩
 obtain⟨A1,c1,rfl,hr1⟩:=a0n ho1
 have HR1:=c1n hr1
 have HB1:=c1n hb1
 have HH1:=c1n (HH.out.keeps (Keeps.of_below hb1))
 have HT1:=c1n (HT.out.keeps (Keeps.of_below hb1 (S:=[])) (by simp))
 clear ho1 hr1 hb1 hcw
 rw[show n+[20,0,way,0,33].length*2=n+10 from rfl] at *
 go_upto_region 2 with (fail)
 have cd1:=HH1.out.cd
 have cb1:=HH1.out.cb
 have SC:Hid (∀ w',Below w1.heap.size w1 w'->Calls Tryz.prog 28 #[.slice Ad nd cd] w' fun e w2=>e=.returned (.int .u32 ((crcF data:Nat):Int))/\Below w1.heap.size w1 w2):=c1n (fun w' hb=>by
  have hk:=Keeps.of_below hb (S:=[])
  exact (b0d w' Ad nd cd data (HH1.out.rd.keeps hk (a0a _)) HD.out (by omega) (HT1.out.keeps hk (by simp))).mono fun _ _ ⟨e,m,hm⟩=>⟨e,by rw[hm];exact below_drewN hb m⟩)
 have sw:IntKind.i64.wrap ((crcF data:Nat):Int)=((crcF data:Nat):Int):=c1o _ (by omega)
 obtain⟨S,hS⟩:∃ S,S=crcF data:=⟨_,rfl⟩
 rw[<-hS] at SC sw hcr
 have HSS:=c1n hS
 clear hS
 have HN:=c1n (show n+10<=900000000 by omega)
 obtain⟨n1,hn1⟩:∃ z,z=n+10:=⟨_,rfl⟩
 obtain⟨x1,hx1⟩:∃ z,z=xs++zlesB 2 [20,0,way,0,33]:=⟨_,rfl⟩
 rw[<-hn1] at HR1 HN ⊢
 rw[<-hx1] at HR1
 have HN1:=c1n hn1
 have HX1:=c1n hx1
 clear hn1 hx1
 go_cut [0] (fun v wc=>∃ (A3:Option Addr) (c3:Nat),v=.slice A3 (n1+12) c3/\Hid (RI .u8 wc A3 (n1+12) (x1++zlesB 4 [(S:Int),(nb:Int),(nd:Int)]))/\Hid (Below w1.heap.size w1 wc))
 case first=>
  go_region_with (first
   | (go_at_call 28;refine (SC.out _ (by repeat (first|exact c1x _ _|refine Below.drew ?_))).mono ?_;rintro _ w2 ⟨rfl,hb2⟩;have hk2:=Keeps.of_below hb2 (S:=[]);have cd2:=hk2.cell (p:=⟨Bd,0,none⟩) (by simp) cd1;have cb2:=hk2.cell (p:=⟨Bb,0,none⟩) (by simp) cb1;have HR2:=c1n (HR1.out.keeps hk2 (a0a _));have HB2:=c1n hb2;clear hb2 hk2)
   | (go_at_call 37;refine (a5u w2 A1 n1 c1 x1 HR2.out HN.out [(S:Int),(nb:Int),(nd:Int)] (by simp) (by simp)).mono ?_;rintro _ w3 ⟨v3,rfl,ho3,hb3⟩;obtain⟨A3,c3,rfl,hr3⟩:=a0n ho3;have HR3:=c1n hr3;have HB3:=c1n (HB2.out.trans (hb3.mono HB2.out.size));clear ho3 hb3 hr3))
  all_goals (go_wp2_with fail;go_meet;exact⟨A3,c3,rfl,HR3,HB3⟩)
 case rest=>
  obtain⟨A3,c3,rfl,HR3,HB3⟩:=hcut
  have cx3:=(Keeps.of_below HB3.out (S:=[])).cell (p:=⟨Bx,0,none⟩) (by simp) HH1.out.cx
  clear SC sw cd1 cb1 hcr
  go_wp2_with fail
  refine (a4S wc A3 (n1+12) c3 _ HR3.out (by have:=HN1.out;omega) [(name.size:Int),0] (by simp) (by simp)).mono ?_
  rintro _ w4 ⟨v4,rfl,ho4,hb4⟩
  have HO4:Hid (w4.ownsRow w.heap.size 5 1 v4 (n+26) (ints .u8 (xs++sharedB way ((crcF data:Nat):Int) nb nd name.size))):=c1n (by
   have h2:=a0u ho4 (c1v HB1.out.size HB3.out.size)
   rw[<-HSS.out]
   have e1:n1+12+[(name.size:Int),0].length*2=n+26:=by rw[HN1.out];rfl
   rw[e1] at h2
   have e2:x1++zlesB 4 [(S:Int),(nb:Int),(nd:Int)]++zlesB 2 [(name.size:Int),0]=xs++sharedB way (S:Int) nb nd name.size:=by
    rw[HX1.out];simp[sharedB]
   rw[e2] at h2
   exact h2)
  have HB4:=c1n ((HB1.out.trans (HB3.out.mono HB1.out.size)).trans (hb4.mono (c1v HB1.out.size HB3.out.size)))
  clear ho4 hb4
  go_wp2_with fail
  go_ret
  exact⟨_,rfl,HO4.out,HB4.out⟩
end Go.Proofs.YtghjlpechjggjaaGreatDoor
namespace Go.Proofs.YtghjlpechjggjaaGreatDoor
open Go.RowKit
def sb(s:ByteArray):List Int:=s.data.toList.map fun b=>(b.toNat:Int)
theorem a1o(s:ByteArray):(sb s).length=s.size:=by cases s;simp[sb,ByteArray.size]
theorem a5q(s:ByteArray):∀ x∈sb s,0<=x/\x<=255:=fun x hx=>by
 obtain⟨b,-,rfl⟩:=List.mem_map.1 hx
 have:b.toNat<256:=UInt8.toNat_lt b
 omega
theorem b2N(s:ByteArray):Lib.strCells s=ints .u8 (sb s):=by simp[Lib.strCells,ints,sb,List.map_map]
theorem c0L(s:ByteArray)(j:Nat)(hj:j<s.size):nth (sb s) j=((s.data.toList.getD j 0).toNat:Int):=by
 have hl:s.data.toList.length=s.size:=by cases s;rfl
 rw[a0q (by rw[a1o];exact hj)]
 simp only[sb,List.getElem_map]
 rw[List.getD_eq_getElem?_getD,List.getElem?_eq_getElem (by rw[hl];exact hj)]
 rfl
theorem a8A(s:ByteArray):strOfNums (sb s)=s:=by
 cases s with
 | mk d=>
  simp only[strOfNums,sb]
  have h:∀ l:List UInt8,(l.map fun b=>(b.toNat:Int)).map (fun n=>UInt8.ofNat n.toNat)=l:=fun l=>by
   induction l with
   | nil=>rfl
   | cons x r ih=>simp[ih]
  rw[h]
theorem a7m(w:World)(s:ByteArray):∃ c w',(convert 9 26 (.string s)).run Tryz.prog w=.ok (.slice (some ⟨w.heap.size,0,none⟩) s.size c) w'/\RI .u8 w' (some ⟨w.heap.size,0,none⟩) s.size (sb s)/\Keeps [] w w'/\w'.heap.size=w.heap.size+1:=
 ⟨_,_,Lib.run_convert_string_bytes w 9 26 5 s c1E c1w Tryz.underlying5,
  ⟨a1o s,fun _=>⟨_,_,rfl⟩,fun b o ha j hj=>by
   injection ha with ha;injection ha with h1 h2 h3;subst h1;subst h2
   rw[Nat.zero_add,c0L s j hj]
   exact Lib.bytesWorld_cell w 5 s j hj⟩,
  ⟨rfl,rfl,rfl,by rw[Lib.bytesWorld_size];omega,fun k hk _=>Lib.bytesWorld_at_old w 5 s k hk⟩,Lib.bytesWorld_size _ _ _⟩
theorem a6M {P:Program} {ops:Array Oper} {o:Oper} {a:Act} {K:Act->World->Prop} {Q:Exit->Act->World->Prop} {E:Prop} {w:World} (hgd:o.guard=none) (s x:Operand) (t u:TypeId)
  (ho:o.op=.call { callee:=.builtin .append,args:=#[s,x],argTypes:=#[t,u] }) {v':Value} {w':World} {vs vx:Value} (hs:a.eval s=vs) (hx:a.eval x=vx)
  (hrun:(Builtin.append_ #[t,u] o.type #[vs,vx]).run P w=.ok v' w') (h:K (a.put o.dst v') w'):if Region.wanted o (yielded ops a.tmps)=true then Oper.wp P o a w K Q else E:=by
 have hw:Region.wanted o (yielded ops a.tmps)=true:=by simp[Region.wanted,hgd]
 rw[if_pos hw]
 unfold Oper.wp execOp
 simp[ho,resolve,invoke,builtin,hs,hx,hrun,Result.andThen]
 exact h
theorem a9W {ops:Array Oper} {o:Oper} {a:Act} {K:Act->World->Prop} {Q:Exit->Act->World->Prop} {E:Prop} {w:World} (hgd:o.guard=none) (sl x:Operand)
  (ho:o.op=.call { callee:=.builtin .append,args:=#[sl,x],argTypes:=#[26,9] })
  (base:Nat) (v:Value) (n:Nat) (xs:List Int) (hs:a.eval sl=v) (hown:w.ownsRow base 5 1 v n (ints .u8 xs)) (s:ByteArray) (hx:a.eval x=.string s)
  (hn:n+s.size<=8000000000) (hbase:base<=w.heap.size)
  (h:∀ v' w',w'.ownsRow base 5 1 v' (n+s.size) (ints .u8 (xs++sb s))->w.grownBy w' v.ownBlock->K (a.put o.dst v') w'):if Region.wanted o (yielded ops a.tmps)=true then Oper.wp Tryz.prog o a w K Q else E:=by
 obtain⟨i0,hi,hz0,hz1,hz2⟩:=info_parts a2F
 obtain⟨v',w',hrun,ho',hg,-⟩:=Lib.run_append_own_string (P:=Tryz.prog) w base 26 9 o.type 5 i0 c1w c1E hi hz0 hz1 hz2 v n (ints .u8 xs) hown s (by unfold maxLen;omega) (by omega) hbase
 refine a6M hgd sl x _ _ ho hs hx hrun (h v' w' ?_ hg)
 have:ints .u8 (xs++sb s)=ints .u8 xs++Lib.strCells s:=by rw[b2N];simp[ints]
 rw[this]
 exact ho'
theorem b6h {ops:Array Oper} {o:Oper} {a:Act} {K:Act->World->Prop} {Q:Exit->Act->World->Prop} {E:Prop} {w:World} (hgd:o.guard=none) (sl x:Operand)
  (ho:o.op=.call { callee:=.builtin .append,args:=#[sl,x],argTypes:=#[26,26] })
  (base:Nat) (v:Value) (n:Nat) (xs:List Int) (hs:a.eval sl=v) (hown:w.ownsRow base 5 1 v n (ints .u8 xs)) (ad:Addr) (m c:Nat) (ys:List Int) (hx:a.eval x=.slice (some ad) m c) (hy:RI .u8 w (some ad) m ys)
  (hn:n+m<=8000000000) (hbase:base<=w.heap.size)
  (h:∀ v' w',w'.ownsRow base 5 1 v' (n+m) (ints .u8 (xs++ys))->w.grownBy w' v.ownBlock->K (a.put o.dst v') w'):if Region.wanted o (yielded ops a.tmps)=true then Oper.wp Tryz.prog o a w K Q else E:=by
 obtain⟨i0,hi,hz0,hz1,hz2⟩:=info_parts a2F
 have hnews:∀ j u,(ints .u8 ys)[j]? =some u->w.cell? (ad.add j)=some u:=by
  intro j u hu
  have hj:j<m:=by have:=(List.getElem?_eq_some_iff.1 hu).1;have:=hy.len;simp[ints] at *;omega
  obtain⟨b,of,hab⟩:=hy.hd (by omega)
  obtain rfl:=Option.some.inj hab
  rw[a0t]
  have hc:=hy.cell b of rfl j hj
  rw[hc,<-hu,a0e]
  simp[nth,List.getD,show j<ys.length by have:=hy.len;omega]
 obtain⟨v',w',hr,h2,h3,-⟩:=run_append_own (P:=Tryz.prog) w base 26 o.type 5 i0 (.int .u8 0) 1 1 c1w hi hz0 hz1 hz2 rfl (by decide) v n (ints .u8 xs) hown ad m c (ints .u8 ys) (by simp[ints,hy.len]) hnews (a2d _ _) (by unfold maxLen;omega) (by omega) hbase
 refine a6M hgd sl x _ _ ho hs hx hr (h v' w' ?_ h3)
 have e:ints .u8 (xs++ys)=ints .u8 xs++ints .u8 ys:=by simp[ints]
 rw[e]
 exact h2
end Go.Proofs.YtghjlpechjggjaaGreatDoor
namespace Go.Proofs.YtghjlpechjggjaaGreatDoor
def a1n:List Tok->Nat->Int
 | [],_=>0
 | t::ts,s=>if mayT t s=false then 60 else if 16384<s+max 1 t.2.1.toNat then 2 else a1n ts (s+max 1 t.2.1.toNat)
theorem a1i:∀ (ts:List Tok) (out:List Int),(expandF 16384 ts out).2=a1n ts out.length
 | [],out=>rfl
 | t::ts,out=>by
  rw[expandF,a1n]
  by_cases hm:mayT t out.length=false
  ·rw[if_pos hm,if_pos hm]
  ·rw[if_neg hm,if_neg hm]
   by_cases hb:16384<out.length+max 1 t.2.1.toNat
   ·rw[if_pos hb,if_pos hb]
   ·rw[if_neg hb,if_neg hb,a1i ts,a5D t out (a9F (by simpa using hm))]
theorem a9l{most:Nat}:∀ (ts:List Tok) (out:List Int),out.length<=most->(expandF most ts out).1.length<=most
 | [],out,h=>h
 | t::ts,out,h=>by
  rw[expandF]
  split
  ·simp
  ·next hm=>
   split
   ·simp
   ·next hb=>exact a9l ts _ (by rw[a5D t out (a9F (by simpa using hm))];omega)
theorem a3n{ts:List Tok}(h:a1n ts 0=0):ts.length<=16384:=by
 have e:=a1i ts []
 rw[show ([]:List Int).length=0 from rfl,h] at e
 have:=a3C ts [] e
 have:=a9l (most:=16384) ts [] (by simp)
 simp at *;omega
def litS(t:Tok):Int:=if t.2.1=0 then (t.1.toNat:Int) else (lsym t.2.1.toNat:Int)
def a2E(t:Tok):List Int:=if t.2.1=0 then [] else [(dsym t.2.2.toNat:Int)]
def litC(ts:List Tok):List Int:=cntF 286 ([256]++ts.map litS)
def distC(ts:List Tok):List Int:=cntF 30 (ts.flatMap a2E)
theorem a5R:∀ ts:List Tok,(ts.flatMap a2E).length<=ts.length
 | []=>by simp
 | t::ts=>by
  have:=a5R ts
  rw[c1G,c1r,c1s]
  have:(a2E t).length<=1:=by unfold a2E;split<;>simp
  omega
theorem b8B(N:Nat)(S:List Int)(h1:1<=N)(hN:N<=288)(hS:S.length<=1000000) :
  limF (cntF N S) 15=(limLens (cntF N S) 15,0)/\(limLens (cntF N S) 15).length=N/\(∀ i,i<N->(0<nth (limLens (cntF N S) 15) i↔(i:Int)∈S)/\0<=nth (limLens (cntF N S) 15) i/\nth (limLens (cntF N S) 15) i<=15)/\((∃ i:Nat,i<N/\(i:Int)∈S)->a0f (limLens (cntF N S) 15)=0):=by
 have hl:(cntF N S).length=N:=a0Y N S
 have hb:(cntF N S).any a0w=false:=by
  rw[List.any_eq_false]
  intro x hx
  obtain⟨i,hi,rfl⟩:=c1C.1 hx
  have:=a5b N S i (by rw[hl] at hi;exact hi)
  rw[a0q hi] at this
  unfold a0w
  simp only[Bool.or_eq_true,decide_eq_true_eq];omega
 have ht:(leavesF (cntF N S) 0).length<=2^15:=by
  have:=(a2Z (cntF N S) hb 0).2.2.2.1
  rw[hl] at this
  have:(2:Nat)^15=32768:=rfl
  omega
 have hc:∀ i,i<N->(0<nth (cntF N S) i↔(i:Int)∈S):=fun i hi=>by
  rw[a0y N S i hi,<-List.count_pos_iff];omega
 refine⟨?_,by rw[limLens,a0Y,hl],fun i hi=>?_,?_⟩
 ·unfold limF
  rw[if_neg (by rw[hl];omega),if_neg (by simp[hb]),if_neg (by show ¬2^15<_;omega)];rfl
 ·have h:=b2B (cntF N S) 15 (by omega) (by omega) hb ht i (by rw[hl];exact hi)
  exact⟨h.1.trans (hc i hi),h.2⟩
 ·rintro ⟨i,hi,hm⟩
  refine a8X (cntF N S) 15 (by omega) (by rw[hl];omega) (by rw[hl];omega) hb ht ?_
  have hm2:nth (cntF N S) i∈(cntF N S).filter (fun x=>decide (0<x)):=by
   refine List.mem_filter.2 ⟨?_,by simpa using (hc i hi).2 hm⟩
   rw[a0q (by rw[hl];exact hi)]
   exact c1D _
  have:0<usedF (cntF N S):=by unfold usedF;exact List.length_pos_of_mem hm2
  omega
def dynLit(ts:List Tok):List Int:=limLens (litC ts) 15
def dynDist(ts:List Tok):List Int:=limLens (distC ts) 15
theorem b3G{t:Tok}(h1:0<=t.1/\t.1<=255)(h2:t.2.1≠0->3<=t.2.1/\t.2.1<=258/\1<=t.2.2/\t.2.2<=32768):∃ s:Nat,litS t=s/\s<286:=by
 unfold litS
 split
 ·exact⟨_,rfl,by omega⟩
 ·next h0=>
  obtain⟨a,b,-⟩:=h2 h0
  obtain⟨-,c,-⟩:=a3a t.2.1.toNat (by omega) (by omega)
  exact⟨_,rfl,by omega⟩
theorem a5T{M:Nat}{ts:List Tok}(hl:LitOk ts)(hex:(expandF M ts []).2=0)(hn:ts.length<=16384) :
  Codable (dynLit ts) (dynDist ts)/\(∀ t∈ts,TokOk (dynLit ts) (dynDist ts) t)/\limF (litC ts) 15=(dynLit ts,0)/\limF (distC ts) 15=(dynDist ts,0)/\(dynLit ts).length=286/\(dynDist ts).length=30:=by
 have hd:=a5R ts
 obtain⟨l1,l2,l3,l4⟩:=b8B 286 ([256]++ts.map litS) (by omega) (by omega) (by simp;omega)
 obtain⟨d1,d2,d3,d4⟩:=b8B 30 (ts.flatMap a2E) (by omega) (by omega) (by omega)
 have hlc:a0f (dynLit ts)=0:=l4 ⟨256,by omega,by simp⟩
 have tl:∀ s:Nat,s<286->(s:Int)∈[256]++ts.map litS->Tells (dynLit ts) s:=fun s hs hm=>by
  obtain⟨a,b,c⟩:=l3 s hs
  have:=a.2 hm
  exact⟨by show s<(limLens _ 15).length;unfold litC;rw[l2];exact hs,this,c⟩
 have td:∀ s:Nat,s<30->(s:Int)∈ts.flatMap a2E->Tells (dynDist ts) s:=fun s hs hm=>by
  obtain⟨a,b,c⟩:=d3 s hs
  have:=a.2 hm
  exact⟨by show s<(limLens _ 15).length;unfold distC;rw[d2];exact hs,this,c⟩
 have mem_b:∀ (l:List Int) (N:Nat),l.length=N->(∀ i,i<N->0<=nth l i/\nth l i<=15)->∀ x∈l,0<=x/\x<=15:=fun l N hN hi x hx=>by
  obtain⟨i,hi2,rfl⟩:=c1C.1 hx
  have:=hi i (by omega)
  rwa [a0q hi2] at this
 refine⟨⟨⟨by show 257<=(limLens _ 15).length;unfold litC;omega,by show (limLens _ 15).length<=286;unfold litC;omega,by show 1<=(limLens _ 15).length;unfold distC;omega,by show (limLens _ 15).length<=30;unfold distC;omega,mem_b _ 286 l2 (fun i hi=>(l3 i hi).2),mem_b _ 30 d2 (fun i hi=>(d3 i hi).2)⟩,hlc,?_,tl 256 (by omega) (by simp)⟩,?_,l1,d1,l2,d2⟩
 ·intro hu
  unfold a0X at hu
  rw[List.any_eq_true] at hu
  obtain⟨x,hx,hx0⟩:=hu
  obtain⟨i,hi,rfl⟩:=c1C.1 hx
  have hi2:i<30:=by have:(dynDist ts).length=30:=d2;omega
  have h0:0<nth (dynDist ts) i:=by rw[a0q hi];simpa using hx0
  exact d4 ⟨i,hi2,(d3 i hi2).1.1 h0⟩
 ·intro t ht
  obtain⟨a,b⟩:=hl t ht
  have hr:=a1b ts [] hex t ht
  obtain⟨s,hs,hs2⟩:=b3G ⟨a,b⟩ hr
  have hm:litS t∈[256]++ts.map litS:=c1J.2 (.inr (List.mem_map.2 ⟨t,ht,rfl⟩))
  refine⟨fun h0=>⟨a,b,?_⟩,fun h0=>?_⟩
  ·have e:litS t=(t.1.toNat:Int):=if_pos h0
   rw[e] at hm
   exact tl _ (by omega) hm
  ·have e:litS t=(lsym t.2.1.toNat:Int):=if_neg h0
   have e2:a2E t=[(dsym t.2.2.toNat:Int)]:=if_neg h0
   obtain⟨c1,c2,c3,c4⟩:=hr h0
   obtain⟨f1,f2,-⟩:=a3a t.2.1.toNat (by omega) (by omega)
   obtain⟨g1,-⟩:=a3q t.2.2.toNat (by omega) (by omega)
   rw[e] at hm
   have hmd:(dsym t.2.2.toNat:Int)∈ts.flatMap a2E:=List.mem_flatMap.2 ⟨t,ht,by rw[e2];simp⟩
   exact⟨tl _ (by omega) hm,td _ (by omega) hmd,d4 ⟨_,by omega,hmd⟩⟩
theorem b8h{lit dist:List Int}{t:Tok}(h:TokOk lit dist t)(hr:t.2.1≠0->3<=t.2.1/\t.2.1<=258/\1<=t.2.2/\t.2.2<=32768):(tokB lit dist t).length<=48:=by
 obtain⟨a,b⟩:=h
 unfold tokB
 split
 ·next h0=>have:=(a1I (a h0).2.2).2;omega
 ·next h0=>
  obtain⟨c1,c2,c3,c4⟩:=hr h0
  obtain⟨b1,b2,b3⟩:=b h0
  have:=(a1I b1).2
  have:=(a1I b2).2
  obtain⟨-,-,-,-,-,f1⟩:=a3a t.2.1.toNat (by omega) (by omega)
  obtain⟨-,-,-,-,g1⟩:=a3q t.2.2.toNat (by omega) (by omega)
  unfold behB
  simp only[c1r,a0h];omega
theorem a4v{lit dist:List Int}:∀ (ts:List Tok),(∀ t∈ts,TokOk lit dist t)->(∀ t∈ts,t.2.1≠0->3<=t.2.1/\t.2.1<=258/\1<=t.2.2/\t.2.2<=32768)->(toksB lit dist ts).length<=48*ts.length
 | [],_,_=>by simp[toksB]
 | t::ts,h,hr=>by
  have ih:=a4v ts (fun u hu=>h u (c1B _ hu)) (fun u hu=>hr u (c1B _ hu))
  have e:toksB lit dist (t::ts)=tokB lit dist t++toksB lit dist ts:=by simp[toksB]
  have:=b8h (h t c1F) (hr t c1F)
  rw[e,c1r,c1s];omega
theorem b4m(lit dist:List Int)(ts:List Tok)(t:Tok):toksB lit dist (ts++[t])=toksB lit dist ts++tokB lit dist t:=by simp[toksB]
theorem WB.out_bit{xs bl:List Int}(h:WB xs bl)(i:Nat)(hi:bl.length<=i):bitAt xs i=0:=by
 unfold bitAt
 have hl:=h.len
 have hb:=h.byte (i/8)
 have hz:nth xs (i/8)<2^(i%8):=by
  by_cases h8:i/8<xs.length
  ·have h1:i/8=bl.length/8:=by omega
   have h2:bl.length%8≠0:=by omega
   have h3:=h.top h2
   rw[h1]
   refine Int.lt_of_lt_of_le h3 ?_
   have:(2:Nat)^(bl.length%8)<=2^(i%8):=Nat.pow_le_pow_right (by omega) (by omega)
   exact_mod_cast this
  ·have:nth xs (i/8)=0:=by simp[nth,List.getD,List.getElem?_eq_none (show xs.length<=i/8 by omega)]
   rw[this];exact a0k _
 rw[Int.ediv_eq_zero_of_lt hb.1 hz];rfl
theorem b6U{x y:Int}(hx:0<=x/\x<=255)(hy:0<=y/\y<=255)(h:∀ i:Nat,i<8->x/2^i%2=y/2^i%2):x=y:=by
 have b0:x%2=y%2:=by simpa using h 0 (by omega)
 have b1:x/2%2=y/2%2:=by simpa using h 1 (by omega)
 have b2:x/4%2=y/4%2:=by simpa using h 2 (by omega)
 have b3:x/8%2=y/8%2:=by simpa using h 3 (by omega)
 have b4:x/16%2=y/16%2:=by simpa using h 4 (by omega)
 have b5:x/32%2=y/32%2:=by simpa using h 5 (by omega)
 have b6:x/64%2=y/64%2:=by simpa using h 6 (by omega)
 have b7:x/128%2=y/128%2:=by simpa using h 7 (by omega)
 omega
theorem WB.uniq{xs ys bl:List Int}(h:WB xs bl)(k:WB ys bl):xs=ys:=by
 refine a5f (by rw[h.len,k.len]) fun j _=>?_
 refine b6U (h.byte j) (k.byte j) fun i hi=>?_
 have hb:bitAt xs (8*j+i)=bitAt ys (8*j+i):=by
  by_cases h1:8*j+i<bl.length
  ·rw[h.bit _ h1,k.bit _ h1]
  ·rw[h.out_bit _ (by omega),k.out_bit _ (by omega)]
 unfold bitAt at hb
 rwa [show (8*j+i)/8=j by omega,show (8*j+i)%8=i by omega] at hb
theorem WB.all_u8{xs bl:List Int}(h:WB xs bl):∀ x∈xs,0<=x/\x<=255:=fun x hx=>by
 obtain⟨i,hi,rfl⟩:=c1C.1 hx
 have:=h.byte i
 rwa [a0q hi] at this
theorem b8O{data:List Int}(hd:∀ x∈data,0<=x/\x<=255)(j:Nat):0<=nth data j/\nth data j<=255:=by
 by_cases h:j<data.length
 ·rw[a0q h];exact hd _ (c1D _)
 ·simp[nth,List.getD,List.getElem?_eq_none (show data.length<=j by omega)]
theorem b0i(data:List Int)(hd:∀ x∈data,0<=x/\x<=255)(hn:data.length<=16384):expandF 16384 (tokensF data) []=(data,0)/\LitOk (tokensF data):=
 ⟨a4u hn hn,a3T (b8O hd) _ _⟩
def lessL(a b:List Int):List Int:=if b.length<a.length then b else a
structure Defl (data xs:List Int):Prop where
 out:∃ f d,WB f (fixB (tokensF data))/\WB d (dynB (dynLit (tokensF data)) (dynDist (tokensF data)) (tokensF data))/\xs=lessL (lessL (storB 1 data) f) d
theorem Defl.uniq{data xs ys:List Int}(h:Defl data xs)(k:Defl data ys):xs=ys:=by
 obtain⟨f,d,hf,hd,rfl⟩:=h.out
 obtain⟨f',d',hf',hd',rfl⟩:=k.out
 rw[hf.uniq hf',hd.uniq hd']
theorem b2A(a b:List Int):(lessL a b).length<=a.length/\(lessL a b).length<=b.length:=by
 unfold lessL;split<;>omega
theorem Defl.len{data xs:List Int}(h:Defl data xs):xs.length<=data.length+5/\∀ f,WB f (fixB (tokensF data))->xs.length<=f.length:=by
 obtain⟨f,d,hf,hd,rfl⟩:=h.out
 have h1:=b2A (lessL (storB 1 data) f) d
 have h2:=b2A (storB 1 data) f
 rw[a2h] at h2
 exact⟨by omega,fun f' hf'=>by rw[hf'.uniq hf];omega⟩
theorem Defl.final{data xs:List Int}(h:Defl data xs)(hd:∀ x∈data,0<=x/\x<=255)(hn:data.length<=16384):FinalOf xs data:=by
 obtain⟨f,d,hf,hdy,rfl⟩:=h.out
 obtain⟨hx,hl⟩:=b0i data hd hn
 obtain⟨c1,c2,-⟩:=a5T hl (by rw[hx]) (a3n (by rw[<-show (expandF 16384 (tokensF data) []).2=a1n (tokensF data) 0 from a1i _ _,hx]))
 have a1:FinalOf (storB 1 data) data:=a9n hd (by omega)
 have a2:FinalOf f data:=b0R hf hl hx
 have a3:FinalOf d data:=b4W hdy c1 c2 hx
 have a4:FinalOf (lessL (storB 1 data) f) data:=by
  unfold lessL
  by_cases h:f.length<(storB 1 data).length
  ·rw[if_pos h];exact a2
  ·rw[if_neg h];exact a1
 obtain⟨b,hb⟩:∃ b,b=lessL (storB 1 data) f:=⟨_,rfl⟩
 rw[<-hb] at a4 ⊢
 unfold lessL
 by_cases h:d.length<b.length
 ·rw[if_pos h];exact a3
 ·rw[if_neg h];exact a4
end Go.Proofs.YtghjlpechjggjaaGreatDoor
namespace Go.Proofs.YtghjlpechjggjaaGreatDoor
theorem WB.first{xs bl:List Int}(h:WB xs ([1,0,1]++bl)):0<xs.length/\0<=nth xs 0/\nth xs 0<=255/\nth xs 0%8=5:=by
 have hl:=h.len
 have hn:([1,0,1]++bl:List Int).length=3+bl.length:=by simp;omega
 obtain⟨b1,b2⟩:=h.byte 0
 have h0:=h.bit 0 (by omega)
 have h1:=h.bit 1 (by omega)
 have h2:=h.bit 2 (by omega)
 simp[bitAt,nth] at h0 h1 h2
 have e:nth xs 0=xs.getD 0 0:=rfl
 simp[nth] at b1 b2
 refine⟨by omega,?_⟩
 simp only[nth,List.getD_eq_getElem?_getD]
 omega
end Go.Proofs.YtghjlpechjggjaaGreatDoor
namespace Go.Proofs.YtghjlpechjggjaaGreatDoor
open Go.RowKit
theorem b4c{b:Int}{data:List Int}(hb:b=0∨b=1)(hd:∀ x∈data,0<=x/\x<=255)(hn:data.length<=16384):∀ x∈storB b data,0<=x/\x<=255:=by
 intro x hx
 unfold storB at hx
 rcases c1J.1 hx with h|h
 ·simp only[List.mem_cons,List.not_mem_nil,or_false] at h
  rcases h with rfl|rfl|rfl|rfl|rfl<;>omega
 ·exact hd x h
theorem Defl.byte{data xs:List Int}(h:Defl data xs)(hd:∀ x∈data,0<=x/\x<=255)(hn:data.length<=16384):∀ x∈xs,0<=x/\x<=255:=by
 obtain⟨f,d,hf,hdy,rfl⟩:=h.out
 have sel:∀ a b:List Int,(∀ x∈a,0<=x/\x<=255)->(∀ x∈b,0<=x/\x<=255)->∀ x∈lessL a b,0<=x/\x<=255:=fun a b h1 h2 x hx=>by
  unfold lessL at hx
  split at hx
  ·exact h2 x hx
  ·exact h1 x hx
 exact sel _ _ (sel _ _ (b4c (.inr rfl) hd hn) hf.all_u8) hdy.all_u8
theorem Defl.infl{data xs:List Int}(h:Defl data xs)(hd:∀ x∈data,0<=x/\x<=255)(hn:data.length<=16384){most:Int}(h0:(data.length:Int)<=most)(h1:most<=16384):a0O xs most=(data,xs.length,0):=(h.final hd hn).infl h0 h1
end Go.Proofs.YtghjlpechjggjaaGreatDoor
namespace Go.Proofs.YtghjlpechjggjaaGreatDoor
open Go.RowKit
structure RunTo (xs:List Int) (i m:Nat):Prop where
 one:1<=m
 le:i+m<=xs.length
 eq:∀ j,j<m->nth xs (i+j)=nth xs i
structure RunOk (xs:List Int) (i m:Nat):Prop extends RunTo xs i m where
 stop:i+m<xs.length->nth xs (i+m)≠nth xs i
theorem RunTo.step{xs:List Int}{i m:Nat}(h:RunTo xs i m)(hl:i+m<xs.length)(hv:nth xs (i+m)=nth xs i):RunTo xs i (m+1):=
 ⟨by omega,by omega,fun j hj=>by
  by_cases e:j=m
  ·subst e;exact hv
  ·exact h.eq j (by omega)⟩
theorem RunOk.pack{xs:List Int}{i m:Nat}(h:RunOk xs i m):packF (xs.drop i)=a3h (nth xs i) m++packF (xs.drop (i+m)):=
 b7P xs i m (by have:=h.one;have:=h.le;omega) h.le h.eq h.stop
theorem c0D{w:World}{base n:Nat}{e:TypeId}{v:Value}{xs ys:List (Int×Int)}(h:w.ownsRow base e 2 v n (pcells xs))(he:xs=ys):w.ownsRow base e 2 v ys.length (pcells ys):=by
 subst he
 have:=h.1
 rw[a4l] at this
 obtain rfl:n=xs.length:=by omega
 exact h
def c0i(w:World)(xs:List Int)(e:Ending)(w':World):Prop:=
 (xs.length<=316/\a1J xs=false/\∃ v,e=.returned (.tuple #[v,.int .i64 0])/\w'.ownsRow w.heap.size 163 2 v (packF xs).length (pcells (packF xs))/\Below w.heap.size w w') ∨
 ((316<xs.length∨a1J xs=true)/\e=.returned (.tuple #[.slice none 0 0,.int .i64 1])/\Below w.heap.size w w')
theorem Dr.below{w w':World}(h:Dr w w'):Below w.heap.size w w':=(h.keeps (S:=[])).below
end Go.Proofs.YtghjlpechjggjaaGreatDoor
namespace Go.Proofs.YtghjlpechjggjaaGreatDoor
open Go.RowKit
structure Run0 (xs:List Int) (i m:Nat):Prop where
 le:i+m<=xs.length
 eq:∀ j,j<m->nth xs (i+j)=nth xs i
theorem Run0.step{xs:List Int}{i m:Nat}(h:Run0 xs i m)(hl:i+m<xs.length)(hv:nth xs (i+m)=nth xs i):Run0 xs i (m+1):=
 ⟨by omega,fun j hj=>by
  by_cases e:j=m
  ·subst e;exact hv
  ·exact h.eq j (by omega)⟩
theorem Run0.one{xs:List Int}{i m:Nat}(h:Run0 xs i m)(hi:i<xs.length)(hs:i+m<xs.length->nth xs (i+m)≠nth xs i):1<=m:=by
 rcases Nat.eq_zero_or_pos m with rfl|h1
 ·exact absurd rfl (hs (by omega))
 ·exact h1
theorem a7T{w w1:World}{o:Obj}{u x:Value}{B:Nat}(hc:w.cell? ⟨B,0,none⟩=some x)(hne:∀ k,u.ownBlock=some k->B+1<=k)(hg:(w.alloc o).grownBy w1 u.ownBlock):w1.cell? ⟨B,0,none⟩=some x:=by
 have hB:B<w.heap.size:=c1u _ _ hc
 exact (c1p (w:=w.alloc o) (a:=⟨B,0,none⟩) (hg.block B (by simp;omega) (fun e=>by have:=hne B e.symm;omega))).trans (((Keeps.refl [] w).alloc o).cell (by simp) hc)
theorem a4F{w w1:World}{o:Obj}{u:Value}{B:Nat}(hB:B<w.heap.size)(hf:w.frozen? ⟨B,0,none⟩=false)(hne:∀ k,u.ownBlock=some k->B+1<=k)(hg:(w.alloc o).grownBy w1 u.ownBlock):w1.frozen? ⟨B,0,none⟩=false:=
 (c1q (w:=w.alloc o) (a:=⟨B,0,none⟩) (hg.block B (by simp;omega) (fun e=>by have:=hne B e.symm;omega))).trans ((((Keeps.refl [] w).alloc o).frozen (p:=⟨B,0,none⟩) hB (by simp)).trans hf)
theorem b4L {w0 w w1:World} {o:Obj} {u x:Value} {B:Nat} {e:TypeId} {size n:Nat} {cs:List Value} (hW:Below B w0 w) (hc:w.cell? ⟨B,0,none⟩=some x) (hf:w.frozen? ⟨B,0,none⟩=false) (hne:∀ k,u.ownBlock=some k->B+1<=k) (hg:(w.alloc o).grownBy w1 u.ownBlock)
  {v:Value} (h1:w1.ownsRow (B+1) e size v n cs) :
  (w1.setCell ⟨B,0,none⟩ v).cell? ⟨B,0,none⟩=some v/\(w1.setCell ⟨B,0,none⟩ v).frozen? ⟨B,0,none⟩=false/\(w1.setCell ⟨B,0,none⟩ v).ownsRow (B+1) e size v n cs/\Below B w0 (w1.setCell ⟨B,0,none⟩ v):=by
 have hB:B<w.heap.size:=c1u _ _ hc
 refine⟨World.cell?_setCell_same' _ _ _ (by rw[a7T hc hne hg];rfl),by simpa using a4F hB hf hne hg,ownsRow_setCell_below h1 (Nat.lt_succ_self B) v,?_⟩
 exact (((hW.alloc (Nat.le_of_lt hB) _)).grown hg (by simp;omega) (fun k hk=>Nat.le_of_succ_le (hne k hk))).setCell (p:=⟨B,0,none⟩) (c1t B) v
theorem a7b(w:World)(A:Option Addr)(n c:Nat)(xs:List Int)(ht:Tabs w)(hx:RI .i64 w A n xs)(hn:n<=1048576) :
  Calls Tryz.prog 101 #[.slice A n c] w (c0i w xs):=by
 have HT:=c1n ht
 have HX:=c1n hx
 have HL:=c1n hx.len
 clear hx ht
 by_cases hbig:316<n
 ·have e1:decide (316<n)=true:=by simpa using hbig
  go_enter Tryz.func101,Tryz.ntmps101
  go_wp2_with fail
  go_ret2
  exact Or.inr ⟨Or.inl (by have:=HL.out;omega),rfl,c1x _ _⟩
 ·have e1:decide (316<n)=false:=by simpa using hbig
  go_enter Tryz.func101,Tryz.ntmps101
  go_wp2_with fail
  refine (a1y w _ _ _ xs HX.out (by omega)).mono ?_
  rintro e w' ⟨rfl,hdr⟩
  have HDR:=c1n hdr
  clear hdr
  cases hb:a1J xs with
  | true=>
   have HB:=c1n hb
   clear hb
   go_wp2_with fail
   go_ret2
   exact Or.inr ⟨Or.inr HB.out,rfl,Dr.below HDR.out⟩
  | false=>
   have HB:=c1n hb
   clear hb e1
   have HSZ:Hid (w'.heap.size=w.heap.size):=by obtain⟨q,rfl⟩:=HDR.out;rfl
   go_wp2_with fail
   have HW0:Hid (Below w'.heap.size w' (w'.alloc (.cells #[.slice none 0 0] 159))):=(c1x _ _).alloc (c1t _) _
   have HT0:Hid (Tabs w'):=HT.out.keeps (HDR.out.keeps (S:=[])) (by simp)
   have HX0:Hid (RI .i64 w' A n xs):=HX.out.keeps (HDR.out.keeps (S:=[])) (a0a _)
   have HG:Hid (gtop<=w'.heap.size):=HT0.out.size
   clear HX HT
   go_loopw [6] (fun i wr=>∃ (k:Nat) (out:List (Int×Int)) (u:Value),k<=n/\i=.int .i64 k/\wr.cell? ⟨w'.heap.size,0,none⟩=some u/\wr.frozen? ⟨w'.heap.size,0,none⟩=false/\Hid (wr.ownsRow (w'.heap.size+1) 163 2 u out.length (pcells out))/\Hid (out++packF (xs.drop k)=packF xs)/\out.length<=k/\Hid (Below w'.heap.size w' wr)/\w'.heap.size<wr.heap.size) (fun i _=>n-(intOf i).toNat)
   case atStart=>exact⟨0,[],.slice none 0 0,by omega,rfl,by simp,by simp,c1n (World.ownsRow_nil _ _ _ _),c1n (by simp),by simp,HW0,by simp⟩
   case round=>
    clear HW0
    obtain⟨k,out,u,hk,rfl,hbc,hbf,HO,HP,hol,HW,hsz⟩:=hrel
    by_cases hlt:k<n
    ·obtain⟨b,o,rfl,hc1⟩:=HX0.out.at hlt
     have hc1':=(Keeps.of_below (S:=[]) HW.out).cell (by simp) hc1
     clear hc1
     go_upto_block 2 with (fail)
     go_cut [6,8] (fun v6 v8 wc=>∃ m:Nat,m+k<=n/\1<=m/\v6=.int .i64 ((k:Int)+m)/\v8=.int .i64 m/\Hid (RunOk xs k m)/\Hid (Dr wr wc))
     case first=>
      go_wp2_with fail
      go_loopw [6,8] (fun v6 v8 wi=>∃ m:Nat,m+k<=n/\v6=.int .i64 ((k:Int)+m)/\v8=.int .i64 m/\Hid (Run0 xs k m)/\Hid (Dr wr wi)) (fun _ v8 _=>n-(intOf v8).toNat)
      case atStart=>exact⟨0,by omega,by go_num,rfl,c1n ⟨by have:=HL.out;omega,fun j hj=>by omega⟩,⟨0,rfl⟩⟩
      case round=>
       obtain⟨m,hm,rfl,rfl,HR,HD⟩:=hrel
       obtain⟨q1,rfl⟩:=HD.out
       clear HD
       by_cases h1:k+m<n
       ·obtain⟨b',o',he,hc2⟩:=HX0.out.at h1
        injection he with he;injection he with he1 he2 he3;subst he1;subst he2;clear he3
        have hc2':=(Keeps.of_below (S:=[]) HW.out).cell (by simp) hc2
        clear hc2
        have e2:(0:Int)<=(k:Int)+(m:Int):=by omega
        have e3:((k:Int)+(m:Int)).toNat=k+m:=by omega
        have e4:decide ((k:Int)+(m:Int)<(n:Int))=true:=by simp;omega
        by_cases hv:nth xs (k+m)=nth xs k
        ·have e5:(nth xs (k+m)==nth xs k)=true:=by simpa using hv
         have HV:=c1n hv
         clear hv
         go_wp2_with fail
         clear e2 e3 e4 e5
         go_wp2_with fail
         go_roundw
         case rel=>exact⟨m+1,by omega,by go_num,by go_num,c1n (HR.out.step (by have:=HL.out;omega) HV.out),c1n (by first|exact⟨_,rfl⟩|exact Dr.step ⟨_,rfl⟩ _)⟩
         case measure=>simp[intOf];omega
        ·have e5:(nth xs (k+m)==nth xs k)=false:=by simpa using hv
         have HV:=c1n hv
         clear hv
         go_wp2_with fail
         clear e2 e3 e4 e5
         go_wp2_with fail
         go_meet
         case rel=>exact⟨m,by omega,HR.out.one (by have:=HL.out;omega) (fun _=>HV.out),rfl,rfl,c1n { one:=HR.out.one (by have:=HL.out;omega) (fun _=>HV.out),le:=HR.out.le,eq:=HR.out.eq,stop:=fun _=>HV.out },c1n (by first|exact⟨_,rfl⟩|exact Dr.step ⟨_,rfl⟩ _)⟩
       ·have e4:decide ((k:Int)+(m:Int)<(n:Int))=false:=by simp;omega
        go_wp2_with fail
        clear e4
        go_wp2_with fail
        go_meet
        case rel=>exact⟨m,by omega,by omega,rfl,rfl,c1n { one:=by omega,le:=HR.out.le,eq:=HR.out.eq,stop:=fun h=>absurd h (by have:=HL.out;omega) },c1n (by first|exact⟨_,rfl⟩|exact Dr.step ⟨_,rfl⟩ _)⟩
     case rest=>
      obtain⟨m,hm,hm1,rfl,rfl,HR,HD⟩:=hcut
      have HO1:Hid (wc.ownsRow (w'.heap.size+1) 163 2 u out.length (pcells out)):=by obtain⟨q1,rfl⟩:=HD.out;exact HO.out
      have HW1:Hid (Below w'.heap.size w' wc):=by obtain⟨q1,rfl⟩:=HD.out;exact (HW.out.trans ((Dr.below ⟨q1,rfl⟩).mono HW.out.size))
      have hbc1:wc.cell? ⟨w'.heap.size,0,none⟩=some u:=by obtain⟨q1,rfl⟩:=HD.out;exact hbc
      have hbf1:wc.frozen? ⟨w'.heap.size,0,none⟩=false:=by obtain⟨q1,rfl⟩:=HD.out;exact hbf
      clear HD HO HW hbc hbf hc1'
      have HT1:=c1n (HT0.out.below HW1.out HG.out)
      have hsz1:w'.heap.size<wc.heap.size:=c1u _ _ hbc1
      go_upto_if 43 with (fail)
      go_cut [8] (fun v8 wc=>∃ (r:Nat) (es:List (Int×Int)) (u:Value),r+es.length<=m/\v8=.int .i64 r/\Hid (es++List.replicate r (nth xs k,0)=a3h (nth xs k) m)/\wc.cell? ⟨w'.heap.size,0,none⟩=some u/\wc.frozen? ⟨w'.heap.size,0,none⟩=false/\Hid (wc.ownsRow (w'.heap.size+1) 163 2 u (out.length+es.length) (pcells (out++es)))/\Hid (Below w'.heap.size w' wc))
      case first=>
       by_cases hz:nth xs k=0
       ·have e5:(nth xs k==0)=true:=by simpa using hz
        have HZ:=c1n hz
        clear hz
        go_wp2_with fail
        refine (a3H _ _ m 11 18 138 u out.length out HT1.out HG.out hbc1 hbf1 HO1.out (by omega) rfl (by omega) (by omega) (by omega) (by omega) (by omega)).mono ?_
        rintro e w2 ⟨u2,rfl,hc2,hf2,ho2,hb2⟩
        have hl1:=a1A 11 18 138 m (by omega) (by omega)
        have hl2:=a1A 3 17 10 (left 11 138 m) (by omega) (by omega)
        have HO2:=c1n ho2
        have HB2:=c1n hb2
        clear ho2 hb2 HO1 hbc1 hbf1 e5
        have HT2:=c1n (HT1.out.below HB2.out HG.out)
        go_wp2_with fail
        refine (a3H _ _ (left 11 138 m) 3 17 10 u2 _ _ HT2.out HG.out hc2 hf2 HO2.out (by omega) rfl (by omega) (by omega) (by omega) (by omega) (by omega)).mono ?_
        rintro e w3 ⟨u3,rfl,hc3,hf3,ho3,hb3⟩
        have HO3:=c1n ho3
        have HB3:=c1n hb3
        clear ho3 hb3 HO2 hc2 hf2
        go_wp2_with fail
        go_meet
        case rel=>
         refine⟨_,reps 11 18 138 m++reps 3 17 10 (left 11 138 m),u3,?_,rfl,?_,hc3,hf3,?_,c1n ((HW1.out.trans HB2.out).trans HB3.out)⟩
         ·rw[c1r];omega
         ·rw[HZ.out];exact c1n (by simp[a3h,b0A])
         ·exact c1n (by have:=HO3.out;rw[c1r,<-Nat.add_assoc,<-c1y];exact this)
       ·have e5:(nth xs k==0)=false:=by simpa using hz
        have HZ:=c1n hz
        clear hz
        go_wp2_with (at_builtin;refine b2i rfl (.tmp 49) (.tmp 52) rfl (w'.heap.size+1) _ _ _ rfl (HO1.out.alloc _) wc.heap.size (nth xs k) 0 rfl (by simp) (by simp) (by omega) (by simp;omega) ?_)
        intro v' w1 h1 hg g' c' hv
        subst hv
        have hcx:=a7T hbc1 (fun k hk=>(HO1.out.lt k hk).1) hg
        have hfx:=a4F hsz1 hbf1 (fun k hk=>(HO1.out.lt k hk).1) hg
        obtain⟨hc2,hf2,ho2,hb2⟩:=b4L HW1.out hbc1 hbf1 (fun k hk=>(HO1.out.lt k hk).1) hg h1
        have HO2:=c1n ho2
        have HB2:=c1n hb2
        have HT2:=c1n (HT0.out.below HB2.out HG.out)
        clear ho2 hb2 HO1 hbc1 hbf1 e5 h1 hg HW1
        have hl2:=a1A 3 16 6 (m-1) (by omega) (by omega)
        have em:(m:Int)-1=((m-1:Nat):Int):=by omega
        go_wp2_with fail
        clear hcx hfx
        refine (a3H _ _ (m-1) 3 16 6 _ _ _ HT2.out HG.out hc2 hf2 HO2.out (by omega) rfl (by omega) (by omega) (by omega) (by omega) (by omega)).mono ?_
        rintro e w3 ⟨u3,rfl,hc3,hf3,ho3,hb3⟩
        have HO3:=c1n ho3
        have HB3:=c1n hb3
        clear ho3 hb3 HO2 hc2 hf2 em
        go_wp2_with fail
        go_meet
        case rel=>
         refine⟨_,(nth xs k,0)::reps 3 16 6 (m-1),u3,?_,rfl,?_,hc3,hf3,?_,c1n (HB2.out.trans HB3.out)⟩
         ·rw[c1s];omega
         ·exact c1n (by simp[a3h,b0m,HZ.out])
         ·exact c1n (by have:=HO3.out;rw[c1s,show out.length+((reps 3 16 6 (m-1)).length+1)=out.length+1+(reps 3 16 6 (m-1)).length by omega];simpa using this)
      case rest=>
       clear HO1 hbc1 hbf1 HW1 HT1 hsz1
       obtain⟨r,es,u1,hre,rfl,HE,hc1,hf1,HO1,HW1⟩:=hcut
       go_wp2_with fail
       go_loopw [59] (fun v59 wr=>∃ (j:Nat) (u:Value),j<=r/\v59=.int .i64 j/\wr.cell? ⟨w'.heap.size,0,none⟩=some u/\wr.frozen? ⟨w'.heap.size,0,none⟩=false/\Hid (wr.ownsRow (w'.heap.size+1) 163 2 u (out.length+es.length+j) (pcells (out++(es++List.replicate j (nth xs k,0)))))/\Hid (Below w'.heap.size w' wr)) (fun v59 _=>r-(intOf v59).toNat)
       case atStart=>exact⟨0,u1,by omega,rfl,hc1,hf1,c1n (by simpa using HO1.out),HW1⟩
       case round=>
        clear HO1 HW1 hc1 hf1
        obtain⟨j,u2,hj,rfl,hc1,hf1,HO1,HW1⟩:=hrel
        have hsz1:w'.heap.size<wr.heap.size:=c1u _ _ hc1
        by_cases hjr:j<r
        ·go_wp2_with (at_builtin;refine b2i rfl (.tmp 61) (.tmp 64) rfl (w'.heap.size+1) _ _ _ rfl (HO1.out.alloc _) wr.heap.size (nth xs k) 0 rfl (by simp) (by simp) (by omega) (by simp;omega) ?_)
         intro v' w1 h1 hg g' c' hv
         subst hv
         have hcx:=a7T hc1 (fun k hk=>(HO1.out.lt k hk).1) hg
         have hfx:=a4F hsz1 hf1 (fun k hk=>(HO1.out.lt k hk).1) hg
         obtain⟨hc2,hf2,ho2,hb2⟩:=b4L HW1.out hc1 hf1 (fun k hk=>(HO1.out.lt k hk).1) hg h1
         have HO2:=c1n ho2
         have HB2:=c1n hb2
         clear ho2 hb2 HO1 hc1 hf1 h1 hg HW1
         go_wp2_with fail
         go_roundw
         case rel=>exact⟨j+1,_,by omega,by go_num,hc2,hf2,c1n (by rw[List.replicate_succ'];simpa [Nat.add_assoc] using HO2.out),HB2⟩
         case measure=>simp[intOf];omega
        ·obtain rfl:j=r:=by omega
         go_wp2_with fail
         go_roundw
         case rel=>
          have hpk:=HR.out.pack
          have hp:=HP.out
          have hrl:=a7A (nth xs k) m hm1
          rw[hpk,<-c1y] at hp
          have ho:=HO1.out
          rw[HE.out] at ho
          exact⟨k+m,out++a3h (nth xs k) m,u2,by omega,by go_num,hc1,hf1,c1n (c0D ho rfl),c1n hp,by rw[c1r];omega,HW1,hsz1⟩
         case measure=>simp[intOf];omega
    ·go_wp2_with fail
     obtain rfl:k=n:=by omega
     go_ret2
     have e1:xs.drop k=[]:=List.drop_eq_nil_of_le (by have:=HL.out;omega)
     have e2:=HP.out
     rw[e1,a6v,List.append_nil] at e2
     subst e2
     exact Or.inl ⟨by have:=HL.out;omega,HB.out,_,rfl,(HO.out.mono (by have:=HSZ.out;omega)),(Dr.below HDR.out).trans (HSZ.out ▸ HW.out)⟩
end Go.Proofs.YtghjlpechjggjaaGreatDoor
