import Derived.Test.YtghjlpechjggjaaGreatDoorZrdH
import Derived.Test.YtghjlpechjggjaaGreatDoorZrdA
import Derived.Test.YtghjlpechjggjaaGreatDoorZrdC
import Derived.Test.YtghjlpechjggjaaGreatDoorZrdB
import Derived.Laws.BytesArg
set_option linter.defProp false
set_option linter.unnecessarySimpa false
set_option linter.unusedVariables false
set_option linter.unusedSimpArgs false
set_option linter.constructorNameAsVariable false
set_option maxRecDepth 100000
set_option maxHeartbeats 60000000
namespace Go.Proofs.YtghjlpechjggjaaGreatDoor
open Go.RowKit
private def c3o := @Lib.hid
open Go.RowKit
def c0y(w:World)(bs:List Int)(most:Nat)(r:IRes)(e:Ending)(w':World):Prop:=
 ∃ g B M c q ob,e=.returned (.pointer (some ⟨g,0,none⟩))/\RD w' g B M c bs q r.1 most r.2.2 ob/\(r.2.2=0->q=r.2.1)/\w.heap.size<=g/\Keeps [] w w'
theorem c2t:fixDist.all okLen=true:=by decide +kernel
theorem b3i(w:World)(A:Option Addr)(n c:Nat)(bs:List Int)(most:Nat)(hr:RI .u8 w A n bs)(hbyte:∀ j,0<=nth bs j/\nth bs j<=255)(hn:n<=1000000)(hm:most<=16384) :
  Calls Tryz.prog 109 #[.slice A n c,.int .i64 most] w (c0y w bs most (inflF bs most)):=by
 have HR:=c3o hr
 have HBY:=c3o hbyte
 have HLB:=c3o hr.len
 clear hr hbyte
 go_enter Tryz.func109,Tryz.ntmps109
 go_wp2_with fail
 refine (b9L w A n c bs HR.out HBY.out (by omega)).mono ?_
 rintro _ w1 ⟨v1,rfl,ho1,hb1⟩
 have hk1:=Keeps.of_below hb1 (S:=[])
 obtain⟨B,cB,rfl,hri,-,hlo⟩:=a0y ho1
 have HRB:=c3o hri
 have HLO:Hid (∀ a,B=some a->a.block<w1.heap.size):=c3o (fun a ha=>(hlo a ha).2.1)
 have HK1:=c3o hk1
 clear ho1 hb1 hri hlo hk1 HR
 obtain⟨M,hM⟩:∃ M,M=8*n:=⟨_,rfl⟩
 rw[<-hM] at HRB ⊢
 have HM:Hid (M=8*bs.length):=c3o (by rw[HLB.out,hM])
 have hM2:M<=100000000:=by omega
 clear hM
 obtain⟨g,hg⟩:∃ g,g=w1.heap.size:=⟨_,rfl⟩
 obtain⟨w2,hw2⟩:∃ w2,w2=w1.alloc (.cells #[.slice B M cB,.int .i64 0,.slice none 0 0,.int .i64 most,.int .i64 0] 184):=⟨_,rfl⟩
 have hk2:Keeps [] w1 w2:=by rw[hw2];exact (Keeps.refl [] w1).alloc _
 have hb2:Blk w2 g 184 [.slice B M cB,.int .i64 0,.slice none 0 0,.int .i64 most,.int .i64 0]:=by rw[hw2,hg];exact a0d w1 _ _
 have H2:Hid (RD w2 g B M cB bs 0 [] most 0 none):=c3o ⟨⟨_,hb2,World.ownsRow_nil _ _ _ _,rfl⟩,HRB.out.keeps hk2 (a0a _),fun a ha=>by rw[hg];exact HLO.out a ha,HM.out,by omega,by simp,hm,hM2⟩
 have HK2:=c3o (HK1.out.trans hk2)
 have HG:Hid (w.heap.size<=g):=c3o (by rw[hg];exact HK1.out.size)
 go_upto_region 2 with (fail)
 rw[<-hw2,<-hg]
 clear hw2 hg hk2 hb2 HRB HLO HK1
 go_wp2_with fail
 go_loopg [6] (8*bs.length+2) (fun k lv wr=>∃ (la:Int) (q:Nat) (o:List Int) (e:Int) (ob:Option Nat),lv=.int .i64 la/\Hid ((la=0/\e=0/\8*bs.length-q+1<k/\q<=8*bs.length/\inflF bs most=blksF bs most (k-1) o q) ∨
   ((la≠0∨e≠0)/\0<k/\(inflF bs most).1=o/\(inflF bs most).2.2=e/\(e=0->q=(inflF bs most).2.1)))/\Hid (RD wr g B M cB bs q o most e ob)/\Hid (FR g none ob w2 wr))
 case atStart=>exact⟨0,0,[],0,none,rfl,c3o (.inl ⟨rfl,rfl,by omega,by omega,rfl⟩),H2,c3o (FR.refl _ _ _)⟩
 case round=>
  clear H2
  obtain⟨la,q,o,e,ob,rfl,HS,H,K⟩:=hrel
  obtain⟨-,-,-,c4,-⟩:=H.out.cells
  have HDONE:Hid (∀ (wx:World) (q:Nat) (o:List Int) (e:Int) (ob:Option Nat),(inflF bs most).1=o->(inflF bs most).2.2=e->(e=0->q=(inflF bs most).2.1)->RD wx g B M cB bs q o most e ob->FR g none ob w2 wx ->
    c0y w bs most (inflF bs most) (.returned (.pointer (some ⟨g,0,none⟩))) wx):=c3o (fun wx q o e ob h1 h2 h3 h4 h5=>
   ⟨g,B,M,cB,q,ob,rfl,by rw[h1,h2];exact h4,fun h=>h3 (by rw[<-h2];exact h),HG.out,FR.new HK2.out h5 HG.out (fun x hx=>by cases hx)⟩)
  by_cases hla:la=0
  rotate_left
  ·have e1:(la==0)=false:=by simpa using hla
   obtain⟨h1,h2,h3⟩:(inflF bs most).1=o/\(inflF bs most).2.2=e/\(e=0->q=(inflF bs most).2.1):=by
    rcases HS.out with⟨a,_⟩|⟨-,-,a,b,c⟩
    ·exact absurd a hla
    ·exact⟨a,b,c⟩
   have HF:=c3o (HDONE.out wr q o e ob h1 h2 h3 H.out K.out)
   clear HS h1 h2 h3 hla HDONE
   go_wp2_with fail
   go_ret
   exact HF.out
  by_cases hez:e=0
  rotate_left
  ·have e2:(e==0)=false:=by simpa using hez
   obtain⟨h1,h2,h3⟩:(inflF bs most).1=o/\(inflF bs most).2.2=e/\(e=0->q=(inflF bs most).2.1):=by
    rcases HS.out with⟨-,a,_⟩|⟨-,-,a,b,c⟩
    ·exact absurd a hez
    ·exact⟨a,b,c⟩
   have HF:=c3o (HDONE.out wr q o e ob h1 h2 h3 H.out K.out)
   subst hla
   clear HS h1 h2 h3 hez HDONE
   go_wp2_with fail
   go_ret
   exact HF.out
  subst hla
  subst hez
  obtain⟨hk,hq,hin⟩:8*bs.length-q+1<gk/\q<=8*bs.length/\inflF bs most=blksF bs most (gk-1) o q:=by
   rcases HS.out with⟨-,-,a,b,c⟩|⟨a,_⟩
   ·exact⟨a,b,c⟩
   ·rcases a with a|a<;>exact absurd rfl a
  obtain⟨f,rfl⟩:∃ f,gk=f+1+1:=⟨gk-2,by omega⟩
  rw[show f+1+1-1=f+1 by omega] at hin
  have HS2:Hid (inflF bs most=if 8*bs.length<q+1 then (o,0,55)
   else if 8*bs.length<q+3 then (o,0,55)
   else if (a0S bs most (numB bs (q+1) 2) o (q+3)).2.2≠0 then a0S bs most (numB bs (q+1) 2) o (q+3)
   else if numB bs q 1=0 then blksF bs most f (a0S bs most (numB bs (q+1) 2) o (q+3)).1 (a0S bs most (numB bs (q+1) 2) o (q+3)).2.1
   else a0S bs most (numB bs (q+1) 2) o (q+3)):=c3o (by rw[hin,blksF])
  clear hin HS
  go_wp2_with fail
  clear c4
  refine (a0v wr g B M cB bs q o most 0 ob 1 1 rfl H.out (by omega)).mono ?_
  rintro _ w3 ⟨la,q1,e1,rfl,h3,k3,l0,l1,-,hc3⟩
  have H3:=c3o h3
  have K3:=c3o (K.out.trans (FR.of_keeps k3))
  rw[show (2:Int)^1=2 from rfl] at l1
  clear h3 k3 H K
  go_wp2_with fail
  refine (a0v w3 g B M cB bs q1 o most e1 ob 2 2 rfl H3.out (by omega)).mono ?_
  rintro _ w4 ⟨ki,q2,e2,rfl,h4,k4,n0,n1,-,hc4⟩
  have H4:=c3o h4
  have K4:=c3o (K3.out.trans (FR.of_keeps k4))
  rw[show (2:Int)^2=4 from rfl] at n1
  obtain⟨-,-,-,c4,-⟩:=h4.cells
  have f4:=h4.free 4
  clear h4 k4 H3 K3
  have HC:Hid ((e2=0/\q+3<=8*bs.length/\q2=q+3/\la=numB bs q 1/\ki=numB bs (q+1) 2)∨(e2=55/\inflF bs most=(o,0,55))):=c3o (by
   have hM:=HM.out
   rcases hc3 with⟨-,x1,rfl,x2,rfl⟩|⟨-,x1,rfl,x2,rfl⟩|⟨x1,_⟩
   ·rcases hc4 with⟨-,y1,rfl,y2,rfl⟩|⟨-,y1,rfl,y2,rfl⟩|⟨y1,_⟩
    ·exact .inl ⟨rfl,by omega,by omega,x2,y2⟩
    ·exact .inr ⟨rfl,by rw[HS2.out,if_neg (by omega),if_pos (by omega)]⟩
    ·exact absurd rfl y1
   ·rcases hc4 with⟨y1,_⟩|⟨y1,_⟩|⟨-,rfl,_⟩
    ·exact absurd y1 (by decide)
    ·exact absurd y1 (by decide)
    ·exact .inr ⟨rfl,by rw[HS2.out,if_pos (by omega)]⟩
   ·exact absurd rfl x1)
  clear hc3 hc4
  rcases HC.out with⟨rfl,hq3,rfl,hlae,hkie⟩|⟨rfl,hin⟩
  rotate_left
  ·have HF:=c3o (HDONE.out w4 q2 o 55 ob (by rw[hin]) (by rw[hin]) (fun h=>absurd h (by decide)) H4.out K4.out)
   clear HS2 HC HDONE hin
   go_wp2_with fail
   go_ret
   exact HF.out
  have HS3:=c3o (HS2.out.trans (by rw[if_neg (by omega),if_neg (by omega)]))
  rw[<-hlae,<-hkie] at HS3
  have HQ3:Hid (q+3<=8*bs.length):=c3o hq3
  clear HS2 HC hlae hkie hq3
  have HBL:Hid (a0S bs most ki o (q+3)=if ki=0 then a0m bs most o (q+3)
   else if ki=1 then symF fixLit fixDist bs most (8*bs.length+1) o (q+3)
   else if ki=2 then
    if codesE (headF bs (q+3))≠0 then (o,0,codesE (headF bs (q+3)))
    else symF (headF bs (q+3)).1 (headF bs (q+3)).2.1 bs most (8*bs.length+1) o (q+3+(headF bs (q+3)).2.2.1)
   else (o,0,50)):=c3o rfl
  obtain⟨br,hbr⟩:∃ br,br=a0S bs most ki o (q+3):=⟨_,rfl⟩
  have HP:Hid (br.2.2=0->q+3<=br.2.1/\br.2.1<=8*bs.length):=c3o (fun h=>by rw[hbr] at h ⊢;exact a5u bs most ki o (q+3) HQ3.out h)
  rw[<-hbr] at HBL HS3
  clear hbr
  have HREL:Hid (∀ (wx:World) (q':Nat) (ob2:Option Nat),Hid (br.2.2=0->q'=br.2.1)->Hid (RD wx g B M cB bs q' br.1 most br.2.2 ob2)->Hid (FR g none ob2 w2 wx)->∃ (kk q9:Nat) (o9:List Int) (e9:Int) (ob9:Option Nat),kk<f+1+1 /\
    Hid ((la=0/\e9=0/\8*bs.length-q9+1<kk/\q9<=8*bs.length/\inflF bs most=blksF bs most (kk-1) o9 q9) ∨
   ((la≠0∨e9≠0)/\0<kk/\(inflF bs most).1=o9/\(inflF bs most).2.2=e9/\(e9=0->q9=(inflF bs most).2.1)))/\Hid (RD wx g B M cB bs q9 o9 most e9 ob9)/\Hid (FR g none ob9 w2 wx)):=c3o (fun wx q' ob2 HQ' H5 K5=>by
   obtain⟨o3,p3,er⟩:=br
   have hs3:=HS3.out
   simp only[] at HQ' H5 HP hs3
   by_cases her:er=0
   ·subst her
    obtain⟨a1,a2⟩:=HP.out rfl
    obtain rfl:=HQ'.out rfl
    rw[if_neg (by simp)] at hs3
    by_cases hla:la=0
    ·rw[if_pos hla] at hs3
     exact⟨f+1,q',o3,0,ob2,by omega,c3o (.inl ⟨hla,rfl,by omega,a2,by rw[show f+1-1=f by omega];exact hs3⟩),H5,K5⟩
    ·rw[if_neg hla] at hs3
     exact⟨1,q',o3,0,ob2,by omega,c3o (.inr ⟨.inl hla,by omega,by rw[hs3],by rw[hs3],fun _=>by rw[hs3]⟩),H5,K5⟩
   ·rw[if_pos her] at hs3
    exact⟨1,q',o3,er,ob2,by omega,c3o (.inr ⟨.inr her,by omega,by rw[hs3],by rw[hs3],fun h=>absurd h her⟩),H5,K5⟩)
  clear HS3 HP HDONE
  by_cases h0:ki=0
  ·subst h0
   have HB0:=c3o (HBL.out.trans (if_pos rfl))
   clear HBL
   go_wp2_with fail
   clear c4 f4
   refine (a9P w4 g B M cB bs (q+3) o most ob H4.out).mono ?_
   rintro _ w5 ⟨q',ob2,rfl,h5,k5,hq5⟩
   rw[<-HB0.out] at h5 hq5
   have H5:=c3o h5
   have K5:=c3o (K4.out.trans k5)
   have HQ5:=c3o hq5
   clear h5 k5 hq5 H4 K4 HB0
   obtain⟨kk,q9,o9,e9,ob9,hkk,r1,r2,r3⟩:=HREL.out _ _ ob2 (HQ5) (H5) (K5)
   clear HREL
   go_wp2_with fail
   go_roundg kk
   case measure=>exact hkk
   case rel=>exact⟨la,q9,o9,e9,ob9,rfl,r1,r2,r3⟩
  have e0:(ki==0)=false:=by simpa using h0
  by_cases h1:ki=1
  ·subst h1
   have HB0:=c3o (HBL.out.trans ((if_neg (by decide)).trans (if_pos rfl)))
   clear HBL
   go_wp2_with fail
   clear c4 f4
   refine (b1l w4).mono ?_
   rintro _ w5 ⟨v1,v2,rfl,ho1,ho2,hb5⟩
   have hk5:=Keeps.of_below hb5 (S:=[])
   have H5:=c3o (H4.out.keeps hk5)
   have K5:=c3o (K4.out.trans (FR.of_nil hk5))
   obtain⟨A1,c1,rfl,hri1,-,-⟩:=a0y ho1
   obtain⟨A2,c2,rfl,hri2,-,hlo2⟩:=a0y ho2
   have HR1:=c3o hri1
   have HR2:=c3o hri2
   have HA2:Hid (∀ a,A2=some a->a.block≠g/\ob≠some a.block/\a.block<w5.heap.size):=c3o (fun a ha=>by
    have h1:=(hlo2 a ha).1
    have h2:=H4.out.lt
    exact⟨by omega,fun h=>by have:=(H4.out.oblo _ h).2;omega,(hlo2 a ha).2.1⟩)
   clear ho1 ho2 hb5 hk5 hri1 hri2 hlo2 H4 K4
   go_wp2_with fail
   refine (a4c w5 g B M cB bs (q+3) o most ob fixLit fixDist A1 A2 288 32 c1 c2 H5.out HR1.out HR2.out (by omega) (by omega) a4I.1 (fun _=>a4I.2.1) c2t HA2.out).mono ?_
   rintro _ w6 ⟨q',ob2,rfl,h6,k6,hq6⟩
   rw[<-HB0.out] at h6 hq6
   have H6:=c3o h6
   have K6:=c3o (K5.out.trans k6)
   have HQ6:=c3o hq6
   clear h6 k6 hq6 H5 K5 HB0 HR1 HR2 HA2
   obtain⟨kk,q9,o9,e9,ob9,hkk,r1,r2,r3⟩:=HREL.out _ _ ob2 (HQ6) (H6) (K6)
   clear HREL
   go_wp2_with fail
   go_roundg kk
   case measure=>exact hkk
   case rel=>exact⟨la,q9,o9,e9,ob9,rfl,r1,r2,r3⟩
  have e1:(ki==1)=false:=by simpa using h1
  by_cases h2:ki=2
  ·subst h2
   have HB0:=c3o (HBL.out.trans ((if_neg (by decide)).trans ((if_neg (by decide)).trans (if_pos rfl))))
   clear HBL
   go_wp2_with fail
   clear c4 f4
   refine (b3c w4 g B M cB bs (q+3) o most ob H4.out).mono ?_
   rintro _ w5 ⟨q5,v1,v2,rfl,h5,k5,hgood⟩
   have hfull:=@a6X bs (q+3)
   have hl1:=b2B bs (q+3)
   have hl2:=a9i bs (q+3)
   have hoks:=(b5h bs (q+3)).2
   have K5:=c3o (K4.out.trans (FR.of_keeps k5))
   by_cases hce:codesE (headF bs (q+3))≠0
   ·have H5:=c3o h5
    have HB1:=c3o (HB0.out.trans (if_pos hce))
    have HCE:=c3o hce
    generalize codesE (headF bs (q+3))=ce at *
    clear h5 k5 hgood hfull hoks HB0 hce H4 K4
    go_wp2_with fail
    refine (b1m w5 g B M cB bs q5 o most ce ob v1 v2 H5.out HCE.out).mono ?_
    rintro _ w6 ⟨rfl,h6,k6⟩
    have H6:=c3o h6
    have K6:=c3o (K5.out.trans (FR.of_nil k6))
    clear h6 k6 H5 K5
    obtain⟨kk,q9,o9,e9,ob9,hkk,r1,r2,r3⟩:=HREL.out _ q5 ob (c3o (fun h=>by rw[HB1.out] at h;exact absurd h HCE.out)) (by rw[HB1.out];exact H6) (K6)
    clear HREL
    go_wp2_with fail
    go_roundg kk
    case measure=>exact hkk
    case rel=>exact⟨la,q9,o9,e9,ob9,rfl,r1,r2,r3⟩
   ·replace hce:codesE (headF bs (q+3))=0:=Classical.not_not.1 hce
    have HB1:=c3o (HB0.out.trans (if_neg (by rw[hce];simp)))
    obtain⟨hz,hck1,hck2⟩:=b0y hce
    obtain⟨hf1,hf2⟩:=hfull hz
    obtain⟨rfl,A1,c1,A2,c2,rfl,rfl,hri1,hri2,hlo2⟩:=hgood hce
    rw[hce] at h5
    have H5:=c3o h5
    have HR1:=c3o hri1
    have HR2:=c3o hri2
    have HCK1:=c3o hck1
    have HCK2:=c3o hck2
    have HOKS:=c3o (b6X hoks)
    have HA2:Hid (∀ a,A2=some a->a.block≠g/\ob≠some a.block/\a.block<w5.heap.size):=c3o (fun a ha=>by
     have h1:=(hlo2 a ha).1
     have h2:=H4.out.lt
     exact⟨by omega,fun h=>by have:=(H4.out.oblo _ h).2;omega,(hlo2 a ha).2⟩)
    have b1:(headF bs (q+3)).1.length<=288:=by omega
    have b3:(headF bs (q+3)).2.1.length<=288:=by omega
    clear h5 k5 hgood hfull hoks HB0 hce hz hck1 hck2 hf1 hf2 hri1 hri2 hlo2 H4 K4
    generalize headF bs (q+3)=hd at *
    obtain⟨L1,L2,nn,er0⟩:=hd
    simp only[] at H5 HR1 HR2 HCK1 HCK2 HOKS b1 b3 HB1 ⊢
    obtain⟨n1,hn1⟩:∃ n,n=L1.length:=⟨_,rfl⟩
    obtain⟨n2,hn2⟩:∃ n,n=L2.length:=⟨_,rfl⟩
    rw[<-hn1] at b1 HR1 ⊢
    rw[<-hn2] at b3 HR2 ⊢
    clear hn1 hn2
    go_wp2_with fail
    refine (a4c w5 g B M cB bs (q+3+nn) o most ob L1 L2 A1 A2 n1 n2 c1 c2 H5.out HR1.out HR2.out b1 b3 HCK1.out HCK2.out HOKS.out HA2.out).mono ?_
    rintro _ w6 ⟨q',ob2,rfl,h6,k6,hq6⟩
    rw[<-HB1.out] at h6 hq6
    have H6:=c3o h6
    have K6:=c3o (K5.out.trans k6)
    have HQ6:=c3o hq6
    clear h6 k6 hq6 H5 K5 HB1 HR1 HR2 HA2
    obtain⟨kk,q9,o9,e9,ob9,hkk,r1,r2,r3⟩:=HREL.out _ _ ob2 (HQ6) (H6) (K6)
    clear HREL
    go_wp2_with fail
    go_roundg kk
    case measure=>exact hkk
    case rel=>exact⟨la,q9,o9,e9,ob9,rfl,r1,r2,r3⟩
  ·obtain rfl:ki=3:=by omega
   have HB0:=c3o (HBL.out.trans ((if_neg (by decide)).trans ((if_neg (by decide)).trans (if_neg (by decide)))))
   have HX:=c3o (H4.out.wrong 50)
   have KX:=c3o (K4.out.trans (FR.of_keeps (a0D w4 g 4 (.int .i64 50))))
   clear HBL
   obtain⟨kk,q9,o9,e9,ob9,hkk,r1,r2,r3⟩:=HREL.out _ (q+3) ob (c3o (fun h=>by rw[HB0.out] at h;exact absurd h (show ¬(50:Int)=0 by decide))) (by rw[HB0.out];exact HX) (KX)
   clear HREL
   go_wp2_with fail
   go_roundg kk
   case measure=>exact hkk
   case rel=>exact⟨la,q9,o9,e9,ob9,rfl,r1,r2,r3⟩
def c2Y(w:World)(r:List Int×Nat×Int)(e:Ending)(w':World):Prop:=∃ B2 c2,e=.returned (.tuple #[.slice B2 r.1.length c2,.int .i64 (r.2.1:Nat),.int .i64 r.2.2])/\RI .u8 w' B2 r.1.length r.1/\(∀ a,B2=some a->w.heap.size<=a.block)/\Keeps [] w w'
theorem a8e(w:World)(A:Option Addr)(n c:Nat)(bs:List Int)(most:Int)(hr:RI .u8 w A n bs)(hbyte:∀ j,0<=nth bs j/\nth bs j<=255)(hn:n<=1000000) :
  Calls Tryz.prog 81 #[.slice A n c,.int .i64 most] w (c2Y w (a0B bs most)):=by
 have HR:=c3o hr
 have HBY:=c3o hbyte
 have HRL:=c3o hr.len
 clear hr hbyte
 have hnil:∀ w:World,RI .u8 w none 0 []:=fun w=>⟨rfl,by omega,by simp⟩
 have HNIL:=c3o hnil
 clear hnil
 go_enter Tryz.func81,Tryz.ntmps81
 by_cases h0:most<0
 ·have e0:decide (most<0)=true:=by simpa using h0
  have HE:Hid (a0B bs most=([],0,1)):=c3o (by unfold a0B;rw[if_pos (.inl h0)])
  clear h0
  go_wp2_with fail
  go_ret3
  rw[HE.out]
  exact⟨_,_,rfl,HNIL.out _,(fun a ha=>by cases ha),Keeps.refl _ _⟩
 have e0:decide (most<0)=false:=by simpa using h0
 by_cases h1:16384<most
 ·have e1:decide (16384<most)=true:=by simpa using h1
  have HE:Hid (a0B bs most=([],0,1)):=c3o (by unfold a0B;rw[if_pos (.inr h1)])
  clear h1
  go_wp2_with fail
  go_ret3
  rw[HE.out]
  exact⟨_,_,rfl,HNIL.out _,(fun a ha=>by cases ha),Keeps.refl _ _⟩
 have e1:decide (16384<most)=false:=by simpa using h1
 obtain⟨m,rfl⟩:=Int.eq_ofNat_of_zero_le (show 0<=most by omega)
 have hm:m<=16384:=by omega
 have HE:Hid (a0B bs (m:Nat)=if (inflF bs m).2.2≠0 then ([],0,(inflF bs m).2.2) else ((inflF bs m).1,((inflF bs m).2.1+7)/8,0)):=c3o (by unfold a0B;rw[if_neg (by omega),Int.toNat_natCast])
 change Code.wp _ _ _ _ _
 go_wp2_with fail
 refine (b3i w A n c bs m HR.out HBY.out hn hm).mono ?_
 rintro _ w1 ⟨g,B,M,cB,q,ob,rfl,hi,hq,hg,hk⟩
 have HI:=c3o hi
 have HK:=c3o hk
 have HPOS:=c3o (fun h=>b0P bs m h)
 clear hk HR HBY h0 h1 e0 e1
 generalize inflF bs m=ir at *
 obtain⟨o3,p3,er⟩:=ir
 simp only[] at HE HPOS hi hq HI ⊢
 obtain⟨-,k1,-,k4,-⟩:=hi.cells
 obtain⟨vv,hbx,hox,-⟩:=hi.box
 obtain⟨A2,c2,rfl,hri,-,hlo⟩:=a0y hox
 have k2:=hbx.cell 2
 simp only[List.getElem?_cons_zero,List.getElem?_cons_succ] at k2
 have HRI:=c3o hri
 have HLO:Hid (∀ a,A2=some a->w.heap.size<=a.block):=c3o (fun a ha=>by have:=(hlo a ha).1;omega)
 clear hbx hox hlo
 by_cases her:er=0
 ·subst her
  obtain rfl:=hq rfl
  have HE1:=c3o (HE.out.trans (if_neg (by simp)))
  have hp:=HPOS.out rfl
  have hrl:=HRL.out
  obtain⟨Q,hQ⟩:∃ Q,Q=(q+7)/8:=⟨_,rfl⟩
  rw[<-hQ] at HE1
  have s1:IntKind.i64.wrap ((q:Int)+7)=(q:Int)+7:=IntWalk.i64_in _ (by omega)
  have s2:((q:Int)+7).tdiv 8=(Q:Int):=by rw[Int.tdiv_eq_ediv_of_nonneg (by omega)];omega
  have s3:IntKind.i64.wrap (Q:Int)=Q:=IntWalk.i64_in _ (by omega)
  clear HE hq hi HI HPOS hrl hQ hri
  go_wp2_with fail
  go_quiet (fail)
  go_wp2_with fail
  go_ret3
  rw[HE1.out]
  exact⟨_,_,rfl,HRI.out.keeps ((Keeps.refl [] w1).drewN _) (a0a _),HLO.out,HK.out.drewN _⟩
 ·have HE1:=c3o (HE.out.trans (if_pos her))
  have e2:(er !=0)=true:=by simpa using her
  clear HE hq hi HI HPOS her k2 hri
  go_wp2_with fail
  go_quiet (fail)
  go_wp2_with fail
  go_ret3
  rw[HE1.out]
  exact⟨_,_,rfl,HNIL.out _,(fun a ha=>by cases ha),HK.out.drewN _⟩
open Go.RowKit
theorem b6v{zs:List Int}(h:∀ x∈zs,(Lit.int .u8 x).wf=true)(j:Nat):0<=nth zs j/\nth zs j<=255:=by
 by_cases hj:j<zs.length
 ·have:=h (nth zs j) (by rw[a0o hj];exact List.getElem_mem _)
  simp[Lit.wf] at this
  rwa [show IntKind.u8.min=0 from rfl,show IntKind.u8.max=255 from rfl] at this
 ·simp[nth,List.getD,List.getElem?_eq_none (Nat.le_of_not_lt hj)]
end Go.Proofs.YtghjlpechjggjaaGreatDoor
