import Derived.Test.YtghjlpechjggjaaGreatDoorZrdN
set_option linter.defProp false
set_option linter.unnecessarySimpa false
set_option linter.unusedVariables false
set_option linter.unusedSimpArgs false
set_option linter.constructorNameAsVariable false
set_option maxRecDepth 100000
set_option maxHeartbeats 60000000
namespace Go.Proofs.YtghjlpechjggjaaGreatDoor
open Go.RowKit
private def c3o := @Lib.hid
private def c3p := @List.getElem?_cons_succ
private def c3q := @List.getElem?_cons_zero
private def c3r := @World.ownsRow_nil
private def c3s := @decide_eq_false
open Go.RowKit
theorem b2p(w:World)(A:Option Addr)(n c:Nat)(xs:List Int)(name:ByteArray)(hz:ZB w A n c xs) :
  Calls Tryz.prog 25 #[.slice A n c,.string name] w fun e w'=>e=.returned (.tuple #[.string (strOfNums (a2C xs name).1),.int .i64 (a2C xs name).2])/\Below w.heap.size w w':=by
 have HZ:=c3o hz
 clear hz
 go_enter Tryz.func25,Tryz.ntmps25
 go_wp2_with fail
 refine (a3e w A n c xs HZ.out).mono ?_
 rintro _ w2 ⟨v2,rfl,hv0,hown,hb2⟩
 have HB2:=c3o hb2
 by_cases e0:(zpieces xs).1=0
 case neg=>
  have HR:Hid (a2C xs name=([],(zpieces xs).1)):=c3o (by unfold a2C;rw[if_neg e0])
  have b0:((zpieces xs).1 !=0)=true:=by simpa using e0
  obtain rfl:=hv0 e0
  clear hv0 hown hb2 e0
  generalize (zpieces xs).1=E at *
  go_wp2_with fail
  go_ret2
  exact⟨by rw[HR.out];rfl,HB2.out⟩
 have b0:((zpieces xs).1 !=0)=false:=by simpa using e0
 obtain⟨AP,cP,rfl,hrw,hcap,hblk⟩:=a4Z (by decide) a2A hown
 have HE0:=c3o e0
 have HR:Hid (a2C xs name=a2Y xs name (zpieces xs).2):=c3o (by unfold a2C;rw[if_pos e0])
 have hpi:=a1O HZ.out.byte e0
 have hm64:=hpi.2.1
 have HD:Hid (∀ p∈(zpieces xs).2,∀ w',Keeps [] w w'->Calls Tryz.prog 50 #[.slice A n c,.agg (pcr p).toArray] w' fun e w2=>e=.returned (.tuple #[.string (strOfNums (a1B xs p).1),.int .i64 (a1B xs p).2])/\Below w'.heap.size w' w2):=c3o (fun p hp w' hk=>by
  obtain⟨q1,-,q⟩:=hpi
  obtain⟨h1,h2,h3,h4,h5,h6⟩:=q p hp
  exact a6N w' A n c xs (HZ.out.keeps hk (a0a _)) p (by rw[<-HZ.out.ri.len];exact h1) (by unfold ZP.len;omega) (by omega))
 have HRW:=c3o hrw
 have HEZ:Hid ((zpieces xs).1=0):=HE0
 clear hv0 hown hb2 e0 hrw hcap hblk HE0 hpi
 rw[HEZ.out] at b0 ⊢
 clear HEZ b0
 generalize (zpieces xs).2=ps at *
 obtain⟨m,hm⟩:∃ z,z=ps.length:=⟨_,rfl⟩
 have HM:=c3o hm
 rw[<-hm] at HRW hm64 ⊢
 clear hm
 go_upto_region 5 with (fail)
 go_loopw [8] (fun iv wr=>∃ (i:Nat),i<=m/\iv=.int .i64 i/\Hid (a2C xs name=a2Y xs name (ps.drop i))/\Hid (Below w2.heap.size w2 wr)) (fun iv _=>m-(intOf iv).toNat)
 case atStart=>exact⟨0,by omega,rfl,HR,c3o (Below.refl _ _)⟩
 case round=>
  obtain⟨i,hi,rfl,HRI,HB⟩:=hrel
  by_cases hlt:i<m
  ·have e1:decide (i<m)=true:=decide_eq_true hlt
   obtain⟨tb,to',rfl⟩:=HRW.out.hd (by omega)
   have hpl:i<ps.length:=by rw[<-HM.out];exact hlt
   have hrw:=(HRW.out.keeps a2A (Keeps.of_below HB.out (S:=[])) (a0a _)).cell tb to' rfl i hpl
   have p0:=hrw 0 (by omega)
   have p1:=hrw 1 (by omega)
   have p2:=hrw 2 (by omega)
   have p3:=hrw 3 (by omega)
   have p4:=hrw 4 (by omega)
   have p5:=hrw 5 (by omega)
   have p6:=hrw 6 (by omega)
   have HRS:Hid _:=c3o (HRI.out.trans (a7X hpl))
   have HCL:=c3o (HD.out ps[i] (List.getElem_mem _) wr ((Keeps.of_below HB2.out (S:=[])).trans (Keeps.of_below HB.out)))
   clear hrw HRI HRW
   generalize ps[i]=p at *
   simp only[pcr,c3q,c3p,Nat.add_zero] at p0 p1 p2 p3 p4 p5 p6 HCL
   by_cases hnm:p.x.name=name
   ·have HRT:Hid (a2C xs name=a1B xs p):=c3o (by rw[HRS.out,if_pos hnm])
    subst hnm
    clear HRS
    go_wp2_with fail
    refine HCL.out.mono ?_
    rintro _ w4 ⟨rfl,hb4⟩
    have k4:=Keeps.of_below hb4 (S:=[])
    have HB4:=c3o (HB.out.trans (a0c k4 HB.out.size (by simp)))
    clear k4 hb4 p0 p1 p2 p3 p4 p5 p6 HCL
    go_wp2_with fail
    go_ret2
    exact⟨by rw[HRT.out];rfl,HB2.out.trans (a0c (Keeps.of_below HB4.out (S:=[])) HB2.out.size (by simp))⟩
   ·have HRT:Hid (a2C xs name=a2Y xs name (ps.drop (i+1))):=c3o (by rw[HRS.out,if_neg hnm])
    have s0:=c1i hnm
    have s2:decide (p.x.name.toList=name.toList)=false:=c3s s0
    have s3:(p.x.name.toList==name.toList)=false:=beq_eq_false_iff_ne.2 s0
    clear HRS hnm HCL
    go_wp2_with fail
    go_roundw
    case rel=>exact⟨i+1,by omega,by go_num,HRT,HB⟩
    case measure=>simp[intOf];omega
  ·have e1:decide (i<m)=false:=c3s hlt
   have him:i=m:=by omega
   have HRT:Hid (a2C xs name=([],85)):=c3o (by rw[HRI.out,him,HM.out,List.drop_length,a2Y])
   clear HRI him
   go_wp2_with fail
   go_ret2
   exact⟨by rw[HRT.out];rfl,HB2.out.trans (a0c (Keeps.of_below HB.out (S:=[])) HB2.out.size (by simp))⟩
open Go.RowKit
theorem b2A(w:World)(A:Option Addr)(n c:Nat)(xs:List Int)(hz:ZB w A n c xs) :
  Calls Tryz.prog 23 #[.slice A n c] w fun e w'=>∃ v,e=.returned (.tuple #[v,.int .i64 (zpieces xs).1])/\w'.ownsRow w.heap.size 51 5 v (zpieces xs).2.length (((zpieces xs).2.map ZP.x).flatMap icells)/\Below w.heap.size w w':=by
 have HZ:=c3o hz
 clear hz
 go_enter Tryz.func23,Tryz.ntmps23
 go_wp2_with fail
 refine (a3e w A n c xs HZ.out).mono ?_
 rintro _ w2 ⟨v2,rfl,hv0,hown,hb2⟩
 have HB2:=c3o hb2
 have hm64:(zpieces xs).2.length<=64:=by
  by_cases e0:(zpieces xs).1=0
  ·exact (a1O HZ.out.byte e0).2.1
  ·rw[a3n e0];simp
 obtain⟨AP,cP,rfl,hrw,hcap,hblk⟩:=a4Z (by decide) a2A hown
 have HRW:=c3o hrw
 clear hv0 hb2 hrw hcap hblk hown
 obtain⟨ps,hps⟩:∃ z,z=(zpieces xs).2:=⟨_,rfl⟩
 obtain⟨E,hE⟩:∃ z,z=(zpieces xs).1:=⟨_,rfl⟩
 rw[<-hps] at HRW hm64
 rw[<-hE]
 have HPS:=c3o hps
 have HE:=c3o hE
 clear hps hE
 obtain⟨m,hm⟩:∃ z,z=ps.length:=⟨_,rfl⟩
 have HM:=c3o hm
 have HRW:Hid (RW 7 pcr w2 AP m ps):=by rw[hm];exact HRW
 rw[<-hm] at hm64
 have hm':(zpieces xs).2.length=m:=by rw[hm,HPS.out]
 rw[hm']
 clear hm
 go_upto_region 4 with (fail)
 go_loopw [6,7] (fun ov iv wr=>∃ (i:Nat) (AO:Option Addr) (cO:Nat),i<=m/\iv=.int .i64 i/\ov=.slice AO i cO/\Hid (wr.ownsRow w2.heap.size 51 5 (.slice AO i cO) i (((ps.take i).map ZP.x).flatMap icells))/\Hid (Below w2.heap.size w2 wr)) (fun _ iv _=>m-(intOf iv).toNat)
 case atStart=>exact⟨0,none,0,by omega,rfl,rfl,c3o (c3r _ _ _ _),c3o (Below.refl _ _)⟩
 case round=>
  obtain⟨i,AO,cO,hi,rfl,rfl,HO,HB⟩:=hrel
  by_cases hlt:i<m
  ·have e1:decide (i<m)=true:=decide_eq_true hlt
   obtain⟨tb,to',rfl⟩:=HRW.out.hd (by omega)
   have hpl:i<ps.length:=by rw[<-HM.out];exact hlt
   have hrw:=(HRW.out.keeps a2A (Keeps.of_below HB.out (S:=[])) (a0a _)).cell tb to' rfl i hpl
   have p0:=hrw 0 (by omega)
   have p1:=hrw 1 (by omega)
   have p2:=hrw 2 (by omega)
   have p3:=hrw 3 (by omega)
   have p4:=hrw 4 (by omega)
   have HTK:Hid ((ps.take (i+1)).map ZP.x=(ps.take i).map ZP.x++[ps[i].x]):=c3o (by rw[List.take_succ_eq_append_getElem hpl,List.map_append];rfl)
   clear hrw HRW
   generalize ps[i]=p at *
   simp only[pcr,c3q,c3p,Nat.add_zero] at p0 p1 p2 p3 p4
   go_wp2_with (at_builtin;go_loud (refine app_rw b8s a0A a8t rfl (.tmp 19) (.tmp 25) rfl w2.heap.size _ i ((ps.take i).map ZP.x) rfl (a0b HO.out ((Keeps.refl [] wr).alloc _) (by simp)) wr.heap.size p.x rfl (fun j hj=>(a0d wr 51 [.string p.x.name,.int .i64 p.x.size,.int .i64 p.x.packed,.int .u32 p.x.sum,.int .i64 p.x.way]).cell j) (by omega) (by have:=HB.out.size;simp;omega) ?_;intro v5 w5 ho5 hg5;obtain⟨A5,c5,rfl⟩:=a0h ho5;have HO5:=c3o ho5;have HB5:=c3o ((HB.out.alloc HB.out.size (.cells #[.string p.x.name,.int .i64 p.x.size,.int .i64 p.x.packed,.int .u32 p.x.sum,.int .i64 p.x.way] 51)).grown hg5 (by have:=HB.out.size;simp;omega) (fun k hk=>a0j HO.out k hk));clear ho5 hg5))
   go_roundw
   case rel=>exact⟨i+1,A5,c5,by omega,by go_num,rfl,by rw[HTK.out];exact HO5,HB5⟩
   case measure=>simp[intOf];omega
  ·have e1:decide (i<m)=false:=c3s hlt
   have him:i=m:=by omega
   have HT:Hid ((ps.take i).map ZP.x=ps.map ZP.x):=c3o (by rw[him,HM.out,List.take_length])
   have HI:=c3o him
   clear him
   go_wp2_with fail
   go_ret2
   refine⟨.slice AO i cO,by rw[<-HE.out];rfl,?_,HB2.out.trans (a0c (Keeps.of_below HB.out (S:=[])) HB2.out.size (by simp))⟩
   rw[<-HPS.out,<-HT.out,<-HM.out,<-HI.out]
   exact a3H HO.out HB2.out.size
open Go.RowKit
theorem b3b(w:World)(A:Option Addr)(n c:Nat)(xs:List Int)(hz:ZB w A n c xs) :
  Calls Tryz.prog 24 #[.slice A n c] w fun e w'=>∃ v,e=.returned (.tuple #[v,.int .i64 (a1K xs).2])/\w'.ownsRow w.heap.size 34 2 v (a1K xs).1.length ((a1K xs).1.flatMap ecells)/\Below w.heap.size w w':=by
 have HZ:=c3o hz
 clear hz
 go_enter Tryz.func24,Tryz.ntmps24
 go_wp2_with fail
 refine (a3e w A n c xs HZ.out).mono ?_
 rintro _ w2 ⟨v2,rfl,hv0,hown,hb2⟩
 have HB2:=c3o hb2
 by_cases e0:(zpieces xs).1=0
 case neg=>
  have HR:Hid (a1K xs=([],(zpieces xs).1)):=c3o (by unfold a1K;rw[if_neg e0])
  have b0:((zpieces xs).1 !=0)=true:=by simpa using e0
  obtain rfl:=hv0 e0
  clear hv0 hown hb2 e0
  generalize (zpieces xs).1=E at *
  go_wp2_with fail
  go_ret2
  exact⟨.slice none 0 0,by rw[HR.out];rfl,by rw[HR.out];exact c3r _ _ _ _,HB2.out⟩
 have b0:((zpieces xs).1 !=0)=false:=by simpa using e0
 obtain⟨AP,cP,rfl,hrw,hcap,hblk⟩:=a4Z (by decide) a2A hown
 have HE0:=c3o e0
 have HR:Hid (a1K xs=zdatas xs (zpieces xs).2 []):=c3o (by unfold a1K;rw[if_pos e0])
 have hpi:=a1O HZ.out.byte e0
 have hm64:=hpi.2.1
 have HD:Hid (∀ p∈(zpieces xs).2,∀ w',Keeps [] w w'->Calls Tryz.prog 50 #[.slice A n c,.agg (pcr p).toArray] w' fun e w2=>e=.returned (.tuple #[.string (strOfNums (a1B xs p).1),.int .i64 (a1B xs p).2])/\Below w'.heap.size w' w2):=c3o (fun p hp w' hk=>by
  obtain⟨q1,-,q⟩:=hpi
  obtain⟨h1,h2,h3,h4,h5,h6⟩:=q p hp
  exact a6N w' A n c xs (HZ.out.keeps hk (a0a _)) p (by rw[<-HZ.out.ri.len];exact h1) (by unfold ZP.len;omega) (by omega))
 have HRW:=c3o hrw
 have HEZ:Hid ((zpieces xs).1=0):=HE0
 clear hv0 hown hb2 e0 hrw hcap hblk HE0 hpi
 rw[HEZ.out] at b0 ⊢
 clear HEZ b0
 generalize (zpieces xs).2=ps at *
 obtain⟨m,hm⟩:∃ z,z=ps.length:=⟨_,rfl⟩
 have HM:=c3o hm
 rw[<-hm] at HRW hm64 ⊢
 clear hm
 go_upto_region 6 with (fail)
 go_loopw [6,7] (fun ov iv wr=>∃ (i:Nat) (acc:List EN) (AO:Option Addr) (cO:Nat),i<=m/\iv=.int .i64 i/\ov=.slice AO i cO/\Hid (a1K xs=zdatas xs (ps.drop i) acc)/\Hid (acc.length=i)/\Hid (wr.ownsRow w2.heap.size 34 2 (.slice AO i cO) i (acc.flatMap ecells))/\Hid (Below w2.heap.size w2 wr)) (fun _ iv _=>m-(intOf iv).toNat)
 case atStart=>exact⟨0,[],none,0,by omega,rfl,rfl,HR,c3o rfl,c3o (c3r _ _ _ _),c3o (Below.refl _ _)⟩
 case round=>
  obtain⟨i,acc,AO,cO,hi,rfl,rfl,HRI,HAL,HO,HB⟩:=hrel
  by_cases hlt:i<m
  ·have e1:decide (i<m)=true:=decide_eq_true hlt
   obtain⟨tb,to',rfl⟩:=HRW.out.hd (by omega)
   have hpl:i<ps.length:=by rw[<-HM.out];exact hlt
   have hrw:=(HRW.out.keeps a2A (Keeps.of_below HB.out (S:=[])) (a0a _)).cell tb to' rfl i hpl
   have p0:=hrw 0 (by omega)
   have p1:=hrw 1 (by omega)
   have p2:=hrw 2 (by omega)
   have p3:=hrw 3 (by omega)
   have p4:=hrw 4 (by omega)
   have p5:=hrw 5 (by omega)
   have p6:=hrw 6 (by omega)
   have HRS:Hid _:=c3o (HRI.out.trans (a7W hpl acc))
   have HCL:=c3o (HD.out ps[i] (List.getElem_mem _) wr ((Keeps.of_below HB2.out (S:=[])).trans (Keeps.of_below HB.out)))
   have HNX:Hid (∀ w4,Below wr.heap.size wr w4->w4.cell? ⟨tb,to'+i*7+0,none⟩=(pcr ps[i])[0]?):=c3o (fun w4 hb=>(HRW.out.keeps a2A ((Keeps.of_below HB.out (S:=[])).trans (Keeps.of_below hb)) (a0a _)).cell tb to' rfl i hpl 0 (by omega))
   clear hrw HRI HRW
   generalize ps[i]=p at *
   simp only[pcr,c3q,c3p,Nat.add_zero] at p0 p1 p2 p3 p4 p5 p6 HCL HNX
   go_wp2_with fail
   refine HCL.out.mono ?_
   rintro _ w4 ⟨rfl,hb4⟩
   have x0:=HNX.out w4 hb4
   have k4:=Keeps.of_below hb4 (S:=[])
   have HB4:=c3o (HB.out.trans (a0c k4 HB.out.size (by simp)))
   have HO4:=c3o (a0b HO.out k4 (by simp))
   clear p0 p1 p2 p3 p4 p5 p6 k4 hb4 HCL HNX HB HO
   generalize a1B xs p=r at *
   obtain⟨out,er⟩:=r
   dsimp only at HRS ⊢
   by_cases e4:er=0
   ·have b4:(er !=0)=false:=by simpa using e4
    subst e4
    have HRT:Hid (a1K xs=zdatas xs (ps.drop (i+1)) (acc++[(p.x.name,strOfNums out)])):=c3o (by rw[HRS.out,if_pos rfl])
    clear HRS b4
    generalize strOfNums out=so at *
    go_wp2_with (at_builtin;go_loud (refine app_rw b4L a0g a8o rfl (.tmp 36) (.tmp 45) rfl w2.heap.size _ i acc rfl (a0b HO4.out ((Keeps.refl [] w4).alloc _) (by simp)) w4.heap.size (p.x.name,so) rfl (fun j hj=>(a0d w4 34 [.string p.x.name,.string so]).cell j) (by omega) (by have:=HB4.out.size;simp;omega) ?_;intro v5 w5 ho5 hg5;obtain⟨A5,c5,rfl⟩:=a0h ho5;have HO5:=c3o ho5;have HB5:=c3o ((HB4.out.alloc HB4.out.size (.cells #[.string p.x.name,.string so] 34)).grown hg5 (by have:=HB4.out.size;simp;omega) (fun k hk=>a0j HO4.out k hk));clear ho5 hg5))
    go_roundw
    case rel=>exact⟨i+1,acc++[(p.x.name,so)],A5,c5,by omega,by go_num,rfl,HRT,c3o (by rw[List.length_append,HAL.out];rfl),HO5,HB5⟩
    case measure=>simp[intOf];omega
   ·have b4:(er !=0)=true:=by simpa using e4
    have HRT:Hid (a1K xs=([],er)):=c3o (by rw[HRS.out,if_neg e4])
    clear HRS e4
    go_wp2_with fail
    go_ret2
    exact⟨.slice none 0 0,by rw[HRT.out];rfl,by rw[HRT.out];exact c3r _ _ _ _,HB2.out.trans (a0c (Keeps.of_below HB4.out (S:=[])) HB2.out.size (by simp))⟩
  ·have e1:decide (i<m)=false:=c3s hlt
   have him:i=m:=by omega
   have HRT:Hid (a1K xs=(acc,0)):=c3o (by rw[HRI.out,him,HM.out,List.drop_length,zdatas])
   clear HRI him
   go_wp2_with fail
   go_ret2
   refine⟨.slice AO i cO,by rw[HRT.out];rfl,?_,HB2.out.trans (a0c (Keeps.of_below HB.out (S:=[])) HB2.out.size (by simp))⟩
   rw[HRT.out]
   show wr.ownsRow _ _ _ _ acc.length _
   rw[HAL.out]
   exact a3H HO.out HB2.out.size
end Go.Proofs.YtghjlpechjggjaaGreatDoor
