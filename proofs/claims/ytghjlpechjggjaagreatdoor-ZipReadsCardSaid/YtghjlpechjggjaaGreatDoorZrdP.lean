import Derived.Test.YtghjlpechjggjaaGreatDoorZrdA
import Derived.Test.YtghjlpechjggjaaGreatDoorZrdD
import Derived.Test.YtghjlpechjggjaaGreatDoorZrdM
import Derived.Test.YtghjlpechjggjaaGreatDoorZrdL
import Derived.IntWalk
import Derived.Test.YtghjlpechjggjaaGreatDoorZrdN
import Derived.Test.YtghjlpechjggjaaGreatDoorZrdO
import Derived.Test.YtghjlpechjggjaaGreatDoorZrdI
set_option linter.defProp false
set_option linter.unnecessarySimpa false
set_option linter.unusedVariables false
set_option linter.unusedSimpArgs false
set_option linter.constructorNameAsVariable false
set_option maxRecDepth 100000
set_option maxHeartbeats 60000000
namespace Go.Proofs.YtghjlpechjggjaaGreatDoor
open Go.RowKit
private def c3o := @Lib.hid
private def c3p := @List.getElem?_cons_zero
private def c3q := @List.getElem?_cons_succ
private def c3r := @List.length_map
private def c3s := @decide_eq_true
private def c3t := @List.append_assoc
private def c3u := @List.map_append
private def c3v := @decide_eq_false
private def c3w := @Nat.le_trans
open Go.RowKit
theorem ShB.keepsO{S:List Nat}{w w':World}{Bw Bd Bb Bx:Nat}{way:Int}{Ad:Option Addr}{nd cd:Nat}{data:List Int}{Ab:Option Addr}{nb cb:Nat}{name dat:ByteArray}(h:ShB w Bw Bd Bb Bx way Ad nd cd data Ab nb cb name dat)(hk:Keeps S w w')(h1:Bw∉S)(h2:Bd∉S)(h3:Bb∉S)(h4:Bx∉S)(h5:Off S Ad):ShB w' Bw Bd Bb Bx way Ad nd cd data Ab nb cb name dat:=
 ⟨hk.cell (p:=⟨Bw,0,none⟩) h1 h.cw,hk.cell (p:=⟨Bd,0,none⟩) h2 h.cd,hk.cell (p:=⟨Bb,0,none⟩) h3 h.cb,hk.cell (p:=⟨Bx,0,none⟩) h4 h.cx,hk.cell (p:=⟨Bx,1,none⟩) h4 h.cy,h.rd.keeps hk h5⟩
theorem b6c (w:World) (F:Nat) (AP:Option Addr) (np cP:Nat) (P:List Int) (AR:Option Addr) (nr cR:Nat) (R:List Int) (name dat:ByteArray)
  (hF:Blk w F 65 [.slice AP np cP,.slice AR nr cR]) (hP:w.ownsRow (F+1) 5 1 (.slice AP np cP) np (ints .u8 P)) (hR:w.ownsRow (F+1) 5 1 (.slice AR nr cR) nr (ints .u8 R))
  (hn:np<=100000000) (hn2:nr<=100000000) (hnm:name.size<=64) (hdt:dat.size<=8192) (hT:Tabz w) (hFg:gtopz<=F) :
  Calls Tryz.prog 35 #[.pointer (some ⟨F,0,none⟩),.agg #[.string name,.string dat]] w fun e w'=>∃ (ys:List Int) (AP':Option Addr) (np' cP':Nat) (AR':Option Addr) (nr' cR':Nat),e=.returned (.tuple #[])/\Defl (sb dat) ys /\
   Blk w' F 65 [.slice AP' np' cP',.slice AR' nr' cR']/\w'.ownsRow (F+1) 5 1 (.slice AP' np' cP') np' (ints .u8 (P++a8V (zway (sb dat) ys) (a6k (sb dat) ys) (sb dat) name)) /\
   w'.ownsRow (F+1) 5 1 (.slice AR' nr' cR') nr' (ints .u8 (R++zrec (zway (sb dat) ys) (a6k (sb dat) ys) (sb dat) name np))/\Keeps [F] w w':=by
 have HF:=c3o hF
 have HP:=c3o hP
 have HR:=c3o hR
 have HT:=c3o hT
 have hmf:∀ (fn:Fn) (first cap:Array Value) (w:World),(Instr.makeFunc fn first cap).run Tryz.prog w=.ok (.func fn first cap) w:=fun _ _ _ _=>rfl
 have hFl:=hF.lt
 clear hF hP hR hT
 obtain⟨h0,hh0⟩:∃ z,z=w.heap.size:=⟨_,rfl⟩
 obtain⟨w1,hw1⟩:∃ z,z=w.alloc (.cells #[.string name,.string dat] 34):=⟨_,rfl⟩
 have hX1:Blk w1 h0 34 [.string name,.string dat]:=by rw[hw1,hh0];exact a0d w _ _
 obtain⟨cc,w2,hcv,hr2,hk2,hs2⟩:=b4V w1 dat
 have hs1:w1.heap.size=h0+1:=by rw[hw1,hh0];simp
 rw[hs1] at hcv hr2 hs2
 have hx1:=hX1.cell 1
 simp only[c3q,c3p] at hx1
 rw[hh0] at hx1
 have hx1':(w.alloc (.cells #[.string name,.string dat] 34)).cell? ⟨w.heap.size,1,none⟩=some (.string dat):=by rw[<-hw1];exact hx1
 have hcv':(convert 9 26 (.string dat)).run Tryz.prog (w.alloc (.cells #[.string name,.string dat] 34))=.ok (.slice (some ⟨h0+1,0,none⟩) dat.size cc) w2:=by rw[<-hw1];exact hcv
 go_enter Tryz.func35,Tryz.ntmps35
 go_upto_region 2 with (fail)
 rw[<-hh0]
 obtain⟨w3,hw3⟩:∃ z,z=w2.alloc (.cells #[.slice (some ⟨h0+1,0,none⟩) dat.size cc] 26):=⟨_,rfl⟩
 have h4:Blk w3 (h0+2) 26 [.slice (some ⟨h0+1,0,none⟩) dat.size cc]:=by
  have:=a0d w2 26 [.slice (some ⟨h0+1,0,none⟩) dat.size cc]
  rw[hs2] at this
  rw[hw3];exact this
 have hs3:w3.heap.size=h0+3:=by rw[hw3];simp;omega
 have hk3:Keeps [] w1 w3:=by rw[hw3];exact hk2.alloc _
 have hkw:Keeps [] w w3:=((show Keeps [] w w1 by rw[hw1];exact (Keeps.refl [] w).alloc _)).trans hk3
 have hx3:=hX1.keeps hk3 (by simp)
 have hr3:RI .u8 w3 (some ⟨h0+1,0,none⟩) dat.size (sb dat):=by rw[hw3];exact hr2.keeps ((Keeps.refl [] w2).alloc _) (a0a _)
 have c4:=h4.cell 0
 simp only[c3p] at c4
 rw[<-hw3]
 obtain⟨D,hD⟩:∃ z,z=h0+1:=⟨_,rfl⟩
 obtain⟨B4,hB4⟩:∃ z,z=D+1:=⟨_,rfl⟩
 have hB4':h0+2=B4:=by omega
 rw[hB4'] at h4 c4
 rw[<-hD] at h4 c4 hr3 ⊢
 rw[<-hB4]
 have HDD:=c3o hD
 have HB4:=c3o hB4
 have H4:=c3o h4
 have HS3:=c3o hs3
 have HX3:=c3o hx3
 have HR3:=c3o hr3
 have HKW:=c3o hkw
 have HH0:=c3o hh0
 clear hw3 hcv hr2 hk2 hs2 hs1 hx1 hx1' hcv' hw1 hX1 h4 hs3 hk3 hkw hx3 hr3 hh0 hD hB4 hB4'
 go_cut [5,6] (fun v5 v6 wc=>∃ (Bw Bb:Nat),v5=.pointer (some ⟨Bw,0,none⟩)/\v6=.pointer (some ⟨Bb,0,none⟩)/\Bw≠Bb/\h0+3<=Bw/\h0+3<=Bb/\Hid (Blk wc Bw 3 [.int .i64 0])/\Hid (Blk wc Bb 26 [.slice (some ⟨D,0,none⟩) dat.size cc])/\Hid (Keeps [] w3 wc))
 case first=>
  have a1:∀ o,(w3.alloc o).cell? ⟨B4,0,none⟩=some (.slice (some ⟨D,0,none⟩) dat.size cc):=fun o=>((Keeps.refl [] w3).alloc o).cell (p:=⟨B4,0,none⟩) (by simp) c4
  have a2:∀ o o',((w3.alloc o).alloc o').cell? ⟨B4,0,none⟩=some (.slice (some ⟨D,0,none⟩) dat.size cc):=fun o o'=>(((Keeps.refl [] w3).alloc o).alloc o').cell (p:=⟨B4,0,none⟩) (by simp) c4
  go_region
  ·go_wp2_with fail
   go_meet
   have hz:=HS3.out
   refine⟨w3.heap.size,w3.heap.size+1,rfl,rfl,by omega,by omega,by omega,c3o ?_,c3o ?_,c3o ?_⟩
   ·exact (a0d w3 3 [.int .i64 0]).keeps (S:=[]) (((Keeps.refl [] _).alloc _).drew) (by simp)
   ·have:=(a0d (w3.alloc (.cells #[.int .i64 0] 3)) 26 [.slice (some ⟨D,0,none⟩) dat.size cc]).keeps (S:=[]) ((Keeps.refl [] _).drew) (by simp)
    rw[World.size_alloc] at this
    exact this
   ·exact (((Keeps.refl [] w3).alloc _).alloc _).drew
  ·go_wp2_with fail
   go_meet
   have hz:=HS3.out
   refine⟨w3.heap.size+1,w3.heap.size,rfl,rfl,by omega,by omega,by omega,c3o ?_,c3o ?_,c3o ?_⟩
   ·have:=(a0d (w3.alloc (.cells #[.slice (some ⟨D,0,none⟩) dat.size cc] 26)) 3 [.int .i64 0]).keeps (S:=[]) ((Keeps.refl [] _).drew) (by simp)
    rw[World.size_alloc] at this
    exact this
   ·exact (a0d w3 26 [.slice (some ⟨D,0,none⟩) dat.size cc]).keeps (S:=[]) (((Keeps.refl [] _).alloc _).drew) (by simp)
   ·exact (((Keeps.refl [] w3).alloc _).alloc _).drew
 case rest=>
  obtain⟨Bw,Bb,rfl,rfl,hwb,hBw,hBb,HBw,HBb,HK4⟩:=hcut
  have D4:=c3o (H4.out.keeps HK4.out (by simp))
  have X4:=c3o (HX3.out.keeps HK4.out (by simp))
  have R4:=c3o (HR3.out.keeps HK4.out (a0a _))
  have K4:=c3o (HKW.out.trans HK4.out)
  have c4:=D4.out.cell 0
  simp only[c3p] at c4
  have hD0:D<wc.heap.size:=by have h1:=HDD.out;have h2:=HS3.out;have h3:=HK4.out.size;omega
  have HBw0:=c3o HBw.out.lt
  have HBb0:=c3o HBb.out.lt
  clear H4 HX3 HR3 HKW
  go_wp2_with fail
  refine (a9h wc (some ⟨D,0,none⟩) dat.size cc (sb dat) (HT.out.keeps K4.out (by simp)).lens R4.out (by simp) (fun a h=>by injection h with h;subst h;exact hD0) (fun j=>c0L (a9S dat) j)).mono ?_
  rintro e w5 (⟨q1,rfl,-⟩|⟨q1,g2,m2,c2,ys,rfl,hr5,hg5,hd5,hb5,-⟩)
  ·exact absurd q1 (by omega)
  have hk5:=Keeps.of_below hb5 (S:=[])
  have K5:=c3o (K4.out.trans hk5)
  have D5:=c3o (D4.out.keeps hk5 (by simp))
  have X5:=c3o (X4.out.keeps hk5 (by simp))
  have R5:=c3o (R4.out.keeps hk5 (a0a _))
  have W5:=c3o (HBw.out.keeps hk5 (by simp))
  have B5:=c3o (HBb.out.keeps hk5 (by simp))
  have Y5:=c3o hr5
  have HDY:=c3o hd5
  have HYL:Hid (ys.length=m2):=c3o hr5.len
  have hml:m2<=8200:=by have h1:=hd5.len.1;have h2:=hr5.len;have:=a2m dat;omega
  have c5:=D5.out.cell 0
  simp only[c3p] at c5
  clear c4 hk5 hr5 hd5 hb5 D4 X4 R4 HBw HBb K4 HK4
  have w0:=W5.out.cell 0
  have b0:=B5.out.cell 0
  simp only[c3p] at w0 b0
  have wf:=W5.out.frozen 0
  have bf:=B5.out.frozen 0
  have hsbl:=a2m dat
  obtain⟨way,hway⟩:∃ z,z=zway (sb dat) ys:=⟨_,rfl⟩
  obtain⟨body,hbody⟩:∃ z,z=a6k (sb dat) ys:=⟨_,rfl⟩
  have hg5':wc.heap.size<=g2:=hg5
  obtain⟨p,hp⟩:∃ p,decide (m2<dat.size)=p:=⟨_,rfl⟩
  have hp':decide ((m2:Int)<(dat.size:Int))=p:=by rw[<-hp];exact decide_eq_decide.2 (by omega)
  go_upto_if 29 with (fail)
  go_cut [30] (fun v30 wd=>∃ (bb:Nat) (nb cb:Nat),Hid (Blk wd Bw 3 [.int .i64 way])/\Hid (Blk wd Bb 26 [.slice (some ⟨bb,0,none⟩) nb cb])/\Hid (RI .u8 wd (some ⟨bb,0,none⟩) nb body)/\nb<=8200/\Hid (Keeps [Bw,Bb] w5 wd)/\bb≠Bw/\bb≠Bb)
  case first=>
   have hDb:D≠Bw/\D≠Bb:=by have:=HDD.out;omega
   have hgb:g2≠Bw/\g2≠Bb:=by have h1:=HBw0.out;have h2:=HBb0.out;omega
   cases p with
   | true=>
    have hlt:m2<dat.size:=of_decide_eq_true hp
    have e1:way=8:=by rw[hway];unfold zway;rw[if_pos (by rw[HYL.out,hsbl];exact hlt)]
    have e2:body=ys:=by rw[hbody];unfold a6k;rw[if_pos (by rw[HYL.out,hsbl];exact hlt)]
    have E1:=c3o e1
    have E2:=c3o e2
    clear hway hbody hsbl e1 e2 hlt hp hp'
    go_wp2_with fail
    go_meet
    have ks:Keeps [Bw,Bb] w5 ((w5.setCell ⟨Bw,0,none⟩ (.int .i64 8)).setCell ⟨Bb,0,none⟩ (.slice (some ⟨g2,0,none⟩) m2 c2)):=((Keeps.refl [Bw,Bb] w5).setCell (p:=⟨Bw,0,none⟩) (.inl (by simp)) _).setCell (p:=⟨Bb,0,none⟩) (.inl (by simp)) _
    refine⟨g2,m2,c2,c3o ?_,c3o ?_,c3o ?_,by omega,c3o ks,hgb.1,hgb.2⟩
    ·rw[E1.out];exact (W5.out.set 0 _).keeps ((Keeps.refl [Bb] _).setCell (p:=⟨Bb,0,none⟩) (.inl (by simp)) _) (by simpa using hwb)
    ·exact (B5.out.keeps ((Keeps.refl [Bw] _).setCell (p:=⟨Bw,0,none⟩) (.inl (by simp)) _) (by simpa using Ne.symm hwb)).set 0 _
    ·rw[E2.out];exact Y5.out.keeps ks (fun a ha hm=>by injection ha with ha;subst ha;simp at hm;omega)
   | false=>
    have hlt:¬m2<dat.size:=of_decide_eq_false hp
    have e1:way=0:=by rw[hway];unfold zway;rw[if_neg (by rw[HYL.out,hsbl];exact hlt)]
    have e2:body=sb dat:=by rw[hbody];unfold a6k;rw[if_neg (by rw[HYL.out,hsbl];exact hlt)]
    have E1:=c3o e1
    have E2:=c3o e2
    clear hway hbody hsbl e1 e2 hlt hp hp'
    go_wp2_with fail
    go_meet
    exact⟨D,dat.size,cc,c3o (by rw[E1.out];exact W5.out),B5,c3o (by rw[E2.out];exact R5.out),by omega,c3o (Keeps.refl _ _),hDb.1,hDb.2⟩
  case rest=>
   obtain⟨bb,nb,cb,HW6,HB6,HBD6,hnb,HK6,hb1,hb2⟩:=hcut
   obtain⟨w6,hw6⟩:∃ z:World,z=wc:=⟨_,rfl⟩
   rw[<-hw6] at HW6 HB6 HBD6 HK6 ⊢
   clear hw6
   have HWAY:=c3o hway
   have HBODY:=c3o hbody
   have hh:=HH0.out
   have K6:Hid (Keeps [] w w6):=c3o (K5.out.then HK6.out (fun x hx=>.inr (by simp at hx;omega)))
   have SH6:Hid (ShB w6 Bw B4 Bb h0 way (some ⟨D,0,none⟩) dat.size cc (sb dat) (some ⟨bb,0,none⟩) nb cb name dat):=c3o (by
    have hB:=HB4.out
    have hDD:=HDD.out
    have e1:=HW6.out.cell 0
    have e2:=(D5.out.keeps HK6.out (by simp;omega)).cell 0
    have e3:=HB6.out.cell 0
    have hx:=X5.out.keeps HK6.out (by simp;omega)
    have e4:=hx.cell 0
    have e5:=hx.cell 1
    simp only[c3p,c3q] at e1 e2 e3 e4 e5
    exact⟨e1,e2,e3,e4,e5,R5.out.keeps HK6.out (fun a ha hm=>by injection ha with ha;subst ha;simp at hm;omega)⟩)
   have F6:=c3o (HF.out.keeps K6.out (by simp))
   have P6:=c3o (a0b HP.out K6.out (by simp))
   have R6:=c3o (a0b HR.out K6.out (by simp))
   have T6:=c3o (HT.out.keeps K6.out (by simp))
   have hnl:nb=body.length:=HBD6.out.len.symm
   have HNL:=c3o hnl
   have f0:=F6.out.cell 0
   simp only[c3p] at f0
   clear c5 w0 b0 wf bf hway hbody hsbl hg5 hg5' D5 X5 R5 W5 B5 Y5 HK6 HW6 K5 hp hp' hnl hh
   have f1:=F6.out.cell 1
   simp only[c3q,c3p] at f1
   have fz:=F6.out.frozen 0
   obtain⟨P',hP'⟩:∃ z,z=P++a8V way body (sb dat) name:=⟨_,rfl⟩
   have HPP:=c3o hP'
   clear hP'
   go_upto_region 8 with (fail)
   have x0:=SH6.out.cx
   have b0:=SH6.out.cb
   have hFs:F<w6.heap.size:=F6.out.lt
   go_cut [50] (fun v50 wd=>∃ (AP':Option Addr) (np' cP':Nat),Hid (Blk wd F 65 [.slice AP' np' cP',.slice AR nr cR])/\Hid (wd.ownsRow (F+1) 5 1 (.slice AP' np' cP') np' (ints .u8 P'))/\Hid (Keeps [F] w6 wd))
   case first=>
    have hPr:RI .u8 w6 AP np P:=by
     obtain⟨A',c',hv,hr⟩:=a0Q P6.out
     injection hv with q1 q2 q3
     subst q1
     exact hr
    have HPR:=c3o hPr
    clear hPr
    have FOUR:Hid (∀ w',Keeps [] (w6.alloc (.cells #[.int .i64 67324752] 3)) w'->Calls Tryz.prog 37 #[.slice AP np cP,.slice (some ⟨w6.heap.size,0,none⟩) 1 1] w' fun e w2=>∃ (A7:Option Addr) (c7:Nat),e=.returned (.slice A7 (np+4) c7)/\RI .u8 w2 A7 (np+4) (P++zlesB 4 [67324752])/\Keeps [] w6 w2):=c3o (fun w' hk=>by
     have hka:Keeps [] w6 w':=((Keeps.refl [] w6).alloc _).trans hk
     refine (a5w w' AP np cP P (HPR.out.keeps hka (a0a _)) (by omega) (some ⟨w6.heap.size,0,none⟩) 1 1 [67324752] ((a6q w6 [67324752]).keeps hk (a0a _)) (by omega) (by omega)).mono ?_
     rintro _ w7 ⟨v7,rfl,ho7,hb7⟩
     obtain⟨A7,c7,rfl,hr7⟩:=a0Q ho7
     exact⟨A7,c7,rfl,hr7,hka.trans (Keeps.of_below hb7)⟩)
    have SHR:Hid (∀ (w7:World) (A7:Option Addr) (c7:Nat),RI .u8 w7 A7 (np+4) (P++zlesB 4 [67324752])->Keeps [] w6 w7->Calls Tryz.prog 55 #[.slice A7 (np+4) c7,.pointer (some ⟨Bw,0,none⟩),.pointer (some ⟨B4,0,none⟩),.pointer (some ⟨Bb,0,none⟩),.pointer (some ⟨h0,0,none⟩)] w7 fun e w8=>∃ (A8:Option Addr) (c8:Nat),e=.returned (.slice A8 (np+30) c8) /\
      w8.ownsRow w6.heap.size 5 1 (.slice A8 (np+30) c8) (np+30) (ints .u8 (P++c0u way body (sb dat) name))/\Keeps [] w6 w8):=c3o (fun w7 A7 c7 hr7 hk7=>by
     refine (a6d w7 A7 (np+4) c7 _ hr7 (by omega) Bw B4 Bb h0 way (some ⟨D,0,none⟩) dat.size cc (sb dat) (some ⟨bb,0,none⟩) nb cb name dat (SH6.out.keeps hk7) (a9S dat) (by omega) (T6.out.keeps hk7 (by simp))).mono ?_
     rintro _ w8 ⟨v8,rfl,ho8,hb8⟩
     rw[c3t,HNL.out,show np+4+26=np+30 by omega,<-a2m dat] at ho8
     obtain⟨A8,c8,rfl⟩:=a0h ho8
     exact⟨A8,c8,rfl,a1b ho8 hk7.size,hk7.trans (Keeps.of_below hb8)⟩)
    have a2:∀ o,(w6.alloc o).cell? ⟨h0,0,none⟩=some (.string name):=fun o=>((Keeps.refl [] w6).alloc o).cell (p:=⟨h0,0,none⟩) (by simp) x0
    have a3:∀ o,(w6.alloc o).cell? ⟨Bb,0,none⟩=some (.slice (some ⟨bb,0,none⟩) nb cb):=fun o=>((Keeps.refl [] w6).alloc o).cell (p:=⟨Bb,0,none⟩) (by simp) b0
    have a1:∀ o,(w6.alloc o).cell? ⟨F,0,none⟩=some (.slice AP np cP):=fun o=>((Keeps.refl [] w6).alloc o).cell (p:=⟨F,0,none⟩) (by simp) f0
    have nF:h0≠F/\Bb≠F:=by have h1:=HH0.out;omega
    obtain⟨nF1,nF2⟩:=nF
    have NF1:=nF1.symm
    have NF2:=nF2.symm
    go_region_law (first
      | (refine b1w rfl (.tmp 45) (.tmp 47) rfl w6.heap.size _ (np+30) _ rfl ho8 name rfl (by omega) hk8.size ?_;intro v9 w9 ho9 hg9;obtain⟨A9,c9,rfl⟩:=a0h ho9;have hk9:=hk8.grown hg9 (fun k hk=>.inr (a0j ho8 k hk));have q4:=hk9.cell (p:=⟨h0,0,none⟩) (by simp) x0;have q5:=hk9.cell (p:=⟨Bb,0,none⟩) (by simp) b0;have q6:=hk9.cell (p:=⟨F,0,none⟩) (by simp) f0)
      | (refine b8a rfl (.tmp 48) (.tmp 49) rfl w6.heap.size _ (np+30+name.size) _ rfl ho9 ⟨bb,0,none⟩ nb cb body rfl (HBD6.out.keeps hk9 (a0a _)) (by omega) hk9.size ?_;intro v10 w10 ho10 hg10;obtain⟨A10,c10,rfl⟩:=a0h ho10;have hk10:=hk9.grown hg10 (fun k hk=>.inr (a0j ho9 k hk));have q7:=hk10.cell (p:=⟨h0,0,none⟩) (by simp) x0;have q8:=hk10.cell (p:=⟨Bb,0,none⟩) (by simp) b0;have q9:=hk10.cell (p:=⟨F,0,none⟩) (by simp) f0;have z10:=(hk10.frozen (p:=⟨F,0,none⟩) hFs (by simp)).trans fz)
      | (refine a7N (f:=55) (args:=#[.slice A7 (np+4) c7,.pointer (some ⟨Bw,0,none⟩),.pointer (some ⟨B4,0,none⟩),.pointer (some ⟨Bb,0,none⟩),.pointer (some ⟨h0,0,none⟩)]) rfl (by first|kernel_rfl|(simp[go_sem];done)|go_simp) ?_;(refine (SHR.out w7 A7 c7 hr7 hk7).mono ?_;rintro _ w8 ⟨A8,c8,rfl,ho8,hk8⟩;refine⟨_,rfl,?_⟩;have q1':=hk8.cell (p:=⟨h0,0,none⟩) (by simp) x0;have q2':=hk8.cell (p:=⟨Bb,0,none⟩) (by simp) b0;have q3':=hk8.cell (p:=⟨F,0,none⟩) (by simp) f0))
      | (refine a7N (f:=37) (args:=#[.slice AP np cP,.slice (some ⟨w6.heap.size,0,none⟩) 1 1]) rfl (by first|kernel_rfl|(simp[go_sem];done)|go_simp) ?_;refine (FOUR.out _ (by repeat (first|exact Keeps.refl _ _|apply Keeps.drewN|apply Keeps.drew))).mono ?_;rintro _ w7 ⟨A7,c7,rfl,hr7,hk7⟩;refine⟨_,rfl,?_⟩;have q1:=hk7.cell (p:=⟨h0,0,none⟩) (by simp) x0;have q2:=hk7.cell (p:=⟨Bb,0,none⟩) (by simp) b0;have q3:=hk7.cell (p:=⟨F,0,none⟩) (by simp) f0))
    all_goals (
     go_wp2_with fail
     go_meet
     have kF:Keeps [F] w10 (w10.setCell ⟨F,0,none⟩ (.slice A10 (np+30+name.size+nb) c10)):=(Keeps.refl [F] w10).setCell (p:=⟨F,0,none⟩) (.inl (by simp)) _
     refine⟨A10,np+30+name.size+nb,c10,c3o ((F6.out.keeps hk10 (by simp)).set 0 _),c3o ?_,c3o ((hk10.mono (by simp)).trans kF)⟩
     have e1:P++c0u way body (sb dat) name++sb name++body=P':=by rw[HPP.out];unfold a8V;simp only[c3t]
     rw[<-e1]
     exact a0b (a1b ho10 (by omega)) kF (fun g hg hm=>by have:=a0j ho10 g hg;simp at hm;omega))
   case rest=>
    obtain⟨AP',np',cP',HF7,HP7,HK7⟩:=hcut
    obtain⟨w7,hw7⟩:∃ z:World,z=wc:=⟨_,rfl⟩
    rw[<-hw7] at HF7 HP7 HK7 ⊢
    have hFh:F<h0:=by have:=HH0.out;omega
    have hD7:=HDD.out
    have hB7:=HB4.out
    clear hw7 x0 b0 f0 f1 fz
    have SH7:Hid (ShB w7 Bw B4 Bb h0 way (some ⟨D,0,none⟩) dat.size cc (sb dat) (some ⟨bb,0,none⟩) nb cb name dat):=c3o (SH6.out.keepsO HK7.out (by simp;omega) (by simp;omega) (by simp;omega) (by simp;omega) (fun a ha hm=>by injection ha with ha;subst ha;simp at hm;omega))
    have R7:Hid (RI .u8 w7 AR nr R):=by
     obtain⟨A',c',hv,hr⟩:=a0Q (a0b R6.out HK7.out (fun g hg hm=>by have:=a0j R6.out g hg;simp at hm;omega))
     injection hv with q1 q2 q3
     subst q1
     exact c3o hr
    have T7:=c3o (T6.out.keeps HK7.out (fun x hx=>by simp at hx;omega))
    have f1:=HF7.out.cell 1
    simp only[c3q,c3p] at f1
    clear hD7 hB7
    go_wp2_with fail
    refine (a6m w7 AR nr cR R R7.out (by omega) [33639248] (by simp) (by simp)).mono ?_
    rintro _ w8 ⟨v8,rfl,ho8,hb8⟩
    obtain⟨A8,c8,rfl,hr8⟩:=a0Q ho8
    have HR8:=c3o hr8
    have HK8:=c3o (Keeps.of_below hb8 (S:=[]))
    clear ho8 hb8 hr8
    rw[show nr+[(33639248:Int)].length*4=nr+4 from rfl] at HR8 ⊢
    go_wp2_with fail
    refine (a5N w8 A8 (nr+4) c8 _ HR8.out (by omega) [20] (by simp) (by simp)).mono ?_
    rintro _ w9 ⟨v9,rfl,ho9,hb9⟩
    obtain⟨A9,c9,rfl,hr9⟩:=a0Q ho9
    have HR9:=c3o hr9
    have HK9:=c3o (HK8.out.trans (Keeps.of_below hb9 (S:=[])))
    clear ho9 hb9 hr9
    rw[show nr+4+[(20:Int)].length*2=nr+6 from rfl] at HR9 ⊢
    go_wp2_with fail
    refine (a6d w9 A9 (nr+6) c9 _ HR9.out (by omega) Bw B4 Bb h0 way (some ⟨D,0,none⟩) dat.size cc (sb dat) (some ⟨bb,0,none⟩) nb cb name dat (SH7.out.keeps HK9.out) (a9S dat) (by omega) (T7.out.keeps HK9.out (by simp))).mono ?_
    rintro _ w10 ⟨v10,rfl,ho10,hb10⟩
    obtain⟨A10,c10,rfl,hr10⟩:=a0Q ho10
    have HR10:=c3o hr10
    have HK10:=c3o (HK9.out.trans (Keeps.of_below hb10 (S:=[])))
    clear ho10 hb10 hr10
    rw[show nr+6+26=nr+32 from rfl] at HR10 ⊢
    go_wp2_with fail
    refine (a5N w10 A10 (nr+32) c10 _ HR10.out (by omega) [0,0,0] (by simp) (by simp)).mono ?_
    rintro _ w11 ⟨v11,rfl,ho11,hb11⟩
    obtain⟨A11,c11,rfl,hr11⟩:=a0Q ho11
    have HR11:=c3o hr11
    have HK11:=c3o (HK10.out.trans (Keeps.of_below hb11 (S:=[])))
    clear ho11 hb11 hr11
    rw[show nr+32+[(0:Int),0,0].length*2=nr+38 from rfl] at HR11 ⊢
    go_upto_region 10 with (fail)
    have x0:=HK11.out.cell (p:=⟨h0,0,none⟩) (by simp) SH7.out.cx
    have F11:=c3o (HF7.out.keeps HK11.out (by simp))
    have f1:=F11.out.cell 1
    simp only[c3q,c3p] at f1
    have fz:=F11.out.frozen 1
    have hFs:F<w11.heap.size:=F11.out.lt
    have FOUR2:Hid (∀ w',Keeps [] (w11.alloc (.cells #[.int .i64 0,.int .i64 np] 3)) w'->Calls Tryz.prog 37 #[.slice A11 (nr+38) c11,.slice (some ⟨w11.heap.size,0,none⟩) 2 2] w' fun e w2=>∃ (A12:Option Addr) (c12:Nat),e=.returned (.slice A12 (nr+46) c12)/\w2.ownsRow w11.heap.size 5 1 (.slice A12 (nr+46) c12) (nr+46) (ints .u8 (R++zlesB 4 [33639248]++zlesB 2 [20]++sharedB way ((crcF (sb dat):Nat):Int) nb dat.size name.size++zlesB 2 [0,0,0]++zlesB 4 [0,(np:Int)]))/\Keeps [] w11 w2):=c3o (fun w' hk=>by
     have hka:Keeps [] w11 w':=((Keeps.refl [] w11).alloc _).trans hk
     refine (a5w w' A11 (nr+38) c11 _ (HR11.out.keeps hka (a0a _)) (by omega) (some ⟨w11.heap.size,0,none⟩) 2 2 [0,(np:Int)] ((a6q w11 [0,(np:Int)]).keeps hk (a0a _)) (by omega) (by omega)).mono ?_
     rintro _ w12 ⟨v12,rfl,ho12,hb12⟩
     rw[show nr+38+2*4=nr+46 from rfl] at ho12
     obtain⟨A12,c12,rfl⟩:=a0h ho12
     exact⟨A12,c12,rfl,a1b ho12 hka.size,hka.trans (Keeps.of_below hb12)⟩)
    have nF1:h0≠F:=by omega
    have NF1:=nF1.symm
    go_region_held3 (fun w'=>w'.cell? ⟨h0,0,none⟩=some (.string name))
     (first|go_keep|assumption|(exact (World.cell?_of_block (Below.heap_setCell _ _ _ _ nF1)).trans (by assumption)))
     (first
      | (go_at_call 37;refine (FOUR2.out _ (by repeat (first|exact Keeps.refl _ _|apply Keeps.drewN|apply Keeps.drew))).mono ?_;rintro _ w12 ⟨A12,c12,rfl,ho12,hk12⟩;have q1:=hk12.cell (p:=⟨h0,0,none⟩) (by simp) x0)
      | (refine b1w rfl (.tmp 69) (.tmp 71) rfl w11.heap.size _ (nr+46) _ rfl ho12 name rfl (by omega) hk12.size ?_;intro v13 w13 ho13 hg13;obtain⟨A13,c13,rfl⟩:=a0h ho13;have hk13:=hk12.grown hg13 (fun k hk=>.inr (a0j ho12 k hk));have q4:=hk13.cell (p:=⟨h0,0,none⟩) (by simp) x0;have q5:=hk13.cell (p:=⟨F,1,none⟩) (by simp) f1;have z13:=(hk13.frozen (p:=⟨F,1,none⟩) hFs (by simp)).trans fz))
    all_goals (
     go_wp2_with fail
     go_end0
     have kF:Keeps [F] w13 (w13.setCell ⟨F,1,none⟩ (.slice A13 (nr+46+name.size) c13)):=(Keeps.refl [F] w13).setCell (p:=⟨F,1,none⟩) (.inl (by simp)) _
     have k7:Keeps [F] w7 (w13.setCell ⟨F,1,none⟩ (.slice A13 (nr+46+name.size) c13)):=((HK11.out.trans hk13).mono (by simp)).trans kF
     have hw:w.heap.size<=w11.heap.size:=c3w K6.out.size (c3w HK7.out.size HK11.out.size)
     refine⟨ys,AP',np',cP',A13,nr+46+name.size,c13,rfl,HDY.out,(F11.out.keeps hk13 (by simp)).set 1 _,?_,?_,((K6.out.mono (by simp)).trans HK7.out).trans k7⟩
     ·rw[<-HWAY.out,<-HBODY.out,<-HPP.out]
      exact a0b HP7.out k7 (fun g hg hm=>by have:=a0j HP7.out g hg;simp at hm;omega)
     ·have e1:R++zlesB 4 [33639248]++zlesB 2 [20]++sharedB way ((crcF (sb dat):Nat):Int) nb dat.size name.size++zlesB 2 [0,0,0]++zlesB 4 [0,(np:Int)]++sb name=R++zrec (zway (sb dat) ys) (a6k (sb dat) ys) (sb dat) name np:=by
       rw[<-HWAY.out,<-HBODY.out,HNL.out,<-a2m dat];unfold zrec;simp only[c3t]
      rw[<-e1]
      exact a0b (a1b ho13 (by omega)) kF (fun g hg hm=>by have:=a0j ho13 g hg;simp at hm;omega))
end Go.Proofs.YtghjlpechjggjaaGreatDoor
namespace Go.Proofs.YtghjlpechjggjaaGreatDoor
open Go.RowKit Go.Maps
theorem a6i(w:World)(A:Option Addr)(n c:Nat)(l:List EN)(h:RW 2 ecells w A n l)(hn:n<=100000000)(hs:∀ e∈l,e.1.size<=1000000000/\e.2.size<=1000000000)(hT:Tabz w) :
  Calls Tryz.prog 13 #[.slice A n c] w fun e w'=>∃ v,e=.returned (.tuple #[v,.int .i64 (a1k l)])/\(a1k l≠0->v=.slice none 0 0) /\
   (a1k l=0->∃ xs,FileOf l xs/\w'.ownsRow w.heap.size 5 1 v xs.length (ints .u8 xs))/\Below w.heap.size w w':=by
 have H:=c3o h
 have HL:=c3o h.len
 have HS:=c3o hs
 have HT:=c3o hT
 have hmm:=@run_makeMap Tryz.prog
 clear h hs hT
 by_cases h64:64<n
 ·have y1:decide ((64:Int)<(n:Int))=true:=by simp;omega
  have y1':decide (64<n)=true:=by simpa using h64
  have HZ:Hid (a1k l=86):=c3o (by unfold a1k;rw[if_pos (by rw[HL.out];exact h64)])
  clear h64
  go_enter Tryz.func13,Tryz.ntmps13
  go_wp2_with fail
  go_ret2
  refine⟨.slice none 0 0,by rw[HZ.out];rfl,fun _=>rfl,fun h=>absurd (HZ.out.symm.trans h) (by decide),Below.refl _ _⟩
 have y1:decide ((64:Int)<(n:Int))=false:=by simp;omega
 have y1':decide (64<n)=false:=by simpa using h64
 have HZ0:Hid (a1k l=zchk l []):=c3o (by unfold a1k;rw[if_neg (by rw[HL.out];exact h64)])
 go_enter Tryz.func13,Tryz.ntmps13
 clear h64
 go_wp2_with fail
 go_loopw [19] (fun iv wr=>∃ p:Nat,p<=n/\iv=.int .i64 p/\Hid (SetM wr w.heap.size ((l.take p).map fun e=>e.1))/\Hid (a1k l=zchk (l.drop p) ((l.take p).map fun e=>e.1))/\Hid (Below w.heap.size w wr)) (fun iv _=>n-(intOf iv).toNat)
 case atStart=>exact⟨0,by omega,rfl,c3o (b4v w),c3o (by rw[HZ0.out];rfl),c3o ((Below.refl _ _).alloc (Nat.le_refl _) _)⟩
 case round=>
  obtain⟨p,hp,rfl,HM,HC,HB⟩:=hrel
  by_cases hlt:p<n
  ·have e5:decide (p<n)=true:=by simpa using hlt
   obtain⟨tb,to',rfl⟩:=H.out.hd (by omega)
   have hpl:p<l.length:=by rw[HL.out];exact hlt
   have hrw:=(H.out.keeps a0g (Keeps.of_below HB.out (S:=[])) (a0a _)).cell tb to' rfl p hpl
   have p0:=hrw 0 (by omega)
   have p1:=hrw 1 (by omega)
   have HD:Hid (l.drop p=l[p]::l.drop (p+1)):=c3o (List.drop_eq_getElem_cons hpl)
   have HTK:Hid ((l.take (p+1)).map (fun e:EN=>e.1)=(l.take p).map (fun e=>e.1)++[l[p].1]):=c3o (by rw[List.take_succ_eq_append_getElem hpl,c3u];rfl)
   obtain⟨hs1,hs2⟩:=HS.out l[p] (List.getElem_mem _)
   generalize l[p]=t at *
   obtain⟨name,dat⟩:=t
   simp only[ecells,c3p,c3q,Nat.add_zero] at p0 p1
   dsimp only at hs1 hs2
   obtain⟨kn,hkn⟩:∃ z,z=(l.take p).map (fun e:EN=>e.1):=⟨_,rfl⟩
   rw[<-hkn] at HM HC HTK
   have HKN:=c3o hkn
   have hkl:kn.length=p:=by rw[hkn,c3r,List.length_take,HL.out];omega
   have HKL:=c3o hkl
   clear hkn hkl hrw hpl
   have hkey:=c0H hs1
   have hhas:=b7V kn name
   have HCE:Hid (a1k l=if inL kn name=true∨nameB name=false then 80 else if 8192<dat.size then 87 else zchk (l.drop (p+1)) (kn++[name])):=c3o (by rw[HC.out,HD.out];rfl)
   have hwr:=HB.out.size
   have hBlt:=HM.out.lt
   by_cases hin:inL kn name=true
   ·have HZ:Hid (a1k l=80):=c3o (by rw[HCE.out,if_pos (.inl hin)])
    rw[hin] at hhas
    clear hin
    go_wp2_with (first
     | (at_lookup;refine wpList_lookup_own_unit _ rfl _ _ 61 rfl 9 62 a5B Tryz.underlying61 (b0e _) w.heap.size kn.length _ rfl (HM.out.keeps ((Keeps.refl [] wr).alloc _) (by simp)) _ _ rfl hkey ?_))
    go_ret2
    refine⟨.slice none 0 0,by rw[HZ.out];rfl,fun _=>rfl,fun h=>absurd (HZ.out.symm.trans h) (by decide),(HB.out.alloc hwr _).alloc (by simp;omega) _⟩
   ·have hin':inL kn name=false:=by simpa using hin
    rw[hin'] at hhas
    clear hin
    go_wp2_with (first
     | (at_lookup;refine wpList_lookup_own_unit _ rfl _ _ 61 rfl 9 62 a5B Tryz.underlying61 (b0e _) w.heap.size kn.length _ rfl (HM.out.keeps ((Keeps.refl [] wr).alloc _) (by simp)) _ _ rfl hkey ?_))
    refine (a3W _ name hs1).mono ?_
    rintro _ w2 ⟨rfl,hb2⟩
    have ka:Keeps [] wr w2:=(((Keeps.refl [] wr).alloc _).alloc _).trans (Keeps.of_below hb2)
    have X2:=(a0d wr 34 [.string name,.string dat]).keeps (((Keeps.refl [] _).alloc (.cells #[] 62)).trans (Keeps.of_below hb2)) (by simp)
    have x0:=X2.cell 0
    have x1:=X2.cell 1
    simp only[c3p,c3q] at x0 x1
    have HM2:=c3o (HM.out.keeps ka (by simp))
    have HB2:=c3o (HB.out.trans (a0c ka hwr (by simp)))
    clear ka hb2 X2 HM HB hwr hhas
    cases hnb:nameB name with
    | false=>
     have HZ:Hid (a1k l=80):=c3o (by rw[HCE.out,if_pos (.inr hnb)])
     clear hnb
     go_wp2_with fail
     go_ret2
     refine⟨.slice none 0 0,by rw[HZ.out];rfl,fun _=>rfl,fun h=>absurd (HZ.out.symm.trans h) (by decide),HB2.out⟩
    | true=>
     have HCF:Hid (a1k l=if 8192<dat.size then 87 else zchk (l.drop (p+1)) (kn++[name])):=c3o (by rw[HCE.out,if_neg (by rw[hin',hnb];simp)])
     clear hnb HCE
     by_cases hd:8192<dat.size
     ·have HZ:Hid (a1k l=87):=c3o (by rw[HCF.out,if_pos hd])
      have d1:decide ((8192:Int)<(dat.size:Int))=true:=by simp;omega
      have d1':decide (8192<dat.size)=true:=by simpa using hd
      clear hd
      go_wp2_with (first
       | (at_mapUpdate;refine wpList_mapUpdate_own _ rfl _ _ _ 61 rfl 9 62 a5B Tryz.underlying61 (unitElem (H:=Unit)) w.heap.size kn.length _ rfl HM2.out (by unfold maxLen;have:=HKL.out;omega) _ _ _ rfl rfl hkey _ [] unitElem_mk ?_;intro w3 hown3 hgr3;have k3:Keeps [w.heap.size] w2 w3:=(Keeps.refl [w.heap.size] w2).grown hgr3 (fun k hk=>.inl (by injection hk with hk;subst hk;simp));have x1':=k3.cell (p:=⟨wr.heap.size,1,none⟩) (by simp;omega) x1;have HB3:=c3o (HB2.out.trans (a0c k3 HB2.out.size (fun x hx=>by simp at hx;omega)))))
      go_ret2
      refine⟨.slice none 0 0,by rw[HZ.out];rfl,fun _=>rfl,fun h=>absurd (HZ.out.symm.trans h) (by decide),HB3.out⟩
     ·have d1:decide ((8192:Int)<(dat.size:Int))=false:=by simp;omega
      have d1':decide (8192<dat.size)=false:=by simpa using hd
      have HCG:Hid (a1k l=zchk (l.drop (p+1)) (kn++[name])):=c3o (by rw[HCF.out,if_neg hd])
      clear hd
      go_wp2_with (first
       | (at_mapUpdate;refine wpList_mapUpdate_own _ rfl _ _ _ 61 rfl 9 62 a5B Tryz.underlying61 (unitElem (H:=Unit)) w.heap.size kn.length _ rfl HM2.out (by unfold maxLen;have:=HKL.out;omega) _ _ _ rfl rfl hkey _ [] unitElem_mk ?_;intro w3 hown3 hgr3;have k3:Keeps [w.heap.size] w2 w3:=(Keeps.refl [w.heap.size] w2).grown hgr3 (fun k hk=>.inl (by injection hk with hk;subst hk;simp));have x1':=k3.cell (p:=⟨wr.heap.size,1,none⟩) (by simp;omega) x1;have HB3:=c3o (HB2.out.trans (a0c k3 HB2.out.size (fun x hx=>by simp at hx;omega)))))
      go_roundw
      case rel=>exact⟨p+1,by omega,by go_num,by rw[HTK.out];exact c3o (SetM.snoc hown3),by rw[HTK.out];exact HCG,HB3⟩
      case measure=>simp[intOf];omega
  ·have e5:decide (p<n)=false:=by simpa using hlt
   have hpn:p=n:=by omega
   have HZ:Hid (a1k l=0):=c3o (by rw[HC.out,hpn,List.drop_eq_nil_of_le (by rw[HL.out];omega)];rfl)
   have HN64:Hid (n<=64):=c3o (by have:=(a5p HZ.out).1;rw[HL.out] at this;exact this)
   clear hpn HM HC
   go_wp2_with fail
   obtain⟨F,hF⟩:∃ z,z=wr.heap.size:=⟨_,rfl⟩
   obtain⟨w1,hw1⟩:∃ z,z=wr.alloc (.cells #[.slice none 0 0,.slice none 0 0] 65):=⟨_,rfl⟩
   rw[<-hw1,<-hF]
   have hFB:Blk w1 F 65 [.slice none 0 0,.slice none 0 0]:=by rw[hw1,hF];exact a0d wr _ _
   have hBW:Below w.heap.size w w1:=by rw[hw1];exact HB.out.alloc HB.out.size _
   have hFg:gtopz<=F:=by have h1:=HT.out.size;have h2:=HB.out.size;omega
   have hFw:w.heap.size<=F:=by have h2:=HB.out.size;omega
   have HF1:=c3o hFB
   have HB1:=c3o hBW
   clear hF hw1 hFB hBW HB
   go_loopw [48] (fun iv wr=>∃ q:Nat,q<=n/\iv=.int .i64 q/\Hid (Below w.heap.size w wr)/\∃ (es:List ZE) (AP AR:Option Addr) (cP cR:Nat),Hid (es.map ZE.out=l.take q)/\Hid (∀ e∈es,Defl (sb e.dat) e.ys)/\Hid (Blk wr F 65 [.slice AP (zPs (es.map ZE.g)).length cP,.slice AR (zRs 0 (es.map ZE.g)).length cR]) /\
    Hid (wr.ownsRow (F+1) 5 1 (.slice AP (zPs (es.map ZE.g)).length cP) (zPs (es.map ZE.g)).length (ints .u8 (zPs (es.map ZE.g))))/\Hid (wr.ownsRow (F+1) 5 1 (.slice AR (zRs 0 (es.map ZE.g)).length cR) (zRs 0 (es.map ZE.g)).length (ints .u8 (zRs 0 (es.map ZE.g))))) (fun iv _=>n-(intOf iv).toNat)
   case atStart=>exact⟨0,by omega,rfl,HB1,[],none,none,0,0,c3o rfl,c3o (by simp),HF1,c3o (World.ownsRow_nil _ _ _ _),c3o (World.ownsRow_nil _ _ _ _)⟩
   case round=>
    obtain⟨q,hq,rfl,HB,es,AP,AR,cP,cR,HO,HD,HF,HP,HR⟩:=hrel
    by_cases hlq:q<n
    ·have e6:decide (q<n)=true:=by simpa using hlq
     obtain⟨tb,to',rfl⟩:=H.out.hd (by omega)
     have hpl:q<l.length:=by rw[HL.out];exact hlq
     have hrw:=(H.out.keeps a0g (Keeps.of_below HB.out (S:=[])) (a0a _)).cell tb to' rfl q hpl
     have p0:=hrw 0 (by omega)
     have p1:=hrw 1 (by omega)
     have HTK:Hid (l.take (q+1)=l.take q++[l[q]]):=c3o (List.take_succ_eq_append_getElem hpl)
     have HNB:=c3o ((a5p HZ.out).2.1 l[q] (List.getElem_mem _))
     generalize l[q]=t at *
     obtain⟨name,dat⟩:=t
     simp only[ecells,c3p,c3q,Nat.add_zero] at p0 p1
     clear hrw
     have hok:∀ e∈es,e.Ok:=fun e he=>by
      have hm:e.out∈l:=List.mem_of_mem_take (HO.out ▸ List.mem_map.2 ⟨e,he,rfl⟩)
      obtain⟨a,b⟩:=(a5p HZ.out).2.1 _ hm
      exact⟨a,b,HD.out e he⟩
     have hgk:∀ g∈es.map ZE.g,g.Ok:=fun g hg=>by obtain⟨e,he,rfl⟩:=List.mem_map.1 hg;exact (hok e he).g
     have hel:(es.map ZE.g).length<=64:=by
      have:=congrArg List.length HO.out
      rw[c3r,List.length_take] at this
      have:=HN64.out
      rw[c3r];omega
     have hpl1:=(a8A hgk).1
     have hpl2:=(a8A hgk).2 0
     have HP1:=c3o (show (zPs (es.map ZE.g)).length<=100000000 by omega)
     have HP2:=c3o (show (zRs 0 (es.map ZE.g)).length<=100000000 by omega)
     clear hok hgk hel hpl1 hpl2 hpl
     have ka:Keeps [] wr (wr.alloc (.cells #[.string name,.string dat] 34)):=(Keeps.refl [] wr).alloc _
     have hBs:=HB.out.size
     have HBa:=c3o (HB.out.alloc hBs (.cells #[.string name,.string dat] 34))
     have HKA:=c3o ka
     clear ka hBs
     go_wp2_with fail
     refine (b6c (wr.alloc (.cells #[.string name,.string dat] 34)) F AP _ cP _ AR _ cR _ name dat (HF.out.keeps HKA.out (by simp)) (a0b HP.out HKA.out (by simp)) (a0b HR.out HKA.out (by simp)) HP1.out HP2.out (a4U HNB.out.1).2 HNB.out.2 (HT.out.keeps (Keeps.of_below HBa.out (S:=[])) (by simp)) hFg).mono ?_
     rintro _ w2 ⟨ys,AP',np',cP',AR',nr',cR',rfl,hdf,hf2,hp2,hr2,hk2⟩
     have HB2:=c3o (HBa.out.trans (a0c hk2 HBa.out.size (fun x hx=>by simp at hx;omega)))
     have e1:zPs ((es++[(⟨name,dat,ys⟩:ZE)]).map ZE.g)=zPs (es.map ZE.g)++a8V (zway (sb dat) ys) (a6k (sb dat) ys) (sb dat) name:=by
      rw[c3u,c1X,List.map_singleton,c1Y,ZE.piece_eq]
     have e2:zRs 0 ((es++[(⟨name,dat,ys⟩:ZE)]).map ZE.g)=zRs 0 (es.map ZE.g)++zrec (zway (sb dat) ys) (a6k (sb dat) ys) (sb dat) name ((zPs (es.map ZE.g)).length:Nat):=by
      rw[c3u,b8u,List.map_singleton,c1Z,ZE.recd_eq,Nat.zero_add]
     rw[<-e1] at hp2
     rw[<-e2] at hr2
     have e3:np'=(zPs ((es++[(⟨name,dat,ys⟩:ZE)]).map ZE.g)).length:=by have:=hp2.1;simpa [ints] using this.symm
     have e4:nr'=(zRs 0 ((es++[(⟨name,dat,ys⟩:ZE)]).map ZE.g)).length:=by have:=hr2.1;simpa [ints] using this.symm
     rw[e3] at hp2 hf2
     rw[e4] at hr2 hf2
     have HO2:Hid ((es++[(⟨name,dat,ys⟩:ZE)]).map ZE.out=l.take (q+1)):=c3o (by rw[HTK.out,c3u,HO.out];rfl)
     have HD2:Hid (∀ e∈es++[(⟨name,dat,ys⟩:ZE)],Defl (sb e.dat) e.ys):=c3o (fun e he=>by
      rcases List.mem_append.1 he with he|he
      ·exact HD.out e he
      ·rw[List.mem_singleton] at he;subst he;exact hdf)
     have HF2:=c3o hf2
     have HP2':=c3o hp2
     have HR2:=c3o hr2
     clear e1 e2 e3 e4 hf2 hp2 hr2 hk2 hdf HO HD HF HP HR HB HP1 HP2 HKA HBa
     generalize es++[(⟨name,dat,ys⟩:ZE)]=es' at *
     go_wp2_with fail
     go_roundw
     case rel=>exact⟨q+1,by omega,by go_num,HB2,es',AP',AR',cP',cR',HO2,HD2,HF2,HP2',HR2⟩
     case measure=>simp[intOf];omega
    ·have e6:decide (q<n)=false:=by simpa using hlq
     have hqn:q=n:=by omega
     have HOA:Hid (es.map ZE.out=l):=c3o (by rw[HO.out,hqn,List.take_of_length_le (by rw[HL.out];omega)])
     obtain⟨hok,hnd,hln⟩:=c0T HZ.out HOA.out HD.out
     have hZO:=c0U hok hnd hln
     have hsm:=a4y hZO
     have hzl:=a2X (es.map ZE.g)
     have hel:es.length=n:=by have:=congrArg List.length HOA.out;rw[c3r,HL.out] at this;exact this
     clear hqn HO hok hnd hln hZO
     obtain⟨gs,hgs⟩:∃ z,z=es.map ZE.g:=⟨_,rfl⟩
     have hgl:gs.length=n:=by rw[hgs,c3r];exact hel
     rw[<-hgs] at HF HP HR hsm hzl
     have HGS:=c3o hgs
     have HGL:=c3o hgl
     clear hgs hgl hel
     obtain⟨Ps,hPs⟩:∃ z,z=zPs gs:=⟨_,rfl⟩
     obtain⟨Rs,hRs⟩:∃ z,z=zRs 0 gs:=⟨_,rfl⟩
     rw[<-hPs] at HF HP hzl
     rw[<-hRs] at HF HR hzl
     have HPS:=c3o hPs
     have HRS:=c3o hRs
     obtain⟨np,hnp⟩:∃ z,z=Ps.length:=⟨_,rfl⟩
     obtain⟨nr,hnr⟩:∃ z,z=Rs.length:=⟨_,rfl⟩
     rw[<-hnp] at HF HP hzl
     rw[<-hnr] at HF HR hzl
     have HNP:=c3o hnp
     have HNR:=c3o hnr
     have hb1:np<=600000:=by omega
     have hb2:nr<=600000:=by omega
     clear hPs hRs hnp hnr hsm hzl
     have f0:=HF.out.cell 0
     have f1:=HF.out.cell 1
     simp only[c3p,c3q] at f0 f1
     have hRr:RI .u8 wr AR nr Rs/\(AR=none->nr=0/\cR=0):=by
      obtain⟨A',c',hv,hr⟩:=a0Q HR.out
      injection hv with q1 q2 q3
      subst q1
      refine⟨hr,fun hnone=>?_⟩
      rcases HR.out.2 with⟨h1,h2⟩|⟨g,cap,cur,h1,-⟩
      ·injection h1 with a b c
       exact⟨b,c⟩
      ·injection h1 with a b c
       rw[hnone] at a
       cases a
     obtain⟨hr1,hr2⟩:=hRr
     have HR1:=c3o hr1
     have HR2:=c3o hr2
     have hFlt:F+1<=wr.heap.size:=HF.out.lt
     clear hr1 hr2
     go_wp2_with (at_builtin;refine a4B rfl (.tmp 56) (.tmp 58) rfl (F+1) _ np Ps rfl HP.out AR nr cR Rs rfl HR1.out HR2.out (by omega) hFlt ?_;intro v3 w3 ho3 hg3;obtain⟨A3,c3,rfl⟩:=a0h ho3)
     have k3:Keeps (Value.slice AP np cP).ownBlock.toList wr w3:=⟨hg3.os,hg3.tape,hg3.output,hg3.size,fun k hk hm=>hg3.block k hk (fun e=>hm (Option.mem_toList.2 e.symm))⟩
     have hPlo:∀ x∈(Value.slice AP np cP).ownBlock.toList,F+1<=x:=fun x hx=>a0j HP.out x (Option.mem_toList.1 hx)
     have HF3:=c3o (HF.out.keeps k3 (fun hm=>by have:=hPlo F hm;omega))
     have HB3:=c3o (HB.out.trans (a0c k3 HB.out.size (fun x hx=>by have:=hPlo x hx;omega)))
     obtain⟨A3',c3',hv3,hr3⟩:=a0Q ho3
     injection hv3 with q1 q2 q3
     subst q1
     have HR3:=c3o hr3
     clear k3 hPlo q3 hr3 ho3 hg3 f0 f1 HR1 HR2
     refine (a6m w3 A3 (np+nr) c3 _ HR3.out (by omega) [101010256] (by simp) (by simp)).mono ?_
     rintro _ w4 ⟨v4,rfl,ho4,hb4⟩
     obtain⟨A4,c4,rfl,hr4⟩:=a0Q ho4
     have HR4:=c3o hr4
     have HK4:=c3o (Keeps.of_below hb4 (S:=[]))
     clear ho4 hb4 hr4
     rw[show np+nr+[(101010256:Int)].length*4=np+nr+4 from rfl] at HR4 ⊢
     go_wp2_with fail
     refine (a5N w4 A4 (np+nr+4) c4 _ HR4.out (by omega) [0,0,(n:Int),(n:Int)] (by simp) (by simp)).mono ?_
     rintro _ w5 ⟨v5,rfl,ho5,hb5⟩
     obtain⟨A5,c5,rfl,hr5⟩:=a0Q ho5
     have HR5:=c3o hr5
     have HK5:=c3o (HK4.out.trans (Keeps.of_below hb5 (S:=[])))
     clear ho5 hb5 hr5
     rw[show np+nr+4+[0,0,(n:Int),(n:Int)].length*2=np+nr+12 from rfl] at HR5 ⊢
     have HF5:=HF3.out.keeps HK5.out (by simp)
     have f0:=HF5.cell 0
     have f1:=HF5.cell 1
     simp only[c3p,c3q] at f0 f1
     clear HF5
     go_wp2_with fail
     refine (a6m w5 A5 (np+nr+12) c5 _ HR5.out (by omega) [(nr:Int),(np:Int)] (by simp) (by simp)).mono ?_
     rintro _ w6 ⟨v6,rfl,ho6,hb6⟩
     obtain⟨A6,c6,rfl,hr6⟩:=a0Q ho6
     have HR6:=c3o hr6
     have HK6:=c3o (HK5.out.trans (Keeps.of_below hb6 (S:=[])))
     clear ho6 hb6 hr6 f0 f1
     rw[show np+nr+12+[(nr:Int),(np:Int)].length*4=np+nr+20 from rfl] at HR6 ⊢
     go_wp2_with fail
     refine (a5N w6 A6 (np+nr+20) c6 _ HR6.out (by omega) [0] (by simp) (by simp)).mono ?_
     rintro _ w7 ⟨v7,rfl,ho7,hb7⟩
     rw[show np+nr+20+[(0:Int)].length*2=np+nr+22 from rfl] at ho7
     have HO7:=c3o ho7
     have HB7:=c3o (HB3.out.trans (a0c (HK6.out.trans (Keeps.of_below hb7 (S:=[]))) HB3.out.size (by simp)))
     have hw6:w.heap.size<=w6.heap.size:=c3w HB3.out.size HK6.out.size
     clear ho7 hb7
     go_wp2_with fail
     go_ret2
     have e1:Ps++Rs++zlesB 4 [101010256]++zlesB 2 [0,0,(n:Int),(n:Int)]++zlesB 4 [(nr:Int),(np:Int)]++zlesB 2 [0]=zfileB gs:=by
      unfold zfileB a3N
      rw[HGL.out,<-HPS.out,<-HRS.out,<-HNP.out,<-HNR.out]
      simp only[c3t]
     have e2:np+nr+22=(zfileB gs).length:=by rw[a2X,<-HPS.out,<-HRS.out,<-HNP.out,<-HNR.out]
     have e3:=HO7.out
     rw[e1,e2] at e3
     exact⟨v7,by rw[HZ.out];rfl,fun hc=>absurd HZ.out hc,fun _=>⟨zfileB gs,⟨es,HOA.out,HD.out,by rw[HGS.out]⟩,a1b e3 hw6⟩,HB7.out⟩
end Go.Proofs.YtghjlpechjggjaaGreatDoor
namespace Go.Proofs.YtghjlpechjggjaaGreatDoor
open Go.RowKit
theorem b7R{α:Type}{k:Nat}{enc:α->List Value}(he:∀ x,(enc x).length=k){w:World}{g:Nat}{t:TypeId}{l:List α}(h:Blk w g t (l.flatMap enc)):RW k enc w (some ⟨g,0,none⟩) l.length l:=
 ⟨rfl,fun _=>⟨_,_,rfl⟩,fun b o ha j hj i hi=>by
  injection ha with ha;injection ha with h1 h2 h3;subst h1;subst h2
  rw[Nat.zero_add,h.cell,b7S he l j hj i hi]⟩
theorem b2N{w:World}{base:Nat}{A:Option Addr}{n c:Nat}{xs:List Int}(h:w.ownsRow base 5 1 (.slice A n c) n (ints .u8 xs)):RI .u8 w A n xs:=by
 obtain⟨A',c',hv,hr,-⟩:=a0y h
 injection hv with q1 q2 q3
 subst q1
 exact hr
theorem b4m{w:World}{base:Nat}{e:TypeId}{k:IntKind}{A:Option Addr}{n c:Nat}{xs:List Int}(h:w.ownsRow base e 1 (.slice A n c) n (ints k xs)):∀ a,A=some a->base<=a.block/\a.block<w.heap.size:=by
 obtain⟨A',c',hv,hr,-,h3⟩:=a0y h
 injection hv with q1 q2 q3
 subst q1
 exact fun a ha=>⟨(h3 a ha).1,(h3 a ha).2.1⟩
theorem c0S{w:World}{base:Nat}{A:Option Addr}{n c:Nat}{xs:List Int}(h:w.ownsRow base 5 1 (.slice A n c) n (ints .u8 xs))(hb:∀ x∈xs,0<=x/\x<=255)(hn:n<=1000000000):ZB w A n c xs:=
 ⟨b2N h,a9D h,hb,hn,fun a ha=>(b4m h a ha).2⟩
theorem c2a{w:World}{g n:Nat}{xs:List Int}(h:Blk w g 5 (ints .u8 (xs++[99])))(hl:xs.length=n)(hb:∀ x∈xs,0<=x/\x<=255)(hn:n<=1000000000):ZB w (some ⟨g,0,none⟩) n (n+1) xs:=
 ⟨by have:=h.ri;rwa [hl] at this,⟨by omega,by unfold maxLen;omega,fun _=>⟨_,_,rfl⟩⟩,hb,hn,fun a ha=>by injection ha with ha;subst ha;exact h.lt⟩
theorem Keeps.freshZ{T:List Nat}{w w1 w2:World}(h:Keeps [] w w1)(k:Keeps T w1 w2)(hT:∀ x∈T,w.heap.size<=x):Keeps [] w w2:=
 ⟨k.os.trans h.os,k.tape.trans h.tape,k.output.trans h.output,c3w h.size k.size,fun i hi _=>(k.block i (Nat.lt_of_lt_of_le hi h.size) (fun hm=>by have:=hT i hm;omega)).trans (h.block i hi (by simp))⟩
def WrOk(w:World)(l:List EN)(e:Ending)(w':World):Prop:=
 ∃ (g n c:Nat) (xs:List Int) (es:List ZE),e=.returned (.tuple #[.slice (some ⟨g,0,none⟩) n c,.int .i64 0])/\FF l xs es/\xs.length=n/\w.heap.size<=g/\w'.ownsRow w.heap.size 5 1 (.slice (some ⟨g,0,none⟩) n c) n (ints .u8 xs)/\Below w.heap.size w w'
theorem b1Y(w:World)(A:Option Addr)(n c:Nat)(l:List EN)(h:RW 2 ecells w A n l)(hn:n<=100000000)(hs:∀ e∈l,e.1.size<=1000000000/\e.2.size<=1000000000)(hT:Tabz w)(hc:a1k l=0) :
  Calls Tryz.prog 13 #[.slice A n c] w (WrOk w l):=
 (a6i w A n c l h hn hs hT).mono fun e w' ⟨v,he,_,hx,hb⟩=>by
  obtain⟨xs,hf,ho⟩:=hx hc
  obtain⟨es,hff⟩:=c3e hc hf
  have hl:=hff.len
  rcases ho.2 with⟨-,h0⟩|⟨g,cap,cur,rfl,hg,hrest⟩
  ·omega
  ·exact⟨g,xs.length,cap,xs,es,by rw[he,hc],hff,rfl,hg,ho,hb⟩
theorem b8D(w:World)(A:Option Addr)(n c:Nat)(l:List EN)(h:RW 2 ecells w A n l)(hn:n<=100000000)(hs:∀ e∈l,e.1.size<=1000000000/\e.2.size<=1000000000)(hT:Tabz w)(hc:a1k l≠0) :
  Calls Tryz.prog 13 #[.slice A n c] w fun e w'=>e=.returned (.tuple #[.slice none 0 0,.int .i64 (a1k l)])/\Below w.heap.size w w':=
 (a6i w A n c l h hn hs hT).mono fun e w' ⟨v,he,h0,_,hb⟩=>⟨by rw[he,h0 hc],hb⟩
def RdOk(w:World)(l:List EN)(E:Int)(e:Ending)(w':World):Prop:=
 ∃ (A:Option Addr) (n c:Nat),e=.returned (.tuple #[.slice A n c,.int .i64 E])/\l.length=n/\RW 2 ecells w' A n l/\(∀ a,A=some a->w.heap.size<=a.block/\a.block<w'.heap.size)/\Below w.heap.size w w'
theorem c2I{w w':World}{v:Value}{l:List EN}{E:Int}{e:Ending}(he:e=.returned (.tuple #[v,.int .i64 E]))(ho:w'.ownsRow w.heap.size 34 2 v l.length (l.flatMap ecells))(hb:Below w.heap.size w w'):RdOk w l E e w':=by
 obtain⟨A,c,rfl,hr,-,hblk⟩:=a4Z (by decide) a0g ho
 exact⟨A,l.length,c,he,rfl,hr,hblk,hb⟩
theorem a8X(w:World)(A:Option Addr)(n c:Nat)(xs:List Int)(hz:ZB w A n c xs)(hT:Tabz w){l:List EN}{E:Int}(hx:a1K xs=(l,E)) :
  Calls Tryz.prog 18 #[.slice A n c] w (RdOk w l E):=
 (b3L w A n c xs hz hT).mono fun e w' ⟨v,he,_,ho,hb⟩=>by rw[hx] at he ho;exact c2I he ho hb
def LsOk(w:World)(l:List ZI)(E:Int)(e:Ending)(w':World):Prop:=
 ∃ (A:Option Addr) (n c:Nat),e=.returned (.tuple #[.slice A n c,.int .i64 E])/\l.length=n/\RW 5 icells w' A n l/\(∀ a,A=some a->w.heap.size<=a.block/\a.block<w'.heap.size)/\Below w.heap.size w w'
theorem c2y{w w':World}{v:Value}{l:List ZI}{E:Int}{e:Ending}(he:e=.returned (.tuple #[v,.int .i64 E]))(ho:w'.ownsRow w.heap.size 51 5 v l.length (l.flatMap icells))(hb:Below w.heap.size w w'):LsOk w l E e w':=by
 obtain⟨A,c,rfl,hr,-,hblk⟩:=a4Z (by decide) a0A ho
 exact⟨A,l.length,c,he,rfl,hr,hblk,hb⟩
theorem a8T(w:World)(A:Option Addr)(n c:Nat)(xs:List Int)(hz:ZB w A n c xs){l:List ZI}{E:Int}(hx:(zpieces xs).2.map ZP.x=l)(he:(zpieces xs).1=E) :
  Calls Tryz.prog 20 #[.slice A n c] w (LsOk w l E):=
 (b3I w A n c xs hz).mono fun e w' ⟨v,h1,ho,hb⟩=>by
  rw[he] at h1
  have hl:(zpieces xs).2.length=l.length:=by rw[<-hx,c3r]
  rw[hx,hl] at ho
  exact c2y h1 ho hb
end Go.Proofs.YtghjlpechjggjaaGreatDoor
namespace Go.Proofs.YtghjlpechjggjaaGreatDoor
open Go.RowKit
def nilF:List Int:=[80,75,5,6,0,0,0,0,0,0,0,0,0,0,0,0,0,0,0,0,0,0]
def awL:List EN:=[(⟨#[97]⟩,⟨#[111,110,101]⟩),(⟨#[98,47,99]⟩,⟨#[116,119,111]⟩)]
def awD:List EN:=[(⟨#[97]⟩,⟨#[]⟩),(⟨#[97]⟩,⟨#[]⟩)]
theorem aw8:zfileB []=nilF/\a1k []=0/\a1k awL=0/\a1k awD=80/\(zpieces (nilF++[0])).1=81/\nameB ⟨#[97,47,98,46,116,120,116]⟩=true/\nameB ⟨#[97,47,47,98]⟩=false:=by decide +kernel
theorem c2s{xs:List Int}{es:List ZE}(h:FF [] xs es):xs=nilF:=by
 have h1:es=[]:=List.map_eq_nil_iff.1 h.out
 rw[h.xs,h1]
 exact aw8.1
theorem awS:(∀ e∈awL,e.1.size<=1000000000/\e.2.size<=1000000000)/\(∀ e∈awD,e.1.size<=1000000000/\e.2.size<=1000000000):=by
 constructor<;>(intro e he;simp[awL,awD] at he;rcases he with rfl|rfl<;>decide)
theorem c1A:∀ x∈nilF++[0],0<=x/\x<=255:=by decide
theorem a3r(w:World)(hT:Tabz w):Calls Tryz.prog 9 #[] w fun e w'=>e=.returned (.bool true)/\Keeps [] w w':=by
 have HT:=c3o hT
 clear hT
 go_enter Tryz.func9,Tryz.ntmps9
 go_wp2_with fail
 refine (b1Y w none 0 0 [] ⟨rfl,fun h=>absurd h (by omega),fun b o h=>by cases h⟩ (by omega) (by simp) HT.out aw8.2.1).mono ?_
 rintro _ w1 ⟨g1,n1,c1,xs1,es1,rfl,hff,hl,hg1,ho,hb⟩
 obtain rfl:=c2s hff
 obtain rfl:22=n1:=hl
 have K1:=c3o (Keeps.of_below hb (S:=[]))
 have O1:=c3o ho
 obtain⟨w1',hw1'⟩:∃ z,z=w1.alloc (.cells #[.string ⟨#[97]⟩,.string ⟨#[111,110,101]⟩,.string ⟨#[98,47,99]⟩,.string ⟨#[116,119,111]⟩] 34):=⟨_,rfl⟩
 have k1':Keeps [] w1 w1':=by rw[hw1'];exact (Keeps.refl [] _).alloc _
 have HF2:=c3o (b1Y w1' (some ⟨w1.heap.size,0,none⟩) 2 2 awL (by rw[hw1'];exact b7R a0g (a0d w1 34 (awL.flatMap ecells))) (by omega) awS.1 (HT.out.keeps (K1.out.trans k1') (by simp)) aw8.2.2.1)
 have K1':=c3o (K1.out.trans k1')
 have O1':=c3o (a0b O1.out k1' (by simp))
 clear hff ho hb k1' O1 K1
 go_wp2_with fail
 rw[<-hw1']
 refine HF2.out.mono ?_
 rintro _ w2 ⟨g2,n2,c2,xs2,es2,rfl,hff2,hl2,hg2,ho2,hb2⟩
 have k2:=Keeps.of_below hb2 (S:=[])
 have K2:=c3o (K1'.out.trans k2)
 have O2:=c3o (a0b O1'.out k2 (by simp))
 have hl600:=hff2.len.2
 have HF3:=c3o (a8X w2 (some ⟨g2,0,none⟩) n2 c2 xs2 (c0S ho2 hff2.u8 (by omega)) (HT.out.keeps K2.out (by simp)) hff2.read)
 clear hff2 hl2 hg2 ho2 hb2 k2 HF2 K1' O1' hw1' hl600
 go_wp2_with fail
 refine HF3.out.mono ?_
 rintro _ w3 ⟨A3,n3,c3,rfl,hl3,hr3,hbk3,hb3⟩
 obtain rfl:2=n3:=hl3
 have k3:=Keeps.of_below hb3 (S:=[])
 obtain⟨w4s,hws⟩:∃ z,z=w3.heap.size:=⟨_,rfl⟩
 have R3:=c3o hr3
 obtain⟨w3',hw3'⟩:∃ z,z=w3.alloc (.cells #[.string ⟨#[97]⟩,.string ⟨#[]⟩,.string ⟨#[97]⟩,.string ⟨#[]⟩] 34):=⟨_,rfl⟩
 have k3':Keeps [] w3 w3':=by rw[hw3'];exact (Keeps.refl [] _).alloc _
 have K3:=c3o ((K2.out.trans k3).trans k3')
 have O3:=c3o (a0b O2.out (k3.trans k3') (by simp))
 have R3':=c3o (R3.out.keeps a0g k3' (a0a _))
 have HA3:Hid (∀ a,A3=some a->a.block<w4s):=c3o (fun a ha=>by rw[hws];exact (hbk3 a ha).2)
 have HS3:Hid (w4s<=w3'.heap.size):=c3o (by rw[hws];exact k3'.size)
 clear hws
 have HF4:=c3o (b8D w3' (some ⟨w3.heap.size,0,none⟩) 2 2 awD (by rw[hw3'];exact b7R a0g (a0d w3 34 (awD.flatMap ecells))) (by omega) awS.2 (HT.out.keeps K3.out (by simp)) (by rw[aw8.2.2.2.1];decide))
 clear hr3 hbk3 hb3 k3 k3' R3 HF3 K2 O2
 go_wp2_with fail
 rw[<-hw3']
 refine HF4.out.mono ?_
 rintro _ w4 ⟨rfl,hb4⟩
 rw[aw8.2.2.2.1]
 have k4:=Keeps.of_below hb4 (S:=[])
 have hs4:w4s<=w4.heap.size:=by have h1:=HS3.out;have h2:=k4.size;omega
 have HG1:Hid (g1<w4.heap.size):=c3o (b4m (a0b O3.out k4 (by simp)) ⟨g1,0,none⟩ rfl).2
 have K4:=c3o (K3.out.trans k4)
 have O4:=c3o (a0b O3.out k4 (by simp))
 have R4:=c3o (R3'.out.keeps a0g k4 (a0a _))
 clear hb4 k4 HF4 K3 O3 R3' hw3'
 go_wp2_with fail
 refine (a7i w4 (some ⟨g1,0,none⟩) 22 c1 nilF (b2N O4.out) (by omega)).mono ?_
 rintro _ w5 ⟨g5,rfl,hB5,hg5,k5⟩
 have hB5l:g5<w5.heap.size:=hB5.lt
 have h45:w4.heap.size<=w5.heap.size:=k5.size
 have o5:w5.ownsRow w4.heap.size 5 1 (.slice (some ⟨g5,0,none⟩) 22 23) 22 (ints .u8 nilF):=
  ⟨by decide,.inr ⟨g5,23,(ints .u8 (nilF++[99])).toArray,rfl,hg5,hB5,by decide,by decide,by decide,rfl⟩⟩
 have k5':Keeps [] w5 (w5.alloc (.cells #[.int .u8 0] 5)):=(Keeps.refl [] _).alloc _
 have O5:=c3o (a0b O4.out (k5.trans k5') (by simp))
 have R5:=c3o (R4.out.keeps a0g (k5.trans k5') (a0a _))
 have K5:=c3o ((K4.out.trans k5).trans k5')
 have P5:=c3o (a0b o5 k5' (by simp))
 have L5:Hid (RI .u8 (w5.alloc (.cells #[.int .u8 0] 5)) (some ⟨w5.heap.size,0,none⟩) 1 [0]):=c3o (by
  have:=Blk.ri (xs:=[0]) (ys:=[]) (k:=.u8) (by simpa using a0d w5 5 (ints .u8 [0]))
  exact this)
 have h45':w4.heap.size<=(w5.alloc (.cells #[.int .u8 0] 5)).heap.size:=c3w h45 k5'.size
 have hgg:w.heap.size<=w4.heap.size:=K4.out.size
 clear hB5 k5 k5' o5 O4 R4 K4 hB5l h45
 go_wp2_with (at_builtin;refine a3P rfl (.tmp 36) (.tmp 37) rfl w4.heap.size (.slice (some ⟨g5,0,none⟩) 22 23) 22 nilF rfl P5.out (some ⟨w5.heap.size,0,none⟩) 1 1 [0] rfl L5.out nofun (by omega) h45' ?_)
 intro v6 w6 ho6 hg6 _
 have kk:Keeps [g5] (w5.alloc (.cells #[.int .u8 0] 5)) w6:=(Keeps.refl _ _).grown hg6 (fun k hk=>.inl (by simp[Value.ownBlock] at hk;simp[hk]))
 have hg1l:g1<w4.heap.size:=HG1.out
 have O6:=c3o (a0b O5.out kk (fun g hg hm=>by simp[Value.ownBlock] at hg;simp at hm;omega))
 have R6:=c3o (R5.out.keeps a0g kk (fun a ha hm=>by have:=HA3.out a ha;simp at hm;omega))
 have K6:=c3o (K5.out.freshZ kk (by simp;omega))
 obtain⟨A6,c6,rfl⟩:=a0h ho6
 have HF7:=c3o (a8T w6 A6 23 c6 (nilF++[0]) (c0S ho6 c1A (by omega)) rfl aw8.2.2.2.2.1)
 clear ho6 hg6 kk P5 L5 O5 R5 K5 hg1l
 go_wp2_with fail
 refine HF7.out.mono ?_
 rintro _ w7 ⟨A7,n7,c7,rfl,-,-,-,hb7⟩
 have k7:=Keeps.of_below hb7 (S:=[])
 obtain⟨LI,hLI⟩:∃ z:Array Value,z=#[.string ⟨#[97]⟩,.string ⟨#[111,110,101]⟩,.string ⟨#[98,47,99]⟩,.string ⟨#[116,119,111]⟩]:=⟨_,rfl⟩
 have k7':Keeps [] w7 (w7.alloc (.cells LI 34)):=(Keeps.refl [] _).alloc _
 have b0:w7.cell? ⟨g1,0,none⟩=some (.int .u8 80):=by
  have:=(b2N (a0b O6.out k7 (by simp))).cell g1 0 rfl 0 (by omega)
  rw[Nat.add_zero] at this
  rw[this];rfl
 have HF8:=c3o (a7I (w7.alloc (.cells LI 34)) A3 (some ⟨w7.heap.size,0,none⟩) 2 c3 2 2 awL awL (R6.out.keeps a0g (k7.trans k7') (a0a _)) (by rw[hLI];exact b7R a0g (a0d w7 34 (awL.flatMap ecells))) (by omega) (by omega))
 have K7:=c3o ((K6.out.trans k7).trans k7')
 rw[hLI] at HF8 K7
 rw[c3s rfl] at HF8
 clear hb7 k7 k7' HF7 O6 R6 K6 hLI
 go_wp2_with fail
 refine HF8.out.mono ?_
 rintro _ w8 ⟨rfl,hd8⟩
 have K8:=c3o (K7.out.trans (hd8.keeps (S:=[])))
 clear hd8 b0 HF8 K7
 go_wp2_with fail
 refine (a3W w8 ⟨#[97,47,98,46,116,120,116]⟩ (by decide)).mono ?_
 rintro _ w9 ⟨rfl,hb9⟩
 rw[aw8.2.2.2.2.2.1]
 have K9:=c3o (K8.out.trans (Keeps.of_below hb9 (S:=[])))
 clear hb9 K8
 go_wp2_with fail
 refine (a3W w9 ⟨#[97,47,47,98]⟩ (by decide)).mono ?_
 rintro _ w10 ⟨rfl,hb10⟩
 rw[aw8.2.2.2.2.2.2]
 have K10:=c3o (K9.out.trans (Keeps.of_below hb10 (S:=[])))
 clear hb10 K9
 go_wp2_with fail
 go_ret
 exact⟨rfl,K10.out⟩
end Go.Proofs.YtghjlpechjggjaaGreatDoor
namespace Go.Proofs.YtghjlpechjggjaaGreatDoor
open Go.RowKit
theorem a8Q(xs:List Int):∀ (l:List ZP) (acc:List EN),(zdatas xs l acc).1.length<=acc.length+l.length
 | [],acc=>by rw[zdatas];simp
 | p::l,acc=>by
  rw[zdatas]
  split
  ·have:=a8Q xs l (acc++[(p.x.name,strOfNums (a1B xs p).1)])
   simp only[List.length_append,List.length_cons,List.length_nil] at this ⊢
   omega
  ·simp
theorem b8B{xs:List Int}(hb:∀ x∈xs,0<=x/\x<=255):(zpieces xs).2.length<=64:=by
 by_cases e0:(zpieces xs).1=0
 ·exact (a1O hb e0).2.1
 ·rw[a3n e0];simp
theorem c0w{xs:List Int}(hb:∀ x∈xs,0<=x/\x<=255):(a1K xs).1.length<=64:=by
 unfold a1K
 split
 ·have:=a8Q xs (zpieces xs).2 []
  have:=b8B hb
  simp at *;omega
 ·simp
theorem c0v(w:World)(A:Option Addr)(n c:Nat)(xs:List Int)(name:ByteArray)(hT:Tabz w)(hr:RI .u8 w A n xs)(hm:n<=maxLen)(hnil:A=none->n=0/\c=0)(hwf:∀ x∈xs,(Lit.int .u8 x).wf=true)(hC:a4d A n c)(ho:∀ a,A=some a->a.block<w.heap.size)(hs:name.size<=maxLen) :
  Calls Tryz.prog 6 #[.slice A n c,.string name] w fun e w'=>e=.returned (.bool true)/\Keeps [] w w':=by
 have HT:=c3o hT
 have hby:∀ x∈xs,0<=x/\x<=255:=fun x hx=>by
  obtain⟨j,hj,rfl⟩:=List.getElem_of_mem hx
  have:=b6v hwf j
  rwa [a0o hj] at this
 have HR:=c3o hr
 have HBY:=c3o hby
 have HC:=c3o hC
 have HO:=c3o ho
 unfold maxLen at hm hs
 clear hT hr hnil hwf hC ho hby
 by_cases h1:16777216<n
 ·have e1:decide (16777216<n)=true:=c3s h1
  have e1':decide ((16777216:Int)<(n:Int))=true:=c3s (by omega)
  clear h1
  go_enter Tryz.func6,Tryz.ntmps6
  go_wp2_with fail
  refine (a3r w HT.out).mono ?_
  rintro _ w1 ⟨rfl,hk⟩
  go_wp2_with fail
  go_ret
  exact⟨rfl,hk⟩
 have e1:decide (16777216<n)=false:=c3v h1
 have e1':decide ((16777216:Int)<(n:Int))=false:=c3v (by omega)
 by_cases h2:16777216<name.size
 ·have e2:decide (16777216<name.size)=true:=c3s h2
  have e2':decide ((16777216:Int)<(name.size:Int))=true:=c3s (by omega)
  clear h2
  go_enter Tryz.func6,Tryz.ntmps6
  go_wp2_with fail
  refine (a3r w HT.out).mono ?_
  rintro _ w1 ⟨rfl,hk⟩
  go_wp2_with fail
  go_ret
  exact⟨rfl,hk⟩
 have e2:decide (16777216<name.size)=false:=c3v h2
 have e2':decide ((16777216:Int)<(name.size:Int))=false:=c3v (by omega)
 have hn:n<=900000000:=by omega
 have ZB0:Hid (ZB w A n c xs):=c3o ⟨HR.out,HC.out,HBY.out,by omega,HO.out⟩
 obtain⟨L1,hL1⟩:∃ z,z=(zpieces xs).2.map ZP.x:=⟨_,rfl⟩
 obtain⟨E1,hE1⟩:∃ z,z=(zpieces xs).1:=⟨_,rfl⟩
 obtain⟨L2,hL2⟩:∃ z,z=(a1K xs).1:=⟨_,rfl⟩
 obtain⟨E2,hE2⟩:∃ z,z=(a1K xs).2:=⟨_,rfl⟩
 obtain⟨S3,hS3⟩:∃ z,z=strOfNums (a2C xs name).1:=⟨_,rfl⟩
 obtain⟨E3,hE3⟩:∃ z,z=(a2C xs name).2:=⟨_,rfl⟩
 have hl1:L1.length<=64:=by rw[hL1,c3r];exact b8B HBY.out
 have hl2:L2.length<=64:=by rw[hL2];exact c0w HBY.out
 have FL:Hid (∀ W B m d,ZB W B m d xs->Calls Tryz.prog 20 #[.slice B m d] W (LsOk W L1 E1)):=c3o (fun W B m d hz=>a8T W B m d xs hz hL1.symm hE1.symm)
 have FR:Hid (∀ W B m d,ZB W B m d xs->Tabz W->Calls Tryz.prog 18 #[.slice B m d] W (RdOk W L2 E2)):=c3o (fun W B m d hz hT=>a8X W B m d xs hz hT (by rw[hL2,hE2]))
 have FF3:Hid (∀ W B m d,ZB W B m d xs->Tabz W->Calls Tryz.prog 21 #[.slice B m d,.string name] W fun e w'=>e=.returned (.tuple #[.string S3,.int .i64 E3])/\Below W.heap.size W w'):=c3o (fun W B m d hz hT=>by rw[hS3,hE3];exact b3H W B m d xs name hz hT)
 have GL:Hid (∀ W B m d,ZB W B m d xs->Calls Tryz.prog 23 #[.slice B m d] W (LsOk W L1 E1)):=c3o (fun W B m d hz=>(b2A W B m d xs hz).mono fun e w' ⟨v,h1,ho,hb⟩=>by
  rw[<-hE1] at h1
  have hl:(zpieces xs).2.length=L1.length:=by rw[hL1,c3r]
  rw[<-hL1,hl] at ho
  exact c2y h1 ho hb)
 have GR:Hid (∀ W B m d,ZB W B m d xs->Calls Tryz.prog 24 #[.slice B m d] W (RdOk W L2 E2)):=c3o (fun W B m d hz=>(b3b W B m d xs hz).mono fun e w' ⟨v,h1,ho,hb⟩=>by
  rw[<-hE2] at h1
  rw[<-hL2] at ho
  exact c2I h1 ho hb)
 have GF:Hid (∀ W B m d,ZB W B m d xs->Calls Tryz.prog 25 #[.slice B m d,.string name] W fun e w'=>e=.returned (.tuple #[.string S3,.int .i64 E3])/\Below W.heap.size W w'):=c3o (fun W B m d hz=>by rw[hS3,hE3];exact b2p W B m d xs name hz)
 have HXL:Hid (xs.length=n):=c3o HR.out.len
 clear hL1 hE1 hL2 hE2 hS3 hE3 h1 h2 HC HO
 go_enter Tryz.func6,Tryz.ntmps6
 go_wp2_with fail
 refine (a7i w A n c xs HR.out hn).mono ?_
 rintro _ w1 ⟨g,rfl,hB1,hg1,hk1⟩
 have B1:=c3o hB1
 have Z1:=c3o (c2a hB1 HXL.out HBY.out (by omega))
 have K1:=c3o hk1
 have hgl:g<w1.heap.size:=hB1.lt
 clear hB1 hk1 e1 e1' e2 e2'
 go_wp2_with fail
 refine (FL.out w1 _ n (n+1) Z1.out).mono ?_
 rintro _ w2 ⟨A2,n2,c2,rfl,hl3,hr2,hbk2,hb2⟩
 have k2:=Keeps.of_below hb2 (S:=[])
 have B2:=c3o (B1.out.keeps k2 (by simp))
 have Z2:=c3o (Z1.out.keeps k2 (a0a _))
 have K2:=c3o (K1.out.trans k2)
 have R2:=c3o hr2
 have N2:=c3o hl3
 clear hb2 hr2 hbk2 hl3 k2 B1 Z1 K1 hgl
 go_wp2_with fail
 refine (FR.out w2 _ n (n+1) Z2.out (HT.out.keeps K2.out (by simp))).mono ?_
 rintro _ w3 ⟨A3,n3,c3,rfl,hl3,hr3,hbk3,hb3⟩
 have k3:=Keeps.of_below hb3 (S:=[])
 have B3:=c3o (B2.out.keeps k3 (by simp))
 have Z3:=c3o (Z2.out.keeps k3 (a0a _))
 have K3:=c3o (K2.out.trans k3)
 have R23:=c3o (R2.out.keeps a0A k3 (a0a _))
 have R3:=c3o hr3
 have N3:=c3o hl3
 clear hb3 hr3 hbk3 hl3 k3 B2 Z2 K2 R2
 go_wp2_with fail
 refine (FF3.out w3 _ n (n+1) Z3.out (HT.out.keeps K3.out (by simp))).mono ?_
 rintro _ w4 ⟨rfl,hb4⟩
 have k4:=Keeps.of_below hb4 (S:=[])
 have B4:=c3o (B3.out.keeps k4 (by simp))
 have K4:=c3o (K3.out.trans k4)
 have R24:=c3o (R23.out.keeps a0A k4 (a0a _))
 have R34:=c3o (R3.out.keeps a0g k4 (a0a _))
 clear hb4 k4 B3 Z3 K3 R23 R3
 go_wp2_with fail
 refine (b2x w4 g A n c xs (HR.out.keeps K4.out (a0a _)) B4.out hn).mono ?_
 rintro _ w5 ⟨rfl,hd5⟩
 have k5:=hd5.keeps (S:=[])
 have K5:=c3o (K4.out.trans k5)
 have R25:=c3o (R24.out.keeps a0A k5 (a0a _))
 have R35:=c3o (R34.out.keeps a0g k5 (a0a _))
 have Z5:=c3o (ZB0.out.keeps K5.out (a0a _))
 clear hd5 k5 B4 K4 R24 R34
 go_wp2_with fail
 refine (GL.out w5 _ n c Z5.out).mono ?_
 rintro _ w6 ⟨A6,n6,c6,rfl,hl6,hr6,hbk6,hb6⟩
 have k6:=Keeps.of_below hb6 (S:=[])
 have K6:=c3o (K5.out.trans k6)
 have R26:=c3o (R25.out.keeps a0A k6 (a0a _))
 have R36:=c3o (R35.out.keeps a0g k6 (a0a _))
 have R66:=c3o hr6
 have Z6:=c3o (Z5.out.keeps k6 (a0a _))
 have N6:=c3o hl6
 clear hb6 hr6 hbk6 hl6 k6 K5 R25 R35 Z5
 go_wp2_with fail
 refine (GR.out w6 _ n c Z6.out).mono ?_
 rintro _ w7 ⟨A7,n7,c7,rfl,hl7,hr7,hbk7,hb7⟩
 have k7:=Keeps.of_below hb7 (S:=[])
 have K7:=c3o (K6.out.trans k7)
 have R27:=c3o (R26.out.keeps a0A k7 (a0a _))
 have R37:=c3o (R36.out.keeps a0g k7 (a0a _))
 have R67:=c3o (R66.out.keeps a0A k7 (a0a _))
 have R77:=c3o hr7
 have Z7:=c3o (Z6.out.keeps k7 (a0a _))
 have N7:=c3o hl7
 clear hb7 hr7 hbk7 hl7 k7 K6 R26 R36 R66 Z6
 go_wp2_with fail
 refine (GF.out w7 _ n c Z7.out).mono ?_
 rintro _ w8 ⟨rfl,hb8⟩
 have k8:=Keeps.of_below hb8 (S:=[])
 have K8:=c3o (K7.out.trans k8)
 have R28:=c3o (R27.out.keeps a0A k8 (a0a _))
 have R38:=c3o (R37.out.keeps a0g k8 (a0a _))
 have R68:=c3o (R67.out.keeps a0A k8 (a0a _))
 have R78:=c3o (R77.out.keeps a0g k8 (a0a _))
 clear hb8 k8 K7 R27 R37 R67 R77 Z7
 go_wp2_with fail
 refine (a3r w8 (HT.out.keeps K8.out (by simp))).mono ?_
 rintro _ w9 ⟨rfl,k9⟩
 have K9:=c3o (K8.out.trans k9)
 have hn2:n2<=1000000000:=by have:=N2.out;omega
 have hn6:n6<=1000000000:=by have:=N6.out;omega
 have hn3:n3<=1000000000:=by have:=N3.out;omega
 have hn7:n7<=1000000000:=by have:=N7.out;omega
 have HI:=c3o (b0R w9 A2 A6 n2 c2 n6 c6 L1 L1 (R28.out.keeps a0A k9 (a0a _)) (R68.out.keeps a0A k9 (a0a _)) hn2 hn6)
 have R39:=c3o (R38.out.keeps a0g k9 (a0a _))
 have R79:=c3o (R78.out.keeps a0g k9 (a0a _))
 rw[c3s rfl] at HI
 clear k9 K8 R28 R38 R68 R78
 have t1:(E1==E1)=true:=by simp
 have t2:(E2==E2)=true:=by simp
 have t3:(E3==E3)=true:=by simp
 go_wp2_with fail
 refine HI.out.mono ?_
 rintro _ w10 ⟨rfl,hd10⟩
 have k10:=hd10.keeps (S:=[])
 have K10:=c3o (K9.out.trans k10)
 have HSM:=c3o (a7I w10 A3 A7 n3 c3 n7 c7 L2 L2 (R39.out.keeps a0g k10 (a0a _)) (R79.out.keeps a0g k10 (a0a _)) hn3 hn7)
 rw[c3s rfl] at HSM
 clear hd10 k10 K9 HI R39 R79
 go_wp2_with fail
 refine HSM.out.mono ?_
 rintro _ w11 ⟨rfl,hd11⟩
 have K11:=c3o (K10.out.trans (hd11.keeps (S:=[])))
 clear hd11 K10 HSM
 go_wp2_with fail
 go_ret
 exact⟨rfl,K11.out⟩
end Go.Proofs.YtghjlpechjggjaaGreatDoor
