import Derived.Test.YtghjlpechjggjaaGreatDoorZrdG
import Derived.Deep.LoopGhost
import Derived.Test.YtghjlpechjggjaaGreatDoorZrdA
import Derived.Test.YtghjlpechjggjaaGreatDoorZrdB
import Derived.Deep.Onto
import Derived.Outline
import Derived.Test.YtghjlpechjggjaaGreatDoorZrdF
import Derived.Test.YtghjlpechjggjaaGreatDoorZrdC
import Derived.Deep.RegionWith
set_option linter.defProp false
set_option linter.unnecessarySimpa false
set_option linter.unusedVariables false
set_option linter.unusedSimpArgs false
set_option linter.constructorNameAsVariable false
set_option maxRecDepth 100000
set_option maxHeartbeats 60000000
namespace Go.Proofs.YtghjlpechjggjaaGreatDoor
open Go.RowKit
private def c3o := @Lib.hid
private def c3p := @List.mem_singleton
private def c3q := @Nat.lt_of_lt_of_le
private def c3r := @List.length_append
private def c3s := @List.length_singleton
private def c3t := @Nat.le_trans
private def c3u := @Nat.pow_le_pow_right
private def c3v := @Nat.le_refl
private def c3w := @Classical.not_not
private def c3x := @bodyPost_ret
private def c3y := @results_none
private def c3z := @IntWalk.i64_in
private def c3A := @Int.toNat_natCast
private def c3B := @Option.mem_toList
private def c3C := @List.take_of_length_le
private def c3D := @List.length_replicate
private def c3E := @List.mem_cons
open Go.RowKit
def b6f(w:World)(g:Nat)(B:Option Addr)(M c:Nat)(bs:List Int)(most:Nat)(ob:Option Nat)(r:IRes)(e:Ending)(w':World):Prop:=
 ∃ q ob',e=.returned (.tuple #[])/\RD w' g B M c bs q r.1 most r.2.2 ob'/\FR g ob ob' w w'/\(r.2.2=0->q=r.2.1)
theorem a9O{w w':World}{g M c most q:Nat}{B:Option Addr}{bs out:List Int}{ob ob':Option Nat}{r:IRes}(hr:r=(out,q,0))(h:RD w' g B M c bs q out most 0 ob')(k:FR g ob ob' w w'):b6f w g B M c bs most ob r (.returned (.tuple #[])) w':=by
 subst hr;exact⟨q,ob',rfl,h,k,fun _=>rfl⟩
theorem a0G{w w':World}{g M c most q:Nat}{B:Option Addr}{bs out:List Int}{ob ob':Option Nat}{r:IRes}{e:Int}(hr:r=(out,0,e))(he:e≠0)(h:RD w' g B M c bs q out most e ob')(k:FR g ob ob' w w'):b6f w g B M c bs most ob r (.returned (.tuple #[])) w':=by
 subst hr;exact⟨q,ob',rfl,h,k,fun h=>absurd h he⟩
def RLay(w:World)(g:Nat)(B:Option Addr)(M c:Nat)(bs:List Int)(p:Nat)(out:List Int)(most:Nat)(e:Int)(ob:Option Nat)(x:Int)(r:Ending)(w':World):Prop:=
 r=.returned (.tuple #[]) /\
   ((e≠0/\RD w' g B M c bs p out most e ob/\FR g ob ob w w')∨(e=0/\most<=out.length/\RD w' g B M c bs p out most 56 ob/\FR g ob ob w w') ∨
    (e=0/\out.length<most/\∃ ob',RD w' g B M c bs p (out++[x]) most 0 ob'/\FR g ob ob' w w'))
theorem a5F(w:World)(g:Nat)(B:Option Addr)(M c:Nat)(bs:List Int)(p:Nat)(out:List Int)(most:Nat)(e:Int)(ob:Option Nat)(x:Int)(h:RD w g B M c bs p out most e ob) :
  Calls Tryz.prog 148 #[.pointer (some ⟨g,0,none⟩),.int .u8 x] w (RLay w g B M c bs p out most e ob x):=by
 have H:=c3o h
 obtain⟨-,-,c3,c4,-⟩:=h.cells
 have hcap:=h.cap
 have hmx:=h.mx
 obtain⟨v,hblk,hown,hob⟩:=h.box
 obtain⟨vA,vc,rfl⟩:=a2S hown
 have c2:=hblk.cell 2
 simp only[List.getElem?_cons_zero,List.getElem?_cons_succ] at c2
 have f2:=hblk.frozen 2
 have hlt:=hblk.lt
 have HO:=c3o hown
 have HB:=c3o hblk
 have HOB:=c3o hob
 clear h hblk hown hob
 obtain⟨L,hL⟩:∃ L,L=out.length:=⟨_,rfl⟩
 have HL:=c3o hL
 rw[<-hL] at HO c2 HB HOB hcap
 clear hL
 go_enter Tryz.func148,Tryz.ntmps148
 by_cases he:e≠0
 ·have e1:(e !=0)=true:=by simpa using he
  have HE:=c3o he
  clear he
  go_wp2_with fail
  exact c3x (v:=.tuple #[]) (c3y rfl _ _ _) rfl ⟨rfl,.inl ⟨HE.out,H.out,FR.refl _ _ _⟩⟩
 obtain rfl:e=0:=c3w.1 he
 clear he
 by_cases hm:most<=L
 ·have e1:decide (most<=L)=true:=by simpa using hm
  have e1':decide ((most:Int)<=(L:Int))=true:=by simp;omega
  have f4:=H.out.free 4
  go_wp2_with fail
  go_quiet (fail)
  have HM2:=c3o hm
  clear hm
  go_wp2_with fail
  exact c3x (v:=.tuple #[]) (c3y rfl _ _ _) rfl ⟨rfl,.inr (.inl ⟨rfl,by rw[<-HL.out];exact HM2.out,(H.out.keeps ((Keeps.refl [] w).drewN _)).wrong 56,FR.of_keeps (((Keeps.refl [g] w).drewN _).trans (a0D _ g 4 _))⟩)⟩
 ·have e1:decide (most<=L)=false:=by simpa using hm
  have e1':decide ((most:Int)<=(L:Int))=false:=by simp;omega
  go_wp2_with fail
  go_quiet (fail)
  have hkq:Keeps [] w (w.drewN nq):=(Keeps.refl [] w).drewN nq
  obtain⟨wq,hwq⟩:∃ z,z=w.drewN nq:=⟨_,rfl⟩
  rw[<-hwq] at hkq ⊢
  clear hwq
  have ka:Keeps [] wq (wq.alloc (.cells #[.int .u8 x] 5)):=(Keeps.refl [] wq).alloc _
  have HOA:=c3o (a0b HO.out (hkq.trans ka) (by simp))
  have HBA:=c3o (HB.out.keeps (hkq.trans ka) (by simp))
  have HQ:=c3o (H.out.keeps (hkq.trans ka))
  have HKA:=c3o (hkq.trans ka)
  have HRI:Hid (RI .u8 (wq.alloc (.cells #[.int .u8 x] 5)) (some ⟨wq.heap.size,0,none⟩) 1 [x]):=c3o (Blk.ri (xs:=[x]) (ys:=[]) (k:=.u8) (by simpa [ints] using a0d wq 5 (ints .u8 [x])))
  have c2':=hkq.cell (by simp) c2
  have hltq:g<wq.heap.size:=c3q hlt hkq.size
  clear c2 c3 c4 f2 hkq ka HO HB H e1
  go_wp2_with (at_builtin;refine a3P rfl (.tmp 26) (.tmp 28) rfl (g+1) _ _ out rfl (by exact HOA.out) _ 1 1 [x] rfl (by exact HRI.out) (by simp) (by omega) ?c4 ?_)
  case c4=>simp;omega
  intro v1 w1 ho1 hg1 hwh
  have hg0:∀ k,(Value.slice vA L vc).ownBlock=some k->g+1<=k:=fun k hk=>a0j HOA.out k hk
  have hblk1:Blk w1 g 184 [.slice B M c,.int .i64 p,.slice vA L vc,.int .i64 most,.int .i64 0]:=(hg1.block g (Nat.lt_trans hltq (by simp)) (fun e=>by have:=hg0 g e.symm;omega)).trans HBA.out
  have kg:=b0N hg1
  have HRI1:=c3o (HQ.out.ri.keeps kg (fun a ha hm=>by have:=hg0 a.block (c3B.1 hm);have:=HQ.out.lo a ha;omega))
  have HK1:Hid (Keeps (g::ob.toList) w w1):=c3o ((HKA.out.mono (by simp)).trans (kg.mono (fun y hy=>by rw[HOB.out] at hy;exact List.mem_cons_of_mem _ hy)))
  obtain⟨vB,vd,rfl⟩:∃ A c,v1=.slice A (L+1) c:=a2S ho1
  have HO1:=c3o ho1
  have HROW:Hid (∀ y,(Value.slice vB (L+1) vd).ownBlock=some y->ob=some y∨w.heap.size<=y):=c3o (fun y hy=>by
   rcases hwh with e|e
   ·exact .inl (by rw[<-HOB.out,<-e];exact hy)
   ·rw[e] at hy
    injection hy with hy
    have hz:=HKA.out.size
    exact .inr (by rw[<-hy];simpa using hz))
  have HB1:=c3o hblk1
  have c2:=hblk1.cell 2
  simp only[List.getElem?_cons_zero,List.getElem?_cons_succ] at c2
  have f2:=hblk1.frozen 2
  clear HOA HBA HKA HRI c2' kg hg1 ho1 hblk1 hg0 hwh
  go_wp2_with fail
  go_end0
  have hs:=(HB1.out.set 2 (.slice vB (L+1) vd))
  simp only[List.set_cons_succ,List.set_cons_zero] at hs
  have ks:=a0D w1 g 2 (.slice vB (L+1) vd)
  refine⟨rfl,.inr (.inr ⟨rfl,by have:=HL.out;omega,(Value.slice vB (L+1) vd).ownBlock,⟨⟨_,hs,?_,rfl⟩,HRI1.out.keeps ks (fun a ha hm=>by have:=HQ.out.lo a ha;rw[c3p.1 hm] at this;omega),HQ.out.lo,HQ.out.len,HQ.out.le,?_,hmx,HQ.out.sz⟩,⟨HK1.out.trans (ks.mono (fun y hy=>by rw[c3p.1 hy];exact List.mem_cons_self)),HROW.out⟩⟩)⟩
  ·rw[c3r,c3s,<-HL.out]
   exact ownsRow_setCell_below HO1.out (a:=⟨g,2,none⟩) (Nat.lt_succ_self g) _
  ·rw[c3r,c3s,<-HL.out];omega
def RBT(w:World)(g top n:Nat)(rs:List (List Int)):Prop:=
 rs.length=n/\g<top/\top<=w.heap.size/\∃ vs:List Value,vs.length=n/\Blk w g 26 vs/\∀ j v,vs[j]? =some v->w.ownsRow (g+1) 5 1 v (rth rs j).length (ints .u8 (rth rs j))/\∀ x,v.ownBlock=some x->x<top
theorem RB.top{w:World}{g n:Nat}{rs:List (List Int)}(h:RB w g n rs):RBT w g w.heap.size n rs:=by
 have hl:=h.lt
 obtain⟨h0,vs,h1,h2,h3⟩:=h
 exact⟨h0,hl,c3v _,vs,h1,h2,fun j v hv=>⟨h3 j v hv,a2T (h3 j v hv)⟩⟩
theorem RBT.rb{w:World}{g top n:Nat}{rs:List (List Int)}(h:RBT w g top n rs):RB w g n rs:=by
 obtain⟨h0,-,-,vs,h1,h2,h3⟩:=h
 exact⟨h0,vs,h1,h2,fun j v hv=>(h3 j v hv).1⟩
theorem RBT.keeps{w w':World}{g top n:Nat}{rs:List (List Int)}{S:List Nat}(h:RBT w g top n rs)(hk:Keeps S w w')(hS:∀ x∈S,x<g∨top<=x):RBT w' g top n rs:=by
 obtain⟨h0,hg,ht,vs,h1,h2,h3⟩:=h
 refine⟨h0,hg,c3t ht hk.size,vs,h1,h2.keeps hk (fun hm=>by rcases hS g hm with h|h<;>omega),fun j v hv=>⟨a0b (h3 j v hv).1 hk fun x hx hm=>?_,(h3 j v hv).2⟩⟩
 have a:=a0j (h3 j v hv).1 x hx
 have b:=(h3 j v hv).2 x hx
 rcases hS x hm with h|h<;>omega
def b0g(g2 top:Nat)(ob:Option Nat):Prop:=∀ x,ob=some x->x<g2∨top<=x
theorem RBT.fr{w w':World}{g g2 top n:Nat}{rs:List (List Int)}{o1 o2:Option Nat}(h:RBT w g2 top n rs)(hf:FR g o1 o2 w w')(hg:g<g2)(ha:b0g g2 top o1):RBT w' g2 top n rs/\b0g g2 top o2:=by
 have ht:=h.2.2.1
 refine⟨h.keeps hf.keeps (fun x hx=>?_),fun x hx=>?_⟩
 ·rcases c3E.1 hx with e|e
  ·exact .inl (by omega)
  ·exact ha x (c3B.1 e)
 ·rcases hf.row x hx with r|r
  ·exact ha x r
  ·exact .inr (by omega)
def RSym(w:World)(g:Nat)(B:Option Addr)(M c:Nat)(bs:List Int)(p:Nat)(out:List Int)(most:Nat)(ob:Option Nat)(d:Int×Int×Nat)(wr:Int)(r:Ending)(w':World):Prop:=
 r=.returned (.int .i64 d.1)/\RD w' g B M c bs (p+d.2.2) out most (endF d.2.1 wr) ob/\Keeps [g] w w'
theorem c1p(l bs:List Int)(p:Nat)(hp:p<=8*bs.length):(decF l bs p).2.1=0∨decF l bs p=(0,10,0)∨decF l bs p=(0,32,0):=by
 have hs:=a3T l bs p (longN l 16) 0 (by omega) (by omega) (fun m hm=>by
  obtain rfl:m=0:=by omega
  simp[xv,lowF,a1s])
 rw[show decGo l bs p (longN l 16) 0 (xv bs p 0)=decF l bs p from rfl] at hs
 rcases hs with⟨j,m,hj,_,_,_,_,hend,_,hr⟩|⟨k,_,_,_,hr⟩|⟨_,_,hr⟩
 ·rw[hr];exact .inl rfl
 ·exact .inr (.inl hr)
 ·exact .inr (.inr hr)
theorem b4t(w:World)(g:Nat)(B:Option Addr)(M c:Nat)(bs:List Int)(p:Nat)(out:List Int)(most:Nat)(e:Int)(ob:Option Nat)(v:Value)(wr:Int)(h:RD w g B M c bs p out most e ob)(he:e≠0) :
  Calls Tryz.prog 151 #[.pointer (some ⟨g,0,none⟩),v,.int .i64 wr] w fun r w'=>r=.returned (.int .i64 0)/\RD w' g B M c bs p out most e ob/\Keeps [] w w':=by
 have H:=c3o h
 obtain⟨-,-,-,c4,-⟩:=h.cells
 clear h
 have e1:(e !=0)=true:=by simpa using he
 clear he
 go_enter Tryz.func151,Tryz.ntmps151
 go_wp2_with fail
 go_ret
 exact⟨rfl,H.out,Keeps.refl _ _⟩
theorem a5H (w:World) (g:Nat) (B:Option Addr) (M c:Nat) (bs:List Int) (p:Nat) (out:List Int) (most:Nat) (ob:Option Nat) (g2 top n:Nat) (l:List Int) (wr:Int) (h:RD w g B M c bs p out most 0 ob) (hr:RBT w g2 top n (rowsF l))
  (hc:a0e l=0) (hn:n<=288) :
  Calls Tryz.prog 151 #[.pointer (some ⟨g,0,none⟩),.slice (some ⟨g2,0,none⟩) n n,.int .i64 wr] w (RSym w g B M c bs p out most ob (decF l bs p) wr):=by
 have H:=c3o h
 obtain⟨c0,c1,-,c4,-⟩:=h.cells
 have hle:=h.le
 have hM:=h.len
 have hsz:=h.sz
 have HRB:=c3o hr.rb
 have hns:=b7r hc bs p (by omega)
 rw[<-hM] at hns
 have HNS:=c3o hns
 have hrl:∀ j,(rth (rowsF l) j).length<=15:=fun j=>by
  by_cases hj:j<l.length
  ·by_cases h0:0<(rth (rowsF l) j).length
   ·obtain⟨m,h1,h15,h2,h3⟩:=a9N (a1P hc).2 j hj h0
    rw[h3,a0X];exact h15
   ·omega
  ·have hl2:(rowsF l).length<=j:=by rw[show (rowsF l).length=l.length by simp[rowsF]];omega
   simp[rth,List.getD,List.getElem?_eq_none hl2]
 have HRL:=c3o hrl
 have hde:=c1p l bs p (by omega)
 have hbd:=a6O l bs p (by omega)
 have hcl:∀ q,Calls Tryz.prog 170 #[.slice (some ⟨g2,0,none⟩) n n,.slice B M c,.int .i64 p] (w.drewN q) fun e w'=>e=.returned (.tuple #[.int .i64 (decF l bs p).1,.int .i64 ((decF l bs p).2.2:Nat),.int .i64 (decF l bs p).2.1])/\∃ m,w'=(w.drewN q).drewN m:=fun q=>by
  have hh:=a9I (w.drewN q) g2 n (rowsF l) B M c (a2x bs M) p (HRB.out.keeps ((Keeps.refl [] w).drewN q) (by simp)) (H.out.ri.keeps ((Keeps.refl [] w).drewN q) (a0a _)) hle hsz hn HRL.out
  rw[HNS.out] at hh
  exact hh
 have HCL:=c3o hcl
 have HM:=c3o hM
 have HPM:=c3o (show ∀ k,p+k<=8*bs.length->p+k<=M from fun k h=>by omega)
 clear h hr hns hrl hcl HNS HRL HRB hM
 generalize decF l bs p=d at *
 obtain⟨sy,er,k⟩:=d
 simp only[] at hde hbd HCL
 go_enter Tryz.func151,Tryz.ntmps151
 go_upto_region 3 with (fail)
 go_quiet (first|(go_at_call 170;exact Calls.quiet_of (HCL.out _)))
 obtain⟨w1,hw1⟩:∃ w1:World,w1=w.drewN nq:=⟨_,rfl⟩
 have hk1:Keeps [] w w1:=by rw[hw1];exact (Keeps.refl [] w).drewN _
 rw[<-hw1]
 clear hw1 c0 c1 c4 HCL
 have H1:=c3o (H.out.keeps hk1)
 have HK1:=c3o hk1
 obtain⟨-,c1,-,c4,-⟩:=H1.out.cells
 have f1:=H1.out.free 1
 have f4:=H1.out.free 4
 clear hk1 H
 rcases hde with rfl|hd|hd
 ·obtain⟨-,j,rfl,hj,hpk⟩|⟨h0,-⟩:=hbd
  ·have HPK:Hid (p+k<=M):=c3o (HPM.out k hpk)
   have hpk2:=HPK.out
   have e6:IntKind.i64.wrap ((p:Int)+k)=(p:Int)+k:=c3z _ (by omega)
   clear hpk
   go_wp2_with fail
   go_ret
   have hpl:=H1.out.place HPK.out
   rw[show ((p+k:Nat):Int)=(p:Int)+k by omega] at hpl
   exact⟨rfl,hpl,(HK1.out.mono (by simp)).trans (a0D _ g 1 _)⟩
  ·exact absurd rfl h0
 ·injection hd with q1 q2
  injection q2 with q2 q3
  subst q1;subst q2;subst q3
  have HW:=c3o (H1.out.wrong 55)
  obtain⟨-,d1,-,-,-⟩:=HW.out.cells
  have g1:=HW.out.free 1
  clear hbd
  go_wp2_with fail
  go_ret
  have hpl:=HW.out.place (q:=p+0) (by omega)
  refine⟨rfl,?_,((HK1.out.mono (by simp)).trans (a0D _ g 4 _)).trans (a0D _ g 1 _)⟩
  rw[show ((p+0:Nat):Int)=(p:Int) by omega] at hpl
  exact hpl
 ·injection hd with q1 q2
  injection q2 with q2 q3
  subst q1;subst q2;subst q3
  have HW:=c3o (H1.out.wrong wr)
  obtain⟨-,d1,-,-,-⟩:=HW.out.cells
  have g1:=HW.out.free 1
  clear hbd
  go_wp2_with fail
  go_ret
  have hpl:=HW.out.place (q:=p+0) (by omega)
  refine⟨rfl,?_,((HK1.out.mono (by simp)).trans (a0D _ g 4 _)).trans (a0D _ g 1 _)⟩
  rw[show ((p+0:Nat):Int)=(p:Int) by omega] at hpl
  exact hpl
open Go.RowKit
theorem b6j(p:Nat):p<=a1p p/\a1p p<p+8/\a1p p%8=0:=by unfold a1p;omega
theorem a9P(w:World)(g:Nat)(B:Option Addr)(M c:Nat)(bs:List Int)(p:Nat)(out:List Int)(most:Nat)(ob:Option Nat)(h:RD w g B M c bs p out most 0 ob) :
  Calls Tryz.prog 131 #[.pointer (some ⟨g,0,none⟩)] w (b6f w g B M c bs most ob (a0m bs most out p)):=by
 have H:=c3o h
 have HML:=c3o h.len
 have hple:=h.le
 have hsz:=h.sz
 obtain⟨a1,a2,a3⟩:=b6j p
 have haM:a1p p<=M:=by have:=h.len;unfold a1p;omega
 obtain⟨a,ha⟩:∃ a,a=a1p p:=⟨_,rfl⟩
 have HA:=c3o ha
 rw[<-ha] at a1 a2 a3 haM
 clear h ha
 go_enter Tryz.func131,Tryz.ntmps131
 go_wp2_with fail
 go_loopg [9] (a-p) (fun k v9 wr=>∃ q:Nat,q+k=a/\p<=q/\Hid (RD wr g B M c bs q out most 0 ob)/\Hid (FR g ob ob w wr))
 case atStart=>exact⟨p,by omega,by omega,H,c3o (FR.refl _ _ _)⟩
 case round=>
  clear H
  obtain⟨q,hq,hpq,H,K⟩:=hrel
  obtain⟨-,c1,-,c4,-⟩:=H.out.cells
  have f1:=H.out.free 1
  by_cases h8:q%8=0
  ·obtain rfl:q=a:=by omega
   have e1:((q:Int)%8 !=0)=false:=by simp;omega
   go_wp2_with fail
   clear c1 c4 f1 e1
   refine (a0v wr g B M c bs q out most 0 ob 16 16 rfl H.out (by omega)).mono ?_
   rintro _ w1 ⟨n,q1,e1,rfl,h1,k1,n0,n1,hq1,hc1⟩
   have H1:=c3o h1
   have K1:=c3o (K.out.trans (FR.of_keeps k1))
   rw[show (2:Int)^16=65536 from rfl] at n1
   clear h1 k1 H K
   go_wp2_with fail
   refine (a0v w1 g B M c bs q1 out most e1 ob 16 16 rfl H1.out (by omega)).mono ?_
   rintro _ w2 ⟨m,q2,e2,rfl,h2,k2,m0,m1,hq2,hc2⟩
   have H2:=c3o h2
   have K2:=c3o (K1.out.trans (FR.of_keeps k2))
   rw[show (2:Int)^16=65536 from rfl] at m1
   clear h2 k2 H1 K1
   obtain⟨N,rfl⟩:=Int.eq_ofNat_of_zero_le n0
   have HCC:Hid ((e2=0/\q2=q+32/\q+32<=M/\(N:Int)=numB bs q 16/\m=numB bs (q+16) 16)∨(e2=55/\a0m bs most out p=(out,0,55))):=c3o (by
    have hM:=HML.out
    rcases hc1 with⟨_,x1,rfl,x2,rfl⟩|⟨_,x1,rfl,x2,rfl⟩|⟨x1,_⟩
    ·rcases hc2 with⟨_,y1,rfl,y2,rfl⟩|⟨_,y1,rfl,y2,rfl⟩|⟨y1,_⟩
     ·exact .inl ⟨rfl,by omega,by omega,x2,y2⟩
     ·refine .inr ⟨rfl,?_⟩
      unfold a0m;rw[<-HA.out,if_neg (by omega),if_pos (by omega)]
     ·exact absurd rfl y1
    ·rcases hc2 with⟨y1,_⟩|⟨y1,_⟩|⟨_,rfl,_,rfl⟩
     ·exact absurd y1 (by decide)
     ·exact absurd y1 (by decide)
     ·refine .inr ⟨rfl,?_⟩
      unfold a0m;rw[<-HA.out,if_pos (by omega)]
    ·exact absurd rfl x1)
   clear hc1 hc2
   obtain⟨-,-,-,c4,-⟩:=H2.out.cells
   have f4:=H2.out.free 4
   rcases HCC.out with⟨rfl,rfl,hq32,hn,hm⟩|⟨rfl,hr⟩
   rotate_left
   ·have HR:=c3o hr
    clear hr HCC hq1 hq2
    go_wp2_with fail
    clear c4 f4
    go_loopg [4] 1 (fun k iv wr=>iv=.int .i64 0/\0<k/\Hid (RD wr g B M c bs q2 out most 55 ob)/\Hid (FR g ob ob w wr))
    case atStart=>exact⟨rfl,by omega,H2,K2⟩
    case round=>
     obtain⟨rfl,hk,HE,KE⟩:=hrel
     obtain⟨-,-,-,c4,-⟩:=HE.out.cells
     by_cases hN:0<N
     ·have e1:decide ((0:Int)<(N:Int))=true:=by simp;omega
      go_wp2_with fail
      go_end0
      exact a0G HR.out (by decide) HE.out KE.out
     ·have e1:decide ((0:Int)<(N:Int))=false:=by simp;omega
      go_wp2_with fail
      go_end0
      exact a0G HR.out (by decide) HE.out KE.out
   have HS1:Hid (a0m bs most out p=if (N:Int)+m≠65535 then (out,0,51) else storF bs most N out (q+32)):=c3o (by
    have hM:=HML.out
    unfold a0m
    rw[<-HA.out,if_neg (by omega),if_neg (by omega),<-hn,<-hm,c3A])
   clear HCC hn hm hq1 hq2
   generalize q+32=q2 at *
   by_cases hs:(N:Int)+m=65535
   ·have HR:=c3o (HS1.out.trans (if_neg (by simpa using hs)))
    have e1:((N:Int)+m !=65535)=false:=by simpa using hs
    clear HS1
    go_wp2_with fail
    clear c4 f4 e1
    go_loopw [4] (fun iv wr=>∃ (i qq:Nat) (o:List Int) (e:Int) (ob':Option Nat),i<=N/\iv=.int .i64 i/\Hid ((e=0/\a0m bs most out p=storF bs most (N-i) o qq)∨(e≠0/\a0m bs most out p=(o,0,e))) /\
     Hid (RD wr g B M c bs qq o most e ob')/\Hid (FR g ob ob' w wr)) (fun iv _=>N-(intOf iv).toNat)
    case atStart=>exact⟨0,q2,out,0,ob,by omega,rfl,c3o (.inl ⟨rfl,HR.out⟩),H2,K2⟩
    case round=>
     clear H2 K2 HR
     obtain⟨i,qq,o,e,ob',hi,rfl,HS,H,K⟩:=hrel
     obtain⟨-,-,-,c4,-⟩:=H.out.cells
     rcases HS.out with⟨rfl,hsf⟩|⟨hne,hsf⟩
     ·by_cases hlt:i<N
      ·have e0:decide (i<N)=true:=by simpa using hlt
       have e0':decide ((i:Int)<(N:Int))=true:=by simp;omega
       have HS':Hid (a0m bs most out p=if 8*bs.length<qq+8 then (o,0,55) else if most<=o.length then (o,0,56) else storF bs most (N-(i+1)) (o++[numB bs qq 8]) (qq+8)):=c3o (by rw[hsf,show N-i=(N-(i+1))+1 by omega,storF])
       clear hsf HS
       go_wp2_with fail
       clear c4
       refine (a0v wr g B M c bs qq o most 0 ob' 8 8 rfl H.out (by omega)).mono ?_
       rintro _ w3 ⟨x,q3,e3,rfl,h3,k3,x0,x1,hq3,hc3⟩
       rw[show (2:Int)^8=256 from rfl] at x1
       have H3:=c3o h3
       have K3:=c3o (K.out.trans (FR.of_keeps k3))
       have s1:IntKind.u8.wrap x=x:=by rw[IntKind.wrap_u8];omega
       have HC3:=c3o hc3
       clear h3 k3 H K hc3
       go_wp2_with fail
       refine (a5F w3 g B M c bs q3 o most e3 ob' x H3.out).mono ?_
       rintro _ w4 ⟨rfl,hl4⟩
       have HREL:Hid (∃ (qq':Nat) (o':List Int) (e':Int) (ob2:Option Nat),((e'=0/\a0m bs most out p=storF bs most (N-(i+1)) o' qq')∨(e'≠0/\a0m bs most out p=(o',0,e')))/\RD w4 g B M c bs qq' o' most e' ob2/\FR g ob ob2 w w4):=c3o (by
        have hM:=HML.out
        have hs:=HS'.out
        rcases HC3.out with⟨-,y1,rfl,y2,rfl⟩|⟨-,y1,rfl,y2,rfl⟩|⟨y1,_⟩
        ·rw[if_neg (by omega)] at hs
         rcases hl4 with⟨z1,_⟩|⟨-,z2,z3,z4⟩|⟨-,z2,ob2,z3,z4⟩
         ·exact absurd rfl z1
         ·rw[if_pos z2] at hs
          exact⟨qq+8,o,56,ob',.inr ⟨by decide,hs⟩,z3,K3.out.trans z4⟩
         ·rw[if_neg (by omega),<-y2] at hs
          exact⟨qq+8,_,0,ob2,.inl ⟨rfl,hs⟩,z3,K3.out.trans z4⟩
        ·rw[if_pos (by omega)] at hs
         rcases hl4 with⟨-,z3,z4⟩|⟨z1,_⟩|⟨z1,_⟩
         ·exact⟨_,o,55,ob',.inr ⟨by decide,hs⟩,z3,K3.out.trans z4⟩
         ·exact absurd z1 (by decide)
         ·exact absurd z1 (by decide)
        ·exact absurd rfl y1)
       obtain⟨qq',o',e',ob2,hr1,hr2,hr3⟩:=HREL.out
       have HR1:=c3o hr1
       have HR2:=c3o hr2
       have HR3:=c3o hr3
       clear HREL hr1 hr2 hr3 hl4 H3 K3 HS' HC3
       go_wp2_with fail
       go_roundw
       case rel=>exact⟨i+1,qq',o',e',ob2,by omega,by go_num,HR1,HR2,HR3⟩
       case measure=>simp[intOf];omega
      ·obtain rfl:i=N:=by omega
       have e0:decide (i<i)=false:=by simp
       have e0':decide ((i:Int)<(i:Int))=false:=by simp
       have HE:Hid (a0m bs most out p=(o,qq,0)):=c3o (by rw[hsf,Nat.sub_self,storF])
       clear hsf HS
       go_wp2_with fail
       go_end0
       exact a9O HE.out H.out K.out
     ·have e2:(e==0)=false:=by simpa using hne
      have HE:=c3o hsf
      have HNE:=c3o hne
      clear hsf HS hne
      by_cases hlt:i<N
      ·have e0:decide (i<N)=true:=by simpa using hlt
       have e0':decide ((i:Int)<(N:Int))=true:=by simp;omega
       go_wp2_with fail
       go_end0
       exact a0G HE.out HNE.out H.out K.out
      ·have e0:decide (i<N)=false:=by simpa using hlt
       have e0':decide ((i:Int)<(N:Int))=false:=by simp;omega
       go_wp2_with fail
       go_end0
       exact a0G HE.out HNE.out H.out K.out
   ·have HR:=c3o (HS1.out.trans (if_pos hs))
    have e1:((N:Int)+m !=65535)=true:=by simpa using hs
    have HX:=c3o (H2.out.wrong 51)
    have KX:=c3o (K2.out.trans (FR.of_keeps (a0D w2 g 4 (.int .i64 51))))
    clear HS1
    go_wp2_with fail
    clear c4 f4 e1
    go_loopg [4] 1 (fun k iv wr=>iv=.int .i64 0/\0<k/\Hid (RD wr g B M c bs q2 out most 51 ob)/\Hid (FR g ob ob w wr))
    case atStart=>exact⟨rfl,by omega,HX,KX⟩
    case round=>
     obtain⟨rfl,hk,HE,KE⟩:=hrel
     obtain⟨-,-,-,c4,-⟩:=HE.out.cells
     by_cases hN:0<N
     ·have e1:decide ((0:Int)<(N:Int))=true:=by simp;omega
      go_wp2_with fail
      go_end0
      exact a0G HR.out (by decide) HE.out KE.out
     ·have e1:decide ((0:Int)<(N:Int))=false:=by simp;omega
      go_wp2_with fail
      go_end0
      exact a0G HR.out (by decide) HE.out KE.out
  ·have e1:((q:Int)%8 !=0)=true:=by simp;omega
   have e6:IntKind.i64.wrap ((q:Int)+1)=(q:Int)+1:=c3z _ (by omega)
   obtain⟨f,rfl⟩:∃ f,gk=f+1:=⟨gk-1,by omega⟩
   go_wp2_with fail
   go_roundg f
   case measure=>omega
   case rel=>
    have hp:=H.out.place (q:=q+1) (by omega)
    rw[show ((q+1:Nat):Int)=(q:Int)+1 by omega] at hp
    exact⟨q+1,by omega,by omega,c3o hp,c3o (K.out.trans (FR.of_keeps (a0D _ g 1 _)))⟩
open Go.RowKit
theorem a1d(w:World)(base n:Nat)(v:Value)(xs:List Int)(m x:Int)(hown:w.ownsRow base 3 1 v n (ints .i64 xs))(hb:base<=w.heap.size)(hn:n<=100000)(hm:m<=100000) :
  Calls Tryz.prog 149 #[v,.int .i64 m,.int .i64 x] w fun e w'=>∃ v',e=.returned v'/\w'.ownsRow base 3 1 v' (n+m.toNat) (ints .i64 (xs++List.replicate m.toNat x))/\Below base w w':=by
 have HO:=c3o hown
 clear hown
 go_enter Tryz.func149,Tryz.ntmps149
 go_wp2_with fail
 go_loopw [0,7] (fun u i wr=>∃ k:Nat,k<=m.toNat/\i=.int .i64 k/\Hid (wr.ownsRow base 3 1 u (n+k) (ints .i64 (xs++List.replicate k x)))/\Hid (Below base w wr)) (fun _ i _=>m.toNat-(intOf i).toNat)
 case atStart=>exact⟨0,by omega,rfl,c3o (by simpa using HO.out),Below.refl _ _⟩
 case round=>
  clear HO
  obtain⟨k,hk,rfl,HO,HW⟩:=hrel
  have hsz:=HW.out.size
  by_cases hlt:(k:Int)<m
  ·have HRI:Hid (RI .i64 (wr.alloc (.cells #[.int .i64 x] 3)) (some ⟨wr.heap.size,0,none⟩) 1 [x]):=c3o (a8D _ _ _ _)
   go_wp2_with (at_builtin;refine a0Y rfl (.tmp 13) (.tmp 15) rfl base _ (n+k) (xs++List.replicate k x) rfl (HO.out.alloc _) (some ⟨wr.heap.size,0,none⟩) 1 1 [x] rfl (by exact HRI.out) ?c1 ?c2 (by omega) ?c3 ?_)
   case c1=>simp
   case c2=>intro ad h;exact⟨_,_,(Option.some.inj h).symm⟩
   case c3=>simp;omega
   intro v' w1 h1 hg
   have HO1:=c3o h1
   have HB1:=c3o ((HW.out.alloc (by omega) _).grown hg (by simp;omega) (fun k hk=>(HO.out.lt k hk).1))
   clear HO HW h1 hg HRI
   go_wp2_with fail
   go_roundw
   case rel=>exact⟨k+1,by omega,by go_num,c3o (by rw[List.replicate_succ'];exact HO1.out),HB1⟩
   case measure=>simp[intOf];omega
  ·go_wp2_with fail
   go_ret
   obtain rfl:k=m.toNat:=by omega
   exact⟨_,rfl,HO.out,HW.out⟩
theorem b1l(w:World):Calls Tryz.prog 132 #[] w fun e w'=>∃ v1 v2,e=.returned (.tuple #[v1,v2])/\w'.ownsRow w.heap.size 3 1 v1 288 (ints .i64 fixLit)/\w'.ownsRow w.heap.size 3 1 v2 32 (ints .i64 fixDist)/\Below w.heap.size w w':=by
 go_enter Tryz.func132,Tryz.ntmps132
 go_wp2_with fail
 refine (a1d w w.heap.size 0 _ [] 144 8 (World.ownsRow_nil _ _ _ _) (c3v _) (by omega) (by omega)).mono ?_
 rintro _ w1 ⟨v1,rfl,ho1,hb1⟩
 have HO1:=c3o ho1
 have HB1:=c3o hb1
 clear ho1 hb1
 go_wp2_with fail
 refine (a1d w1 w.heap.size _ _ _ 112 9 HO1.out HB1.out.size (by decide) (by omega)).mono ?_
 rintro _ w2 ⟨v2,rfl,ho2,hb2⟩
 have HO2:=c3o ho2
 have HB2:=c3o (HB1.out.trans hb2)
 clear ho2 hb2
 go_wp2_with fail
 refine (a1d w2 w.heap.size _ _ _ 24 7 HO2.out HB2.out.size (by decide) (by omega)).mono ?_
 rintro _ w3 ⟨v3,rfl,ho3,hb3⟩
 have HO3:=c3o ho3
 have HB3:=c3o (HB2.out.trans hb3)
 clear ho3 hb3
 go_wp2_with fail
 refine (a1d w3 w.heap.size _ _ _ 8 8 HO3.out HB3.out.size (by decide) (by omega)).mono ?_
 rintro _ w4 ⟨v4,rfl,ho4,hb4⟩
 have HO4:Hid (w4.ownsRow w.heap.size 3 1 v4 288 (ints .i64 fixLit)):=c3o ho4
 have HB4:=c3o (HB3.out.trans hb4)
 clear ho4 hb4
 go_wp2_with fail
 refine (a1d w4 w4.heap.size 0 _ [] 32 5 (World.ownsRow_nil _ _ _ _) (c3v _) (by omega) (by omega)).mono ?_
 rintro _ w5 ⟨v5,rfl,ho5,hb5⟩
 have HO5:Hid (w5.ownsRow w4.heap.size 3 1 v5 32 (ints .i64 fixDist)):=c3o ho5
 have HO45:=c3o (a0b HO4.out (Keeps.of_below hb5 (S:=[])) (by simp))
 have HB5:=c3o (HB4.out.trans (hb5.mono HB4.out.size))
 have HZ:=c3o HB4.out.size
 clear ho5 hb5
 go_wp2_with fail
 go_ret2
 exact⟨_,_,rfl,HO45.out,HO5.out.mono HZ.out,HB5.out⟩
def badE(e:Int)(is:Bool):Int:=if e=0/\is=true then 52 else e
theorem a0n(w:World)(g:Nat)(B:Option Addr)(M c:Nat)(bs:List Int)(p:Nat)(out:List Int)(most:Nat)(e:Int)(ob:Option Nat)(is:Bool)(h:RD w g B M c bs p out most e ob) :
  Calls Tryz.prog 153 #[.pointer (some ⟨g,0,none⟩),.bool is] w fun r w'=>r=.returned (.tuple #[])/\RD w' g B M c bs p out most (badE e is) ob/\Keeps [g] w w':=by
 have H:=c3o h
 obtain⟨-,-,-,c4,-⟩:=h.cells
 have f4:=h.free 4
 clear h
 by_cases he:e=0
 ·subst he
  cases is with
  | true=>
   have HE:Hid (badE 0 true=52):=c3o rfl
   rw[HE.out]
   go_enter Tryz.func153,Tryz.ntmps153
   go_wp2_with fail
   go_end0
   exact⟨rfl,H.out.wrong 52,a0D _ g 4 _⟩
  | false=>
   have HE:Hid (badE 0 false=0):=c3o rfl
   rw[HE.out]
   go_enter Tryz.func153,Tryz.ntmps153
   go_wp2_with fail
   go_end0
   exact⟨rfl,H.out,Keeps.refl _ _⟩
 ·have e1:(e==0)=false:=by simpa using he
  rw[show badE e is=e from if_neg (fun h=>he h.1)]
  clear he
  go_enter Tryz.func153,Tryz.ntmps153
  go_wp2_with fail
  go_end0
  exact⟨rfl,H.out,Keeps.refl _ _⟩
theorem b0i{l:List Int}(h:∀ j,j<l.length->¬0<nth l j):a0z l=false:=by
 rw[Bool.eq_false_iff]
 intro ht
 obtain⟨j,hj,h2⟩:=(b2a l).1 ht
 exact h j hj h2
theorem a7F(w:World)(A:Option Addr)(n c:Nat)(l:List Int)(hl:RI .i64 w A n l)(hn:n<=140737488355328) :
  Calls Tryz.prog 156 #[.slice A n c] w fun e w'=>e=.returned (.bool (a0z l))/\Dr w w':=by
 have HL:=c3o hl
 have HLL:=c3o hl.len
 clear hl
 go_enter Tryz.func156,Tryz.ntmps156
 go_wp2_with fail
 go_loopw [3] (fun iv wr=>∃ k:Nat,k<=n/\iv=.int .i64 k/\Hid (∀ j,j<k->¬0<nth l j)/\Hid (Dr w wr)) (fun iv _=>n-(intOf iv).toNat)
 case atStart=>exact⟨0,by omega,rfl,c3o (fun j hj=>by omega),c3o (Dr.refl w)⟩
 case round=>
  obtain⟨k,hk,rfl,HM,HD⟩:=hrel
  by_cases hlt:k<n
  ·obtain⟨b,o,rfl,hc⟩:=HL.out.at hlt
   have hc:=(HD.out.keeps (S:=[])).cell (by simp) hc
   have e1:decide (k<n)=true:=by simpa using hlt
   by_cases hv:0<nth l k
   ·have e2:decide (0<nth l k)=true:=by simpa using hv
    have HA:Hid (a0z l=true):=c3o ((b2a l).2 ⟨k,by rw[HLL.out];exact hlt,hv⟩)
    clear hv
    go_wp2_with fail
    go_ret
    rw[HA.out]
    exact⟨rfl,HD.out⟩
   ·have e2:decide (0<nth l k)=false:=by simpa using hv
    have HV:=c3o hv
    clear hv
    go_wp2_with fail
    go_roundw
    case rel=>exact⟨k+1,by omega,by go_num,c3o (fun j hj=>by
      by_cases hjk:j=k
      ·subst hjk;exact HV.out
      ·exact HM.out j (by omega)),HD⟩
    case measure=>simp[intOf];omega
  ·obtain rfl:k=n:=by omega
   have e1:decide (k<k)=false:=by simp
   have HA:=c3o (b0i (fun j hj=>HM.out j (by rw[HLL.out] at hj;exact hj)))
   go_wp2_with fail
   go_ret
   rw[HA.out]
   exact⟨rfl,HD.out⟩
theorem a6a(w:World)(n:Nat)(ni:Int)(hni:ni=n)(hn:n<=15):Calls Tryz.prog 180 #[.int .i64 ni] w fun e w'=>e=.returned (.int .i64 ((2^n:Nat):Int))/\w=w':=by
 subst hni
 go_enter Tryz.func180,Tryz.ntmps180
 go_wp2_with fail
 go_loopw [3,4] (fun pv iv wr=>∃ k:Nat,k<=n/\iv=.int .i64 k/\pv=.int .i64 ((2^k:Nat):Int)/\Hid (w=wr)) (fun _ iv _=>n-(intOf iv).toNat)
 case atStart=>exact⟨0,by omega,rfl,rfl,c3o rfl⟩
 case round=>
  obtain⟨k,hk,rfl,rfl,HD⟩:=hrel
  have hb:2^k<=2^15:=c3u (by decide) (by omega)
  have HS:Hid (2^(k+1)=2*2^k):=c3o (by rw[Nat.pow_succ];omega)
  rw[show (2:Nat)^15=32768 from rfl] at hb
  obtain⟨x,hx⟩:∃ x,x=2^k:=⟨_,rfl⟩
  have HX:=c3o hx
  rw[<-hx] at hb HS ⊢
  clear hx
  by_cases hlt:k<n
  ·have e1:decide (k<n)=true:=by simpa using hlt
   go_wp2_with fail
   go_roundw
   case rel=>exact⟨k+1,by omega,by go_num,by rw[HS.out];go_num,HD⟩
   case measure=>simp[intOf];omega
  ·obtain rfl:k=n:=by omega
   have e1:decide (k<k)=false:=by simp
   go_wp2_with fail
   go_ret
   exact⟨by first|rfl|(rw[HX.out];rfl),HD.out⟩
def a2G(s:Nat):Nat:=if s<265 then 0 else (s-261)/4
theorem a5Z(w:World)(s:Nat)(si:Int)(hsi:si=s)(hs:s<=1000):Calls Tryz.prog 181 #[.int .i64 si] w fun e w'=>e=.returned (.int .i64 (a2G s))/\w=w':=by
 subst hsi
 by_cases h:s<265
 ·have e1:decide (s<265)=true:=by simpa using h
  have e1':decide ((s:Int)<265)=true:=by simp;omega
  have HE:Hid (a2G s=0):=c3o (if_pos h)
  rw[HE.out]
  go_enter Tryz.func181,Tryz.ntmps181
  go_wp2_with fail
  go_ret
  exact⟨rfl,rfl⟩
 ·have e1:decide (s<265)=false:=by simpa using h
  have e1':decide ((s:Int)<265)=false:=by simp;omega
  have HE:Hid (((a2G s:Nat):Int)=((s:Int)-261)/4):=c3o (by unfold a2G;rw[if_neg h];omega)
  rw[HE.out]
  go_enter Tryz.func181,Tryz.ntmps181
  go_wp2_with fail
  go_ret
  exact⟨rfl,rfl⟩
theorem a7G(w:World)(s:Nat)(si:Int)(hsi:si=s)(hs:s<=1000):Calls Tryz.prog 182 #[.int .i64 si] w fun e w'=>e=.returned (.int .i64 (a0J s))/\w=w':=by
 subst hsi
 by_cases h:s<4
 ·have e1:decide (s<4)=true:=by simpa using h
  have e1':decide ((s:Int)<4)=true:=by simp;omega
  have HE:Hid (a0J s=0):=c3o (if_pos h)
  rw[HE.out]
  go_enter Tryz.func182,Tryz.ntmps182
  go_wp2_with fail
  go_ret
  exact⟨rfl,rfl⟩
 ·have e1:decide (s<4)=false:=by simpa using h
  have e1':decide ((s:Int)<4)=false:=by simp;omega
  have HE:Hid (((a0J s:Nat):Int)=((s:Int)-2)/2):=c3o (by unfold a0J;rw[if_neg h];omega)
  rw[HE.out]
  go_enter Tryz.func182,Tryz.ntmps182
  go_wp2_with fail
  go_ret
  exact⟨rfl,rfl⟩
def lb:Nat->Nat
 | 0=>3
 | k+1=>lb k+2^a2G (257+k)
theorem b6V:∀ k,k<28->lb k=a1m (257+k)/\a2G (257+k)=lenK (257+k)/\lb k<=1000/\a2G (257+k)<=5:=by decide
def db:Nat->Nat
 | 0=>1
 | k+1=>db k+2^a0J k
theorem b6F:∀ k,k<30->db k=a0r k/\db k<=40000/\a0J k<=13:=by decide +kernel
def RNum(w:World)(g:Nat)(B:Option Addr)(M c:Nat)(bs:List Int)(p:Nat)(out:List Int)(most:Nat)(ob:Option Nat)(base k:Nat)(r:Ending)(w':World):Prop:=
 ∃ (v:Int) (p':Nat) (e':Int),r=.returned (.int .i64 v)/\RD w' g B M c bs p' out most e' ob/\Keeps [g] w w'/\0<=v/\v<=100000 /\
  ((p+k<=M/\e'=0/\v=base+numB bs p k/\p'=p+k)∨(M<p+k/\e'=55))
theorem a9M(w:World)(g:Nat)(B:Option Addr)(M c:Nat)(bs:List Int)(p:Nat)(out:List Int)(most:Nat)(ob:Option Nat)(s:Nat)(h:RD w g B M c bs p out most 0 ob)(hs:257<=s)(hs2:s<=285) :
  Calls Tryz.prog 171 #[.pointer (some ⟨g,0,none⟩),.int .i64 s] w (RNum w g B M c bs p out most ob (a1m s) (lenK s)):=by
 have H:=c3o h
 have hle:=h.le
 clear h
 by_cases h5:s=285
 ·subst h5
  go_enter Tryz.func171,Tryz.ntmps171
  go_wp2_with fail
  go_ret
  exact⟨258,p,0,rfl,H.out,Keeps.refl _ _,by omega,by omega,.inl ⟨by simp[lenK];omega,rfl,by simp[a1m,lenK,numB],by simp[lenK]⟩⟩
 have e1:((s:Int)==285)=false:=by simp;omega
 obtain⟨j,rfl⟩:∃ j,s=257+j:=⟨s-257,by omega⟩
 have hj:j<28:=by omega
 obtain⟨b1,b2,b3,b4⟩:=b6V j hj
 have HB1:=c3o b1
 have HB2:=c3o b2
 clear b1 b2
 have hc:((257+j:Nat):Int)=257+(j:Int):=by omega
 rw[hc] at e1 ⊢
 go_enter Tryz.func171,Tryz.ntmps171
 go_wp2_with fail
 clear e1 hc
 go_loopw [5,6] (fun bv kv wr=>∃ k:Nat,k<=j/\kv=.int .i64 (257+(k:Int))/\bv=.int .i64 (lb k)/\Hid (w=wr)) (fun _ kv _=>257+j-(intOf kv).toNat)
 case atStart=>exact⟨0,by omega,rfl,rfl,c3o rfl⟩
 case round=>
  obtain⟨k,hk,rfl,rfl,HD⟩:=hrel
  obtain⟨d1,d2,d3,d4⟩:=b6V k (by omega)
  have HS:Hid (lb (k+1)=lb k+2^a2G (257+k)):=c3o rfl
  clear d1 d2
  by_cases hlt:k<j
  ·have e2:decide (257+(k:Int)<257+(j:Int))=true:=by simp;omega
   go_wp2_with fail
   refine (a5Z wr (257+k) _ (by omega) (by omega)).mono ?_
   rintro _ w1 ⟨rfl,rfl⟩
   go_wp2_with fail
   refine (a6a wr (a2G (257+k)) _ rfl (by omega)).mono ?_
   rintro _ w1 ⟨rfl,rfl⟩
   have hp:2^a2G (257+k)<=2^5:=c3u (by decide) d4
   rw[show (2:Nat)^5=32 from rfl] at hp
   generalize 2^a2G (257+k)=y at *
   generalize lb k=z at *
   go_wp2_with fail
   go_roundw
   case rel=>exact⟨k+1,by omega,by go_num,by rw[HS.out];go_num,HD⟩
   case measure=>simp[intOf];omega
  ·obtain rfl:k=j:=by omega
   have e2:decide (257+(k:Int)<257+(k:Int))=false:=by simp
   have HDw:=HD.out
   subst HDw
   go_wp2_with fail
   refine (a5Z w (257+k) _ (by omega) (by omega)).mono ?_
   rintro _ w1 ⟨rfl,rfl⟩
   go_wp2_with fail
   refine (a0v w g B M c bs p out most 0 ob (a2G (257+k)) _ rfl H.out (by omega)).mono ?_
   rintro _ w2 ⟨v,p',e',rfl,h2,k2,v0,v1,-,hc⟩
   have H2:=c3o h2
   have K2:=c3o k2
   have p32:(2:Int)^a2G (257+k)<=32:=by
    have:(2:Nat)^a2G (257+k)<=2^5:=c3u (by decide) d4
    exact_mod_cast this
   have hv:v<=32:=by omega
   have HC:=c3o hc
   clear h2 k2 hc v1 p32 HS
   generalize hz:lb k=z at *
   have HZ:=c3o hz
   clear hz
   go_wp2_with fail
   go_ret
   refine⟨(z:Int)+v,p',e',rfl,H2.out,K2.out,by omega,by omega,?_⟩
   rw[<-HB1.out,<-HB2.out]
   rcases HC.out with⟨-,x1,x2,x3,x4⟩|⟨-,x1,x2,_⟩|⟨x1,_⟩
   ·exact .inl ⟨x1,x2,by rw[x3],x4⟩
   ·exact .inr ⟨x1,x2⟩
   ·exact absurd rfl x1
theorem a7B(w:World)(g:Nat)(B:Option Addr)(M c:Nat)(bs:List Int)(p:Nat)(out:List Int)(most:Nat)(ob:Option Nat)(j:Nat)(h:RD w g B M c bs p out most 0 ob)(hj:j<30) :
  Calls Tryz.prog 172 #[.pointer (some ⟨g,0,none⟩),.int .i64 j] w (RNum w g B M c bs p out most ob (a0r j) (a0J j)):=by
 have H:=c3o h
 have hle:=h.le
 clear h
 obtain⟨b1,b3,b4⟩:=b6F j hj
 have HB1:=c3o b1
 clear b1
 go_enter Tryz.func172,Tryz.ntmps172
 go_wp2_with fail
 go_loopw [5,6] (fun bv kv wr=>∃ k:Nat,k<=j/\kv=.int .i64 k/\bv=.int .i64 (db k)/\Hid (w=wr)) (fun _ kv _=>j-(intOf kv).toNat)
 case atStart=>exact⟨0,by omega,rfl,rfl,c3o rfl⟩
 case round=>
  obtain⟨k,hk,rfl,rfl,HD⟩:=hrel
  obtain⟨d1,d3,d4⟩:=b6F k (by omega)
  have HS:Hid (db (k+1)=db k+2^a0J k):=c3o rfl
  clear d1
  by_cases hlt:k<j
  ·have e2:decide (k<j)=true:=by simpa using hlt
   go_wp2_with fail
   refine (a7G wr k _ rfl (by omega)).mono ?_
   rintro _ w1 ⟨rfl,rfl⟩
   go_wp2_with fail
   refine (a6a wr (a0J k) _ rfl (by omega)).mono ?_
   rintro _ w1 ⟨rfl,rfl⟩
   have hp:2^a0J k<=2^13:=c3u (by decide) d4
   rw[show (2:Nat)^13=8192 from rfl] at hp
   generalize 2^a0J k=y at *
   generalize db k=z at *
   go_wp2_with fail
   go_roundw
   case rel=>exact⟨k+1,by omega,by go_num,by rw[HS.out];go_num,HD⟩
   case measure=>simp[intOf];omega
  ·obtain rfl:k=j:=by omega
   have e2:decide (k<k)=false:=by simp
   have HDw:=HD.out
   subst HDw
   go_wp2_with fail
   refine (a7G w k _ rfl (by omega)).mono ?_
   rintro _ w1 ⟨rfl,rfl⟩
   go_wp2_with fail
   refine (a0v w g B M c bs p out most 0 ob (a0J k) _ rfl H.out (by omega)).mono ?_
   rintro _ w2 ⟨v,p',e',rfl,h2,k2,v0,v1,-,hc⟩
   have H2:=c3o h2
   have K2:=c3o k2
   have p32:(2:Int)^a0J k<=8192:=by
    have:(2:Nat)^a0J k<=2^13:=c3u (by decide) d4
    exact_mod_cast this
   have hv:v<=8192:=by omega
   have HC:=c3o hc
   clear h2 k2 hc v1 p32 HS
   generalize hz:db k=z at *
   have HZ:=c3o hz
   clear hz
   go_wp2_with fail
   go_ret
   refine⟨(z:Int)+v,p',e',rfl,H2.out,K2.out,by omega,by omega,?_⟩
   rw[<-HB1.out]
   rcases HC.out with⟨-,x1,x2,x3,x4⟩|⟨-,x1,x2,_⟩|⟨x1,_⟩
   ·exact .inl ⟨x1,x2,by rw[x3],x4⟩
   ·exact .inr ⟨x1,x2⟩
   ·exact absurd rfl x1
open Go.RowKit
theorem b4W{dist bs:List Int}{most s:Nat}{out:List Int}{p:Nat}(h:285<s):a0I dist bs most s out p=(out,0,53):=by unfold a0I;rw[if_pos h]
theorem b6D{dist bs:List Int}{most s:Nat}{out:List Int}{p:Nat}(h:¬285<s)(h2:8*bs.length<p+lenK s):a0I dist bs most s out p=(out,0,55):=by unfold a0I;rw[if_neg h,if_pos h2]
theorem b4X{dist bs:List Int}{most s:Nat}{out:List Int}{p:Nat}(h:¬285<s)(h2:¬8*bs.length<p+lenK s)(h3:a0z dist=false):a0I dist bs most s out p=(out,0,53):=by unfold a0I;rw[if_neg h,if_neg h2,if_pos h3]
theorem b4Y{dist bs:List Int}{most s:Nat}{out:List Int}{p q:Nat}(h:¬285<s)(h2:¬8*bs.length<p+lenK s)(h3:a0z dist=true)(hq:q=p+lenK s) :
  a0I dist bs most s out p=if (decF dist bs q).2.1≠0 then (out,0,endF (decF dist bs q).2.1 53)
   else if 29<(decF dist bs q).1 then (out,0,53)
   else if 8*bs.length<q+(decF dist bs q).2.2+a0J (decF dist bs q).1.toNat then (out,0,55)
   else if (out.length:Int)<a0r (decF dist bs q).1.toNat+numB bs (q+(decF dist bs q).2.2) (a0J (decF dist bs q).1.toNat) then (out,0,54)
   else if (layN ((a0r (decF dist bs q).1.toNat:Int)+numB bs (q+(decF dist bs q).2.2) (a0J (decF dist bs q).1.toNat)).toNat most (a1m s+(numB bs p (lenK s)).toNat) out).2≠0 then
    ((layN ((a0r (decF dist bs q).1.toNat:Int)+numB bs (q+(decF dist bs q).2.2) (a0J (decF dist bs q).1.toNat)).toNat most (a1m s+(numB bs p (lenK s)).toNat) out).1,0,56)
   else ((layN ((a0r (decF dist bs q).1.toNat:Int)+numB bs (q+(decF dist bs q).2.2) (a0J (decF dist bs q).1.toNat)).toNat most (a1m s+(numB bs p (lenK s)).toNat) out).1,q+(decF dist bs q).2.2+a0J (decF dist bs q).1.toNat,0):=by
 subst hq
 unfold a0I
 rw[if_neg h,if_neg h2,if_neg (by rw[h3];simp)]
theorem a9H (w:World) (g:Nat) (B:Option Addr) (M c:Nat) (bs:List Int) (p:Nat) (out:List Int) (most:Nat) (ob:Option Nat) (s:Nat) (dist:List Int) (A2:Option Addr) (n2 c2:Nat) (g2 top:Nat) (h:RD w g B M c bs p out most 0 ob)
  (hd:RI .i64 w A2 n2 dist) (hr:RBT w g2 top n2 (rowsF dist)) (hc:a0z dist=true->a0e dist=0) (hn:n2<=288) (hs:257<=s) (hs2:s<=100000) (hA:∀ a,A2=some a->a.block≠g) (hg2:g<g2) (hap:b0g g2 top ob) :
  Calls Tryz.prog 152 #[.pointer (some ⟨g,0,none⟩),.int .i64 s,.slice A2 n2 c2,.slice (some ⟨g2,0,none⟩) n2 n2] w (b6f w g B M c bs most ob (a0I dist bs most s out p)):=by
 have H:=c3o h
 have HD:=c3o hd
 have HR:=c3o hr
 have HC:=c3o hc
 have HML:=c3o h.len
 have HA2:=c3o hA
 have hsz:=h.sz
 obtain⟨-,-,-,c4,-⟩:=h.cells
 have f4:=h.free 4
 have HAP:=c3o hap
 clear h hd hr hc hA hap
 go_enter Tryz.func152,Tryz.ntmps152
 by_cases h1:285<s
 ·have e1:decide (285<s)=true:=by simpa using h1
  have e1':decide ((285:Int)<(s:Int))=true:=by simp;omega
  have HE:=c3o (b4W (dist:=dist) (bs:=bs) (most:=most) (out:=out) (p:=p) h1)
  go_wp2_with fail
  exact c3x (v:=.tuple #[]) (c3y rfl _ _ _) rfl (a0G HE.out (by decide) (H.out.wrong 53) (FR.of_keeps (a0D _ g 4 _)))
 have e1:decide (285<s)=false:=by simpa using h1
 have e1':decide ((285:Int)<(s:Int))=false:=by simp;omega
 have HS:=c3o h1
 go_wp2_with fail
 clear c4 f4
 refine (a9M w g B M c bs p out most ob s H.out hs (by omega)).mono ?_
 rintro _ w1 ⟨n,p1,e1,rfl,hh1,k1,n0,n1,hc1⟩
 have H1:=c3o hh1
 have K1:Hid (FR g ob ob w w1):=c3o (FR.of_keeps k1)
 have HD1:=c3o (HD.out.keeps k1 (fun a ha hm=>HA2.out a ha (c3p.1 hm)))
 obtain⟨-,-,-,c4,-⟩:=hh1.cells
 have f4:=hh1.free 4
 rcases hc1 with⟨hf1,rfl,hnv,rfl⟩|⟨hf1,rfl⟩
 rotate_left
 ·have HE:=c3o (b6D (dist:=dist) (most:=most) (out:=out) HS.out (show 8*bs.length<p+lenK s by have:=HML.out;omega))
  clear hh1 k1
  go_wp2_with fail
  clear c4 f4
  refine (b4t w1 g B M c bs p1 out most 55 ob _ 53 H1.out (by decide)).mono ?_
  rintro _ w2 ⟨rfl,hh2,k2⟩
  have H2:=c3o hh2
  have K2:=c3o (K1.out.trans (FR.of_nil k2))
  obtain⟨-,-,-,c4,-⟩:=hh2.cells
  clear hh2 k2
  go_wp2_with fail
  exact c3x (v:=.tuple #[]) (c3y rfl _ _ _) rfl (a0G HE.out (by decide) H2.out K2.out)
 have HF1:Hid (¬8*bs.length<p+lenK s):=c3o (by have:=HML.out;omega)
 obtain⟨q,hq⟩:∃ q,q=p+lenK s:=⟨_,rfl⟩
 have HQ:=c3o hq
 rw[<-hq] at H1 hf1
 obtain⟨N,hN⟩:∃ N:Nat,n=N:=⟨n.toNat,by omega⟩
 have HN:Hid (N=a1m s+(numB bs p (lenK s)).toNat):=c3o (by
  have:=(a0F bs p (lenK s)).1
  omega)
 subst hN
 clear hh1 k1 hq hnv n0 H
 go_wp2_with fail
 refine (a7F w1 A2 n2 c2 dist HD1.out (by omega)).mono ?_
 rintro _ w2 ⟨rfl,hd2⟩
 have hk2:=hd2.keeps (S:=[])
 have H2:=c3o (H1.out.keeps hk2)
 have K2:=c3o (K1.out.trans (FR.of_nil hk2))
 obtain⟨-,-,-,c4,-⟩:=H2.out.cells
 have f4:=H2.out.free 4
 clear hd2 hk2 H1 K1 HD1
 obtain⟨u,hu⟩:∃ u,u=a0z dist:=⟨_,rfl⟩
 have HU:=c3o hu
 rw[<-hu]
 clear hu
 cases u with
 | false=>
  have HE:=c3o (b4X (dist:=dist) (most:=most) (out:=out) HS.out HF1.out HU.out.symm)
  have HX:=c3o (H2.out.wrong 53)
  have KX:=c3o (K2.out.trans (FR.of_keeps (a0D w2 g 4 (.int .i64 53))))
  go_wp2_with fail
  clear c4 f4
  refine (b4t _ g B M c bs q out most 53 ob _ 53 HX.out (by decide)).mono ?_
  rintro _ w3 ⟨rfl,hh3,k3⟩
  have H3:=c3o hh3
  have K3:=c3o (KX.out.trans (FR.of_nil k3))
  obtain⟨-,-,-,c4,-⟩:=hh3.cells
  clear hh3 k3 H2 K2 HX KX
  go_wp2_with fail
  exact c3x (v:=.tuple #[]) (c3y rfl _ _ _) rfl (a0G HE.out (by decide) H3.out K3.out)
 | true=>
  have HE:=c3o (b4Y (dist:=dist) (most:=most) (out:=out) HS.out HF1.out HU.out.symm HQ.out)
  rw[<-HN.out] at HE
  obtain⟨hrb,hap2⟩:=HR.out.fr K2.out hg2 HAP.out
  have HRB:=c3o hrb
  clear hrb hap2
  go_wp2_with fail
  clear c4 f4
  refine (a5H w2 g B M c bs q out most ob g2 top n2 dist 53 H2.out HRB.out (HC.out HU.out.symm) hn).mono ?_
  rintro _ w3 ⟨rfl,hh3,k3⟩
  have H3:=c3o hh3
  have K3:=c3o (K2.out.trans (FR.of_keeps k3))
  have hbd:=a6O dist bs q (by have:=HML.out;omega)
  obtain⟨-,-,-,c4,-⟩:=hh3.cells
  have f4:=hh3.free 4
  clear hh3 k3 H2 K2 HRB
  generalize decF dist bs q=dr at *
  obtain⟨sy,er,nn⟩:=dr
  simp only[] at H3 hbd HE c4 ⊢
  rcases hbd with⟨rfl,d,rfl,hdl2,hq2⟩|⟨her,rfl,rfl⟩
  rotate_left
  ·have HR2:=c3o (HE.out.trans (if_pos her))
   have HNE:Hid (endF er 53≠0):=c3o (fun h=>her (a1Q (by decide) h))
   obtain⟨y,hy⟩:∃ y,y=endF er 53:=⟨_,rfl⟩
   rw[<-hy] at HR2 HNE H3 c4
   have e5:(y==0)=false:=by simpa using HNE.out
   have e6:(y !=0)=true:=by simpa using HNE.out
   clear her HE hy
   go_wp2_with fail
   exact c3x (v:=.tuple #[]) (c3y rfl _ _ _) rfl (a0G HR2.out HNE.out H3.out K3.out)
  rw[show endF 0 53=0 from rfl] at H3 c4
  rw[c3A] at HE
  have HE2:=c3o (HE.out.trans (if_neg (by simp)))
  clear HE hdl2
  by_cases hd29:29<d
  ·have HR2:=c3o (HE2.out.trans (if_pos (by omega)))
   have e5:decide (29<d)=true:=by simpa using hd29
   have e5':decide ((29:Int)<(d:Int))=true:=by simp;omega
   have HX:=c3o (H3.out.wrong 53)
   have KX:=c3o (K3.out.trans (FR.of_keeps (a0D w3 g 4 (.int .i64 53))))
   obtain⟨-,-,-,d4,-⟩:=HX.out.cells
   clear HE2
   go_wp2_with fail
   exact c3x (v:=.tuple #[]) (c3y rfl _ _ _) rfl (a0G HR2.out (by decide) HX.out KX.out)
  have e5:decide (29<d)=false:=by simpa using hd29
  have e5':decide ((29:Int)<(d:Int))=false:=by simp;omega
  have HE3:=c3o (HE2.out.trans (if_neg (by omega)))
  clear HE2
  go_wp2_with fail
  clear c4 f4 e5 e5'
  refine (a7B w3 g B M c bs (q+nn) out most ob d H3.out (by omega)).mono ?_
  rintro _ w4 ⟨fv,p4,e4,rfl,hh4,k4,n04,n14,hc4⟩
  have H4:=c3o hh4
  have K4:=c3o (K3.out.trans (FR.of_keeps k4))
  obtain⟨-,-,-,c4,A5,c5,cc5,-⟩:=hh4.cells
  have f4:=hh4.free 4
  rcases hc4 with⟨hf4,rfl,hfv,rfl⟩|⟨hf4,rfl⟩
  rotate_left
  ·have HR2:=c3o (HE3.out.trans (if_pos (show 8*bs.length<q+nn+a0J d by have:=HML.out;omega)))
   clear hh4 k4 HE3 H3 K3 cc5
   go_wp2_with fail
   clear c4 f4
   go_loopg [11] 1 (fun k iv wr=>iv=.int .i64 0/\0<k/\Hid (RD wr g B M c bs p4 out most 55 ob)/\Hid (FR g ob ob w wr))
   case atStart=>exact⟨rfl,by omega,H4,K4⟩
   case round=>
    obtain⟨rfl,hk,HX,KX⟩:=hrel
    obtain⟨-,-,-,c4,-⟩:=HX.out.cells
    by_cases hN:0<N
    ·have e1:decide ((0:Int)<(N:Int))=true:=by simp;omega
     go_wp2_with fail
     go_end0
     exact a0G HR2.out (by decide) HX.out KX.out
    ·have e1:decide ((0:Int)<(N:Int))=false:=by simp;omega
     go_wp2_with fail
     go_end0
     exact a0G HR2.out (by decide) HX.out KX.out
  have HE4:=c3o (HE3.out.trans (if_neg (show ¬8*bs.length<q+nn+a0J d by have:=HML.out;omega)))
  rw[<-hfv] at HE4
  obtain⟨F,hF⟩:∃ F:Nat,fv=F:=⟨fv.toNat,by omega⟩
  subst hF
  rw[c3A] at HE4
  obtain⟨q3,hq3⟩:∃ x,x=q+nn+a0J d:=⟨_,rfl⟩
  rw[<-hq3] at HE4 H4
  obtain⟨Lo,hLo⟩:∃ L,L=out.length:=⟨_,rfl⟩
  have HLo:=c3o hLo
  rw[<-hLo] at cc5 HE4
  have hF1:1<=F:=by
   have h1:=(a0F bs (q+nn) (a0J d)).1
   have h2:1<=a0r d:=by unfold a0r;split<;>omega
   omega
  clear hh4 k4 HE3 H3 K3 hLo hfv hq3 hf4
  by_cases hfar:Lo<F
  ·have HR2:=c3o (HE4.out.trans (if_pos (by omega)))
   have e6:decide (Lo<F)=true:=by simpa using hfar
   have e6':decide ((Lo:Int)<(F:Int))=true:=by simp;omega
   have HX:=c3o (H4.out.wrong 54)
   have KX:=c3o (K4.out.trans (FR.of_keeps (a0D w4 g 4 (.int .i64 54))))
   clear HE4
   go_wp2_with fail
   clear c4 f4 cc5 e6 e6'
   go_loopg [11] 1 (fun k iv wr=>iv=.int .i64 0/\0<k/\Hid (RD wr g B M c bs q3 out most 54 ob)/\Hid (FR g ob ob w wr))
   case atStart=>exact⟨rfl,by omega,HX,KX⟩
   case round=>
    clear HX KX
    obtain⟨rfl,hk,HX,KX⟩:=hrel
    obtain⟨-,-,-,c4,-⟩:=HX.out.cells
    by_cases hN:0<N
    ·have e1:decide ((0:Int)<(N:Int))=true:=by simp;omega
     go_wp2_with fail
     go_end0
     exact a0G HR2.out (by decide) HX.out KX.out
    ·have e1:decide ((0:Int)<(N:Int))=false:=by simp;omega
     go_wp2_with fail
     go_end0
     exact a0G HR2.out (by decide) HX.out KX.out
  have e6:decide (Lo<F)=false:=by simpa using hfar
  have e6':decide ((Lo:Int)<(F:Int))=false:=by simp;omega
  have HE5:=c3o (HE4.out.trans (if_neg (by omega)))
  have HFL:Hid (F<=out.length):=c3o (by have:=HLo.out;omega)
  clear HE4
  go_wp2_with fail
  clear c4 f4 cc5 e6 e6' hfar HLo
  go_loopw [11] (fun iv wr=>∃ (i:Nat) (o:List Int) (e:Int) (ob':Option Nat),i<=N/\iv=.int .i64 i/\Hid ((e=0/\layN F most N out=layN F most (N-i) o/\F<=o.length)∨(e=56/\layN F most N out=(o,56))) /\
   Hid (RD wr g B M c bs q3 o most e ob')/\Hid (FR g ob ob' w wr)) (fun iv _=>N-(intOf iv).toNat)
  case atStart=>exact⟨0,out,0,ob,by omega,rfl,c3o (.inl ⟨rfl,rfl,HFL.out⟩),H4,K4⟩
  case round=>
   clear H4 K4 HFL
   obtain⟨i,o,e,ob',hi,rfl,HS2,H,K⟩:=hrel
   obtain⟨-,-,-,c4,A4,c44,hc1,hri⟩:=H.out.cells
   rcases HS2.out with⟨rfl,hsf,hfl⟩|⟨rfl,hsf⟩
   ·by_cases hlt:i<N
    ·have e0:decide (i<N)=true:=by simpa using hlt
     have e0':decide ((i:Int)<(N:Int))=true:=by simp;omega
     have HL':Hid (layN F most N out=if most<=o.length then (o,56) else layN F most (N-(i+1)) (o++[nth o (o.length-F)])):=c3o (by rw[hsf,show N-i=(N-(i+1))+1 by omega,layN])
     have HFL:=c3o hfl
     obtain⟨Lo2,hLo⟩:∃ L,L=o.length:=⟨_,rfl⟩
     have HLo:=c3o hLo
     rw[<-hLo] at hc1 hri hfl
     have hLb:Lo2<=16384:=by have:=H.out.cap;have:=H.out.mx;omega
     clear hLo hsf HS2
     obtain⟨b4,o4,hA4,hcc⟩:=hri.at (show Lo2-F<Lo2 by omega)
     subst hA4
     obtain⟨x,hx⟩:∃ x,x=nth o (Lo2-F):=⟨_,rfl⟩
     rw[<-hx] at hcc
     have HX:Hid (x=nth o (o.length-F)):=c3o (by rw[hx,HLo.out])
     clear hx hri
     have s1:IntKind.i64.wrap ((Lo2:Int)-(F:Int))=(Lo2:Int)-(F:Int):=c3z _ (by omega)
     have s2:(0:Int)<=(Lo2:Int)-(F:Int):=by omega
     have s3:(Lo2:Int)-(F:Int)<(Lo2:Int):=by omega
     have s4:((Lo2:Int)-(F:Int)).toNat=Lo2-F:=by omega
     go_wp2_with fail
     go_still_tail 14,(by kernel_rfl)
     change wpList _ _ _ _ _ wr.drew
     have hdr:=(Keeps.refl [] wr).drew
     have Hd:=c3o (H.out.keeps hdr)
     have Kd:=c3o (K.out.trans (FR.of_nil hdr))
     clear hdr H K hc1 hcc s1 s2 s3 s4 c4
     go_wp2_with fail
     refine (a5F wr.drew g B M c bs q3 o most 0 ob' x Hd.out).mono ?_
     rintro _ w5 ⟨rfl,hl5⟩
     rcases hl5 with⟨z1,_⟩|⟨-,z2,z3,z4⟩|⟨-,z2,ob2,z3,z4⟩
     ·exact absurd rfl z1
     ·have H5:=c3o z3
      have K5:=c3o (Kd.out.trans z4)
      have HS3:Hid (layN F most N out=(o,56)):=c3o (by rw[HL'.out,if_pos z2])
      clear z2 z3 z4 Hd Kd HL'
      go_wp2_with fail
      go_roundw
      case rel=>exact⟨i+1,o,56,ob',by omega,by go_num,c3o (.inr ⟨rfl,HS3.out⟩),H5,K5⟩
      case measure=>simp[intOf];omega
     ·have H5:=c3o z3
      have K5:=c3o (Kd.out.trans z4)
      have HS3:Hid (layN F most N out=layN F most (N-(i+1)) (o++[x])):=c3o (by rw[HL'.out,if_neg (by omega),HX.out])
      clear z2 z3 z4 Hd Kd HL'
      go_wp2_with fail
      go_roundw
      case rel=>exact⟨i+1,o++[x],0,ob2,by omega,by go_num,c3o (.inl ⟨rfl,HS3.out,by have:=HFL.out;rw[c3r];omega⟩),H5,K5⟩
      case measure=>simp[intOf];omega
    ·obtain rfl:i=N:=by omega
     have e0:decide (i<i)=false:=by simp
     have e0':decide ((i:Int)<(i:Int))=false:=by simp
     have HR2:Hid (a0I dist bs most s out p=(o,q3,0)):=c3o (by rw[HE5.out,hsf,Nat.sub_self,layN,if_neg (by simp)])
     clear hsf HS2 HE5 hri hc1
     go_wp2_with fail
     go_end0
     exact a9O HR2.out H.out K.out
   ·have HR2:Hid (a0I dist bs most s out p=(o,0,56)):=c3o (by rw[HE5.out,hsf];exact if_pos (show (56:Int)≠0 by decide))
    clear hsf HS2 HE5 hri hc1
    by_cases hlt:i<N
    ·have e0:decide (i<N)=true:=by simpa using hlt
     have e0':decide ((i:Int)<(N:Int))=true:=by simp;omega
     go_wp2_with fail
     go_end0
     exact a0G HR2.out (by decide) H.out K.out
    ·have e0:decide (i<N)=false:=by simpa using hlt
     have e0':decide ((i:Int)<(N:Int))=false:=by simp;omega
     go_wp2_with fail
     go_end0
     exact a0G HR2.out (by decide) H.out K.out
open Go.RowKit
theorem b2W(w:World)(n:Nat)(hn:n<=40) :
  Calls Tryz.prog 169 #[.int .i64 n] w fun e w'=>e=.returned (.int .i64 ((2^n:Nat):Int))/\Dr w w':=by
 go_enter Tryz.func169,Tryz.ntmps169
 go_wp2_with fail
 go_loopw [3,4] (fun v i wr=>∃ (k:Nat) (m:Nat),k<=n/\i=.int .i64 k/\v=.int .i64 m/\Hid (m=2^k)/\Hid (Dr w wr)) (fun _ i _=>n-(intOf i).toNat)
 case atStart=>exact⟨0,1,by omega,rfl,rfl,c3o rfl,⟨0,rfl⟩⟩
 case round=>
  obtain⟨k,m,hk,rfl,rfl,HM,HD⟩:=hrel
  obtain⟨q,rfl⟩:=HD.out
  clear HD
  have hb:m<=1099511627776:=by
   rw[HM.out]
   exact c3t (c3u (by decide) (show k<=40 by omega)) (by decide)
  by_cases hlt:k<n
  ·go_wp2_with fail
   go_roundw
   case rel=>exact⟨k+1,2*m,by omega,by go_num,by go_num,c3o (by rw[HM.out,Nat.pow_succ];omega),⟨_,rfl⟩⟩
   case measure=>simp[intOf];omega
  ·obtain rfl:k=n:=by omega
   go_wp2_with fail
   go_ret
   rw[<-HM.out]
   exact⟨rfl,_,rfl⟩
theorem a5Y(w:World)(n:Nat)(ni:Int)(hi:ni=n)(hn:n<=40) :
  Calls Tryz.prog 169 #[.int .i64 ni] w fun e w'=>e=.returned (.int .i64 ((2^n:Nat):Int))/\Dr w w':=by
 subst hi;exact b2W w n hn
theorem b5X(w:World)(A:Option Addr)(n c:Nat)(l:List Int)(hl:RI .i64 w A n l)(hn:n<=100000) :
  Calls Tryz.prog 174 #[.slice A n c] w fun e w'=>e=.returned (.int .i64 (usedF l))/\Dr w w':=by
 have HLL:=c3o hl.len
 have HL:=c3o hl
 clear hl
 go_enter Tryz.func174,Tryz.ntmps174
 go_wp2_with fail
 go_loopw [3,4] (fun v i wr=>∃ k:Nat,k<=n/\i=.int .i64 k/\v=.int .i64 (usedF (l.take k))/\Hid (Dr w wr)) (fun _ i _=>n-(intOf i).toNat)
 case atStart=>exact⟨0,by omega,rfl,rfl,⟨0,rfl⟩⟩
 case round=>
  obtain⟨k,hk,rfl,rfl,HD⟩:=hrel
  obtain⟨q,rfl⟩:=HD.out
  clear HD
  have hu:=b4I (l.take k)
  have htk:(l.take k).length=k:=by rw[List.length_take];have:=HLL.out;omega
  rw[htk] at hu
  clear htk
  by_cases hlt:k<n
  ·obtain⟨b,o,rfl,hc⟩:=HL.out.at hlt
   have US:=c3o (a5P l k (by have:=HLL.out;omega))
   generalize usedF (l.take k)=U at *
   by_cases hz:0<nth l k
   ·have e3:decide (0<nth l k)=true:=by simpa using hz
    have HU:Hid (usedF (l.take (k+1))=U+1):=by have:=US.out;rwa [if_pos hz] at this
    go_wp2_with fail
    go_roundw
    case rel=>exact⟨k+1,by omega,by go_num,by rw[HU.out];go_num,⟨_,rfl⟩⟩
    case measure=>simp[intOf];omega
   ·have e3:decide (0<nth l k)=false:=by simpa using hz
    have HU:Hid (usedF (l.take (k+1))=U):=by have:=US.out;rwa [if_neg hz,Nat.add_zero] at this
    go_wp2_with fail
    go_roundw
    case rel=>exact⟨k+1,by omega,by go_num,by rw[HU.out],⟨_,rfl⟩⟩
    case measure=>simp[intOf];omega
  ·obtain rfl:k=n:=by omega
   have htk:l.take k=l:=c3C (by have:=HLL.out;omega)
   rw[htk] at hu ⊢
   clear htk
   go_wp2_with fail
   go_ret
   exact⟨rfl,_,rfl⟩
theorem a9A(w:World)(A:Option Addr)(n c:Nat)(l:List Int)(hl:RI .i64 w A n l)(hn:n<=100000)(hok:l.all okLen=true) :
  Calls Tryz.prog 173 #[.slice A n c] w fun e w'=>e=.returned (.int .i64 (measF l))/\Dr w w':=by
 have HLL:=c3o hl.len
 have HL:=c3o hl
 have HOK:=c3o hok
 clear hl hok
 go_enter Tryz.func173,Tryz.ntmps173
 go_wp2_with fail
 go_loopw [3,4] (fun v i wr=>∃ k:Nat,k<=n/\i=.int .i64 k/\v=.int .i64 (measF (l.take k))/\Hid (Dr w wr)) (fun _ i _=>n-(intOf i).toNat)
 case atStart=>exact⟨0,by omega,rfl,rfl,⟨0,rfl⟩⟩
 case round=>
  obtain⟨k,hk,rfl,rfl,HD⟩:=hrel
  obtain⟨q,rfl⟩:=HD.out
  clear HD
  have hu:=a9z (l.take k) (by rw[List.all_eq_true];intro x hx;exact List.all_eq_true.1 HOK.out x (List.mem_of_mem_take hx))
  have htk:(l.take k).length=k:=by rw[List.length_take];have:=HLL.out;omega
  rw[htk] at hu
  clear htk
  by_cases hlt:k<n
  ·obtain⟨b,o,rfl,hc⟩:=HL.out.at hlt
   have hx:okLen (nth l k)=true:=by rw[a0o (by have:=HLL.out;omega)];exact List.all_eq_true.1 HOK.out _ (List.getElem_mem _)
   have MS:=c3o (a5A l k (by have:=HLL.out;omega))
   have hple:=b2S (nth l k) hx
   have hx1:0<=nth l k/\nth l k<=15:=by simpa [okLen] using hx
   obtain⟨hx2,hx3⟩:=hx1
   clear hx
   generalize measF (l.take k)=M at *
   by_cases hz:0<nth l k
   ·have e3:decide (0<nth l k)=true:=by simpa using hz
    have HP:Hid (((2^(15-nth l k).toNat:Nat):Int)=(part (nth l k):Int)):=by show _=_;unfold part;rw[if_pos hz]
    go_wp2_with fail
    refine (a5Y _ (15-nth l k).toNat _ (by omega) (by omega)).mono ?_
    rintro e w' ⟨rfl,hd⟩
    rw[HP.out]
    have HD2:=c3o (Dr.trans ⟨q,rfl⟩ hd)
    clear hd
    go_wp2_with fail
    go_roundw
    case rel=>exact⟨k+1,by omega,by go_num,by rw[MS.out];go_num,HD2⟩
    case measure=>simp[intOf];omega
   ·have e3:decide (0<nth l k)=false:=by simpa using hz
    have HM:Hid (measF (l.take (k+1))=M):=by have:=MS.out;rwa [a5b _ hz,Nat.add_zero] at this
    go_wp2_with fail
    go_roundw
    case rel=>exact⟨k+1,by omega,by go_num,by rw[HM.out],⟨_,rfl⟩⟩
    case measure=>simp[intOf];omega
  ·obtain rfl:k=n:=by omega
   have htk:l.take k=l:=c3C (by have:=HLL.out;omega)
   rw[htk] at hu ⊢
   clear htk
   go_wp2_with fail
   go_ret
   exact⟨rfl,_,rfl⟩
open Go.RowKit
theorem a5G(w:World)(A:Option Addr)(n c:Nat)(l:List Int)(hl:RI .i64 w A n l)(hn:n<=288)(hok:l.all okLen=true) :
  Calls Tryz.prog 150 #[.slice A n c] w fun e w'=>e=.returned (.slice (some ⟨w.heap.size,0,none⟩) n n)/\RB w' w.heap.size n (rowsF l)/\Below w.heap.size w w':=by
 have HL:=c3o hl
 have HLL:=c3o hl.len
 have HOK:=c3o hok
 clear hl hok
 obtain⟨g,hg⟩:∃ g,g=w.heap.size:=⟨_,rfl⟩
 have HG:=c3o hg
 clear hg
 have hmk:=fun w=>b7j w n (by omega)
 go_enter Tryz.func150,Tryz.ntmps150
 go_wp2_with fail
 rw[<-HG.out]
 clear hmk
 have hw1:w.alloc (.cells (Array.replicate n (Value.slice none 0 0)) 26)=w.alloc (.cells (List.replicate n (Value.slice none 0 0)).toArray 26):=by rw[List.toArray_replicate]
 rw[hw1]
 clear hw1
 have R0:Hid (RB (w.alloc (.cells (List.replicate n (Value.slice none 0 0)).toArray 26)) g n (a1i l 1 0)):=by
  rw[b3h,HLL.out,HG.out];exact RB.new w n
 have B0:Hid (Below g w (w.alloc (.cells (List.replicate n (Value.slice none 0 0)).toArray 26))):=by rw[HG.out];exact c3o ((Below.refl _ _).alloc (c3v _) _)
 generalize hw0:w.alloc (.cells (List.replicate n (Value.slice none 0 0)).toArray 26)=w0 at *
 have HW0:=c3o hw0
 clear hw0
 go_loopw [4,5,6] (fun cv lv nv wr=>∃ (m last:Nat) (code:Int),1<=m/\m<=16/\nv=.int .i64 m/\lv=.int .i64 last/\cv=.int .i64 code/\Hid (m<16->Last l m 0 code last)/\Hid (RB wr g n (a1i l m 0))/\Hid (Below g w wr)) (fun _ _ nv _=>16-(intOf nv).toNat)
 case atStart=>exact⟨1,0,0,by omega,by omega,rfl,rfl,rfl,c3o (fun _=>b5m l),R0,B0⟩
 case round=>
  clear R0 B0
  obtain⟨m,last0,code0,hm1,hm2,rfl,rfl,rfl,HLS0,HR0,HB0⟩:=hrel
  by_cases hm:m<=15
  ·obtain⟨wo,rfl⟩:∃ wo:World,wo=wr:=⟨_,rfl⟩
   have HLS1:=c3o (HLS0.out (by omega))
   clear HLS0
   have e0:decide ((m:Int)<=15)=true:=by simp;omega
   go_wp2_with fail
   go_loopw [4,5,7] (fun cv lv iv wr=>∃ (i last:Nat) (code:Int),i<=n/\iv=.int .i64 i/\lv=.int .i64 last/\cv=.int .i64 code/\Hid (Last l m i code last)/\Hid (RB wr g n (a1i l m i))/\Hid (Below g w wr)) (fun _ _ iv _=>n-(intOf iv).toNat)
   case atStart=>exact⟨0,last0,code0,by omega,rfl,rfl,rfl,HLS1,HR0,HB0⟩
   case round=>
    clear HLS1 HR0 HB0
    obtain⟨i,last,code,hi,rfl,rfl,rfl,HLS,HR,HB⟩:=hrel
    by_cases hlt:i<n
    ·obtain⟨b,o,rfl,hc⟩:=HL.out.at hlt
     have hc:=(Keeps.of_below (S:=[]) (HG.out ▸ HB.out)).cell (by simp) hc
     by_cases hx:nth l i=m
     ·have e1:(nth l i !=(m:Int))=false:=by simpa using hx
      have HX:=c3o hx
      clear hx
      have hil:Hid (i<l.length):=by have:=HLL.out;show _<_;omega
      go_upto_if 31 with (fail)
      go_cut [4] (fun cv wc=>∃ d:Int,cv=.int .i64 d/\0<=d/\d<=50000000/\Hid (d=a0P l i)/\Hid (Dr wr wc))
      case first=>
       have hbd:=b7G l (by have:=HLL.out;omega) m i (by omega)
       rw[<-a2k l m i HX.out] at hbd
       obtain⟨hb0,hb1⟩:=hbd
       have hlast:last<=m:=HLS.out.2.2.1
       have hcd0:0<=code:=HLS.out.1
       have hcd1:code<=50000000:=HLS.out.2.1
       by_cases hz:last=0
       ·have HC:=c3o (b5l HLS.out HX.out hz)
        subst hz
        go_wp2_with fail
        go_meet
        case rel=>exact⟨code,rfl,by have:=HC.out;omega,by have:=HC.out;omega,HC,c3o (Dr.refl _)⟩
       ·have e2:0<last:=by omega
        have HC:=c3o (b6R HLS.out HX.out hz)
        have hp:Hid ((2^(m-last):Int)=((2^(m-last):Nat):Int)):=by show _=_;simp
        rw[hp.out] at HC
        clear hz hp
        go_wp2_with fail
        refine (a5Y _ (m-last) _ (by omega) (by omega)).mono ?_
        rintro _ w2 ⟨rfl,hd2⟩
        have HD2:=c3o hd2
        clear hd2
        generalize 2^(m-last)=P at *
        have hwr:IntKind.i64.wrap ((code+1)*(P:Int))=(code+1)*(P:Int):=c3z _ (by rw[HC.out];omega)
        go_wp2_with fail
        go_meet
        case rel=>exact⟨_,rfl,by rw[HC.out];omega,by rw[HC.out];omega,HC,HD2⟩
      case rest=>
       obtain⟨d,rfl,hd0,hd1,HD,HDR⟩:=hcut
       obtain⟨q1,rfl⟩:=HDR.out
       clear HDR
       obtain⟨h,hh⟩:∃ h,h=wr.heap.size:=⟨_,rfl⟩
       have HH:=c3o hh
       clear hh
       have hmk:=fun w=>a1h (P:=Tryz.prog) w 26 5 .u8 1 Tryz.underlying26 a3c (m:Int) m rfl (by omega) (by omega)
       have HN:Hid (Blk ((wr.drewN q1).alloc (.cells (ints .u8 (List.replicate m 0)).toArray 5)) h 5 (ints .u8 (msbP d m 0))):=by
        rw[b7n,HH.out];exact a0d (wr.drewN q1) _ _
       have HNB:Hid (Below h wr ((wr.drewN q1).alloc (.cells (ints .u8 (List.replicate m 0)).toArray 5))):=by rw[HH.out];exact (((Keeps.refl [] wr).drewN q1).alloc _).below
       clear hc
       go_wp2_with fail
       rw[<-HH.out]
       obtain⟨wm,rfl⟩:∃ wm:World,wm=wr:=⟨_,rfl⟩
       go_loopw [9,10] (fun cv kv wx=>∃ (j K:Nat) (x:Int),K<=m/\kv=.int .i64 ((K:Int)-1)/\cv=.int .i64 x/\0<=x/\x<=50000000/\Hid (K+j=m)/\Hid (x=d/2^j)/\Hid (Blk wx h 5 (ints .u8 (msbP d m j)))/\Hid (Below h wm wx)) (fun _ kv _=>(intOf kv+1).toNat)
       case atStart=>exact⟨0,m,d,by omega,by go_num,rfl,hd0,hd1,c3o rfl,c3o (by simp),HN,HNB⟩
       case round=>
        clear HN HNB
        obtain⟨j,K,x,hK,rfl,rfl,hx0,hx1,HJ,HX2,HBK,HBW⟩:=hrel
        by_cases hk:0<K
        ·obtain⟨k,rfl⟩:∃ k,K=k+1:=⟨K-1,by omega⟩
         have hk1:((k+1:Nat):Int)-1=k:=by omega
         rw[hk1]
         clear hk1
         have hfr:=HBK.out.frozen k
         have hcl:=HBK.out.cellI (j:=k) (by rw[b9J];omega)
         generalize nth (msbP d m j) k=z at *
         have HBK2:Hid (Blk (wr.setCell ⟨h,k,none⟩ (.int .u8 (x%2))) h 5 (ints .u8 (msbP d m (j+1)))):=by
          have:=HBK.out.set k (.int .u8 (x%2))
          rw[a5h] at this
          rw[b7m d m j (by have:=HJ.out;omega),<-HX2.out,show m-1-j=k by have:=HJ.out;omega];exact this
         have HBW2:=c3o (HBW.out.setCell (p:=⟨h,k,none⟩) (c3v _) (.int .u8 (x%2)))
         have e3:x.tmod 2=x%2:=by rw[Int.tmod_eq_emod_of_nonneg hx0]
         have e4:x%2%256=x%2:=by omega
         clear HBK HBW
         go_wp2_with fail
         go_roundw
         case rel=>exact⟨j+1,k,x/2,by omega,rfl,rfl,by omega,by omega,c3o (by have:=HJ.out;omega),c3o (by rw[HX2.out,b2m]),HBK2,HBW2⟩
         case measure=>simp[intOf]
        ·obtain rfl:K=0:=by omega
         obtain rfl:m=j:=by have:=HJ.out;omega
         rw[b9I] at HBK
         have HRX:Hid (RB wr g n (a1i l m i)):=HR.out.below (HH.out ▸ HBW.out)
         have HWW:=c3o (HB.out.trans (HBW.out.mono (by have:=HR.out.lt;rw[HH.out];omega)))
         have hgs:Hid (g<=h):=by have:=HR.out.lt;rw[HH.out];show _<=_;omega
         obtain⟨A',c',hcl,-,-⟩:=HRX.out.at hlt
         have hfr:=HRX.out.free i
         have HOWN:Hid (wr.ownsRow (g+1) 5 1 (.slice (some ⟨h,0,none⟩) m m) m (ints .u8 (msbF d m))):=a4m HBK.out (a0X d m) (by have:=HR.out.lt;rw[HH.out];omega) (by omega)
         have HSET:Hid (RB (wr.setCell ⟨g,i,none⟩ (.slice (some ⟨h,0,none⟩) m m)) g n (a1i l m (i+1))):=by
          rw[b3g l m i hil.out hm1 HX.out,<-HD.out]
          exact HRX.out.set i _ _ (by rw[a0X];exact HOWN.out)
         have HSW:=c3o (HWW.out.setCell (p:=⟨g,i,none⟩) (c3v _) (.slice (some ⟨h,0,none⟩) m m))
         have HLS2:Hid (Last l m (i+1) d m):=by rw[HD.out];exact b6U (by have:=hil.out;have:=HLL.out;omega) (by omega) hm1 hil.out HX.out
         clear HRX HWW HBK HBW HB HR HOWN HLS
         go_wp2_with fail
         go_roundw
         case rel=>exact⟨i+1,m,d,by omega,by go_num,rfl,rfl,HLS2,HSET,HSW⟩
         case measure=>simp[intOf];omega
     ·have e1:(nth l i !=(m:Int))=true:=by simpa using hx
      have HX:=c3o hx
      have HS:=c3o (b3f l m i hx)
      clear hx
      go_wp2_with fail
      go_roundw
      case rel=>exact⟨i+1,last,code,by omega,by go_num,rfl,rfl,c3o (b6T HLS.out (by omega) (by have:=HLL.out;omega) HX.out),by rw[HS.out];exact HR,HB⟩
      case measure=>simp[intOf];omega
    ·obtain rfl:i=n:=by omega
     go_wp2_with fail
     go_roundw
     case rel=>exact⟨m+1,last,code,by omega,by omega,by go_num,rfl,rfl,c3o (fun h=>b6S (HLL.out ▸ HLS.out) (by omega)),by rw[<-b3e,HLL.out];exact HR,HB⟩
     case measure=>simp[intOf];omega
  ·obtain rfl:m=16:=by omega
   have HR1:Hid (RB wr g n (rowsF l)):=by rw[<-b5I l HOK.out];exact HR0
   go_wp2_with fail
   go_ret
   refine⟨?_,HG.out ▸ HR1.out,HG.out ▸ HB0.out⟩
   rw[<-HG.out];rfl
open Go.RowKit
theorem b1m(w:World)(g:Nat)(B:Option Addr)(M c:Nat)(bs:List Int)(p:Nat)(out:List Int)(most:Nat)(e:Int)(ob:Option Nat)(v1 v2:Value)(h:RD w g B M c bs p out most e ob)(he:e≠0) :
  Calls Tryz.prog 133 #[.pointer (some ⟨g,0,none⟩),v1,v2] w fun r w'=>r=.returned (.tuple #[])/\RD w' g B M c bs p out most e ob/\Keeps [] w w':=by
 have H:=c3o h
 obtain⟨-,-,-,c4,-⟩:=h.cells
 clear h
 have e1:(e !=0)=true:=by simpa using he
 clear he
 go_enter Tryz.func133,Tryz.ntmps133
 go_wp2_with fail
 exact c3x (v:=.tuple #[]) (c3y rfl _ _ _) rfl ⟨rfl,H.out,Keeps.refl _ _⟩
theorem a4c (w:World) (g:Nat) (B:Option Addr) (M c:Nat) (bs:List Int) (p:Nat) (out:List Int) (most:Nat) (ob:Option Nat) (lit dist:List Int) (A1 A2:Option Addr) (n1 n2 c1 c2:Nat) (h:RD w g B M c bs p out most 0 ob)
  (hl:RI .i64 w A1 n1 lit) (hd:RI .i64 w A2 n2 dist) (hn1:n1<=288) (hn3:n2<=288) (hc1:a0e lit=0) (hc2:a0z dist=true->a0e dist=0) (hok:dist.all okLen=true)
  (hA:∀ a,A2=some a->a.block≠g/\ob≠some a.block/\a.block<w.heap.size) :
  Calls Tryz.prog 133 #[.pointer (some ⟨g,0,none⟩),.slice A1 n1 c1,.slice A2 n2 c2] w (b6f w g B M c bs most ob (symF lit dist bs most (8*bs.length+1) out p)):=by
 have H:=c3o h
 have HL:=c3o hl
 have HD:=c3o hd
 have HC1:=c3o hc1
 have HC2:=c3o hc2
 have HOK:=c3o hok
 have HML:=c3o h.len
 have HA2:=c3o hA
 have HN1:=c3o hl.len
 have HN2:=c3o hd.len
 have HGL:=c3o h.lt
 have HOL:=c3o h.oblo
 have hsz:=h.sz
 obtain⟨-,-,-,c4,-⟩:=h.cells
 clear h hl hd hc1 hc2 hok hA
 go_enter Tryz.func133,Tryz.ntmps133
 go_wp2_with fail
 refine (a5G w A1 n1 c1 lit HL.out hn1 (a1P HC1.out).2).mono ?_
 rintro _ w1 ⟨rfl,hr1,hb1⟩
 have hk1:=Keeps.of_below hb1 (S:=[])
 have H1:=c3o (H.out.keeps hk1)
 have K1:=c3o (FR.of_nil (g:=g) (ob:=ob) hk1)
 have HD1:=c3o (HD.out.keeps hk1 (a0a _))
 have HR1:=c3o hr1.top
 have HS1:Hid (w.heap.size<=w1.heap.size):=c3o hk1.size
 obtain⟨g1,hg1⟩:∃ g1,g1=w.heap.size:=⟨_,rfl⟩
 obtain⟨t1,ht1⟩:∃ t1,t1=w1.heap.size:=⟨_,rfl⟩
 have HG1:=c3o hg1
 have HT1:=c3o ht1
 rw[<-hg1,<-ht1] at HR1
 rw[<-hg1]
 clear hr1 hb1 hk1 hg1 ht1 H HL HD c4
 go_wp2_with fail
 refine (a5G w1 A2 n2 c2 dist HD1.out hn3 HOK.out).mono ?_
 rintro _ w2 ⟨rfl,hr2,hb2⟩
 have hk2:=Keeps.of_below hb2 (S:=[])
 have H2:=c3o (H1.out.keeps hk2)
 have K2:=c3o (K1.out.trans (FR.of_nil hk2))
 have HD2:=c3o (HD1.out.keeps hk2 (a0a _))
 have HR12:=c3o (HR1.out.keeps hk2 (by simp))
 have HR2:=c3o hr2.top
 obtain⟨g2,hg2⟩:∃ g2,g2=w1.heap.size:=⟨_,rfl⟩
 obtain⟨t2,ht2⟩:∃ t2,t2=w2.heap.size:=⟨_,rfl⟩
 rw[<-hg2,<-ht2] at HR2
 rw[<-hg2]
 have hgg1:g<g1:=by have:=HG1.out;have:=HGL.out;omega
 have hgg2:g<g2:=by have:=HS1.out;have:=HGL.out;omega
 have HP1:Hid (b0g g1 t1 ob):=c3o (fun x hx=>.inl (by have:=(HOL.out x hx).2;have:=HG1.out;omega))
 have HP2:Hid (b0g g2 t2 ob):=c3o (fun x hx=>.inl (by have:=(HOL.out x hx).2;have:=HS1.out;omega))
 have HA3:Hid (∀ a,A2=some a->a.block≠g/\ob≠some a.block/\a.block<w2.heap.size):=c3o (fun a ha=>by
  obtain⟨x1,x2,x3⟩:=HA2.out a ha
  exact⟨x1,x2,c3q x3 (c3t HS1.out hk2.size)⟩)
 clear hr2 hb2 hk2 hg2 ht2 H1 K1 HD1 HR1 HS1 HA2 HGL HOL HG1 HT1
 go_wp2_with fail
 go_loopg [8] (8*bs.length+2) (fun k v8 wr=>∃ (q:Nat) (o:List Int) (e:Int) (ob':Option Nat),Hid ((e=0/\8*bs.length-q+1<k/\q<=8*bs.length/\symF lit dist bs most (8*bs.length+1) out p=symF lit dist bs most (k-1) o q) ∨
   (e≠0/\0<k/\(symF lit dist bs most (8*bs.length+1) out p).1=o/\(symF lit dist bs most (8*bs.length+1) out p).2.2=e))/\Hid (RD wr g B M c bs q o most e ob')/\Hid (FR g ob ob' w wr)/\Hid (RBT wr g1 t1 n1 (rowsF lit))/\Hid (RBT wr g2 t2 n2 (rowsF dist)) /\
   Hid (b0g g1 t1 ob')/\Hid (b0g g2 t2 ob')/\Hid (RI .i64 wr A2 n2 dist)/\Hid (∀ a,A2=some a->a.block≠g/\ob'≠some a.block/\a.block<wr.heap.size))
 case atStart=>exact⟨p,out,0,ob,c3o (.inl ⟨rfl,by omega,by have:=H2.out.le;have:=HML.out;omega,rfl⟩),H2,K2,HR12,HR2,HP1,HP2,HD2,HA3⟩
 case round=>
  clear H2 K2 HR12 HR2 HP1 HP2 HD2 HA3
  obtain⟨q,o,e,ob',HS,H,K,HR1,HR2,HP1,HP2,HDR,HA⟩:=hrel
  obtain⟨-,-,-,c4,-⟩:=H.out.cells
  rcases HS.out with⟨rfl,hk,hq,hsf⟩|⟨hne,hk,hs1,hs2⟩
  rotate_left
  ·have e1:(e==0)=false:=by simpa using hne
   have HX1:=c3o hs1
   have HX2:=c3o hs2
   have HNE:=c3o hne
   clear HS hne hs1 hs2
   go_wp2_with fail
   go_end0
   exact⟨q,ob',rfl,by rw[HX1.out,HX2.out];exact H.out,K.out,fun h=>by rw[HX2.out] at h;exact absurd h HNE.out⟩
  obtain⟨f,rfl⟩:∃ f,gk=f+1+1:=⟨gk-2,by omega⟩
  rw[show f+1+1-1=f+1 by omega] at hsf
  have HS2:Hid (symF lit dist bs most (8*bs.length+1) out p=if (decF lit bs q).2.1≠0 then (o,0,endF (decF lit bs q).2.1 53)
    else if (decF lit bs q).1=256 then (o,q+(decF lit bs q).2.2,0)
    else if (decF lit bs q).1<256 then
     if most<=o.length then (o,0,56) else symF lit dist bs most f (o++[(decF lit bs q).1]) (q+(decF lit bs q).2.2)
    else if (a0I dist bs most (decF lit bs q).1.toNat o (q+(decF lit bs q).2.2)).2.2≠0 then a0I dist bs most (decF lit bs q).1.toNat o (q+(decF lit bs q).2.2)
    else symF lit dist bs most f (a0I dist bs most (decF lit bs q).1.toNat o (q+(decF lit bs q).2.2)).1 (a0I dist bs most (decF lit bs q).1.toNat o (q+(decF lit bs q).2.2)).2.1):=c3o (by rw[hsf,symF])
  clear hsf HS
  go_wp2_with fail
  clear c4
  refine (a5H wr g B M c bs q o most ob' g1 t1 n1 lit 53 H.out HR1.out HC1.out hn1).mono ?_
  rintro _ w3 ⟨rfl,hh3,k3⟩
  have hbd:=a6O lit bs q hq
  have hadv:=a9g lit bs q hq
  have hfr3:FR g ob' ob' wr w3:=FR.of_keeps k3
  have H3:=c3o hh3
  have K3:=c3o (K.out.trans hfr3)
  have HR13:=c3o (HR1.out.fr hfr3 hgg1 HP1.out).1
  have HR23:=c3o (HR2.out.fr hfr3 hgg2 HP2.out).1
  have HD3:=c3o (HDR.out.keeps k3 (fun a ha hm=>(HA.out a ha).1 (c3p.1 hm)))
  have HA3:Hid (∀ a,A2=some a->a.block≠g/\ob'≠some a.block/\a.block<w3.heap.size):=c3o (fun a ha=>⟨(HA.out a ha).1,(HA.out a ha).2.1,c3q (HA.out a ha).2.2 k3.size⟩)
  obtain⟨-,-,-,c4,-⟩:=hh3.cells
  clear hh3 k3 hfr3 H K HR1 HR2 HDR HA
  generalize decF lit bs q=dr at *
  obtain⟨sy,er,nn⟩:=dr
  simp only[] at H3 hbd hadv HS2 c4 ⊢
  rcases hbd with⟨rfl,d,rfl,hdl2,hq2⟩|⟨her,rfl,rfl⟩
  rotate_left
  ·have HR:Hid (symF lit dist bs most (8*bs.length+1) out p=(o,0,endF er 53)):=c3o (by rw[HS2.out,if_pos her])
   have HNE:Hid (endF er 53≠0):=c3o (fun h=>her (a1Q (by decide) h))
   obtain⟨y,hy⟩:∃ y,y=endF er 53:=⟨_,rfl⟩
   rw[<-hy] at HR HNE H3 c4
   have e5:(y !=0)=true:=by simpa using HNE.out
   clear her HS2 hadv hy
   go_wp2_with fail
   go_roundg 1
   case measure=>omega
   case rel=>exact⟨_,o,y,ob',c3o (.inr ⟨HNE.out,by omega,by rw[HR.out],by rw[HR.out]⟩),H3,K3,HR13,HR23,HP1,HP2,HD3,HA3⟩
  rw[show endF 0 53=0 from rfl] at H3 c4
  obtain⟨hn1',-,-,-⟩:=hadv rfl
  rw[c3A] at HS2
  have hdl3:d<288:=by rw[HN1.out] at hdl2;omega
  have HQ2:Hid (q+nn<=8*bs.length):=c3o hq2
  clear hadv hdl2 hq2
  by_cases h256:d=256
  ·subst h256
   have HR:Hid (symF lit dist bs most (8*bs.length+1) out p=(o,q+nn,0)):=c3o (by rw[HS2.out,if_neg (by simp),if_pos (by decide)])
   have e7:decide (((256:Nat):Int)<256)=false:=by decide
   have e6:(((256:Nat):Int)==256)=true:=by decide
   clear HS2
   go_wp2_with fail
   exact c3x (v:=.tuple #[]) (c3y rfl _ _ _) rfl (a9O HR.out H3.out K3.out)
  have e6:((d:Int)==256)=false:=by simp;omega
  by_cases hlt:d<256
  ·have e7:decide (d<256)=true:=by simpa using hlt
   have e7':decide ((d:Int)<256)=true:=by simp;omega
   have s1:IntKind.u8.wrap (d:Int)=d:=by rw[IntKind.wrap_u8];omega
   have HS3:=c3o (HS2.out.trans (by rw[if_neg (by simp),if_neg (by omega),if_pos (by omega)]))
   clear HS2
   go_wp2_with fail
   refine (a5F w3 g B M c bs (q+nn) o most 0 ob' d H3.out).mono ?_
   rintro _ w4 ⟨rfl,hl4⟩
   rcases hl4 with⟨z1,_⟩|⟨-,z2,z3,z4⟩|⟨-,z2,ob2,z3,z4⟩
   ·exact absurd rfl z1
   ·have H4:=c3o z3
    have K4:=c3o (K3.out.trans z4)
    have HE:Hid (symF lit dist bs most (8*bs.length+1) out p=(o,0,56)):=c3o (by rw[HS3.out,if_pos z2])
    have HR14:=c3o (HR13.out.fr z4 hgg1 HP1.out).1
    have HR24:=c3o (HR23.out.fr z4 hgg2 HP2.out).1
    have HD4:=c3o (HD3.out.keeps z4.keeps (fun a ha hm=>by
     rcases c3E.1 hm with e|e
     ·exact (HA3.out a ha).1 e
     ·exact (HA3.out a ha).2.1 (c3B.1 e)))
    have HA4:Hid (∀ a,A2=some a->a.block≠g/\ob'≠some a.block/\a.block<w4.heap.size):=c3o (fun a ha=>⟨(HA3.out a ha).1,(HA3.out a ha).2.1,c3q (HA3.out a ha).2.2 z4.keeps.size⟩)
    clear z2 z3 z4 H3 K3 HS3 HR13 HR23 HD3 HA3
    go_wp2_with fail
    go_roundg 1
    case measure=>omega
    case rel=>exact⟨_,o,56,ob',c3o (.inr ⟨by decide,by omega,by rw[HE.out],by rw[HE.out]⟩),H4,K4,HR14,HR24,HP1,HP2,HD4,HA4⟩
   ·have H4:=c3o z3
    have K4:=c3o (K3.out.trans z4)
    have HE:Hid (symF lit dist bs most (8*bs.length+1) out p=symF lit dist bs most f (o++[(d:Int)]) (q+nn)):=c3o (by rw[HS3.out,if_neg (by omega)])
    obtain⟨y1,y2⟩:=HR13.out.fr z4 hgg1 HP1.out
    obtain⟨y3,y4⟩:=HR23.out.fr z4 hgg2 HP2.out
    have HR14:=c3o y1
    have HR24:=c3o y3
    have HP14:=c3o y2
    have HP24:=c3o y4
    have HD4:=c3o (HD3.out.keeps z4.keeps (fun a ha hm=>by
     rcases c3E.1 hm with e|e
     ·exact (HA3.out a ha).1 e
     ·exact (HA3.out a ha).2.1 (c3B.1 e)))
    have HA4:Hid (∀ a,A2=some a->a.block≠g/\ob2≠some a.block/\a.block<w4.heap.size):=c3o (fun a ha=>⟨(HA3.out a ha).1,fun h=>by
     rcases z4.row _ h with r|r
     ·exact (HA3.out a ha).2.1 r
     ·have:=(HA3.out a ha).2.2;omega,c3q (HA3.out a ha).2.2 z4.keeps.size⟩)
    clear z2 z3 z4 y1 y2 y3 y4 H3 K3 HS3 HR13 HR23 HD3 HA3
    go_wp2_with fail
    go_roundg (f+1)
    case measure=>omega
    case rel=>exact⟨q+nn,o++[(d:Int)],0,ob2,c3o (.inl ⟨rfl,by have:=HQ2.out;omega,HQ2.out,by rw[show f+1-1=f by omega];exact HE.out⟩),H4,K4,HR14,HR24,HP14,HP24,HD4,HA4⟩
  ·have e7:decide (d<256)=false:=by simpa using hlt
   have e7':decide ((d:Int)<256)=false:=by simp;omega
   have HS3:=c3o (HS2.out.trans (by rw[if_neg (by simp),if_neg (by omega),if_neg (by omega)]))
   clear HS2
   go_wp2_with fail
   refine (a9H w3 g B M c bs (q+nn) o most ob' d dist A2 n2 c2 g2 t2 H3.out HD3.out HR23.out HC2.out hn3 (by omega) (by omega) (fun a ha=>(HA3.out a ha).1) hgg2 HP2.out).mono ?_
   rintro _ w4 ⟨q3,ob2,rfl,h4,z4,hq3⟩
   have HPS:=c3o (a6M dist bs most d o (q+nn) HQ2.out)
   have H4:=c3o h4
   have K4:=c3o (K3.out.trans z4)
   obtain⟨y1,y2⟩:=HR13.out.fr z4 hgg1 HP1.out
   obtain⟨y3,y4⟩:=HR23.out.fr z4 hgg2 HP2.out
   have HR14:=c3o y1
   have HR24:=c3o y3
   have HP14:=c3o y2
   have HP24:=c3o y4
   have HD4:=c3o (HD3.out.keeps z4.keeps (fun a ha hm=>by
     rcases c3E.1 hm with e|e
     ·exact (HA3.out a ha).1 e
     ·exact (HA3.out a ha).2.1 (c3B.1 e)))
   have HA4:Hid (∀ a,A2=some a->a.block≠g/\ob2≠some a.block/\a.block<w4.heap.size):=c3o (fun a ha=>⟨(HA3.out a ha).1,fun h=>by
     rcases z4.row _ h with r|r
     ·exact (HA3.out a ha).2.1 r
     ·have:=(HA3.out a ha).2.2;omega,c3q (HA3.out a ha).2.2 z4.keeps.size⟩)
   have HQ3:=c3o hq3
   clear h4 z4 hq3 y1 y2 y3 y4 H3 K3 HR13 HR23 HD3 HA3
   generalize a0I dist bs most d o (q+nn)=cr at *
   obtain⟨o3,p3,er⟩:=cr
   simp only[] at HPS H4 HQ3 HS3 ⊢
   by_cases her:er=0
   ·subst her
    obtain⟨a1,a2⟩:=HPS.out rfl
    obtain rfl:=HQ3.out rfl
    have HE:Hid (symF lit dist bs most (8*bs.length+1) out p=symF lit dist bs most f o3 q3):=c3o (by rw[HS3.out,if_neg (by simp)])
    clear HS3 HPS HQ3
    go_wp2_with fail
    go_roundg (f+1)
    case measure=>omega
    case rel=>exact⟨q3,o3,0,ob2,c3o (.inl ⟨rfl,by have:=HQ2.out;omega,a2,by rw[show f+1-1=f by omega];exact HE.out⟩),H4,K4,HR14,HR24,HP14,HP24,HD4,HA4⟩
   ·have HE:Hid (symF lit dist bs most (8*bs.length+1) out p=(o3,p3,er)):=c3o (by rw[HS3.out,if_pos her])
    have HER:=c3o her
    clear HS3 HPS HQ3 her
    go_wp2_with fail
    go_roundg 1
    case measure=>omega
    case rel=>exact⟨q3,o3,er,ob2,c3o (.inr ⟨HER.out,by omega,by rw[HE.out],by rw[HE.out]⟩),H4,K4,HR14,HR24,HP14,HP24,HD4,HA4⟩
open Go.RowKit
theorem a1G(w:World)(A:Option Addr)(n c:Nat)(l:List Int)(hl:RI .i64 w A n l)(hn:n<=140737488355328) :
  Calls Tryz.prog 155 #[.slice A n c] w fun e w'=>e=.returned (.int .i64 (a0e l))/\Dr w w':=by
 have hll:=hl.len
 have HL:=c3o hl
 have HLL:=c3o hll
 clear hl
 by_cases h0:n<1
 ·have hr:a0e l=1:=by rw[a0e,if_pos (by omega)]
  have e0:decide (n<1)=true:=by simpa using h0
  clear hll
  rw[hr]
  clear hr
  go_enter Tryz.func155,Tryz.ntmps155
  go_wp2_with fail
  go_ret
  exact⟨rfl,0,rfl⟩
 ·have e0:decide (n<1)=false:=by simpa using h0
  by_cases hb:288<n
  ·have hr:a0e l=1:=by rw[a0e,if_pos (by omega)]
   have e1:decide (288<n)=true:=by simpa using hb
   clear hll
   rw[hr]
   clear hr
   go_enter Tryz.func155,Tryz.ntmps155
   go_wp2_with fail
   go_ret
   exact⟨rfl,0,rfl⟩
  ·have e1:decide (288<n)=false:=by simp;omega
   clear hll
   go_enter Tryz.func155,Tryz.ntmps155
   go_wp2_with fail
   clear e0 e1
   go_loopw [3] (fun i wr=>∃ k:Nat,k<=n/\i=.int .i64 k/\Hid ((l.take k).all okLen=true)/\Hid (Dr w wr)) (fun i _=>n-(intOf i).toNat)
   case atStart=>exact⟨0,by omega,rfl,c3o (by simp),⟨0,rfl⟩⟩
   case round=>
    obtain⟨k,hk,rfl,HA,HD⟩:=hrel
    by_cases hlt:k<n
    ·obtain⟨q,rfl⟩:=HD.out
     clear HD
     obtain⟨b,o,rfl,hc⟩:=HL.out.at hlt
     have asn:=b3O l k (by have:=HLL.out;omega)
     rw[HA.out] at asn
     have AS:=c3o asn
     clear asn
     by_cases hneg:nth l k<0
     ·have e1:decide (nth l k<0)=true:=by simpa using hneg
      have hok:okLen (nth l k)=false:=by simp[okLen];omega
      have hr:a0e l=1:=by rw[a0e,if_neg (by have:=HLL.out;omega),if_pos (a8Z l k (by have:=HLL.out;omega) hok)]
      have HR:=c3o hr
      clear hr hok
      go_wp2_with fail
      go_ret
      rw[HR.out]
      exact⟨rfl,_,rfl⟩
     ·have e1:decide (nth l k<0)=false:=by simpa using hneg
      by_cases hbig:15<nth l k
      ·have e2:decide (15<nth l k)=true:=by simpa using hbig
       have hok:okLen (nth l k)=false:=by simp[okLen];omega
       have hr:a0e l=1:=by rw[a0e,if_neg (by have:=HLL.out;omega),if_pos (a8Z l k (by have:=HLL.out;omega) hok)]
       have HR:=c3o hr
       clear hr hok
       go_wp2_with fail
       go_ret
       rw[HR.out]
       exact⟨rfl,_,rfl⟩
      ·have e2:decide (15<nth l k)=false:=by simpa using hbig
       have hok:okLen (nth l k)=true:=by simp[okLen];omega
       have HOK:=c3o hok
       clear hok
       go_wp2_with fail
       go_roundw
       case rel=>exact⟨k+1,by omega,by go_num,c3o (AS.out.trans (by rw[HOK.out];rfl)),⟨_,rfl⟩⟩
       case measure=>simp[intOf];omega
    ·obtain rfl:k=n:=by omega
     have htk:l.take k=l:=c3C (by have:=HLL.out;omega)
     rw[htk] at HA
     have hlen:=HLL.out
     have hm:=a9z l HA.out
     have HR:Hid (a0e l=if 32768<measF l then 30 else if measF l=32768 then 0 else if usedF l=1/\measF l=16384 then 0 else 31):=by
      show _=_
      rw[a0e,if_neg (by omega),if_neg (by rw[HA.out];simp)]
     rw[hlen] at hm
     clear htk hlen
     go_wp2_with fail
     refine (a9A _ _ _ _ l (HL.out.keeps (HD.out.keeps (S:=[])) (a0a _)) (by omega) HA.out).mono ?_
     rintro e w1 ⟨rfl,hd1⟩
     have HD1:=c3o (HD.out.trans hd1)
     clear HD hd1
     by_cases c1:32768<measF l
     ·have e1:decide ((32768:Int)<(measF l:Int))=true:=by simp;omega
      go_wp2_with fail
      go_ret
      rw[HR.out,if_pos c1]
      exact⟨rfl,HD1.out⟩
     ·have e1:decide ((32768:Int)<(measF l:Int))=false:=by simp;omega
      by_cases c2:measF l=32768
      ·have e2:((measF l:Int)==32768)=true:=by simp;omega
       have C2:=c3o c2
       clear c2
       go_wp2_with fail
       go_ret
       rw[HR.out,if_neg c1,if_pos C2.out]
       exact⟨rfl,HD1.out⟩
      ·have e2:((measF l:Int)==32768)=false:=by simp;omega
       go_wp2_with fail
       refine (b5X _ _ _ _ l (HL.out.keeps (HD1.out.keeps (S:=[])) (a0a _)) (by omega)).mono ?_
       rintro e w2 ⟨rfl,hd2⟩
       have HD2:=c3o (HD1.out.trans hd2)
       clear HD1 hd2
       by_cases c3:usedF l=1
       ·have e3:((usedF l:Int)==1)=true:=by simp;omega
        have C3:=c3o c3
        clear c3
        by_cases c4:measF l=16384
        ·have e4:((measF l:Int)==16384)=true:=by simp;omega
         have C4:=c3o c4
         have C2:=c3o c2
         clear c4 c2
         go_wp2_with fail
         go_ret
         rw[HR.out,if_neg c1,if_neg C2.out,if_pos ⟨C3.out,C4.out⟩]
         exact⟨rfl,HD2.out⟩
        ·have e4:((measF l:Int)==16384)=false:=by simp;omega
         go_wp2_with fail
         go_ret
         rw[HR.out,if_neg c1,if_neg c2,if_neg (fun h=>c4 h.2)]
         exact⟨rfl,HD2.out⟩
       ·have e3:((usedF l:Int)==1)=false:=by simp;omega
        go_wp2_with fail
        go_ret
        rw[HR.out,if_neg c1,if_neg c2,if_neg (fun h=>c3 h.1)]
        exact⟨rfl,HD2.out⟩
open Go.RowKit
theorem b7Y(w:World)(A:Option Addr)(n c l:Nat)(li:Int)(hli:li=l)(hl:l<=n)(hc:a4d A n c) :
  (Instr.slice 90 (.slice A n c) none (some (.int .i64 li)) none).run Tryz.prog w=.ok (.slice A l c) w:=by
 obtain⟨h1,-,h3⟩:=hc
 subst hli
 rw[run_slice_h w 90 A n c (by kernel_rfl) .i64 l (by omega) (by omega)]
 have hs:(sizeOf (Tryz.prog.elem 90)).run Tryz.prog w=.ok 1 w:=by kernel_rfl
 rw[hs]
 by_cases h0:c=0
 ·subst h0
  simp[Result.andThen,sliced]
 ·obtain⟨b,o,rfl⟩:=h3 (by omega)
  simp[Result.andThen,sliced,a0w]
theorem b3s(w:World)(A:Option Addr)(n c l:Nat)(li:Int)(hli:li=l)(hl:l<=n) :
  (Instr.slice 90 (.slice A n c) (some (.int .i64 li)) none none).run Tryz.prog w=.ok (.slice (cutA A l c) (n-l) (c-l)) w:=by
 subst hli
 rw[run_slice_l w 90 A n c (by kernel_rfl) .i64 l (by omega) (by omega)]
 have hs:(sizeOf (Tryz.prog.elem 90)).run Tryz.prog w=.ok 1 w:=by kernel_rfl
 rw[hs]
 simp[Result.andThen,sliced,cutA]
theorem b1g(w:World):Calls Tryz.prog 154 #[] w fun e w'=>∃ go,e=.returned (.slice (some ⟨go,0,none⟩) 19 19)/\Blk w' go 3 (ints .i64 orderL)/\w.heap.size<=go/\Below w.heap.size w w':=by
 have HB:Hid (Blk (w.alloc (.cells (ints .i64 orderL).toArray 3)) w.heap.size 3 (ints .i64 orderL)):=c3o (a0d w _ _)
 go_enter Tryz.func154,Tryz.ntmps154
 go_wp2_with fail
 go_ret
 exact⟨_,rfl,HB.out,c3v _,(Below.refl _ _).alloc (c3v _) _⟩
theorem RD.keepS{w w':World}{g M c p most:Nat}{B:Option Addr}{bs out:List Int}{e:Int}{ob:Option Nat}{S:List Nat}(h:RD w g B M c bs p out most e ob)(hk:Keeps S w w')(hS:∀ x∈S,g<x/\ob≠some x):RD w' g B M c bs p out most e ob:=by
 obtain⟨v,h1,h2,h3⟩:=h.box
 exact⟨⟨v,h1.keeps hk (fun hm=>by have:=(hS g hm).1;omega),a0b h2 hk (fun x hx hm=>(hS x hm).2 (by rw[<-h3];exact hx)),h3⟩,h.ri.keeps hk (fun a ha hm=>by have:=h.lo a ha;have:=(hS a.block hm).1;omega),h.lo,h.len,h.le,h.cap,h.mx,h.sz⟩
theorem RD.under{w w':World}{g M c p most b:Nat}{B:Option Addr}{bs out:List Int}{e:Int}{ob:Option Nat}(h:RD w g B M c bs p out most e ob)(hk:Below b w w')(hg:g<b)(ho:∀ x,ob=some x->x<b):RD w' g B M c bs p out most e ob:=by
 obtain⟨v,h1,h2,h3⟩:=h.box
 refine⟨⟨v,(hk.block g hg).trans h1,?_,h3⟩,h.ri.below hk (fun a ha=>by have:=h.lo a ha;omega),h.lo,h.len,h.le,h.cap,h.mx,h.sz⟩
 obtain⟨a,r⟩:=h2
 refine⟨a,?_⟩
 rcases r with r|⟨b1,cap,cur,hv,hb2,hh,r⟩
 ·exact .inl r
 ·exact .inr ⟨b1,cap,cur,hv,hb2,(hk.block b1 (ho b1 (by rw[<-h3,hv];rfl))).trans hh,r⟩
theorem RBT.under{w w':World}{g top n b:Nat}{rs:List (List Int)}(h:RBT w g top n rs)(hk:Below b w w')(hb:top<=b):RBT w' g top n rs:=by
 obtain⟨h0,hg,ht,vs,h1,h2,h3⟩:=h
 refine⟨h0,hg,c3t ht hk.size,vs,h1,(hk.block g (by omega)).trans h2,fun j v hv=>⟨?_,(h3 j v hv).2⟩⟩
 obtain⟨a,r⟩:=(h3 j v hv).1
 refine⟨a,?_⟩
 rcases r with r|⟨b1,cap,cur,hvv,hb2,hh,r⟩
 ·exact .inl r
 ·exact .inr ⟨b1,cap,cur,hvv,hb2,(hk.block b1 (by have:=(h3 j v hv).2 b1 (by rw[hvv];rfl);omega)).trans hh,r⟩
def b6e(w:World)(g:Nat)(B:Option Addr)(M c:Nat)(bs:List Int)(p:Nat)(out:List Int)(most:Nat)(ob:Option Nat)(h:List Int×List Int×Nat×Int)(r:Ending)(w':World):Prop:=
 ∃ (q:Nat) (v1 v2:Value),r=.returned (.tuple #[v1,v2])/\RD w' g B M c bs q out most (codesE h) ob/\Keeps [g] w w' /\
  (codesE h=0->q=p+h.2.2.1/\∃ A1 c1 A2 c2,v1=.slice A1 h.1.length c1/\v2=.slice A2 h.2.1.length c2/\RI .i64 w' A1 h.1.length h.1/\RI .i64 w' A2 h.2.1.length h.2.1/\(∀ a,A2=some a->w.heap.size<=a.block/\a.block<w'.heap.size))
theorem a1l{w w':World}{g M c p q most:Nat}{B:Option Addr}{bs out:List Int}{ob:Option Nat}{h:List Int×List Int×Nat×Int}{e:Int}{v1 v2:Value}(hh:codesE h=e)(he:e≠0)(hr:RD w' g B M c bs q out most e ob)(hk:Keeps [g] w w') :
  b6e w g B M c bs p out most ob h (.returned (.tuple #[v1,v2])) w':=by
 subst hh;exact⟨q,v1,v2,rfl,hr,hk,fun h=>absurd h he⟩
theorem b3c(w:World)(g:Nat)(B:Option Addr)(M c:Nat)(bs:List Int)(p:Nat)(out:List Int)(most:Nat)(ob:Option Nat)(h:RD w g B M c bs p out most 0 ob) :
  Calls Tryz.prog 134 #[.pointer (some ⟨g,0,none⟩)] w (b6e w g B M c bs p out most ob (headF bs p)):=by
 have H:=c3o h
 have HML:=c3o h.len
 have HGL:=c3o h.lt
 have HOL:=c3o h.oblo
 have hsz:=h.sz
 clear h
 go_enter Tryz.func134,Tryz.ntmps134
 go_wp2_with fail
 refine (a0v w g B M c bs p out most 0 ob 5 5 rfl H.out (by omega)).mono ?_
 rintro _ w1 ⟨v1,q1,e1,rfl,h1,k1,v10,v11,-,hc1⟩
 have H1:=c3o h1
 have K1:=c3o k1
 rw[show (2:Int)^5=32 from rfl] at v11
 clear h1 k1 H
 go_wp2_with fail
 refine (a0v w1 g B M c bs q1 out most e1 ob 5 5 rfl H1.out (by omega)).mono ?_
 rintro _ w2 ⟨v2,q2,e2,rfl,h2,k2,v20,v21,-,hc2⟩
 have H2:=c3o h2
 have K2:=c3o (K1.out.trans k2)
 rw[show (2:Int)^5=32 from rfl] at v21
 clear h2 k2 H1 K1
 go_wp2_with fail
 refine (a0v w2 g B M c bs q2 out most e2 ob 4 4 rfl H2.out (by omega)).mono ?_
 rintro _ w3 ⟨v3,q3,e3,rfl,h3,k3,v30,v31,-,hc3⟩
 have H3:=c3o h3
 have K3:=c3o (K2.out.trans k3)
 rw[show (2:Int)^4=16 from rfl] at v31
 clear h3 k3 H2 K2
 have HC:Hid ((p+14<=M/\e3=0/\v1=numB bs p 5/\v2=numB bs (p+5) 5/\v3=numB bs (p+10) 4/\q3=p+14)∨(M<p+14/\e3=55)):=c3o (by
  rcases hc1 with⟨-,a1,rfl,rfl,rfl⟩|⟨-,a1,rfl,rfl,rfl⟩|⟨a1,_⟩
  ·rcases hc2 with⟨-,a2,rfl,rfl,rfl⟩|⟨-,a2,rfl,rfl,rfl⟩|⟨a2,_⟩
   ·rcases hc3 with⟨-,a3,rfl,rfl,rfl⟩|⟨-,a3,rfl,rfl,rfl⟩|⟨a3,_⟩
    ·exact .inl ⟨by omega,rfl,rfl,rfl,rfl,rfl⟩
    ·exact .inr ⟨by omega,rfl⟩
    ·exact absurd rfl a3
   ·rcases hc3 with⟨a3,_⟩|⟨a3,_⟩|⟨-,rfl,_⟩
    ·exact absurd a3 (by decide)
    ·exact absurd a3 (by decide)
    ·exact .inr ⟨by omega,rfl⟩
   ·exact absurd rfl a2
  ·rcases hc2 with⟨a2,_⟩|⟨a2,_⟩|⟨-,rfl,_⟩
   ·exact absurd a2 (by decide)
   ·exact absurd a2 (by decide)
   ·rcases hc3 with⟨a3,_⟩|⟨a3,_⟩|⟨-,rfl,_⟩
    ·exact absurd a3 (by decide)
    ·exact absurd a3 (by decide)
    ·exact .inr ⟨by omega,rfl⟩
  ·exact absurd rfl a1)
 clear hc1 hc2 hc3
 obtain⟨lit,hlit⟩:∃ lit:Nat,257+v1=(lit:Int):=⟨(257+v1).toNat,by omega⟩
 obtain⟨dist,hdist⟩:∃ dist:Nat,1+v2=(dist:Int):=⟨(1+v2).toNat,by omega⟩
 obtain⟨mn,hmn⟩:∃ mn:Nat,4+v3=(mn:Int):=⟨(4+v3).toNat,by omega⟩
 have hmn19:mn<=19:=by omega
 have hlb:lit<=288:=by omega
 have hlb2:257<=lit:=by omega
 have hdb:dist<=32:=by omega
 have hdb1:1<=dist:=by omega
 have HVV:Hid (v1=(lit:Int)-257/\v2=(dist:Int)-1/\v3=(mn:Int)-4):=c3o ⟨by omega,by omega,by omega⟩
 clear v10 v11 v20 v21 v30 v31
 have HCB:Hid (∀ is:Bool,is=(decide (286<lit)||decide (30<dist))->((badE e3 is=0/\p+14<=M/\q3=p+14/\lit=litF bs p/\dist=distF bs p/\mn=a2i bs p/\¬(29<numB bs p 5∨29<numB bs (p+5) 5)) ∨
   (badE e3 is≠0/\codesE (headF bs p)=badE e3 is))):=c3o (fun is his=>by
  have hM:=HML.out
  obtain⟨w1,w2,w3⟩:=HVV.out
  rcases HC.out with⟨a1,rfl,a2,a3,a4,a5⟩|⟨a1,rfl⟩
  ·by_cases hb:286<lit∨30<dist
   ·have hi:is=true:=by rw[his];simpa using hb
    subst hi
    rw[show badE 0 true=52 from rfl]
    exact .inr ⟨by decide,b8U (by omega) (by omega)⟩
   ·have hi:is=false:=by rw[his];simp only[Bool.or_eq_false_iff,decide_eq_false_iff_not];omega
    subst hi
    rw[show badE 0 false=0 from rfl]
    refine .inl ⟨rfl,a1,a5,?_,?_,?_,by omega⟩
    ·unfold litF;omega
    ·unfold distF;omega
    ·have hnn:=(a0F bs (p+10) 4).1
     show mn=(numB bs (p+10) 4).toNat+4
     omega
  ·rw[show badE 55 is=55 from if_neg (by rintro ⟨h,_⟩;exact absurd h (by decide))]
   exact .inr ⟨by decide,b8T (by omega)⟩)
 clear HC HVV
 go_upto_region 4 with (fail)
 clear hlit hdist hmn
 go_cut [32] (fun v32 wc=>∃ e4:Int,Hid ((e4=0/\p+14<=M/\q3=p+14/\lit=litF bs p/\dist=distF bs p/\mn=a2i bs p/\¬(29<numB bs p 5∨29<numB bs (p+5) 5))∨(e4≠0/\codesE (headF bs p)=e4)) /\
  Hid (RD wc g B M c bs q3 out most e4 ob)/\Hid (Keeps [g] w wc))
 case first=>
  by_cases b1:286<lit
  ·have x1:decide (286<lit)=true:=by simpa using b1
   have x1':decide ((286:Int)<(lit:Int))=true:=by simp;omega
   have HX:=c3o (HCB.out true (by rw[x1];rfl))
   clear HCB
   go_wp2_with fail
   refine (a0n w3 g B M c bs q3 out most e3 ob true H3.out).mono ?_
   rintro _ w4 ⟨rfl,h4,k4⟩
   have H4:=c3o h4
   have K4:=c3o (K3.out.trans k4)
   clear h4 k4
   generalize badE e3 true=e4 at *
   go_wp2_with fail
   go_meet
   exact⟨e4,HX,H4,K4⟩
  have x1:decide (286<lit)=false:=by simpa using b1
  have x1':decide ((286:Int)<(lit:Int))=false:=by simp;omega
  by_cases b2:30<dist
  ·have x2:decide (30<dist)=true:=by simpa using b2
   have x2':decide ((30:Int)<(dist:Int))=true:=by simp;omega
   have HX:=c3o (HCB.out true (by rw[x1,x2];rfl))
   clear HCB
   go_wp2_with fail
   refine (a0n w3 g B M c bs q3 out most e3 ob true H3.out).mono ?_
   rintro _ w4 ⟨rfl,h4,k4⟩
   have H4:=c3o h4
   have K4:=c3o (K3.out.trans k4)
   clear h4 k4
   generalize badE e3 true=e4 at *
   go_wp2_with fail
   go_meet
   exact⟨e4,HX,H4,K4⟩
  ·have x2:decide (30<dist)=false:=by simpa using b2
   have x2':decide ((30:Int)<(dist:Int))=false:=by simp;omega
   have HX:=c3o (HCB.out false (by rw[x1,x2];rfl))
   clear HCB
   go_wp2_with fail
   refine (a0n w3 g B M c bs q3 out most e3 ob false H3.out).mono ?_
   rintro _ w4 ⟨rfl,h4,k4⟩
   have H4:=c3o h4
   have K4:=c3o (K3.out.trans k4)
   clear h4 k4
   generalize badE e3 false=e4 at *
   go_wp2_with fail
   go_meet
   exact⟨e4,HX,H4,K4⟩
 case rest=>
  obtain⟨e4,HS4,H4,K4⟩:=hcut
  clear H3 K3 HCB
  have hmk:=fun w=>a1h (P:=Tryz.prog) w 90 3 .i64 8 Tryz.underlying90 a1y 19 19 rfl (by omega) (by omega)
  obtain⟨gc,hgc⟩:∃ x,x=wc.heap.size:=⟨_,rfl⟩
  obtain⟨w5,hw5⟩:∃ x,x=wc.alloc (.cells (ints .i64 (List.replicate 19 0)).toArray 3):=⟨_,rfl⟩
  have hk5:Keeps [] wc w5:=by rw[hw5];exact (Keeps.refl [] wc).alloc _
  have HC5:Hid (Blk w5 gc 3 (ints .i64 (cL bs (p+14) 0))):=by rw[hw5,hgc];exact c3o (a0d wc _ _)
  have H5:=c3o (H4.out.keeps hk5)
  have K5:=c3o (K4.out.trans (hk5.mono (by simp)))
  have HGC:Hid (w.heap.size<=gc):=c3o (by rw[hgc];exact K4.out.size)
  go_upto_region 6 with (fail)
  change Code.wp _ _ _ _ (wc.alloc (.cells (ints .i64 (List.replicate 19 0)).toArray 3))
  rw[<-hw5,<-hgc]
  clear hw5 hgc hmk hk5 H4 K4
  go_wp2_with fail
  refine (b1g w5).mono ?_
  rintro _ w6 ⟨go,rfl,hbo,hgo,hb6⟩
  have hk6:=Keeps.of_below hb6 (S:=[])
  have HC6:=c3o (HC5.out.keeps hk6 (by simp))
  have H6:=c3o (H5.out.keeps hk6)
  have K6:=c3o (K5.out.trans (hk6.mono (by simp)))
  have HO6:=c3o hbo
  have hgogc:gc<go:=c3q HC5.out.lt hgo
  have hggc:g<gc:=by have:=HGL.out;have:=HGC.out;omega
  have HOBC:Hid (ob≠some gc/\ob≠some go):=c3o ⟨fun h=>by have:=(HOL.out gc h).2;have:=HGC.out;omega,fun h=>by have:=(HOL.out go h).2;have:=HGC.out;omega⟩
  clear hbo hgo hb6 hk6 HC5 H5 K5
  go_wp2_with fail
  go_loopw [9] (fun iv wr=>∃ (i q:Nat) (e:Int) (cs:List Int),i<=mn/\iv=.int .i64 i/\cs.length=19 /\
   Hid ((e=0/\p+14+3*i<=M/\q=p+14+3*i/\cs=cL bs (p+14) i/\lit=litF bs p/\dist=distF bs p/\mn=a2i bs p/\¬(29<numB bs p 5∨29<numB bs (p+5) 5))∨(e≠0/\codesE (headF bs p)=e)) /\
   Hid (Blk wr gc 3 (ints .i64 cs))/\Hid (RD wr g B M c bs q out most e ob)/\Hid (Blk wr go 3 (ints .i64 orderL))/\Hid (Keeps [g] w wr)) (fun iv _=>mn-(intOf iv).toNat)
  case atStart=>
   refine⟨0,q3,e4,cL bs (p+14) 0,by omega,rfl,a6I _ _ _,c3o ?_,HC6,H6,HO6,K6⟩
   rcases HS4.out with⟨a1,a2,a3,a4,a5,a6,a7⟩|a
   ·exact .inl ⟨a1,by omega,by omega,rfl,a4,a5,a6,a7⟩
   ·exact .inr a
  case round=>
   clear HC6 H6 HO6 K6 HS4
   obtain⟨i,q,e,cs,hi,rfl,hcl,HS,HCS,H,HO,K⟩:=hrel
   obtain⟨-,-,-,c4,-⟩:=H.out.cells
   by_cases hgo:i<mn/\e=0
   ·obtain⟨hlt,rfl⟩:=hgo
    have e0:decide (i<mn)=true:=by simpa using hlt
    have e0':decide ((i:Int)<(mn:Int))=true:=by simp;omega
    obtain⟨o0,o1⟩:=a4Y i (by omega)
    have ho:=HO.out.cell i
    rw[show (ints .i64 orderL)[i]? =some (.int .i64 (nth orderL i)) by rw[a0f];simp[nth,List.getD,show i<orderL.length by show i<19;omega]] at ho
    have HCL:Hid (cL bs (p+14) (i+1)=(cL bs (p+14) i).set (nth orderL i).toNat (numB bs (p+14+3*i) 3)):=c3o rfl
    obtain⟨o,hoo⟩:∃ o:Nat,nth orderL i=o:=⟨(nth orderL i).toNat,by omega⟩
    rw[hoo] at ho o1 HCL
    rw[c3A] at HCL
    have ho19:o<19:=by omega
    clear hoo o0 o1
    have s1:(0:Int)<=(o:Int):=by omega
    have s2:(o:Int)<19:=by omega
    have s3:IntKind.i64.wrap (i:Int)=(i:Int):=c3z _ (by omega)
    have s4:IntKind.i64.wrap (o:Int)=(o:Int):=c3z _ (by omega)
    have s5:(0:Int)<=(i:Int):=by omega
    have s6:(i:Int)<19:=by omega
    go_wp2_with fail
    clear c4
    go_region_with (first|(go_at_call 130;refine (a0v wr.drew g B M c bs q out most 0 ob 3 3 rfl (H.out.keeps (Keeps.refl [] wr).drew) (by omega)).mono ?_;rintro _ w7 ⟨v,q',e',rfl,hh7,hk7,hv0,hv1,-,hc7⟩;have ho7:=hk7.cell (p:=⟨go,i,none⟩) (by simp;omega) ((Keeps.refl [] wr).drew.cell (by simp) ho);have hb7:=(HCS.out.keeps (Keeps.refl [] wr).drew (by simp)).keeps hk7 (by simp;omega);have hc8:=hb7.cell o;have hf8:=hb7.frozen o;rw[show (ints .i64 cs)[o]? =some (.int .i64 (nth cs o)) by rw[a0f];simp[nth,List.getD,show o<cs.length by omega]] at hc8))
    all_goals (
     have ks:Keeps [gc] w7 (w7.setCell ⟨gc,o,none⟩ (.int .i64 v)):=(Keeps.refl [gc] w7).setCell (p:=⟨gc,o,none⟩) (Or.inl (by simp)) _
     have HCS':Hid (Blk (w7.setCell ⟨gc,o,none⟩ (.int .i64 v)) gc 3 (ints .i64 (cs.set o v))):=c3o (by
      have:=hb7.set o (.int .i64 v)
      rwa [show (ints .i64 cs).set o (.int .i64 v)=ints .i64 (cs.set o v) by simp[ints,List.map_set]] at this)
     have H':=c3o (hh7.keepS ks (fun x hx=>by rw[c3p.1 hx];exact⟨hggc,HOBC.out.1⟩))
     have HO':=c3o (((HO.out.keeps (Keeps.refl [] wr).drew (by simp)).keeps hk7 (by simp;omega)).keeps ks (by simp;omega))
     have K':=c3o ((K.out.trans (((Keeps.refl [g] wr).drew).trans hk7)).setCell (p:=⟨gc,o,none⟩) (Or.inr HGC.out) (.int .i64 v))
     have HS':Hid ((e'=0/\p+14+3*(i+1)<=M/\q'=p+14+3*(i+1)/\cs.set o v=cL bs (p+14) (i+1)/\lit=litF bs p/\dist=distF bs p/\mn=a2i bs p/\¬(29<numB bs p 5∨29<numB bs (p+5) 5))∨(e'≠0/\codesE (headF bs p)=e')):=c3o (by
      have hM:=HML.out
      rcases HS.out with⟨-,a1,rfl,rfl,a4,a5,a6,a7⟩|⟨a,_⟩
      ·rcases hc7 with⟨-,b1,rfl,rfl,rfl⟩|⟨-,b1,rfl,rfl,rfl⟩|⟨b,_⟩
       ·exact .inl ⟨rfl,by omega,by omega,HCL.out.symm,a4,a5,a6,a7⟩
       ·exact .inr ⟨by decide,b8V (by omega) a7 (by rw[<-a6];omega)⟩
       ·exact absurd rfl b
      ·exact absurd rfl a)
     clear hb7 hh7 hk7 hc8 hf8 ho7 hc7 hv0 hv1 ks HS HCS H HO K ho
     go_wp2_with fail)
    all_goals go_roundw
    all_goals first
     | exact⟨i+1,q',e',cs.set o v,by omega,by go_num,by rw[List.length_set];exact hcl,HS',HCS',H',HO',K'⟩
     | (simp[intOf];omega)
   ·-- the loop is left
    by_cases hez:e≠0
    ·have HNE:=c3o hez
     have e9:(e==0)=false:=by simpa using hez
     clear hgo hez
     by_cases hlt:i<mn
     ·have e0:decide (i<mn)=true:=by simpa using hlt
      have e0':decide ((i:Int)<(mn:Int))=true:=by simp;omega
      have hne:=HS.out
      have HBC:=HCS.out
      have hric:RI .i64 wr (some ⟨gc,0,none⟩) 19 cs:=by
       have:=Blk.ri (xs:=cs) (ys:=[]) (k:=.i64) (by simpa using HBC)
       rwa [hcl] at this
      have HRC:=c3o hric
      have HE:Hid (codesE (headF bs p)=e):=c3o (by
       rcases hne with⟨a,_⟩|⟨_,a⟩
       ·exact absurd a HNE.out
       ·exact a)
      clear hne HBC hric HS HCS HO
      go_wp2_with fail
      clear c4
      refine (a1G wr (some ⟨gc,0,none⟩) 19 19 cs HRC.out (by omega)).mono ?_
      rintro _ w7 ⟨rfl,hd7⟩
      have H7:=c3o (H.out.keeps (hd7.keeps (S:=[])))
      have K7:=c3o (K.out.trans (hd7.keeps (S:=[g])))
      clear hd7 H K
      generalize a0e cs=y at *
      go_wp2_with fail
      refine (a0n w7 g B M c bs q out most e ob (y !=0) H7.out).mono ?_
      rintro _ w8 ⟨rfl,h8,k8⟩
      rw[show badE e (y !=0)=e from if_neg (fun h=>HNE.out h.1)] at h8
      have H8:=c3o h8
      have K8:=c3o (K7.out.trans k8)
      obtain⟨-,-,-,c4,-⟩:=h8.cells
      have e9:(e !=0)=true:=by simpa using HNE.out
      clear h8 k8 H7 K7
      go_wp2_with fail
      go_ret2
      exact a1l HE.out HNE.out H8.out K8.out
     ·have e0:decide (i<mn)=false:=by simpa using hlt
      have e0':decide ((i:Int)<(mn:Int))=false:=by simp;omega
      have hne:=HS.out
      have HBC:=HCS.out
      have hric:RI .i64 wr (some ⟨gc,0,none⟩) 19 cs:=by
       have:=Blk.ri (xs:=cs) (ys:=[]) (k:=.i64) (by simpa using HBC)
       rwa [hcl] at this
      have HRC:=c3o hric
      have HE:Hid (codesE (headF bs p)=e):=c3o (by
       rcases hne with⟨a,_⟩|⟨_,a⟩
       ·exact absurd a HNE.out
       ·exact a)
      clear hne HBC hric HS HCS HO
      go_wp2_with fail
      clear c4
      refine (a1G wr (some ⟨gc,0,none⟩) 19 19 cs HRC.out (by omega)).mono ?_
      rintro _ w7 ⟨rfl,hd7⟩
      have H7:=c3o (H.out.keeps (hd7.keeps (S:=[])))
      have K7:=c3o (K.out.trans (hd7.keeps (S:=[g])))
      clear hd7 H K
      generalize a0e cs=y at *
      go_wp2_with fail
      refine (a0n w7 g B M c bs q out most e ob (y !=0) H7.out).mono ?_
      rintro _ w8 ⟨rfl,h8,k8⟩
      rw[show badE e (y !=0)=e from if_neg (fun h=>HNE.out h.1)] at h8
      have H8:=c3o h8
      have K8:=c3o (K7.out.trans k8)
      obtain⟨-,-,-,c4,-⟩:=h8.cells
      have e9:(e !=0)=true:=by simpa using HNE.out
      clear h8 k8 H7 K7
      go_wp2_with fail
      go_ret2
      exact a1l HE.out HNE.out H8.out K8.out
    obtain rfl:e=0:=c3w.1 hez
    obtain rfl:i=mn:=by
     by_cases h:i<mn
     ·exact absurd ⟨h,rfl⟩ hgo
     ·omega
    clear hgo hez
    have e0:decide (i<i)=false:=by simp
    have e0':decide ((i:Int)<(i:Int))=false:=by simp
    obtain⟨z1,z2,z3,z4,z5,z6,z7⟩:p+14+3*i<=M/\q=p+14+3*i/\cs=codesH bs p/\lit=litF bs p/\dist=distF bs p/\i=a2i bs p/\¬(29<numB bs p 5∨29<numB bs (p+5) 5):=by
     rcases HS.out with⟨-,a1,a2,a3,a4,a5,a6,a7⟩|⟨a,_⟩
     ·exact⟨a1,a2,by rw[a3,a6];rfl,a4,a5,a6,a7⟩
     ·exact absurd rfl a
    have HB14:Hid (¬8*bs.length<p+14):=c3o (by have:=HML.out;omega)
    have HB3:Hid (¬8*bs.length<p+14+3*a2i bs p):=c3o (by have:=HML.out;omega)
    have HZ7:=c3o z7
    have HCD:=c3o z3
    have HLI:=c3o z4
    have HDI:=c3o z5
    have HQ0:Hid (q=p+14+3*a2i bs p):=c3o (by omega)
    have hqM:q<=M:=by omega
    have hric:RI .i64 wr (some ⟨gc,0,none⟩) 19 cs:=by
     have:=Blk.ri (xs:=cs) (ys:=[]) (k:=.i64) (by simpa using HCS.out)
     rwa [hcl] at this
    have HRC:=c3o hric
    have HCL:=c3o hcl
    clear z1 z2 z3 z4 z5 z6 z7 HS HCS HO hric hcl
    go_wp2_with fail
    clear c4
    refine (a1G wr (some ⟨gc,0,none⟩) 19 19 cs HRC.out (by omega)).mono ?_
    rintro _ w7 ⟨rfl,hd7⟩
    have hk7:=hd7.keeps (S:=[])
    have H7:=c3o (H.out.keeps hk7)
    have K7:=c3o (K.out.trans (hd7.keeps (S:=[g])))
    have HRC7:=c3o (HRC.out.keeps hk7 (a0a _))
    clear hd7 hk7 H K HRC
    by_cases hck:a0e cs≠0
    ·have HE:Hid (codesE (headF bs p)=52):=c3o (b8W HB14.out HZ7.out HB3.out (by rw[<-HCD.out];exact hck))
     have e9:(a0e cs !=0)=true:=by simpa using hck
     generalize a0e cs=y at *
     go_wp2_with fail
     refine (a0n w7 g B M c bs q out most 0 ob true H7.out).mono ?_
     rintro _ w8 ⟨rfl,h8,k8⟩
     rw[show badE 0 true=52 from rfl] at h8
     have H8:=c3o h8
     have K8:=c3o (K7.out.trans k8)
     obtain⟨-,-,-,c4,-⟩:=h8.cells
     clear h8 k8 H7 K7 e9 hck
     go_wp2_with fail
     go_ret2
     exact a1l HE.out (by decide) H8.out K8.out
    replace hck:a0e cs=0:=c3w.1 hck
    have HCK:=c3o hck
    rw[hck]
    clear hck
    go_wp2_with fail
    refine (a0n w7 g B M c bs q out most 0 ob false H7.out).mono ?_
    rintro _ w8 ⟨rfl,h8,k8⟩
    rw[show badE 0 false=0 from rfl] at h8
    have H8:=c3o h8
    have K8:=c3o (K7.out.trans k8)
    have HRC8:=c3o (HRC7.out.keeps k8 (fun a ha hm=>by
     injection ha with ha
     subst ha
     have:=c3p.1 hm
     simp only[] at this
     omega))
    obtain⟨-,-,-,c4,-⟩:=h8.cells
    clear h8 k8 H7 K7 HRC7
    go_wp2_with fail
    clear c4
    refine (a5G w8 (some ⟨gc,0,none⟩) 19 19 cs HRC8.out (by omega) (a1P HCK.out).2).mono ?_
    rintro _ w9 ⟨rfl,hr9,hb9⟩
    have hk9:=Keeps.of_below hb9 (S:=[])
    have H9:=c3o (H8.out.keeps hk9)
    have K9:=c3o (K8.out.trans (hk9.mono (by simp)))
    have HR9:=c3o hr9.top
    have HW8:Hid (w.heap.size<=w8.heap.size):=c3o K8.out.size
    obtain⟨g3,hg3⟩:∃ x,x=w8.heap.size:=⟨_,rfl⟩
    obtain⟨b0,hb0⟩:∃ x,x=w9.heap.size:=⟨_,rfl⟩
    rw[<-hg3,<-hb0] at HR9
    rw[<-hg3]
    have hgg3:g<g3:=by have:=H8.out.lt;omega
    have HB0:Hid (g<b0/\(∀ x,ob=some x->x<b0)/\w.heap.size<=b0):=c3o (by
     have h1:=HGL.out
     have h2:=HW8.out
     have h3:=hk9.size
     exact⟨by omega,fun x hx=>by have:=(HOL.out x hx).2;omega,by omega⟩)
    have HAPX:Hid (b0g g3 b0 ob):=c3o (fun x hx=>.inl (by have:=(HOL.out x hx).2;have:=HW8.out;omega))
    have hbz:b0<=w9.heap.size:=by omega
    have HRDR:Hid (readR bs p=stepsF cs bs ((lit+dist:Nat):Int) (lit+dist) [] q):=c3o (by
     unfold readR;rw[<-HCD.out,<-HLI.out,<-HDI.out,<-HQ0.out])
    have HE5:Hid (∀ er,(readR bs p).2.2=er->er≠0->codesE (headF bs p)=endF er 52):=c3o (fun er h1 h2=>b8X HB14.out HZ7.out HB3.out (by rw[<-HCD.out];exact HCK.out) h1 h2)
    have HHD:Hid (∀ l qq,readR bs p=(l,qq,0)->headF bs p=(l.take lit,l.drop lit,qq-p,0)):=c3o (fun l qq hh=>by
     rw[HLI.out];exact b2u HB14.out HZ7.out HB3.out (by rw[<-HCD.out];exact HCK.out) hh)
    obtain⟨N,hN⟩:∃ N,N=lit+dist:=⟨_,rfl⟩
    rw[<-hN] at HRDR
    have hNb:N<=320:=by omega
    have hNl:lit<=N:=by omega
    have hND:N-lit=dist:=by omega
    have s9:(lit:Int)+(dist:Int)=(N:Int):=by omega
    have HSN:=c3o s9
    have HPQ:Hid (p<=q):=c3o (by have:=HQ0.out;omega)
    clear hr9 hb9 hk9 hg3 hb0 H8 K8 HRC8 hN HCD HB14 HB3 HZ7 HLI HDI HQ0
    go_wp2_with fail
    clear s9
    go_loopg [11] (N+3) (fun k lv wr=>∃ (qq:Nat) (l:List Int) (e:Int),Hid ((e=0/\qq<=8*bs.length/\p<=qq/\l.length<=N/\N-l.length+1<k/\∃ f,N<=l.length+f/\readR bs p=stepsF cs bs (N:Int) f l qq) ∨
     (e=0/\0<k/\N<l.length/\(readR bs p).2.2=41)∨(e≠0/\0<k/\codesE (headF bs p)=e))/\l.length<=1000/\Hid (wr.ownsRow b0 3 1 lv l.length (ints .i64 l))/\Hid (RD wr g B M c bs qq out most e ob)/\Hid (Keeps [g] w wr) /\
     Hid (RBT wr g3 b0 19 (rowsF cs))/\b0<=wr.heap.size)
    case atStart=>
     refine⟨q,[],0,c3o (.inl ⟨rfl,by have:=HML.out;omega,HPQ.out,by simp,by simp,N,by simp,HRDR.out⟩),by simp,c3o (World.ownsRow_nil _ _ _ _),H9,K9,HR9,hbz⟩
    case round=>
     clear H9 K9 HR9 HRDR hbz
     obtain⟨qq,l,e,HS,hl1,HLO,H,K,HR,hbz⟩:=hrel
     obtain⟨-,-,-,c4,-⟩:=H.out.cells
     obtain⟨lA,lc,rfl⟩:=a2S HLO.out
     have s9:=HSN.out
     obtain⟨LN,hLN⟩:∃ LN,LN=l.length:=⟨_,rfl⟩
     have HLN:=c3o hLN
     rw[<-hLN] at hl1 HLO ⊢
     by_cases hgo:LN<N/\e=0
     ·obtain⟨hlt,rfl⟩:=hgo
      obtain⟨hq8,hpq,hk,fu,hfu,hrd⟩:qq<=8*bs.length/\p<=qq/\N-LN+1<gk/\∃ f,N<=LN+f/\readR bs p=stepsF cs bs (N:Int) f l qq:=by
       rcases HS.out with⟨-,a1,a2,a3,a4,f,a5,a6⟩|⟨-,-,a,_⟩|⟨a,_⟩
       ·exact⟨a1,a2,by rw[hLN];exact a4,f,by rw[hLN];exact a5,a6⟩
       ·omega
       ·exact absurd rfl a
      obtain⟨f,rfl⟩:∃ f,fu=f+1:=⟨fu-1,by omega⟩
      have HRD:Hid (readR bs p=if (decF cs bs qq).2.1≠0 then ([],qq,(decF cs bs qq).2.1)
       else if 8*bs.length<qq+(decF cs bs qq).2.2+wN (decF cs bs qq).1 then ([],qq,10)
       else match addF l (decF cs bs qq).1 (numB bs (qq+(decF cs bs qq).2.2) (wN (decF cs bs qq).1)) N with
        | none=>([],qq,41)
        | some l'=>stepsF cs bs (N:Int) f l' (qq+(decF cs bs qq).2.2+wN (decF cs bs qq).1)):=c3o (by rw[hrd,stepsF,if_neg (by rw[<-hLN];omega)];rfl)
      have e0:decide (LN<N)=true:=by simpa using hlt
      have e0':decide ((LN:Int)<(N:Int))=true:=by simp;omega
      clear HS hrd hLN
      go_wp2_with fail
      clear c4 e0 e0'
      refine (a5H wr g B M c bs qq out most ob g3 b0 19 cs 52 H.out HR.out HCK.out (by omega)).mono ?_
      rintro _ w2 ⟨rfl,hh2,k2⟩
      have hbd:=a6O cs bs qq hq8
      have hfr:FR g ob ob wr w2:=FR.of_keeps k2
      have H2:=c3o hh2
      have K2:=c3o (K.out.trans k2)
      have HR2:=c3o (HR.out.fr hfr hgg3 HAPX.out).1
      have HL2:=c3o (a0b HLO.out k2 (fun x hx hm=>by have h1:=a0j HLO.out x hx;have h2:=HB0.out.1;have h3:=c3p.1 hm;omega))
      have hbz2:b0<=w2.heap.size:=c3t hbz k2.size
      obtain⟨-,-,-,c4,-⟩:=hh2.cells
      clear hh2 k2 hfr H K HR HLO hbz
      generalize decF cs bs qq=dr at *
      obtain⟨sy,er,nn⟩:=dr
      simp only[] at H2 hbd HRD c4 ⊢
      rcases hbd with⟨rfl,j,rfl,hj,hq2⟩|⟨her,rfl,rfl⟩
      rotate_left
      ·have HC1:=c3o (HE5.out er (by rw[HRD.out,if_pos her]) her)
       have HNE:Hid (endF er 52≠0):=c3o (fun h=>her (a1Q (by decide) h))
       obtain⟨y,hy⟩:∃ y,y=endF er 52:=⟨_,rfl⟩
       rw[<-hy] at HC1 HNE H2 c4
       have e5:(y !=0)=true:=by simpa using HNE.out
       clear her HRD hy
       go_wp2_with fail
       go_roundg 1
       case measure=>omega
       case rel=>exact⟨_,l,y,c3o (.inr (.inr ⟨HNE.out,by omega,HC1.out⟩)),by rw[<-HLN.out];exact hl1,by rw[<-HLN.out];exact HL2,H2,K2,HR2,hbz2⟩
      rw[show endF 0 52=0 from rfl] at H2 c4
      have hj19:j<19:=by rw[HCL.out] at hj;exact hj
      have HRD2:=c3o (HRD.out.trans (if_neg (by simp)))
      obtain⟨q2,hq2e⟩:∃ x,x=qq+nn:=⟨_,rfl⟩
      rw[<-hq2e] at H2 HRD2 hq2
      have hpq2:p<=q2:=by omega
      clear HRD hj hq2e hpq hq8
      by_cases h16:j<16
      ·have e5:decide (j<16)=true:=by simpa using h16
       have e5':decide ((j:Int)<16)=true:=by simp;omega
       have hw:wN (j:Int)=0:=by unfold wN;rw[if_neg (by omega),if_neg (by omega),if_neg (by omega)]
       have HA:Hid (readR bs p=stepsF cs bs (N:Int) f (l++[(j:Int)]) q2):=c3o (by
        have h:=HRD2.out
        rw[hw,if_neg (by omega),numB,a2O (a6u (by omega) (by omega)) (by have:=HLN.out;omega)] at h
        exact h)
       have HRI:Hid (RI .i64 (w2.alloc (.cells #[.int .i64 (j:Int)] 3)) (some ⟨w2.heap.size,0,none⟩) 1 [(j:Int)]):=c3o (a8D _ _ _ _)
       clear hw HRD2
       go_wp2_with (at_builtin;refine a0Y rfl (.tmp 97) (.tmp 99) rfl b0 _ LN l rfl (HL2.out.alloc _) (some ⟨w2.heap.size,0,none⟩) 1 1 [(j:Int)] rfl (by exact HRI.out) ?c1 ?c2 (by omega) ?c3 ?_)
       case c1=>simp
       case c2=>intro ad h;exact⟨_,_,(Option.some.inj h).symm⟩
       case c3=>simp;omega
       intro v' w4 ho4 hg4
       have hb4:Below b0 w2 w4:=((Below.refl b0 w2).alloc hbz2 _).grown hg4 (by simp;omega) (fun x hx=>a0j HL2.out x hx)
       have H4:=c3o (H2.out.under hb4 HB0.out.1 HB0.out.2.1)
       have K4:=c3o (K2.out.under hb4 HB0.out.2.2)
       have HR4:=c3o (HR2.out.under hb4 (c3v _))
       have HL4:=c3o ho4
       have hbz4:b0<=w4.heap.size:=c3t hbz2 hb4.size
       clear ho4 hg4 hb4 H2 K2 HR2 HL2 HRI c4 hbz2
       go_wp2_with fail
       go_roundg (gk-1)
       case measure=>omega
       case rel=>exact⟨q2,l++[(j:Int)],0,c3o (.inl ⟨rfl,hq2,hpq2,by rw[c3r,<-HLN.out,c3s];omega,by rw[c3r,<-HLN.out,c3s];omega,f,by rw[c3r,<-HLN.out,c3s];omega,HA.out⟩),
        by rw[c3r,<-HLN.out,c3s];omega,by rw[c3r,<-HLN.out,c3s];exact HL4,H4,K4,HR4,hbz4⟩
      have e5:decide (j<16)=false:=by simpa using h16
      have e5':decide ((j:Int)<16)=false:=by simp;omega
      by_cases hj16:j=16
      ·subst hj16
       have e6:(((16:Nat):Int)==16)=true:=by decide
       go_wp2_with fail
       clear c4 e5 e5' e6
       refine (a0v w2 g B M c bs q2 out most 0 ob 2 2 rfl H2.out (by omega)).mono ?_
       rintro _ w3 ⟨x,q3,e3,rfl,hh3,k3,x0,x1,-,hc3⟩
       rw[show (2:Int)^2=4 from rfl] at x1
       have H3:=c3o hh3
       have K3:=c3o (K2.out.trans k3)
       have HR3:=c3o (HR2.out.fr (FR.of_keeps (ob:=ob) k3) hgg3 HAPX.out).1
       have HL3:=c3o (a0b HL2.out k3 (fun x hx hm=>by have h1:=a0j HL2.out x hx;have h2:=HB0.out.1;have h3:=c3p.1 hm;omega))
       have hbz3:b0<=w3.heap.size:=c3t hbz2 k3.size
       have hw:wN ((16:Nat):Int)=2:=rfl
       have HC3:Hid ((q2+2<=M/\e3=0/\x=numB bs q2 2/\q3=q2+2)∨(e3=55/\codesE (headF bs p)=55)):=c3o (by
        have hM:=HML.out
        rcases hc3 with⟨-,a1,a2,a3,a4⟩|⟨-,a1,a2,-,-⟩|⟨a,_⟩
        ·exact .inl ⟨a1,a2,a3,a4⟩
        ·refine .inr ⟨a2,?_⟩
         have h:=HRD2.out
         rw[hw,if_pos (by omega)] at h
         rw[HE5.out 10 (by rw[h]) (by decide)];rfl
        ·exact absurd rfl a)
       clear hh3 k3 hc3 H2 K2 HR2 HL2 hbz2
       obtain⟨X,hX⟩:∃ X:Nat,x=X:=⟨x.toNat,by omega⟩
       subst hX
       have hX4:X<4:=by omega
       clear x0 x1
       by_cases hl0:LN=0
       ·have e7:((LN:Int)==0)=true:=by simp;omega
        have HL0:=c3o hl0
        clear hl0
        go_wp2_with fail
        refine (a0n w3 g B M c bs q3 out most e3 ob true H3.out).mono ?_
        rintro _ w4 ⟨rfl,hh4,k4⟩
        have HCC:Hid (badE e3 true≠0/\codesE (headF bs p)=badE e3 true):=c3o (by
         rcases HC3.out with⟨a1,rfl,a2,a3⟩|⟨rfl,a⟩
         ·refine⟨by decide,?_⟩
          have h:=HRD2.out
          have hle:l=[]:=List.eq_nil_of_length_eq_zero (by rw[<-HLN.out];exact HL0.out)
          have hM:=HML.out
          rw[hw,if_neg (by omega),hle,show ((16:Nat):Int)=16 from rfl,a2f (a2L (.inr (.inr rfl)))] at h
          rw[HE5.out 41 (by rw[h]) (by decide)];rfl
         ·exact⟨by decide,a⟩)
        have H4:=c3o hh4
        have K4:=c3o (K3.out.trans k4)
        have HR4:=c3o (HR3.out.fr (FR.of_keeps (ob:=ob) k4) hgg3 HAPX.out).1
        have HL4:=c3o (a0b HL3.out k4 (fun x hx hm=>by have h1:=a0j HL3.out x hx;have h2:=HB0.out.1;have h3:=c3p.1 hm;omega))
        have hbz4:b0<=w4.heap.size:=c3t hbz3 k4.size
        obtain⟨-,-,-,c4,-⟩:=hh4.cells
        generalize badE e3 true=y at *
        have e8:(y==0)=false:=by simpa using HCC.out.1
        clear hh4 k4 H3 K3 HR3 HL3 hbz3 hw HC3 HRD2
        go_wp2_with fail
        go_roundg 1
        case measure=>omega
        case rel=>exact⟨q3,l,y,c3o (.inr (.inr ⟨HCC.out.1,by omega,HCC.out.2⟩)),by rw[<-HLN.out];exact hl1,by rw[<-HLN.out];exact HL4,H4,K4,HR4,hbz4⟩
       ·have e7:((LN:Int)==0)=false:=by simp;omega
        go_wp2_with fail
        refine (a0n w3 g B M c bs q3 out most e3 ob false H3.out).mono ?_
        rintro _ w4 ⟨rfl,hh4,k4⟩
        rw[show badE e3 false=e3 from if_neg (by simp)] at hh4
        have H4:=c3o hh4
        have K4:=c3o (K3.out.trans k4)
        have HR4:=c3o (HR3.out.fr (FR.of_keeps (ob:=ob) k4) hgg3 HAPX.out).1
        have HL4:=c3o (a0b HL3.out k4 (fun x hx hm=>by have h1:=a0j HL3.out x hx;have h2:=HB0.out.1;have h3:=c3p.1 hm;omega))
        have hbz4:b0<=w4.heap.size:=c3t hbz3 k4.size
        obtain⟨-,-,-,c4,-⟩:=hh4.cells
        clear hh4 k4 H3 K3 HR3 HL3 hbz3
        rcases HC3.out with⟨a1,rfl,a2,rfl⟩|⟨rfl,a⟩
        ·obtain⟨lA',lc',hlv,hlri,-,-⟩:=a0y HL4.out
         injection hlv with hlv1 hlv2 hlv3
         subst hlv1
         subst hlv3
         obtain⟨lb,lo,hla,hlc⟩:=hlri.at (show LN-1<LN by omega)
         subst hla
         obtain⟨y,hy⟩:∃ y,y=nth l (LN-1):=⟨_,rfl⟩
         rw[<-hy] at hlc
         have HY:Hid (y=l.getD (l.length-1) 0):=c3o (by rw[hy,HLN.out];rfl)
         have HA2:=c3o a2
         have hq3M:q2+2<=8*bs.length:=by have:=HML.out;omega
         have t1:IntKind.i64.wrap ((LN:Int)-1)=((LN-1:Nat):Int):=by rw[show (LN:Int)-1=((LN-1:Nat):Int) by omega];exact c3z _ (by omega)
         have t2:(LN:Int)-1=((LN-1:Nat):Int):=by omega
         have t3:LN-1<LN:=by omega
         clear hlri hlv2 hy HC3 a2
         go_wp2_with fail
         clear hlc t1 t2 t3 c4
         refine (a1d w4 b0 LN _ l (3+(X:Int)) y HL4.out hbz4 (by omega) (by omega)).mono ?_
         rintro _ w5 ⟨v5,rfl,ho5,hb5⟩
         rw[show (3+(X:Int)).toNat=X+3 by omega] at ho5
         have H5:=c3o (H4.out.under hb5 HB0.out.1 HB0.out.2.1)
         have K5:=c3o (K4.out.under hb5 HB0.out.2.2)
         have HR5:=c3o (HR4.out.under hb5 (c3v _))
         have HL5:=c3o ho5
         have hbz5:b0<=w5.heap.size:=c3t hbz4 hb5.size
         have hll:(l++List.replicate (X+3) y).length=LN+(X+3):=by rw[c3r,c3D,HLN.out]
         have HLL:=c3o hll
         have HSY:Hid (sayF l ((16:Nat):Int) (numB bs q2 2)=some (y,X+3)):=c3o (by
          rw[<-HA2.out,show ((16:Nat):Int)=16 from rfl,b3n (by omega) (by omega) (fun h=>by have:=HLN.out;rw[h] at this;simp at this;omega),<-HY.out];rfl)
         have HREL:Hid ((LN+(X+3)<=N/\readR bs p=stepsF cs bs (N:Int) f (l++List.replicate (X+3) y) (q2+2))∨(N<LN+(X+3)/\(readR bs p).2.2=41)):=c3o (by
          have h:=HRD2.out
          rw[hw,if_neg (by omega)] at h
          by_cases hle:LN+(X+3)<=N
          ·rw[a2O HSY.out (by rw[<-HLN.out];omega)] at h
           exact .inl ⟨hle,h⟩
          ·rw[a3q HSY.out (by rw[<-HLN.out];omega)] at h
           exact .inr ⟨by omega,by rw[h]⟩)
         clear ho5 hb5 hll H4 K4 HR4 HL4 hbz4 hw HRD2 HSY
         obtain⟨A5,c5,rfl⟩:=a2S HL5.out
         go_wp2_with fail
         go_roundg (gk-1)
         case measure=>omega
         case rel=>
          refine⟨q2+2,l++List.replicate (X+3) y,0,c3o ?_,by rw[HLL.out];omega,by rw[HLL.out];exact HL5,H5,K5,HR5,hbz5⟩
          rw[HLL.out]
          rcases HREL.out with⟨b1,b2⟩|⟨b1,b2⟩
          ·exact .inl ⟨rfl,hq3M,by omega,b1,by omega,f,by omega,b2⟩
          ·exact .inr (.inl ⟨rfl,by omega,b1,b2⟩)
        ·have HA3:=c3o a
         have e8:((55:Int)==0)=false:=by decide
         clear HC3 a hw HRD2
         go_wp2_with fail
         go_roundg 1
         case measure=>omega
         case rel=>exact⟨q3,l,55,c3o (.inr (.inr ⟨by decide,by omega,HA3.out⟩)),by rw[<-HLN.out];exact hl1,by rw[<-HLN.out];exact HL4,H4,K4,HR4,hbz4⟩
      have e6:((j:Int)==16)=false:=by simp;omega
      by_cases hj17:j=17
      ·subst hj17
       have e7:(((17:Nat):Int)==17)=true:=by decide
       go_wp2_with fail
       clear c4 e5 e5' e6 e7
       refine (a0v w2 g B M c bs q2 out most 0 ob 3 3 rfl H2.out (by omega)).mono ?_
       rintro _ w3 ⟨x,q3,e3,rfl,hh3,k3,x0,x1,-,hc3⟩
       rw[show (2:Int)^3=8 from rfl] at x1
       have H3:=c3o hh3
       have K3:=c3o (K2.out.trans k3)
       have HR3:=c3o (HR2.out.fr (FR.of_keeps (ob:=ob) k3) hgg3 HAPX.out).1
       have HL3:=c3o (a0b HL2.out k3 (fun x hx hm=>by have h1:=a0j HL2.out x hx;have h2:=HB0.out.1;have h3:=c3p.1 hm;omega))
       have hbz3:b0<=w3.heap.size:=c3t hbz2 k3.size
       have hw:wN ((17:Nat):Int)=3:=rfl
       have HC3:Hid ((q2+3<=M/\e3=0/\x=numB bs q2 3/\q3=q2+3)∨(e3=55/\codesE (headF bs p)=55)):=c3o (by
        have hM:=HML.out
        rcases hc3 with⟨-,a1,a2,a3,a4⟩|⟨-,a1,a2,-,-⟩|⟨a,_⟩
        ·exact .inl ⟨a1,a2,a3,a4⟩
        ·refine .inr ⟨a2,?_⟩
         have h:=HRD2.out
         rw[hw,if_pos (by omega)] at h
         rw[HE5.out 10 (by rw[h]) (by decide)];rfl
        ·exact absurd rfl a)
       clear hh3 k3 hc3 H2 K2 HR2 HL2 hbz2
       obtain⟨X,hX⟩:∃ X:Nat,x=X:=⟨x.toNat,by omega⟩
       subst hX
       have hX4:X<8:=by omega
       clear x0 x1
       go_wp2_with fail
       refine (a1d w3 b0 LN _ l (3+(X:Int)) 0 HL3.out hbz3 (by omega) (by omega)).mono ?_
       rintro _ w5 ⟨v5,rfl,ho5,hb5⟩
       rw[show (3+(X:Int)).toNat=X+3 by omega] at ho5
       have H5:=c3o (H3.out.under hb5 HB0.out.1 HB0.out.2.1)
       have K5:=c3o (K3.out.under hb5 HB0.out.2.2)
       have HR5:=c3o (HR3.out.under hb5 (c3v _))
       have HL5:=c3o ho5
       have hbz5:b0<=w5.heap.size:=c3t hbz3 hb5.size
       have hll:(l++List.replicate (X+3) (0:Int)).length=LN+(X+3):=by rw[c3r,c3D,HLN.out]
       have HLL:=c3o hll
       have HREL:Hid ((e3=0/\q3<=8*bs.length/\p<=q3/\LN+(X+3)<=N/\readR bs p=stepsF cs bs (N:Int) f (l++List.replicate (X+3) 0) q3)∨(e3=0/\N<LN+(X+3)/\(readR bs p).2.2=41)∨(e3≠0/\codesE (headF bs p)=e3)):=c3o (by
        have hM:=HML.out
        rcases HC3.out with⟨a1,rfl,a2,rfl⟩|⟨rfl,a⟩
        ·have h:=HRD2.out
         have hsy:sayF l ((17:Nat):Int) (numB bs q2 3)=some (0,X+3):=by
          rw[<-a2,show ((17:Nat):Int)=17 from rfl,b3o (by omega) (by omega)];rfl
         rw[hw,if_neg (by omega)] at h
         by_cases hle:LN+(X+3)<=N
         ·rw[a2O hsy (by rw[<-HLN.out];omega)] at h
          exact .inl ⟨rfl,by omega,by omega,hle,h⟩
         ·rw[a3q hsy (by rw[<-HLN.out];omega)] at h
          exact .inr (.inl ⟨rfl,by omega,by rw[h]⟩)
        ·exact .inr (.inr ⟨by decide,a⟩))
       clear ho5 hb5 hll H3 K3 HR3 HL3 hbz3 hw HRD2 HC3
       obtain⟨A5,c5,rfl⟩:=a2S HL5.out
       go_wp2_with fail
       go_roundg (gk-1)
       case measure=>omega
       case rel=>
        refine⟨q3,l++List.replicate (X+3) 0,e3,c3o ?_,by rw[HLL.out];omega,by rw[HLL.out];exact HL5,H5,K5,HR5,hbz5⟩
        rw[HLL.out]
        rcases HREL.out with⟨b0,b1,b2,b3,b4⟩|⟨b0,b1,b2⟩|⟨b1,b2⟩
        ·exact .inl ⟨b0,b1,b2,b3,by omega,f,by omega,b4⟩
        ·exact .inr (.inl ⟨b0,by omega,b1,b2⟩)
        ·exact .inr (.inr ⟨b1,by omega,b2⟩)
      ·obtain rfl:j=18:=by omega
       have e7:(((18:Nat):Int)==17)=false:=by decide
       go_wp2_with fail
       clear c4 e5 e5' e6 e7
       refine (a0v w2 g B M c bs q2 out most 0 ob 7 7 rfl H2.out (by omega)).mono ?_
       rintro _ w3 ⟨x,q3,e3,rfl,hh3,k3,x0,x1,-,hc3⟩
       rw[show (2:Int)^7=128 from rfl] at x1
       have H3:=c3o hh3
       have K3:=c3o (K2.out.trans k3)
       have HR3:=c3o (HR2.out.fr (FR.of_keeps (ob:=ob) k3) hgg3 HAPX.out).1
       have HL3:=c3o (a0b HL2.out k3 (fun x hx hm=>by have h1:=a0j HL2.out x hx;have h2:=HB0.out.1;have h3:=c3p.1 hm;omega))
       have hbz3:b0<=w3.heap.size:=c3t hbz2 k3.size
       have hw:wN ((18:Nat):Int)=7:=rfl
       have HC3:Hid ((q2+7<=M/\e3=0/\x=numB bs q2 7/\q3=q2+7)∨(e3=55/\codesE (headF bs p)=55)):=c3o (by
        have hM:=HML.out
        rcases hc3 with⟨-,a1,a2,a3,a4⟩|⟨-,a1,a2,-,-⟩|⟨a,_⟩
        ·exact .inl ⟨a1,a2,a3,a4⟩
        ·refine .inr ⟨a2,?_⟩
         have h:=HRD2.out
         rw[hw,if_pos (by omega)] at h
         rw[HE5.out 10 (by rw[h]) (by decide)];rfl
        ·exact absurd rfl a)
       clear hh3 k3 hc3 H2 K2 HR2 HL2 hbz2
       obtain⟨X,hX⟩:∃ X:Nat,x=X:=⟨x.toNat,by omega⟩
       subst hX
       have hX4:X<128:=by omega
       clear x0 x1
       go_wp2_with fail
       refine (a1d w3 b0 LN _ l (11+(X:Int)) 0 HL3.out hbz3 (by omega) (by omega)).mono ?_
       rintro _ w5 ⟨v5,rfl,ho5,hb5⟩
       rw[show (11+(X:Int)).toNat=X+11 by omega] at ho5
       have H5:=c3o (H3.out.under hb5 HB0.out.1 HB0.out.2.1)
       have K5:=c3o (K3.out.under hb5 HB0.out.2.2)
       have HR5:=c3o (HR3.out.under hb5 (c3v _))
       have HL5:=c3o ho5
       have hbz5:b0<=w5.heap.size:=c3t hbz3 hb5.size
       have hll:(l++List.replicate (X+11) (0:Int)).length=LN+(X+11):=by rw[c3r,c3D,HLN.out]
       have HLL:=c3o hll
       have HREL:Hid ((e3=0/\q3<=8*bs.length/\p<=q3/\LN+(X+11)<=N/\readR bs p=stepsF cs bs (N:Int) f (l++List.replicate (X+11) 0) q3)∨(e3=0/\N<LN+(X+11)/\(readR bs p).2.2=41)∨(e3≠0/\codesE (headF bs p)=e3)):=c3o (by
        have hM:=HML.out
        rcases HC3.out with⟨a1,rfl,a2,rfl⟩|⟨rfl,a⟩
        ·have h:=HRD2.out
         have hsy:sayF l ((18:Nat):Int) (numB bs q2 7)=some (0,X+11):=by
          rw[<-a2,show ((18:Nat):Int)=18 from rfl,b3p (by omega) (by omega)];rfl
         rw[hw,if_neg (by omega)] at h
         by_cases hle:LN+(X+11)<=N
         ·rw[a2O hsy (by rw[<-HLN.out];omega)] at h
          exact .inl ⟨rfl,by omega,by omega,hle,h⟩
         ·rw[a3q hsy (by rw[<-HLN.out];omega)] at h
          exact .inr (.inl ⟨rfl,by omega,by rw[h]⟩)
        ·exact .inr (.inr ⟨by decide,a⟩))
       clear ho5 hb5 hll H3 K3 HR3 HL3 hbz3 hw HRD2 HC3
       obtain⟨A5,c5,rfl⟩:=a2S HL5.out
       go_wp2_with fail
       go_roundg (gk-1)
       case measure=>omega
       case rel=>
        refine⟨q3,l++List.replicate (X+11) 0,e3,c3o ?_,by rw[HLL.out];omega,by rw[HLL.out];exact HL5,H5,K5,HR5,hbz5⟩
        rw[HLL.out]
        rcases HREL.out with⟨b0,b1,b2,b3,b4⟩|⟨b0,b1,b2⟩|⟨b1,b2⟩
        ·exact .inl ⟨b0,b1,b2,b3,by omega,f,by omega,b4⟩
        ·exact .inr (.inl ⟨b0,by omega,b1,b2⟩)
        ·exact .inr (.inr ⟨b1,by omega,b2⟩)
     ·-- all lengths are said
      by_cases hez:e≠0
      ·have HNE:=c3o hez
       have e9:(e==0)=false:=by simpa using hez
       have e9':(e !=0)=true:=by simpa using hez
       have HE:Hid (codesE (headF bs p)=e):=c3o (by
        rcases HS.out with⟨a,_⟩|⟨a,_⟩|⟨-,-,a⟩
        ·exact absurd a hez
        ·exact absurd a hez
        ·exact a)
       have HBE0:∀ is,badE e is=e:=fun is=>if_neg (fun h=>hez h.1)
       clear hgo hez HS hLN
       by_cases h1:LN<N
       ·have d1:decide (LN<N)=true:=by simpa using h1
        have d1':decide ((LN:Int)<(N:Int))=true:=by simp;omega
        have d2:decide (N<LN)=false:=by simp;omega
        have d2':decide ((N:Int)<(LN:Int))=false:=by simp;omega
        have HBE:=c3o (HBE0 false)
        clear HBE0
        go_wp2_with fail
        refine (a0n wr g B M c bs qq out most e ob false H.out).mono ?_
        rintro _ w2 ⟨rfl,h2,k2⟩
        rw[HBE.out] at h2
        have H2:=c3o h2
        have K2:=c3o (K.out.trans k2)
        obtain⟨-,-,-,c4,-⟩:=h2.cells
        clear h2 k2
        go_wp2_with fail
        go_ret2
        exact a1l HE.out HNE.out H2.out K2.out
       have d1:decide (LN<N)=false:=by simpa using h1
       have d1':decide ((LN:Int)<(N:Int))=false:=by simp;omega
       by_cases h2:N<LN
       ·have d2:decide (N<LN)=true:=by simpa using h2
        have d2':decide ((N:Int)<(LN:Int))=true:=by simp;omega
        have HBE:=c3o (HBE0 true)
        clear HBE0
        go_wp2_with fail
        refine (a0n wr g B M c bs qq out most e ob true H.out).mono ?_
        rintro _ w2 ⟨rfl,h2,k2⟩
        rw[HBE.out] at h2
        have H2:=c3o h2
        have K2:=c3o (K.out.trans k2)
        obtain⟨-,-,-,c4,-⟩:=h2.cells
        clear h2 k2
        go_wp2_with fail
        go_ret2
        exact a1l HE.out HNE.out H2.out K2.out
       ·have d2:decide (N<LN)=false:=by simpa using h2
        have d2':decide ((N:Int)<(LN:Int))=false:=by simp;omega
        have HBE:=c3o (HBE0 false)
        clear HBE0
        go_wp2_with fail
        refine (a0n wr g B M c bs qq out most e ob false H.out).mono ?_
        rintro _ w2 ⟨rfl,h2,k2⟩
        rw[HBE.out] at h2
        have H2:=c3o h2
        have K2:=c3o (K.out.trans k2)
        obtain⟨-,-,-,c4,-⟩:=h2.cells
        clear h2 k2
        go_wp2_with fail
        go_ret2
        exact a1l HE.out HNE.out H2.out K2.out
      obtain rfl:e=0:=c3w.1 hez
      have hge:¬LN<N:=fun h=>hgo ⟨h,rfl⟩
      clear hgo hez
      have d1:decide (LN<N)=false:=by simpa using hge
      have d1':decide ((LN:Int)<(N:Int))=false:=by simp;omega
      by_cases h2:N<LN
      ·have d2:decide (N<LN)=true:=by simpa using h2
       have d2':decide ((N:Int)<(LN:Int))=true:=by simp;omega
       have HE:Hid (codesE (headF bs p)=52):=c3o (by
        rcases HS.out with⟨-,-,-,a,_⟩|⟨-,-,-,a⟩|⟨a,_⟩
        ·omega
        ·rw[HE5.out 41 a (by decide)];rfl
        ·exact absurd rfl a)
       have HBE:Hid (badE 0 true=52):=c3o rfl
       have HNE:Hid ((52:Int)≠0):=c3o (by decide)
       clear HS hLN hge
       go_wp2_with fail
       refine (a0n wr g B M c bs qq out most 0 ob true H.out).mono ?_
       rintro _ w2 ⟨rfl,h2,k2⟩
       rw[HBE.out] at h2
       have H2:=c3o h2
       have K2:=c3o (K.out.trans k2)
       obtain⟨-,-,-,c4,-⟩:=h2.cells
       clear h2 k2
       go_wp2_with fail
       go_ret2
       exact a1l HE.out HNE.out H2.out K2.out
      obtain rfl:LN=N:=by omega
      have d2:decide (LN<LN)=false:=by simp
      have d2':decide ((LN:Int)<(LN:Int))=false:=by simp
      have HH:Hid (headF bs p=(l.take lit,l.drop lit,qq-p,0)/\p<=qq):=c3o (by
       rcases HS.out with⟨-,-,a1,a2,a3,f,a4,a5⟩|⟨-,-,a,_⟩|⟨a,_⟩
       ·exact⟨HHD.out l qq (by rw[a5,a4r _ _ _ _ _ _ (by omega)]),a1⟩
       ·omega
       ·exact absurd rfl a)
      clear HS hge h2 hLN
      go_wp2_with fail
      refine (a0n wr g B M c bs qq out most 0 ob false H.out).mono ?_
      rintro _ w2 ⟨rfl,h2,k2⟩
      rw[show badE 0 false=0 from rfl] at h2
      have H2:=c3o h2
      have K2:=c3o (K.out.trans k2)
      have HL2:=c3o (a0b HLO.out k2 (fun x hx hm=>by have h1:=a0j HLO.out x hx;have h2:=HB0.out.1;have h3:=c3p.1 hm;omega))
      obtain⟨-,-,-,c4,-⟩:=h2.cells
      clear h2 k2 H K HLO d1 d1' d2 d2'
      have hcap:=a9D HL2.out
      obtain⟨lA',lc',hlv,hri,hcc,hln,hpl,hlt⟩:=b4n HL2.out
      injection hlv with hlv1 hlv2 hlv3
      subst hlv1
      subst hlv3
      have hsl1:=fun w=>b7Y w lA LN lc lit lit rfl hNl hcap
      have hsl2:=fun w=>b3s w lA LN lc lit lit rfl hNl
      have HRI1:=c3o (hri.take hNl)
      have HRI2:=c3o (hri.cut hpl hNl hcc)
      have HA2:Hid (∀ a,cutA lA lit lc=some a->w.heap.size<=a.block/\a.block<w2.heap.size):=c3o (fun a ha=>by
       obtain⟨a',ha',hb'⟩:=b8Y hpl a ha
       have h1:=hlt a' ha'
       have h2:=HB0.out.2.2
       omega)
      have HLL1:Hid ((l.take lit).length=lit):=c3o (by rw[List.length_take,<-HLN.out];omega)
      have HLL2:Hid ((l.drop lit).length=LN-lit):=c3o (by rw[List.length_drop,HLN.out])
      obtain⟨lb,lo,hla,hlc⟩:=(hri.take hNl).at (show 256<lit by omega)
      obtain⟨D,hD⟩:∃ D,D=LN-lit:=⟨_,rfl⟩
      rw[<-hD] at hsl2 HRI2 HLL2
      have hD1:1<=D:=by omega
      have hDb:D<=320:=by omega
      obtain⟨A2,hA2⟩:∃ A,A=cutA lA lit lc:=⟨_,rfl⟩
      rw[<-hA2] at hsl2 HRI2 HA2
      obtain⟨C2,hC2⟩:∃ C,C=lc-lit:=⟨_,rfl⟩
      rw[<-hC2] at hsl2
      have HLB:Hid (w.heap.size<=lb):=c3o (by have h1:=(hlt ⟨lb,lo,none⟩ hla).1;have h2:=HB0.out.2.2;simp only[] at h1;omega)
      subst hla
      obtain⟨x,hx⟩:∃ x,x=nth (l.take lit) 256:=⟨_,rfl⟩
      rw[<-hx] at hlc
      have HX:=c3o hx
      obtain⟨L1,hL1⟩:∃ L,L=l.take lit:=⟨_,rfl⟩
      obtain⟨L2,hL2⟩:∃ L,L=l.drop lit:=⟨_,rfl⟩
      rw[<-hL1] at HRI1 HLL1 HX HH
      rw[<-hL2] at HRI2 HLL2 HH
      have HEE:Hid (codesE (headF bs p)=if x=0 then 52 else if a0e L1≠0 then 52 else if a0z L2=true/\a0e L2≠0 then 52 else 0):=c3o (by
       rw[HH.out.1];unfold codesE;rw[if_neg (by simp),HX.out])
      clear hri hcc hln hpl hlt hlv2 hcap hD hA2 hC2 hx hL1 hL2 HL2 HLN
      by_cases hx0:x=0
      ·subst hx0
       have HE:=c3o (HEE.out.trans (if_pos rfl))
       go_wp2_with fail
       refine (a0n w2 g B M c bs qq out most 0 ob true H2.out).mono ?_
       rintro _ w3 ⟨rfl,h3,k3⟩
       rw[show badE 0 true=52 from rfl] at h3
       have H3:=c3o h3
       have K3:=c3o (K2.out.trans k3)
       clear h3 k3
       go_wp2_with fail
       go_ret2
       exact a1l HE.out (by decide) H3.out K3.out
      have x1:(x==0)=false:=by simpa using hx0
      have x1':decide (x=0)=false:=by simpa using hx0
      have HE1:=c3o (HEE.out.trans (if_neg hx0))
      clear hx0 HEE
      go_wp2_with fail
      refine (a1G w2 (some ⟨lb,lo,none⟩) lit lc L1 HRI1.out (by omega)).mono ?_
      rintro _ w3 ⟨rfl,hd3⟩
      have hk3:=hd3.keeps (S:=[])
      have H3:=c3o (H2.out.keeps hk3)
      have K3:=c3o (K2.out.trans (hd3.keeps (S:=[g])))
      have HRI13:=c3o (HRI1.out.keeps hk3 (a0a _))
      have HRI23:=c3o (HRI2.out.keeps hk3 (a0a _))
      have HA3:Hid (∀ a,A2=some a->w.heap.size<=a.block/\a.block<w3.heap.size):=c3o (fun a ha=>⟨(HA2.out a ha).1,c3q (HA2.out a ha).2 hk3.size⟩)
      clear hd3 hk3 H2 K2 HRI1 HRI2 HA2 hlc hsl1 hsl2 x1 x1' c4
      by_cases hc1:a0e L1≠0
      ·have HE:=c3o (HE1.out.trans (if_pos hc1))
       have e9:(a0e L1 !=0)=true:=by simpa using hc1
       generalize a0e L1=y at *
       go_wp2_with fail
       refine (a0n w3 g B M c bs qq out most 0 ob true H3.out).mono ?_
       rintro _ w4 ⟨rfl,h4,k4⟩
       rw[show badE 0 true=52 from rfl] at h4
       have H4:=c3o h4
       have K4:=c3o (K3.out.trans k4)
       clear h4 k4
       go_wp2_with fail
       go_ret2
       exact a1l HE.out (by decide) H4.out K4.out
      have HE2:=c3o (HE1.out.trans (if_neg hc1))
      replace hc1:a0e L1=0:=c3w.1 hc1
      rw[hc1]
      clear hc1 HE1
      go_wp2_with fail
      refine (a7F w3 A2 D C2 L2 HRI23.out (by omega)).mono ?_
      rintro _ w4 ⟨rfl,hd4⟩
      have hk4:=hd4.keeps (S:=[])
      have H4:=c3o (H3.out.keeps hk4)
      have K4:=c3o (K3.out.trans (hd4.keeps (S:=[g])))
      have HRI14:=c3o (HRI13.out.keeps hk4 (a0a _))
      have HRI24:=c3o (HRI23.out.keeps hk4 (a0a _))
      have HA4:Hid (∀ a,A2=some a->w.heap.size<=a.block/\a.block<w4.heap.size):=c3o (fun a ha=>⟨(HA3.out a ha).1,c3q (HA3.out a ha).2 hk4.size⟩)
      clear hd4 hk4 H3 K3 HRI13 HRI23 HA3
      obtain⟨u,hu⟩:∃ u,u=a0z L2:=⟨_,rfl⟩
      rw[<-hu] at HE2 ⊢
      clear hu
      have HFIN:Hid (∀ w5,codesE (headF bs p)=0->RD w5 g B M c bs qq out most 0 ob->Keeps [g] w w5->RI .i64 w5 (some ⟨lb,lo,none⟩) lit L1->RI .i64 w5 A2 D L2->(∀ a,A2=some a->w.heap.size<=a.block/\a.block<w5.heap.size) ->
        b6e w g B M c bs p out most ob (headF bs p) (.returned (.tuple #[.slice (some ⟨lb,lo,none⟩) lit lc,.slice A2 D C2])) w5):=c3o (fun w5 h0 h1 h2 h3 h4 h5=>by
       refine⟨qq,_,_,rfl,by rw[h0];exact h1,h2,fun _=>?_⟩
       rw[HH.out.1]
       refine⟨by have:=HH.out.2;simp only[];omega,some ⟨lb,lo,none⟩,lc,A2,C2,?_,?_,?_,?_,h5⟩
       ·show _=Value.slice _ L1.length _;rw[HLL1.out]
       ·show _=Value.slice _ L2.length _;rw[HLL2.out]
       ·show RI _ _ _ L1.length _;rw[HLL1.out];exact h3
       ·show RI _ _ _ L2.length _;rw[HLL2.out];exact h4)
      cases u with
      | false=>
       have HE:=c3o (HE2.out.trans (if_neg (by simp)))
       go_wp2_with fail
       refine (a0n w4 g B M c bs qq out most 0 ob false H4.out).mono ?_
       rintro _ w5 ⟨rfl,h5,k5⟩
       rw[show badE 0 false=0 from rfl] at h5
       have H5:=c3o h5
       have K5:=c3o (K4.out.trans k5)
       have HX5:=c3o k5
       clear h5 k5
       go_wp2_with fail
       go_ret2
       exact HFIN.out _ HE.out H5.out K5.out (HRI14.out.keeps HX5.out (fun a ha hm=>by have h1:=HLB.out;have h2:=HGL.out;injection ha with ha;subst ha;have h3:=c3p.1 hm;simp only[] at h3;omega)) (HRI24.out.keeps HX5.out (fun a ha hm=>by have h1:=(HA4.out a ha).1;have h2:=HGL.out;have h3:=c3p.1 hm;omega)) (fun a ha=>⟨(HA4.out a ha).1,c3q (HA4.out a ha).2 HX5.out.size⟩)
      | true=>
       go_wp2_with fail
       refine (a1G w4 A2 D C2 L2 HRI24.out (by omega)).mono ?_
       rintro _ w5 ⟨rfl,hd5⟩
       have hk5:=hd5.keeps (S:=[])
       have H5:=c3o (H4.out.keeps hk5)
       have K5:=c3o (K4.out.trans (hd5.keeps (S:=[g])))
       have HRI15:=c3o (HRI14.out.keeps hk5 (a0a _))
       have HRI25:=c3o (HRI24.out.keeps hk5 (a0a _))
       have HA5:Hid (∀ a,A2=some a->w.heap.size<=a.block/\a.block<w5.heap.size):=c3o (fun a ha=>⟨(HA4.out a ha).1,c3q (HA4.out a ha).2 hk5.size⟩)
       clear hd5 hk5 H4 K4 HRI14 HRI24 HA4
       by_cases hc2:a0e L2≠0
       ·have HE:=c3o (HE2.out.trans (if_pos ⟨by simp,hc2⟩))
        have e9:(a0e L2 !=0)=true:=by simpa using hc2
        generalize a0e L2=y at *
        go_wp2_with fail
        refine (a0n w5 g B M c bs qq out most 0 ob true H5.out).mono ?_
        rintro _ w6 ⟨rfl,h6,k6⟩
        rw[show badE 0 true=52 from rfl] at h6
        have H6:=c3o h6
        have K6:=c3o (K5.out.trans k6)
        clear h6 k6
        go_wp2_with fail
        go_ret2
        exact a1l HE.out (by decide) H6.out K6.out
       ·have HE:=c3o (HE2.out.trans (if_neg (fun h=>hc2 h.2)))
        replace hc2:a0e L2=0:=c3w.1 hc2
        rw[hc2]
        clear hc2 HE2
        go_wp2_with fail
        refine (a0n w5 g B M c bs qq out most 0 ob false H5.out).mono ?_
        rintro _ w6 ⟨rfl,h6,k6⟩
        rw[show badE 0 false=0 from rfl] at h6
        have H6:=c3o h6
        have K6:=c3o (K5.out.trans k6)
        have HX6:=c3o k6
        clear h6 k6
        go_wp2_with fail
        go_ret2
        exact HFIN.out _ HE.out H6.out K6.out (HRI15.out.keeps HX6.out (fun a ha hm=>by have h1:=HLB.out;have h2:=HGL.out;injection ha with ha;subst ha;have h3:=c3p.1 hm;simp only[] at h3;omega)) (HRI25.out.keeps HX6.out (fun a ha hm=>by have h1:=(HA5.out a ha).1;have h2:=HGL.out;have h3:=c3p.1 hm;omega)) (fun a ha=>⟨(HA5.out a ha).1,c3q (HA5.out a ha).2 HX6.out.size⟩)
end Go.Proofs.YtghjlpechjggjaaGreatDoor
