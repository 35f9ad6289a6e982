import Derived.Test.YtghjlpechjggjaaGreatDoorZrdF
import Derived.Test.YtghjlpechjggjaaGreatDoorZrdB
import Derived.Test.YtghjlpechjggjaaGreatDoorZrdE
import Derived.Test.YtghjlpechjggjaaGreatDoorZrdA
import Derived.BigQuiet
import Derived.Outline
import Derived.StillTailTactics
import Derived.Deep.LoopGhost
import Derived.WalkMore
import Derived.Test.YtghjlpechjggjaaGreatDoorZrdC
import Derived.Test.YtghjlpechjggjaaGreatDoorZrdD
import Derived.Test.YtghjlpechjggjaaGreatDoorCards
import Derived.Test.YtghjlpechjggjaaGreatDoorTie
import Derived.ProofKit
import Derived.OpenShut
import Derived.ChangeOld
import Derived.Deep.DeepHandedRow
import Derived.Deep.DeepLaidRun
import Derived.Lib.LaidTab
import Derived.Deep.Slices
import Derived.SizedLaws
import GoSem.PinnedTables
import Derived.RegionTactic
import Derived.BigRegion
set_option linter.defProp false
set_option linter.unnecessarySimpa false
set_option linter.unusedVariables false
set_option linter.unusedSimpArgs false
set_option linter.constructorNameAsVariable false
set_option maxRecDepth 100000
set_option maxHeartbeats 60000000
namespace Go.Proofs.YtghjlpechjggjaaGreatDoor
open Go.RowKit
private def c3o := @Lib.hid
private def c3p := @List.mem_singleton
private def c3q := @List.getElem?_cons_zero
private def c3r := @IntWalk.i64_in
private def c3s := @List.getElem?_cons_succ
private def c3t := @Option.mem_toList
private def c3u := @Exit.noGoto_ret
private def c3v := @Int.eq_ofNat_of_zero_le
private def c3w := @Nat.lt_of_lt_of_le
private def c3x := @Int.toNat_natCast
private def c3y := @World.ownsRow_nil
private def c3z := @Nat.pow_le_pow_right
private def c3A := @Option.some.inj
private def c3B := @decide_eq_true_eq
private def c3C := @ownsRow_setCell_below
private def c3D := @List.getElem_mem
private def c3E := @List.length_append
private def c3F := @List.set_cons_succ
private def c3G := @List.set_cons_zero
private def c3H := @Nat.sub_self
private def c3I := @Nat.le_refl
open Go.RowKit
theorem c1s{bs:List Int}{p:Nat}(h:(headF bs p).2.2.2≠0):(headF bs p).2.2.1=0:=by
 unfold headF at h ⊢
 split
 ·rfl
 split
 ·rfl
 split
 ·rfl
 split
 ·rfl
 split
 ·rfl
 ·next h1 h2 h3 h4 h5=>
  rw[if_neg h1,if_neg h2,if_neg h3,if_neg h4,if_neg h5] at h
  exact absurd rfl h
theorem a8c(w:World)(g:Nat)(A:Option Addr)(c:Nat)(bs:List Int)(p:Nat)(hT:Tabs w)(hg:gtop<=g)(hr:Rdr w g A c bs p)(ha:∀ a,A=some a->a.block<w.heap.size) :
  Calls Tryz.prog 168 #[.pointer (some ⟨g,0,none⟩)] w fun e w'=>∃ v1 v2,e=.returned (.tuple #[v1,v2,.int .i64 (headF bs p).2.2.2])/\w'.ownsRow w.heap.size 3 1 v1 (headF bs p).1.length (ints .i64 (headF bs p).1) /\
   w'.ownsRow w.heap.size 3 1 v2 (headF bs p).2.1.length (ints .i64 (headF bs p).2.1)/\Rdr w' g A c bs (p+(headF bs p).2.2.1)/\Keeps [g] w w':=by
 have HR:=c3o hr
 have HT:=c3o hT
 have hsz:=hr.size
 clear hr hT
 go_enter Tryz.func168,Tryz.ntmps168
 go_wp2_with fail
 refine (a5x _ _ _ _ _ _ HR.out).mono ?_
 rintro r w1 ⟨rfl,hd⟩
 have hk1:=hd.keeps (S:=[])
 have H1:=c3o (HR.out.dr hk1)
 have T1:=c3o (HT.out.keeps hk1 (by simp))
 have K1:=c3o (hd.keeps (S:=[g]))
 have HA1:Hid (∀ a,A=some a->a.block<w1.heap.size):=c3o (fun a h=>c3w (ha a h) hk1.size)
 have S1:Hid (w.heap.size<=w1.heap.size):=c3o hk1.size
 clear hd HR HT ha hk1
 go_wp2_with fail
 refine (b5F _ _ _ _ _ _ T1.out hg H1.out HA1.out).mono ?_
 rintro _ w2 ⟨v1,v2,q,rfl,ho1,ho2,hr2,hpq,hq,hk2⟩
 have HO1:=c3o (ho1.mono S1.out)
 have HO2:=c3o (ho2.mono S1.out)
 have H2:=c3o hr2
 have K2:=c3o (K1.out.trans hk2)
 have HGW:Hid (g<w1.heap.size):=c3o H1.out.lt
 have HOW1:=c3o ho1
 have HOW2:=c3o ho2
 have hqT:=hr2.le
 clear ho1 ho2 hr2 hk2 H1 K1 T1 HA1
 by_cases her:(headF bs p).2.2.2=0
 ·have HQ:=c3o (hq her)
  have e1:((headF bs p).2.2.2 !=0)=false:=by simp[her]
  have HER:=c3o her
  clear hq
  obtain⟨A1,c1,rfl⟩:=a2j HO1.out
  obtain⟨A2,c2,rfl⟩:=a2j HO2.out
  go_wp2_with fail
  go_ret3
  exact⟨_,_,by first|rfl|(rw[HER.out];rfl),HO1.out,HO2.out,by rw[<-HQ.out];exact H2.out,K2.out⟩
 ·have HN:=c3o (c1s her)
  have e1:((headF bs p).2.2.2 !=0)=true:=by simpa using her
  obtain⟨A1,c1,rfl⟩:=a2j HO1.out
  obtain⟨A2,c2,rfl⟩:=a2j HO2.out
  clear hq
  generalize hE:(headF bs p).2.2.2=er at *
  go_wp2_with fail
  refine (a5x _ _ _ _ _ _ H2.out).mono ?_
  rintro r w3 ⟨rfl,hd⟩
  have H3:=c3o (H2.out.dr hd.keeps)
  have K3:=c3o (K2.out.trans (hd.keeps (S:=[g])))
  have O1:=c3o (a0b HOW1.out (hd.keeps (S:=[])) (by simp))
  have O2:=c3o (a0b HOW2.out (hd.keeps (S:=[])) (by simp))
  have e2:IntKind.i64.wrap ((q:Int)-(p:Int))=((q-p:Nat):Int):=by rw[show (q:Int)-(p:Int)=((q-p:Nat):Int) by omega];exact c3r _ (by omega)
  clear hd H2 K2 HO1 HO2 HOW1 HOW2
  go_wp2_with fail
  refine (b2b _ _ _ _ _ q (q-p) _ (by first|rfl|omega) H3.out (by omega)).mono ?_
  rintro r w4 ⟨rfl,h4,k4⟩
  have H4:=c3o h4
  have K4:=c3o (K3.out.trans k4)
  have P1:=c3o (a0b O1.out k4 (fun x hx hm=>by have:=(O1.out.lt x hx).1;rw[c3p.1 hm] at this;have:=HGW.out;omega))
  have P2:=c3o (a0b O2.out k4 (fun x hx hm=>by have:=(O2.out.lt x hx).1;rw[c3p.1 hm] at this;have:=HGW.out;omega))
  clear h4 k4 H3 K3 O1 O2
  go_wp2_with fail
  go_ret3
  refine⟨_,_,by rw[hE];rfl,P1.out.mono S1.out,P2.out.mono S1.out,?_,K4.out⟩
  rw[HN.out]
  have:=H4.out
  rwa [show q-(q-p)=p+0 by omega] at this
end Go.Proofs.YtghjlpechjggjaaGreatDoor
namespace Go.Proofs.YtghjlpechjggjaaGreatDoor
open Go.RowKit
structure IR (w:World) (g gr:Nat) (A:Option Addr) (c:Nat) (bs:List Int) (p most:Nat) (out:List Int):Prop where
 rd:Rdr w gr A c bs p
 box:∃ v,Blk w g 178 [.pointer (some ⟨gr,0,none⟩),v,.int .i64 most]/\w.ownsRow (g+1) 5 1 v out.length (ints .u8 out)
 lt:gr<g
 data:∀ a,A=some a->a.block<g
 cap:out.length<=most
 mx:most<=16384
 u8:∀ v,w.cell? ⟨g,1,none⟩=some v->AllU8 w v
structure KT (g gr:Nat) (w w':World):Prop where
 os:w'.os=w.os
 tape:w'.tape=w.tape
 output:w'.output=w.output
 size:w.heap.size<=w'.heap.size
 same:∀ k,k<w.heap.size->k≠g->k≠gr->(k<g∨¬U8 w k)->w'.heap[k]? =w.heap[k]?
theorem KT.refl(g gr:Nat)(w:World):KT g gr w w:=⟨rfl,rfl,rfl,c3I _,fun _ _ _ _ _=>rfl⟩
theorem KT.trans{g gr:Nat}{a b c:World}(h:KT g gr a b)(k:KT g gr b c):KT g gr a c:=
 ⟨k.os.trans h.os,k.tape.trans h.tape,k.output.trans h.output,Nat.le_trans h.size k.size,fun x hx h1 h2 h3=>by
  have e:=h.same x hx h1 h2 h3
  rw[k.same x (by have:=h.size;omega) h1 h2 (h3.imp id (fun hn ⟨cur,fr,hc⟩=>hn ⟨cur,fr,by rw[<-e];exact hc⟩)),e]⟩
theorem KT.of_keeps{g gr:Nat}{S:List Nat}{w w':World}(h:Keeps S w w')(hS:∀ x∈S,x=g∨x=gr):KT g gr w w':=
 ⟨h.os,h.tape,h.output,h.size,fun k hk h1 h2 _=>h.block k hk (fun hm=>by rcases hS k hm with h|h<;>omega)⟩
theorem KT.set{g gr:Nat}{w w':World}(h:KT g gr w w')(j:Nat)(v:Value):KT g gr w (w'.setCell ⟨g,j,none⟩ v):=
 h.trans (KT.of_keeps (S:=[g]) ((Keeps.refl [g] w').setCell (p:=⟨g,j,none⟩) (Or.inl (by simp)) v) (fun x hx=>.inl (c3p.1 hx)))
theorem KT.grown{g gr:Nat}{w w1 w2:World}{row:Option Nat}(h:KT g gr w w1)(hg:w1.grownBy w2 row)(hr:∀ k,row=some k->U8 w1 k/\g<k):KT g gr w w2:=
 h.trans ⟨hg.os,hg.tape,hg.output,hg.size,fun k hk _ _ h3=>hg.block k hk (fun e=>by
  obtain⟨a,b⟩:=hr k e.symm
  rcases h3 with h3|h3
  ·omega
  ·exact h3 a)⟩
theorem IR.glt{w:World}{g gr c p most:Nat}{A:Option Addr}{bs out:List Int}(h:IR w g gr A c bs p most out):g<w.heap.size:=by
 obtain⟨v,h1,_⟩:=h.box;exact h1.lt
theorem IR.u8v{w:World}{g gr c p most:Nat}{A:Option Addr}{bs out:List Int}(h:IR w g gr A c bs p most out){v x y:Value}(hb:Blk w g 178 [x,v,y]):AllU8 w v:=h.u8 v (by have:=hb.cell 1;simpa using this)
theorem b0c{w':World}{g:Nat}{v x y:Value}(hb:Blk w' g 178 [x,v,y])(hu:AllU8 w' v):∀ u,w'.cell? ⟨g,1,none⟩=some u->AllU8 w' u:=fun u hc=>by
 have h:=hb.cell 1
 simp only[c3q,c3s] at h
 rw[h] at hc
 injection hc with hc
 subst hc
 exact hu
theorem IR.keeps{w w':World}{g gr c p most:Nat}{A:Option Addr}{bs out:List Int}(h:IR w g gr A c bs p most out)(hk:Keeps [] w w'):IR w' g gr A c bs p most out:=by
 obtain⟨v,h1,h2⟩:=h.box
 exact⟨h.rd.dr hk,⟨v,h1.keeps hk (by simp),a0b h2 hk (by simp)⟩,h.lt,h.data,h.cap,h.mx,b0c (h1.keeps hk (by simp)) ((h.u8v h1).keeps hk (by simp))⟩
theorem IR.read{w w':World}{g gr c p q most:Nat}{A:Option Addr}{bs out:List Int}(h:IR w g gr A c bs p most out)(hr:Rdr w' gr A c bs q)(hk:Keeps [gr] w w'):IR w' g gr A c bs q most out:=by
 obtain⟨v,h1,h2⟩:=h.box
 have:=h.lt
 exact⟨hr,⟨v,h1.keeps hk (by simp;omega),a0b h2 hk (fun x hx hm=>by have:=a0j h2 x hx;rw[c3p.1 hm] at this;omega)⟩,h.lt,h.data,h.cap,h.mx,b0c (h1.keeps hk (by simp;omega)) ((h.u8v h1).keeps hk (fun x hx hm=>by have:=a0j h2 x hx;rw[c3p.1 hm] at this;omega))⟩
theorem b0M{w w':World}{row:Option Nat}(h:w.grownBy w' row):Keeps row.toList w w':=
 ⟨h.os,h.tape,h.output,h.size,fun k hk hm=>h.block k hk (fun e=>hm (c3t.2 e.symm))⟩
theorem c2E{w w':World}{g gr base n size:Nat}{t:TypeId}{v:Value}{xs:List Value}(ht:t≠5)(hb:g<base)(hr:gr<base)(h:w.ownsRow base t size v n xs)(hp:KT g gr w w'):w'.ownsRow base t size v n xs:=by
 obtain⟨h1,h2⟩:=h
 refine⟨h1,?_⟩
 rcases h2 with h2|⟨b,cap,cur,hv,hb2,hh,r⟩
 ·exact Or.inl h2
 ·refine Or.inr ⟨b,cap,cur,hv,hb2,?_,r⟩
  rw[hp.same b (Array.getElem?_eq_some_iff.1 hh).1 (by omega) (by omega) (.inr fun ⟨c,f,hc⟩=>?_),hh]
  rw[hh] at hc
  injection hc with hc
  injection hc with _ h2 _
  exact ht h2
theorem c2n{w w':World}{g gr k:Nat}{t:TypeId}{cs:List Value}(ht:t≠5)(hk:k≠g)(hr:k≠gr)(h:Blk w k t cs)(hp:KT g gr w w'):Blk w' k t cs:=by
 refine (hp.same k h.lt hk hr (.inr fun ⟨c,f,hc⟩=>?_)).trans h
 have h2:w.heap[k]? =_:=h
 rw[h2] at hc
 injection hc with hc
 injection hc with _ h3 _
 exact ht h3
theorem c1l{w w':World}{g gr:Nat}(hp:KT g gr w w'){a:Addr}{v:Value}(h:w.cell? a=some v)(h1:a.block<g)(h2:a.block≠gr):w'.cell? a=some v:=by
 have hb:=World.block_lt_of_cell? _ _ h
 have e:=hp.same a.block hb (by omega) h2 (.inl h1)
 have k:Keeps [g,gr] ({ w with heap:=w.heap }:World) w:=Keeps.refl _ _
 unfold World.cell? at h ⊢
 rw[e];exact h
theorem ri_kt{w w':World}{g gr n:Nat}{k:IntKind}{A:Option Addr}{xs:List Int}(h:RI k w A n xs)(hp:KT g gr w w')(ho:∀ a,A=some a->a.block<g/\a.block≠gr):RI k w' A n xs:=
 ⟨h.len,h.hd,fun b o ha j hj=>c1l hp (h.cell b o ha j hj) (ho _ ha).1 (ho _ ha).2⟩
theorem c1Q{w w':World}{g gr:Nat}(h:Tabs w)(hp:KT g gr w w')(h3:gtop<=gr)(hg:gr<g):Tabs w':=by
 have:=glt
 exact⟨ri_kt h.fro hp (by rintro a ⟨⟩;constructor<;>simp only[]<;>omega),ri_kt h.wid hp (by rintro a ⟨⟩;constructor<;>simp only[]<;>omega),ri_kt h.ord hp (by rintro a ⟨⟩;constructor<;>simp only[]<;>omega)⟩
theorem a3v(w:World)(e o:Int):Calls Tryz.prog 161 #[.int .i64 e,.int .i64 o] w fun r w'=>r=.returned (.int .i64 (endF e o))/\Dr w w':=by
 by_cases h0:e=0
 ·subst h0
  go_enter Tryz.func161,Tryz.ntmps161
  go_wp2_with fail
  go_ret
  exact⟨rfl,0,rfl⟩
 ·by_cases h1:e=10
  ·subst h1
   go_enter Tryz.func161,Tryz.ntmps161
   go_wp2_with fail
   go_ret
   exact⟨rfl,0,rfl⟩
  ·have HE:Hid (endF e o=o):=c3o (by unfold endF;rw[if_neg h0,if_neg h1])
   have e0:(e==0)=false:=by simpa using h0
   have e1:(e==10)=false:=by simpa using h1
   have e0':decide (e=0)=false:=by simpa using h0
   have e1':decide (e=10)=false:=by simpa using h1
   go_enter Tryz.func161,Tryz.ntmps161
   go_wp2_with fail
   go_ret
   rw[HE.out]
   exact⟨rfl,0,rfl⟩
def Took(w:World)(g gr:Nat)(A:Option Addr)(c:Nat)(bs:List Int)(p most:Nat)(out:List Int)(n:Nat)(e:Ending)(w':World):Prop:=
 (p+n<=8*bs.length/\e=.returned (.tuple #[.int .i64 (numB bs p n),.int .i64 0])/\IR w' g gr A c bs (p+n) most out/\KT g gr w w') ∨
 (8*bs.length<p+n/\e=.returned (.tuple #[.int .i64 0,.int .i64 55])/\IR w' g gr A c bs p most out/\KT g gr w w')
theorem a1Y(w:World)(g gr:Nat)(A:Option Addr)(c:Nat)(bs:List Int)(p most:Nat)(out:List Int)(n:Nat)(h:IR w g gr A c bs p most out)(hn:n<=16) :
  Calls Tryz.prog 142 #[.pointer (some ⟨g,0,none⟩),.int .i64 n] w (Took w g gr A c bs p most out n):=by
 have H:=c3o h
 obtain⟨v,hblk,-⟩:=h.box
 have c0:=hblk.cell 0
 simp only[c3q] at c0
 have hgr:=h.lt
 clear hblk h
 go_enter Tryz.func142,Tryz.ntmps142
 by_cases hf:p+n<=8*bs.length
 ·obtain⟨n0,n1⟩:=a0F bs p n
  have h16:(2:Int)^n<=65536:=b7I n hn
  go_wp2_with fail
  refine (a3Y w gr A c bs p n H.out.rd (by omega) hf).mono ?_
  rintro _ w1 ⟨rfl,hr,hk⟩
  have H1:=c3o (H.out.read hr hk)
  have K1:Hid (KT g gr w w1):=c3o (KT.of_keeps hk (fun x hx=>.inr (c3p.1 hx)))
  clear hr hk H c0
  have s1:IntKind.i64.wrap (numB bs p n)=numB bs p n:=c3r _ (by omega)
  have HF:=c3o hf
  clear n1 h16
  generalize hx:numB bs p n=x at *
  have HX:=c3o hx
  clear hx
  go_wp2_with fail
  refine (a3v w1 0 0).mono ?_
  rintro _ w2 ⟨rfl,hd⟩
  have H2:=c3o (H1.out.keeps (hd.keeps (S:=[])))
  have K2:=c3o (K1.out.trans (KT.of_keeps (hd.keeps (S:=[])) (by simp)))
  clear hd H1 K1
  go_wp2_with fail
  go_ret2
  exact .inl ⟨HF.out,by rw[HX.out];rfl,H2.out,K2.out⟩
 ·have HF:Hid (8*bs.length<p+n):=c3o (by omega)
  go_wp2_with fail
  refine (a6x w gr A c bs p n H.out.rd (by omega) (by omega)).mono ?_
  rintro _ w1 ⟨rfl,hd⟩
  have H1:=c3o (H.out.keeps (hd.keeps (S:=[])))
  have K1:Hid (KT g gr w w1):=c3o (KT.of_keeps (hd.keeps (S:=[])) (by simp))
  clear hd H c0
  go_wp2_with fail
  refine (a3v w1 10 10).mono ?_
  rintro _ w2 ⟨rfl,hd⟩
  have H2:=c3o (H1.out.keeps (hd.keeps (S:=[])))
  have K2:=c3o (K1.out.trans (KT.of_keeps (hd.keeps (S:=[])) (by simp)))
  clear hd H1 K1
  go_wp2_with fail
  go_ret2
  exact .inr ⟨HF.out,rfl,H2.out,K2.out⟩
theorem b1Z(w:World)(gr:Nat)(A:Option Addr)(c:Nat)(bs:List Int)(p:Nat)(hr:Rdr w gr A c bs p) :
  Calls Tryz.prog 162 #[.pointer (some ⟨gr,0,none⟩)] w fun e w'=>e=.returned (.int .i64 0)/\Rdr w' gr A c bs (a1p p)/\Keeps [gr] w w':=by
 have hb:=hr.blk
 have h1:=hb.cell 1
 have f1:=hb.frozen 1
 simp only[c3s,c3q] at h1
 have hle:=hr.le
 have hsz:=hr.size
 have HR:=c3o hr
 clear hb hr
 have s1:IntKind.i64.wrap ((p:Int)+7)=(p:Int)+7:=c3r _ (by omega)
 have s2:((p:Int)+7).tdiv 8=(((p+7)/8:Nat):Int):=by rw[Int.tdiv_eq_ediv_of_nonneg (by omega)];omega
 have s3:IntKind.i64.wrap ((((p+7)/8:Nat):Int)*8)=(((p+7)/8*8:Nat):Int):=by
  rw[c3r _ (by omega)];omega
 go_enter Tryz.func162,Tryz.ntmps162
 go_wp2_with fail
 have HA:Hid (a1p p<=8*bs.length):=c3o (by unfold a1p;omega)
 have HE:Hid (((p:Int)+7)/8*8=((a1p p:Nat):Int)):=c3o (by unfold a1p;omega)
 go_ret
 rw[HE.out]
 exact⟨rfl,HR.out.move HA.out,(Keeps.refl [gr] w).setCell (p:=⟨gr,1,none⟩) (Or.inl (by simp)) _⟩
theorem a7d(w:World)(g gr:Nat)(A:Option Addr)(c:Nat)(bs:List Int)(p most:Nat)(out:List Int)(x:Int)(h:IR w g gr A c bs p most out) :
  Calls Tryz.prog 163 #[.pointer (some ⟨g,0,none⟩),.int .u8 x] w fun e w'=>
   (most<=out.length/\e=.returned (.int .i64 56)/\IR w' g gr A c bs p most out/\KT g gr w w')∨(out.length<most/\e=.returned (.int .i64 0)/\IR w' g gr A c bs p most (out++[x])/\KT g gr w w'):=by
 have H:=c3o h
 obtain⟨v,hblk,hown⟩:=h.box
 obtain⟨vA,vc,rfl⟩:=a0h hown
 have c1:=hblk.cell 1
 have c2:=hblk.cell 2
 simp only[c3q,c3s] at c1 c2
 have f1:=hblk.frozen 1
 have hlt:=hblk.lt
 have hcap:=h.cap
 have hmx:=h.mx
 have HU:=c3o (h.u8v hblk)
 have HB:=c3o hblk
 have HO:=c3o hown
 clear hblk hown h
 go_enter Tryz.func163,Tryz.ntmps163
 obtain⟨L,hL⟩:∃ L,L=out.length:=⟨_,rfl⟩
 have HL:=c3o hL
 rw[<-hL] at HO c1 HB HU hcap ⊢
 clear hL
 by_cases hm:most<=L
 ·have e1:decide (most<=L)=true:=by simpa using hm
  have e1':decide ((most:Int)<=(L:Int))=true:=by simp;omega
  go_upto_region 1 with (fail)
  go_quiet (fail)
  go_wp2_with fail
  go_ret
  exact .inl ⟨hm,rfl,H.out.keeps ((Keeps.refl [] w).drewN nq),KT.of_keeps ((Keeps.refl [] w).drewN nq) (by simp)⟩
 ·have e1:decide (most<=L)=false:=by simpa using hm
  have e1':decide ((most:Int)<=(L:Int))=false:=by simp;omega
  go_upto_region 1 with (fail)
  go_quiet (fail)
  have hkq:Keeps [] w (w.drewN nq):=(Keeps.refl [] w).drewN nq
  obtain⟨wq,hwq⟩:∃ z,z=w.drewN nq:=⟨_,rfl⟩
  rw[<-hwq] at hkq ⊢
  clear hwq
  have ka:Keeps [] wq (wq.alloc (.cells #[.int .u8 x] 5)):=(Keeps.refl [] wq).alloc _
  have HOA:=c3o (a0b HO.out (hkq.trans ka) (by simp))
  have HBA:=c3o (HB.out.keeps (hkq.trans ka) (by simp))
  have HQ:=c3o (H.out.keeps (hkq.trans ka))
  have HUA:=c3o (HU.out.keeps (hkq.trans ka) (by simp))
  have HKA:Hid (KT g gr w (wq.alloc (.cells #[.int .u8 x] 5))):=c3o (KT.of_keeps (hkq.trans ka) (by simp))
  have HRI:Hid (RI .u8 (wq.alloc (.cells #[.int .u8 x] 5)) (some ⟨wq.heap.size,0,none⟩) 1 [x]):=c3o (Blk.ri (xs:=[x]) (ys:=[]) (k:=.u8) (by simpa [ints] using a0d wq 5 (ints .u8 [x])))
  have c1':=hkq.cell (by simp) c1
  have hltq:g<wq.heap.size:=c3w hlt hkq.size
  clear c1 c2 f1 hkq ka HO HB H HU e1
  go_wp2_with (at_builtin;refine a8h rfl (.tmp 19) (.tmp 21) rfl (g+1) _ _ out rfl (by exact HOA.out) _ 1 1 [x] rfl (by exact HRI.out) (by simp) (by omega) ?c4 ?_)
  case c4=>simp;omega
  intro v1 w1 ho1 hg1 _ hu1
  have HU1:=c3o (hu1 HUA.out)
  clear hu1
  have hg0:∀ k,(Value.slice vA L vc).ownBlock=some k->g+1<=k:=fun k hk=>(HOA.out.lt k hk).1
  have hblk1:Blk w1 g 178 [.pointer (some ⟨gr,0,none⟩),.slice vA L vc,.int .i64 most]:=(hg1.block g (Nat.lt_trans hltq (by simp)) (fun e=>by have:=hg0 g e.symm;omega)).trans HBA.out
  have kg:=b0M hg1
  have HR1:=c3o (HQ.out.rd.keeps kg (fun hm=>by have:=hg0 gr (c3t.1 hm);have:=HQ.out.lt;omega) (fun a ha hm=>by have:=hg0 a.block (c3t.1 hm);have:=HQ.out.data a ha;omega))
  have K1:=c3o (HKA.out.grown hg1 (fun k hk=>⟨b4o HOA.out k hk,hg0 k hk⟩))
  have HO1:=c3o ho1
  have HB1:=c3o hblk1
  obtain⟨vB,vd,rfl⟩:∃ A c,v1=.slice A (L+1) c:=a0h ho1
  have c1:=hblk1.cell 1
  simp only[c3q,c3s] at c1
  have f1:=hblk1.frozen 1
  clear HOA HBA HKA HRI c1' kg hg1 ho1 hblk1 hg0
  go_wp2_with fail
  go_ret
  have hs:=(HB1.out.set 1 (.slice vB (L+1) vd))
  simp only[c3F,c3G] at hs
  have ks:Keeps [g] w1 (w1.setCell ⟨g,1,none⟩ (.slice vB (L+1) vd)):=(Keeps.refl [g] w1).setCell (p:=⟨g,1,none⟩) (Or.inl (by simp)) _
  have hgr:=HQ.out.lt
  refine .inr ⟨by omega,rfl,⟨HR1.out.keeps ks (by simp;omega) (fun a ha hm=>by have:=HQ.out.data a ha;rw[c3p.1 hm] at this;omega),⟨_,hs,?_⟩,hgr,HQ.out.data,?_,hmx,b0c hs (HU1.out.keeps ks (fun x hx hm=>by have:=a0j HO1.out x hx;rw[c3p.1 hm] at this;omega))⟩,K1.out.set 1 _⟩
  ·rw[c3E,List.length_singleton,<-HL.out]
   exact c3C HO1.out (a:=⟨g,1,none⟩) (Nat.lt_succ_self g) _
  ·rw[c3E,List.length_singleton,<-HL.out];omega
end Go.Proofs.YtghjlpechjggjaaGreatDoor
namespace Go.Proofs.YtghjlpechjggjaaGreatDoor
open Go.RowKit
def Part(w:World)(g gr:Nat)(A:Option Addr)(c:Nat)(bs:List Int)(most:Nat)(r:IRes)(e:Ending)(w':World):Prop:=
 ∃ q,e=.returned (.int .i64 r.2.2)/\IR w' g gr A c bs q most r.1/\KT g gr w w'/\(r.2.2=0->q=r.2.1)
theorem a9F{w w':World}{g gr c most q:Nat}{A:Option Addr}{bs out:List Int}{r:IRes}(hr:r=(out,q,0))(h:IR w' g gr A c bs q most out)(k:KT g gr w w'):Part w g gr A c bs most r (.returned (.int .i64 0)) w':=by
 subst hr;exact⟨q,rfl,h,k,fun _=>rfl⟩
theorem a0T{w w':World}{g gr c most q:Nat}{A:Option Addr}{bs out:List Int}{r:IRes}{e:Int}(hr:r=(out,0,e))(he:e≠0)(h:IR w' g gr A c bs q most out)(k:KT g gr w w'):Part w g gr A c bs most r (.returned (.int .i64 e)) w':=by
 subst hr;exact⟨q,rfl,h,k,fun h=>absurd h he⟩
theorem c2T(m:Int)(h0:0<=m)(h1:m<65536):Go.bits .xor .i64 m 65535=65535-m:=by
 obtain⟨k,rfl⟩:=c3v h0
 have hk:k<65536:=by omega
 have hx:k ^^^ 65535<2^62:=c3w (Nat.xor_lt_two_pow (show k<2^16 by omega) (by decide:65535<2^16)) (by decide)
 have e:k ^^^ 65535=65535-k:=by
  apply Nat.eq_of_testBit_eq
  intro i
  have h2:=Nat.testBit_two_pow_sub_succ (show k<2^16 by omega) i
  rw[show 2^16-(k+1)=65535-k by omega] at h2
  rw[Nat.testBit_xor,h2,show (65535:Nat)=2^16-1 from rfl,Nat.testBit_two_pow_sub_one]
  by_cases hi:i<16
  ·simp[hi]
  ·have:k.testBit i=false:=Nat.testBit_lt_two_pow (c3w (show k<2^16 by omega) (c3z (by decide) (by omega)))
   simp[hi,this]
 have e2:Go.bits .xor .i64 (k:Int) ((65535:Nat):Int)=((k ^^^ 65535:Nat):Int):=by
  simp only[Go.bits,BitVec.ofInt_natCast,BitVec.toNat_xor,BitVec.toNat_ofNat,show k%2^IntKind.i64.bits=k from Nat.mod_eq_of_lt (c3w (show k<2^16 by omega) (by decide)),show 65535%2^IntKind.i64.bits=65535 from rfl]
  exact c3r _ (by rw[e];omega)
 rw[show (65535:Int)=((65535:Nat):Int) from rfl]
 refine Eq.trans e2 ?_
 rw[e]
 omega
theorem b1A(w:World)(g gr:Nat)(A:Option Addr)(c:Nat)(bs:List Int)(p most:Nat)(out:List Int)(h:IR w g gr A c bs p most out) :
  Calls Tryz.prog 143 #[.pointer (some ⟨g,0,none⟩)] w (Part w g gr A c bs most (a0m bs most out p)):=by
 have H:=c3o h
 obtain⟨v,hblk,-⟩:=h.box
 have c0:=hblk.cell 0
 simp only[c3q] at c0
 clear hblk h
 go_enter Tryz.func143,Tryz.ntmps143
 go_wp2_with fail
 refine (b1Z w gr A c bs p H.out.rd).mono ?_
 rintro _ w1 ⟨rfl,hr,hk⟩
 have H1:=c3o (H.out.read hr hk)
 have K1:Hid (KT g gr w w1):=c3o (KT.of_keeps hk (fun x hx=>.inr (c3p.1 hx)))
 clear hr hk H c0
 obtain⟨a,ha⟩:∃ a,a=a1p p:=⟨_,rfl⟩
 have HA:=c3o ha
 rw[<-ha] at H1
 clear ha
 go_wp2_with fail
 refine (a1Y w1 g gr A c bs a most out 16 H1.out (by omega)).mono ?_
 rintro _ w2 (⟨hf,rfl,h2,k2⟩|⟨hf,rfl,h2,k2⟩)
 rotate_left
 ·have HR:Hid (a0m bs most out p=(out,0,55)):=c3o (by unfold a0m;rw[<-HA.out,if_pos hf])
  have H2:=c3o h2
  have K2:=c3o (K1.out.trans k2)
  clear h2 k2 H1 K1
  go_wp2_with fail
  go_ret
  exact a0T HR.out (by decide) H2.out K2.out
 have H2:=c3o h2
 have K2:=c3o (K1.out.trans k2)
 clear h2 k2 H1 K1
 obtain⟨n0,n1⟩:=a0F bs a 16
 rw[show (2:Int)^16=65536 from rfl] at n1
 obtain⟨N,hN⟩:∃ N:Nat,numB bs a 16=N:=⟨(numB bs a 16).toNat,by omega⟩
 have HN:=c3o hN
 rw[hN] at n1 ⊢
 clear hN n0
 go_wp2_with fail
 refine (a1Y w2 g gr A c bs (a+16) most out 16 H2.out (by omega)).mono ?_
 rintro _ w3 (⟨hf3,rfl,h3,k3⟩|⟨hf3,rfl,h3,k3⟩)
 rotate_left
 ·have HR:Hid (a0m bs most out p=(out,0,55)):=c3o (by unfold a0m;rw[<-HA.out,if_neg (by omega),if_pos (by omega)])
  have H3:=c3o h3
  have K3:=c3o (K2.out.trans k3)
  clear h3 k3 H2 K2
  go_wp2_with fail
  go_ret
  exact a0T HR.out (by decide) H3.out K3.out
 have H3:=c3o h3
 have K3:=c3o (K2.out.trans k3)
 clear h3 k3 H2 K2
 obtain⟨m0,m1⟩:=a0F bs (a+16) 16
 rw[show (2:Int)^16=65536 from rfl] at m1
 obtain⟨M,hM⟩:∃ M:Nat,numB bs (a+16) 16=M:=⟨(numB bs (a+16) 16).toNat,by omega⟩
 have HM:=c3o hM
 rw[hM] at m0 m1 ⊢
 clear hM
 have X:=c2T M m0 m1
 by_cases hs:(N:Int)=65535-(M:Int)
 ·have e1:((N:Int) !=65535-(M:Int))=false:=by simpa using hs
  have HR:Hid (a0m bs most out p=storF bs most N out (a+32)):=c3o (by
   unfold a0m
   rw[<-HA.out,if_neg (by omega),if_neg (by omega),HN.out,HM.out,if_neg (by omega),c3x])
  clear hs m0 m1
  go_wp2_with fail
  clear X e1
  go_loopw [35] (fun iv wr=>∃ (i q:Nat) (o:List Int),i<=N/\iv=.int .i64 i/\Hid (storF bs most N out (a+32)=storF bs most (N-i) o q)/\Hid (IR wr g gr A c bs q most o)/\Hid (KT g gr w wr)) (fun iv _=>N-(intOf iv).toNat)
  case atStart=>exact⟨0,a+32,out,by omega,rfl,c3o rfl,by rw[show a+32=a+16+16 by omega];exact H3,K3⟩
  case round=>
   clear H3 K3
   obtain⟨i,q,o,hi,rfl,HS,H,K⟩:=hrel
   by_cases hlt:i<N
   ·have e0:decide (i<N)=true:=by simpa using hlt
    have HS':Hid (storF bs most (N-i) o q=if 8*bs.length<q+8 then (o,0,55) else if most<=o.length then (o,0,56) else storF bs most (N-(i+1)) (o++[numB bs q 8]) (q+8)):=c3o (by rw[show N-i=(N-(i+1))+1 by omega,storF])
    go_wp2_with fail
    refine (a1Y wr g gr A c bs q most o 8 H.out (by omega)).mono ?_
    rintro _ w4 (⟨hf4,rfl,h4,k4⟩|⟨hf4,rfl,h4,k4⟩)
    ·have H4:=c3o h4
     have K4:=c3o (K.out.trans k4)
     have HF:=c3o hf4
     clear h4 k4 H K hf4
     obtain⟨b0,b1⟩:=a0F bs q 8
     rw[show (2:Int)^8=256 from rfl] at b1
     obtain⟨x,hx⟩:∃ x,x=numB bs q 8:=⟨_,rfl⟩
     rw[<-hx] at b0 b1 HS' ⊢
     have HX:=c3o hx
     clear hx
     have s1:IntKind.u8.wrap x=x:=by rw[IntKind.wrap_u8];omega
     go_wp2_with fail
     refine (a7d w4 g gr A c bs (q+8) most o x H4.out).mono ?_
     rintro _ w5 (⟨hm,rfl,h5,k5⟩|⟨hm,rfl,h5,k5⟩)
     ·have H5:=c3o h5
      have K5:=c3o (K4.out.trans k5)
      have HE:Hid (a0m bs most out p=(o,0,56)):=c3o (by rw[HR.out,HS.out,HS'.out,if_neg (by have:=HF.out;omega),if_pos hm])
      clear h5 k5 H4 K4 HS HS' HR
      go_wp2_with fail
      go_ret
      exact a0T HE.out (by decide) H5.out K5.out
     ·have H5:=c3o h5
      have K5:=c3o (K4.out.trans k5)
      have HS2:Hid (storF bs most N out (a+32)=storF bs most (N-(i+1)) (o++[x]) (q+8)):=c3o (by rw[HS.out,HS'.out,if_neg (by have:=HF.out;omega),if_neg (by omega)])
      clear h5 k5 H4 K4 HS HS'
      go_wp2_with fail
      go_roundw
      case rel=>exact⟨i+1,q+8,o++[x],by omega,by go_num,HS2,H5,K5⟩
      case measure=>simp[intOf];omega
    ·have H4:=c3o h4
     have K4:=c3o (K.out.trans k4)
     have HE:Hid (a0m bs most out p=(o,0,55)):=c3o (by rw[HR.out,HS.out,HS'.out,if_pos hf4])
     clear h4 k4 H K hf4 HS HS' HR
     go_wp2_with fail
     go_ret
     exact a0T HE.out (by decide) H4.out K4.out
   ·obtain rfl:i=N:=by omega
    have e0:decide (i<i)=false:=by simp
    have HE:Hid (a0m bs most out p=(o,q,0)):=c3o (by rw[HR.out,HS.out,c3H,storF])
    clear HS HR
    go_wp2_with fail
    go_ret
    exact a9F HE.out H.out K.out
 ·have e1:((N:Int) !=65535-(M:Int))=true:=by simpa using hs
  have HR:Hid (a0m bs most out p=(out,0,51)):=c3o (by
   unfold a0m
   rw[<-HA.out,if_neg (by omega),if_neg (by omega),HN.out,HM.out,if_pos (by omega)])
  clear hs m0 m1
  go_wp2_with fail
  go_ret
  exact a0T HR.out (by decide) H3.out K3.out
end Go.Proofs.YtghjlpechjggjaaGreatDoor
namespace Go.Proofs.YtghjlpechjggjaaGreatDoor
open Go.RowKit
theorem b2a(l:List Int):a0z l=true↔∃ j,j<l.length/\0<nth l j:=by
 unfold a0z
 rw[List.any_eq_true]
 constructor
 ·rintro ⟨x,hx,h⟩
  obtain⟨j,hj,rfl⟩:=List.getElem_of_mem hx
  exact⟨j,hj,by rw[a0o hj];simpa using h⟩
 ·rintro ⟨j,hj,h⟩
  exact⟨l[j],c3D _,by rw[a0o hj] at h;simpa using h⟩
def MaxP(w:World)(l:List Int)(e:Ending)(w':World):Prop:=∃ m:Int,e=.returned (.int .i64 m)/\decide (0<m)=a0z l/\Dr w w'
theorem b9E{w w':World}{l:List Int}{m:Int}(h:0<m↔∃ j,j<l.length/\0<nth l j)(hd:Dr w w'):MaxP w l (.returned (.int .i64 m)) w':=by
 refine⟨m,rfl,?_,hd⟩
 rw[Bool.eq_iff_iff,b2a,decide_eq_true_iff]
 exact h
theorem b7k(w:World)(A:Option Addr)(n c:Nat)(l:List Int)(hl:RI .i64 w A n l)(h1:1<=n)(hn:n<=140737488355328) :
  Calls Tryz.prog 177 #[.slice A n c] w (MaxP w l):=by
 have HL:=c3o hl
 have HLL:=c3o hl.len
 obtain⟨b,o,rfl,hc0⟩:=hl.at (show 0<n by omega)
 rw[Nat.add_zero] at hc0
 clear hl
 have e0:decide (n<1)=false:=by simp;omega
 have e0':decide ((n:Int)<1)=false:=by simp;omega
 go_enter Tryz.func177,Tryz.ntmps177
 go_wp2_with fail
 clear hc0 e0 e0'
 go_loopw [3,4] (fun mv iv wr=>∃ (m:Int) (k:Nat),1<=k/\k<=n/\iv=.int .i64 k/\mv=.int .i64 m/\Hid (0<m↔∃ j,j<k/\0<nth l j)/\Hid (Dr w wr)) (fun _ iv _=>n-(intOf iv).toNat)
 case atStart=>exact⟨nth l 0,1,by omega,by omega,rfl,rfl,c3o ⟨fun h=>⟨0,by omega,h⟩,fun ⟨j,hj,h⟩=>by rwa [show j=0 by omega] at h⟩,c3o (Dr.refl w)⟩
 case round=>
  obtain⟨m,k,hk1,hk,rfl,rfl,HM,HD⟩:=hrel
  by_cases hlt:k<n
  ·have e1:decide (k<n)=true:=by simpa using hlt
   have hc:=(HL.out.keeps (HD.out.keeps (S:=[])) (a0a _)).cell b o rfl k hlt
   obtain⟨x,hx⟩:∃ x,x=nth l k:=⟨_,rfl⟩
   have HX:=c3o hx
   rw[<-hx] at hc
   clear hx
   go_wp2_with fail
   go_roundw
   case rel=>
    refine⟨_,k+1,by omega,by omega,by go_num,rfl,c3o ?_,HD⟩
    constructor
    ·intro h
     by_cases hm:0<m
     ·obtain⟨j,hj,h2⟩:=HM.out.1 hm
      exact⟨j,by omega,h2⟩
     ·exact⟨k,by omega,by rw[<-HX.out];first|omega|(split at h<;>omega)⟩
    ·rintro ⟨j,hj,h2⟩
     by_cases hjk:j=k
     ·subst hjk;rw[<-HX.out] at h2;first|omega|(split<;>omega)
     ·have:=HM.out.2 ⟨j,by omega,h2⟩;first|omega|(split<;>omega)
   case measure=>simp[intOf];omega
  ·obtain rfl:k=n:=by omega
   have e1:decide (k<k)=false:=by simp
   go_wp2_with fail
   go_ret
   exact b9E (by rw[HLL.out];exact HM.out) HD.out
theorem a7c(w:World)(A:Option Addr)(n c:Nat)(l:List Int)(hl:RI .i64 w A n l)(h1:1<=n)(hn:n<=140737488355328) :
  Calls Tryz.prog 165 #[.slice A n c] w fun e w'=>e=.returned (.bool (a0z l))/\Dr w w':=by
 have HL:=c3o hl
 clear hl
 go_enter Tryz.func165,Tryz.ntmps165
 go_wp2_with fail
 refine (b7k w A n c l HL.out h1 hn).mono ?_
 rintro _ w1 ⟨m,rfl,hm,hd⟩
 have HD:=c3o hd
 clear hd
 have HM:=c3o hm
 clear hm
 go_wp2_with fail
 go_ret
 rw[HM.out]
 exact⟨rfl,HD.out⟩
def fixGo(k:Nat):Int:=if k<144∨279<k then 8 else if k<256 then 9 else 7
def fixL(n:Nat):List Int:=(List.range n).map fixGo
theorem b6I(n:Nat):fixL (n+1)=fixL n++[fixGo n]:=by unfold fixL;rw[List.range_succ];simp
theorem b9d:fixL 288=fixLit:=by decide +kernel
theorem a4I:a0e fixLit=0/\a0e fixDist=0/\a0z fixDist=true/\fixLit.length=288/\fixDist.length=32:=by decide +kernel
theorem b2q(w:World):Calls Tryz.prog 145 #[] w fun e w'=>∃ v1 g2,e=.returned (.tuple #[v1,.slice (some ⟨g2,0,none⟩) 32 32])/\w'.ownsRow w.heap.size 3 1 v1 288 (ints .i64 fixLit)/\Blk w' g2 3 (ints .i64 fixDist)/\w.heap.size<=g2/\Below w.heap.size w w':=by
 go_enter Tryz.func145,Tryz.ntmps145
 go_wp2_with fail
 go_loopw [0,3] (fun u i wr=>∃ k:Nat,k<=288/\i=.int .i64 k/\Hid (wr.ownsRow w.heap.size 3 1 u k (ints .i64 (fixL k)))/\Hid (Below w.heap.size w wr)) (fun _ i _=>288-(intOf i).toNat)
 case atStart=>exact⟨0,by omega,rfl,c3o (c3y _ _ _ _),Below.refl _ _⟩
 case round=>
  obtain⟨k,hk,rfl,HO,HW⟩:=hrel
  have hsz:=HW.out.size
  by_cases hlt:k<288
  ·have e0:decide ((k:Int)<288)=true:=by simp;omega
   have fin:∀ x,fixGo k=x->∀ (v1:Value) (w1:World),w1.ownsRow w.heap.size 3 1 v1 (k+1) (ints .i64 (fixL k++[x]))->w1.ownsRow w.heap.size 3 1 v1 (k+1) (ints .i64 (fixL (k+1))):=fun x hx v1 w1 h=>by rw[b6I,hx];exact h
   have HF:=c3o fin
   clear fin
   have HRI:∀ x,Hid (RI .i64 (wr.alloc (.cells #[.int .i64 x] 3)) (some ⟨wr.heap.size,0,none⟩) 1 [x]):=fun x=>c3o (a8D _ _ _ _)
   have HR8:=HRI 8
   have HR9:=HRI 9
   have HR7:=HRI 7
   clear HRI
   by_cases h144:k<144
   ·have e1:decide ((k:Int)<144)=true:=by simp;omega
    go_wp2_with (at_builtin;refine a0Y rfl (.tmp 16) (.tmp 17) rfl w.heap.size _ k (fixL k) rfl (HO.out.alloc _) (some ⟨wr.heap.size,0,none⟩) 1 1 [8] rfl (by exact HR8.out) ?c1 ?c2 (by omega) ?c3 ?_)
    case c1=>simp
    case c2=>intro ad h;exact⟨_,_,(c3A h).symm⟩
    case c3=>simp;omega
    intro v' w1 h1 hg
    have HO1:=c3o (HF.out 8 (by unfold fixGo;rw[if_pos (by omega)]) _ _ h1)
    have HB1:=c3o ((HW.out.alloc (by omega) _).grown hg (by simp;omega) (fun k hk=>(HO.out.lt k hk).1))
    clear HO HW h1 hg HF
    go_wp2_with fail
    go_roundw
    case rel=>exact⟨k+1,by omega,by go_num,HO1,HB1⟩
    case measure=>simp[intOf];omega
   ·have e1:decide ((k:Int)<144)=false:=by simp;omega
    by_cases h279:279<k
    ·have e2:decide (279<(k:Int))=true:=by simp;omega
     go_wp2_with (at_builtin;refine a0Y rfl (.tmp 16) (.tmp 17) rfl w.heap.size _ k (fixL k) rfl (HO.out.alloc _) (some ⟨wr.heap.size,0,none⟩) 1 1 [8] rfl (by exact HR8.out) ?d1 ?d2 (by omega) ?d3 ?_)
     case d1=>simp
     case d2=>intro ad h;exact⟨_,_,(c3A h).symm⟩
     case d3=>simp;omega
     intro v' w1 h1 hg
     have HO1:=c3o (HF.out 8 (by unfold fixGo;rw[if_pos (by omega)]) _ _ h1)
     have HB1:=c3o ((HW.out.alloc (by omega) _).grown hg (by simp;omega) (fun k hk=>(HO.out.lt k hk).1))
     clear HO HW h1 hg HF
     go_wp2_with fail
     go_roundw
     case rel=>exact⟨k+1,by omega,by go_num,HO1,HB1⟩
     case measure=>simp[intOf];omega
    ·have e2:decide (279<(k:Int))=false:=by simp;omega
     by_cases h256:k<256
     ·have e3:decide ((k:Int)<256)=true:=by simp;omega
      go_wp2_with (at_builtin;refine a0Y rfl (.tmp 22) (.tmp 23) rfl w.heap.size _ k (fixL k) rfl (HO.out.alloc _) (some ⟨wr.heap.size,0,none⟩) 1 1 [9] rfl (by exact HR9.out) ?f1 ?f2 (by omega) ?f3 ?_)
      case f1=>simp
      case f2=>intro ad h;exact⟨_,_,(c3A h).symm⟩
      case f3=>simp;omega
      intro v' w1 h1 hg
      have HO1:=c3o (HF.out 9 (by unfold fixGo;rw[if_neg (by omega),if_pos (by omega)]) _ _ h1)
      have HB1:=c3o ((HW.out.alloc (by omega) _).grown hg (by simp;omega) (fun k hk=>(HO.out.lt k hk).1))
      clear HO HW h1 hg HF
      go_wp2_with fail
      go_roundw
      case rel=>exact⟨k+1,by omega,by go_num,HO1,HB1⟩
      case measure=>simp[intOf];omega
     ·have e3:decide ((k:Int)<256)=false:=by simp;omega
      go_wp2_with (at_builtin;refine a0Y rfl (.tmp 6) (.tmp 7) rfl w.heap.size _ k (fixL k) rfl (HO.out.alloc _) (some ⟨wr.heap.size,0,none⟩) 1 1 [7] rfl (by exact HR7.out) ?g1 ?g2 (by omega) ?g3 ?_)
      case g1=>simp
      case g2=>intro ad h;exact⟨_,_,(c3A h).symm⟩
      case g3=>simp;omega
      intro v' w1 h1 hg
      have HO1:=c3o (HF.out 7 (by unfold fixGo;rw[if_neg (by omega),if_neg (by omega)]) _ _ h1)
      have HB1:=c3o ((HW.out.alloc (by omega) _).grown hg (by simp;omega) (fun k hk=>(HO.out.lt k hk).1))
      clear HO HW h1 hg HF
      go_wp2_with fail
      go_roundw
      case rel=>exact⟨k+1,by omega,by go_num,HO1,HB1⟩
      case measure=>simp[intOf];omega
  ·obtain rfl:k=288:=by omega
   have e0:decide (((288:Nat):Int)<288)=false:=by decide
   have HO1:Hid (wr.ownsRow w.heap.size 3 1 _ 288 (ints .i64 fixLit)):=c3o (by have:=HO.out;rwa [b9d] at this)
   clear HO
   go_wp2_with fail
   refine (a1g _ wr.heap.size 1 32 32 5 rfl (by simp) (by omega) (by omega)).mono ?_
   rintro _ w2 ⟨g2,rfl,hb2,hg2,hB2⟩
   have HB2:=c3o hb2
   have hz:wr.heap.size<g2:=by simp at hg2;omega
   have HW2:=c3o ((HW.out.alloc hsz (.cells #[.int .i64 5] 3)).trans (hB2.mono (by simp;omega)))
   have hO2:=a0b HO1.out ((Keeps.refl [] wr).alloc (.cells #[.int .i64 5] 3)) (by simp)
   have HO2:=c3o (a0b hO2 (Keeps.of_below hB2 (S:=[])) (by simp))
   clear hb2 hg2 hB2 hO2 HO1 HW
   go_wp2_with fail
   go_ret2
   exact⟨_,_,rfl,HO2.out,HB2.out,by omega,HW2.out⟩
end Go.Proofs.YtghjlpechjggjaaGreatDoor
namespace Go.Proofs.YtghjlpechjggjaaGreatDoor
open Go.RowKit
def c2e(w:World)(g gr:Nat)(A:Option Addr)(c:Nat)(bs:List Int)(most:Nat)(out:List Int)(p:Nat)(h:List Int×List Int×Nat×Int)(e:Ending)(w':World):Prop:=
 (codesE h≠0/\∃ q,e=.returned (.tuple #[.slice none 0 0,.slice none 0 0,.int .i64 (codesE h)])/\IR w' g gr A c bs q most out/\KT g gr w w') ∨
 (codesE h=0/\∃ v1 v2,e=.returned (.tuple #[v1,v2,.int .i64 0])/\w'.ownsRow w.heap.size 3 1 v1 h.1.length (ints .i64 h.1)/\w'.ownsRow w.heap.size 3 1 v2 h.2.1.length (ints .i64 h.2.1) /\
  IR w' g gr A c bs (p+h.2.2.1) most out/\KT g gr w w')
theorem a4K{w w':World}{g gr c most p q:Nat}{A:Option Addr}{bs out:List Int}{h:List Int×List Int×Nat×Int}{e:Int}(hh:codesE h=e)(he:e≠0)(hi:IR w' g gr A c bs q most out)(k:KT g gr w w') :
  c2e w g gr A c bs most out p h (.returned (.tuple #[.slice none 0 0,.slice none 0 0,.int .i64 e])) w':=by
 subst hh;exact .inl ⟨he,q,rfl,hi,k⟩
theorem b5g(w:World)(g gr:Nat)(A:Option Addr)(c:Nat)(bs:List Int)(p most:Nat)(out:List Int)(hT:Tabs w)(hg:gtop<=gr)(h:IR w g gr A c bs p most out) :
  Calls Tryz.prog 146 #[.pointer (some ⟨g,0,none⟩)] w (c2e w g gr A c bs most out p (headF bs p)):=by
 have H:=c3o h
 have HT:=c3o hT
 obtain⟨v,hblk,-⟩:=h.box
 have hglt:=h.glt
 have HA:Hid (∀ a,A=some a->a.block<w.heap.size):=c3o (fun a ha=>Nat.lt_trans (h.data a ha) hglt)
 have c0:=hblk.cell 0
 simp only[c3q] at c0
 have HGR:=c3o (show gr<w.heap.size from Nat.lt_trans h.lt hglt)
 clear hblk h hT
 have hcR:=a8c w gr A c bs p HT.out hg H.out.rd HA.out
 have hfull:=@a6X bs p
 obtain⟨hd,hhd⟩:∃ h,h=headF bs p:=⟨_,rfl⟩
 rw[<-hhd] at hcR hfull ⊢
 clear hhd
 obtain⟨L1,L2,nn,er⟩:=hd
 simp only[] at hcR hfull
 have HF:=c3o hfull
 clear hfull
 go_enter Tryz.func146,Tryz.ntmps146
 go_wp2_with fail
 refine hcR.mono ?_
 rintro _ w1 ⟨v1,v2,rfl,ho1,ho2,hr1,hk1⟩
 have H1:=c3o (H.out.read hr1 hk1)
 have K1:Hid (KT g gr w w1):=c3o (KT.of_keeps hk1 (fun x hx=>.inr (c3p.1 hx)))
 have HO1:=c3o ho1
 have HO2:=c3o ho2
 clear ho1 ho2 hr1 hk1 H c0 hcR HT HA
 by_cases her:er=0
 ·subst her
  obtain⟨hl1,hl2⟩:=HF.out rfl
  have b1:257<=L1.length:=by rw[hl1];unfold litF;omega
  have b2:L1.length<=288:=by rw[hl1];exact b2B _ _
  have b3:1<=L2.length:=by rw[hl2];unfold distF;omega
  have b4:L2.length<=32:=by rw[hl2];exact a9i _ _
  clear hl1 hl2 HF
  obtain⟨A1,c1,rfl,hri1,-,-⟩:=a0y HO1.out
  obtain⟨A2,c2,rfl,hri2,-,-⟩:=a0y HO2.out
  have HR1:=c3o hri1
  have HR2:=c3o hri2
  obtain⟨bb,oo,hAA,hc⟩:=hri1.at (show 256<L1.length by omega)
  subst hAA
  clear hri1 hri2
  obtain⟨n1,hn1⟩:∃ n,n=L1.length:=⟨_,rfl⟩
  obtain⟨n2,hn2⟩:∃ n,n=L2.length:=⟨_,rfl⟩
  have HN1:=c3o hn1
  have HN2:=c3o hn2
  rw[<-hn1] at b1 b2 HO1 HR1 ⊢
  rw[<-hn2] at b3 b4 HO2 HR2 ⊢
  clear hn1 hn2
  obtain⟨x,hx⟩:∃ x,x=nth L1 256:=⟨_,rfl⟩
  rw[<-hx] at hc
  have HX:=c3o hx
  clear hx
  by_cases hx0:x=0
  ·subst hx0
   have HE:Hid (codesE (L1,L2,nn,0)=52):=c3o (by unfold codesE;rw[if_neg (by simp),if_pos (by rw[<-HX.out])])
   go_wp2_with fail
   go_ret3
   exact a4K HE.out (by decide) H1.out K1.out
  ·have e1:(x==0)=false:=by simpa using hx0
   have e1':decide (x=0)=false:=by simpa using hx0
   have HX0:=c3o hx0
   clear hx0
   go_wp2_with fail
   refine (a2Z w1 _ n1 c1 L1 HR1.out (by omega)).mono ?_
   rintro _ w2 ⟨rfl,hd2⟩
   have hk2:=hd2.keeps (S:=[])
   have H2:=c3o (H1.out.keeps hk2)
   have K2:=c3o (K1.out.trans (KT.of_keeps hk2 (by simp)))
   have HR22:=c3o (HR2.out.keeps hk2 (a0a _))
   have HO12:=c3o (a0b HO1.out hk2 (by simp))
   have HO22:=c3o (a0b HO2.out hk2 (by simp))
   clear hd2 hk2 H1 K1 HR1 HR2 HO1 HO2 hc
   by_cases hc1:a0e L1=0
   ·have HC1:=c3o hc1
    rw[hc1]
    clear hc1
    go_wp2_with fail
    refine (a7c w2 _ n2 c2 L2 HR22.out b3 (by omega)).mono ?_
    rintro _ w3 ⟨rfl,hd3⟩
    have hk3:=hd3.keeps (S:=[])
    have H3:=c3o (H2.out.keeps hk3)
    have K3:=c3o (K2.out.trans (KT.of_keeps hk3 (by simp)))
    have HR23:=c3o (HR22.out.keeps hk3 (a0a _))
    have HO13:=c3o (a0b HO12.out hk3 (by simp))
    have HO23:=c3o (a0b HO22.out hk3 (by simp))
    clear hd3 hk3 H2 K2 HR22 HO12 HO22
    by_cases hu:a0z L2=true
    ·have HU:=c3o hu
     rw[hu]
     clear hu
     go_wp2_with fail
     refine (a2Z w3 _ n2 c2 L2 HR23.out (by omega)).mono ?_
     rintro _ w4 ⟨rfl,hd4⟩
     have hk4:=hd4.keeps (S:=[])
     have H4:=c3o (H3.out.keeps hk4)
     have K4:=c3o (K3.out.trans (KT.of_keeps hk4 (by simp)))
     have HO14:=c3o (a0b HO13.out hk4 (by simp))
     have HO24:=c3o (a0b HO23.out hk4 (by simp))
     clear hd4 hk4 H3 K3 HR23 HO13 HO23
     by_cases hc2:a0e L2=0
     ·have HE:Hid (codesE (L1,L2,nn,0)=0):=c3o (by unfold codesE;rw[if_neg (by simp),if_neg (by rw[<-HX.out];exact HX0.out),if_neg (by rw[HC1.out];simp),if_neg (by rintro ⟨_,h⟩;exact h hc2)])
      rw[hc2]
      clear hc2
      go_wp2_with fail
      go_ret3
      exact .inr ⟨HE.out,_,_,rfl,by rw[<-HN1.out];exact HO14.out,by rw[<-HN2.out];exact HO24.out,H4.out,K4.out⟩
     ·have HE:Hid (codesE (L1,L2,nn,0)=52):=c3o (by unfold codesE;rw[if_neg (by simp),if_neg (by rw[<-HX.out];exact HX0.out),if_neg (by rw[HC1.out];simp),if_pos ⟨HU.out,hc2⟩])
      have e2:(a0e L2 !=0)=true:=by simpa using hc2
      generalize a0e L2=y at *
      clear hc2
      go_wp2_with fail
      go_ret3
      exact a4K HE.out (by decide) H4.out K4.out
    ·have hu:a0z L2=false:=by simpa using hu
     have HE:Hid (codesE (L1,L2,nn,0)=0):=c3o (by unfold codesE;rw[if_neg (by simp),if_neg (by rw[<-HX.out];exact HX0.out),if_neg (by rw[HC1.out];simp),if_neg (by rintro ⟨h,_⟩;rw[hu] at h;cases h)])
     rw[hu]
     clear hu
     go_wp2_with fail
     go_ret3
     exact .inr ⟨HE.out,_,_,rfl,by rw[<-HN1.out];exact HO13.out,by rw[<-HN2.out];exact HO23.out,H3.out,K3.out⟩
   ·have HE:Hid (codesE (L1,L2,nn,0)=52):=c3o (by unfold codesE;rw[if_neg (by simp),if_neg (by rw[<-HX.out];exact HX0.out),if_pos hc1])
    have e2:(a0e L1 !=0)=true:=by simpa using hc1
    generalize a0e L1=y at *
    clear hc1
    go_wp2_with fail
    go_ret3
    exact a4K HE.out (by decide) H2.out K2.out
 ·have HE:Hid (codesE (L1,L2,nn,er)=endF er 52):=c3o (by unfold codesE;rw[if_pos her])
  have HN:Hid (endF er 52≠0):=c3o (fun h=>her (a1Q (by decide) h))
  have e1:(er !=0)=true:=by simpa using her
  clear her HF
  go_wp2_with fail
  refine (a3v w1 er 52).mono ?_
  rintro _ w2 ⟨rfl,hd⟩
  have H2:=c3o (H1.out.keeps (hd.keeps (S:=[])))
  have K2:=c3o (K1.out.trans (KT.of_keeps (hd.keeps (S:=[])) (by simp)))
  clear hd H1 K1
  generalize endF er 52=y at *
  go_wp2_with fail
  go_ret3
  exact a4K HE.out HN.out H2.out K2.out
end Go.Proofs.YtghjlpechjggjaaGreatDoor
namespace Go.Proofs.YtghjlpechjggjaaGreatDoor
open Go.RowKit
def DistD(w:World)(g:Nat)(dist:List Int)(D:Option Addr):Prop:=
 dist.length<=288/\((a0z dist=false/\D=none)∨(a0z dist=true/\∃ dg,D=some ⟨dg,0,none⟩/\g<dg/\Dec w dg dist))
theorem a8l{w w':World}{g gr dg:Nat}{l:List Int}(h:Dec w dg l)(hp:KT g gr w w')(hg:g<dg)(hr:gr<g):Dec w' dg l:=by
 obtain⟨v,⟨a1,a2,a3,h1⟩,h2⟩:=h
 exact⟨v,⟨a1,a2,a3,c2n (by decide) (by omega) (by omega) h1 hp⟩,c2E (by decide) (by omega) (by omega) h2 hp⟩
theorem DistD.kt{w w':World}{g gr:Nat}{dist:List Int}{D:Option Addr}(h:DistD w g dist D)(hp:KT g gr w w')(hr:gr<g):DistD w' g dist D:=by
 obtain⟨h0,h⟩:=h
 refine⟨h0,?_⟩
 rcases h with h|⟨h1,dg,h2,h3,h4⟩
 ·exact .inl h
 ·exact .inr ⟨h1,dg,h2,h3,a8l h4 hp h3 hr⟩
theorem a5V(w:World)(g gr:Nat)(A:Option Addr)(c:Nat)(bs:List Int)(p most:Nat)(out:List Int)(n:Nat)(ni:Int)(hni:ni=n)(h:IR w g gr A c bs p most out)(hn:n<=16) :
  Calls Tryz.prog 142 #[.pointer (some ⟨g,0,none⟩),.int .i64 ni] w (Took w g gr A c bs p most out n):=by
 subst hni;exact a1Y w g gr A c bs p most out n h hn
theorem IR.cells{w:World}{g gr c p most:Nat}{A:Option Addr}{bs out:List Int}(h:IR w g gr A c bs p most out):w.cell? ⟨g,0,none⟩=some (.pointer (some ⟨gr,0,none⟩)) /\
  ∃ v vc,w.cell? ⟨g,1,none⟩=some (.slice v out.length vc)/\RI .u8 w v out.length out:=by
 obtain⟨v,hblk,hown⟩:=h.box
 obtain⟨vA,vc,rfl,hri,_,_⟩:=a0y hown
 have c0:=hblk.cell 0
 have c1:=hblk.cell 1
 simp only[c3q,c3s] at c0 c1
 exact⟨c0,vA,vc,c1,hri⟩
theorem b0A(w:World)(g gr:Nat)(A:Option Addr)(c:Nat)(bs:List Int)(p most:Nat)(out dist:List Int)(s:Nat)(D:Option Addr)(h:IR w g gr A c bs p most out)(hD:DistD w g dist D)(hs:257<=s)(hs2:s<=100000) :
  Calls Tryz.prog 167 #[.pointer (some ⟨g,0,none⟩),.int .i64 s,.pointer D] w (Part w g gr A c bs most (a0I dist bs most s out p)):=by
 have H:=c3o h
 have HD:=c3o hD
 have hgr:=h.lt
 obtain⟨c0,-⟩:=h.cells
 clear h hD
 go_enter Tryz.func167,Tryz.ntmps167
 by_cases h1:285<s
 ·have e1:decide (285<s)=true:=by simpa using h1
  have e1':decide ((285:Int)<(s:Int))=true:=by simp;omega
  have HR:Hid (a0I dist bs most s out p=(out,0,53)):=c3o (by unfold a0I;rw[if_pos h1])
  go_wp2_with fail
  go_ret
  exact a0T HR.out (by decide) H.out (KT.refl _ _ _)
 have e1:decide (285<s)=false:=by simp;omega
 have e1':decide ((285:Int)<(s:Int))=false:=by simp;omega
 have HS:=c3o h1
 go_upto_block 0 with (fail)
 go_cut [7] (fun v7 wc=>∃ N:Nat,N<=1000/\v7=.int .i64 N/\Hid (N=a1m s+(numB bs p (lenK s)).toNat)/\Hid (p+lenK s<=8*bs.length)/\Hid (IR wc g gr A c bs (p+lenK s) most out)/\Hid (KT g gr w wc))
 case first=>
  have hle:=H.out.rd.le
  by_cases h2:s=285
  ·subst h2
   have e2:(((285:Nat):Int)==285)=true:=by decide
   go_wp2_with fail
   go_meet
   exact⟨258,by omega,rfl,c3o (by simp[a1m,lenK,numB]),c3o (by simp[lenK];omega),by simpa [lenK] using H,c3o (KT.refl _ _ _)⟩
  have e2:((s:Int)==285)=false:=by simp;omega
  by_cases h3:264<s
  ·have e3:decide (264<s)=true:=by simpa using h3
   have e3':decide ((264:Int)<(s:Int))=true:=by simp;omega
   obtain⟨k,hk⟩:∃ k:Nat,k=lenK s:=⟨_,rfl⟩
   have hk5:k<=5:=by rw[hk];unfold lenK;split<;>omega
   have HKK:=c3o hk
   have s1:((s:Int)-261)/4=(k:Int):=by rw[hk];unfold lenK;rw[if_neg (by omega)];omega
   obtain⟨r,hr⟩:∃ r:Nat,((s:Int)-261)%4=(r:Int):=⟨(s-261)%4,by omega⟩
   have hr4:r<4:=by omega
   have HRR:Hid (a1m s=3+(4+r)*2^k):=c3o (by unfold a1m;rw[if_neg (by omega),if_neg h2,<-hk,show (s-261)%4=r by omega])
   clear hk
   go_wp2_with fail
   refine (a5V w g gr A c bs p most out k _ (by first|rfl|omega) H.out (by omega)).mono ?_
   rintro _ w1 (⟨hf,rfl,h1,k1⟩|⟨hf,rfl,h1,k1⟩)
   ·have HI:=c3o h1
    have K1:=c3o k1
    have HF:=c3o hf
    clear h1 k1 H hf c0
    obtain⟨n0,n1⟩:=a0F bs p k
    have p32:(2:Int)^k<=32:=by
     have:(2:Nat)^k<=2^5:=c3z (by decide) hk5
     exact_mod_cast this
    obtain⟨x,hx⟩:∃ x:Nat,numB bs p k=x:=⟨(numB bs p k).toNat,by omega⟩
    have HX:=c3o hx
    rw[hx] at n1 ⊢
    clear hx n0
    have t1:(4+(r:Int))*2^k<=7*32:=Int.mul_le_mul (by omega) p32 (by have:=a0i k;omega) (by omega)
    have t0:0<=(4+(r:Int))*2^k:=Int.mul_nonneg (by omega) (by have:=a0i k;omega)
    have s3:IntKind.i64.wrap ((4+(r:Int))*2^k)=(4+(r:Int))*2^k:=c3r _ (by omega)
    obtain⟨y,hy⟩:∃ y:Nat,(4+(r:Int))*2^k=y:=⟨((4+(r:Int))*2^k).toNat,by omega⟩
    have HY:=c3o hy
    rw[hy] at s3 t0 t1
    go_wp2_with fail
    go_meet
    refine⟨3+y+x,by omega,by go_num,c3o ?_,c3o (by rw[<-HKK.out];exact HF.out),by rw[<-HKK.out];exact HI,K1⟩
    rw[HRR.out,<-HKK.out,HX.out]
    have:=HY.out
    have e:(((4+r)*2^k:Nat):Int)=y:=by push_cast;exact this
    have:(4+r)*2^k=y:=by exact_mod_cast e
    omega
   ·have HI:=c3o h1
    have K1:=c3o k1
    have HR:Hid (a0I dist bs most s out p=(out,0,55)):=c3o (by unfold a0I;rw[if_neg HS.out,<-HKK.out,if_pos hf])
    clear h1 k1 H hf c0
    go_wp2_with fail
    go_ret
    exact a0T HR.out (by decide) HI.out K1.out
  ·have e3:decide (264<s)=false:=by simpa using h3
   have e3':decide ((264:Int)<(s:Int))=false:=by simp;omega
   have hk:lenK s=0:=by unfold lenK;rw[if_pos (by omega)]
   have hb:a1m s=s-254:=by unfold a1m;rw[if_pos (by omega)]
   have HKK:=c3o hk
   have HB:=c3o hb
   clear hk hb
   go_wp2_with fail
   go_meet
   exact⟨s-254,by omega,by go_num,c3o (by rw[HB.out,HKK.out,numB];rfl),c3o (by rw[HKK.out];exact hle),by rw[HKK.out];exact H,c3o (KT.refl _ _ _)⟩
 case rest=>
  obtain⟨N,hN,rfl,HN,HQ,H1,K1⟩:=hcut
  clear H c0
  obtain⟨q,hq⟩:∃ q,q=p+lenK s:=⟨_,rfl⟩
  rw[<-hq] at HQ H1
  have HQE:=c3o hq
  clear hq
  have HD1:=c3o (HD.out.kt K1.out hgr)
  have hD1:=HD1.out
  clear HD
  obtain⟨hdl,⟨hu,hDn⟩|⟨hu,dg,hDs,hgd,hdec⟩⟩:=hD1
  ·subst hDn
   have HR:Hid (a0I dist bs most s out p=(out,0,53)):=c3o (by unfold a0I;rw[if_neg HS.out,if_neg (by have:=HQ.out;have:=HQE.out;omega),if_pos hu])
   clear hu
   go_wp2_with fail
   go_ret
   exact a0T HR.out (by decide) H1.out K1.out
  subst hDs
  have HU:=c3o hu
  have HDC:=c3o hdec
  clear hu hdec HD1
  obtain⟨c0,-⟩:=H1.out.cells
  go_wp2_with fail
  refine (a4l wc dg gr dist A c bs q (HDC.out.apart (by omega)) H1.out.rd hdl).mono ?_
  rintro _ w2 ⟨rfl,hr2,hk2⟩
  have H2:=c3o (H1.out.read hr2 hk2)
  have K2:=c3o (K1.out.trans (KT.of_keeps hk2 (fun x hx=>.inr (c3p.1 hx))))
  have hbd:=a6O dist bs q HQ.out
  clear hr2 hk2 H1 K1 c0 HDC
  have HC:Hid (a0I dist bs most s out p=if (decF dist bs q).2.1≠0 then (out,0,endF (decF dist bs q).2.1 53)
   else if 29<(decF dist bs q).1 then (out,0,53)
   else if 8*bs.length<q+(decF dist bs q).2.2+a0J (decF dist bs q).1.toNat then (out,0,55)
   else if (out.length:Int)<a0r (decF dist bs q).1.toNat+numB bs (q+(decF dist bs q).2.2) (a0J (decF dist bs q).1.toNat) then (out,0,54)
   else if (layN ((a0r (decF dist bs q).1.toNat:Int)+numB bs (q+(decF dist bs q).2.2) (a0J (decF dist bs q).1.toNat)).toNat most N out).2≠0 then
    ((layN ((a0r (decF dist bs q).1.toNat:Int)+numB bs (q+(decF dist bs q).2.2) (a0J (decF dist bs q).1.toNat)).toNat most N out).1,0,56)
   else ((layN ((a0r (decF dist bs q).1.toNat:Int)+numB bs (q+(decF dist bs q).2.2) (a0J (decF dist bs q).1.toNat)).toNat most N out).1,q+(decF dist bs q).2.2+a0J (decF dist bs q).1.toNat,0)):=c3o (by
    have h1:=HQ.out
    have h2:=HQE.out
    have h3:=HN.out
    subst h2
    subst h3
    unfold a0I
    rw[if_neg HS.out,if_neg (by omega),if_neg (by rw[HU.out];simp)])
  generalize decF dist bs q=dr at *
  obtain⟨sy,er,nn⟩:=dr
  simp only[] at H2 hbd HC ⊢
  rcases hbd with⟨rfl,d,rfl,hdl2,hq2⟩|⟨her,rfl,rfl⟩
  rotate_left
  ·have HR:Hid (a0I dist bs most s out p=(out,0,endF er 53)):=c3o (by rw[HC.out,if_pos her])
   have HNE:Hid (endF er 53≠0):=c3o (fun h=>her (a1Q (by decide) h))
   have e5:(er !=0)=true:=by simpa using her
   clear her HC
   go_wp2_with fail
   refine (a3v w2 er 53).mono ?_
   rintro _ w3 ⟨rfl,hd⟩
   have H3:=c3o (H2.out.keeps (hd.keeps (S:=[])))
   have K3:=c3o (K2.out.trans (KT.of_keeps (hd.keeps (S:=[])) (by simp)))
   clear hd H2 K2
   generalize endF er 53=y at *
   go_wp2_with fail
   go_ret
   exact a0T HR.out HNE.out H3.out K3.out
  rw[c3x] at HC
  by_cases hd29:29<d
  ·have HR:Hid (a0I dist bs most s out p=(out,0,53)):=c3o (by rw[HC.out,if_neg (by simp),if_pos (by omega)])
   have e5:decide (29<d)=true:=by simpa using hd29
   have e5':decide ((29:Int)<(d:Int))=true:=by simp;omega
   clear HC
   go_wp2_with fail
   go_ret
   exact a0T HR.out (by decide) H2.out K2.out
  have e5:decide (29<d)=false:=by simpa using hd29
  have e5':decide ((29:Int)<(d:Int))=false:=by simp;omega
  have HC2:=c3o (HC.out.trans (by rw[if_neg (by simp),if_neg (by omega)]))
  clear HC
  obtain⟨q2,hq2e⟩:∃ x,x=q+nn:=⟨_,rfl⟩
  rw[<-hq2e] at HC2 H2 hq2
  have HQ2:=c3o hq2e
  clear hq2e
  go_upto_if 71 with (fail)
  go_cut [13] (fun v13 wc2=>∃ F:Nat,1<=F/\F<=40000/\v13=.int .i64 F/\Hid ((F:Int)=a0r d+numB bs q2 (a0J d))/\Hid (q2+a0J d<=8*bs.length)/\Hid (IR wc2 g gr A c bs (q2+a0J d) most out)/\Hid (KT g gr w wc2))
  case first=>
   have hd29':d<=29:=by omega
   by_cases h3:3<d
   ·have e3:decide (3<d)=true:=by simpa using h3
    have e3':decide ((3:Int)<(d:Int))=true:=by simp;omega
    obtain⟨k,hk⟩:∃ k:Nat,k=a0J d:=⟨_,rfl⟩
    have hk13:k<=13:=by rw[hk];unfold a0J;split<;>omega
    have HKK:=c3o hk
    have s1:(d:Int)/2-1=(k:Int):=by rw[hk];unfold a0J;rw[if_neg (by omega)];omega
    obtain⟨r,hr⟩:∃ r:Nat,(d:Int)%2=(r:Int):=⟨d%2,by omega⟩
    have hr4:r<2:=by omega
    have HRR:Hid (a0r d=1+(2+r)*2^k):=c3o (by unfold a0r;rw[if_neg (by omega),<-hk,show d%2=r by omega])
    have HR55:Hid (8*bs.length<q2+k->a0I dist bs most s out p=(out,0,55)):=c3o (fun h=>by rw[HC2.out,if_pos (by rw[<-hk];exact h)])
    clear hk HC2
    go_wp2_with fail
    refine (a5V w2 g gr A c bs q2 most out k _ (by first|rfl|omega) H2.out (by omega)).mono ?_
    rintro _ w3 (⟨hf,rfl,h1,k1⟩|⟨hf,rfl,h1,k1⟩)
    ·have HI:=c3o h1
     have K3:=c3o (K2.out.trans k1)
     have HF:=c3o hf
     clear h1 k1 H2 K2 hf HR55
     obtain⟨n0,n1⟩:=a0F bs q2 k
     have p13:(2:Int)^k<=8192:=by
      have:(2:Nat)^k<=2^13:=c3z (by decide) hk13
      exact_mod_cast this
     obtain⟨x,hx⟩:∃ x:Nat,numB bs q2 k=x:=⟨(numB bs q2 k).toNat,by omega⟩
     have HX:=c3o hx
     rw[hx] at n1 ⊢
     clear hx n0
     have t1:(2+(r:Int))*2^k<=3*8192:=Int.mul_le_mul (by omega) p13 (by have:=a0i k;omega) (by omega)
     have t0:0<=(2+(r:Int))*2^k:=Int.mul_nonneg (by omega) (by have:=a0i k;omega)
     have s3:IntKind.i64.wrap ((2+(r:Int))*2^k)=(2+(r:Int))*2^k:=c3r _ (by omega)
     obtain⟨y,hy⟩:∃ y:Nat,(2+(r:Int))*2^k=y:=⟨((2+(r:Int))*2^k).toNat,by omega⟩
     have HY:=c3o hy
     rw[hy] at s3 t0 t1
     go_wp2_with fail
     go_meet
     refine⟨1+y+x,by omega,by omega,by go_num,c3o ?_,c3o (by rw[<-HKK.out];exact HF.out),by rw[<-HKK.out];exact HI,K3⟩
     rw[HRR.out,<-HKK.out,HX.out]
     have:=HY.out
     push_cast
     omega
    ·have HI:=c3o h1
     have K3:=c3o (K2.out.trans k1)
     have HR:=c3o (HR55.out hf)
     clear h1 k1 H2 K2 hf HR55
     go_wp2_with fail
     go_ret
     exact a0T HR.out (by decide) HI.out K3.out
   ·have e3:decide (3<d)=false:=by simpa using h3
    have e3':decide ((3:Int)<(d:Int))=false:=by simp;omega
    have hk:a0J d=0:=by unfold a0J;rw[if_pos (by omega)]
    have hb:a0r d=d+1:=by unfold a0r;rw[if_pos (by omega)]
    have HKK:=c3o hk
    have HB:=c3o hb
    clear hk hb
    go_wp2_with fail
    go_meet
    exact⟨d+1,by omega,by omega,by go_num,c3o (by rw[HB.out,HKK.out,numB];simp),c3o (by rw[HKK.out];exact hq2),by rw[HKK.out];exact H2,K2⟩
  case rest=>
   obtain⟨F,hF1,hF2,rfl,HF,HQ3,H3,K3⟩:=hcut
   clear H2 K2
   obtain⟨q3,hq3⟩:∃ x,x=q2+a0J d:=⟨_,rfl⟩
   have HC3:Hid (a0I dist bs most s out p=if out.length<F then (out,0,54) else if (layN F most N out).2≠0 then ((layN F most N out).1,0,56) else ((layN F most N out).1,q3,0)):=c3o (by
    rw[HC2.out,if_neg (by have:=HQ3.out;omega),<-HF.out,hq3,c3x]
    by_cases h:out.length<F
    ·rw[if_pos h,if_pos (by omega)]
    ·rw[if_neg h,if_neg (by omega)])
   rw[<-hq3] at H3
   clear hq3 HC2 HF HQ3
   obtain⟨-,A3,c3,hc1,-⟩:=H3.out.cells
   obtain⟨Lo,hLo⟩:∃ L,L=out.length:=⟨_,rfl⟩
   have HLo:=c3o hLo
   rw[<-hLo] at hc1 HC3
   clear hLo
   by_cases hfar:Lo<F
   ·have e6:decide (Lo<F)=true:=by simpa using hfar
    have e6':decide ((Lo:Int)<(F:Int))=true:=by simp;omega
    have HR:Hid (a0I dist bs most s out p=(out,0,54)):=c3o (by rw[HC3.out,if_pos hfar])
    clear HC3
    go_wp2_with fail
    go_ret
    exact a0T HR.out (by decide) H3.out K3.out
   have e6:decide (Lo<F)=false:=by simpa using hfar
   have e6':decide ((Lo:Int)<(F:Int))=false:=by simp;omega
   have HC4:Hid (a0I dist bs most s out p=if (layN F most N out).2≠0 then ((layN F most N out).1,0,56) else ((layN F most N out).1,q3,0)):=c3o (by rw[HC3.out,if_neg hfar])
   have HFL:Hid (F<=out.length):=c3o (by have:=HLo.out;omega)
   clear HC3
   go_wp2_with fail
   clear hc1 e6 e6' hfar HLo
   go_loopw [100] (fun iv wr=>∃ (i:Nat) (o:List Int),i<=N/\iv=.int .i64 i/\Hid (layN F most N out=layN F most (N-i) o)/\Hid (F<=o.length)/\Hid (IR wr g gr A c bs q3 most o)/\Hid (KT g gr w wr)) (fun iv _=>N-(intOf iv).toNat)
   case atStart=>exact⟨0,out,by omega,rfl,c3o rfl,HFL,H3,K3⟩
   case round=>
    clear H3 K3 HFL
    obtain⟨i,o,hi,rfl,HS2,HFL,H,K⟩:=hrel
    by_cases hlt:i<N
    ·have e0:decide (i<N)=true:=by simpa using hlt
     have HL':Hid (layN F most (N-i) o=if most<=o.length then (o,56) else layN F most (N-(i+1)) (o++[nth o (o.length-F)])):=c3o (by rw[show N-i=(N-(i+1))+1 by omega,layN])
     obtain⟨-,A4,c4,hc1,hri⟩:=H.out.cells
     have hfl:=HFL.out
     obtain⟨Lo,hLo⟩:∃ L,L=o.length:=⟨_,rfl⟩
     have HLo:=c3o hLo
     rw[<-hLo] at hc1 hri hfl
     have hLb:Lo<=16384:=by have:=H.out.cap;have:=H.out.mx;omega
     clear hLo
     obtain⟨b4,o4,hA4,hcc⟩:=hri.at (show Lo-F<Lo by omega)
     subst hA4
     obtain⟨x,hx⟩:∃ x,x=nth o (Lo-F):=⟨_,rfl⟩
     rw[<-hx] at hcc
     have HX:Hid (x=nth o (o.length-F)):=c3o (by rw[hx,HLo.out])
     clear hx hri
     have s1:IntKind.i64.wrap ((Lo:Int)-(F:Int))=(Lo:Int)-(F:Int):=c3r _ (by omega)
     have s2:(0:Int)<=(Lo:Int)-(F:Int):=by omega
     have s3:(Lo:Int)-(F:Int)<(Lo:Int):=by omega
     have s4:((Lo:Int)-(F:Int)).toNat=Lo-F:=by omega
     go_wp2_with fail
     go_still_tail 14,(by kernel_rfl)
     change wpList _ _ _ _ _ wr.drew
     have hdr:=(Keeps.refl [] wr).drew
     have Hd:=c3o (H.out.keeps hdr)
     have Kd:=c3o (K.out.trans (KT.of_keeps hdr (by simp)))
     clear hdr H K hc1 hcc s1 s2 s3 s4
     go_wp2_with fail
     refine (a7d wr.drew g gr A c bs q3 most o x Hd.out).mono ?_
     rintro _ w5 (⟨hm,rfl,h5,k5⟩|⟨hm,rfl,h5,k5⟩)
     ·have H5:=c3o h5
      have K5:=c3o (Kd.out.trans k5)
      have HE:Hid (a0I dist bs most s out p=(o,0,56)):=c3o (by rw[HC4.out,HS2.out,HL'.out,if_pos hm];rfl)
      clear h5 k5 Hd Kd HS2 HL' HC4
      go_wp2_with fail
      go_ret
      exact a0T HE.out (by decide) H5.out K5.out
     ·have H5:=c3o h5
      have K5:=c3o (Kd.out.trans k5)
      have HS3:Hid (layN F most N out=layN F most (N-(i+1)) (o++[x])):=c3o (by rw[HS2.out,HL'.out,if_neg (by omega),HX.out])
      clear h5 k5 Hd Kd HS2 HL'
      go_wp2_with fail
      go_roundw
      case rel=>exact⟨i+1,o++[x],by omega,by go_num,HS3,c3o (by have:=HFL.out;rw[c3E];omega),H5,K5⟩
      case measure=>simp[intOf];omega
    ·obtain rfl:i=N:=by omega
     have e0:decide (i<i)=false:=by simp
     have HE:Hid (a0I dist bs most s out p=(o,q3,0)):=c3o (by rw[HC4.out,HS2.out,c3H,layN,if_neg (by simp)])
     clear HS2 HC4
     go_wp2_with fail
     go_ret
     exact a9F HE.out H.out K.out
end Go.Proofs.YtghjlpechjggjaaGreatDoor
namespace Go.Proofs.YtghjlpechjggjaaGreatDoor
open Go.RowKit
theorem KT.below{g gr:Nat}{w w':World}(h:Below w.heap.size w w'):KT g gr w w':=KT.of_keeps (Keeps.of_below h (S:=[])) (by simp)
theorem a5i (w:World) (g gr:Nat) (A:Option Addr) (c:Nat) (bs:List Int) (p most:Nat) (out lit dist:List Int) (A1 A2:Option Addr) (n1 n2 c1 c2:Nat) (h:IR w g gr A c bs p most out)
  (hl:RI .i64 w A1 n1 lit) (hd:RI .i64 w A2 n2 dist) (hn1:n1<=288) (hn2:1<=n2) (hn3:n2<=288) (hc1:a0e lit=0) (hc2:a0z dist=true->a0e dist=0) :
  Calls Tryz.prog 144 #[.pointer (some ⟨g,0,none⟩),.slice A1 n1 c1,.slice A2 n2 c2] w (Part w g gr A c bs most (symF lit dist bs most (8*bs.length+1) out p)):=by
 have H:=c3o h
 have HL:=c3o hl
 have HDI:=c3o hd
 have HC1:=c3o hc1
 have HC2:=c3o hc2
 have hgr:=h.lt
 have HN1:=c3o hl.len
 have HN2:=c3o hd.len
 clear h hl hd hc1 hc2
 go_enter Tryz.func144,Tryz.ntmps144
 go_wp2_with fail
 go_step3
 go_wp2_with fail
 refine (a7q w A1 n1 c1 lit HL.out (by omega)).mono ?_
 rintro _ w1 ⟨hb,hm⟩
 rw[if_pos HC1.out] at hm
 obtain⟨dl,rfl,hdl,hdlg⟩:=hm
 have hg1:=H.out.glt
 have hk1:=Keeps.of_below hb (S:=[])
 have H1:=c3o (H.out.keeps hk1)
 have K1:Hid (KT g gr w w1):=c3o (KT.below hb)
 have HDL:=c3o hdl
 have HD1:=c3o (HDI.out.keeps hk1 (a0a _))
 have hgdl:g<dl:=by omega
 clear hb hk1 H HL HDI hdl hdlg hg1
 go_wp2_with fail
 refine (a7c w1 A2 n2 c2 dist HD1.out hn2 (by omega)).mono ?_
 rintro _ w2 ⟨rfl,hd2⟩
 have hk2:=hd2.keeps (S:=[])
 have H2:=c3o (H1.out.keeps hk2)
 have K2:=c3o (K1.out.trans (KT.of_keeps hk2 (by simp)))
 have HDL2:=c3o (a8l HDL.out (KT.of_keeps (g:=g) (gr:=gr) hk2 (by simp)) hgdl hgr)
 have HD2:=c3o (HD1.out.keeps hk2 (a0a _))
 clear hd2 hk2 H1 K1 HDL HD1
 obtain⟨u,hu⟩:∃ u,u=a0z dist:=⟨_,rfl⟩
 have HU:=c3o hu
 rw[<-hu]
 clear hu
 go_upto_if 18 with (fail)
 go_cut [9] (fun v9 wc=>∃ D:Option Addr,v9=.pointer D/\Hid (DistD wc g dist D)/\Hid (IR wc g gr A c bs p most out)/\Hid (KT g gr w wc)/\Hid (Dec wc dl lit))
 case first=>
  cases u with
  | false=>
   go_wp2_with fail
   go_meet
   exact⟨none,rfl,c3o ⟨by rw[HN2.out];exact hn3,.inl ⟨HU.out.symm,rfl⟩⟩,H2,K2,HDL2⟩
  | true=>
   go_wp2_with fail
   refine (a7q w2 A2 n2 c2 dist HD2.out (by omega)).mono ?_
   rintro _ w3 ⟨hb,hm⟩
   rw[if_pos (HC2.out HU.out.symm)] at hm
   obtain⟨dd,rfl,hdd,hddg⟩:=hm
   have hg2:=H2.out.glt
   have hk3:=Keeps.of_below hb (S:=[])
   have H3:=c3o (H2.out.keeps hk3)
   have K3:=c3o (K2.out.trans (KT.below hb))
   have HDD:=c3o hdd
   have HDL3:=c3o (a8l HDL2.out (KT.below (g:=g) (gr:=gr) hb) hgdl hgr)
   clear hb hk3 H2 K2 HDL2 HD2 hdd
   go_wp2_with fail
   go_meet
   exact⟨some ⟨dd,0,none⟩,rfl,c3o ⟨by rw[HN2.out];exact hn3,.inr ⟨HU.out.symm,dd,rfl,by omega,HDD.out⟩⟩,H3,K3,HDL3⟩
 case rest=>
  obtain⟨D,rfl,HDD,H3,K3,HDL3⟩:=hcut
  clear H2 K2 HDL2 HD2 HU HC2
  go_wp2_with fail
  go_step3
  go_wp2_with fail
  go_loopg [11] (8*bs.length+1) (fun k v11 wr=>∃ (q:Nat) (o:List Int),8*bs.length-q<k/\Hid (q<=8*bs.length)/\Hid (symF lit dist bs most (8*bs.length+1) out p=symF lit dist bs most k o q)/\Hid (IR wr g gr A c bs q most o)/\Hid (DistD wr g dist D)/\Hid (Dec wr dl lit)/\Hid (KT g gr w wr))
  case atStart=>exact⟨p,out,by omega,c3o H3.out.rd.le,c3o rfl,H3,HDD,HDL3,K3⟩
  case round=>
   clear HDD H3 K3 HDL3
   obtain⟨q,o,hk,HQ,HS,H,HDD,HDL,K⟩:=hrel
   obtain⟨f,rfl⟩:∃ f,gk=f+1:=⟨gk-1,by omega⟩
   obtain⟨c0,-⟩:=H.out.cells
   go_wp2_with fail
   refine (a4l wr dl gr lit A c bs q (HDL.out.apart (by omega)) H.out.rd (by rw[HN1.out];exact hn1)).mono ?_
   rintro _ w2 ⟨rfl,hr2,hk2⟩
   have hkt:=KT.of_keeps (g:=g) (gr:=gr) hk2 (fun x hx=>.inr (c3p.1 hx))
   have H2:=c3o (H.out.read hr2 hk2)
   have K2:=c3o (K.out.trans hkt)
   have HDD2:=c3o (HDD.out.kt hkt hgr)
   have HDL2:=c3o (a8l HDL.out hkt hgdl hgr)
   have hbd:=a6O lit bs q HQ.out
   have hadv:=a9g lit bs q HQ.out
   have HS2:Hid (symF lit dist bs most (8*bs.length+1) out p=if (decF lit bs q).2.1≠0 then (o,0,endF (decF lit bs q).2.1 53)
    else if (decF lit bs q).1=256 then (o,q+(decF lit bs q).2.2,0)
    else if (decF lit bs q).1<256 then
     if most<=o.length then (o,0,56) else symF lit dist bs most f (o++[(decF lit bs q).1]) (q+(decF lit bs q).2.2)
    else if (a0I dist bs most (decF lit bs q).1.toNat o (q+(decF lit bs q).2.2)).2.2≠0 then a0I dist bs most (decF lit bs q).1.toNat o (q+(decF lit bs q).2.2)
    else symF lit dist bs most f (a0I dist bs most (decF lit bs q).1.toNat o (q+(decF lit bs q).2.2)).1 (a0I dist bs most (decF lit bs q).1.toNat o (q+(decF lit bs q).2.2)).2.1):=c3o (by rw[HS.out,symF])
   clear hr2 hk2 hkt H K c0 HDD HDL HS
   generalize decF lit bs q=dr at *
   obtain⟨sy,er,nn⟩:=dr
   simp only[] at H2 hbd hadv HS2 ⊢
   rcases hbd with⟨rfl,d,rfl,hdl2,hq2⟩|⟨her,rfl,rfl⟩
   rotate_left
   ·have HR:Hid (symF lit dist bs most (8*bs.length+1) out p=(o,0,endF er 53)):=c3o (by rw[HS2.out,if_pos her])
    have HNE:Hid (endF er 53≠0):=c3o (fun h=>her (a1Q (by decide) h))
    have e5:(er !=0)=true:=by simpa using her
    clear her HS2 hadv
    go_wp2_with fail
    refine (a3v w2 er 53).mono ?_
    rintro _ w3 ⟨rfl,hd⟩
    have H3:=c3o (H2.out.keeps (hd.keeps (S:=[])))
    have K3:=c3o (K2.out.trans (KT.of_keeps (hd.keeps (S:=[])) (by simp)))
    clear hd H2 K2
    generalize endF er 53=y at *
    go_wp2_with fail
    rw[c3u]
    go_ret
    exact a0T HR.out HNE.out H3.out K3.out
   obtain⟨hn1',-,-,-⟩:=hadv rfl
   rw[c3x] at HS2
   have hdl3:d<288:=by rw[HN1.out] at hdl2;omega
   have HQ2:Hid (q+nn<=8*bs.length):=c3o hq2
   clear hadv hdl2 hq2
   by_cases h256:d=256
   ·subst h256
    have HR:Hid (symF lit dist bs most (8*bs.length+1) out p=(o,q+nn,0)):=c3o (by rw[HS2.out,if_neg (by simp),if_pos (by decide)])
    have e6:(((256:Nat):Int)==256)=true:=by decide
    clear HS2
    go_wp2_with fail
    rw[c3u]
    go_ret
    exact a9F HR.out H2.out K2.out
   have e6:((d:Int)==256)=false:=by simp;omega
   by_cases hlt:d<256
   ·have e7:decide (d<256)=true:=by simpa using hlt
    have e7':decide ((d:Int)<256)=true:=by simp;omega
    have s1:IntKind.u8.wrap (d:Int)=d:=by rw[IntKind.wrap_u8];omega
    have HS3:=c3o (HS2.out.trans (by rw[if_neg (by simp),if_neg (by omega),if_pos (by omega)]))
    clear HS2
    go_wp2_with fail
    refine (a7d w2 g gr A c bs (q+nn) most o d H2.out).mono ?_
    rintro _ w3 (⟨hm,rfl,h3,k3⟩|⟨hm,rfl,h3,k3⟩)
    ·have H3:=c3o h3
     have K3:=c3o (K2.out.trans k3)
     have HE:Hid (symF lit dist bs most (8*bs.length+1) out p=(o,0,56)):=c3o (by rw[HS3.out,if_pos hm])
     clear h3 k3 H2 K2 HS3
     go_wp2_with fail
     rw[c3u]
     go_ret
     exact a0T HE.out (by decide) H3.out K3.out
    ·have H3:=c3o h3
     have K3:=c3o (K2.out.trans k3)
     have HE:Hid (symF lit dist bs most (8*bs.length+1) out p=symF lit dist bs most f (o++[(d:Int)]) (q+nn)):=c3o (by rw[HS3.out,if_neg (by omega)])
     have HDD3:=c3o (HDD2.out.kt k3 hgr)
     have HDL3:=c3o (a8l HDL2.out k3 hgdl hgr)
     clear h3 k3 H2 K2 HS3 HDD2 HDL2
     go_wp2_with fail
     go_roundg f
     case measure=>omega
     case rel=>exact⟨q+nn,o++[(d:Int)],by have:=HQ2.out;omega,HQ2,HE,H3,HDD3,HDL3,K3⟩
   ·have e7:decide (d<256)=false:=by simpa using hlt
    have e7':decide ((d:Int)<256)=false:=by simp;omega
    have HS3:=c3o (HS2.out.trans (by rw[if_neg (by simp),if_neg (by omega),if_neg (by omega)]))
    clear HS2
    go_wp2_with fail
    refine (b0A w2 g gr A c bs (q+nn) most o dist d D H2.out HDD2.out (by omega) (by omega)).mono ?_
    rintro _ w3 ⟨q3,rfl,h3,k3,hq3⟩
    have HP:=c3o (a6M dist bs most d o (q+nn) HQ2.out)
    have H3:=c3o h3
    have K3:=c3o (K2.out.trans k3)
    have HDD3:=c3o (HDD2.out.kt k3 hgr)
    have HDL3:=c3o (a8l HDL2.out k3 hgdl hgr)
    have HQ3:=c3o hq3
    clear h3 k3 H2 K2 HDD2 HDL2 hq3
    generalize a0I dist bs most d o (q+nn)=cr at *
    obtain⟨o3,p3,er⟩:=cr
    simp only[] at HP H3 HQ3 HS3 ⊢
    by_cases her:er=0
    ·subst her
     obtain⟨a1,a2⟩:=HP.out rfl
     obtain rfl:=HQ3.out rfl
     have HE:Hid (symF lit dist bs most (8*bs.length+1) out p=symF lit dist bs most f o3 q3):=c3o (by rw[HS3.out,if_neg (by simp)])
     clear HS3 HP HQ3
     go_wp2_with fail
     go_roundg f
     case measure=>omega
     case rel=>exact⟨q3,o3,by have:=HQ2.out;omega,c3o a2,HE,H3,HDD3,HDL3,K3⟩
    ·have e8:(er !=0)=true:=by simpa using her
     have HE:Hid (symF lit dist bs most (8*bs.length+1) out p=(o3,p3,er)):=c3o (by rw[HS3.out,if_pos her])
     have HER:=c3o her
     clear HS3 HP HQ3 her
     go_wp2_with fail
     rw[c3u]
     go_ret
     exact⟨q3,by rw[HE.out];rfl,by rw[HE.out];exact H3.out,K3.out,fun h=>by rw[HE.out] at h;exact absurd h HER.out⟩
end Go.Proofs.YtghjlpechjggjaaGreatDoor
namespace Go.Proofs.YtghjlpechjggjaaGreatDoor
open Go.RowKit
theorem b0r(w:World)(g gr:Nat)(A:Option Addr)(c:Nat)(bs:List Int)(p most:Nat)(out:List Int)(hT:Tabs w)(hg:gtop<=gr)(h:IR w g gr A c bs p most out) :
  Calls Tryz.prog 128 #[.pointer (some ⟨g,0,none⟩)] w (Part w g gr A c bs most (blksF bs most (8*bs.length+1) out p)):=by
 have H:=c3o h
 have HT:=c3o hT
 have hgr:=h.lt
 clear h hT
 go_enter Tryz.func128,Tryz.ntmps128
 go_wp2_with fail
 go_step3
 go_wp2_with fail
 go_step3
 go_wp2_with fail
 go_loopg [9] (8*bs.length+1) (fun k v9 wr=>∃ (q:Nat) (o:List Int),8*bs.length-q<k/\Hid (q<=8*bs.length)/\Hid (blksF bs most (8*bs.length+1) out p=blksF bs most k o q)/\Hid (IR wr g gr A c bs q most o)/\Hid (KT g gr w wr))
 case atStart=>exact⟨p,out,by omega,c3o H.out.rd.le,c3o rfl,H,c3o (KT.refl _ _ _)⟩
 case round=>
  clear H
  obtain⟨q,o,hk,HQ,HS,H,K⟩:=hrel
  obtain⟨f,rfl⟩:∃ f,gk=f+1:=⟨gk-1,by omega⟩
  have HS2:Hid (blksF bs most (8*bs.length+1) out p=if 8*bs.length<q+1 then (o,0,55)
   else if 8*bs.length<q+3 then (o,0,55)
   else if (a0S bs most (numB bs (q+1) 2) o (q+3)).2.2≠0 then a0S bs most (numB bs (q+1) 2) o (q+3)
   else if numB bs q 1=0 then blksF bs most f (a0S bs most (numB bs (q+1) 2) o (q+3)).1 (a0S bs most (numB bs (q+1) 2) o (q+3)).2.1
   else a0S bs most (numB bs (q+1) 2) o (q+3)):=c3o (by rw[HS.out,blksF])
  clear HS
  go_wp2_with fail
  refine (a1Y wr g gr A c bs q most o 1 H.out (by omega)).mono ?_
  rintro _ w1 (⟨hf,rfl,h1,k1⟩|⟨hf,rfl,h1,k1⟩)
  rotate_left
  ·have H1:=c3o h1
   have K1:=c3o (K.out.trans k1)
   have HE:Hid (blksF bs most (8*bs.length+1) out p=(o,0,55)):=c3o (by rw[HS2.out,if_pos hf])
   clear h1 k1 H K HS2
   go_wp2_with fail
   rw[c3u]
   go_ret
   exact a0T HE.out (by decide) H1.out K1.out
  have H1:=c3o h1
  have K1:=c3o (K.out.trans k1)
  clear h1 k1 H K
  obtain⟨l0,l1⟩:=a0F bs q 1
  rw[show (2:Int)^1=2 from rfl] at l1
  obtain⟨la,hla⟩:∃ la,la=numB bs q 1:=⟨_,rfl⟩
  rw[<-hla] at l0 l1 HS2 ⊢
  clear hla
  go_wp2_with fail
  refine (a1Y w1 g gr A c bs (q+1) most o 2 H1.out (by omega)).mono ?_
  rintro _ w2 (⟨hf2,rfl,h2,k2⟩|⟨hf2,rfl,h2,k2⟩)
  rotate_left
  ·have H2:=c3o h2
   have K2:=c3o (K1.out.trans k2)
   have HE:Hid (blksF bs most (8*bs.length+1) out p=(o,0,55)):=c3o (by rw[HS2.out,if_neg (by omega),if_pos (by omega)])
   clear h2 k2 H1 K1 HS2
   go_wp2_with fail
   rw[c3u]
   go_ret
   exact a0T HE.out (by decide) H2.out K2.out
  have H2:=c3o h2
  have K2:=c3o (K1.out.trans k2)
  have HT2:=c3o (c1Q HT.out K2.out hg hgr)
  clear h2 k2 H1 K1
  obtain⟨n0,n1⟩:=a0F bs (q+1) 2
  rw[show (2:Int)^2=4 from rfl] at n1
  obtain⟨ki,hki⟩:∃ ki,ki=numB bs (q+1) 2:=⟨_,rfl⟩
  rw[<-hki] at n0 n1 HS2 ⊢
  clear hki
  have HS3:=c3o (HS2.out.trans (by rw[if_neg (by omega),if_neg (by omega)]))
  have HQ3:Hid (q+3<=8*bs.length):=c3o (by omega)
  clear HS2
  go_upto_block 2 with (fail)
  have HB:Hid (a0S bs most ki o (q+3)=if ki=0 then a0m bs most o (q+3)
   else if ki=1 then symF fixLit fixDist bs most (8*bs.length+1) o (q+3)
   else if ki=2 then
    if codesE (headF bs (q+3))≠0 then (o,0,codesE (headF bs (q+3)))
    else symF (headF bs (q+3)).1 (headF bs (q+3)).2.1 bs most (8*bs.length+1) o (q+3+(headF bs (q+3)).2.2.1)
   else (o,0,50)):=c3o rfl
  obtain⟨br,hbr⟩:∃ br,br=a0S bs most ki o (q+3):=⟨_,rfl⟩
  have HP:Hid (br.2.2=0->q+3<=br.2.1/\br.2.1<=8*bs.length):=c3o (fun h=>by rw[hbr] at h ⊢;exact a5u bs most ki o (q+3) HQ3.out h)
  rw[<-hbr] at HB HS3
  clear hbr
  go_cut [4] (fun v4 wc=>∃ q',v4=.int .i64 br.2.2/\Hid (br.2.2=0->q'=br.2.1)/\Hid (IR wc g gr A c bs q' most br.1)/\Hid (KT g gr w wc))
  case first=>
   clear HS3 HP
   by_cases h0:ki=0
   ·subst h0
    have HB0:=c3o (HB.out.trans (if_pos rfl))
    clear HB
    go_wp2_with fail
    refine (b1A w2 g gr A c bs (q+1+2) most o H2.out).mono ?_
    rintro _ w3 ⟨q',rfl,h3,k3,hq3⟩
    have H3:=c3o h3
    have K3:=c3o (K2.out.trans k3)
    have HQ':=c3o hq3
    clear h3 k3 hq3 H2 K2
    rw[show q+1+2=q+3 by omega,<-HB0.out] at H3 HQ' ⊢
    generalize br.2.2=er at *
    go_wp2_with fail
    go_meet
    exact⟨q',rfl,HQ',H3,K3⟩
   have e0:(ki==0)=false:=by simpa using h0
   have e0':decide (ki=0)=false:=by simpa using h0
   by_cases h1:ki=1
   ·subst h1
    have HB0:=c3o (HB.out.trans ((if_neg (by decide)).trans (if_pos rfl)))
    clear HB
    go_wp2_with fail
    refine (b2q w2).mono ?_
    rintro _ w3 ⟨v1,g2,rfl,ho1,hb2,hg2,hw3⟩
    have hk3:=Keeps.of_below hw3 (S:=[])
    have H3:=c3o (H2.out.keeps hk3)
    have K3:=c3o (K2.out.trans (KT.below hw3))
    obtain⟨A1,c1,rfl,hri1,-,-⟩:=a0y ho1
    have hri2:RI .i64 w3 (some ⟨g2,0,none⟩) 32 fixDist:=by
     have:=Blk.ri (xs:=fixDist) (ys:=[]) (k:=.i64) (by simpa using hb2)
     rwa [a4I.2.2.2.2] at this
    have HR1:=c3o hri1
    have HR2:=c3o hri2
    clear ho1 hb2 hg2 hw3 hk3 hri1 hri2 H2 K2
    go_wp2_with fail
    refine (a5i w3 g gr A c bs (q+1+2) most o fixLit fixDist A1 (some ⟨g2,0,none⟩) 288 32 c1 32 H3.out HR1.out HR2.out (by omega) (by omega) (by omega) a4I.1 (fun _=>a4I.2.1)).mono ?_
    rintro _ w4 ⟨q',rfl,h4,k4,hq4⟩
    have H4:=c3o h4
    have K4:=c3o (K3.out.trans k4)
    have HQ':=c3o hq4
    clear h4 k4 hq4 H3 K3 HR1 HR2
    rw[show q+1+2=q+3 by omega,<-HB0.out] at H4 HQ' ⊢
    generalize br.2.2=er at *
    go_wp2_with fail
    go_meet
    exact⟨q',rfl,HQ',H4,K4⟩
   have e1:(ki==1)=false:=by simpa using h1
   have e1':decide (ki=1)=false:=by simpa using h1
   by_cases h2:ki=2
   ·subst h2
    have HB0:=c3o (HB.out.trans ((if_neg (by decide)).trans ((if_neg (by decide)).trans (if_pos rfl))))
    clear HB
    go_wp2_with fail
    refine (b5g w2 g gr A c bs (q+1+2) most o HT2.out hg H2.out).mono ?_
    have hfull:=@a6X bs (q+1+2)
    rw[show q+1+2=q+3 by omega] at hfull ⊢
    have hl1:=b2B bs (q+3)
    have hl2:=a9i bs (q+3)
    have hl3:1<=distF bs (q+3):=by unfold distF;omega
    rintro _ w3 (⟨hne,q',rfl,h3,k3⟩|⟨heq,v1,v2,rfl,ho1,ho2,h3,k3⟩)
    ·have H3:=c3o h3
     have K3:=c3o (K2.out.trans k3)
     have HB1:=c3o (HB0.out.trans (if_pos hne))
     have HNE:Hid (br.2.2≠0):=c3o (by rw[HB1.out];exact hne)
     have e2:(codesE (headF bs (q+3))==0)=false:=by simpa using hne
     have hbe:codesE (headF bs (q+3))=br.2.2:=by rw[HB1.out]
     have hbo:o=br.1:=by rw[HB1.out]
     rw[hbo] at H3
     rw[hbe] at e2 ⊢
     clear h3 k3 H2 K2 HB0 HB1 hne hbe hbo hfull
     generalize br.2.2=er at *
     go_wp2_with fail
     go_meet
     exact⟨q',rfl,c3o (fun h=>absurd h HNE.out),H3,K3⟩
    ·have HB1:=c3o (HB0.out.trans (if_neg (by rw[heq];simp)))
     obtain⟨hz,hck1,hck2⟩:=b0y heq
     obtain⟨hf1,hf2⟩:=hfull hz
     have H3:=c3o h3
     have K3:=c3o (K2.out.trans k3)
     obtain⟨A1,c1,rfl,hri1,-,-⟩:=a0y ho1
     obtain⟨A2,c2,rfl,hri2,-,-⟩:=a0y ho2
     have HR1:=c3o hri1
     have HR2:=c3o hri2
     have HCK1:=c3o hck1
     have HCK2:=c3o hck2
     have b1:(headF bs (q+3)).1.length<=288:=by omega
     have b2:1<=(headF bs (q+3)).2.1.length:=by omega
     have b3:(headF bs (q+3)).2.1.length<=288:=by omega
     clear h3 k3 H2 K2 HB0 ho1 ho2 hri1 hri2 hfull hck1 hck2 hz heq hf1 hf2
     generalize headF bs (q+3)=hd at *
     obtain⟨L1,L2,nn,er0⟩:=hd
     simp only[] at H3 HR1 HR2 HCK1 HCK2 b1 b2 b3 HB1 ⊢
     obtain⟨n1,hn1⟩:∃ n,n=L1.length:=⟨_,rfl⟩
     obtain⟨n2,hn2⟩:∃ n,n=L2.length:=⟨_,rfl⟩
     rw[<-hn1] at b1 HR1 ⊢
     rw[<-hn2] at b2 b3 HR2 ⊢
     clear hn1 hn2
     go_wp2_with fail
     refine (a5i w3 g gr A c bs (q+3+nn) most o L1 L2 A1 A2 n1 n2 c1 c2 H3.out HR1.out HR2.out b1 b2 b3 HCK1.out HCK2.out).mono ?_
     rintro _ w4 ⟨q',rfl,h4,k4,hq4⟩
     have H4:=c3o h4
     have K4:=c3o (K3.out.trans k4)
     have HQ':=c3o hq4
     clear h4 k4 hq4 H3 K3 HR1 HR2
     rw[<-HB1.out] at H4 HQ' ⊢
     generalize br.2.2=er at *
     go_wp2_with fail
     go_meet
     exact⟨q',rfl,HQ',H4,K4⟩
   ·obtain rfl:ki=3:=by omega
    have HB0:=c3o (HB.out.trans ((if_neg (by decide)).trans ((if_neg (by decide)).trans (if_neg (by decide)))))
    have hbo:o=br.1:=by rw[HB0.out]
    have hbe:(50:Int)=br.2.2:=by rw[HB0.out]
    have HBE:=c3o hbe
    rw[hbo] at H2
    clear HB hbo hbe
    go_wp2_with fail
    go_meet
    exact⟨_,by rw[<-HBE.out],c3o (fun h=>by have:=HBE.out;omega),H2,K2⟩
  case rest=>
   obtain⟨q',rfl,HQ',H3,K3⟩:=hcut
   clear H2 K2 HB
   obtain⟨o3,p3,er⟩:=br
   simp only[] at HQ' H3 HP HS3 ⊢
   by_cases her:er=0
   ·subst her
    obtain⟨a1,a2⟩:=HP.out rfl
    obtain rfl:=HQ'.out rfl
    have HS4:Hid (blksF bs most (8*bs.length+1) out p=if la=0 then blksF bs most f o3 q' else (o3,q',0)):=c3o (by rw[HS3.out,if_neg (by simp)])
    clear HS3 HP HQ'
    by_cases hla:la=0
    ·subst hla
     have HE:=c3o (HS4.out.trans (if_pos rfl))
     clear HS4
     go_wp2_with fail
     go_roundg f
     case measure=>omega
     case rel=>exact⟨q',o3,by omega,c3o a2,HE,H3,K3⟩
    ·have e5:(la==0)=false:=by simpa using hla
     have HE:=c3o (HS4.out.trans (if_neg hla))
     clear HS4 hla
     go_wp2_with fail
     rw[c3u]
     go_ret
     exact a9F HE.out H3.out K3.out
   ·have e5:(er !=0)=true:=by simpa using her
    have HE:Hid (blksF bs most (8*bs.length+1) out p=(o3,p3,er)):=c3o (by rw[HS3.out,if_pos her])
    have HER:=c3o her
    clear HS3 HP HQ' her
    go_wp2_with fail
    rw[c3u]
    go_ret
    exact⟨q',by rw[HE.out];rfl,by rw[HE.out];exact H3.out,K3.out,fun h=>by rw[HE.out] at h;exact absurd h HER.out⟩
end Go.Proofs.YtghjlpechjggjaaGreatDoor
namespace Go.Proofs.YtghjlpechjggjaaGreatDoor
open Go.RowKit
def c3a(w:World)(bs:List Int)(most:Nat)(r:IRes)(e:Ending)(w':World):Prop:=
 ∃ g gr A c q,e=.returned (.tuple #[.pointer (some ⟨g,0,none⟩),.int .i64 r.2.2])/\IR w' g gr A c bs q most r.1/\(r.2.2=0->q=r.2.1)/\w.heap.size<=gr/\(∀ a,A=some a->gr<a.block)/\Below w.heap.size w w'
theorem b2w(w:World)(A:Option Addr)(n c:Nat)(bs:List Int)(most:Nat)(hT:Tabs w)(hr:RI .u8 w A n bs)(hnil:A=none->n=0/\c=0)(hbyte:∀ j,0<=nth bs j/\nth bs j<=255)(hn:n<=4000000000)(hm:most<=16384) :
  Calls Tryz.prog 106 #[.slice A n c,.int .i64 most] w (c3a w bs most (inflF bs most)):=by
 have HR:=c3o hr
 have HN:=c3o hnil
 have HT:=c3o hT
 have HBY:=c3o hbyte
 have HTS:=c3o hT.size
 clear hr hnil hT hbyte
 go_enter Tryz.func106,Tryz.ntmps106
 go_wp2_with fail
 refine (a7p w A n c bs HR.out HN.out HBY.out hn).mono ?_
 rintro _ w1 ⟨gr,A1,c1,rfl,hrd,hgr,hA1,hb1⟩
 have hk1:=Keeps.of_below hb1 (S:=[])
 have HK1:=c3o hk1
 have HT1:=c3o (HT.out.keeps hk1 (by simp))
 have HRD:=c3o hrd
 have HA1:=c3o hA1
 have hgl:=hrd.lt
 clear hrd hA1 hb1 hk1 HR HN HBY
 obtain⟨g,hg⟩:∃ g,g=w1.heap.size:=⟨_,rfl⟩
 obtain⟨w2,hw2⟩:∃ w2,w2=w1.alloc (.cells #[.pointer (some ⟨gr,0,none⟩),.slice none 0 0,.int .i64 most] 178):=⟨_,rfl⟩
 have hk2:Keeps [] w1 w2:=by rw[hw2];exact (Keeps.refl [] w1).alloc _
 have hb2:Blk w2 g 178 [.pointer (some ⟨gr,0,none⟩),.slice none 0 0,.int .i64 most]:=by rw[hw2,hg];exact a0d w1 _ _
 have HI:Hid (IR w2 g gr A1 c1 bs 0 most []):=c3o ⟨HRD.out.dr hk2,⟨_,hb2,c3y _ _ _ _⟩,by omega,fun a ha=>by have:=(HA1.out a ha).2;omega,by simp,hm,b0c hb2 (AllU8.nil _)⟩
 have HT2:=c3o (HT1.out.keeps hk2 (by simp))
 have HK2:=c3o (HK1.out.trans hk2)
 have HGS:Hid (w2.heap.size=g+1):=c3o (by rw[hw2,hg];simp)
 have HG:Hid (w.heap.size<=gr/\gr<g):=c3o ⟨hgr,by omega⟩
 have HAG:Hid (∀ a,A1=some a->gr<a.block):=c3o (fun a ha=>(HA1.out a ha).1)
 have hgt:gtop<=gr:=by have:=HTS.out;omega
 go_upto_region 2 with (fail)
 rw[<-hw2,<-hg]
 clear hw2 hg hk2 hb2 HRD HA1 HT1 HK1 hgl hgr
 go_wp2_with fail
 refine (b0r w2 g gr A1 c1 bs 0 most [] HT2.out hgt HI.out).mono ?_
 rintro _ w3 ⟨q,rfl,h3,k3,hq⟩
 rw[show blksF bs most (8*bs.length+1) [] 0=inflF bs most from rfl] at h3 hq ⊢
 have H3:=c3o h3
 have hgg:=HG.out
 have hk3:Keeps [] w w3:=by
  have hs:=HK2.out.size
  exact⟨k3.os.trans HK2.out.os,k3.tape.trans HK2.out.tape,k3.output.trans HK2.out.output,Nat.le_trans HK2.out.size k3.size,fun k hk _=>(k3.same k (by omega) (by omega) (by omega) (.inl (by omega))).trans (HK2.out.block k hk (by simp))⟩
 have HK3:=c3o hk3
 have HQ:=c3o hq
 clear h3 k3 hq hk3 HI HK2 hgg
 generalize hir:inflF bs most=ir at *
 obtain⟨o3,p3,er⟩:=ir
 simp only[] at H3 HQ ⊢
 have HIR:=c3o hir
 clear hir
 go_wp2_with fail
 go_ret2
 exact⟨g,gr,A1,c1,q,rfl,H3.out,HQ.out,HG.out.1,HAG.out,HK3.out.below⟩
theorem a7Z(w:World)(A:Option Addr)(n c:Nat)(bs:List Int)(most:Int)(hT:Tabs w)(hr:RI .u8 w A n bs)(hnil:A=none->n=0/\c=0)(hbyte:∀ j,0<=nth bs j/\nth bs j<=255)(hn:n<=4000000000) :
  Calls Tryz.prog 77 #[.slice A n c,.int .i64 most] w fun e w'=>∃ v,e=.returned (.tuple #[v,.int .i64 ((a0B bs most).2.1:Nat),.int .i64 (a0B bs most).2.2]) /\
   w'.ownsRow w.heap.size 5 1 v (a0B bs most).1.length (ints .u8 (a0B bs most).1)/\Below w.heap.size w w'/\AllU8 w' v:=by
 have HR:=c3o hr
 have HN:=c3o hnil
 have HT:=c3o hT
 have HBY:=c3o hbyte
 have HRL:=c3o hr.len
 clear hr hnil hT hbyte
 go_enter Tryz.func77,Tryz.ntmps77
 by_cases h0:most<0
 ·have e0:decide (most<0)=true:=by simpa using h0
  have HE:Hid (a0B bs most=([],0,1)):=c3o (by unfold a0B;rw[if_pos (.inl h0)])
  clear h0
  go_wp2_with fail
  go_ret3
  rw[HE.out]
  exact⟨_,rfl,c3y _ _ _ _,Below.refl _ _,AllU8.nil _⟩
 have e0:decide (most<0)=false:=by simpa using h0
 by_cases h1:16384<most
 ·have e1:decide (16384<most)=true:=by simpa using h1
  have HE:Hid (a0B bs most=([],0,1)):=c3o (by unfold a0B;rw[if_pos (.inr h1)])
  clear h1
  go_wp2_with fail
  go_ret3
  rw[HE.out]
  exact⟨_,rfl,c3y _ _ _ _,Below.refl _ _,AllU8.nil _⟩
 have e1:decide (16384<most)=false:=by simpa using h1
 obtain⟨m,rfl⟩:=c3v (show 0<=most by omega)
 have hm:m<=16384:=by omega
 have HE:Hid (a0B bs (m:Nat)=if (inflF bs m).2.2≠0 then ([],0,(inflF bs m).2.2) else ((inflF bs m).1,((inflF bs m).2.1+7)/8,0)):=c3o (by unfold a0B;rw[if_neg (by omega),c3x])
 change Code.wp _ _ _ _ _
 go_wp2_with fail
 refine (b2w w A n c bs m HT.out HR.out HN.out HBY.out hn hm).mono ?_
 rintro _ w1 ⟨g,gr,A1,c1,q,rfl,hi,hq,hgr,-,hb⟩
 have HI:=c3o hi
 have HB:=c3o hb
 have HPOS:=c3o (fun h=>b0P bs m h)
 clear hb HR HN HT HBY h0 h1 e0 e1
 generalize inflF bs m=ir at *
 obtain⟨o3,p3,er⟩:=ir
 simp only[] at HE HPOS hi hq HI ⊢
 by_cases her:er=0
 ·subst her
  obtain rfl:=hq rfl
  have HE1:=c3o (HE.out.trans (if_neg (by simp)))
  have hp:=HPOS.out rfl
  have hrl:=HRL.out
  obtain⟨vA,hblk,hown⟩:=hi.box
  obtain⟨A2,c2,rfl,-,-,-⟩:=a0y hown
  have k0:=hblk.cell 0
  have k1:=hblk.cell 1
  simp only[c3q,c3s] at k0 k1
  have HO:=c3o (hown.mono (show w.heap.size<=g+1 by have:=hi.lt;omega))
  have HU:=c3o (hi.u8v hblk)
  have hcl:∀ j,Calls Tryz.prog 107 #[.pointer (some ⟨gr,0,none⟩)] (w1.drewN j) fun e w'=>e=.returned (.int .i64 q)/\∃ m,w'=(w1.drewN j).drewN m:=fun j=>a5x (w1.drewN j) gr A1 c1 bs q (hi.rd.dr ((Keeps.refl [] w1).drewN j))
  have HCL:=c3o hcl
  have s1:IntKind.i64.wrap ((q:Int)+7)=(q:Int)+7:=c3r _ (by omega)
  obtain⟨Q,hQ⟩:∃ Q,Q=(q+7)/8:=⟨_,rfl⟩
  rw[<-hQ] at HE1
  have s2:((q:Int)+7).tdiv 8=(Q:Int):=by rw[Int.tdiv_eq_ediv_of_nonneg (by omega)];omega
  have s3:IntKind.i64.wrap (Q:Int)=Q:=c3r _ (by omega)
  clear hQ
  clear HE hq hi hblk hown hcl HI HPOS hrl
  go_upto_region 6 with (fail)
  go_quiet (first|(go_at_call 107;exact Calls.quiet_of (HCL.out _)))
  go_wp2_with fail
  go_ret3
  rw[HE1.out]
  exact⟨_,rfl,a0b HO.out ((Keeps.refl [] w1).drewN _) (by simp),HB.out.trans (a0p ((Keeps.refl [] w1).drewN _).below HB.out.size),HU.out.keeps ((Keeps.refl [] w1).drewN _) (by simp)⟩
 ·have HE1:=c3o (HE.out.trans (if_pos her))
  have e2:(er !=0)=true:=by simpa using her
  clear HE hq hi HI HPOS her
  go_wp2_with fail
  go_ret3
  rw[HE1.out]
  exact⟨_,rfl,c3y _ _ _ _,HB.out,AllU8.nil _⟩
theorem a9r(w:World)(A:Option Addr)(n c:Nat)(bs:List Int)(most:Int)(hT:Tabs w)(hr:RI .u8 w A n bs)(hnil:A=none->n=0/\c=0)(hbyte:∀ j,0<=nth bs j/\nth bs j<=255)(hn:n<=4000000000) :
  Calls Tryz.prog 77 #[.slice A n c,.int .i64 most] w fun e w'=>∃ v,e=.returned (.tuple #[v,.int .i64 ((a0B bs most).2.1:Nat),.int .i64 (a0B bs most).2.2]) /\
   w'.ownsRow w.heap.size 5 1 v (a0B bs most).1.length (ints .u8 (a0B bs most).1)/\Below w.heap.size w w':=
 (a7Z w A n c bs most hT hr hnil hbyte hn).mono fun _ _ ⟨v,h1,h2,h3,_⟩=>⟨v,h1,h2,h3⟩
end Go.Proofs.YtghjlpechjggjaaGreatDoor
namespace Go.Proofs.YtghjlpechjggjaaGreatDoor
def ZU8(l:List Int):Prop:=∀ x∈l,0<=x/\x<=255
theorem ZU8.nil:ZU8 []:=fun _ h=>by cases h
theorem ZU8.snoc{l:List Int}(h:ZU8 l){x:Int}(hx:0<=x/\x<=255):ZU8 (l++[x]):=fun y hy=>by
 rcases List.mem_append.1 hy with hy|hy
 ·exact h y hy
 ·rw[c3p] at hy;subst hy;exact hx
theorem ZU8.nth{l:List Int}(h:ZU8 l)(j:Nat):0<=nth l j/\nth l j<=255:=by
 by_cases hj:j<l.length
 ·rw[a0o hj];exact h _ (c3D _)
 ·unfold Go.Proofs.YtghjlpechjggjaaGreatDoor.nth
  rw[List.getD,List.getElem?_eq_none (by omega)]
  simp
theorem b4B(bs:List Int)(most:Nat):∀ n out p,ZU8 out->ZU8 (storF bs most n out p).1
 | 0,out,p,h=>h
 | n+1,out,p,h=>by
  rw[storF]
  split;· exact h
  split;· exact h
  have:=a0F bs p 8
  exact b4B bs most n _ _ (h.snoc (by omega))
theorem b2y(far most:Nat):∀ n out,ZU8 out->ZU8 (layN far most n out).1
 | 0,out,h=>h
 | n+1,out,h=>by
  rw[layN]
  split;· exact h
  exact b2y far most n _ (h.snoc (h.nth _))
theorem b3Z(dist bs:List Int)(most s:Nat)(out:List Int)(p:Nat)(h:ZU8 out):ZU8 (a0I dist bs most s out p).1:=by
 unfold a0I
 split;· exact h
 split;· exact h
 split;· exact h
 split;· exact h
 split;· exact h
 split;· exact h
 split;· exact h
 split
 ·exact b2y _ _ _ _ h
 ·exact b2y _ _ _ _ h
theorem c1o(l bs:List Int)(p:Nat)(h:(decF l bs p).2.1=0):0<=(decF l bs p).1:=by
 by_cases hp:p<=8*bs.length
 ·exact (a9g l bs p hp h).2.2.1
 ·exfalso
  unfold decF at h
  cases hn:longN l 16 with
  | zero=>rw[hn,decGo] at h;simp at h
  | succ f=>rw[hn,decGo,if_neg (by omega)] at h;simp at h
theorem a9X(lit dist bs:List Int)(most:Nat):∀ f out p,ZU8 out->ZU8 (symF lit dist bs most f out p).1
 | 0,out,p,h=>h
 | f+1,out,p,h=>by
  rw[symF]
  split;· exact h
  rename_i h0
  split;· exact h
  rename_i h256
  split
  ·rename_i hlt
   split;· exact h
   have:=c1o lit bs p (Classical.not_not.1 h0)
   exact a9X lit dist bs most f _ _ (h.snoc (by omega))
  ·split
   ·exact b3Z _ _ _ _ _ _ h
   ·exact a9X lit dist bs most f _ _ (b3Z _ _ _ _ _ _ h)
theorem b5P(bs:List Int)(most:Nat)(out:List Int)(p:Nat)(h:ZU8 out):ZU8 (a0m bs most out p).1:=by
 unfold a0m
 split;· exact h
 split;· exact h
 split;· exact h
 exact b4B _ _ _ _ _ h
theorem a6G(bs:List Int)(most:Nat)(kind:Int)(out:List Int)(p:Nat)(h:ZU8 out):ZU8 (a0S bs most kind out p).1:=by
 unfold a0S
 split;· exact b5P _ _ _ _ h
 split;· exact a9X _ _ _ _ _ _ _ h
 split
 ·split;· exact h
  exact a9X _ _ _ _ _ _ _ h
 ·exact h
theorem b3V(bs:List Int)(most:Nat):∀ f out p,ZU8 out->ZU8 (blksF bs most f out p).1
 | 0,out,p,h=>h
 | f+1,out,p,h=>by
  rw[blksF]
  split;· exact h
  split;· exact h
  split;· exact a6G _ _ _ _ _ h
  split
  ·exact b3V bs most f _ _ (a6G _ _ _ _ _ h)
  ·exact a6G _ _ _ _ _ h
theorem b4d(bs:List Int)(most:Int):ZU8 (a0B bs most).1:=by
 unfold a0B
 split;· exact ZU8.nil
 split;· exact ZU8.nil
 exact b3V _ _ _ _ _ ZU8.nil
end Go.Proofs.YtghjlpechjggjaaGreatDoor
namespace Go.Proofs.YtghjlpechjggjaaGreatDoor
open Go.RowKit
theorem b3m(w:World)(A B:Option Addr)(n m c d:Nat)(xs ys:List Int)(hx:RI .u8 w A n xs)(hy:RI .u8 w B m ys)(hn:n<=140737488355328)(hm:m<=140737488355328) :
  Calls Tryz.prog 16 #[.slice A n c,.slice B m d] w fun e w'=>e=.returned (.bool (xs==ys))/\Dr w w':=by
 have lx:=hx.len
 have ly:=hy.len
 by_cases hnm:n=m
 ·subst hnm
  have t0:((n:Int) !=(n:Int))=false:=by simp
  go_enter Tryz.func16,Tryz.ntmps16
  go_wp2
  clear t0
  have HX:=c3o hx
  have HY:=c3o hy
  have LX:=c3o lx
  have LY:=c3o ly
  clear hx hy lx ly
  go_loopw [5] (fun i wr=>∃ k:Nat,k<=n/\i=.int .i64 k/\Hid (∀ j,j<k->nth xs j=nth ys j)/\Hid (Dr w wr)) (fun i _=>n-(intOf i).toNat)
  case atStart=>exact⟨0,by omega,rfl,fun j hj=>by omega,Dr.refl _⟩
  case round=>
   obtain⟨k,hk,rfl,HE,HW⟩:=hrel
   obtain⟨q,rfl⟩:=HW.out
   clear HW
   by_cases hlt:k<n
   ·obtain⟨a,o,rfl,ha⟩:=HX.out.at hlt
    obtain⟨b,o',rfl,hb⟩:=HY.out.at hlt
    by_cases hv:nth xs k=nth ys k
    ·have t1:(nth xs k !=nth ys k)=false:=by simpa using hv
     have HV:=c3o hv
     clear hv
     go_wp2
     go_quiet (fail)
     go_wp2
     go_roundw
     case rel=>exact⟨k+1,by omega,by go_num,c1r HE.out HV.out,⟨_,rfl⟩⟩
     case measure=>simp[intOf];omega
    ·have t1:(nth xs k !=nth ys k)=true:=by simpa using hv
     have HV:=c3o hv
     clear hv
     go_wp2
     go_quiet (fail)
     go_wp2
     go_ret
     rw[b6q xs ys k HV.out]
     exact⟨rfl,Dr.step ⟨_,rfl⟩ _⟩
   ·go_wp2
    go_ret
    rw[b2d xs ys n LX.out LY.out (fun j hj=>HE.out j (by omega))]
    exact⟨rfl,_,rfl⟩
 ·have t0:((n:Int) !=(m:Int))=true:=by simp;omega
  go_enter Tryz.func16,Tryz.ntmps16
  go_wp2
  go_ret
  rw[b4P xs ys (by omega)]
  exact⟨rfl,0,rfl⟩
theorem b9v(ys:List Int)(x:Int):leI (ys++[x])=leI ys+256^ys.length*x:=by
 induction ys with
 | nil=>simp[leI]
 | cons y ys ih=>rw[List.cons_append,leI,ih,leI,List.length_cons,Int.pow_succ,Int.mul_add,<-Int.mul_assoc,Int.mul_comm 256 (256^ys.length)];omega
theorem c0e{xs:List Int}{p i:Nat}(h:p+i<xs.length):seg xs p (i+1)=seg xs p i++[nth xs (p+i)]:=by
 unfold seg
 rw[<-Nat.add_assoc,List.take_succ_eq_append_getElem h,List.drop_append_of_le_length (by rw[List.length_take];omega),a0o h]
theorem b4r(i:Nat):(2:Nat)^(8*i)=256^i:=by rw[Nat.pow_mul]
theorem c1C{v x:Int}{i:Nat}(hi:i<8)(h0:0<=v)(h1:v<256^i)(hx:0<=x/\x<=255):bits .or .u64 v (IntKind.u64.wrap (x*2^(8*i)))=v+256^i*x:=by
 obtain⟨a,rfl⟩:=c3v h0
 obtain⟨b,rfl⟩:=c3v hx.1
 have ha:a<2^(8*i):=by
  rw[b4r]
  have:((a:Nat):Int)<((256^i:Nat):Int):=by rw[Int.natCast_pow];exact h1
  omega
 have hp:(2:Nat)^(8*i)<=72057594037927936:=by
  rw[show (72057594037927936:Nat)=2^56 from rfl]
  exact c3z (by decide) (by omega)
 have hm:b*2^(8*i)<=255*72057594037927936:=Nat.mul_le_mul (by omega) hp
 have e0:((b:Nat):Int)*2^(8*i)=((b*2^(8*i):Nat):Int):=by rw[Int.natCast_mul,Int.natCast_pow];rfl
 have e1:IntKind.u64.wrap ((b:Int)*2^(8*i))=((b*2^(8*i):Nat):Int):=by rw[e0];exact IntWalk.u64_in _ (by omega)
 have e2:=Nat.two_pow_add_eq_or_of_lt (i:=8*i) (b:=a) ha b
 have e3:=u64_or_nat a (b*2^(8*i)) (by omega) (by omega)
 have e4:a ||| b*2^(8*i)=a+b*2^(8*i):=by rw[Nat.or_comm,Nat.mul_comm,<-e2,Nat.mul_comm];omega
 have e5:((256:Int)^i)=((2^(8*i):Nat):Int):=by rw[b4r,Int.natCast_pow];rfl
 rw[e1,e5]
 have e6:bits .or .u64 ((a:Nat):Int) ((b*2^(8*i):Nat):Int)=((a ||| b*2^(8*i):Nat):Int):=e3
 show bits .or .u64 ((a:Nat):Int) _=_
 rw[e6,e4,Int.natCast_add,Int.natCast_mul b]
 congr 1
 exact Int.mul_comm _ _
theorem b5f(w:World)(A:Option Addr)(n c:Nat)(xs:List Int)(hx:RI .u8 w A n xs)(hb:∀ x∈xs,0<=x/\x<=255)(hn:n<=1000000000)(p k:Nat)(hk:k<=8)(hpk:p+k<=n) :
  Calls Tryz.prog 108 #[.slice A n c,.int .i64 p,.int .i64 k] w fun e w'=>e=.returned (.tuple #[.int .u64 (zget xs p k),.int .i64 0])/\w'=w:=by
 have HX:=c3o hx
 have LX:Hid (xs.length=n):=c3o hx.len
 have HBY:=c3o hb
 clear hx hb
 have s0:IntKind.i64.wrap ((n:Int)-(p:Int))=(n:Int)-(p:Int):=c3r _ (by omega)
 have d0:decide ((p:Int)<0)=false:=by simp
 have d1:decide ((n:Int)<(p:Int))=false:=by simp;omega
 have d1':decide (n<p)=false:=by simp;omega
 have d2:decide ((n:Int)-(p:Int)<(k:Int))=false:=by simp;omega
 go_enter Tryz.func108,Tryz.ntmps108
 go_wp2_with fail
 go_loopw [8,9] (fun vv iv wr=>∃ (i:Nat),i<=k/\iv=.int .i64 i/\vv=.int .u64 (zget xs p i)/\wr=w) (fun _ iv _=>k-(intOf iv).toNat)
 case atStart=>exact⟨0,by omega,rfl,by unfold zget seg;simp[leI],rfl⟩
 case round=>
  obtain⟨i,hi,rfl,rfl,rfl⟩:=hrel
  by_cases hlt:i<k
  ·have e0:decide (i<k)=true:=by simpa using hlt
   obtain⟨b,o,rfl,hc⟩:=HX.out.at (j:=p+i) (by omega)
   have hbx:=HBY.out (nth xs (p+i)) (by rw[a0o (by rw[LX.out];omega)];exact c3D _)
   have hz:zget xs p (i+1)=zget xs p i+256^i*nth xs (p+i):=by
    unfold zget
    rw[c0e (by rw[LX.out];omega),b9v,a3g (by rw[LX.out];omega)]
   have hzb:=a8v (a5f HBY.out p i)
   rw[a3g (by rw[LX.out];omega)] at hzb
   have hzb':0<=zget xs p i/\zget xs p i<256^i:=hzb
   generalize nth xs (p+i)=x at *
   generalize zget xs p i=v at *
   have s1:IntKind.i64.wrap ((p:Int)+(i:Int))=((p+i:Nat):Int):=by rw[c3r _ (by omega)];omega
   have s2:IntKind.i64.wrap (8*(i:Int))=8*(i:Int):=c3r _ (by omega)
   have HZ:=c3o hz
   clear hz hzb
   have hor:=c1C (show i<8 by omega) hzb'.1 hzb'.2 hbx
   have HZB:=c3o hzb'
   clear hzb'
   generalize (256:Int)^i*x=y at *
   go_wp2_with fail
   go_roundw
   case rel=>exact⟨i+1,by omega,by go_num,by rw[HZ.out],by trivial⟩
   case measure=>simp[intOf];omega
  ·obtain rfl:i=k:=by omega
   have e0:decide (i<i)=false:=by simp
   go_wp2_with fail
   go_ret2
   exact⟨rfl,rfl⟩
theorem b0p:∀ n r,bitN (n+1) r=bit1 (bitN n r)
 | 0,_=>rfl
 | n+1,r=>b0p n (bit1 r)
theorem b2I(w:World)(A:Option Addr)(n c:Nat)(xs:List Int)(hx:RI .u8 w A n xs)(hb:∀ x∈xs,0<=x/\x<=255)(hn:n<=1000000000) :
  Calls Tryz.prog 70 #[.int .u32 0,.slice A n c] w fun e w'=>e=.returned (.int .u32 ((crcF xs:Nat):Int))/\w'=w:=by
 have HX:=c3o hx
 have HB:=c3o hb
 have HL:Hid (xs.length=n):=c3o hx.len
 clear hx hb
 have n0:bits .xor .u32 IntKind.u32.max 0=4294967295:=by decide +kernel
 go_enter Tryz.func70,Tryz.ntmps70
 go_wp2_with fail
 go_loopw [5,6] (fun rv iv wr=>∃ (i r:Nat),i<=n/\r<4294967296/\rv=.int .u32 (r:Int)/\iv=.int .i64 i/\Hid (r=crcGo 4294967295 (xs.take i))/\wr=w) (fun _ iv _=>n-(intOf iv).toNat)
 case atStart=>exact⟨0,4294967295,by omega,by omega,by simp,rfl,c3o (by rw[List.take_zero,b0E]),rfl⟩
 case round=>
  obtain⟨i,r,hi,hr,rfl,rfl,HR,rfl⟩:=hrel
  by_cases hlt:i<n
  ·have e0:decide (i<n)=true:=by simpa using hlt
   obtain⟨b,o,rfl,hc⟩:=HX.out.at hlt
   have hbx:=HB.out (nth xs i) (by rw[a0o (by rw[HL.out];exact hlt)];exact c3D _)
   obtain⟨x,hxx⟩:∃ x:Nat,nth xs i=(x:Int):=⟨(nth xs i).toNat,by omega⟩
   have hstep:crcGo 4294967295 (xs.take (i+1))=bitN 8 (r ^^^ x):=by
    rw[List.take_succ_eq_append_getElem (by rw[HL.out];exact hlt),a3t,<-HR.out,<-a0o (by rw[HL.out];exact hlt),hxx];rfl
   rw[hxx] at hc hbx
   have c1:bits .xor .u32 (r:Int) (x:Int)=((r ^^^ x:Nat):Int):=u32_xor_nat r x hr (by omega)
   have hr1:r ^^^ x<4294967296:=a8P hr (by omega)
   generalize r ^^^ x=r1 at *
   have HST:=c3o hstep.symm
   have hx8:x<256:=by omega
   clear hstep HR hbx hxx
   go_wp2_with fail
   go_loopw [5,7] (fun rv kv wq=>∃ (k q:Nat),k<=8/\q<4294967296/\rv=.int .u32 (q:Int)/\kv=.int .i64 k/\Hid (q=bitN k r1)/\wq=wr) (fun _ kv _=>8-(intOf kv).toNat)
   case atStart=>exact⟨0,r1,by omega,hr1,rfl,rfl,c3o rfl,rfl⟩
   case round=>
    obtain⟨k,q,hk,hq,rfl,rfl,HQ,rfl⟩:=hrel
    by_cases hk8:k<8
    ·have e1:decide ((k:Int)<8)=true:=by simp;omega
     have e1':decide (k<8)=true:=by simpa using hk8
     have a1:bits .and .u32 (q:Int) 1=((q%2:Nat):Int):=by
      have:=u32_and_nat q 1 hq (by decide)
      rw[show q &&& 1=q%2 from Nat.and_two_pow_sub_one_eq_mod q 1] at this
      exact this
     have d1:(q:Int)/2=((q/2:Nat):Int):=by omega
     have HN:Hid (bit1 q=bitN (k+1) r1):=c3o (by rw[b0p,<-HQ.out])
     by_cases h2:q%2=1
     ·have b1:bit1 q=q/2 ^^^ crcP:=by unfold bit1;rw[if_pos h2]
      have x1:bits .xor .u32 ((q/2:Nat):Int) 3988292384=((bit1 q:Nat):Int):=by rw[b1];exact u32_xor_nat (q/2) 3988292384 (by omega) (by decide)
      have hb1:=b2e hq
      have t1:(((q%2:Nat):Int)==1)=true:=by rw[h2];rfl
      clear b1 h2
      generalize bit1 q=q' at *
      generalize hq2:q/2=qh at *
      generalize hqm:q%2=qm at *
      have t1':((qm:Int)==1)=true:=t1
      clear hq2 hqm
      go_wp2_with fail
      go_roundw
      case rel=>exact⟨k+1,q',by omega,hb1,rfl,by go_num,HN,by trivial⟩
      case measure=>simp[intOf];omega
     ·have b1:bit1 q=q/2:=by unfold bit1;rw[if_neg h2]
      have hm0:q%2=0:=by omega
      have t1:(((q%2:Nat):Int)==1)=false:=by rw[hm0];rfl
      have hb1:=b2e hq
      rw[<-b1] at d1
      clear b1 h2 hm0
      generalize bit1 q=q' at *
      generalize hqm:q%2=qm at *
      clear hqm
      go_wp2_with fail
      go_roundw
      case rel=>exact⟨k+1,q',by omega,hb1,rfl,by go_num,HN,by trivial⟩
      case measure=>simp[intOf];omega
    ·obtain rfl:k=8:=by omega
     have e1:decide (((8:Nat):Int)<8)=false:=by decide
     have HQ2:Hid (q=crcGo 4294967295 (xs.take (i+1))):=c3o (by rw[HQ.out,HST.out])
     clear HQ HST hc
     go_wp2_with fail
     go_roundw
     case rel=>exact⟨i+1,q,by omega,hq,rfl,by go_num,HQ2,by trivial⟩
     case measure=>simp[intOf];omega
  ·obtain rfl:i=n:=by omega
   have e0:decide (i<i)=false:=by simp
   have hre:bits .xor .u32 IntKind.u32.max (r:Int)=((crcF xs:Nat):Int):=by
    rw[show IntKind.u32.max=4294967295 from rfl]
    have h1:=u32_xor_nat 4294967295 r (by decide) hr
    have h2:xs.take i=xs:=List.take_of_length_le (by rw[HL.out];omega)
    have h3:=HR.out
    rw[h2] at h3
    unfold crcF
    rw[<-h3]
    exact h1
   go_wp2_with fail
   go_ret
   exact⟨rfl,rfl⟩
theorem a8J(w:World)(A:Option Addr)(n c:Nat)(xs:List Int)(hx:RI .u8 w A n xs)(hb:∀ x∈xs,0<=x/\x<=255)(hn:n<=1000000000) :
  Calls Tryz.prog 45 #[.slice A n c] w fun e w'=>e=.returned (.int .u32 ((crcF xs:Nat):Int))/\w'=w:=by
 have HC:=c3o (b2I w A n c xs hx hb hn)
 clear hx hb
 go_enter Tryz.func45,Tryz.ntmps45
 go_wp2_with fail
 refine HC.out.mono ?_
 rintro _ w' ⟨rfl,rfl⟩
 go_wp2_with fail
 go_ret
 exact⟨rfl,rfl⟩
end Go.Proofs.YtghjlpechjggjaaGreatDoor
namespace Go.Proofs.YtghjlpechjggjaaGreatDoor
open Go.ChangeShapes Go.WideShapes Go.ChangeAt Go.RowKit
theorem own:ownKnob Tryz.prog.godebug=none:=by kernel_rfl
theorem c3g:laidOutB Tryz.prog=true:=by kernel_rfl
abbrev theLaid : List (String × DataW Unit) := [("haversack/lens.order", Rows.laid_haversack_lens_order), ("haversack/lens.wide", Rows.laid_haversack_lens_wide), ("haversack/lens.from", Rows.laid_haversack_lens_from)]
theorem a9b:Tryz.prog.cellsOf 164=19:=by kernel_rfl
theorem a9c:Tryz.prog.cellsOf 3=1:=by kernel_rfl
theorem c3d:Tryz.prog.cellsOf 5=1:=by kernel_rfl
theorem c2u : Tryz.prog.globalNamed "haversack/lens.from" = some 4 := by kernel_rfl
theorem c2v : Tryz.prog.globalNamed "haversack/lens.wide" = some 2 := by kernel_rfl
theorem c0F : Tryz.prog.globalNamed "haversack/lens.order" = some 1 := by kernel_rfl
theorem c3j:(Tryz.prog.globals[4]?).map (·.type)=some 164:=by kernel_rfl
theorem c3k:(Tryz.prog.globals[2]?).map (·.type)=some 164:=by kernel_rfl
theorem c2P:(Tryz.prog.globals[1]?).map (·.type)=some 164:=by kernel_rfl
theorem a7D{W:World}{g:Nat}{zs:List Int}(hl:zs.length=19)(h:∀ i,i<zs.length->W.cell? ⟨g,i,none⟩=some (.int .i64 (zs.getD i 0))):RI .i64 W (some ⟨g,0,none⟩) 19 zs:=
 ⟨hl,fun _=>⟨_,_,rfl⟩,fun b o ha j hj=>by
  injection ha with ha;injection ha with h1 h2 h3;subst h1;subst h2
  rw[Nat.zero_add];exact h j (by omega)⟩
theorem c1R{W:World}(h:laidMet Tryz.prog theLaid W):Tabs W:=by
 have h1 : laidMet Tryz.prog [("haversack/lens.from", Lib.tabData .i64 a9n)] W := laidMet.filter (fun x => x.1 == "haversack/lens.from") h
 have h2 : laidMet Tryz.prog [("haversack/lens.wide", Lib.tabData .i64 a5Q)] W := laidMet.filter (fun x => x.1 == "haversack/lens.wide") h
 have h3 : laidMet Tryz.prog [("haversack/lens.order", Lib.tabData .i64 orderL)] W := laidMet.filter (fun x => x.1 == "haversack/lens.order") h
 have t1:=Lib.tabIs_of_head (rest:=[]) c2u c3j Tryz.underlying164 Tryz.underlying3 a9c a9b h1
 have t2:=Lib.tabIs_of_head (rest:=[]) c2v c3k Tryz.underlying164 Tryz.underlying3 a9c a9b h2
 have t3:=Lib.tabIs_of_head (rest:=[]) c0F c2P Tryz.underlying164 Tryz.underlying3 a9c a9b h3
 exact⟨a7D rfl (t1.cell c2u),a7D rfl (t2.cell c2v),a7D rfl (t3.cell c0F)⟩
def b7U(zs:List Int):Obj->Obj
 | .cells _ t frozen=>.cells (ints .i64 zs).toArray t frozen
 | o=>o
noncomputable def laidWorld (os:Os):World:=
 { World.holding Tryz.prog os ⟨#[],#[],[]⟩ with heap:=(((World.holding Tryz.prog os ⟨#[],#[],[]⟩).heap.modify 4 (b7U a9n)).modify 2 (b7U a5Q)).modify 1 (b7U orderL) }
end Go.Proofs.YtghjlpechjggjaaGreatDoor
namespace Go.Proofs.YtghjlpechjggjaaGreatDoor
open Go.ChangeShapes Go.WideShapes Go.ChangeAt Go.RowKit
theorem c2U {H:Type} {enc:TypeId×Value->H} {W:World} {k:IntKind} {t e:TypeId} {a0:Option Addr} {len0 cap0:Nat} {d:DataW H} {p:List MemPlace}
  (ht:Tryz.prog.underlying t=some (.slice e)) (he:Tryz.prog.underlying e=some (.int k)) (hc:Tryz.prog.cellsOf e=1)
  (h:DataW.Trod enc Tryz.prog W 0 (fun _=>true) true t (Value.slice a0 len0 cap0) d p) :
  ∃ xs,RI k W a0 len0 xs/\len0<=maxLen/\(a0=none->len0=0/\cap0=0)/\(∀ x∈xs,(Lit.int k x).wf=true)/\a4d a0 len0 cap0:=by
 obtain⟨fuel,hf⟩:=h
 rcases open_ints ht he hc hf with⟨hcs,_⟩|⟨x,l,c,zs,hcs,_,hl,hm,hz,_,hcell,hwz⟩
 ·simp[Value.cells] at hcs
  obtain⟨rfl,rfl,rfl⟩:=hcs
  exact⟨[],⟨rfl,by omega,by simp⟩,by omega,fun _=>⟨rfl,rfl⟩,by simp,⟨c3I _,Nat.zero_le _,fun h=>by omega⟩⟩
 ·simp[Value.cells] at hcs
  obtain⟨rfl,rfl,rfl⟩:=hcs
  have hz':zs.length=cap0:=by simpa using hz
  refine⟨zs.take len0,⟨by simp;omega,fun hp=>?_,fun b o ha j hj=>?_⟩,by omega,(by simp),fun y hy=>hwz y (List.mem_of_mem_take hy),hl,hm,fun hp=>?_⟩
  ·obtain⟨b,o,rfl,_⟩:=ints_at hcell (by omega)
   exact⟨b,o,rfl⟩
  ·obtain rfl:=c3A ha
   rw[a9B _ _ _ hj,<-a0w]
   exact hcell j (by omega)
  ·obtain⟨b,o,rfl,_⟩:=ints_at hcell (by omega)
   exact⟨b,o,rfl⟩
end Go.Proofs.YtghjlpechjggjaaGreatDoor
namespace Go.Proofs.YtghjlpechjggjaaGreatDoor
open Go.ChangeShapes Go.WideShapes Go.ChangeAt Go.RowKit
theorem c2d{W:World}{base:Nat}{t e:TypeId}{A:Option Addr}{l c:Nat}(ht:Tryz.prog.underlying t=some (.slice e))(h:Value.okWide Tryz.prog W .any base t (.slice A l c)):∀ a,A=some a->a.block<W.heap.size:=by
 rintro a rfl
 simp only[Value.okWide,ht,Cell.okWide,Cell.ok] at h
 obtain⟨-,-,-,-,row,cells,hs,-⟩:=h
 have hs':=hs
 simp only[World.shape?] at hs'
 by_cases hlt:a.block<W.heap.size
 ·exact hlt
 ·have:W.heap[a.block]? =none:=by simp;omega
  simp[this] at hs'
end Go.Proofs.YtghjlpechjggjaaGreatDoor
namespace Go.Proofs.YtghjlpechjggjaaGreatDoor
open Go.ChangeShapes Go.WideShapes Go.ChangeAt Go.RowKit
theorem b8R:Tryz.prog.cellsOf 49=1:=by kernel_rfl
theorem b6x:Tryz.prog.cellsOf 129=16:=by kernel_rfl
theorem c0G : Tryz.prog.globalNamed "haversack/little.steps" = some 0 := by kernel_rfl
theorem c2Q:(Tryz.prog.globals[0]?).map (·.type)=some 129:=by kernel_rfl
theorem c3l {W : World} (h : laidMet Tryz.prog theLaid W) (h4 : laidMet Tryz.prog [("haversack/little.steps", Rows.laid_haversack_little_steps)] W) : Tabz W := by
 have h1 : laidMet Tryz.prog [("haversack/little.steps", Lib.tabData .u32 stepsL)] W := h4
 have t4:=Lib.tabIs_of_head (rest:=[]) c0G c2Q Tryz.underlying129 Tryz.underlying49 b8R b6x h1
 refine⟨c1R h,rfl,fun _=>⟨_,_,rfl⟩,fun b o ha j hj=>?_⟩
 injection ha with ha;injection ha with q1 q2 q3;subst q1;subst q2
 rw[Nat.zero_add]
 exact t4.cell c0G j hj
def b3q(k:IntKind)(zs:List Int):Obj->Obj
 | .cells _ t frozen=>.cells (ints k zs).toArray t frozen
 | o=>o
def c1F:List Int:=[128,191,160,191,128,159,144,191,128,143]++List.replicate 22 0
noncomputable def laidWorldZ (os:Os):World:=
 { laidWorld os with heap:=(((laidWorld os).heap.modify 0 (b3q .u32 stepsL)).modify 6 (b3q .u8 c1F)).modify 5 (b3q .u8 (Go.Pinned.utf8FirstZ.map Int.ofNat)) }
theorem c2w(os:Os)(args:Array Value):laidMet Tryz.prog Rows.zipNamesRow.laid ((laidWorldZ os).forCall (fun _ _=>0) ⟨#[],args,[]⟩).memory:=
 laidMet_of_run3 16 (by kernel_rfl) (by kernel_rfl) (by kernel_rfl)
end Go.Proofs.YtghjlpechjggjaaGreatDoor
namespace Go.Proofs.YtghjlpechjggjaaGreatDoor
open Go.RowKit
end Go.Proofs.YtghjlpechjggjaaGreatDoor
namespace Go.Proofs.YtghjlpechjggjaaGreatDoor
open Go.RowKit
end Go.Proofs.YtghjlpechjggjaaGreatDoor
namespace Go.Proofs.YtghjlpechjggjaaGreatDoor
open Go.RowKit
def b9c(l:List Oper)(n N:Nat):Bool:=
 (List.range n).all fun i=>match (l[i]?).bind (·.dst) with
  | none=>true
  | some d=>decide (d<N)&&(List.range n).all fun j=>decide (i=j)||(l[j]?).bind (·.dst) !=some d
theorem a8n{l:List Oper}{n N:Nat}(h:b9c l n N=true){i:Nat}{o:Oper}{d:Tmp}(hi:i<n)(ho:l[i]? =some o)(hd:o.dst=some d) :
  d<N/\∀ j p,j<n->j≠i->l[j]? =some p->p.dst≠some d:=by
 have h1:=List.all_eq_true.1 h i (List.mem_range.2 hi)
 rw[ho,Option.bind_some,hd] at h1
 simp only[Bool.and_eq_true,c3B] at h1
 refine⟨h1.1,fun j p hj hne hp hpd=>?_⟩
 have h2:=List.all_eq_true.1 h1.2 j (List.mem_range.2 hj)
 rw[hp,Option.bind_some,hpd] at h2
 simp only[bne_self_eq_false,Bool.or_false,c3B] at h2
 exact hne h2.symm
theorem b9X(a:Act)(d:Option Tmp)(v:Value):(a.put d v).tmps.size=a.tmps.size:=by
 unfold Act.put;cases d<;>simp
theorem b7K{a:Act}{d:Option Tmp}{v:Value}{t:Tmp}(h:d≠some t):(a.put d v).tmps[t]? =a.tmps[t]? :=by
 unfold Act.put
 cases d with
 | none=>rfl
 | some e=>exact Array.getElem?_setIfInBounds_ne (fun he=>h (by rw[he]))
theorem b9W{a:Act}{t:Tmp}{v:Value}(h:t<a.tmps.size):(a.put (some t) v).tmps[t]? =some v:=by
 unfold Act.put
 simp[h]
section
variable {P:Program} {md:Region.Mode} {l l':List Oper} {m n N:Nat} {om om':Oper} {v:Value} {w0 w1:World} {aF:Act}
theorem set_other(hl:l'=l.set m om'){i:Nat}(h:i≠m):l'.toArray[i]? =l.toArray[i]? :=by
 subst hl;simp[List.getElem?_set_ne (Ne.symm h)]
theorem a9U(hl:l'=l.set m om')(ho:l[m]? =some om):l'.toArray[m]? =some om':=by
 subst hl
 obtain⟨h,-⟩:=List.getElem?_eq_some_iff.1 ho
 simp[h]
theorem c1J{α:Type}(f:Oper->α)(hl:l'=l.set m om')(ho:l[m]? =some om)(hf:f om'=f om)(i:Nat):(l'.toArray[i]?).map f=(l.toArray[i]?).map f:=by
 by_cases h:i=m
 ·subst h;rw[a9U hl ho,List.getElem?_toArray,ho];simp[hf]
 ·rw[set_other hl h]
theorem a3L(hl:l'=l.set m om')(ho:l[m]? =some om)(hf:om'.after=om.after)(listed:Array Bool):Region.ready md l'.toArray listed=Region.ready md l.toArray listed:=by
 unfold Region.ready
 have hs:l'.toArray.size=l.toArray.size:=by subst hl;simp
 rw[hs]
 congr 1
 funext i
 have:=c1J (fun o=>o.after.all fun e=>!Region.binds md e||listed.getD e.on false) hl ho (by simp only[hf]) i
 rw[this]
theorem b7W(hl:l'=l.set m om')(ho:l[m]? =some om)(hf:om'.after=om.after):∀ (g k:Nat) (listed:Array Bool),Region.seqB md l'.toArray g k listed=Region.seqB md l.toArray g k listed
 | 0,k,listed=>by unfold Region.seqB;rw[a3L hl ho hf]
 | g+1,k,listed=>by
  unfold Region.seqB
  rw[a3L hl ho hf,b7W hl ho hf g]
theorem b3r(hl:l'=l.set m om')(ho:l[m]? =some om)(hf:om'.dst=om.dst)(tmps:Array Value):yielded l'.toArray tmps=yielded l.toArray tmps:=by
 funext j
 unfold yielded
 have:(l'.toArray[j]?).bind (·.dst)=(l.toArray[j]?).bind (·.dst):=by
  by_cases h:j=m
  ·subst h;rw[a9U hl ho,List.getElem?_toArray,ho];simp[hf]
  ·rw[set_other hl h]
 rw[this]
theorem b4w(hl:l'=l.set m om')(ho:l[m]? =some om)(hf:om'.dst=om.dst){w:World}{i:Nat}(h:i≠m){K:Act->Prop}{a:Act}(hh:stOp P l'.toArray w i K a):stOp P l.toArray w i K a:=by
 unfold stOp at *
 rw[set_other hl h,b3r hl ho hf] at hh
 exact hh
theorem b0d(hD:b9c l' n N=true){g:Nat}{w:World}{i:Nat}{oi:Oper}{d:Tmp}(hi:i<n)(hoi:l'[i]? =some oi)(hd:oi.dst=some d) :
  ∀ (f:Nat) (listed:Array Bool) (a:Act),listed.getD i true=true->wpAnyL P md l'.toArray w n (fun q a'=>Region.seqB md l'.toArray g n q=true/\a'=aF) f listed a->aF.tmps[d]? =a.tmps[d]?
 | 0,listed,a,hl,h=>by rw[h.2]
 | f+1,listed,a,hl,h=>by
  obtain⟨hne,h⟩:=h
  obtain⟨j,hj⟩:=List.exists_mem_of_ne_nil _ hne
  obtain⟨hjn,hst⟩:=h j hj
  obtain⟨hju,oj,hoj,-⟩:=mem_ready.1 hj
  obtain⟨u,-,hk⟩:=yieldsAt_of_stOp hoj hst
  have hji:j≠i:=fun e=>by rw[e,hl] at hju;cases hju
  have hpd:=(a8n hD hi hoi hd).2 j oj hjn hji (by simpa using hoj)
  have:=b0d hD hi hoi hd f _ _ (by rw[getD_set_ne true hji];exact hl) hk
  rw[this,b7K hpd]
theorem a7U (hl:l'=l.set m om') (ho:l[m]? =some om) (hf:om'.dst=om.dst) (hfa:om'.after=om.after) {g:Nat} {Q':Exit->Act->World->Prop}
  (hL:∀ q,Region.seqB md l'.toArray g n q=true->wpAny P md l.toArray Q' g q aF w1) :
  ∀ (f:Nat) (listed:Array Bool) (a:Act),listed.getD m true=true->wpAnyL P md l'.toArray w1 n (fun q a'=>Region.seqB md l'.toArray g n q=true/\a'=aF) f listed a->wpAny P md l.toArray Q' (f+g) listed a w1
 | 0,listed,a,hm,h=>by rw[Nat.zero_add,h.2];exact hL _ h.1
 | f+1,listed,a,hm,h=>by
  rw[show f+1+g=(f+g)+1 by omega]
  obtain⟨hne,h⟩:=h
  rw[a3L hl ho hfa] at hne h
  refine⟨fun h0=>absurd h0 hne,fun i hi=>?_⟩
  have him:i≠m:=fun e=>by have:=(mem_ready.1 hi).1;rw[e,hm] at this;cases this
  exact wpOp_of_stOp (fun a' h'=>a7U hl ho hf hfa hL f _ a' (by rw[getD_set_ne true him];exact hm) h') (b4w hl ho hf him (h i hi).2)
theorem a8O (hl:l'=l.set m om') (ho:l[m]? =some om) (hf:om'.dst=om.dst) (hfa:om'.after=om.after) (hg:om.guard=none) (hg':om'.guard=none) (hop:om'.op=.assign (.const v)) {g:Nat} {Q':Exit->Act->World->Prop}
  (hs:Region.sinkB md l'.toArray n=true) (hc:Region.chainB md l'.toArray n=true) (hn:n<l'.toArray.size) (hmn:m<n) (hg0:g=l'.toArray.size-n)
  (hD:b9c l' n N=true) (hrun:∀ e,(execOp e om).run P w0=.ok (.value v) w1)
  (hL:∀ q,Region.seqB md l'.toArray g n q=true->wpAny P md l.toArray Q' g q aF w1) :
  ∀ (f:Nat) (listed:Array Bool) (a:Act),a.tmps.size=N->HeadInv md l'.toArray n listed->listed.getD m true=false ->
   wpAnyL P md l'.toArray w0 n (fun q a'=>Region.seqB md l'.toArray g n q=true/\a'=aF) f listed a->wpAnyL P md l'.toArray w1 n (fun q a'=>Region.seqB md l'.toArray g n q=true/\a'=aF) f listed a->wpAny P md l.toArray Q' (f+g) listed a w0
 | 0,listed,a,hsz,inv,hm,h,_=>by
  exfalso
  have hw:=tail_waits hs hc hn inv _ m rfl hmn hm n (c3I n)
  obtain⟨g',rfl⟩:∃ g',g=g'+1:=⟨g-1,by omega⟩
  have h1:=h.1
  simp only[Region.seqB,Bool.and_eq_true,c3B] at h1
  rw[h1.1] at hw
  exact hw (by simp)
 | f+1,listed,a,hsz,inv,hm,h0,h1=>by
  rw[show f+1+g=(f+g)+1 by omega]
  obtain⟨hne,h0⟩:=h0
  obtain⟨-,h1⟩:=h1
  refine⟨fun hz=>absurd (by rw[a3L hl ho hfa];exact hz) hne,fun i hi=>?_⟩
  rw[<-a3L hl ho hfa] at hi
  obtain⟨hin,s0⟩:=h0 i hi
  obtain⟨-,s1⟩:=h1 i hi
  by_cases him:i=m
  ·subst him
   have hk:wpAnyL P md l'.toArray w1 n (fun q a'=>Region.seqB md l'.toArray g n q=true/\a'=aF) f (listed.setIfInBounds i true) (a.put om.dst v):=by
    obtain⟨u,hy,hk⟩:=yieldsAt_of_stOp (a9U hl ho) s1
    have hu:u=v:=by
     rcases hy with⟨-,hy⟩|⟨hy,-⟩
     ·rw[BigFrame.run_assign (.const v) hop] at hy
      rcases hy with hy|⟨hy,-⟩|⟨_,_,hy,-⟩
      ·injection hy with h1 h2;injection h1 with h1;exact h1.symm
      ·cases hy
      ·cases hy
     ·unfold Region.wanted at hy;rw[hg'] at hy;simp at hy
    rw[hu,hf] at hk
    exact hk
   unfold wpOp
   rw[List.getElem?_toArray,ho]
   simp only[]
   have hw:Region.wanted om (yielded l.toArray a.tmps)=true:=by unfold Region.wanted;rw[hg]
   rw[if_pos hw]
   refine .inl ?_
   unfold Oper.wp
   rw[hrun]
   have hms:i<listed.size:=by rw[inv.size];omega
   exact a7U hl ho hf hfa hL f _ _ (by simp[hms]) hk
  ·obtain⟨-,oi,hoi,-⟩:=mem_ready.1 hi
   obtain⟨u0,y0,k0⟩:=yieldsAt_of_stOp hoi s0
   obtain⟨u1,y1,k1⟩:=yieldsAt_of_stOp hoi s1
   have his:i<listed.size:=by rw[inv.size];omega
   have hli:(listed.setIfInBounds i true).getD i true=true:=by simp[his]
   have he:a.put oi.dst u1=a.put oi.dst u0:=by
    cases hd:oi.dst with
    | none=>rfl
    | some d=>
     rw[hd] at k0 k1
     have hoi':l'[i]? =some oi:=by simpa using hoi
     have g0:=b0d hD hin hoi' hd f _ _ hli k0
     have g1:=b0d hD hin hoi' hd f _ _ hli k1
     have hlt:d<a.tmps.size:=by rw[hsz];exact (a8n hD hin hoi' hd).1
     rw[b9W hlt] at g0 g1
     rw[g0] at g1
     injection g1 with g1
     rw[g1]
   rw[he] at k1
   have st:stOp P l'.toArray w0 i (fun a'=>a'=a.put oi.dst u0) a:=y0.stOp hoi rfl
   refine wpOp_of_stOp (fun a' h'=>?_) (b4w hl ho hf him st)
   rw[h']
   exact a8O hl ho hf hfa hg hg' hop hs hc hn hmn hg0 hD hrun hL f _ _ (by rw[b9X];exact hsz) (inv.set hi hin) (by rw[getD_set_ne true him];exact hm) k0 k1
end
theorem b3a {P:Program} {id:Nat} {Q:Exit->Act->World->Prop} {a:Act} {w:World} {l:List Oper} (m n N:Nat) (om:Oper) (v:Value) (w1:World)
  (hm:P.follows .mixedOrders=true) (ho:l[m]? =some om) (hg:om.guard=none) {l':List Oper} (hl:l'=l.set m { om with op:=.assign (.const v) })
  (hB:Region.lexTailB .any l'.toArray n=true) (hmn:m<n) (hN:a.tmps.size=N) (hD:b9c l' n N=true) (hrun:∀ e,(execOp e om).run P w.drew=.ok (.value v) w1)
  (h:∃ aF,wpQuiet P l'.toArray (fun w'=>w'=w.drew) (fun a'=>a'=aF) (l'.take n) a/\wpQuiet P l'.toArray (fun w'=>w'=w1) (fun a'=>a'=aF) (l'.take n) a/\wpList P l.toArray Q (l.drop n) aF w1):(Code.region id l.toArray true).wp P Q a w:=by
 obtain⟨aF,h0,h1,ht⟩:=h
 simp only[Region.lexTailB,Bool.and_eq_true,c3B] at hB
 obtain⟨⟨⟨⟨hsel,hn⟩,hs⟩,hc⟩,hlex⟩:=hB
 have hn':n<l'.length:=by simpa using hn
 have hll:l'.length=l.length:=by rw[hl,List.length_set]
 have htl:(l'.take n).length=n:=by simp;omega
 have inv0:HeadInv .any l'.toArray n (Array.replicate l'.toArray.size false):=
  ⟨by simp,fun j oj _ hl=>(by rw[getD_replicate_false] at hl;cases hl),fun t _ ht=>getD_in (by simpa using ht) (getD_replicate_false _ _)⟩
 have H (W:World) (h:wpQuiet P l'.toArray (fun w'=>w'=W) (fun a'=>a'=aF) (l'.take n) a):=
  wpAnyL_lex (md:=.any) (g:=l'.toArray.size-n) hsel hs hc hn (l'.take n) 0 _ a (fun j hj=>by
   have hj':j<n:=by rw[htl] at hj;exact hj
   simp[hj']) (by simpa using htl) inv0 (by rw[htl];exact hlex) (a2e _ _ h)
 have A:=H _ h0
 have B:=H _ h1
 rw[htl] at A B
 refine wp_region_any hm ?_
 have hg0:l'.toArray.size-n=(l.drop n).length:=by simp;omega
 have:=a8O (md:=.any) (om':={ om with op:=.assign (.const v) }) (g:=l'.toArray.size-n) (Q':=Q) (w0:=w.drew) hl ho rfl rfl hg hg rfl hs hc hn hmn rfl hD hrun
  (fun q hq=>by
   rw[b7W hl ho rfl] at hq
   rw[hg0] at hq ⊢
   exact wpAny_of_seq (md:=.any) (Q':=Q) (l.drop n) n q aF w1 (fun j=>by simp[List.getElem?_drop]) hq ht)
  n (Array.replicate l'.toArray.size false) a hN inv0 (getD_in (by simp;omega) (getD_replicate_false _ _)) A B
 rw[show n+(l'.toArray.size-n)=l.toArray.size by simp;omega] at this
 rwa [show l'.toArray.size=l.toArray.size by simp[hll]] at this
end Go.Proofs.YtghjlpechjggjaaGreatDoor
namespace Go.Proofs.YtghjlpechjggjaaGreatDoor
open Go.RowKit
theorem b7u(bs:List Int)(p m:Nat):numB bs p (m+1)=2*numB bs (p+1) m+bitAt bs p:=by
 rw[Nat.add_comm m 1,a4V bs p 1 m]
 simp[numB];omega
theorem b1e(w:World)(B:Option Addr)(M c:Nat)(bs:List Int)(p n:Nat)(hb:RI .u8 w B M (a2x bs M))(hn:n<=32)(hf:p+n<=M)(hM:M<=100000000) :
  Calls Tryz.prog 147 #[.slice B M c,.int .i64 p,.int .i64 n] w fun e w'=>e=.returned (.int .u32 (numB bs p n))/\Dr w w':=by
 have HB:=c3o hb
 clear hb
 go_enter Tryz.func147,Tryz.ntmps147
 go_wp2_with fail
 go_loopw [7,8] (fun vv iv wr=>∃ K:Nat,K<=n/\iv=.int .i64 ((K:Int)-1)/\vv=.int .u32 (numB bs (p+K) (n-K))/\Hid (Dr w wr)) (fun _ iv _=>(intOf iv+1).toNat)
 case atStart=>exact⟨n,by omega,by go_num,by rw[c3H];rfl,c3o ⟨0,rfl⟩⟩
 case round=>
  obtain⟨K,hK,rfl,rfl,HD⟩:=hrel
  obtain⟨q,rfl⟩:=HD.out
  clear HD
  by_cases hk:0<K
  ·obtain⟨k,rfl⟩:∃ k,K=k+1:=⟨K-1,by omega⟩
   have hk1:((k+1:Nat):Int)-1=k:=by omega
   rw[hk1]
   clear hk1
   have e0:decide (0<=(k:Int))=true:=by simp
   obtain⟨b,o,rfl,hc⟩:=HB.out.at (j:=p+k) (by omega)
   rw[a4D _ _ _ (by omega)] at hc
   have HN:Hid (numB bs (p+k) (n-k)=2*numB bs (p+(k+1)) (n-(k+1))+bitAt bs (p+k)):=c3o (by
    rw[show n-k=(n-(k+1))+1 by omega,b7u];rfl)
   obtain⟨b0,b1⟩:=a2E bs (p+k)
   obtain⟨n0,n1⟩:=a0F bs (p+k) (n-k)
   have n2:=b7J (n-k) (by omega)
   obtain⟨m0,m1⟩:=a0F bs (p+(k+1)) (n-(k+1))
   rw[HN.out] at n1
   have HN2:=c3o HN.out.symm
   clear n0 HN
   have n3:2*numB bs (p+(k+1)) (n-(k+1))+bitAt bs (p+k)<4294967296:=by omega
   clear n1 n2 m1
   generalize numB bs (p+(k+1)) (n-(k+1))=v at *
   generalize bitAt bs (p+k)=z at *
   go_wp2_with fail
   go_roundw
   case rel=>exact⟨k,by omega,by go_num,by rw[<-HN2.out],c3o ⟨_,rfl⟩⟩
   case measure=>simp[intOf]
  ·obtain rfl:K=0:=by omega
   have e0:decide (0<=((0:Nat):Int)-1)=false:=by simp
   go_wp2_with fail
   go_ret
   exact⟨rfl,_,rfl⟩
end Go.Proofs.YtghjlpechjggjaaGreatDoor
namespace Go.Proofs.YtghjlpechjggjaaGreatDoor
open Go.RowKit
def c2g(w:World)(r:Int×Nat×Int)(e:Ending)(w':World):Prop:=
 e=.returned (.tuple #[.int .i64 r.1,.int .i64 (r.2.1:Nat),.int .i64 r.2.2])/\Dr w w'
theorem c1z{w w':World}{r:Int×Nat×Int}{s e k:Int}{n:Nat}(hr:r=(s,n,e))(hk:k=n)(h:Dr w w'):c2g w r (.returned (.tuple #[.int .i64 s,.int .i64 k,.int .i64 e])) w':=by
 subst hr;subst hk;exact⟨rfl,h⟩
theorem a9I(w:World)(g n:Nat)(rs:List (List Int))(B:Option Addr)(m c:Nat)(bl:List Int)(p:Nat)(hB:RB w g n rs)(hb:RI .u8 w B m bl)(hp:p<=m)(hm:m<=100000000)(hn:n<=288)(hrow:∀ j,(rth rs j).length<=15) :
  Calls Tryz.prog 170 #[.slice (some ⟨g,0,none⟩) n n,.slice B m c,.int .i64 p] w (c2g w (a5D rs bl p)):=by
 have HB:=c3o hB
 have HBL:=c3o hb
 have HLL:=c3o hb.len
 have HRL:=c3o hB.len
 have HRW:=c3o hrow
 clear hB hb hrow
 go_enter Tryz.func170,Tryz.ntmps170
 go_wp2_with fail
 go_loopw [9,10] (fun bv iv wr=>∃ (b:Bool) (i:Nat),i<=n/\bv=.bool b/\iv=.int .i64 i/\Hid (a5D rs bl p=nextG rs bl p (n-i) i b)/\Hid (Dr w wr)) (fun _ iv _=>n-(intOf iv).toNat)
 case atStart=>exact⟨false,0,by omega,rfl,rfl,c3o (by rw[Nat.sub_zero];unfold a5D;rw[HRL.out]),c3o ⟨0,rfl⟩⟩
 case round=>
  obtain⟨b,i,hi,rfl,rfl,HR,HD⟩:=hrel
  obtain⟨q,rfl⟩:=HD.out
  clear HD
  by_cases hlt:i<n
  ·obtain⟨A',c',hcr,hri,hra⟩:=HB.out.at hlt
   have e0:decide ((i:Int)<(n:Int))=true:=by simpa using hlt
   have HST:Hid (nextG rs bl p (n-i) i b=if (rth rs i).length=0 then nextG rs bl p (n-(i+1)) (i+1) b else
     if agrN (rth rs i) bl p=(rth rs i).length then ((i:Int),(rth rs i).length,0)
     else nextG rs bl p (n-(i+1)) (i+1) (b||decide (p+agrN (rth rs i) bl p=bl.length))):=by
    show _=_
    rw[show n-i=(n-(i+1))+1 by omega,nextG]
   have hk15:=HRW.out i
   obtain⟨K,hK⟩:∃ K,K=(rth rs i).length:=⟨_,rfl⟩
   rw[<-hK] at hcr hri hk15
   have HK:=c3o hK
   have HRI:=c3o hri
   clear hK hri hra
   by_cases hz:K=0
   ·have e1:((K:Int)==0)=true:=by simpa using hz
    have HN:Hid (a5D rs bl p=nextG rs bl p (n-(i+1)) (i+1) b):=by
     show _=_
     rw[HR.out,HST.out,if_pos (by rw[<-HK.out];exact hz)]
    clear HST HR
    go_wp2_with fail
    go_roundw
    case rel=>exact⟨b,i+1,by omega,rfl,by go_num,HN,c3o ⟨_,rfl⟩⟩
    case measure=>simp[intOf];omega
   ·have e1:((K:Int)==0)=false:=by simpa using hz
    have HN:Hid (a5D rs bl p=if agrN (rth rs i) bl p=K then ((i:Int),K,0)
     else nextG rs bl p (n-(i+1)) (i+1) (b||decide (p+agrN (rth rs i) bl p=bl.length))):=by
     show _=_
     rw[HR.out,HST.out,if_neg (by rw[<-HK.out];exact hz),HK.out]
    have HAG0:Hid (agrN (rth rs i) bl p=agr (rth rs i) bl p (K-0) 0):=by
     show _=_
     rw[Nat.sub_zero];unfold agrN;rw[HK.out]
    clear HST HR
    go_wp2_with fail
    go_loopw [11] (fun nv wx=>∃ t:Nat,t<=K/\nv=.int .i64 t/\p+t<=m/\Hid (agrN (rth rs i) bl p=agr (rth rs i) bl p (K-t) t)/\Hid (Dr w wx)) (fun nv _=>K-(intOf nv).toNat)
    case atStart=>exact⟨0,by omega,rfl,by omega,HAG0,c3o ⟨_,rfl⟩⟩
    case round=>
     clear HAG0
     obtain⟨t,ht,rfl,hpt,HAG,HD⟩:=hrel
     obtain⟨q2,rfl⟩:=HD.out
     clear HD
     by_cases htk:t<K
     ·have e2:decide ((t:Int)<(K:Int))=true:=by simpa using htk
      have e5:((t:Int)==(K:Int))=false:=by simp;omega
      by_cases hpm:p+t<m
      ·have e3:decide ((p:Int)+(t:Int)<(m:Int))=true:=by simp;omega
       have e6:((p:Int)+(t:Int)==(m:Int))=false:=by simp;omega
       obtain⟨rb,ro,rfl,hc1⟩:=HRI.out.at htk
       obtain⟨bb,bo,rfl,hc2⟩:=HBL.out.at hpm
       by_cases heq:nth (rth rs i) t=nth bl (p+t)
       ·have e4:(nth (rth rs i) t==nth bl (p+t))=true:=by simpa using heq
        have HAG2:Hid (agrN (rth rs i) bl p=agr (rth rs i) bl p (K-(t+1)) (t+1)):=by
         show _=_
         rw[HAG.out,show K-t=(K-(t+1))+1 by omega,agr,if_pos ⟨by rw[<-HK.out];exact htk,by rw[HLL.out];exact hpm,heq⟩]
        clear HAG
        generalize nth (rth rs i) t=x at *
        generalize nth bl (p+t)=y at *
        go_wp2_with fail
        go_quiet (fail)
        go_wp2_with fail
        go_roundw
        case rel=>exact⟨t+1,by omega,by go_num,by omega,HAG2,c3o ⟨_,rfl⟩⟩
        case measure=>simp[intOf];omega
       ·have e4:(nth (rth rs i) t==nth bl (p+t))=false:=by simpa using heq
        have HN2:Hid (a5D rs bl p=nextG rs bl p (n-(i+1)) (i+1) b):=by
         show _=_
         have ha:agrN (rth rs i) bl p=t:=by rw[HAG.out,show K-t=(K-(t+1))+1 by omega,agr,if_neg (fun h=>heq h.2.2)]
         rw[HN.out,ha,if_neg (by omega),decide_eq_false (by rw[HLL.out];omega),Bool.or_false]
        clear HAG HN
        generalize nth (rth rs i) t=x at *
        generalize nth bl (p+t)=y at *
        cases b
        ·go_wp2_with fail
         go_quiet (fail)
         go_wp2_with fail
         go_roundw
         case rel=>exact⟨false,i+1,by omega,rfl,by go_num,HN2,c3o ⟨_,rfl⟩⟩
         case measure=>simp[intOf];omega
        ·go_wp2_with fail
         go_quiet (fail)
         go_wp2_with fail
         go_roundw
         case rel=>exact⟨true,i+1,by omega,rfl,by go_num,HN2,c3o ⟨_,rfl⟩⟩
         case measure=>simp[intOf];omega
      ·have e3:decide ((p:Int)+(t:Int)<(m:Int))=false:=by simp;omega
       have e6:((p:Int)+(t:Int)==(m:Int))=true:=by simp;omega
       have HN2:Hid (a5D rs bl p=nextG rs bl p (n-(i+1)) (i+1) true):=by
        show _=_
        have ha:agrN (rth rs i) bl p=t:=by rw[HAG.out,show K-t=(K-(t+1))+1 by omega,agr,if_neg (fun h=>by have:=h.2.1;rw[HLL.out] at this;omega)]
        rw[HN.out,ha,if_neg (by omega),decide_eq_true (by rw[HLL.out];omega),Bool.or_true]
       clear HAG HN
       cases b
       ·go_wp2_with fail
        go_quiet (fail)
        go_wp2_with fail
        go_roundw
        case rel=>exact⟨true,i+1,by omega,rfl,by go_num,HN2,c3o ⟨_,rfl⟩⟩
        case measure=>simp[intOf];omega
       ·go_wp2_with fail
        go_quiet (fail)
        go_wp2_with fail
        go_roundw
        case rel=>exact⟨true,i+1,by omega,rfl,by go_num,HN2,c3o ⟨_,rfl⟩⟩
        case measure=>simp[intOf];omega
     ·obtain rfl:t=K:=by omega
      have e2:decide ((t:Int)<(t:Int))=false:=by simp
      have e5:((t:Int)==(t:Int))=true:=by simp
      have HN2:Hid (a5D rs bl p=((i:Int),t,0)):=by
       show _=_
       rw[HN.out,HAG.out,c3H,agr,if_pos rfl]
      clear HAG HN
      go_wp2_with fail
      go_quiet (fail)
      go_wp2_with fail
      go_ret3
      exact c1z HN2.out rfl ⟨_,rfl⟩
  ·obtain rfl:i=n:=by omega
   have e0:decide ((i:Int)<(i:Int))=false:=by simp
   have HN:Hid (a5D rs bl p=(0,0,if b then 10 else 32)):=by show _=_;rw[HR.out,c3H,nextG]
   cases b
   ·go_wp2_with fail
    go_ret3
    exact c1z HN.out rfl ⟨_,rfl⟩
   ·go_wp2_with fail
    go_ret3
    exact c1z HN.out rfl ⟨_,rfl⟩
end Go.Proofs.YtghjlpechjggjaaGreatDoor
namespace Go.Proofs.YtghjlpechjggjaaGreatDoor
open Go.RowKit
theorem b0N{w w':World}{row:Option Nat}(h:w.grownBy w' row):Keeps row.toList w w':=
 ⟨h.os,h.tape,h.output,h.size,fun k hk hm=>h.block k hk (fun e=>hm (c3t.2 e.symm))⟩
theorem a2S{w:World}{base:Nat}{e:TypeId}{size n:Nat}{v:Value}{xs:List Value}(h:w.ownsRow base e size v n xs):∃ A c,v=.slice A n c:=by
 rcases h.2 with⟨rfl,rfl⟩|⟨g,cap,cur,rfl,_⟩
 ·exact⟨_,_,rfl⟩
 ·exact⟨_,_,rfl⟩
structure RD (w:World) (g:Nat) (B:Option Addr) (M c:Nat) (bs:List Int) (p:Nat) (out:List Int) (most:Nat) (e:Int) (ob:Option Nat):Prop where
 box:∃ v,Blk w g 184 [.slice B M c,.int .i64 p,v,.int .i64 most,.int .i64 e]/\w.ownsRow (g+1) 5 1 v out.length (ints .u8 out)/\v.ownBlock=ob
 ri:RI .u8 w B M (a2x bs M)
 lo:∀ a,B=some a->a.block<g
 len:M=8*bs.length
 le:p<=M
 cap:out.length<=most
 mx:most<=16384
 sz:M<=100000000
structure FR (g:Nat) (ob ob':Option Nat) (w w':World):Prop where
 keeps:Keeps (g::ob.toList) w w'
 row:∀ x,ob'=some x->ob=some x∨w.heap.size<=x
theorem FR.refl(g:Nat)(ob:Option Nat)(w:World):FR g ob ob w w:=⟨Keeps.refl _ _,fun _ h=>.inl h⟩
theorem FR.trans{g:Nat}{o1 o2 o3:Option Nat}{a b c:World}(h:FR g o1 o2 a b)(k:FR g o2 o3 b c):FR g o1 o3 a c:=
 ⟨h.keeps.then k.keeps (fun x hx=>by
  rcases List.mem_cons.1 hx with e|e
  ·exact .inl (by rw[e];exact List.mem_cons_self)
  ·rcases h.row x (c3t.1 e) with r|r
   ·exact .inl (List.mem_cons_of_mem _ (c3t.2 r))
   ·exact .inr r),fun x hx=>by
  rcases k.row x hx with r|r
  ·exact h.row x r
  ·exact .inr (Nat.le_trans h.keeps.size r)⟩
theorem FR.of_keeps{g:Nat}{ob:Option Nat}{w w':World}(h:Keeps [g] w w'):FR g ob ob w w':=
 ⟨h.mono (fun x hx=>by rw[c3p.1 hx];exact List.mem_cons_self),fun _ h=>.inl h⟩
theorem FR.of_nil{g:Nat}{ob:Option Nat}{w w':World}(h:Keeps [] w w'):FR g ob ob w w':=FR.of_keeps (h.mono (by simp))
theorem FR.new{g:Nat}{ob:Option Nat}{w0 w w':World}{o:Option Nat}(hk:Keeps [] w0 w)(h:FR g o ob w w')(hg:w0.heap.size<=g)(ho:∀ x,o=some x->w0.heap.size<=x):Keeps [] w0 w':=
 hk.then h.keeps (fun x hx=>by
  rcases List.mem_cons.1 hx with e|e
  ·exact .inr (by omega)
  ·exact .inr (ho x (c3t.1 e)))
theorem RD.lt{w:World}{g M c p most:Nat}{B:Option Addr}{bs out:List Int}{e:Int}{ob:Option Nat}(h:RD w g B M c bs p out most e ob):g<w.heap.size:=by obtain⟨v,h1,_⟩:=h.box;exact h1.lt
theorem RD.oblo{w:World}{g M c p most:Nat}{B:Option Addr}{bs out:List Int}{e:Int}{ob:Option Nat}(h:RD w g B M c bs p out most e ob):∀ x,ob=some x->g<x/\x<w.heap.size:=by
 obtain⟨v,h1,h2,h3⟩:=h.box
 intro x hx
 rw[<-h3] at hx
 exact⟨a0j h2 x hx,a2T h2 x hx⟩
theorem RD.keeps{w w':World}{g M c p most:Nat}{B:Option Addr}{bs out:List Int}{e:Int}{ob:Option Nat}(h:RD w g B M c bs p out most e ob)(hk:Keeps [] w w'):RD w' g B M c bs p out most e ob:=by
 obtain⟨v,h1,h2,h3⟩:=h.box
 exact⟨⟨v,h1.keeps hk (by simp),a0b h2 hk (by simp),h3⟩,h.ri.keeps hk (a0a _),h.lo,h.len,h.le,h.cap,h.mx,h.sz⟩
theorem RD.cells{w:World}{g M c p most:Nat}{B:Option Addr}{bs out:List Int}{e:Int}{ob:Option Nat}(h:RD w g B M c bs p out most e ob) :
  w.cell? ⟨g,0,none⟩=some (.slice B M c)/\w.cell? ⟨g,1,none⟩=some (.int .i64 p)/\w.cell? ⟨g,3,none⟩=some (.int .i64 most)/\w.cell? ⟨g,4,none⟩=some (.int .i64 e) /\
  ∃ v vc,w.cell? ⟨g,2,none⟩=some (.slice v out.length vc)/\RI .u8 w v out.length out:=by
 obtain⟨v,hb,ho,-⟩:=h.box
 obtain⟨vA,vc,rfl,hri,-,-⟩:=a0y ho
 have c0:=hb.cell 0
 have c1:=hb.cell 1
 have c2:=hb.cell 2
 have c3:=hb.cell 3
 have c4:=hb.cell 4
 simp only[c3q,c3s] at c0 c1 c2 c3 c4
 exact⟨c0,c1,c3,c4,vA,vc,c2,hri⟩
theorem RD.free{w:World}{g M c p most:Nat}{B:Option Addr}{bs out:List Int}{e:Int}{ob:Option Nat}(h:RD w g B M c bs p out most e ob)(j:Nat):w.frozen? ⟨g,j,none⟩=false:=by
 obtain⟨v,hb,-⟩:=h.box;exact hb.frozen j
theorem RD.place{w:World}{g M c p most:Nat}{B:Option Addr}{bs out:List Int}{e:Int}{ob:Option Nat}(h:RD w g B M c bs p out most e ob){q:Nat}(hq:q<=M):RD (w.setCell ⟨g,1,none⟩ (.int .i64 q)) g B M c bs q out most e ob:=by
 obtain⟨v,h1,h2,h3⟩:=h.box
 have hb:=h1.set 1 (.int .i64 q)
 simp only[c3F,c3G] at hb
 exact⟨⟨v,hb,c3C h2 (a:=⟨g,1,none⟩) (Nat.lt_succ_self g) _,h3⟩,h.ri.keeps ((Keeps.refl [g] w).setCell (Or.inl (by simp)) _) (fun a ha hm=>by have:=h.lo a ha;rw[c3p.1 hm] at this;omega),h.lo,h.len,hq,h.cap,h.mx,h.sz⟩
theorem RD.wrong{w:World}{g M c p most:Nat}{B:Option Addr}{bs out:List Int}{e:Int}{ob:Option Nat}(h:RD w g B M c bs p out most e ob)(e':Int):RD (w.setCell ⟨g,4,none⟩ (.int .i64 e')) g B M c bs p out most e' ob:=by
 obtain⟨v,h1,h2,h3⟩:=h.box
 have hb:=h1.set 4 (.int .i64 e')
 simp only[c3F,c3G] at hb
 exact⟨⟨v,hb,c3C h2 (a:=⟨g,4,none⟩) (Nat.lt_succ_self g) _,h3⟩,h.ri.keeps ((Keeps.refl [g] w).setCell (Or.inl (by simp)) _) (fun a ha hm=>by have:=h.lo a ha;rw[c3p.1 hm] at this;omega),h.lo,h.len,h.le,h.cap,h.mx,h.sz⟩
theorem a0D(w:World)(g j:Nat)(v:Value):Keeps [g] w (w.setCell ⟨g,j,none⟩ v):=(Keeps.refl [g] w).setCell (p:=⟨g,j,none⟩) (Or.inl (by simp)) v
def c2Z(w:World)(g:Nat)(B:Option Addr)(M c:Nat)(bs:List Int)(p:Nat)(out:List Int)(most:Nat)(e:Int)(ob:Option Nat)(n:Nat)(r:Ending)(w':World):Prop:=
 ∃ (v:Int) (p':Nat) (e':Int),r=.returned (.int .i64 v)/\RD w' g B M c bs p' out most e' ob/\Keeps [g] w w'/\0<=v/\v<2^n/\p<=p' /\
  ((e=0/\p+n<=M/\e'=0/\v=numB bs p n/\p'=p+n)∨(e=0/\M<p+n/\e'=55/\v=0/\p'=p)∨(e≠0/\e'=e/\v=0/\p'=p))
theorem a0v(w:World)(g:Nat)(B:Option Addr)(M c:Nat)(bs:List Int)(p:Nat)(out:List Int)(most:Nat)(e:Int)(ob:Option Nat)(n:Nat)(ni:Int)(hni:ni=n)(h:RD w g B M c bs p out most e ob)(hn:n<=16) :
  Calls Tryz.prog 130 #[.pointer (some ⟨g,0,none⟩),.int .i64 ni] w (c2Z w g B M c bs p out most e ob n):=by
 subst hni
 have H:=c3o h
 obtain⟨c0,c1,-,c4,-⟩:=h.cells
 have hle:=h.le
 have hsz:=h.sz
 have hp2:=a0i n
 clear h
 go_enter Tryz.func130,Tryz.ntmps130
 by_cases he:e≠0
 ·have e1:(e !=0)=true:=by simpa using he
  have HE:=c3o he
  clear he
  go_wp2_with fail
  go_ret
  exact⟨0,p,e,rfl,H.out,Keeps.refl _ _,by omega,hp2,c3I _,.inr (.inr ⟨HE.out,rfl,rfl,rfl⟩)⟩
 obtain rfl:e=0:=Classical.not_not.1 he
 clear he
 have s1:IntKind.i64.wrap ((M:Int)-(p:Int))=(M:Int)-(p:Int):=c3r _ (by omega)
 by_cases hf:M<p+n
 ·have e3:decide ((M:Int)-(p:Int)<(n:Int))=true:=by simp;omega
  have f4:=H.out.free 4
  go_wp2_with fail
  go_quiet (fail)
  go_wp2_with fail
  go_ret
  exact⟨0,p,55,rfl,(H.out.keeps ((Keeps.refl [] w).drewN _)).wrong 55,((Keeps.refl [g] w).drewN _).trans (a0D _ g 4 _),by omega,hp2,c3I _,.inr (.inl ⟨rfl,hf,rfl,rfl,rfl⟩)⟩
 ·have e3:decide ((M:Int)-(p:Int)<(n:Int))=false:=by simp;omega
  go_wp2_with fail
  go_quiet (fail)
  go_wp2_with fail
  obtain⟨w1,hw1⟩:∃ w1:World,w1=w.drewN nq:=⟨_,rfl⟩
  have hk1:Keeps [] w w1:=by rw[hw1];exact (Keeps.refl [] w).drewN _
  rw[<-hw1]
  clear hw1 c0 c1 c4
  have H1:=c3o (H.out.keeps hk1)
  obtain⟨c0,c1,-,c4,-⟩:=H1.out.cells
  go_still_tail 9,(by kernel_rfl)
  change wpList _ _ _ _ _ w1.drew
  have hk2:=(Keeps.refl [] w1).drew
  have H2:=c3o (H1.out.keeps hk2)
  have HK2:=c3o (hk1.trans hk2)
  clear hk1 hk2 H H1 c0 c1 c4
  go_wp2_with fail
  refine (b1e _ B M c bs p n H2.out.ri (by omega) (by omega) hsz).mono ?_
  rintro _ w3 ⟨rfl,hd3⟩
  have H3:=c3o (H2.out.keeps (hd3.keeps (S:=[])))
  have HK3:=c3o (HK2.out.trans (hd3.keeps (S:=[])))
  obtain⟨-,c1,-,-,-⟩:=H3.out.cells
  have f1:=H3.out.free 1
  obtain⟨n0,n1⟩:=a0F bs p n
  have n2:=b7I n hn
  obtain⟨x,hx⟩:∃ x,x=numB bs p n:=⟨_,rfl⟩
  have HX:=c3o hx
  have n3:x<=65536:=by omega
  rw[<-hx] at n0 n1 ⊢
  have HN1:=c3o n1
  have e5:IntKind.i64.wrap x=x:=c3r _ (by omega)
  have e6:IntKind.i64.wrap ((p:Int)+n)=(p:Int)+n:=c3r _ (by omega)
  clear hd3 H2 HK2 hx n1 n2 hp2
  go_wp2_with fail
  go_ret
  have hpl:=H3.out.place (show p+n<=M by omega)
  rw[show ((p+n:Nat):Int)=(p:Int)+n by omega] at hpl
  exact⟨x,p+n,0,rfl,hpl,(HK3.out.mono (by simp)).trans (a0D _ g 1 _),n0,HN1.out,by omega,.inl ⟨rfl,by omega,rfl,HX.out,rfl⟩⟩
end Go.Proofs.YtghjlpechjggjaaGreatDoor
