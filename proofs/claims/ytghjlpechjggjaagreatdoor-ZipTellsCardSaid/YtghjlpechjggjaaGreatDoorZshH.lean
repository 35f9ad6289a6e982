import Derived.Test.YtghjlpechjggjaaGreatDoorZshB
import Derived.Test.YtghjlpechjggjaaGreatDoorZshF
import Derived.Test.YtghjlpechjggjaaGreatDoorZshG
import Derived.Test.YtghjlpechjggjaaGreatDoorZshA
import Derived.BigQuiet
import Derived.Test.YtghjlpechjggjaaGreatDoorZshC
import Derived.Outline
import Derived.StillTailTactics
import Derived.Deep.LoopGhost
import Derived.WalkMore
import Derived.Test.YtghjlpechjggjaaGreatDoorZshD
import Derived.Test.YtghjlpechjggjaaGreatDoorCards
import Derived.Test.YtghjlpechjggjaaGreatDoorTie
import Derived.ProofKit
import Derived.OpenShut
import Derived.ChangeOld
import Derived.Deep.DeepHandedRow
import Derived.Deep.DeepLaidRun
import Derived.Lib.LaidTab
import Derived.Deep.Slices
import Derived.SizedLaws
import GoSem.PinnedTables
set_option linter.defProp false
set_option linter.unnecessarySimpa false
set_option linter.unusedVariables false
set_option linter.unusedSimpArgs false
set_option linter.constructorNameAsVariable false
set_option maxRecDepth 100000
set_option maxHeartbeats 60000000
namespace Go.Proofs.YtghjlpechjggjaaGreatDoor
open Go.RowKit
private def c1n := @Lib.hid
private def c1o := @List.getElem?_cons_zero
private def c1p := @IntWalk.i64_in
private def c1q := @List.mem_singleton
private def c1r := @List.getElem?_cons_succ
private def c1s := @Exit.noGoto_ret
private def c1t := @List.length_append
private def c1u := @Option.some.inj
private def c1v := @Int.toNat_natCast
private def c1w := @World.ownsRow_nil
private def c1x := @Nat.lt_of_lt_of_le
private def c1y := @List.getElem_mem
private def c1z := @Nat.pow_le_pow_right
open Go.RowKit
structure IR (w:World) (g gr:Nat) (A:Option Addr) (c:Nat) (bs:List Int) (p most:Nat) (out:List Int):Prop where
 rd:Rdr w gr A c bs p
 box:∃ v,Blk w g 178 [.pointer (some ⟨gr,0,none⟩),v,.int .i64 most]/\w.ownsRow (g+1) 5 1 v out.length (ints .u8 out)
 lt:gr<g
 data:∀ a,A=some a->a.block<g
 cap:out.length<=most
 mx:most<=16384
 u8:∀ v,w.cell? ⟨g,1,none⟩=some v->AllU8 w v
structure KT (g gr:Nat) (w w':World):Prop where
 os:w'.os=w.os
 tape:w'.tape=w.tape
 output:w'.output=w.output
 size:w.heap.size<=w'.heap.size
 same:∀ k,k<w.heap.size->k≠g->k≠gr->(k<g∨¬U8 w k)->w'.heap[k]? =w.heap[k]?
theorem KT.refl(g gr:Nat)(w:World):KT g gr w w:=⟨rfl,rfl,rfl,Nat.le_refl _,fun _ _ _ _ _=>rfl⟩
theorem KT.trans{g gr:Nat}{a b c:World}(h:KT g gr a b)(k:KT g gr b c):KT g gr a c:=
 ⟨k.os.trans h.os,k.tape.trans h.tape,k.output.trans h.output,Nat.le_trans h.size k.size,fun x hx h1 h2 h3=>by
  have e:=h.same x hx h1 h2 h3
  rw[k.same x (by have:=h.size;omega) h1 h2 (h3.imp id (fun hn ⟨cur,fr,hc⟩=>hn ⟨cur,fr,by rw[<-e];exact hc⟩)),e]⟩
theorem KT.of_keeps{g gr:Nat}{S:List Nat}{w w':World}(h:Keeps S w w')(hS:∀ x∈S,x=g∨x=gr):KT g gr w w':=
 ⟨h.os,h.tape,h.output,h.size,fun k hk h1 h2 _=>h.block k hk (fun hm=>by rcases hS k hm with h|h<;>omega)⟩
theorem KT.keeps{g gr:Nat}{w w1 w2:World}(hk:Keeps [] w w1)(h:KT g gr w1 w2)(hg:w.heap.size<=g)(hr:w.heap.size<=gr):Keeps [] w w2:=
 ⟨h.os.trans hk.os,h.tape.trans hk.tape,h.output.trans hk.output,Nat.le_trans hk.size h.size,fun k hk2 _=>
  (h.same k (by have:=hk.size;omega) (by omega) (by omega) (.inl (by omega))).trans (hk.block k hk2 (by simp))⟩
theorem KT.set{g gr:Nat}{w w':World}(h:KT g gr w w')(j:Nat)(v:Value):KT g gr w (w'.setCell ⟨g,j,none⟩ v):=
 h.trans (KT.of_keeps (S:=[g]) ((Keeps.refl [g] w').setCell (p:=⟨g,j,none⟩) (Or.inl (by simp)) v) (fun x hx=>.inl (c1q.1 hx)))
theorem KT.grown{g gr:Nat}{w w1 w2:World}{row:Option Nat}(h:KT g gr w w1)(hg:w1.grownBy w2 row)(hr:∀ k,row=some k->U8 w1 k/\g<k):KT g gr w w2:=
 h.trans ⟨hg.os,hg.tape,hg.output,hg.size,fun k hk _ _ h3=>hg.block k hk (fun e=>by
  obtain⟨a,b⟩:=hr k e.symm
  rcases h3 with h3|h3
  ·omega
  ·exact h3 a)⟩
theorem IR.glt{w:World}{g gr c p most:Nat}{A:Option Addr}{bs out:List Int}(h:IR w g gr A c bs p most out):g<w.heap.size:=by
 obtain⟨v,h1,_⟩:=h.box;exact h1.lt
theorem IR.u8v{w:World}{g gr c p most:Nat}{A:Option Addr}{bs out:List Int}(h:IR w g gr A c bs p most out){v x y:Value}(hb:Blk w g 178 [x,v,y]):AllU8 w v:=h.u8 v (by have:=hb.cell 1;simpa using this)
theorem a8G{w':World}{g:Nat}{v x y:Value}(hb:Blk w' g 178 [x,v,y])(hu:AllU8 w' v):∀ u,w'.cell? ⟨g,1,none⟩=some u->AllU8 w' u:=fun u hc=>by
 have h:=hb.cell 1
 simp only[c1o,c1r] at h
 rw[h] at hc
 injection hc with hc
 subst hc
 exact hu
theorem IR.keeps{w w':World}{g gr c p most:Nat}{A:Option Addr}{bs out:List Int}(h:IR w g gr A c bs p most out)(hk:Keeps [] w w'):IR w' g gr A c bs p most out:=by
 obtain⟨v,h1,h2⟩:=h.box
 exact⟨h.rd.dr hk,⟨v,h1.keeps hk (by simp),a0b h2 hk (by simp)⟩,h.lt,h.data,h.cap,h.mx,a8G (h1.keeps hk (by simp)) ((h.u8v h1).keeps hk (by simp))⟩
theorem IR.read{w w':World}{g gr c p q most:Nat}{A:Option Addr}{bs out:List Int}(h:IR w g gr A c bs p most out)(hr:Rdr w' gr A c bs q)(hk:Keeps [gr] w w'):IR w' g gr A c bs q most out:=by
 obtain⟨v,h1,h2⟩:=h.box
 have:=h.lt
 exact⟨hr,⟨v,h1.keeps hk (by simp;omega),a0b h2 hk (fun x hx hm=>by have:=a0m h2 x hx;rw[c1q.1 hm] at this;omega)⟩,h.lt,h.data,h.cap,h.mx,a8G (h1.keeps hk (by simp;omega)) ((h.u8v h1).keeps hk (fun x hx hm=>by have:=a0m h2 x hx;rw[c1q.1 hm] at this;omega))⟩
theorem a9r{w w':World}{row:Option Nat}(h:w.grownBy w' row):Keeps row.toList w w':=
 ⟨h.os,h.tape,h.output,h.size,fun k hk hm=>h.block k hk (fun e=>hm (Option.mem_toList.2 e.symm))⟩
theorem c0E{w w':World}{g gr base n size:Nat}{t:TypeId}{v:Value}{xs:List Value}(ht:t≠5)(hb:g<base)(hr:gr<base)(h:w.ownsRow base t size v n xs)(hp:KT g gr w w'):w'.ownsRow base t size v n xs:=by
 obtain⟨h1,h2⟩:=h
 refine⟨h1,?_⟩
 rcases h2 with h2|⟨b,cap,cur,hv,hb2,hh,r⟩
 ·exact Or.inl h2
 ·refine Or.inr ⟨b,cap,cur,hv,hb2,?_,r⟩
  rw[hp.same b (Array.getElem?_eq_some_iff.1 hh).1 (by omega) (by omega) (.inr fun ⟨c,f,hc⟩=>?_),hh]
  rw[hh] at hc
  injection hc with hc
  injection hc with _ h2 _
  exact ht h2
theorem c0q{w w':World}{g gr k:Nat}{t:TypeId}{cs:List Value}(ht:t≠5)(hk:k≠g)(hr:k≠gr)(h:Blk w k t cs)(hp:KT g gr w w'):Blk w' k t cs:=by
 refine (hp.same k h.lt hk hr (.inr fun ⟨c,f,hc⟩=>?_)).trans h
 have h2:w.heap[k]? =_:=h
 rw[h2] at hc
 injection hc with hc
 injection hc with _ h3 _
 exact ht h3
theorem b9n{w w':World}{g gr:Nat}(hp:KT g gr w w'){a:Addr}{v:Value}(h:w.cell? a=some v)(h1:a.block<g)(h2:a.block≠gr):w'.cell? a=some v:=by
 have hb:=World.block_lt_of_cell? _ _ h
 have e:=hp.same a.block hb (by omega) h2 (.inl h1)
 have k:Keeps [g,gr] ({ w with heap:=w.heap }:World) w:=Keeps.refl _ _
 unfold World.cell? at h ⊢
 rw[e];exact h
theorem ri_kt{w w':World}{g gr n:Nat}{k:IntKind}{A:Option Addr}{xs:List Int}(h:RI k w A n xs)(hp:KT g gr w w')(ho:∀ a,A=some a->a.block<g/\a.block≠gr):RI k w' A n xs:=
 ⟨h.len,h.hd,fun b o ha j hj=>b9n hp (h.cell b o ha j hj) (ho _ ha).1 (ho _ ha).2⟩
theorem b9V{w w':World}{g gr:Nat}(h:Tabs w)(hp:KT g gr w w')(h3:gtop<=gr)(hg:gr<g):Tabs w':=by
 have:=glt
 exact⟨ri_kt h.fro hp (by rintro a ⟨⟩;constructor<;>simp only[]<;>omega),ri_kt h.wid hp (by rintro a ⟨⟩;constructor<;>simp only[]<;>omega),ri_kt h.ord hp (by rintro a ⟨⟩;constructor<;>simp only[]<;>omega)⟩
theorem a2U(w:World)(e o:Int):Calls Tryz.prog 161 #[.int .i64 e,.int .i64 o] w fun r w'=>r=.returned (.int .i64 (endF e o))/\Dr w w':=by
 by_cases h0:e=0
 ·subst h0
  go_enter Tryz.func161,Tryz.ntmps161
  go_wp2_with fail
  go_ret
  exact⟨rfl,0,rfl⟩
 ·by_cases h1:e=10
  ·subst h1
   go_enter Tryz.func161,Tryz.ntmps161
   go_wp2_with fail
   go_ret
   exact⟨rfl,0,rfl⟩
  ·have HE:Hid (endF e o=o):=c1n (by unfold endF;rw[if_neg h0,if_neg h1])
   have e0:(e==0)=false:=by simpa using h0
   have e1:(e==10)=false:=by simpa using h1
   have e0':decide (e=0)=false:=by simpa using h0
   have e1':decide (e=10)=false:=by simpa using h1
   go_enter Tryz.func161,Tryz.ntmps161
   go_wp2_with fail
   go_ret
   rw[HE.out]
   exact⟨rfl,0,rfl⟩
def Took(w:World)(g gr:Nat)(A:Option Addr)(c:Nat)(bs:List Int)(p most:Nat)(out:List Int)(n:Nat)(e:Ending)(w':World):Prop:=
 (p+n<=8*bs.length/\e=.returned (.tuple #[.int .i64 (numB bs p n),.int .i64 0])/\IR w' g gr A c bs (p+n) most out/\KT g gr w w') ∨
 (8*bs.length<p+n/\e=.returned (.tuple #[.int .i64 0,.int .i64 55])/\IR w' g gr A c bs p most out/\KT g gr w w')
theorem a1E(w:World)(g gr:Nat)(A:Option Addr)(c:Nat)(bs:List Int)(p most:Nat)(out:List Int)(n:Nat)(h:IR w g gr A c bs p most out)(hn:n<=16) :
  Calls Tryz.prog 142 #[.pointer (some ⟨g,0,none⟩),.int .i64 n] w (Took w g gr A c bs p most out n):=by
 have H:=c1n h
 obtain⟨v,hblk,-⟩:=h.box
 have c0:=hblk.cell 0
 simp only[c1o] at c0
 have hgr:=h.lt
 clear hblk h
 go_enter Tryz.func142,Tryz.ntmps142
 by_cases hf:p+n<=8*bs.length
 ·obtain⟨n0,n1⟩:=a0Q bs p n
  have h16:(2:Int)^n<=65536:=b7T n hn
  go_wp2_with fail
  refine (a3w w gr A c bs p n H.out.rd (by omega) hf).mono ?_
  rintro _ w1 ⟨rfl,hr,hk⟩
  have H1:=c1n (H.out.read hr hk)
  have K1:Hid (KT g gr w w1):=c1n (KT.of_keeps hk (fun x hx=>.inr (c1q.1 hx)))
  clear hr hk H c0
  have s1:IntKind.i64.wrap (numB bs p n)=numB bs p n:=c1p _ (by omega)
  have HF:=c1n hf
  clear n1 h16
  generalize hx:numB bs p n=x at *
  have HX:=c1n hx
  clear hx
  go_wp2_with fail
  refine (a2U w1 0 0).mono ?_
  rintro _ w2 ⟨rfl,hd⟩
  have H2:=c1n (H1.out.keeps (hd.keeps (S:=[])))
  have K2:=c1n (K1.out.trans (KT.of_keeps (hd.keeps (S:=[])) (by simp)))
  clear hd H1 K1
  go_wp2_with fail
  go_ret2
  exact .inl ⟨HF.out,by rw[HX.out];rfl,H2.out,K2.out⟩
 ·have HF:Hid (8*bs.length<p+n):=c1n (by omega)
  go_wp2_with fail
  refine (a5C w gr A c bs p n H.out.rd (by omega) (by omega)).mono ?_
  rintro _ w1 ⟨rfl,hd⟩
  have H1:=c1n (H.out.keeps (hd.keeps (S:=[])))
  have K1:Hid (KT g gr w w1):=c1n (KT.of_keeps (hd.keeps (S:=[])) (by simp))
  clear hd H c0
  go_wp2_with fail
  refine (a2U w1 10 10).mono ?_
  rintro _ w2 ⟨rfl,hd⟩
  have H2:=c1n (H1.out.keeps (hd.keeps (S:=[])))
  have K2:=c1n (K1.out.trans (KT.of_keeps (hd.keeps (S:=[])) (by simp)))
  clear hd H1 K1
  go_wp2_with fail
  go_ret2
  exact .inr ⟨HF.out,rfl,H2.out,K2.out⟩
theorem b0C(w:World)(gr:Nat)(A:Option Addr)(c:Nat)(bs:List Int)(p:Nat)(hr:Rdr w gr A c bs p) :
  Calls Tryz.prog 162 #[.pointer (some ⟨gr,0,none⟩)] w fun e w'=>e=.returned (.int .i64 0)/\Rdr w' gr A c bs (a1T p)/\Keeps [gr] w w':=by
 have hb:=hr.blk
 have h1:=hb.cell 1
 have f1:=hb.frozen 1
 simp only[c1r,c1o] at h1
 have hle:=hr.le
 have hsz:=hr.size
 have HR:=c1n hr
 clear hb hr
 have s1:IntKind.i64.wrap ((p:Int)+7)=(p:Int)+7:=c1p _ (by omega)
 have s2:((p:Int)+7).tdiv 8=(((p+7)/8:Nat):Int):=by rw[Int.tdiv_eq_ediv_of_nonneg (by omega)];omega
 have s3:IntKind.i64.wrap ((((p+7)/8:Nat):Int)*8)=(((p+7)/8*8:Nat):Int):=by
  rw[c1p _ (by omega)];omega
 go_enter Tryz.func162,Tryz.ntmps162
 go_wp2_with fail
 have HA:Hid (a1T p<=8*bs.length):=c1n (by unfold a1T;omega)
 have HE:Hid (((p:Int)+7)/8*8=((a1T p:Nat):Int)):=c1n (by unfold a1T;omega)
 go_ret
 rw[HE.out]
 exact⟨rfl,HR.out.move HA.out,(Keeps.refl [gr] w).setCell (p:=⟨gr,1,none⟩) (Or.inl (by simp)) _⟩
theorem a6e(w:World)(g gr:Nat)(A:Option Addr)(c:Nat)(bs:List Int)(p most:Nat)(out:List Int)(x:Int)(h:IR w g gr A c bs p most out) :
  Calls Tryz.prog 163 #[.pointer (some ⟨g,0,none⟩),.int .u8 x] w fun e w'=>
   (most<=out.length/\e=.returned (.int .i64 56)/\IR w' g gr A c bs p most out/\KT g gr w w')∨(out.length<most/\e=.returned (.int .i64 0)/\IR w' g gr A c bs p most (out++[x])/\KT g gr w w'):=by
 have H:=c1n h
 obtain⟨v,hblk,hown⟩:=h.box
 obtain⟨vA,vc,rfl⟩:=a0g hown
 have c1:=hblk.cell 1
 have c2:=hblk.cell 2
 simp only[c1o,c1r] at c1 c2
 have f1:=hblk.frozen 1
 have hlt:=hblk.lt
 have hcap:=h.cap
 have hmx:=h.mx
 have HU:=c1n (h.u8v hblk)
 have HB:=c1n hblk
 have HO:=c1n hown
 clear hblk hown h
 go_enter Tryz.func163,Tryz.ntmps163
 obtain⟨L,hL⟩:∃ L,L=out.length:=⟨_,rfl⟩
 have HL:=c1n hL
 rw[<-hL] at HO c1 HB HU hcap ⊢
 clear hL
 by_cases hm:most<=L
 ·have e1:decide (most<=L)=true:=by simpa using hm
  have e1':decide ((most:Int)<=(L:Int))=true:=by simp;omega
  go_upto_region 1 with (fail)
  go_quiet (fail)
  go_wp2_with fail
  go_ret
  exact .inl ⟨hm,rfl,H.out.keeps ((Keeps.refl [] w).drewN nq),KT.of_keeps ((Keeps.refl [] w).drewN nq) (by simp)⟩
 ·have e1:decide (most<=L)=false:=by simpa using hm
  have e1':decide ((most:Int)<=(L:Int))=false:=by simp;omega
  go_upto_region 1 with (fail)
  go_quiet (fail)
  have hkq:Keeps [] w (w.drewN nq):=(Keeps.refl [] w).drewN nq
  obtain⟨wq,hwq⟩:∃ z,z=w.drewN nq:=⟨_,rfl⟩
  rw[<-hwq] at hkq ⊢
  clear hwq
  have ka:Keeps [] wq (wq.alloc (.cells #[.int .u8 x] 5)):=(Keeps.refl [] wq).alloc _
  have HOA:=c1n (a0b HO.out (hkq.trans ka) (by simp))
  have HBA:=c1n (HB.out.keeps (hkq.trans ka) (by simp))
  have HQ:=c1n (H.out.keeps (hkq.trans ka))
  have HUA:=c1n (HU.out.keeps (hkq.trans ka) (by simp))
  have HKA:Hid (KT g gr w (wq.alloc (.cells #[.int .u8 x] 5))):=c1n (KT.of_keeps (hkq.trans ka) (by simp))
  have HRI:Hid (RI .u8 (wq.alloc (.cells #[.int .u8 x] 5)) (some ⟨wq.heap.size,0,none⟩) 1 [x]):=c1n (Blk.ri (xs:=[x]) (ys:=[]) (k:=.u8) (by simpa [ints] using a0d wq 5 (ints .u8 [x])))
  have c1':=hkq.cell (by simp) c1
  have hltq:g<wq.heap.size:=c1x hlt hkq.size
  clear c1 c2 f1 hkq ka HO HB H HU e1
  go_wp2_with (at_builtin;refine a7g rfl (.tmp 19) (.tmp 21) rfl (g+1) _ _ out rfl (by exact HOA.out) _ 1 1 [x] rfl (by exact HRI.out) (by simp) (by omega) ?c4 ?_)
  case c4=>simp;omega
  intro v1 w1 ho1 hg1 _ hu1
  have HU1:=c1n (hu1 HUA.out)
  clear hu1
  have hg0:∀ k,(Value.slice vA L vc).ownBlock=some k->g+1<=k:=fun k hk=>(HOA.out.lt k hk).1
  have hblk1:Blk w1 g 178 [.pointer (some ⟨gr,0,none⟩),.slice vA L vc,.int .i64 most]:=(hg1.block g (Nat.lt_trans hltq (by simp)) (fun e=>by have:=hg0 g e.symm;omega)).trans HBA.out
  have kg:=a9r hg1
  have HR1:=c1n (HQ.out.rd.keeps kg (fun hm=>by have:=hg0 gr (Option.mem_toList.1 hm);have:=HQ.out.lt;omega) (fun a ha hm=>by have:=hg0 a.block (Option.mem_toList.1 hm);have:=HQ.out.data a ha;omega))
  have K1:=c1n (HKA.out.grown hg1 (fun k hk=>⟨b2I HOA.out k hk,hg0 k hk⟩))
  have HO1:=c1n ho1
  have HB1:=c1n hblk1
  obtain⟨vB,vd,rfl⟩:∃ A c,v1=.slice A (L+1) c:=a0g ho1
  have c1:=hblk1.cell 1
  simp only[c1o,c1r] at c1
  have f1:=hblk1.frozen 1
  clear HOA HBA HKA HRI c1' kg hg1 ho1 hblk1 hg0
  go_wp2_with fail
  go_ret
  have hs:=(HB1.out.set 1 (.slice vB (L+1) vd))
  simp only[List.set_cons_succ,List.set_cons_zero] at hs
  have ks:Keeps [g] w1 (w1.setCell ⟨g,1,none⟩ (.slice vB (L+1) vd)):=(Keeps.refl [g] w1).setCell (p:=⟨g,1,none⟩) (Or.inl (by simp)) _
  have hgr:=HQ.out.lt
  refine .inr ⟨by omega,rfl,⟨HR1.out.keeps ks (by simp;omega) (fun a ha hm=>by have:=HQ.out.data a ha;rw[c1q.1 hm] at this;omega),⟨_,hs,?_⟩,hgr,HQ.out.data,?_,hmx,a8G hs (HU1.out.keeps ks (fun x hx hm=>by have:=a0m HO1.out x hx;rw[c1q.1 hm] at this;omega))⟩,K1.out.set 1 _⟩
  ·rw[c1t,List.length_singleton,<-HL.out]
   exact ownsRow_setCell_below HO1.out (a:=⟨g,1,none⟩) (Nat.lt_succ_self g) _
  ·rw[c1t,List.length_singleton,<-HL.out];omega
end Go.Proofs.YtghjlpechjggjaaGreatDoor
namespace Go.Proofs.YtghjlpechjggjaaGreatDoor
open Go.RowKit
def Part(w:World)(g gr:Nat)(A:Option Addr)(c:Nat)(bs:List Int)(most:Nat)(r:IRes)(e:Ending)(w':World):Prop:=
 ∃ q,e=.returned (.int .i64 r.2.2)/\IR w' g gr A c bs q most r.1/\KT g gr w w'/\(r.2.2=0->q=r.2.1)
theorem a8t{w w':World}{g gr c most q:Nat}{A:Option Addr}{bs out:List Int}{r:IRes}(hr:r=(out,q,0))(h:IR w' g gr A c bs q most out)(k:KT g gr w w'):Part w g gr A c bs most r (.returned (.int .i64 0)) w':=by
 subst hr;exact⟨q,rfl,h,k,fun _=>rfl⟩
theorem a0J{w w':World}{g gr c most q:Nat}{A:Option Addr}{bs out:List Int}{r:IRes}{e:Int}(hr:r=(out,0,e))(he:e≠0)(h:IR w' g gr A c bs q most out)(k:KT g gr w w'):Part w g gr A c bs most r (.returned (.int .i64 e)) w':=by
 subst hr;exact⟨q,rfl,h,k,fun h=>absurd h he⟩
theorem c0T(m:Int)(h0:0<=m)(h1:m<65536):Go.bits .xor .i64 m 65535=65535-m:=by
 obtain⟨k,rfl⟩:=Int.eq_ofNat_of_zero_le h0
 have hk:k<65536:=by omega
 have hx:k ^^^ 65535<2^62:=c1x (Nat.xor_lt_two_pow (show k<2^16 by omega) (by decide:65535<2^16)) (by decide)
 have e:k ^^^ 65535=65535-k:=by
  apply Nat.eq_of_testBit_eq
  intro i
  have h2:=Nat.testBit_two_pow_sub_succ (show k<2^16 by omega) i
  rw[show 2^16-(k+1)=65535-k by omega] at h2
  rw[Nat.testBit_xor,h2,show (65535:Nat)=2^16-1 from rfl,Nat.testBit_two_pow_sub_one]
  by_cases hi:i<16
  ·simp[hi]
  ·have:k.testBit i=false:=Nat.testBit_lt_two_pow (c1x (show k<2^16 by omega) (c1z (by decide) (by omega)))
   simp[hi,this]
 have e2:Go.bits .xor .i64 (k:Int) ((65535:Nat):Int)=((k ^^^ 65535:Nat):Int):=by
  simp only[Go.bits,BitVec.ofInt_natCast,BitVec.toNat_xor,BitVec.toNat_ofNat,show k%2^IntKind.i64.bits=k from Nat.mod_eq_of_lt (c1x (show k<2^16 by omega) (by decide)),show 65535%2^IntKind.i64.bits=65535 from rfl]
  exact c1p _ (by rw[e];omega)
 rw[show (65535:Int)=((65535:Nat):Int) from rfl]
 refine Eq.trans e2 ?_
 rw[e]
 omega
theorem a9Z(w:World)(g gr:Nat)(A:Option Addr)(c:Nat)(bs:List Int)(p most:Nat)(out:List Int)(h:IR w g gr A c bs p most out) :
  Calls Tryz.prog 143 #[.pointer (some ⟨g,0,none⟩)] w (Part w g gr A c bs most (a0G bs most out p)):=by
 have H:=c1n h
 obtain⟨v,hblk,-⟩:=h.box
 have c0:=hblk.cell 0
 simp only[c1o] at c0
 clear hblk h
 go_enter Tryz.func143,Tryz.ntmps143
 go_wp2_with fail
 refine (b0C w gr A c bs p H.out.rd).mono ?_
 rintro _ w1 ⟨rfl,hr,hk⟩
 have H1:=c1n (H.out.read hr hk)
 have K1:Hid (KT g gr w w1):=c1n (KT.of_keeps hk (fun x hx=>.inr (c1q.1 hx)))
 clear hr hk H c0
 obtain⟨a,ha⟩:∃ a,a=a1T p:=⟨_,rfl⟩
 have HA:=c1n ha
 rw[<-ha] at H1
 clear ha
 go_wp2_with fail
 refine (a1E w1 g gr A c bs a most out 16 H1.out (by omega)).mono ?_
 rintro _ w2 (⟨hf,rfl,h2,k2⟩|⟨hf,rfl,h2,k2⟩)
 rotate_left
 ·have HR:Hid (a0G bs most out p=(out,0,55)):=c1n (by unfold a0G;rw[<-HA.out,if_pos hf])
  have H2:=c1n h2
  have K2:=c1n (K1.out.trans k2)
  clear h2 k2 H1 K1
  go_wp2_with fail
  go_ret
  exact a0J HR.out (by decide) H2.out K2.out
 have H2:=c1n h2
 have K2:=c1n (K1.out.trans k2)
 clear h2 k2 H1 K1
 obtain⟨n0,n1⟩:=a0Q bs a 16
 rw[show (2:Int)^16=65536 from rfl] at n1
 obtain⟨N,hN⟩:∃ N:Nat,numB bs a 16=N:=⟨(numB bs a 16).toNat,by omega⟩
 have HN:=c1n hN
 rw[hN] at n1 ⊢
 clear hN n0
 go_wp2_with fail
 refine (a1E w2 g gr A c bs (a+16) most out 16 H2.out (by omega)).mono ?_
 rintro _ w3 (⟨hf3,rfl,h3,k3⟩|⟨hf3,rfl,h3,k3⟩)
 rotate_left
 ·have HR:Hid (a0G bs most out p=(out,0,55)):=c1n (by unfold a0G;rw[<-HA.out,if_neg (by omega),if_pos (by omega)])
  have H3:=c1n h3
  have K3:=c1n (K2.out.trans k3)
  clear h3 k3 H2 K2
  go_wp2_with fail
  go_ret
  exact a0J HR.out (by decide) H3.out K3.out
 have H3:=c1n h3
 have K3:=c1n (K2.out.trans k3)
 clear h3 k3 H2 K2
 obtain⟨m0,m1⟩:=a0Q bs (a+16) 16
 rw[show (2:Int)^16=65536 from rfl] at m1
 obtain⟨M,hM⟩:∃ M:Nat,numB bs (a+16) 16=M:=⟨(numB bs (a+16) 16).toNat,by omega⟩
 have HM:=c1n hM
 rw[hM] at m0 m1 ⊢
 clear hM
 have X:=c0T M m0 m1
 by_cases hs:(N:Int)=65535-(M:Int)
 ·have e1:((N:Int) !=65535-(M:Int))=false:=by simpa using hs
  have HR:Hid (a0G bs most out p=storF bs most N out (a+32)):=c1n (by
   unfold a0G
   rw[<-HA.out,if_neg (by omega),if_neg (by omega),HN.out,HM.out,if_neg (by omega),c1v])
  clear hs m0 m1
  go_wp2_with fail
  clear X e1
  go_loopw [35] (fun iv wr=>∃ (i q:Nat) (o:List Int),i<=N/\iv=.int .i64 i/\Hid (storF bs most N out (a+32)=storF bs most (N-i) o q)/\Hid (IR wr g gr A c bs q most o)/\Hid (KT g gr w wr)) (fun iv _=>N-(intOf iv).toNat)
  case atStart=>exact⟨0,a+32,out,by omega,rfl,c1n rfl,by rw[show a+32=a+16+16 by omega];exact H3,K3⟩
  case round=>
   clear H3 K3
   obtain⟨i,q,o,hi,rfl,HS,H,K⟩:=hrel
   by_cases hlt:i<N
   ·have e0:decide (i<N)=true:=by simpa using hlt
    have HS':Hid (storF bs most (N-i) o q=if 8*bs.length<q+8 then (o,0,55) else if most<=o.length then (o,0,56) else storF bs most (N-(i+1)) (o++[numB bs q 8]) (q+8)):=c1n (by rw[show N-i=(N-(i+1))+1 by omega,storF])
    go_wp2_with fail
    refine (a1E wr g gr A c bs q most o 8 H.out (by omega)).mono ?_
    rintro _ w4 (⟨hf4,rfl,h4,k4⟩|⟨hf4,rfl,h4,k4⟩)
    ·have H4:=c1n h4
     have K4:=c1n (K.out.trans k4)
     have HF:=c1n hf4
     clear h4 k4 H K hf4
     obtain⟨b0,b1⟩:=a0Q bs q 8
     rw[show (2:Int)^8=256 from rfl] at b1
     obtain⟨x,hx⟩:∃ x,x=numB bs q 8:=⟨_,rfl⟩
     rw[<-hx] at b0 b1 HS' ⊢
     have HX:=c1n hx
     clear hx
     have s1:IntKind.u8.wrap x=x:=by rw[IntKind.wrap_u8];omega
     go_wp2_with fail
     refine (a6e w4 g gr A c bs (q+8) most o x H4.out).mono ?_
     rintro _ w5 (⟨hm,rfl,h5,k5⟩|⟨hm,rfl,h5,k5⟩)
     ·have H5:=c1n h5
      have K5:=c1n (K4.out.trans k5)
      have HE:Hid (a0G bs most out p=(o,0,56)):=c1n (by rw[HR.out,HS.out,HS'.out,if_neg (by have:=HF.out;omega),if_pos hm])
      clear h5 k5 H4 K4 HS HS' HR
      go_wp2_with fail
      go_ret
      exact a0J HE.out (by decide) H5.out K5.out
     ·have H5:=c1n h5
      have K5:=c1n (K4.out.trans k5)
      have HS2:Hid (storF bs most N out (a+32)=storF bs most (N-(i+1)) (o++[x]) (q+8)):=c1n (by rw[HS.out,HS'.out,if_neg (by have:=HF.out;omega),if_neg (by omega)])
      clear h5 k5 H4 K4 HS HS'
      go_wp2_with fail
      go_roundw
      case rel=>exact⟨i+1,q+8,o++[x],by omega,by go_num,HS2,H5,K5⟩
      case measure=>simp[intOf];omega
    ·have H4:=c1n h4
     have K4:=c1n (K.out.trans k4)
     have HE:Hid (a0G bs most out p=(o,0,55)):=c1n (by rw[HR.out,HS.out,HS'.out,if_pos hf4])
     clear h4 k4 H K hf4 HS HS' HR
     go_wp2_with fail
     go_ret
     exact a0J HE.out (by decide) H4.out K4.out
   ·obtain rfl:i=N:=by omega
    have e0:decide (i<i)=false:=by simp
    have HE:Hid (a0G bs most out p=(o,q,0)):=c1n (by rw[HR.out,HS.out,Nat.sub_self,storF])
    clear HS HR
    go_wp2_with fail
    go_ret
    exact a8t HE.out H.out K.out
 ·have e1:((N:Int) !=65535-(M:Int))=true:=by simpa using hs
  have HR:Hid (a0G bs most out p=(out,0,51)):=c1n (by
   unfold a0G
   rw[<-HA.out,if_neg (by omega),if_neg (by omega),HN.out,HM.out,if_pos (by omega)])
  clear hs m0 m1
  go_wp2_with fail
  go_ret
  exact a0J HR.out (by decide) H3.out K3.out
end Go.Proofs.YtghjlpechjggjaaGreatDoor
namespace Go.Proofs.YtghjlpechjggjaaGreatDoor
open Go.RowKit
theorem b9i(l:List Int):a0X l=true↔∃ j,j<l.length/\0<nth l j:=by
 unfold a0X
 rw[List.any_eq_true]
 constructor
 ·rintro ⟨x,hx,h⟩
  obtain⟨j,hj,rfl⟩:=List.getElem_of_mem hx
  exact⟨j,hj,by rw[a0q hj];simpa using h⟩
 ·rintro ⟨j,hj,h⟩
  exact⟨l[j],c1y _,by rw[a0q hj] at h;simpa using h⟩
def MaxP(w:World)(l:List Int)(e:Ending)(w':World):Prop:=∃ m:Int,e=.returned (.int .i64 m)/\decide (0<m)=a0X l/\Dr w w'
theorem b7F{w w':World}{l:List Int}{m:Int}(h:0<m↔∃ j,j<l.length/\0<nth l j)(hd:Dr w w'):MaxP w l (.returned (.int .i64 m)) w':=by
 refine⟨m,rfl,?_,hd⟩
 rw[Bool.eq_iff_iff,b9i,decide_eq_true_iff]
 exact h
theorem b5x(w:World)(A:Option Addr)(n c:Nat)(l:List Int)(hl:RI .i64 w A n l)(h1:1<=n)(hn:n<=140737488355328) :
  Calls Tryz.prog 177 #[.slice A n c] w (MaxP w l):=by
 have HL:=c1n hl
 have HLL:=c1n hl.len
 obtain⟨b,o,rfl,hc0⟩:=hl.at (show 0<n by omega)
 rw[Nat.add_zero] at hc0
 clear hl
 have e0:decide (n<1)=false:=by simp;omega
 have e0':decide ((n:Int)<1)=false:=by simp;omega
 go_enter Tryz.func177,Tryz.ntmps177
 go_wp2_with fail
 clear hc0 e0 e0'
 go_loopw [3,4] (fun mv iv wr=>∃ (m:Int) (k:Nat),1<=k/\k<=n/\iv=.int .i64 k/\mv=.int .i64 m/\Hid (0<m↔∃ j,j<k/\0<nth l j)/\Hid (Dr w wr)) (fun _ iv _=>n-(intOf iv).toNat)
 case atStart=>exact⟨nth l 0,1,by omega,by omega,rfl,rfl,c1n ⟨fun h=>⟨0,by omega,h⟩,fun ⟨j,hj,h⟩=>by rwa [show j=0 by omega] at h⟩,c1n (Dr.refl w)⟩
 case round=>
  obtain⟨m,k,hk1,hk,rfl,rfl,HM,HD⟩:=hrel
  by_cases hlt:k<n
  ·have e1:decide (k<n)=true:=by simpa using hlt
   have hc:=(HL.out.keeps (HD.out.keeps (S:=[])) (a0a _)).cell b o rfl k hlt
   obtain⟨x,hx⟩:∃ x,x=nth l k:=⟨_,rfl⟩
   have HX:=c1n hx
   rw[<-hx] at hc
   clear hx
   go_wp2_with fail
   go_roundw
   case rel=>
    refine⟨_,k+1,by omega,by omega,by go_num,rfl,c1n ?_,HD⟩
    constructor
    ·intro h
     by_cases hm:0<m
     ·obtain⟨j,hj,h2⟩:=HM.out.1 hm
      exact⟨j,by omega,h2⟩
     ·exact⟨k,by omega,by rw[<-HX.out];first|omega|(split at h<;>omega)⟩
    ·rintro ⟨j,hj,h2⟩
     by_cases hjk:j=k
     ·subst hjk;rw[<-HX.out] at h2;first|omega|(split<;>omega)
     ·have:=HM.out.2 ⟨j,by omega,h2⟩;first|omega|(split<;>omega)
   case measure=>simp[intOf];omega
  ·obtain rfl:k=n:=by omega
   have e1:decide (k<k)=false:=by simp
   go_wp2_with fail
   go_ret
   exact b7F (by rw[HLL.out];exact HM.out) HD.out
theorem a6c(w:World)(A:Option Addr)(n c:Nat)(l:List Int)(hl:RI .i64 w A n l)(h1:1<=n)(hn:n<=140737488355328) :
  Calls Tryz.prog 165 #[.slice A n c] w fun e w'=>e=.returned (.bool (a0X l))/\Dr w w':=by
 have HL:=c1n hl
 clear hl
 go_enter Tryz.func165,Tryz.ntmps165
 go_wp2_with fail
 refine (b5x w A n c l HL.out h1 hn).mono ?_
 rintro _ w1 ⟨m,rfl,hm,hd⟩
 have HD:=c1n hd
 clear hd
 have HM:=c1n hm
 clear hm
 go_wp2_with fail
 go_ret
 rw[HM.out]
 exact⟨rfl,HD.out⟩
def fixGo(k:Nat):Int:=if k<144∨279<k then 8 else if k<256 then 9 else 7
def fixL(n:Nat):List Int:=(List.range n).map fixGo
theorem b4X(n:Nat):fixL (n+1)=fixL n++[fixGo n]:=by unfold fixL;rw[List.range_succ];simp
theorem b7c:fixL 288=fixLit:=by decide +kernel
theorem a8d:a0f fixLit=0/\a0f fixDist=0/\a0X fixDist=true/\fixLit.length=288/\fixDist.length=32:=by decide +kernel
theorem b0S(w:World):Calls Tryz.prog 145 #[] w fun e w'=>∃ v1 g2,e=.returned (.tuple #[v1,.slice (some ⟨g2,0,none⟩) 32 32])/\w'.ownsRow w.heap.size 3 1 v1 288 (ints .i64 fixLit)/\Blk w' g2 3 (ints .i64 fixDist)/\w.heap.size<=g2/\Below w.heap.size w w':=by
 go_enter Tryz.func145,Tryz.ntmps145
 go_wp2_with fail
 go_loopw [0,3] (fun u i wr=>∃ k:Nat,k<=288/\i=.int .i64 k/\Hid (wr.ownsRow w.heap.size 3 1 u k (ints .i64 (fixL k)))/\Hid (Below w.heap.size w wr)) (fun _ i _=>288-(intOf i).toNat)
 case atStart=>exact⟨0,by omega,rfl,c1n (c1w _ _ _ _),Below.refl _ _⟩
 case round=>
  obtain⟨k,hk,rfl,HO,HW⟩:=hrel
  have hsz:=HW.out.size
  by_cases hlt:k<288
  ·have e0:decide ((k:Int)<288)=true:=by simp;omega
   have fin:∀ x,fixGo k=x->∀ (v1:Value) (w1:World),w1.ownsRow w.heap.size 3 1 v1 (k+1) (ints .i64 (fixL k++[x]))->w1.ownsRow w.heap.size 3 1 v1 (k+1) (ints .i64 (fixL (k+1))):=fun x hx v1 w1 h=>by rw[b4X,hx];exact h
   have HF:=c1n fin
   clear fin
   have HRI:∀ x,Hid (RI .i64 (wr.alloc (.cells #[.int .i64 x] 3)) (some ⟨wr.heap.size,0,none⟩) 1 [x]):=fun x=>c1n (b5U _ _ _ _)
   have HR8:=HRI 8
   have HR9:=HRI 9
   have HR7:=HRI 7
   clear HRI
   by_cases h144:k<144
   ·have e1:decide ((k:Int)<144)=true:=by simp;omega
    go_wp2_with (at_builtin;refine a0Z rfl (.tmp 16) (.tmp 17) rfl w.heap.size _ k (fixL k) rfl (HO.out.alloc _) (some ⟨wr.heap.size,0,none⟩) 1 1 [8] rfl (by exact HR8.out) ?c1 ?c2 (by omega) ?c3 ?_)
    case c1=>simp
    case c2=>intro ad h;exact⟨_,_,(c1u h).symm⟩
    case c3=>simp;omega
    intro v' w1 h1 hg
    have HO1:=c1n (HF.out 8 (by unfold fixGo;rw[if_pos (by omega)]) _ _ h1)
    have HB1:=c1n ((HW.out.alloc (by omega) _).grown hg (by simp;omega) (fun k hk=>(HO.out.lt k hk).1))
    clear HO HW h1 hg HF
    go_wp2_with fail
    go_roundw
    case rel=>exact⟨k+1,by omega,by go_num,HO1,HB1⟩
    case measure=>simp[intOf];omega
   ·have e1:decide ((k:Int)<144)=false:=by simp;omega
    by_cases h279:279<k
    ·have e2:decide (279<(k:Int))=true:=by simp;omega
     go_wp2_with (at_builtin;refine a0Z rfl (.tmp 16) (.tmp 17) rfl w.heap.size _ k (fixL k) rfl (HO.out.alloc _) (some ⟨wr.heap.size,0,none⟩) 1 1 [8] rfl (by exact HR8.out) ?d1 ?d2 (by omega) ?d3 ?_)
     case d1=>simp
     case d2=>intro ad h;exact⟨_,_,(c1u h).symm⟩
     case d3=>simp;omega
     intro v' w1 h1 hg
     have HO1:=c1n (HF.out 8 (by unfold fixGo;rw[if_pos (by omega)]) _ _ h1)
     have HB1:=c1n ((HW.out.alloc (by omega) _).grown hg (by simp;omega) (fun k hk=>(HO.out.lt k hk).1))
     clear HO HW h1 hg HF
     go_wp2_with fail
     go_roundw
     case rel=>exact⟨k+1,by omega,by go_num,HO1,HB1⟩
     case measure=>simp[intOf];omega
    ·have e2:decide (279<(k:Int))=false:=by simp;omega
     by_cases h256:k<256
     ·have e3:decide ((k:Int)<256)=true:=by simp;omega
      go_wp2_with (at_builtin;refine a0Z rfl (.tmp 22) (.tmp 23) rfl w.heap.size _ k (fixL k) rfl (HO.out.alloc _) (some ⟨wr.heap.size,0,none⟩) 1 1 [9] rfl (by exact HR9.out) ?f1 ?f2 (by omega) ?f3 ?_)
      case f1=>simp
      case f2=>intro ad h;exact⟨_,_,(c1u h).symm⟩
      case f3=>simp;omega
      intro v' w1 h1 hg
      have HO1:=c1n (HF.out 9 (by unfold fixGo;rw[if_neg (by omega),if_pos (by omega)]) _ _ h1)
      have HB1:=c1n ((HW.out.alloc (by omega) _).grown hg (by simp;omega) (fun k hk=>(HO.out.lt k hk).1))
      clear HO HW h1 hg HF
      go_wp2_with fail
      go_roundw
      case rel=>exact⟨k+1,by omega,by go_num,HO1,HB1⟩
      case measure=>simp[intOf];omega
     ·have e3:decide ((k:Int)<256)=false:=by simp;omega
      go_wp2_with (at_builtin;refine a0Z rfl (.tmp 6) (.tmp 7) rfl w.heap.size _ k (fixL k) rfl (HO.out.alloc _) (some ⟨wr.heap.size,0,none⟩) 1 1 [7] rfl (by exact HR7.out) ?g1 ?g2 (by omega) ?g3 ?_)
      case g1=>simp
      case g2=>intro ad h;exact⟨_,_,(c1u h).symm⟩
      case g3=>simp;omega
      intro v' w1 h1 hg
      have HO1:=c1n (HF.out 7 (by unfold fixGo;rw[if_neg (by omega),if_neg (by omega)]) _ _ h1)
      have HB1:=c1n ((HW.out.alloc (by omega) _).grown hg (by simp;omega) (fun k hk=>(HO.out.lt k hk).1))
      clear HO HW h1 hg HF
      go_wp2_with fail
      go_roundw
      case rel=>exact⟨k+1,by omega,by go_num,HO1,HB1⟩
      case measure=>simp[intOf];omega
  ·obtain rfl:k=288:=by omega
   have e0:decide (((288:Nat):Int)<288)=false:=by decide
   have HO1:Hid (wr.ownsRow w.heap.size 3 1 _ 288 (ints .i64 fixLit)):=c1n (by have:=HO.out;rwa [b7c] at this)
   clear HO
   go_wp2_with fail
   refine (a0V _ wr.heap.size 1 32 32 5 rfl (by simp) (by omega) (by omega)).mono ?_
   rintro _ w2 ⟨g2,rfl,hb2,hg2,hB2⟩
   have HB2:=c1n hb2
   have hz:wr.heap.size<g2:=by simp at hg2;omega
   have HW2:=c1n ((HW.out.alloc hsz (.cells #[.int .i64 5] 3)).trans (hB2.mono (by simp;omega)))
   have hO2:=a0b HO1.out ((Keeps.refl [] wr).alloc (.cells #[.int .i64 5] 3)) (by simp)
   have HO2:=c1n (a0b hO2 (Keeps.of_below hB2 (S:=[])) (by simp))
   clear hb2 hg2 hB2 hO2 HO1 HW
   go_wp2_with fail
   go_ret2
   exact⟨_,_,rfl,HO2.out,HB2.out,by omega,HW2.out⟩
end Go.Proofs.YtghjlpechjggjaaGreatDoor
namespace Go.Proofs.YtghjlpechjggjaaGreatDoor
open Go.RowKit
def c0g(w:World)(g gr:Nat)(A:Option Addr)(c:Nat)(bs:List Int)(most:Nat)(out:List Int)(p:Nat)(h:List Int×List Int×Nat×Int)(e:Ending)(w':World):Prop:=
 (a0N h≠0/\∃ q,e=.returned (.tuple #[.slice none 0 0,.slice none 0 0,.int .i64 (a0N h)])/\IR w' g gr A c bs q most out/\KT g gr w w') ∨
 (a0N h=0/\∃ v1 v2,e=.returned (.tuple #[v1,v2,.int .i64 0])/\w'.ownsRow w.heap.size 3 1 v1 h.1.length (ints .i64 h.1)/\w'.ownsRow w.heap.size 3 1 v2 h.2.1.length (ints .i64 h.2.1) /\
  IR w' g gr A c bs (p+h.2.2.1) most out/\KT g gr w w')
theorem a3W{w w':World}{g gr c most p q:Nat}{A:Option Addr}{bs out:List Int}{h:List Int×List Int×Nat×Int}{e:Int}(hh:a0N h=e)(he:e≠0)(hi:IR w' g gr A c bs q most out)(k:KT g gr w w') :
  c0g w g gr A c bs most out p h (.returned (.tuple #[.slice none 0 0,.slice none 0 0,.int .i64 e])) w':=by
 subst hh;exact .inl ⟨he,q,rfl,hi,k⟩
theorem b3v(w:World)(g gr:Nat)(A:Option Addr)(c:Nat)(bs:List Int)(p most:Nat)(out:List Int)(hT:Tabs w)(hg:gtop<=gr)(h:IR w g gr A c bs p most out) :
  Calls Tryz.prog 146 #[.pointer (some ⟨g,0,none⟩)] w (c0g w g gr A c bs most out p (headF bs p)):=by
 have H:=c1n h
 have HT:=c1n hT
 obtain⟨v,hblk,-⟩:=h.box
 have hglt:=h.glt
 have HA:Hid (∀ a,A=some a->a.block<w.heap.size):=c1n (fun a ha=>Nat.lt_trans (h.data a ha) hglt)
 have c0:=hblk.cell 0
 simp only[c1o] at c0
 have HGR:=c1n (show gr<w.heap.size from Nat.lt_trans h.lt hglt)
 clear hblk h hT
 have hcR:=a7c w gr A c bs p HT.out hg H.out.rd HA.out
 have hfull:=@a9s bs p
 obtain⟨hd,hhd⟩:∃ h,h=headF bs p:=⟨_,rfl⟩
 rw[<-hhd] at hcR hfull ⊢
 clear hhd
 obtain⟨L1,L2,nn,er⟩:=hd
 simp only[] at hcR hfull
 have HF:=c1n hfull
 clear hfull
 go_enter Tryz.func146,Tryz.ntmps146
 go_wp2_with fail
 refine hcR.mono ?_
 rintro _ w1 ⟨v1,v2,rfl,ho1,ho2,hr1,hk1⟩
 have H1:=c1n (H.out.read hr1 hk1)
 have K1:Hid (KT g gr w w1):=c1n (KT.of_keeps hk1 (fun x hx=>.inr (c1q.1 hx)))
 have HO1:=c1n ho1
 have HO2:=c1n ho2
 clear ho1 ho2 hr1 hk1 H c0 hcR HT HA
 by_cases her:er=0
 ·subst her
  obtain⟨hl1,hl2⟩:=HF.out rfl
  have b1:257<=L1.length:=by rw[hl1];unfold litF;omega
  have b2:L1.length<=288:=by rw[hl1];exact b5q _ _
  have b3:1<=L2.length:=by rw[hl2];unfold distF;omega
  have b4:L2.length<=32:=by rw[hl2];exact b2u _ _
  clear hl1 hl2 HF
  obtain⟨A1,c1,rfl,hri1,-,-⟩:=a0B HO1.out
  obtain⟨A2,c2,rfl,hri2,-,-⟩:=a0B HO2.out
  have HR1:=c1n hri1
  have HR2:=c1n hri2
  obtain⟨bb,oo,hAA,hc⟩:=hri1.at (show 256<L1.length by omega)
  subst hAA
  clear hri1 hri2
  obtain⟨n1,hn1⟩:∃ n,n=L1.length:=⟨_,rfl⟩
  obtain⟨n2,hn2⟩:∃ n,n=L2.length:=⟨_,rfl⟩
  have HN1:=c1n hn1
  have HN2:=c1n hn2
  rw[<-hn1] at b1 b2 HO1 HR1 ⊢
  rw[<-hn2] at b3 b4 HO2 HR2 ⊢
  clear hn1 hn2
  obtain⟨x,hx⟩:∃ x,x=nth L1 256:=⟨_,rfl⟩
  rw[<-hx] at hc
  have HX:=c1n hx
  clear hx
  by_cases hx0:x=0
  ·subst hx0
   have HE:Hid (a0N (L1,L2,nn,0)=52):=c1n (by unfold a0N;rw[if_neg (by simp),if_pos (by rw[<-HX.out])])
   go_wp2_with fail
   go_ret3
   exact a3W HE.out (by decide) H1.out K1.out
  ·have e1:(x==0)=false:=by simpa using hx0
   have e1':decide (x=0)=false:=by simpa using hx0
   have HX0:=c1n hx0
   clear hx0
   go_wp2_with fail
   refine (a2C w1 _ n1 c1 L1 HR1.out (by omega)).mono ?_
   rintro _ w2 ⟨rfl,hd2⟩
   have hk2:=hd2.keeps (S:=[])
   have H2:=c1n (H1.out.keeps hk2)
   have K2:=c1n (K1.out.trans (KT.of_keeps hk2 (by simp)))
   have HR22:=c1n (HR2.out.keeps hk2 (a0a _))
   have HO12:=c1n (a0b HO1.out hk2 (by simp))
   have HO22:=c1n (a0b HO2.out hk2 (by simp))
   clear hd2 hk2 H1 K1 HR1 HR2 HO1 HO2 hc
   by_cases hc1:a0f L1=0
   ·have HC1:=c1n hc1
    rw[hc1]
    clear hc1
    go_wp2_with fail
    refine (a6c w2 _ n2 c2 L2 HR22.out b3 (by omega)).mono ?_
    rintro _ w3 ⟨rfl,hd3⟩
    have hk3:=hd3.keeps (S:=[])
    have H3:=c1n (H2.out.keeps hk3)
    have K3:=c1n (K2.out.trans (KT.of_keeps hk3 (by simp)))
    have HR23:=c1n (HR22.out.keeps hk3 (a0a _))
    have HO13:=c1n (a0b HO12.out hk3 (by simp))
    have HO23:=c1n (a0b HO22.out hk3 (by simp))
    clear hd3 hk3 H2 K2 HR22 HO12 HO22
    by_cases hu:a0X L2=true
    ·have HU:=c1n hu
     rw[hu]
     clear hu
     go_wp2_with fail
     refine (a2C w3 _ n2 c2 L2 HR23.out (by omega)).mono ?_
     rintro _ w4 ⟨rfl,hd4⟩
     have hk4:=hd4.keeps (S:=[])
     have H4:=c1n (H3.out.keeps hk4)
     have K4:=c1n (K3.out.trans (KT.of_keeps hk4 (by simp)))
     have HO14:=c1n (a0b HO13.out hk4 (by simp))
     have HO24:=c1n (a0b HO23.out hk4 (by simp))
     clear hd4 hk4 H3 K3 HR23 HO13 HO23
     by_cases hc2:a0f L2=0
     ·have HE:Hid (a0N (L1,L2,nn,0)=0):=c1n (by unfold a0N;rw[if_neg (by simp),if_neg (by rw[<-HX.out];exact HX0.out),if_neg (by rw[HC1.out];simp),if_neg (by rintro ⟨_,h⟩;exact h hc2)])
      rw[hc2]
      clear hc2
      go_wp2_with fail
      go_ret3
      exact .inr ⟨HE.out,_,_,rfl,by rw[<-HN1.out];exact HO14.out,by rw[<-HN2.out];exact HO24.out,H4.out,K4.out⟩
     ·have HE:Hid (a0N (L1,L2,nn,0)=52):=c1n (by unfold a0N;rw[if_neg (by simp),if_neg (by rw[<-HX.out];exact HX0.out),if_neg (by rw[HC1.out];simp),if_pos ⟨HU.out,hc2⟩])
      have e2:(a0f L2 !=0)=true:=by simpa using hc2
      generalize a0f L2=y at *
      clear hc2
      go_wp2_with fail
      go_ret3
      exact a3W HE.out (by decide) H4.out K4.out
    ·have hu:a0X L2=false:=by simpa using hu
     have HE:Hid (a0N (L1,L2,nn,0)=0):=c1n (by unfold a0N;rw[if_neg (by simp),if_neg (by rw[<-HX.out];exact HX0.out),if_neg (by rw[HC1.out];simp),if_neg (by rintro ⟨h,_⟩;rw[hu] at h;cases h)])
     rw[hu]
     clear hu
     go_wp2_with fail
     go_ret3
     exact .inr ⟨HE.out,_,_,rfl,by rw[<-HN1.out];exact HO13.out,by rw[<-HN2.out];exact HO23.out,H3.out,K3.out⟩
   ·have HE:Hid (a0N (L1,L2,nn,0)=52):=c1n (by unfold a0N;rw[if_neg (by simp),if_neg (by rw[<-HX.out];exact HX0.out),if_pos hc1])
    have e2:(a0f L1 !=0)=true:=by simpa using hc1
    generalize a0f L1=y at *
    clear hc1
    go_wp2_with fail
    go_ret3
    exact a3W HE.out (by decide) H2.out K2.out
 ·have HE:Hid (a0N (L1,L2,nn,er)=endF er 52):=c1n (by unfold a0N;rw[if_pos her])
  have HN:Hid (endF er 52≠0):=c1n (fun h=>her (a2x (by decide) h))
  have e1:(er !=0)=true:=by simpa using her
  clear her HF
  go_wp2_with fail
  refine (a2U w1 er 52).mono ?_
  rintro _ w2 ⟨rfl,hd⟩
  have H2:=c1n (H1.out.keeps (hd.keeps (S:=[])))
  have K2:=c1n (K1.out.trans (KT.of_keeps (hd.keeps (S:=[])) (by simp)))
  clear hd H1 K1
  generalize endF er 52=y at *
  go_wp2_with fail
  go_ret3
  exact a3W HE.out HN.out H2.out K2.out
end Go.Proofs.YtghjlpechjggjaaGreatDoor
namespace Go.Proofs.YtghjlpechjggjaaGreatDoor
open Go.RowKit
def DistD(w:World)(g:Nat)(dist:List Int)(D:Option Addr):Prop:=
 dist.length<=288/\((a0X dist=false/\D=none)∨(a0X dist=true/\∃ dg,D=some ⟨dg,0,none⟩/\g<dg/\Dec w dg dist))
theorem a7n{w w':World}{g gr dg:Nat}{l:List Int}(h:Dec w dg l)(hp:KT g gr w w')(hg:g<dg)(hr:gr<g):Dec w' dg l:=by
 obtain⟨v,⟨a1,a2,a3,h1⟩,h2⟩:=h
 exact⟨v,⟨a1,a2,a3,c0q (by decide) (by omega) (by omega) h1 hp⟩,c0E (by decide) (by omega) (by omega) h2 hp⟩
theorem DistD.kt{w w':World}{g gr:Nat}{dist:List Int}{D:Option Addr}(h:DistD w g dist D)(hp:KT g gr w w')(hr:gr<g):DistD w' g dist D:=by
 obtain⟨h0,h⟩:=h
 refine⟨h0,?_⟩
 rcases h with h|⟨h1,dg,h2,h3,h4⟩
 ·exact .inl h
 ·exact .inr ⟨h1,dg,h2,h3,a7n h4 hp h3 hr⟩
theorem a5d(w:World)(g gr:Nat)(A:Option Addr)(c:Nat)(bs:List Int)(p most:Nat)(out:List Int)(n:Nat)(ni:Int)(hni:ni=n)(h:IR w g gr A c bs p most out)(hn:n<=16) :
  Calls Tryz.prog 142 #[.pointer (some ⟨g,0,none⟩),.int .i64 ni] w (Took w g gr A c bs p most out n):=by
 subst hni;exact a1E w g gr A c bs p most out n h hn
theorem IR.cells{w:World}{g gr c p most:Nat}{A:Option Addr}{bs out:List Int}(h:IR w g gr A c bs p most out):w.cell? ⟨g,0,none⟩=some (.pointer (some ⟨gr,0,none⟩)) /\
  ∃ v vc,w.cell? ⟨g,1,none⟩=some (.slice v out.length vc)/\RI .u8 w v out.length out:=by
 obtain⟨v,hblk,hown⟩:=h.box
 obtain⟨vA,vc,rfl,hri,_,_⟩:=a0B hown
 have c0:=hblk.cell 0
 have c1:=hblk.cell 1
 simp only[c1o,c1r] at c0 c1
 exact⟨c0,vA,vc,c1,hri⟩
theorem a9c(w:World)(g gr:Nat)(A:Option Addr)(c:Nat)(bs:List Int)(p most:Nat)(out dist:List Int)(s:Nat)(D:Option Addr)(h:IR w g gr A c bs p most out)(hD:DistD w g dist D)(hs:257<=s)(hs2:s<=100000) :
  Calls Tryz.prog 167 #[.pointer (some ⟨g,0,none⟩),.int .i64 s,.pointer D] w (Part w g gr A c bs most (a1j dist bs most s out p)):=by
 have H:=c1n h
 have HD:=c1n hD
 have hgr:=h.lt
 obtain⟨c0,-⟩:=h.cells
 clear h hD
 go_enter Tryz.func167,Tryz.ntmps167
 by_cases h1:285<s
 ·have e1:decide (285<s)=true:=by simpa using h1
  have e1':decide ((285:Int)<(s:Int))=true:=by simp;omega
  have HR:Hid (a1j dist bs most s out p=(out,0,53)):=c1n (by unfold a1j;rw[if_pos h1])
  go_wp2_with fail
  go_ret
  exact a0J HR.out (by decide) H.out (KT.refl _ _ _)
 have e1:decide (285<s)=false:=by simp;omega
 have e1':decide ((285:Int)<(s:Int))=false:=by simp;omega
 have HS:=c1n h1
 go_upto_block 0 with (fail)
 go_cut [7] (fun v7 wc=>∃ N:Nat,N<=1000/\v7=.int .i64 N/\Hid (N=a2f s+(numB bs p (lenK s)).toNat)/\Hid (p+lenK s<=8*bs.length)/\Hid (IR wc g gr A c bs (p+lenK s) most out)/\Hid (KT g gr w wc))
 case first=>
  have hle:=H.out.rd.le
  by_cases h2:s=285
  ·subst h2
   have e2:(((285:Nat):Int)==285)=true:=by decide
   go_wp2_with fail
   go_meet
   exact⟨258,by omega,rfl,c1n (by simp[a2f,lenK,numB]),c1n (by simp[lenK];omega),by simpa [lenK] using H,c1n (KT.refl _ _ _)⟩
  have e2:((s:Int)==285)=false:=by simp;omega
  by_cases h3:264<s
  ·have e3:decide (264<s)=true:=by simpa using h3
   have e3':decide ((264:Int)<(s:Int))=true:=by simp;omega
   obtain⟨k,hk⟩:∃ k:Nat,k=lenK s:=⟨_,rfl⟩
   have hk5:k<=5:=by rw[hk];unfold lenK;split<;>omega
   have HKK:=c1n hk
   have s1:((s:Int)-261)/4=(k:Int):=by rw[hk];unfold lenK;rw[if_neg (by omega)];omega
   obtain⟨r,hr⟩:∃ r:Nat,((s:Int)-261)%4=(r:Int):=⟨(s-261)%4,by omega⟩
   have hr4:r<4:=by omega
   have HRR:Hid (a2f s=3+(4+r)*2^k):=c1n (by unfold a2f;rw[if_neg (by omega),if_neg h2,<-hk,show (s-261)%4=r by omega])
   clear hk
   go_wp2_with fail
   refine (a5d w g gr A c bs p most out k _ (by first|rfl|omega) H.out (by omega)).mono ?_
   rintro _ w1 (⟨hf,rfl,h1,k1⟩|⟨hf,rfl,h1,k1⟩)
   ·have HI:=c1n h1
    have K1:=c1n k1
    have HF:=c1n hf
    clear h1 k1 H hf c0
    obtain⟨n0,n1⟩:=a0Q bs p k
    have p32:(2:Int)^k<=32:=by
     have:(2:Nat)^k<=2^5:=c1z (by decide) hk5
     exact_mod_cast this
    obtain⟨x,hx⟩:∃ x:Nat,numB bs p k=x:=⟨(numB bs p k).toNat,by omega⟩
    have HX:=c1n hx
    rw[hx] at n1 ⊢
    clear hx n0
    have t1:(4+(r:Int))*2^k<=7*32:=Int.mul_le_mul (by omega) p32 (by have:=a0k k;omega) (by omega)
    have t0:0<=(4+(r:Int))*2^k:=Int.mul_nonneg (by omega) (by have:=a0k k;omega)
    have s3:IntKind.i64.wrap ((4+(r:Int))*2^k)=(4+(r:Int))*2^k:=c1p _ (by omega)
    obtain⟨y,hy⟩:∃ y:Nat,(4+(r:Int))*2^k=y:=⟨((4+(r:Int))*2^k).toNat,by omega⟩
    have HY:=c1n hy
    rw[hy] at s3 t0 t1
    go_wp2_with fail
    go_meet
    refine⟨3+y+x,by omega,by go_num,c1n ?_,c1n (by rw[<-HKK.out];exact HF.out),by rw[<-HKK.out];exact HI,K1⟩
    rw[HRR.out,<-HKK.out,HX.out]
    have:=HY.out
    have e:(((4+r)*2^k:Nat):Int)=y:=by push_cast;exact this
    have:(4+r)*2^k=y:=by exact_mod_cast e
    omega
   ·have HI:=c1n h1
    have K1:=c1n k1
    have HR:Hid (a1j dist bs most s out p=(out,0,55)):=c1n (by unfold a1j;rw[if_neg HS.out,<-HKK.out,if_pos hf])
    clear h1 k1 H hf c0
    go_wp2_with fail
    go_ret
    exact a0J HR.out (by decide) HI.out K1.out
  ·have e3:decide (264<s)=false:=by simpa using h3
   have e3':decide ((264:Int)<(s:Int))=false:=by simp;omega
   have hk:lenK s=0:=by unfold lenK;rw[if_pos (by omega)]
   have hb:a2f s=s-254:=by unfold a2f;rw[if_pos (by omega)]
   have HKK:=c1n hk
   have HB:=c1n hb
   clear hk hb
   go_wp2_with fail
   go_meet
   exact⟨s-254,by omega,by go_num,c1n (by rw[HB.out,HKK.out,numB];rfl),c1n (by rw[HKK.out];exact hle),by rw[HKK.out];exact H,c1n (KT.refl _ _ _)⟩
 case rest=>
  obtain⟨N,hN,rfl,HN,HQ,H1,K1⟩:=hcut
  clear H c0
  obtain⟨q,hq⟩:∃ q,q=p+lenK s:=⟨_,rfl⟩
  rw[<-hq] at HQ H1
  have HQE:=c1n hq
  clear hq
  have HD1:=c1n (HD.out.kt K1.out hgr)
  have hD1:=HD1.out
  clear HD
  obtain⟨hdl,⟨hu,hDn⟩|⟨hu,dg,hDs,hgd,hdec⟩⟩:=hD1
  ·subst hDn
   have HR:Hid (a1j dist bs most s out p=(out,0,53)):=c1n (by unfold a1j;rw[if_neg HS.out,if_neg (by have:=HQ.out;have:=HQE.out;omega),if_pos hu])
   clear hu
   go_wp2_with fail
   go_ret
   exact a0J HR.out (by decide) H1.out K1.out
  subst hDs
  have HU:=c1n hu
  have HDC:=c1n hdec
  clear hu hdec HD1
  obtain⟨c0,-⟩:=H1.out.cells
  go_wp2_with fail
  refine (a3G wc dg gr dist A c bs q (HDC.out.apart (by omega)) H1.out.rd hdl).mono ?_
  rintro _ w2 ⟨rfl,hr2,hk2⟩
  have H2:=c1n (H1.out.read hr2 hk2)
  have K2:=c1n (K1.out.trans (KT.of_keeps hk2 (fun x hx=>.inr (c1q.1 hx))))
  have hbd:=b4V dist bs q HQ.out
  clear hr2 hk2 H1 K1 c0 HDC
  have HC:Hid (a1j dist bs most s out p=if (decF dist bs q).2.1≠0 then (out,0,endF (decF dist bs q).2.1 53)
   else if 29<(decF dist bs q).1 then (out,0,53)
   else if 8*bs.length<q+(decF dist bs q).2.2+a1M (decF dist bs q).1.toNat then (out,0,55)
   else if (out.length:Int)<a0I (decF dist bs q).1.toNat+numB bs (q+(decF dist bs q).2.2) (a1M (decF dist bs q).1.toNat) then (out,0,54)
   else if (layN ((a0I (decF dist bs q).1.toNat:Int)+numB bs (q+(decF dist bs q).2.2) (a1M (decF dist bs q).1.toNat)).toNat most N out).2≠0 then
    ((layN ((a0I (decF dist bs q).1.toNat:Int)+numB bs (q+(decF dist bs q).2.2) (a1M (decF dist bs q).1.toNat)).toNat most N out).1,0,56)
   else ((layN ((a0I (decF dist bs q).1.toNat:Int)+numB bs (q+(decF dist bs q).2.2) (a1M (decF dist bs q).1.toNat)).toNat most N out).1,q+(decF dist bs q).2.2+a1M (decF dist bs q).1.toNat,0)):=c1n (by
    have h1:=HQ.out
    have h2:=HQE.out
    have h3:=HN.out
    subst h2
    subst h3
    unfold a1j
    rw[if_neg HS.out,if_neg (by omega),if_neg (by rw[HU.out];simp)])
  generalize decF dist bs q=dr at *
  obtain⟨sy,er,nn⟩:=dr
  simp only[] at H2 hbd HC ⊢
  rcases hbd with⟨rfl,d,rfl,hdl2,hq2⟩|⟨her,rfl,rfl⟩
  rotate_left
  ·have HR:Hid (a1j dist bs most s out p=(out,0,endF er 53)):=c1n (by rw[HC.out,if_pos her])
   have HNE:Hid (endF er 53≠0):=c1n (fun h=>her (a2x (by decide) h))
   have e5:(er !=0)=true:=by simpa using her
   clear her HC
   go_wp2_with fail
   refine (a2U w2 er 53).mono ?_
   rintro _ w3 ⟨rfl,hd⟩
   have H3:=c1n (H2.out.keeps (hd.keeps (S:=[])))
   have K3:=c1n (K2.out.trans (KT.of_keeps (hd.keeps (S:=[])) (by simp)))
   clear hd H2 K2
   generalize endF er 53=y at *
   go_wp2_with fail
   go_ret
   exact a0J HR.out HNE.out H3.out K3.out
  rw[c1v] at HC
  by_cases hd29:29<d
  ·have HR:Hid (a1j dist bs most s out p=(out,0,53)):=c1n (by rw[HC.out,if_neg (by simp),if_pos (by omega)])
   have e5:decide (29<d)=true:=by simpa using hd29
   have e5':decide ((29:Int)<(d:Int))=true:=by simp;omega
   clear HC
   go_wp2_with fail
   go_ret
   exact a0J HR.out (by decide) H2.out K2.out
  have e5:decide (29<d)=false:=by simpa using hd29
  have e5':decide ((29:Int)<(d:Int))=false:=by simp;omega
  have HC2:=c1n (HC.out.trans (by rw[if_neg (by simp),if_neg (by omega)]))
  clear HC
  obtain⟨q2,hq2e⟩:∃ x,x=q+nn:=⟨_,rfl⟩
  rw[<-hq2e] at HC2 H2 hq2
  have HQ2:=c1n hq2e
  clear hq2e
  go_upto_if 71 with (fail)
  go_cut [13] (fun v13 wc2=>∃ F:Nat,1<=F/\F<=40000/\v13=.int .i64 F/\Hid ((F:Int)=a0I d+numB bs q2 (a1M d))/\Hid (q2+a1M d<=8*bs.length)/\Hid (IR wc2 g gr A c bs (q2+a1M d) most out)/\Hid (KT g gr w wc2))
  case first=>
   have hd29':d<=29:=by omega
   by_cases h3:3<d
   ·have e3:decide (3<d)=true:=by simpa using h3
    have e3':decide ((3:Int)<(d:Int))=true:=by simp;omega
    obtain⟨k,hk⟩:∃ k:Nat,k=a1M d:=⟨_,rfl⟩
    have hk13:k<=13:=by rw[hk];unfold a1M;split<;>omega
    have HKK:=c1n hk
    have s1:(d:Int)/2-1=(k:Int):=by rw[hk];unfold a1M;rw[if_neg (by omega)];omega
    obtain⟨r,hr⟩:∃ r:Nat,(d:Int)%2=(r:Int):=⟨d%2,by omega⟩
    have hr4:r<2:=by omega
    have HRR:Hid (a0I d=1+(2+r)*2^k):=c1n (by unfold a0I;rw[if_neg (by omega),<-hk,show d%2=r by omega])
    have HR55:Hid (8*bs.length<q2+k->a1j dist bs most s out p=(out,0,55)):=c1n (fun h=>by rw[HC2.out,if_pos (by rw[<-hk];exact h)])
    clear hk HC2
    go_wp2_with fail
    refine (a5d w2 g gr A c bs q2 most out k _ (by first|rfl|omega) H2.out (by omega)).mono ?_
    rintro _ w3 (⟨hf,rfl,h1,k1⟩|⟨hf,rfl,h1,k1⟩)
    ·have HI:=c1n h1
     have K3:=c1n (K2.out.trans k1)
     have HF:=c1n hf
     clear h1 k1 H2 K2 hf HR55
     obtain⟨n0,n1⟩:=a0Q bs q2 k
     have p13:(2:Int)^k<=8192:=by
      have:(2:Nat)^k<=2^13:=c1z (by decide) hk13
      exact_mod_cast this
     obtain⟨x,hx⟩:∃ x:Nat,numB bs q2 k=x:=⟨(numB bs q2 k).toNat,by omega⟩
     have HX:=c1n hx
     rw[hx] at n1 ⊢
     clear hx n0
     have t1:(2+(r:Int))*2^k<=3*8192:=Int.mul_le_mul (by omega) p13 (by have:=a0k k;omega) (by omega)
     have t0:0<=(2+(r:Int))*2^k:=Int.mul_nonneg (by omega) (by have:=a0k k;omega)
     have s3:IntKind.i64.wrap ((2+(r:Int))*2^k)=(2+(r:Int))*2^k:=c1p _ (by omega)
     obtain⟨y,hy⟩:∃ y:Nat,(2+(r:Int))*2^k=y:=⟨((2+(r:Int))*2^k).toNat,by omega⟩
     have HY:=c1n hy
     rw[hy] at s3 t0 t1
     go_wp2_with fail
     go_meet
     refine⟨1+y+x,by omega,by omega,by go_num,c1n ?_,c1n (by rw[<-HKK.out];exact HF.out),by rw[<-HKK.out];exact HI,K3⟩
     rw[HRR.out,<-HKK.out,HX.out]
     have:=HY.out
     push_cast
     omega
    ·have HI:=c1n h1
     have K3:=c1n (K2.out.trans k1)
     have HR:=c1n (HR55.out hf)
     clear h1 k1 H2 K2 hf HR55
     go_wp2_with fail
     go_ret
     exact a0J HR.out (by decide) HI.out K3.out
   ·have e3:decide (3<d)=false:=by simpa using h3
    have e3':decide ((3:Int)<(d:Int))=false:=by simp;omega
    have hk:a1M d=0:=by unfold a1M;rw[if_pos (by omega)]
    have hb:a0I d=d+1:=by unfold a0I;rw[if_pos (by omega)]
    have HKK:=c1n hk
    have HB:=c1n hb
    clear hk hb
    go_wp2_with fail
    go_meet
    exact⟨d+1,by omega,by omega,by go_num,c1n (by rw[HB.out,HKK.out,numB];simp),c1n (by rw[HKK.out];exact hq2),by rw[HKK.out];exact H2,K2⟩
  case rest=>
   obtain⟨F,hF1,hF2,rfl,HF,HQ3,H3,K3⟩:=hcut
   clear H2 K2
   obtain⟨q3,hq3⟩:∃ x,x=q2+a1M d:=⟨_,rfl⟩
   have HC3:Hid (a1j dist bs most s out p=if out.length<F then (out,0,54) else if (layN F most N out).2≠0 then ((layN F most N out).1,0,56) else ((layN F most N out).1,q3,0)):=c1n (by
    rw[HC2.out,if_neg (by have:=HQ3.out;omega),<-HF.out,hq3,c1v]
    by_cases h:out.length<F
    ·rw[if_pos h,if_pos (by omega)]
    ·rw[if_neg h,if_neg (by omega)])
   rw[<-hq3] at H3
   clear hq3 HC2 HF HQ3
   obtain⟨-,A3,c3,hc1,-⟩:=H3.out.cells
   obtain⟨Lo,hLo⟩:∃ L,L=out.length:=⟨_,rfl⟩
   have HLo:=c1n hLo
   rw[<-hLo] at hc1 HC3
   clear hLo
   by_cases hfar:Lo<F
   ·have e6:decide (Lo<F)=true:=by simpa using hfar
    have e6':decide ((Lo:Int)<(F:Int))=true:=by simp;omega
    have HR:Hid (a1j dist bs most s out p=(out,0,54)):=c1n (by rw[HC3.out,if_pos hfar])
    clear HC3
    go_wp2_with fail
    go_ret
    exact a0J HR.out (by decide) H3.out K3.out
   have e6:decide (Lo<F)=false:=by simpa using hfar
   have e6':decide ((Lo:Int)<(F:Int))=false:=by simp;omega
   have HC4:Hid (a1j dist bs most s out p=if (layN F most N out).2≠0 then ((layN F most N out).1,0,56) else ((layN F most N out).1,q3,0)):=c1n (by rw[HC3.out,if_neg hfar])
   have HFL:Hid (F<=out.length):=c1n (by have:=HLo.out;omega)
   clear HC3
   go_wp2_with fail
   clear hc1 e6 e6' hfar HLo
   go_loopw [100] (fun iv wr=>∃ (i:Nat) (o:List Int),i<=N/\iv=.int .i64 i/\Hid (layN F most N out=layN F most (N-i) o)/\Hid (F<=o.length)/\Hid (IR wr g gr A c bs q3 most o)/\Hid (KT g gr w wr)) (fun iv _=>N-(intOf iv).toNat)
   case atStart=>exact⟨0,out,by omega,rfl,c1n rfl,HFL,H3,K3⟩
   case round=>
    clear H3 K3 HFL
    obtain⟨i,o,hi,rfl,HS2,HFL,H,K⟩:=hrel
    by_cases hlt:i<N
    ·have e0:decide (i<N)=true:=by simpa using hlt
     have HL':Hid (layN F most (N-i) o=if most<=o.length then (o,56) else layN F most (N-(i+1)) (o++[nth o (o.length-F)])):=c1n (by rw[show N-i=(N-(i+1))+1 by omega,layN])
     obtain⟨-,A4,c4,hc1,hri⟩:=H.out.cells
     have hfl:=HFL.out
     obtain⟨Lo,hLo⟩:∃ L,L=o.length:=⟨_,rfl⟩
     have HLo:=c1n hLo
     rw[<-hLo] at hc1 hri hfl
     have hLb:Lo<=16384:=by have:=H.out.cap;have:=H.out.mx;omega
     clear hLo
     obtain⟨b4,o4,hA4,hcc⟩:=hri.at (show Lo-F<Lo by omega)
     subst hA4
     obtain⟨x,hx⟩:∃ x,x=nth o (Lo-F):=⟨_,rfl⟩
     rw[<-hx] at hcc
     have HX:Hid (x=nth o (o.length-F)):=c1n (by rw[hx,HLo.out])
     clear hx hri
     have s1:IntKind.i64.wrap ((Lo:Int)-(F:Int))=(Lo:Int)-(F:Int):=c1p _ (by omega)
     have s2:(0:Int)<=(Lo:Int)-(F:Int):=by omega
     have s3:(Lo:Int)-(F:Int)<(Lo:Int):=by omega
     have s4:((Lo:Int)-(F:Int)).toNat=Lo-F:=by omega
     go_wp2_with fail
     go_still_tail 14,(by kernel_rfl)
     change wpList _ _ _ _ _ wr.drew
     have hdr:=(Keeps.refl [] wr).drew
     have Hd:=c1n (H.out.keeps hdr)
     have Kd:=c1n (K.out.trans (KT.of_keeps hdr (by simp)))
     clear hdr H K hc1 hcc s1 s2 s3 s4
     go_wp2_with fail
     refine (a6e wr.drew g gr A c bs q3 most o x Hd.out).mono ?_
     rintro _ w5 (⟨hm,rfl,h5,k5⟩|⟨hm,rfl,h5,k5⟩)
     ·have H5:=c1n h5
      have K5:=c1n (Kd.out.trans k5)
      have HE:Hid (a1j dist bs most s out p=(o,0,56)):=c1n (by rw[HC4.out,HS2.out,HL'.out,if_pos hm];rfl)
      clear h5 k5 Hd Kd HS2 HL' HC4
      go_wp2_with fail
      go_ret
      exact a0J HE.out (by decide) H5.out K5.out
     ·have H5:=c1n h5
      have K5:=c1n (Kd.out.trans k5)
      have HS3:Hid (layN F most N out=layN F most (N-(i+1)) (o++[x])):=c1n (by rw[HS2.out,HL'.out,if_neg (by omega),HX.out])
      clear h5 k5 Hd Kd HS2 HL'
      go_wp2_with fail
      go_roundw
      case rel=>exact⟨i+1,o++[x],by omega,by go_num,HS3,c1n (by have:=HFL.out;rw[c1t];omega),H5,K5⟩
      case measure=>simp[intOf];omega
    ·obtain rfl:i=N:=by omega
     have e0:decide (i<i)=false:=by simp
     have HE:Hid (a1j dist bs most s out p=(o,q3,0)):=c1n (by rw[HC4.out,HS2.out,Nat.sub_self,layN,if_neg (by simp)])
     clear HS2 HC4
     go_wp2_with fail
     go_ret
     exact a8t HE.out H.out K.out
end Go.Proofs.YtghjlpechjggjaaGreatDoor
namespace Go.Proofs.YtghjlpechjggjaaGreatDoor
open Go.RowKit
theorem KT.below{g gr:Nat}{w w':World}(h:Below w.heap.size w w'):KT g gr w w':=KT.of_keeps (Keeps.of_below h (S:=[])) (by simp)
theorem a4q (w:World) (g gr:Nat) (A:Option Addr) (c:Nat) (bs:List Int) (p most:Nat) (out lit dist:List Int) (A1 A2:Option Addr) (n1 n2 c1 c2:Nat) (h:IR w g gr A c bs p most out)
  (hl:RI .i64 w A1 n1 lit) (hd:RI .i64 w A2 n2 dist) (hn1:n1<=288) (hn2:1<=n2) (hn3:n2<=288) (hc1:a0f lit=0) (hc2:a0X dist=true->a0f dist=0) :
  Calls Tryz.prog 144 #[.pointer (some ⟨g,0,none⟩),.slice A1 n1 c1,.slice A2 n2 c2] w (Part w g gr A c bs most (symF lit dist bs most (8*bs.length+1) out p)):=by
 have H:=c1n h
 have HL:=c1n hl
 have HDI:=c1n hd
 have HC1:=c1n hc1
 have HC2:=c1n hc2
 have hgr:=h.lt
 have HN1:=c1n hl.len
 have HN2:=c1n hd.len
 clear h hl hd hc1 hc2
 go_enter Tryz.func144,Tryz.ntmps144
 go_wp2_with fail
 go_step3
 go_wp2_with fail
 refine (a6p w A1 n1 c1 lit HL.out (by omega)).mono ?_
 rintro _ w1 ⟨hb,hm⟩
 rw[if_pos HC1.out] at hm
 obtain⟨dl,rfl,hdl,hdlg⟩:=hm
 have hg1:=H.out.glt
 have hk1:=Keeps.of_below hb (S:=[])
 have H1:=c1n (H.out.keeps hk1)
 have K1:Hid (KT g gr w w1):=c1n (KT.below hb)
 have HDL:=c1n hdl
 have HD1:=c1n (HDI.out.keeps hk1 (a0a _))
 have hgdl:g<dl:=by omega
 clear hb hk1 H HL HDI hdl hdlg hg1
 go_wp2_with fail
 refine (a6c w1 A2 n2 c2 dist HD1.out hn2 (by omega)).mono ?_
 rintro _ w2 ⟨rfl,hd2⟩
 have hk2:=hd2.keeps (S:=[])
 have H2:=c1n (H1.out.keeps hk2)
 have K2:=c1n (K1.out.trans (KT.of_keeps hk2 (by simp)))
 have HDL2:=c1n (a7n HDL.out (KT.of_keeps (g:=g) (gr:=gr) hk2 (by simp)) hgdl hgr)
 have HD2:=c1n (HD1.out.keeps hk2 (a0a _))
 clear hd2 hk2 H1 K1 HDL HD1
 obtain⟨u,hu⟩:∃ u,u=a0X dist:=⟨_,rfl⟩
 have HU:=c1n hu
 rw[<-hu]
 clear hu
 go_upto_if 18 with (fail)
 go_cut [9] (fun v9 wc=>∃ D:Option Addr,v9=.pointer D/\Hid (DistD wc g dist D)/\Hid (IR wc g gr A c bs p most out)/\Hid (KT g gr w wc)/\Hid (Dec wc dl lit))
 case first=>
  cases u with
  | false=>
   go_wp2_with fail
   go_meet
   exact⟨none,rfl,c1n ⟨by rw[HN2.out];exact hn3,.inl ⟨HU.out.symm,rfl⟩⟩,H2,K2,HDL2⟩
  | true=>
   go_wp2_with fail
   refine (a6p w2 A2 n2 c2 dist HD2.out (by omega)).mono ?_
   rintro _ w3 ⟨hb,hm⟩
   rw[if_pos (HC2.out HU.out.symm)] at hm
   obtain⟨dd,rfl,hdd,hddg⟩:=hm
   have hg2:=H2.out.glt
   have hk3:=Keeps.of_below hb (S:=[])
   have H3:=c1n (H2.out.keeps hk3)
   have K3:=c1n (K2.out.trans (KT.below hb))
   have HDD:=c1n hdd
   have HDL3:=c1n (a7n HDL2.out (KT.below (g:=g) (gr:=gr) hb) hgdl hgr)
   clear hb hk3 H2 K2 HDL2 HD2 hdd
   go_wp2_with fail
   go_meet
   exact⟨some ⟨dd,0,none⟩,rfl,c1n ⟨by rw[HN2.out];exact hn3,.inr ⟨HU.out.symm,dd,rfl,by omega,HDD.out⟩⟩,H3,K3,HDL3⟩
 case rest=>
  obtain⟨D,rfl,HDD,H3,K3,HDL3⟩:=hcut
  clear H2 K2 HDL2 HD2 HU HC2
  go_wp2_with fail
  go_step3
  go_wp2_with fail
  go_loopg [11] (8*bs.length+1) (fun k v11 wr=>∃ (q:Nat) (o:List Int),8*bs.length-q<k/\Hid (q<=8*bs.length)/\Hid (symF lit dist bs most (8*bs.length+1) out p=symF lit dist bs most k o q)/\Hid (IR wr g gr A c bs q most o)/\Hid (DistD wr g dist D)/\Hid (Dec wr dl lit)/\Hid (KT g gr w wr))
  case atStart=>exact⟨p,out,by omega,c1n H3.out.rd.le,c1n rfl,H3,HDD,HDL3,K3⟩
  case round=>
   clear HDD H3 K3 HDL3
   obtain⟨q,o,hk,HQ,HS,H,HDD,HDL,K⟩:=hrel
   obtain⟨f,rfl⟩:∃ f,gk=f+1:=⟨gk-1,by omega⟩
   obtain⟨c0,-⟩:=H.out.cells
   go_wp2_with fail
   refine (a3G wr dl gr lit A c bs q (HDL.out.apart (by omega)) H.out.rd (by rw[HN1.out];exact hn1)).mono ?_
   rintro _ w2 ⟨rfl,hr2,hk2⟩
   have hkt:=KT.of_keeps (g:=g) (gr:=gr) hk2 (fun x hx=>.inr (c1q.1 hx))
   have H2:=c1n (H.out.read hr2 hk2)
   have K2:=c1n (K.out.trans hkt)
   have HDD2:=c1n (HDD.out.kt hkt hgr)
   have HDL2:=c1n (a7n HDL.out hkt hgdl hgr)
   have hbd:=b4V lit bs q HQ.out
   have hadv:=b0P lit bs q HQ.out
   have HS2:Hid (symF lit dist bs most (8*bs.length+1) out p=if (decF lit bs q).2.1≠0 then (o,0,endF (decF lit bs q).2.1 53)
    else if (decF lit bs q).1=256 then (o,q+(decF lit bs q).2.2,0)
    else if (decF lit bs q).1<256 then
     if most<=o.length then (o,0,56) else symF lit dist bs most f (o++[(decF lit bs q).1]) (q+(decF lit bs q).2.2)
    else if (a1j dist bs most (decF lit bs q).1.toNat o (q+(decF lit bs q).2.2)).2.2≠0 then a1j dist bs most (decF lit bs q).1.toNat o (q+(decF lit bs q).2.2)
    else symF lit dist bs most f (a1j dist bs most (decF lit bs q).1.toNat o (q+(decF lit bs q).2.2)).1 (a1j dist bs most (decF lit bs q).1.toNat o (q+(decF lit bs q).2.2)).2.1):=c1n (by rw[HS.out,symF])
   clear hr2 hk2 hkt H K c0 HDD HDL HS
   generalize decF lit bs q=dr at *
   obtain⟨sy,er,nn⟩:=dr
   simp only[] at H2 hbd hadv HS2 ⊢
   rcases hbd with⟨rfl,d,rfl,hdl2,hq2⟩|⟨her,rfl,rfl⟩
   rotate_left
   ·have HR:Hid (symF lit dist bs most (8*bs.length+1) out p=(o,0,endF er 53)):=c1n (by rw[HS2.out,if_pos her])
    have HNE:Hid (endF er 53≠0):=c1n (fun h=>her (a2x (by decide) h))
    have e5:(er !=0)=true:=by simpa using her
    clear her HS2 hadv
    go_wp2_with fail
    refine (a2U w2 er 53).mono ?_
    rintro _ w3 ⟨rfl,hd⟩
    have H3:=c1n (H2.out.keeps (hd.keeps (S:=[])))
    have K3:=c1n (K2.out.trans (KT.of_keeps (hd.keeps (S:=[])) (by simp)))
    clear hd H2 K2
    generalize endF er 53=y at *
    go_wp2_with fail
    rw[c1s]
    go_ret
    exact a0J HR.out HNE.out H3.out K3.out
   obtain⟨hn1',-,-,-⟩:=hadv rfl
   rw[c1v] at HS2
   have hdl3:d<288:=by rw[HN1.out] at hdl2;omega
   have HQ2:Hid (q+nn<=8*bs.length):=c1n hq2
   clear hadv hdl2 hq2
   by_cases h256:d=256
   ·subst h256
    have HR:Hid (symF lit dist bs most (8*bs.length+1) out p=(o,q+nn,0)):=c1n (by rw[HS2.out,if_neg (by simp),if_pos (by decide)])
    have e6:(((256:Nat):Int)==256)=true:=by decide
    clear HS2
    go_wp2_with fail
    rw[c1s]
    go_ret
    exact a8t HR.out H2.out K2.out
   have e6:((d:Int)==256)=false:=by simp;omega
   by_cases hlt:d<256
   ·have e7:decide (d<256)=true:=by simpa using hlt
    have e7':decide ((d:Int)<256)=true:=by simp;omega
    have s1:IntKind.u8.wrap (d:Int)=d:=by rw[IntKind.wrap_u8];omega
    have HS3:=c1n (HS2.out.trans (by rw[if_neg (by simp),if_neg (by omega),if_pos (by omega)]))
    clear HS2
    go_wp2_with fail
    refine (a6e w2 g gr A c bs (q+nn) most o d H2.out).mono ?_
    rintro _ w3 (⟨hm,rfl,h3,k3⟩|⟨hm,rfl,h3,k3⟩)
    ·have H3:=c1n h3
     have K3:=c1n (K2.out.trans k3)
     have HE:Hid (symF lit dist bs most (8*bs.length+1) out p=(o,0,56)):=c1n (by rw[HS3.out,if_pos hm])
     clear h3 k3 H2 K2 HS3
     go_wp2_with fail
     rw[c1s]
     go_ret
     exact a0J HE.out (by decide) H3.out K3.out
    ·have H3:=c1n h3
     have K3:=c1n (K2.out.trans k3)
     have HE:Hid (symF lit dist bs most (8*bs.length+1) out p=symF lit dist bs most f (o++[(d:Int)]) (q+nn)):=c1n (by rw[HS3.out,if_neg (by omega)])
     have HDD3:=c1n (HDD2.out.kt k3 hgr)
     have HDL3:=c1n (a7n HDL2.out k3 hgdl hgr)
     clear h3 k3 H2 K2 HS3 HDD2 HDL2
     go_wp2_with fail
     go_roundg f
     case measure=>omega
     case rel=>exact⟨q+nn,o++[(d:Int)],by have:=HQ2.out;omega,HQ2,HE,H3,HDD3,HDL3,K3⟩
   ·have e7:decide (d<256)=false:=by simpa using hlt
    have e7':decide ((d:Int)<256)=false:=by simp;omega
    have HS3:=c1n (HS2.out.trans (by rw[if_neg (by simp),if_neg (by omega),if_neg (by omega)]))
    clear HS2
    go_wp2_with fail
    refine (a9c w2 g gr A c bs (q+nn) most o dist d D H2.out HDD2.out (by omega) (by omega)).mono ?_
    rintro _ w3 ⟨q3,rfl,h3,k3,hq3⟩
    have HP:=c1n (a9d dist bs most d o (q+nn) HQ2.out)
    have H3:=c1n h3
    have K3:=c1n (K2.out.trans k3)
    have HDD3:=c1n (HDD2.out.kt k3 hgr)
    have HDL3:=c1n (a7n HDL2.out k3 hgdl hgr)
    have HQ3:=c1n hq3
    clear h3 k3 H2 K2 HDD2 HDL2 hq3
    generalize a1j dist bs most d o (q+nn)=cr at *
    obtain⟨o3,p3,er⟩:=cr
    simp only[] at HP H3 HQ3 HS3 ⊢
    by_cases her:er=0
    ·subst her
     obtain⟨a1,a2⟩:=HP.out rfl
     obtain rfl:=HQ3.out rfl
     have HE:Hid (symF lit dist bs most (8*bs.length+1) out p=symF lit dist bs most f o3 q3):=c1n (by rw[HS3.out,if_neg (by simp)])
     clear HS3 HP HQ3
     go_wp2_with fail
     go_roundg f
     case measure=>omega
     case rel=>exact⟨q3,o3,by have:=HQ2.out;omega,c1n a2,HE,H3,HDD3,HDL3,K3⟩
    ·have e8:(er !=0)=true:=by simpa using her
     have HE:Hid (symF lit dist bs most (8*bs.length+1) out p=(o3,p3,er)):=c1n (by rw[HS3.out,if_pos her])
     have HER:=c1n her
     clear HS3 HP HQ3 her
     go_wp2_with fail
     rw[c1s]
     go_ret
     exact⟨q3,by rw[HE.out];rfl,by rw[HE.out];exact H3.out,K3.out,fun h=>by rw[HE.out] at h;exact absurd h HER.out⟩
end Go.Proofs.YtghjlpechjggjaaGreatDoor
namespace Go.Proofs.YtghjlpechjggjaaGreatDoor
open Go.RowKit
theorem a8U(w:World)(g gr:Nat)(A:Option Addr)(c:Nat)(bs:List Int)(p most:Nat)(out:List Int)(hT:Tabs w)(hg:gtop<=gr)(h:IR w g gr A c bs p most out) :
  Calls Tryz.prog 128 #[.pointer (some ⟨g,0,none⟩)] w (Part w g gr A c bs most (blksF bs most (8*bs.length+1) out p)):=by
 have H:=c1n h
 have HT:=c1n hT
 have hgr:=h.lt
 clear h hT
 go_enter Tryz.func128,Tryz.ntmps128
 go_wp2_with fail
 go_step3
 go_wp2_with fail
 go_step3
 go_wp2_with fail
 go_loopg [9] (8*bs.length+1) (fun k v9 wr=>∃ (q:Nat) (o:List Int),8*bs.length-q<k/\Hid (q<=8*bs.length)/\Hid (blksF bs most (8*bs.length+1) out p=blksF bs most k o q)/\Hid (IR wr g gr A c bs q most o)/\Hid (KT g gr w wr))
 case atStart=>exact⟨p,out,by omega,c1n H.out.rd.le,c1n rfl,H,c1n (KT.refl _ _ _)⟩
 case round=>
  clear H
  obtain⟨q,o,hk,HQ,HS,H,K⟩:=hrel
  obtain⟨f,rfl⟩:∃ f,gk=f+1:=⟨gk-1,by omega⟩
  have HS2:Hid (blksF bs most (8*bs.length+1) out p=if 8*bs.length<q+1 then (o,0,55)
   else if 8*bs.length<q+3 then (o,0,55)
   else if (a1m bs most (numB bs (q+1) 2) o (q+3)).2.2≠0 then a1m bs most (numB bs (q+1) 2) o (q+3)
   else if numB bs q 1=0 then blksF bs most f (a1m bs most (numB bs (q+1) 2) o (q+3)).1 (a1m bs most (numB bs (q+1) 2) o (q+3)).2.1
   else a1m bs most (numB bs (q+1) 2) o (q+3)):=c1n (by rw[HS.out,blksF])
  clear HS
  go_wp2_with fail
  refine (a1E wr g gr A c bs q most o 1 H.out (by omega)).mono ?_
  rintro _ w1 (⟨hf,rfl,h1,k1⟩|⟨hf,rfl,h1,k1⟩)
  rotate_left
  ·have H1:=c1n h1
   have K1:=c1n (K.out.trans k1)
   have HE:Hid (blksF bs most (8*bs.length+1) out p=(o,0,55)):=c1n (by rw[HS2.out,if_pos hf])
   clear h1 k1 H K HS2
   go_wp2_with fail
   rw[c1s]
   go_ret
   exact a0J HE.out (by decide) H1.out K1.out
  have H1:=c1n h1
  have K1:=c1n (K.out.trans k1)
  clear h1 k1 H K
  obtain⟨l0,l1⟩:=a0Q bs q 1
  rw[show (2:Int)^1=2 from rfl] at l1
  obtain⟨la,hla⟩:∃ la,la=numB bs q 1:=⟨_,rfl⟩
  rw[<-hla] at l0 l1 HS2 ⊢
  clear hla
  go_wp2_with fail
  refine (a1E w1 g gr A c bs (q+1) most o 2 H1.out (by omega)).mono ?_
  rintro _ w2 (⟨hf2,rfl,h2,k2⟩|⟨hf2,rfl,h2,k2⟩)
  rotate_left
  ·have H2:=c1n h2
   have K2:=c1n (K1.out.trans k2)
   have HE:Hid (blksF bs most (8*bs.length+1) out p=(o,0,55)):=c1n (by rw[HS2.out,if_neg (by omega),if_pos (by omega)])
   clear h2 k2 H1 K1 HS2
   go_wp2_with fail
   rw[c1s]
   go_ret
   exact a0J HE.out (by decide) H2.out K2.out
  have H2:=c1n h2
  have K2:=c1n (K1.out.trans k2)
  have HT2:=c1n (b9V HT.out K2.out hg hgr)
  clear h2 k2 H1 K1
  obtain⟨n0,n1⟩:=a0Q bs (q+1) 2
  rw[show (2:Int)^2=4 from rfl] at n1
  obtain⟨ki,hki⟩:∃ ki,ki=numB bs (q+1) 2:=⟨_,rfl⟩
  rw[<-hki] at n0 n1 HS2 ⊢
  clear hki
  have HS3:=c1n (HS2.out.trans (by rw[if_neg (by omega),if_neg (by omega)]))
  have HQ3:Hid (q+3<=8*bs.length):=c1n (by omega)
  clear HS2
  go_upto_block 2 with (fail)
  have HB:Hid (a1m bs most ki o (q+3)=if ki=0 then a0G bs most o (q+3)
   else if ki=1 then symF fixLit fixDist bs most (8*bs.length+1) o (q+3)
   else if ki=2 then
    if a0N (headF bs (q+3))≠0 then (o,0,a0N (headF bs (q+3)))
    else symF (headF bs (q+3)).1 (headF bs (q+3)).2.1 bs most (8*bs.length+1) o (q+3+(headF bs (q+3)).2.2.1)
   else (o,0,50)):=c1n rfl
  obtain⟨br,hbr⟩:∃ br,br=a1m bs most ki o (q+3):=⟨_,rfl⟩
  have HP:Hid (br.2.2=0->q+3<=br.2.1/\br.2.1<=8*bs.length):=c1n (fun h=>by rw[hbr] at h ⊢;exact a7j bs most ki o (q+3) HQ3.out h)
  rw[<-hbr] at HB HS3
  clear hbr
  go_cut [4] (fun v4 wc=>∃ q',v4=.int .i64 br.2.2/\Hid (br.2.2=0->q'=br.2.1)/\Hid (IR wc g gr A c bs q' most br.1)/\Hid (KT g gr w wc))
  case first=>
   clear HS3 HP
   by_cases h0:ki=0
   ·subst h0
    have HB0:=c1n (HB.out.trans (if_pos rfl))
    clear HB
    go_wp2_with fail
    refine (a9Z w2 g gr A c bs (q+1+2) most o H2.out).mono ?_
    rintro _ w3 ⟨q',rfl,h3,k3,hq3⟩
    have H3:=c1n h3
    have K3:=c1n (K2.out.trans k3)
    have HQ':=c1n hq3
    clear h3 k3 hq3 H2 K2
    rw[show q+1+2=q+3 by omega,<-HB0.out] at H3 HQ' ⊢
    generalize br.2.2=er at *
    go_wp2_with fail
    go_meet
    exact⟨q',rfl,HQ',H3,K3⟩
   have e0:(ki==0)=false:=by simpa using h0
   have e0':decide (ki=0)=false:=by simpa using h0
   by_cases h1:ki=1
   ·subst h1
    have HB0:=c1n (HB.out.trans ((if_neg (by decide)).trans (if_pos rfl)))
    clear HB
    go_wp2_with fail
    refine (b0S w2).mono ?_
    rintro _ w3 ⟨v1,g2,rfl,ho1,hb2,hg2,hw3⟩
    have hk3:=Keeps.of_below hw3 (S:=[])
    have H3:=c1n (H2.out.keeps hk3)
    have K3:=c1n (K2.out.trans (KT.below hw3))
    obtain⟨A1,c1,rfl,hri1,-,-⟩:=a0B ho1
    have hri2:RI .i64 w3 (some ⟨g2,0,none⟩) 32 fixDist:=by
     have:=Blk.ri (xs:=fixDist) (ys:=[]) (k:=.i64) (by simpa using hb2)
     rwa [a8d.2.2.2.2] at this
    have HR1:=c1n hri1
    have HR2:=c1n hri2
    clear ho1 hb2 hg2 hw3 hk3 hri1 hri2 H2 K2
    go_wp2_with fail
    refine (a4q w3 g gr A c bs (q+1+2) most o fixLit fixDist A1 (some ⟨g2,0,none⟩) 288 32 c1 32 H3.out HR1.out HR2.out (by omega) (by omega) (by omega) a8d.1 (fun _=>a8d.2.1)).mono ?_
    rintro _ w4 ⟨q',rfl,h4,k4,hq4⟩
    have H4:=c1n h4
    have K4:=c1n (K3.out.trans k4)
    have HQ':=c1n hq4
    clear h4 k4 hq4 H3 K3 HR1 HR2
    rw[show q+1+2=q+3 by omega,<-HB0.out] at H4 HQ' ⊢
    generalize br.2.2=er at *
    go_wp2_with fail
    go_meet
    exact⟨q',rfl,HQ',H4,K4⟩
   have e1:(ki==1)=false:=by simpa using h1
   have e1':decide (ki=1)=false:=by simpa using h1
   by_cases h2:ki=2
   ·subst h2
    have HB0:=c1n (HB.out.trans ((if_neg (by decide)).trans ((if_neg (by decide)).trans (if_pos rfl))))
    clear HB
    go_wp2_with fail
    refine (b3v w2 g gr A c bs (q+1+2) most o HT2.out hg H2.out).mono ?_
    have hfull:=@a9s bs (q+1+2)
    rw[show q+1+2=q+3 by omega] at hfull ⊢
    have hl1:=b5q bs (q+3)
    have hl2:=b2u bs (q+3)
    have hl3:1<=distF bs (q+3):=by unfold distF;omega
    rintro _ w3 (⟨hne,q',rfl,h3,k3⟩|⟨heq,v1,v2,rfl,ho1,ho2,h3,k3⟩)
    ·have H3:=c1n h3
     have K3:=c1n (K2.out.trans k3)
     have HB1:=c1n (HB0.out.trans (if_pos hne))
     have HNE:Hid (br.2.2≠0):=c1n (by rw[HB1.out];exact hne)
     have e2:(a0N (headF bs (q+3))==0)=false:=by simpa using hne
     have hbe:a0N (headF bs (q+3))=br.2.2:=by rw[HB1.out]
     have hbo:o=br.1:=by rw[HB1.out]
     rw[hbo] at H3
     rw[hbe] at e2 ⊢
     clear h3 k3 H2 K2 HB0 HB1 hne hbe hbo hfull
     generalize br.2.2=er at *
     go_wp2_with fail
     go_meet
     exact⟨q',rfl,c1n (fun h=>absurd h HNE.out),H3,K3⟩
    ·have HB1:=c1n (HB0.out.trans (if_neg (by rw[heq];simp)))
     obtain⟨hz,hck1,hck2⟩:=b4U heq
     obtain⟨hf1,hf2⟩:=hfull hz
     have H3:=c1n h3
     have K3:=c1n (K2.out.trans k3)
     obtain⟨A1,c1,rfl,hri1,-,-⟩:=a0B ho1
     obtain⟨A2,c2,rfl,hri2,-,-⟩:=a0B ho2
     have HR1:=c1n hri1
     have HR2:=c1n hri2
     have HCK1:=c1n hck1
     have HCK2:=c1n hck2
     have b1:(headF bs (q+3)).1.length<=288:=by omega
     have b2:1<=(headF bs (q+3)).2.1.length:=by omega
     have b3:(headF bs (q+3)).2.1.length<=288:=by omega
     clear h3 k3 H2 K2 HB0 ho1 ho2 hri1 hri2 hfull hck1 hck2 hz heq hf1 hf2
     generalize headF bs (q+3)=hd at *
     obtain⟨L1,L2,nn,er0⟩:=hd
     simp only[] at H3 HR1 HR2 HCK1 HCK2 b1 b2 b3 HB1 ⊢
     obtain⟨n1,hn1⟩:∃ n,n=L1.length:=⟨_,rfl⟩
     obtain⟨n2,hn2⟩:∃ n,n=L2.length:=⟨_,rfl⟩
     rw[<-hn1] at b1 HR1 ⊢
     rw[<-hn2] at b2 b3 HR2 ⊢
     clear hn1 hn2
     go_wp2_with fail
     refine (a4q w3 g gr A c bs (q+3+nn) most o L1 L2 A1 A2 n1 n2 c1 c2 H3.out HR1.out HR2.out b1 b2 b3 HCK1.out HCK2.out).mono ?_
     rintro _ w4 ⟨q',rfl,h4,k4,hq4⟩
     have H4:=c1n h4
     have K4:=c1n (K3.out.trans k4)
     have HQ':=c1n hq4
     clear h4 k4 hq4 H3 K3 HR1 HR2
     rw[<-HB1.out] at H4 HQ' ⊢
     generalize br.2.2=er at *
     go_wp2_with fail
     go_meet
     exact⟨q',rfl,HQ',H4,K4⟩
   ·obtain rfl:ki=3:=by omega
    have HB0:=c1n (HB.out.trans ((if_neg (by decide)).trans ((if_neg (by decide)).trans (if_neg (by decide)))))
    have hbo:o=br.1:=by rw[HB0.out]
    have hbe:(50:Int)=br.2.2:=by rw[HB0.out]
    have HBE:=c1n hbe
    rw[hbo] at H2
    clear HB hbo hbe
    go_wp2_with fail
    go_meet
    exact⟨_,by rw[<-HBE.out],c1n (fun h=>by have:=HBE.out;omega),H2,K2⟩
  case rest=>
   obtain⟨q',rfl,HQ',H3,K3⟩:=hcut
   clear H2 K2 HB
   obtain⟨o3,p3,er⟩:=br
   simp only[] at HQ' H3 HP HS3 ⊢
   by_cases her:er=0
   ·subst her
    obtain⟨a1,a2⟩:=HP.out rfl
    obtain rfl:=HQ'.out rfl
    have HS4:Hid (blksF bs most (8*bs.length+1) out p=if la=0 then blksF bs most f o3 q' else (o3,q',0)):=c1n (by rw[HS3.out,if_neg (by simp)])
    clear HS3 HP HQ'
    by_cases hla:la=0
    ·subst hla
     have HE:=c1n (HS4.out.trans (if_pos rfl))
     clear HS4
     go_wp2_with fail
     go_roundg f
     case measure=>omega
     case rel=>exact⟨q',o3,by omega,c1n a2,HE,H3,K3⟩
    ·have e5:(la==0)=false:=by simpa using hla
     have HE:=c1n (HS4.out.trans (if_neg hla))
     clear HS4 hla
     go_wp2_with fail
     rw[c1s]
     go_ret
     exact a8t HE.out H3.out K3.out
   ·have e5:(er !=0)=true:=by simpa using her
    have HE:Hid (blksF bs most (8*bs.length+1) out p=(o3,p3,er)):=c1n (by rw[HS3.out,if_pos her])
    have HER:=c1n her
    clear HS3 HP HQ' her
    go_wp2_with fail
    rw[c1s]
    go_ret
    exact⟨q',by rw[HE.out];rfl,by rw[HE.out];exact H3.out,K3.out,fun h=>by rw[HE.out] at h;exact absurd h HER.out⟩
end Go.Proofs.YtghjlpechjggjaaGreatDoor
namespace Go.Proofs.YtghjlpechjggjaaGreatDoor
open Go.RowKit
def c0Y(w:World)(bs:List Int)(most:Nat)(r:IRes)(e:Ending)(w':World):Prop:=
 ∃ g gr A c q,e=.returned (.tuple #[.pointer (some ⟨g,0,none⟩),.int .i64 r.2.2])/\IR w' g gr A c bs q most r.1/\(r.2.2=0->q=r.2.1)/\w.heap.size<=gr/\(∀ a,A=some a->gr<a.block)/\Below w.heap.size w w'
theorem b0X(w:World)(A:Option Addr)(n c:Nat)(bs:List Int)(most:Nat)(hT:Tabs w)(hr:RI .u8 w A n bs)(hnil:A=none->n=0/\c=0)(hbyte:∀ j,0<=nth bs j/\nth bs j<=255)(hn:n<=4000000000)(hm:most<=16384) :
  Calls Tryz.prog 106 #[.slice A n c,.int .i64 most] w (c0Y w bs most (inflF bs most)):=by
 have HR:=c1n hr
 have HN:=c1n hnil
 have HT:=c1n hT
 have HBY:=c1n hbyte
 have HTS:=c1n hT.size
 clear hr hnil hT hbyte
 go_enter Tryz.func106,Tryz.ntmps106
 go_wp2_with fail
 refine (a6o w A n c bs HR.out HN.out HBY.out hn).mono ?_
 rintro _ w1 ⟨gr,A1,c1,rfl,hrd,hgr,hA1,hb1⟩
 have hk1:=Keeps.of_below hb1 (S:=[])
 have HK1:=c1n hk1
 have HT1:=c1n (HT.out.keeps hk1 (by simp))
 have HRD:=c1n hrd
 have HA1:=c1n hA1
 have hgl:=hrd.lt
 clear hrd hA1 hb1 hk1 HR HN HBY
 obtain⟨g,hg⟩:∃ g,g=w1.heap.size:=⟨_,rfl⟩
 obtain⟨w2,hw2⟩:∃ w2,w2=w1.alloc (.cells #[.pointer (some ⟨gr,0,none⟩),.slice none 0 0,.int .i64 most] 178):=⟨_,rfl⟩
 have hk2:Keeps [] w1 w2:=by rw[hw2];exact (Keeps.refl [] w1).alloc _
 have hb2:Blk w2 g 178 [.pointer (some ⟨gr,0,none⟩),.slice none 0 0,.int .i64 most]:=by rw[hw2,hg];exact a0d w1 _ _
 have HI:Hid (IR w2 g gr A1 c1 bs 0 most []):=c1n ⟨HRD.out.dr hk2,⟨_,hb2,c1w _ _ _ _⟩,by omega,fun a ha=>by have:=(HA1.out a ha).2;omega,by simp,hm,a8G hb2 (AllU8.nil _)⟩
 have HT2:=c1n (HT1.out.keeps hk2 (by simp))
 have HK2:=c1n (HK1.out.trans hk2)
 have HGS:Hid (w2.heap.size=g+1):=c1n (by rw[hw2,hg];simp)
 have HG:Hid (w.heap.size<=gr/\gr<g):=c1n ⟨hgr,by omega⟩
 have HAG:Hid (∀ a,A1=some a->gr<a.block):=c1n (fun a ha=>(HA1.out a ha).1)
 have hgt:gtop<=gr:=by have:=HTS.out;omega
 go_upto_region 2 with (fail)
 rw[<-hw2,<-hg]
 clear hw2 hg hk2 hb2 HRD HA1 HT1 HK1 hgl hgr
 go_wp2_with fail
 refine (a8U w2 g gr A1 c1 bs 0 most [] HT2.out hgt HI.out).mono ?_
 rintro _ w3 ⟨q,rfl,h3,k3,hq⟩
 rw[show blksF bs most (8*bs.length+1) [] 0=inflF bs most from rfl] at h3 hq ⊢
 have H3:=c1n h3
 have hgg:=HG.out
 have hk3:Keeps [] w w3:=by
  have hs:=HK2.out.size
  exact⟨k3.os.trans HK2.out.os,k3.tape.trans HK2.out.tape,k3.output.trans HK2.out.output,Nat.le_trans HK2.out.size k3.size,fun k hk _=>(k3.same k (by omega) (by omega) (by omega) (.inl (by omega))).trans (HK2.out.block k hk (by simp))⟩
 have HK3:=c1n hk3
 have HQ:=c1n hq
 clear h3 k3 hq hk3 HI HK2 hgg
 generalize hir:inflF bs most=ir at *
 obtain⟨o3,p3,er⟩:=ir
 simp only[] at H3 HQ ⊢
 have HIR:=c1n hir
 clear hir
 go_wp2_with fail
 go_ret2
 exact⟨g,gr,A1,c1,q,rfl,H3.out,HQ.out,HG.out.1,HAG.out,HK3.out.below⟩
theorem a6Z(w:World)(A:Option Addr)(n c:Nat)(bs:List Int)(most:Int)(hT:Tabs w)(hr:RI .u8 w A n bs)(hnil:A=none->n=0/\c=0)(hbyte:∀ j,0<=nth bs j/\nth bs j<=255)(hn:n<=4000000000) :
  Calls Tryz.prog 77 #[.slice A n c,.int .i64 most] w fun e w'=>∃ v,e=.returned (.tuple #[v,.int .i64 ((a0O bs most).2.1:Nat),.int .i64 (a0O bs most).2.2]) /\
   w'.ownsRow w.heap.size 5 1 v (a0O bs most).1.length (ints .u8 (a0O bs most).1)/\Below w.heap.size w w'/\AllU8 w' v:=by
 have HR:=c1n hr
 have HN:=c1n hnil
 have HT:=c1n hT
 have HBY:=c1n hbyte
 have HRL:=c1n hr.len
 clear hr hnil hT hbyte
 go_enter Tryz.func77,Tryz.ntmps77
 by_cases h0:most<0
 ·have e0:decide (most<0)=true:=by simpa using h0
  have HE:Hid (a0O bs most=([],0,1)):=c1n (by unfold a0O;rw[if_pos (.inl h0)])
  clear h0
  go_wp2_with fail
  go_ret3
  rw[HE.out]
  exact⟨_,rfl,c1w _ _ _ _,Below.refl _ _,AllU8.nil _⟩
 have e0:decide (most<0)=false:=by simpa using h0
 by_cases h1:16384<most
 ·have e1:decide (16384<most)=true:=by simpa using h1
  have HE:Hid (a0O bs most=([],0,1)):=c1n (by unfold a0O;rw[if_pos (.inr h1)])
  clear h1
  go_wp2_with fail
  go_ret3
  rw[HE.out]
  exact⟨_,rfl,c1w _ _ _ _,Below.refl _ _,AllU8.nil _⟩
 have e1:decide (16384<most)=false:=by simpa using h1
 obtain⟨m,rfl⟩:=Int.eq_ofNat_of_zero_le (show 0<=most by omega)
 have hm:m<=16384:=by omega
 have HE:Hid (a0O bs (m:Nat)=if (inflF bs m).2.2≠0 then ([],0,(inflF bs m).2.2) else ((inflF bs m).1,((inflF bs m).2.1+7)/8,0)):=c1n (by unfold a0O;rw[if_neg (by omega),c1v])
 change Code.wp _ _ _ _ _
 go_wp2_with fail
 refine (b0X w A n c bs m HT.out HR.out HN.out HBY.out hn hm).mono ?_
 rintro _ w1 ⟨g,gr,A1,c1,q,rfl,hi,hq,hgr,-,hb⟩
 have HI:=c1n hi
 have HB:=c1n hb
 have HPOS:=c1n (fun h=>b5f bs m h)
 clear hb HR HN HT HBY h0 h1 e0 e1
 generalize inflF bs m=ir at *
 obtain⟨o3,p3,er⟩:=ir
 simp only[] at HE HPOS hi hq HI ⊢
 by_cases her:er=0
 ·subst her
  obtain rfl:=hq rfl
  have HE1:=c1n (HE.out.trans (if_neg (by simp)))
  have hp:=HPOS.out rfl
  have hrl:=HRL.out
  obtain⟨vA,hblk,hown⟩:=hi.box
  obtain⟨A2,c2,rfl,-,-,-⟩:=a0B hown
  have k0:=hblk.cell 0
  have k1:=hblk.cell 1
  simp only[c1o,c1r] at k0 k1
  have HO:=c1n (hown.mono (show w.heap.size<=g+1 by have:=hi.lt;omega))
  have HU:=c1n (hi.u8v hblk)
  have hcl:∀ j,Calls Tryz.prog 107 #[.pointer (some ⟨gr,0,none⟩)] (w1.drewN j) fun e w'=>e=.returned (.int .i64 q)/\∃ m,w'=(w1.drewN j).drewN m:=fun j=>a4H (w1.drewN j) gr A1 c1 bs q (hi.rd.dr ((Keeps.refl [] w1).drewN j))
  have HCL:=c1n hcl
  have s1:IntKind.i64.wrap ((q:Int)+7)=(q:Int)+7:=c1p _ (by omega)
  obtain⟨Q,hQ⟩:∃ Q,Q=(q+7)/8:=⟨_,rfl⟩
  rw[<-hQ] at HE1
  have s2:((q:Int)+7).tdiv 8=(Q:Int):=by rw[Int.tdiv_eq_ediv_of_nonneg (by omega)];omega
  have s3:IntKind.i64.wrap (Q:Int)=Q:=c1p _ (by omega)
  clear hQ
  clear HE hq hi hblk hown hcl HI HPOS hrl
  go_upto_region 6 with (fail)
  go_quiet (first|(go_at_call 107;exact Calls.quiet_of (HCL.out _)))
  go_wp2_with fail
  go_ret3
  rw[HE1.out]
  exact⟨_,rfl,a0b HO.out ((Keeps.refl [] w1).drewN _) (by simp),HB.out.trans (a0l ((Keeps.refl [] w1).drewN _).below HB.out.size),HU.out.keeps ((Keeps.refl [] w1).drewN _) (by simp)⟩
 ·have HE1:=c1n (HE.out.trans (if_pos her))
  have e2:(er !=0)=true:=by simpa using her
  clear HE hq hi HI HPOS her
  go_wp2_with fail
  go_ret3
  rw[HE1.out]
  exact⟨_,rfl,c1w _ _ _ _,HB.out,AllU8.nil _⟩
theorem a8j(w:World)(A:Option Addr)(n c:Nat)(bs:List Int)(most:Int)(hT:Tabs w)(hr:RI .u8 w A n bs)(hnil:A=none->n=0/\c=0)(hbyte:∀ j,0<=nth bs j/\nth bs j<=255)(hn:n<=4000000000) :
  Calls Tryz.prog 77 #[.slice A n c,.int .i64 most] w fun e w'=>∃ v,e=.returned (.tuple #[v,.int .i64 ((a0O bs most).2.1:Nat),.int .i64 (a0O bs most).2.2]) /\
   w'.ownsRow w.heap.size 5 1 v (a0O bs most).1.length (ints .u8 (a0O bs most).1)/\Below w.heap.size w w':=
 (a6Z w A n c bs most hT hr hnil hbyte hn).mono fun _ _ ⟨v,h1,h2,h3,_⟩=>⟨v,h1,h2,h3⟩
end Go.Proofs.YtghjlpechjggjaaGreatDoor
namespace Go.Proofs.YtghjlpechjggjaaGreatDoor
def ZU8(l:List Int):Prop:=∀ x∈l,0<=x/\x<=255
theorem ZU8.nil:ZU8 []:=fun _ h=>by cases h
theorem ZU8.snoc{l:List Int}(h:ZU8 l){x:Int}(hx:0<=x/\x<=255):ZU8 (l++[x]):=fun y hy=>by
 rcases List.mem_append.1 hy with hy|hy
 ·exact h y hy
 ·rw[c1q] at hy;subst hy;exact hx
theorem ZU8.nth{l:List Int}(h:ZU8 l)(j:Nat):0<=nth l j/\nth l j<=255:=by
 by_cases hj:j<l.length
 ·rw[a0q hj];exact h _ (c1y _)
 ·unfold Go.Proofs.YtghjlpechjggjaaGreatDoor.nth
  rw[List.getD,List.getElem?_eq_none (by omega)]
  simp
theorem b2T(bs:List Int)(most:Nat):∀ n out p,ZU8 out->ZU8 (storF bs most n out p).1
 | 0,out,p,h=>h
 | n+1,out,p,h=>by
  rw[storF]
  split;· exact h
  split;· exact h
  have:=a0Q bs p 8
  exact b2T bs most n _ _ (h.snoc (by omega))
theorem b0Z(far most:Nat):∀ n out,ZU8 out->ZU8 (layN far most n out).1
 | 0,out,h=>h
 | n+1,out,h=>by
  rw[layN]
  split;· exact h
  exact b0Z far most n _ (h.snoc (h.nth _))
theorem b2t(dist bs:List Int)(most s:Nat)(out:List Int)(p:Nat)(h:ZU8 out):ZU8 (a1j dist bs most s out p).1:=by
 unfold a1j
 split;· exact h
 split;· exact h
 split;· exact h
 split;· exact h
 split;· exact h
 split;· exact h
 split;· exact h
 split
 ·exact b0Z _ _ _ _ h
 ·exact b0Z _ _ _ _ h
theorem b9q(l bs:List Int)(p:Nat)(h:(decF l bs p).2.1=0):0<=(decF l bs p).1:=by
 by_cases hp:p<=8*bs.length
 ·exact (b0P l bs p hp h).2.2.1
 ·exfalso
  unfold decF at h
  cases hn:longN l 16 with
  | zero=>rw[hn,decGo] at h;simp at h
  | succ f=>rw[hn,decGo,if_neg (by omega)] at h;simp at h
theorem a8B(lit dist bs:List Int)(most:Nat):∀ f out p,ZU8 out->ZU8 (symF lit dist bs most f out p).1
 | 0,out,p,h=>h
 | f+1,out,p,h=>by
  rw[symF]
  split;· exact h
  rename_i h0
  split;· exact h
  rename_i h256
  split
  ·rename_i hlt
   split;· exact h
   have:=b9q lit bs p (Classical.not_not.1 h0)
   exact a8B lit dist bs most f _ _ (h.snoc (by omega))
  ·split
   ·exact b2t _ _ _ _ _ _ h
   ·exact a8B lit dist bs most f _ _ (b2t _ _ _ _ _ _ h)
theorem b4e(bs:List Int)(most:Nat)(out:List Int)(p:Nat)(h:ZU8 out):ZU8 (a0G bs most out p).1:=by
 unfold a0G
 split;· exact h
 split;· exact h
 split;· exact h
 exact b2T _ _ _ _ _ h
theorem a5M(bs:List Int)(most:Nat)(kind:Int)(out:List Int)(p:Nat)(h:ZU8 out):ZU8 (a1m bs most kind out p).1:=by
 unfold a1m
 split;· exact b4e _ _ _ _ h
 split;· exact a8B _ _ _ _ _ _ _ h
 split
 ·split;· exact h
  exact a8B _ _ _ _ _ _ _ h
 ·exact h
theorem b2n(bs:List Int)(most:Nat):∀ f out p,ZU8 out->ZU8 (blksF bs most f out p).1
 | 0,out,p,h=>h
 | f+1,out,p,h=>by
  rw[blksF]
  split;· exact h
  split;· exact h
  split;· exact a5M _ _ _ _ _ h
  split
  ·exact b2n bs most f _ _ (a5M _ _ _ _ _ h)
  ·exact a5M _ _ _ _ _ h
theorem b7k(bs:List Int)(most:Int):ZU8 (a0O bs most).1:=by
 unfold a0O
 split;· exact ZU8.nil
 split;· exact ZU8.nil
 exact b2n _ _ _ _ _ ZU8.nil
end Go.Proofs.YtghjlpechjggjaaGreatDoor
namespace Go.Proofs.YtghjlpechjggjaaGreatDoor
open Go.RowKit
theorem b1H(w:World)(A B:Option Addr)(n m c d:Nat)(xs ys:List Int)(hx:RI .u8 w A n xs)(hy:RI .u8 w B m ys)(hn:n<=140737488355328)(hm:m<=140737488355328) :
  Calls Tryz.prog 16 #[.slice A n c,.slice B m d] w fun e w'=>e=.returned (.bool (xs==ys))/\Dr w w':=by
 have lx:=hx.len
 have ly:=hy.len
 by_cases hnm:n=m
 ·subst hnm
  have t0:((n:Int) !=(n:Int))=false:=by simp
  go_enter Tryz.func16,Tryz.ntmps16
  go_wp2
  clear t0
  have HX:=c1n hx
  have HY:=c1n hy
  have LX:=c1n lx
  have LY:=c1n ly
  clear hx hy lx ly
  go_loopw [5] (fun i wr=>∃ k:Nat,k<=n/\i=.int .i64 k/\Hid (∀ j,j<k->nth xs j=nth ys j)/\Hid (Dr w wr)) (fun i _=>n-(intOf i).toNat)
  case atStart=>exact⟨0,by omega,rfl,fun j hj=>by omega,Dr.refl _⟩
  case round=>
   obtain⟨k,hk,rfl,HE,HW⟩:=hrel
   obtain⟨q,rfl⟩:=HW.out
   clear HW
   by_cases hlt:k<n
   ·obtain⟨a,o,rfl,ha⟩:=HX.out.at hlt
    obtain⟨b,o',rfl,hb⟩:=HY.out.at hlt
    by_cases hv:nth xs k=nth ys k
    ·have t1:(nth xs k !=nth ys k)=false:=by simpa using hv
     have HV:=c1n hv
     clear hv
     go_wp2
     go_quiet (fail)
     go_wp2
     go_roundw
     case rel=>exact⟨k+1,by omega,by go_num,b9u HE.out HV.out,⟨_,rfl⟩⟩
     case measure=>simp[intOf];omega
    ·have t1:(nth xs k !=nth ys k)=true:=by simpa using hv
     have HV:=c1n hv
     clear hv
     go_wp2
     go_quiet (fail)
     go_wp2
     go_ret
     rw[b4G xs ys k HV.out]
     exact⟨rfl,Dr.step ⟨_,rfl⟩ _⟩
   ·go_wp2
    go_ret
    rw[b0F xs ys n LX.out LY.out (fun j hj=>HE.out j (by omega))]
    exact⟨rfl,_,rfl⟩
 ·have t0:((n:Int) !=(m:Int))=true:=by simp;omega
  go_enter Tryz.func16,Tryz.ntmps16
  go_wp2
  go_ret
  rw[b3k xs ys (by omega)]
  exact⟨rfl,0,rfl⟩
theorem b3T(w:World)(A:Option Addr)(n c:Nat)(xs:List Int)(hx:RI .u8 w A n xs)(hn:n<=1000000000)(v:Int)(h0:0<=v)(h1:v<18446744073709551616)(k:Nat)(hk:k<=8) :
  Calls Tryz.prog 71 #[.slice A n c,.int .u64 v,.int .i64 k] w fun e w'=>∃ v',e=.returned v'/\w'.ownsRow w.heap.size 5 1 v' (n+k) (ints .u8 (xs++zleB v k))/\Below w.heap.size w w':=by
 have HX:=c1n hx
 have LX:Hid (xs.length=n):=c1n hx.len
 clear hx
 have s0:IntKind.i64.wrap ((n:Int)+(k:Int))=(n:Int)+(k:Int):=c1p _ (by omega)
 have hmk:=fun w=>a1c (P:=Tryz.prog) w 26 5 .u8 1 Tryz.underlying26 (by kernel_rfl) ((n:Int)+(k:Int)) (n+k) (by omega) (by omega) (by omega)
 go_enter Tryz.func71,Tryz.ntmps71
 go_wp2_with (with_reducible refine wpList_copy_splice rfl (.tmp 14) (.tmp 15) _ _ rfl 5 Tryz.underlying26 b1K _ _ _ _ _ _ rfl rfl w.heap.size 0 (ints .u8 (List.replicate (n+k) 0)) 5 ?h1 (ints .u8 xs) ?h2 ?h3 ?h4 ?h5 w.heap.size w ?h6 (Nat.le_refl _) ?_)
 case h1=>exact a0d w _ _
 case h2=>have:=LX.out;simp[ints];omega
 case h3=>
  intro hp
  obtain⟨a,o,ha⟩:=HX.out.hd (by have:=LX.out;simpa [ints,this] using hp)
  refine⟨_,ha,fun j v hv=>?_⟩
  have hj:j<n:=by have:=LX.out;have:=(List.getElem?_eq_some_iff.1 hv).1;simp[ints] at this;omega
  have hc:=HX.out.cell a o ha j hj
  have e:(ints .u8 xs)[j]? =some (.int .u8 (nth xs j)):=by rw[a0e];simp[nth,List.getD,show j<xs.length from by have:=LX.out;omega]
  rw[e] at hv
  rw[<-c1u hv,a0t]
  exact (Keeps.refl [] w).alloc _ |>.cell (by simp) hc
 case h4=>have:=LX.out;simp[ints];omega
 case h5=>intro v hv;simp only[ints,List.mem_map] at hv;obtain⟨x,_,rfl⟩:=hv;rfl
 case h6=>exact (Below.refl _ _).alloc (Nat.le_refl _) _
 intro w1 hg1 hb1
 have hB:Blk w1 w.heap.size 5 (splice (ints .u8 (List.replicate (n+k) 0)) 0 (ints .u8 xs)):=hg1.out
 have hsp:splice (ints .u8 (List.replicate (n+k) 0)) 0 (ints .u8 xs)=ints .u8 (xs++List.replicate k 0):=by
  have:=LX.out
  simp[splice,ints,this]
 rw[hsp] at hB
 have HB0:=c1n hB
 have HB1:=c1n hb1
 clear hg1 hsp hB hb1 hmk
 obtain⟨g,hg⟩:∃ z,z=w.heap.size:=⟨_,rfl⟩
 rw[<-hg] at HB0 ⊢
 have HG:=c1n hg
 clear hg
 go_wp2_with fail
 go_loopw [8] (fun iv wr=>∃ (i:Nat),i<=k/\iv=.int .i64 i/\Hid (Blk wr g 5 (ints .u8 (xs++(zleB v i++List.replicate (k-i) 0))))/\Hid (Below w.heap.size w wr)) (fun iv _=>k-(intOf iv).toNat)
 case atStart=>exact⟨0,by omega,rfl,c1n (by simpa [zleB] using HB0.out),HB1⟩
 case round=>
  clear HB0 HB1
  obtain⟨i,hi,rfl,HO,HB⟩:=hrel
  by_cases hlt:i<k
  ·have e0:decide (i<k)=true:=by simpa using hlt
   have c0:=HO.out.cell (n+i)
   have hz:(ints .u8 (xs++(zleB v i++List.replicate (k-i) 0)))[n+i]? =some (.int .u8 0):=by
    rw[a0e,List.getElem?_append_right (by have:=LX.out;omega),List.getElem?_append_right (by rw[a0L];have:=LX.out;omega),a0L]
    simp[List.getElem?_replicate,LX.out];omega
   rw[hz] at c0
   have f0:=HO.out.frozen (n+i)
   clear hz
   have s1:IntKind.i64.wrap ((n:Int)+(i:Int))=((n+i:Nat):Int):=by rw[c1p _ (by omega)];omega
   have s2:IntKind.i64.wrap (8*(i:Int))=8*(i:Int):=c1p _ (by omega)
   have hbl:Blk (wr.setCell ⟨g,n+i,none⟩ (.int .u8 (v/2^(8*i)%256))) g 5 (ints .u8 (xs++(zleB v (i+1)++List.replicate (k-(i+1)) 0))):=by
    have hs:=HO.out.set (n+i) (.int .u8 (v/2^(8*i)%256))
    have e:(ints .u8 (xs++(zleB v i++List.replicate (k-i) 0))).set (n+i) (.int .u8 (v/2^(8*i)%256))=ints .u8 (xs++(zleB v (i+1)++List.replicate (k-(i+1)) 0)):=by
     rw[show v/2^(8*i)%256=v/256^i%256 by rw[Int.pow_mul];rfl]
     unfold ints
     rw[<-List.map_set,List.set_append_right _ _ (by have:=LX.out;omega),List.set_append_right _ _ (by rw[a0L];have:=LX.out;omega),a0L,b0u,show n+i-xs.length-i=0 by have:=LX.out;omega,
      show k-i=(k-(i+1))+1 by omega,List.replicate_succ,List.set_cons_zero,List.append_assoc]
     rfl
    rw[e] at hs
    exact hs
   have HO2:=c1n hbl
   have HB2:=c1n (HB.out.setCell (p:=⟨g,n+i,none⟩) (by have:=HG.out;simp;omega) (.int .u8 (v/2^(8*i)%256)))
   clear hbl
   go_wp2_with fail
   go_roundw
   case rel=>exact⟨i+1,by omega,by go_num,HO2,HB2⟩
   case measure=>simp[intOf];omega
  ·obtain rfl:i=k:=by omega
   have e0:decide (i<i)=false:=by simp
   go_wp2_with fail
   go_ret
   refine⟨_,rfl,?_,HB.out⟩
   have hb:=HO.out
   rw[Nat.sub_self,List.replicate_zero,List.append_nil] at hb
   rw[<-HG.out]
   exact b4K (xs:=xs++zleB v i) (ys:=[]) (by rw[List.append_nil];exact hb) (by first|exact Nat.le_refl _|omega) (by rw[c1t,a0L,LX.out]) (by simp) (by omega)
theorem a8R:∀ n r,bitN (n+1) r=bit1 (bitN n r)
 | 0,_=>rfl
 | n+1,r=>a8R n (bit1 r)
theorem b1k(w:World)(A:Option Addr)(n c:Nat)(xs:List Int)(hx:RI .u8 w A n xs)(hb:∀ x∈xs,0<=x/\x<=255)(hn:n<=1000000000) :
  Calls Tryz.prog 70 #[.int .u32 0,.slice A n c] w fun e w'=>e=.returned (.int .u32 ((crcF xs:Nat):Int))/\w'=w:=by
 have HX:=c1n hx
 have HB:=c1n hb
 have HL:Hid (xs.length=n):=c1n hx.len
 clear hx hb
 have n0:bits .xor .u32 IntKind.u32.max 0=4294967295:=by decide +kernel
 go_enter Tryz.func70,Tryz.ntmps70
 go_wp2_with fail
 go_loopw [5,6] (fun rv iv wr=>∃ (i r:Nat),i<=n/\r<4294967296/\rv=.int .u32 (r:Int)/\iv=.int .i64 i/\Hid (r=crcGo 4294967295 (xs.take i))/\wr=w) (fun _ iv _=>n-(intOf iv).toNat)
 case atStart=>exact⟨0,4294967295,by omega,by omega,by simp,rfl,c1n (by rw[List.take_zero,a9i]),rfl⟩
 case round=>
  obtain⟨i,r,hi,hr,rfl,rfl,HR,rfl⟩:=hrel
  by_cases hlt:i<n
  ·have e0:decide (i<n)=true:=by simpa using hlt
   obtain⟨b,o,rfl,hc⟩:=HX.out.at hlt
   have hbx:=HB.out (nth xs i) (by rw[a0q (by rw[HL.out];exact hlt)];exact c1y _)
   obtain⟨x,hxx⟩:∃ x:Nat,nth xs i=(x:Int):=⟨(nth xs i).toNat,by omega⟩
   have hstep:crcGo 4294967295 (xs.take (i+1))=bitN 8 (r ^^^ x):=by
    rw[List.take_succ_eq_append_getElem (by rw[HL.out];exact hlt),a1L,<-HR.out,<-a0q (by rw[HL.out];exact hlt),hxx];rfl
   rw[hxx] at hc hbx
   have c1:bits .xor .u32 (r:Int) (x:Int)=((r ^^^ x:Nat):Int):=u32_xor_nat r x hr (by omega)
   have hr1:r ^^^ x<4294967296:=a2j hr (by omega)
   generalize r ^^^ x=r1 at *
   have HST:=c1n hstep.symm
   have hx8:x<256:=by omega
   clear hstep HR hbx hxx
   go_wp2_with fail
   go_loopw [5,7] (fun rv kv wq=>∃ (k q:Nat),k<=8/\q<4294967296/\rv=.int .u32 (q:Int)/\kv=.int .i64 k/\Hid (q=bitN k r1)/\wq=wr) (fun _ kv _=>8-(intOf kv).toNat)
   case atStart=>exact⟨0,r1,by omega,hr1,rfl,rfl,c1n rfl,rfl⟩
   case round=>
    obtain⟨k,q,hk,hq,rfl,rfl,HQ,rfl⟩:=hrel
    by_cases hk8:k<8
    ·have e1:decide ((k:Int)<8)=true:=by simp;omega
     have e1':decide (k<8)=true:=by simpa using hk8
     have a1:bits .and .u32 (q:Int) 1=((q%2:Nat):Int):=by
      have:=u32_and_nat q 1 hq (by decide)
      rw[show q &&& 1=q%2 from Nat.and_two_pow_sub_one_eq_mod q 1] at this
      exact this
     have d1:(q:Int)/2=((q/2:Nat):Int):=by omega
     have HN:Hid (bit1 q=bitN (k+1) r1):=c1n (by rw[a8R,<-HQ.out])
     by_cases h2:q%2=1
     ·have b1:bit1 q=q/2 ^^^ crcP:=by unfold bit1;rw[if_pos h2]
      have x1:bits .xor .u32 ((q/2:Nat):Int) 3988292384=((bit1 q:Nat):Int):=by rw[b1];exact u32_xor_nat (q/2) 3988292384 (by omega) (by decide)
      have hb1:=a7R hq
      have t1:(((q%2:Nat):Int)==1)=true:=by rw[h2];rfl
      clear b1 h2
      generalize bit1 q=q' at *
      generalize hq2:q/2=qh at *
      generalize hqm:q%2=qm at *
      have t1':((qm:Int)==1)=true:=t1
      clear hq2 hqm
      go_wp2_with fail
      go_roundw
      case rel=>exact⟨k+1,q',by omega,hb1,rfl,by go_num,HN,by trivial⟩
      case measure=>simp[intOf];omega
     ·have b1:bit1 q=q/2:=by unfold bit1;rw[if_neg h2]
      have hm0:q%2=0:=by omega
      have t1:(((q%2:Nat):Int)==1)=false:=by rw[hm0];rfl
      have hb1:=a7R hq
      rw[<-b1] at d1
      clear b1 h2 hm0
      generalize bit1 q=q' at *
      generalize hqm:q%2=qm at *
      clear hqm
      go_wp2_with fail
      go_roundw
      case rel=>exact⟨k+1,q',by omega,hb1,rfl,by go_num,HN,by trivial⟩
      case measure=>simp[intOf];omega
    ·obtain rfl:k=8:=by omega
     have e1:decide (((8:Nat):Int)<8)=false:=by decide
     have HQ2:Hid (q=crcGo 4294967295 (xs.take (i+1))):=c1n (by rw[HQ.out,HST.out])
     clear HQ HST hc
     go_wp2_with fail
     go_roundw
     case rel=>exact⟨i+1,q,by omega,hq,rfl,by go_num,HQ2,by trivial⟩
     case measure=>simp[intOf];omega
  ·obtain rfl:i=n:=by omega
   have e0:decide (i<i)=false:=by simp
   have hre:bits .xor .u32 IntKind.u32.max (r:Int)=((crcF xs:Nat):Int):=by
    rw[show IntKind.u32.max=4294967295 from rfl]
    have h1:=u32_xor_nat 4294967295 r (by decide) hr
    have h2:xs.take i=xs:=List.take_of_length_le (by rw[HL.out];omega)
    have h3:=HR.out
    rw[h2] at h3
    unfold crcF
    rw[<-h3]
    exact h1
   go_wp2_with fail
   go_ret
   exact⟨rfl,rfl⟩
theorem b4f(w:World)(A:Option Addr)(n c:Nat)(xs:List Int)(hx:RI .u8 w A n xs)(hb:∀ x∈xs,0<=x/\x<=255)(hn:n<=1000000000) :
  Calls Tryz.prog 45 #[.slice A n c] w fun e w'=>e=.returned (.int .u32 ((crcF xs:Nat):Int))/\w'=w:=by
 have HC:=c1n (b1k w A n c xs hx hb hn)
 clear hx hb
 go_enter Tryz.func45,Tryz.ntmps45
 go_wp2_with fail
 refine HC.out.mono ?_
 rintro _ w' ⟨rfl,rfl⟩
 go_wp2_with fail
 go_ret
 exact⟨rfl,rfl⟩
end Go.Proofs.YtghjlpechjggjaaGreatDoor
namespace Go.Proofs.YtghjlpechjggjaaGreatDoor
open Go.ChangeShapes Go.WideShapes Go.ChangeAt Go.RowKit
theorem own:ownKnob Tryz.prog.godebug=none:=by kernel_rfl
abbrev theLaid : List (String × DataW Unit) := [("haversack/lens.order", Rows.laid_haversack_lens_order), ("haversack/lens.wide", Rows.laid_haversack_lens_wide), ("haversack/lens.from", Rows.laid_haversack_lens_from)]
theorem a7U:Tryz.prog.cellsOf 164=19:=by kernel_rfl
theorem a7V:Tryz.prog.cellsOf 3=1:=by kernel_rfl
theorem c0w : Tryz.prog.globalNamed "haversack/lens.from" = some 4 := by kernel_rfl
theorem c0x : Tryz.prog.globalNamed "haversack/lens.wide" = some 2 := by kernel_rfl
theorem b8F : Tryz.prog.globalNamed "haversack/lens.order" = some 1 := by kernel_rfl
theorem c1h:(Tryz.prog.globals[4]?).map (·.type)=some 164:=by kernel_rfl
theorem c1i:(Tryz.prog.globals[2]?).map (·.type)=some 164:=by kernel_rfl
theorem c0P:(Tryz.prog.globals[1]?).map (·.type)=some 164:=by kernel_rfl
theorem a6D{W:World}{g:Nat}{zs:List Int}(hl:zs.length=19)(h:∀ i,i<zs.length->W.cell? ⟨g,i,none⟩=some (.int .i64 (zs.getD i 0))):RI .i64 W (some ⟨g,0,none⟩) 19 zs:=
 ⟨hl,fun _=>⟨_,_,rfl⟩,fun b o ha j hj=>by
  injection ha with ha;injection ha with h1 h2 h3;subst h1;subst h2
  rw[Nat.zero_add];exact h j (by omega)⟩
theorem b9W{W:World}(h:laidMet Tryz.prog theLaid W):Tabs W:=by
 have h1 : laidMet Tryz.prog [("haversack/lens.from", Lib.tabData .i64 a8f)] W := laidMet.filter (fun x => x.1 == "haversack/lens.from") h
 have h2 : laidMet Tryz.prog [("haversack/lens.wide", Lib.tabData .i64 a4U)] W := laidMet.filter (fun x => x.1 == "haversack/lens.wide") h
 have h3 : laidMet Tryz.prog [("haversack/lens.order", Lib.tabData .i64 orderL)] W := laidMet.filter (fun x => x.1 == "haversack/lens.order") h
 have t1:=Lib.tabIs_of_head (rest:=[]) c0w c1h Tryz.underlying164 Tryz.underlying3 a7V a7U h1
 have t2:=Lib.tabIs_of_head (rest:=[]) c0x c1i Tryz.underlying164 Tryz.underlying3 a7V a7U h2
 have t3:=Lib.tabIs_of_head (rest:=[]) b8F c0P Tryz.underlying164 Tryz.underlying3 a7V a7U h3
 exact⟨a6D rfl (t1.cell c0w),a6D rfl (t2.cell c0x),a6D rfl (t3.cell b8F)⟩
def b6d(zs:List Int):Obj->Obj
 | .cells _ t frozen=>.cells (ints .i64 zs).toArray t frozen
 | o=>o
noncomputable def laidWorld (os:Os):World:=
 { World.holding Tryz.prog os ⟨#[],#[],[]⟩ with heap:=(((World.holding Tryz.prog os ⟨#[],#[],[]⟩).heap.modify 4 (b6d a8f)).modify 2 (b6d a4U)).modify 1 (b6d orderL) }
end Go.Proofs.YtghjlpechjggjaaGreatDoor
namespace Go.Proofs.YtghjlpechjggjaaGreatDoor
open Go.ChangeShapes Go.WideShapes Go.ChangeAt Go.RowKit
end Go.Proofs.YtghjlpechjggjaaGreatDoor
namespace Go.Proofs.YtghjlpechjggjaaGreatDoor
open Go.ChangeShapes Go.WideShapes Go.ChangeAt Go.RowKit
end Go.Proofs.YtghjlpechjggjaaGreatDoor
namespace Go.Proofs.YtghjlpechjggjaaGreatDoor
open Go.ChangeShapes Go.WideShapes Go.ChangeAt Go.RowKit
theorem b6W:Tryz.prog.cellsOf 49=1:=by kernel_rfl
theorem b4P:Tryz.prog.cellsOf 129=16:=by kernel_rfl
theorem b8G : Tryz.prog.globalNamed "haversack/little.steps" = some 0 := by kernel_rfl
theorem c0Q:(Tryz.prog.globals[0]?).map (·.type)=some 129:=by kernel_rfl
theorem c1j {W : World} (h : laidMet Tryz.prog theLaid W) (h4 : laidMet Tryz.prog [("haversack/little.steps", Rows.laid_haversack_little_steps)] W) : Tabz W := by
 have h1 : laidMet Tryz.prog [("haversack/little.steps", Lib.tabData .u32 stepsL)] W := h4
 have t4:=Lib.tabIs_of_head (rest:=[]) b8G c0Q Tryz.underlying129 Tryz.underlying49 b6W b4P h1
 refine⟨b9W h,rfl,fun _=>⟨_,_,rfl⟩,fun b o ha j hj=>?_⟩
 injection ha with ha;injection ha with q1 q2 q3;subst q1;subst q2
 rw[Nat.zero_add]
 exact t4.cell b8G j hj
def b1J(k:IntKind)(zs:List Int):Obj->Obj
 | .cells _ t frozen=>.cells (ints k zs).toArray t frozen
 | o=>o
def b9K:List Int:=[128,191,160,191,128,159,144,191,128,143]++List.replicate 22 0
noncomputable def laidWorldZ (os:Os):World:=
 { laidWorld os with heap:=(((laidWorld os).heap.modify 0 (b1J .u32 stepsL)).modify 6 (b1J .u8 b9K)).modify 5 (b1J .u8 (Go.Pinned.utf8FirstZ.map Int.ofNat)) }
theorem c0y(os:Os)(args:Array Value):laidMet Tryz.prog Rows.zipNamesRow.laid ((laidWorldZ os).forCall (fun _ _=>0) ⟨#[],args,[]⟩).memory:=
 laidMet_of_run3 16 (by kernel_rfl) (by kernel_rfl) (by kernel_rfl)
theorem a6U{H:Type}{P:Program}{e:TypeId}{d:DataW H}:∀ {l:List (DataW H)},d∈l->∀ {x},x∈d.weights P e->x∈DataW.weightsAll P e l
 | y::l,h,x,hx=>by
  rw[DataW.weightsAll,List.mem_append]
  rcases List.mem_cons.1 h with rfl|h
  ·exact .inl hx
  ·exact .inr (a6U h hx)
theorem b8E {H:Type} {enc:TypeId×Value->H} {W:World} {a0:Option Addr} {len0 cap0:Nat} {d:DataW H} {p:List MemPlace}
  (h:DataW.Trod enc Tryz.prog W 0 (fun _=>true) true 24 (Value.slice a0 len0 cap0) d p) (hwt:∀ x∈d.weights Tryz.prog 24,x<=reachBytes) :
  ∃ xs:List EN,RW 2 ecells W a0 len0 xs/\len0<=8796093022208/\(∀ e∈xs,e.1.size<=140737488351232/\e.2.size<=140737488351232)/\(a0=none->len0=0/\cap0=0):=by
 obtain⟨fuel,hf⟩:=h
 rcases Go.Deep.open_slice Tryz.underlying24 hf with⟨hcs,_⟩|⟨a,len,cap,m,n,D,Pl,hcs,_,hl,hm,hmm,hxd,hcell⟩
 ·simp[Value.cells] at hcs
  obtain⟨rfl,rfl,rfl⟩:=hcs
  exact⟨[],⟨rfl,by omega,by simp⟩,by omega,by simp,fun _=>⟨rfl,rfl⟩⟩
 ·simp[Value.cells] at hcs
  obtain⟨rfl,rfl,rfl⟩:=hcs
  have hm':m=cap0:=by simpa using hmm
  have ce:Tryz.prog.cellsOf 34=2:=by kernel_rfl
  have c0:Tryz.prog.cellsOf 9=1:=by kernel_rfl
  have be:Tryz.prog.bytesOf 34=32:=by kernel_rfl
  injection hxd with hd hpp
  subst hd
  have hwl:len0<=8796093022208:=by
   have:=hwt ((((List.range len0).map D).length+((List.range (m-len0)).map fun j=>D (len0+j)).length)*Tryz.prog.bytesOf 34) (by simp[DataW.weights,Tryz.underlying24])
   rw[be] at this
   simp[reachBytes] at this
   omega
  have hwd:∀ i,i<len0->∀ x∈(D i).weights Tryz.prog 34,x<=reachBytes:=fun i hi x hx=>by
   refine hwt x ?_
   simp only[DataW.weights,Tryz.underlying24,List.mem_cons,List.mem_append]
   exact .inr (.inl (a6U (List.mem_map.2 ⟨i,List.mem_range.2 hi,rfl⟩) hx))
  have each:∀ i,i<len0->∃ q:EN,(W.cell? (a.add (i*2))=some (.string q.1)/\W.cell? (a.add (i*2+1))=some (.string q.2))/\q.1.size<=140737488351232/\q.2.size<=140737488351232:=by
   intro i hi
   obtain⟨cs',h1,h2⟩:=hcell i (by omega)
   rw[ce] at h1
   obtain⟨_,hlen,hc⟩:=World.cells?_some h1
   obtain⟨xs,k,hk,hxy,hxx,hxl,hf⟩:=DataW.trod_struct Tryz.underlying34 h2
   match xs,hxl,cs',hlen with
   | [y0,y1],_,[v0,v1],_=>
    have g0:=hf 0 _ rfl
    have g1:=hf 1 _ rfl
    simp[c0] at g0 g1
    have e0:=hc 0 (by omega)
    have e1:=hc 1 (by omega)
    rw[Go.Deep.add_add] at e0 e1
    obtain⟨s0,q0,z0,w0⟩:=DataW.trod_string Tryz.underlying9 g0
    obtain⟨s1,q1,z1,w1⟩:=DataW.trod_string Tryz.underlying9 g1
    injection q0 with q0;injection q1 with q1
    subst q0 q1
    have hwi:=hwd i hi
    injection hxy with hD _
    rw[hD,z0,z1] at hwi
    have k0:=hwi s0.data.toList.length (by simp[DataW.weights,DataW.weightsEach,Tryz.underlying34])
    have k1:=hwi s1.data.toList.length (by simp[DataW.weights,DataW.weightsEach,Tryz.underlying34])
    simp only[reachBytes,Array.length_toList] at k0 k1
    exact⟨(s0,s1),⟨by simpa using e0,by simpa using e1⟩,k0,k1⟩
  let f:Nat->EN:=fun i=>if h:i<len0 then Classical.choose (each i h) else (⟨#[]⟩,⟨#[]⟩)
  have hfs:∀ i,i<len0->(W.cell? (a.add (i*2))=some (.string (f i).1)/\W.cell? (a.add (i*2+1))=some (.string (f i).2))/\(f i).1.size<=140737488351232/\(f i).2.size<=140737488351232:=by
   intro i hi
   simp only[f,hi,dite_true]
   exact Classical.choose_spec (each i hi)
  refine⟨(List.range len0).map f,⟨by simp,fun hp=>?_,fun b o ha j hj i hi=>?_⟩,by omega,fun t ht=>?_,by simp⟩
  ·obtain⟨b,off,spot⟩:=a
   have hspot:spot=none:=by simpa [Addr.add] using World.cell?_spot (hfs 0 hp).1.1
   subst hspot
   exact⟨_,_,rfl⟩
  ·obtain rfl:=c1u ha
   have hj':j<len0:=by simpa using hj
   have hp:((List.range len0).map f)[j]=f j:=by simp
   rw[hp,Nat.add_assoc,<-a0t]
   obtain rfl|rfl:i=0∨i=1:=by omega
   ·exact (hfs j hj').1.1
   ·exact (hfs j hj').1.2
  ·obtain⟨i,hi,rfl⟩:=List.mem_map.1 ht
   exact (hfs i (List.mem_range.1 hi)).2
end Go.Proofs.YtghjlpechjggjaaGreatDoor
namespace Go.Proofs.YtghjlpechjggjaaGreatDoor
open Go.RowKit
def flatF(ps:List (Int×Nat)):List Int:=ps.flatMap fun p=>[p.1,(p.2:Int)]
def a2e(ps:List (Int×Nat)):List Int:=ps.flatMap fun p=>zleB p.1 p.2
theorem b4Z(ps:List (Int×Nat)):(flatF ps).length=ps.length*2:=by
 induction ps with
 | nil=>rfl
 | cons p ps ih=>rw[flatF,List.flatMap_cons,c1t,show ps.flatMap (fun p=>[p.1,(p.2:Int)])=flatF ps from rfl,ih,List.length_cons];simp;omega
theorem a9o:∀ (ps:List (Int×Nat)) (j:Nat) (hj:j<ps.length),nth (flatF ps) (j*2)=ps[j].1/\nth (flatF ps) (j*2+1)=(ps[j].2:Int)
 | [],j,hj=>by simp at hj
 | p::ps,0,hj=>by unfold flatF nth;simp
 | p::ps,j+1,hj=>by
  have ih:=a9o ps j (by simpa using hj)
  have e:∀ i,nth (flatF (p::ps)) (i+2)=nth (flatF ps) i:=fun i=>by unfold flatF nth;simp[List.getD]
  rw[show (j+1)*2=j*2+2 by omega,e,show j*2+2+1=j*2+1+2 by omega,e]
  exact ih
theorem b3A(ps:List (Int×Nat))(p:Int×Nat):a2e (ps++[p])=a2e ps++zleB p.1 p.2:=by simp[a2e]
theorem b0Y (w:World) (A:Option Addr) (n c:Nat) (xs:List Int) (hx:RI .u8 w A n xs) (hn:n<=900000000) (B:Option Addr) (m d:Nat) (ps:List (Int×Nat)) (hp:RI .i64 w B m (flatF ps)) (h0:0<ps.length) (h1:ps.length<=1000)
  (hv:∀ p∈ps,0<=p.1/\p.1<18446744073709551616/\p.2<=8) :
  Calls Tryz.prog 46 #[.slice A n c,.slice B m d] w fun e w'=>∃ v',e=.returned v'/\w'.ownsRow w.heap.size 5 1 v' (n+(a2e ps).length) (ints .u8 (xs++a2e ps))/\Below w.heap.size w w':=by
 have HX:=c1n hx
 have HP:=c1n hp
 have HV:=c1n hv
 have hm:m=ps.length*2:=by rw[<-hp.len,b4Z]
 have HM:=c1n hm
 have hm1:m<=2000:=by omega
 clear hx hp hv hm
 go_enter Tryz.func46,Tryz.ntmps46
 go_wp2_with fail
 go_loopw [0,5] (fun bv iv wr=>∃ (j n1:Nat) (A1:Option Addr) (c1:Nat),j<=ps.length/\iv=.int .i64 ((j*2:Nat):Int)/\bv=.slice A1 n1 c1/\Hid (n1=n+(a2e (ps.take j)).length)/\n1<=n+j*8/\Hid (RI .u8 wr A1 n1 (xs++a2e (ps.take j)))/\Hid (0<j->wr.ownsRow w.heap.size 5 1 (.slice A1 n1 c1) n1 (ints .u8 (xs++a2e (ps.take j))))/\Hid (Below w.heap.size w wr)) (fun _ iv _=>m+1-(intOf iv).toNat)
 case atStart=>exact⟨0,n,A,c,by omega,rfl,rfl,c1n (by simp[a2e]),by omega,c1n (by simpa [a2e] using HX.out),c1n (by omega),c1n (Below.refl _ _)⟩
 case round=>
  obtain⟨j,n1,A1,c1,hj,rfl,rfl,HN1,hn1,HR,HO,HB⟩:=hrel
  by_cases hlt:j<ps.length
  ·obtain⟨g0,g1⟩:=a9o ps j hlt
   have hmm:=HM.out
   obtain⟨b,o,rfl,hc0⟩:=(HP.out.keeps (Keeps.of_below HB.out (S:=[])) (a0a _)).at (j:=j*2) (by omega)
   obtain⟨b',o',hbo,hc1⟩:=(HP.out.keeps (Keeps.of_below HB.out (S:=[])) (a0a _)).at (j:=j*2+1) (by omega)
   injection hbo with hbo;injection hbo with e1 e2 e3;subst e1;subst e2
   rw[g0] at hc0
   rw[g1] at hc1
   obtain⟨q0,q1,q2⟩:=HV.out ps[j] (c1y _)
   have HTK:Hid (a2e (ps.take (j+1))=a2e (ps.take j)++zleB ps[j].1 ps[j].2):=c1n (by rw[List.take_succ_eq_append_getElem hlt,b3A])
   generalize ps[j]=p at *
   obtain⟨v,k⟩:=p
   dsimp only at hc0 hc1 q0 q1 q2 HTK
   obtain⟨J,hJ⟩:∃ z,z=j*2:=⟨_,rfl⟩
   rw[<-hJ] at hc0 hc1 ⊢
   have hJm:J+1<m:=by omega
   have s1:IntKind.i64.wrap ((J:Int)+1)=((J+1:Nat):Int):=by rw[c1p _ (by omega)];omega
   have s2:IntKind.i64.wrap ((J:Int)+2)=((J+2:Nat):Int):=by rw[c1p _ (by omega)];omega
   have s3:IntKind.u64.wrap v=v:=IntWalk.u64_in _ (by omega)
   have e0:decide (((J+1:Nat):Int)<(m:Int))=true:=decide_eq_true (by omega)
   have e0':decide (J+1<m)=true:=decide_eq_true hJm
   have HJ:=c1n hJ
   have hw:=HB.out.size
   clear g0 g1 hJ hmm
   go_upto_region 4 with (fail)
   refine a1x 11 (by kernel_rfl) (by kernel_rfl) ?_
   simp only[List.take_succ_cons,List.take_zero,List.drop_succ_cons,List.drop_zero]
   repeat (go_big_quiet_step (fail))
   refine wpQuiet_nil ?_
   go_wp2_with fail
   refine (b3T wr.drew A1 n1 c1 _ (HR.out.keeps (Keeps.refl [] wr).drew (a0a _)) (by omega) v q0 q1 k q2).mono ?_
   rintro _ w2 ⟨v2,rfl,ho2,hb2⟩
   obtain⟨A2,c2,hv2,hr2⟩:=a0n ho2
   subst hv2
   rw[List.append_assoc,<-HTK.out] at ho2 hr2
   have HO2:=c1n (a0u ho2 (show w.heap.size<=wr.drew.heap.size from hw))
   have HR2:=c1n hr2
   have hb2':Below w.heap.size wr w2:=a0c ((Keeps.refl [] wr).drew.trans (Keeps.of_below hb2)) hw (by simp)
   have HB2:=c1n (HB.out.trans hb2')
   have HN2:Hid (n1+k=n+(a2e (ps.take (j+1))).length):=c1n (by rw[HTK.out,c1t,a0L,HN1.out];omega)
   clear ho2 hr2 hb2 hb2' HR HO HB HN1 hc0 hc1 s1 s3
   go_wp2_with fail
   go_roundw
   case rel=>exact⟨j+1,n1+k,A2,c2,by omega,by have:=HJ.out;rw[show (j+1)*2=J+2 by omega];first|rfl|go_num,rfl,HN2,by omega,HR2,c1n (fun _=>HO2.out),HB2⟩
   case measure=>have:=HJ.out;simp[intOf];omega
  ·have hjp:j=ps.length:=by omega
   have hmm:=HM.out
   have hj2:j*2=m:=by omega
   rw[hj2]
   have s1:IntKind.i64.wrap ((m:Int)+1)=((m+1:Nat):Int):=by rw[c1p _ (by omega)];omega
   have e0:decide (((m+1:Nat):Int)<(m:Int))=false:=decide_eq_false (by omega)
   have e0':decide (m+1<m)=false:=decide_eq_false (by omega)
   have HOF:Hid (wr.ownsRow w.heap.size 5 1 (.slice A1 n1 c1) (n+(a2e ps).length) (ints .u8 (xs++a2e ps))):=c1n (by
    have h:=HO.out (by omega)
    rw[HN1.out,hjp,List.take_length] at h
    have e:=HN1.out
    rw[hjp,List.take_length] at e
    rw[e];exact h)
   clear hjp hj2 hmm
   go_wp2_with fail
   go_ret
   exact⟨_,rfl,HOF.out,HB.out⟩
end Go.Proofs.YtghjlpechjggjaaGreatDoor
