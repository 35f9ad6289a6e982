import Derived.Test.YtghjlpechjggjaaGreatDoorZipWritesA
import Derived.Test.YtghjlpechjggjaaGreatDoorZshP
import Derived.Laws.BitsAllLaws
import Derived.Test.YtghjlpechjggjaaGreatDoorZshN
import Derived.Test.YtghjlpechjggjaaGreatDoorZshO
import Derived.Test.YtghjlpechjggjaaGreatDoorZshH
set_option linter.defProp false
set_option linter.unnecessarySimpa false
set_option linter.unusedVariables false
set_option linter.unusedSimpArgs false
set_option linter.constructorNameAsVariable false
set_option maxRecDepth 100000
set_option maxHeartbeats 60000000
namespace Go.Proofs.YtghjlpechjggjaaGreatDoor
open Go.RowKit
private def c1n := @Lib.hid
private def c1o := @decide_eq_false
private def c1p := @Option.mem_toList
private def c1q := @decide_eq_true
private def c1r := @IntWalk.i64_in
open Go.RowKit
theorem small_of{l:List EN}(h:a6d l=false):l.length<=16777216/\∀ e∈l,e.1.size<=1000000000/\e.2.size<=1000000000:=by
 unfold a6d at h
 have h:=of_decide_eq_false h
 exact⟨by omega,fun e he=>by have:=c0V he;omega⟩
theorem zipCuts_walk(w:World)(A:Option Addr)(n c:Nat)(l:List EN)(cut:Int)(hT:Tabz w)(h:RW 2 ecells w A n l)(hm:n<=8796093022208)(hs:∀ e∈l,e.1.size<=140737488351232/\e.2.size<=140737488351232)(hnil:A=none->n=0/\c=0)(hk:(Lit.int .i64 cut).wf=true) :
  Calls Tryz.prog 5 #[.slice A n c,.int .i64 cut] w fun e w'=>e=.returned (.bool true)/\Keeps [] w w':=by
 have HT:=c1n hT
 have H:=c1n h
 have HL:=c1n h.len
 have HS:=c1n hs
 obtain⟨i1,i2⟩:=int_ofwf hk
 clear hT h hs hnil hk
 go_enter Tryz.func5,Tryz.ntmps5
 go_wp2_with fail
 refine (b8K w A n c l H.out (by omega) (fun e he=>⟨by have:=(HS.out e he).1;omega,by have:=(HS.out e he).2;omega⟩)).mono ?_
 rintro _ w1 ⟨rfl,hd1⟩
 have K1:=c1n (hd1.keeps (S:=[]))
 clear hd1
 cases hlg:a6d l with
 | true=>
  clear hlg
  go_wp2_with fail
  refine (b8w w1 (HT.out.keeps K1.out (by simp))).mono ?_
  rintro _ w2 ⟨rfl,hk2⟩
  go_wp2_with fail
  go_ret
  exact⟨rfl,K1.out.trans hk2⟩
 | false=>
 obtain⟨hn,hsz⟩:=small_of hlg
 rw[HL.out] at hn
 have HSZ:=c1n hsz
 clear hlg hsz HS hm
 by_cases hc:a0s l=0
 case neg=>
  have e0:(a0s l !=0)=true:=by simpa using hc
  have HC:=c1n hc
  clear hc
  go_wp2_with fail
  refine (b6H w1 A n c l (H.out.keeps a0j K1.out (a0a _)) (by omega) HSZ.out (HT.out.keeps K1.out (by simp)) HC.out).mono ?_
  rintro _ w2 ⟨rfl,hb2⟩
  have K2:=c1n (K1.out.trans (Keeps.of_below hb2 (S:=[])))
  clear hb2 HC
  generalize a0s l=E at *
  go_wp2_with fail
  refine (b8w w2 (HT.out.keeps K2.out (by simp))).mono ?_
  rintro _ w3 ⟨rfl,hk3⟩
  go_wp2_with fail
  go_ret
  exact⟨rfl,K2.out.trans hk3⟩
 have HC:=c1n hc
 clear hc
 go_wp2_with fail
 refine (b0B w1 A n c l (H.out.keeps a0j K1.out (a0a _)) (by omega) HSZ.out (HT.out.keeps K1.out (by simp)) HC.out).mono ?_
 rintro _ w2 ⟨g,nb,cb,xs,es,rfl,hff,hl2,hg2,ho2,hb2⟩
 have K2:=c1n (K1.out.trans (Keeps.of_below hb2 (S:=[])))
 have O2:=c1n ho2
 have HF:=c1n hff
 obtain⟨hl22,hl60⟩:=hff.len
 rw[hl2] at hl22 hl60
 have HLN:=c1n hl2
 have hgw:w.heap.size<=w2.heap.size:=K2.out.size
 clear hff hl2 hg2 ho2 hb2 HC
 have e0:decide ((1048576:Int)<(nb:Int))=false:=c1o (by omega)
 have e0':decide (1048576<nb)=false:=c1o (by omega)
 have e1:decide ((nb:Int)<22)=false:=c1o (by omega)
 have e1':decide (nb<22)=false:=c1o (by omega)
 go_upto_if 43 with (fail)
 go_cut [1] (fun v wc=>∃ K:Nat,v=.int .i64 K/\K<=9223372036854775807/\wc=w2)
 case first=>
  by_cases hz:cut<0
  ·have x0:decide (cut<0)=true:=c1q hz
   have s1:IntKind.i64.wrap (cut+1)=cut+1:=c1r _ (by omega)
   obtain⟨K,hK⟩:∃ K:Nat,-(cut+1)=(K:Int):=⟨(-(cut+1)).toNat,by omega⟩
   have s2:IntKind.i64.wrap (-(cut+1))=(K:Int):=by rw[hK];exact c1r _ (by omega)
   have h3:K<=9223372036854775807:=by omega
   clear hK
   go_wp2_with fail
   go_meet
   exact⟨K,rfl,h3,rfl⟩
  ·have x0:decide (cut<0)=false:=c1o hz
   go_wp2_with fail
   go_meet
   exact⟨cut.toNat,by rw[Int.toNat_of_nonneg (by omega)],by omega,rfl⟩
 case rest=>
  obtain⟨K,rfl,hK,rfl⟩:=hcut
  obtain⟨R,hR⟩:∃ R,R=K%nb:=⟨_,rfl⟩
  have hRn:R<nb:=by rw[hR];exact Nat.mod_lt _ (by omega)
  have r1':(K:Int)%(nb:Int)=(R:Int):=by rw[hR];exact (Int.natCast_emod K nb).symm
  have r1:Int.tmod (K:Int) (nb:Int)=(R:Int):=by rw[Int.tmod_eq_emod_of_nonneg (by omega)];exact r1'
  obtain⟨M,hM⟩:∃ M,M=nb-(1+R):=⟨_,rfl⟩
  have r2:IntKind.i64.wrap (1+(R:Int))=1+(R:Int):=c1r _ (by omega)
  have r3:IntKind.i64.wrap ((nb:Int)-(1+(R:Int)))=(M:Int):=by rw[c1r _ (by omega)];omega
  have hMn:M<nb:=by omega
  have hcap:=b1o O2.out
  have hsl:∀ W,(Instr.slice 26 (.slice (some ⟨g,0,none⟩) nb cb) none (some (.int .i64 (M:Int))) none).run Tryz.prog W=.ok (.slice (some ⟨g,0,none⟩) M cb) W:=fun W=>slice_to8 W _ nb cb M _ rfl (by omega) hcap
  have hcutF:=HF.out.cut (m:=M) (by rw[HLN.out];exact hMn)
  have hzb:ZB wc (some ⟨g,0,none⟩) M cb (xs.take M):=⟨(b1q O2.out).take (by omega),hcap.to (by omega),fun x hx=>HF.out.u8 x (List.mem_of_mem_take hx),by omega,fun a ha=>(b2G O2.out a ha).2⟩
  obtain⟨E,hE⟩:∃ E,E=(a2k (xs.take M)).2:=⟨_,rfl⟩
  have HF3:=c1n (b4v wc (some ⟨g,0,none⟩) M cb (xs.take M) hzb (HT.out.keeps K2.out (by simp)) (l:=[]) (E:=E) (by rw[hE,<-hcutF.2]))
  have t0:(E !=0)=true:=by rw[hE];simpa using hcutF.1
  clear hcutF hzb hE hR hM hK e0 e0' e1 e1' i1 i2 hcap
  go_wp2_with fail
  refine HF3.out.mono ?_
  rintro _ w3 ⟨A3,n3,c3,rfl,hl3,-,-,hb3⟩
  obtain rfl:0=n3:=hl3
  have k3:=Keeps.of_below hb3 (S:=[])
  have K3:=c1n (K2.out.trans k3)
  have O3:=c1n (a0b O2.out k3 (by simp))
  have hw3:w.heap.size<=w3.heap.size:=K3.out.size
  have L3:Hid (RI .u8 (w3.alloc (.cells #[.int .u8 80] 5)) (some ⟨w3.heap.size,0,none⟩) 1 [80]):=c1n (by
   have:=Blk.ri (xs:=[80]) (ys:=[]) (k:=.u8) (by simpa using a0d w3 5 (ints .u8 [80]))
   exact this)
  have k3':Keeps [] w3 (w3.alloc (.cells #[.int .u8 80] 5)):=(Keeps.refl [] _).alloc _
  have hw3':w3.heap.size<=(w3.alloc (.cells #[.int .u8 80] 5)).heap.size:=k3'.size
  have O3':=c1n (a0b O3.out k3' (by simp))
  have K3':=c1n (K3.out.trans k3')
  clear hb3 k3 k3' HF3 K2 O2 r1 r1' r2 r3 hsl O3 K3
  go_wp2_with (at_builtin;refine a4C rfl (.tmp 62) (.tmp 63) rfl w3.heap.size (.slice none 0 0) 0 [] rfl (World.ownsRow_nil _ _ _ _) (some ⟨w3.heap.size,0,none⟩) 1 1 [80] rfl L3.out nofun (by omega) hw3' ?_)
  intro v4 w4 ho4 hg4 _
  obtain⟨A4,c4,rfl⟩:=a0g ho4
  have kk:Keeps [] (w3.alloc (.cells #[.int .u8 80] 5)) w4:=(Keeps.refl _ _).grown hg4 (fun k hk=>by simp[Value.ownBlock] at hk)
  have O4:=c1n (a0b O3'.out kk (by simp))
  have K4:=c1n (K3'.out.trans kk)
  have P4:=c1n ho4
  have R4:=c1n (b1q O4.out)
  have hw4:w3.heap.size<=w4.heap.size:=by have:=kk.size;simp at this;omega
  clear ho4 hg4 kk L3 O3' K3' hw3'
  go_wp2_with (at_builtin;refine a4C rfl (.tmp 65) (.tmp 66) rfl w3.heap.size (.slice A4 (0+1) c4) (0+1) ([]++[80]) rfl P4.out (some ⟨g,0,none⟩) nb cb xs rfl R4.out nofun (by omega) hw4 ?_)
  intro v5 w5 ho5 hg5 _
  obtain⟨A5,c5,rfl⟩:=a0g ho5
  have kk:Keeps (Value.slice A4 (0+1) c4).ownBlock.toList w4 w5:=(Keeps.refl _ _).grown hg5 (fun k hk=>.inl (c1p.2 hk))
  have hlo:∀ x∈(Value.slice A4 (0+1) c4).ownBlock.toList,w3.heap.size<=x:=fun x hx=>a0m P4.out x (c1p.1 hx)
  have K5:=c1n (K4.out.freshZ kk (fun x hx=>Nat.le_trans hw3 (hlo x hx)))
  have hz5:ZB w5 A5 (0+1+nb) c5 (80::xs):=b8W ho5 (fun x hx=>by
   rcases List.mem_cons.1 hx with rfl|hx
   ·omega
   ·exact HF.out.u8 x hx) (by omega)
  have HF6:=c1n (b4v w5 A5 (0+1+nb) c5 (80::xs) hz5 (HT.out.keeps K5.out (by simp)) (HF.out.ahead 80))
  clear ho5 hg5 kk hlo hz5 K4 P4 R4 O4 hw4
  go_wp2_with fail
  refine HF6.out.mono ?_
  rintro _ w6 ⟨A6,n6,c6,rfl,hl6,-,-,hb6⟩
  obtain rfl:0=n6:=hl6
  have K6:=c1n (K5.out.trans (Keeps.of_below hb6 (S:=[])))
  clear hb6 HF6 K5
  go_wp2_with fail
  refine (b8w w6 (HT.out.keeps K6.out (by simp))).mono ?_
  rintro _ w7 ⟨rfl,hk7⟩
  have K7:=c1n (K6.out.trans hk7)
  clear hk7 K6
  go_wp2_with fail
  go_ret
  exact⟨rfl,K7.out⟩
end Go.Proofs.YtghjlpechjggjaaGreatDoor
namespace Go.Proofs.YtghjlpechjggjaaGreatDoor
open Go.RowKit
theorem own_setI{w:World}{base g n c:Nat}{xs:List Int}(h:w.ownsRow base 5 1 (.slice (some ⟨g,0,none⟩) n c) n (ints .u8 xs)){i:Nat}(hi:i<n)(y:Int) :
  w.cell? ⟨g,i,none⟩=some (.int .u8 (nth xs i))/\w.frozen? ⟨g,i,none⟩=false/\(w.setCell ⟨g,i,none⟩ (.int .u8 y)).ownsRow base 5 1 (.slice (some ⟨g,0,none⟩) n c) n (ints .u8 (xs.set i y)):=by
 have hr:=(b1q h).cell g 0 rfl i hi
 rw[Nat.zero_add] at hr
 have hl:xs.length=n:=by have:=h.1;simpa [ints] using this
 rcases h.2 with⟨hv,_⟩|⟨g',cap,cur,hv,hb,hh,hc,hm,hs,ht⟩
 ·injection hv with h1;cases h1
 ·injection hv with h1 h2 h3
  injection h1 with h1
  injection h1 with h1
  subst h1
  subst h3
  have hB:Blk w g 5 cur.toList:=by unfold Blk;rw[Array.toArray_toList];exact hh
  have hB2:=hB.set i (.int .u8 y)
  refine⟨hr,hB.frozen i,⟨by simp[ints,hl],.inr ⟨g,c,_,rfl,hb,hB2,hc,hm,by simp;omega,?_⟩⟩⟩
  rw[List.toList_toArray,Nat.mul_one,List.take_set,<-Nat.mul_one n,ht]
  simp[ints,List.map_set]
theorem ob_slZ{A:Option Addr}{n c g:Nat}(h:(Value.slice A n c).ownBlock=some g):∃ a,A=some a/\a.block=g:=by
 cases A with
 | none=>simp[Value.ownBlock] at h
 | some a=>exact⟨a,rfl,by simpa [Value.ownBlock] using h⟩
theorem ff_file{l:List EN}{xs:List Int}{es:List ZE}(h:FF l xs es):FileOf l xs:=⟨⟨es,h.out,fun e he=>(h.ok e he).defl,h.xs⟩⟩
theorem u8_xor{b v:Int}(h0:0<=b/\b<=255)(h1:0<=v/\v<=255)(hv:v≠0):(0<=bits .xor .u8 b v/\bits .xor .u8 b v<=255)/\bits .xor .u8 b v≠b:=by
 obtain⟨x,rfl⟩:∃ x:Nat,b=x:=⟨b.toNat,by omega⟩
 obtain⟨y,rfl⟩:∃ y:Nat,v=y:=⟨v.toNat,by omega⟩
 rw[u8_xor_nat x y (by omega) (by omega)]
 have h2:x ^^^ y<256:=Nat.xor_lt_two_pow (n:=8) (by omega) (by omega)
 refine⟨⟨by omega,by omega⟩,fun h=>hv ?_⟩
 have h3:x ^^^ y=x:=by omega
 have h4:x ^^^ (x ^^^ y)=y:=by rw[<-Nat.xor_assoc,Nat.xor_self,Nat.zero_xor]
 rw[h3,Nat.xor_self] at h4
 omega
end Go.Proofs.YtghjlpechjggjaaGreatDoor
namespace Go.Proofs.YtghjlpechjggjaaGreatDoor
open Go.RowKit
def wt_rows:WT 31 26 1:=⟨.slice none 0 0,24,by kernel_rfl,Tryz.underlying31,rfl,by decide,by decide⟩
theorem scells_one(s:SL):∀ v∈b8R s,v.oneCell'=true:=by
 intro v hv
 unfold b8R at hv
 rw[List.mem_singleton] at hv
 subst hv;rfl
def PKs(w:World)(base:Nat)(A:Option Addr)(i c:Nat)(yss:List (List Int))(sl:List SL):Prop:=
 w.ownsRow base 26 1 (.slice A i c) i (sl.flatMap b8R)/\sl.length=yss.length/\∀ (j:Nat) (h1:j<sl.length) (h2:j<yss.length),RI .u8 w sl[j].1 sl[j].2.1 yss[j]/\0<yss[j].length/\∃ q,sl[j].1=some ⟨q,0,none⟩/\base<=q
structure PK (w:World) (base:Nat) (A:Option Addr) (i c:Nat) (yss:List (List Int)):Prop where
 out:∃ sl:List SL,PKs w base A i c yss sl
theorem PK.nil(w:World)(base:Nat):PK w base none 0 0 []:=⟨⟨[],World.ownsRow_nil _ _ _ _,rfl,fun j h=>by simp at h⟩⟩
theorem PK.keeps{S:List Nat}{w w':World}{base:Nat}{A:Option Addr}{i c:Nat}{yss:List (List Int)}(h:PK w base A i c yss)(hk:Keeps S w w')(hS:∀ x∈S,x<base):PK w' base A i c yss:=by
 obtain⟨sl,h1,h2,h3⟩:=h.out
 refine⟨⟨sl,a0b h1 hk (fun g hg hm=>by have:=hS g hm;have:=a0m h1 g hg;omega),h2,fun j a b=>?_⟩⟩
 obtain⟨r1,r2,q,r3,r4⟩:=h3 j a b
 exact⟨r1.keeps hk (fun a ha hm=>by rw[r3] at ha;injection ha with ha;subst ha;have:=hS q hm;omega),r2,q,r3,r4⟩
theorem PK.len{w:World}{base:Nat}{A:Option Addr}{i c:Nat}{yss:List (List Int)}(h:PK w base A i c yss):yss.length=i:=by
 obtain⟨sl,h1,h2,h3⟩:=h.out
 obtain⟨A',c',hv,hr,-⟩:=b2H (by decide) b3X h1
 rw[<-h2,hr.len]
theorem PK.rbs{w:World}{base:Nat}{A:Option Addr}{i c:Nat}{yss:List (List Int)}(h:PK w base A i c yss):RBs w A i yss:=by
 obtain⟨sl,h1,h2,h3⟩:=h.out
 obtain⟨A',c',hv,hr,-⟩:=b2H (by decide) b3X h1
 injection hv with q1 q2 q3
 subst q1
 refine⟨⟨sl,hr,h2,fun j a b=>?_⟩⟩
 obtain⟨r1,r2,q,r3,r4⟩:=h3 j a b
 exact⟨r1,fun hn=>by rw[r3] at hn;cases hn⟩
theorem PK.snoc {w w':World} {base:Nat} {A:Option Addr} {i c:Nat} {yss:List (List Int)} {sl:List SL} (h:PKs w base A i c yss sl) {q m d:Nat} {ys:List Int} (hr:RI .u8 w (some ⟨q,0,none⟩) m ys) (hy:0<ys.length) (hb:base<=q) (hq:∀ x,(Value.slice A i c).ownBlock=some x->x<q)
  {A':Option Addr} {c':Nat} (ho:w'.ownsRow base 26 1 (.slice A' (i+1) c') (i+1) ((sl++[((some ⟨q,0,none⟩,m,d):SL)]).flatMap b8R)) (hg:Keeps (Value.slice A i c).ownBlock.toList w w'):PK w' base A' (i+1) c' (yss++[ys]):=by
 obtain⟨h1,h2,h3⟩:=h
 have hoff:∀ (j:Nat) (a:j<sl.length) (b:j<yss.length),Off (Value.slice A i c).ownBlock.toList sl[j].1:=fun j a b ad had hm=>by
  obtain⟨r1,r2,p,r3,r4⟩:=h3 j a b
  rw[r3] at had
  injection had with had
  subst had
  have hx:=c1p.1 hm
  obtain⟨aa,haa,hab⟩:=ob_slZ hx
  obtain⟨A2,c2,hv,hrw,-⟩:=b2H (by decide) b3X h1
  injection hv with q1 q2 q3
  subst q1
  obtain⟨b0,o0,e0⟩:=hrw.hd (by have:=hrw.len;omega)
  have hrow:=hrw.cell b0 o0 e0 0 (by omega) 0 (by omega)
  have hz:o0=0:=by
   rcases h1.2 with⟨hv,h0⟩|⟨g',cap,cur,hv,-⟩
   ·have:=hrw.len;omega
   ·injection hv with hv;rw[e0] at hv;injection hv with hv;injection hv
  rw[e0] at haa
  injection haa with haa
  subst haa
  simp only at hab
  subst hab
  subst hz
  have hri:=r1.cell b0 0 r3 0 (by have:=r1.len;omega)
  simp only[Nat.zero_mul,Nat.add_zero] at hrow hri
  rw[hri] at hrow
  simp[b8R] at hrow
 refine⟨⟨sl++[((some ⟨q,0,none⟩,m,d):SL)],ho,by simp[h2],fun j a b=>?_⟩⟩
 by_cases hj:j<sl.length
 ·have hj2:j<yss.length:=by omega
  simp only[List.getElem_append_left hj,List.getElem_append_left hj2]
  obtain⟨r1,r2,p,r3,r4⟩:=h3 j hj hj2
  exact⟨r1.keeps hg (hoff j hj hj2),r2,p,r3,r4⟩
 ·have hj2:j=sl.length:=by simp at a;omega
  subst hj2
  have e1:(sl++[((some ⟨q,0,none⟩,m,d):SL)])[sl.length]=(some ⟨q,0,none⟩,m,d):=by simp
  have e2:(yss++[ys])[sl.length]=ys:=by simp[h2]
  rw[e1,e2]
  exact⟨hr.keeps hg (fun a ha hm=>by injection ha with ha;subst ha;have:=hq q (c1p.1 hm);omega),hy,q,rfl,hb⟩
theorem zes_zip:∀ (l:List EN) (yss:List (List Int)),l.length=yss.length->(∀ (j:Nat) (h1:j<l.length) (h2:j<yss.length),Defl (sb l[j].2) yss[j]) ->
  ∃ es:List ZE,es.map ZE.out=l/\es.map ZE.ys=yss/\∀ e∈es,Defl (sb e.dat) e.ys
 | [],[],_,_=>⟨[],rfl,rfl,by simp⟩
 | e::l,y::yss,hl,hd=>by
  obtain⟨es,h1,h2,h3⟩:=zes_zip l yss (by simpa using hl) (fun j a b=>by
   have:=hd (j+1) (by rw[List.length_cons];omega) (by rw[List.length_cons];omega)
   rwa [List.getElem_cons_succ,List.getElem_cons_succ] at this)
  have h0:=hd 0 (by simp) (by simp)
  refine⟨⟨e.1,e.2,y⟩::es,by rw[List.map_cons,h1];rfl,by rw[List.map_cons,h2],fun x hx=>?_⟩
  rcases List.mem_cons.1 hx with rfl|hx
  ·simpa using h0
  ·exact h3 x hx
 | [],_::_,hl,_=>by simp at hl
 | _::_,[],hl,_=>by simp at hl
theorem zipWrites_walk(w:World)(A:Option Addr)(n c:Nat)(l:List EN)(hT:Tabz w)(h:RW 2 ecells w A n l)(hm:n<=8796093022208)(hs:∀ e∈l,e.1.size<=140737488351232/\e.2.size<=140737488351232)(hnil:A=none->n=0/\c=0) :
  Calls Tryz.prog 4 #[.slice A n c] w fun e w'=>e=.returned (.bool true)/\Keeps [] w w':=by
 have HT:=c1n hT
 have H:=c1n h
 have HL:=c1n h.len
 have HS:=c1n hs
 clear hT h hs hnil
 go_enter Tryz.func4,Tryz.ntmps4
 go_wp2_with fail
 refine (b8K w A n c l H.out (by omega) (fun e he=>⟨by have:=(HS.out e he).1;omega,by have:=(HS.out e he).2;omega⟩)).mono ?_
 rintro _ w1 ⟨rfl,hd1⟩
 have K1:=c1n (hd1.keeps (S:=[]))
 clear hd1
 cases hlg:a6d l with
 | true=>
  clear hlg
  go_wp2_with fail
  refine (b8w w1 (HT.out.keeps K1.out (by simp))).mono ?_
  rintro _ w2 ⟨rfl,hk2⟩
  go_wp2_with fail
  go_ret
  exact⟨rfl,K1.out.trans hk2⟩
 | false=>
 obtain⟨hn,hsz⟩:=small_of hlg
 rw[HL.out] at hn
 have HSZ:=c1n hsz
 clear hlg hsz HS hm
 by_cases hc:a0s l=0
 case neg=>
  have HC:=c1n hc
  clear hc
  go_wp2_with fail
  refine (b6H w1 A n c l (H.out.keeps a0j K1.out (a0a _)) (by omega) HSZ.out (HT.out.keeps K1.out (by simp)) HC.out).mono ?_
  rintro _ w2 ⟨rfl,hb2⟩
  have K2:=c1n (K1.out.trans (Keeps.of_below hb2 (S:=[])))
  have HCK:=c1n (b8z w2 A n c l (H.out.keeps a0j K2.out (a0a _)) (by omega) HSZ.out)
  have e0:(a0s l !=0)=true:=by simpa using HC.out
  clear hb2 HC
  generalize a0s l=E at *
  have e1:(E !=E)=false:=by simp
  have e2:(E==E)=true:=by simp
  go_wp2_with fail
  refine HCK.out.mono ?_
  rintro _ w3 ⟨rfl,hd3⟩
  have K3:=c1n (K2.out.trans (Dr.keeps (S:=[]) hd3))
  clear hd3 HCK K2
  go_wp2_with fail
  refine (b8w w3 (HT.out.keeps K3.out (by simp))).mono ?_
  rintro _ w4 ⟨rfl,hk4⟩
  have K4:=c1n (K3.out.trans hk4)
  clear hk4 K3
  go_wp2_with fail
  go_ret
  exact⟨rfl,K4.out⟩
 have HC:=c1n hc
 clear hc
 go_wp2_with fail
 refine (b0B w1 A n c l (H.out.keeps a0j K1.out (a0a _)) (by omega) HSZ.out (HT.out.keeps K1.out (by simp)) HC.out).mono ?_
 rintro _ w2 ⟨g,nb,cb,xs,es,rfl,hff,hl2,hg2,ho2,hb2⟩
 have K2:=c1n (K1.out.trans (Keeps.of_below hb2 (S:=[])))
 have HF:=c1n hff
 obtain⟨hl22,hl60⟩:=hff.len
 rw[hl2] at hl22 hl60
 have HLN:=c1n hl2
 have HCK:=c1n (b8z w2 A n c l (H.out.keeps a0j K2.out (a0a _)) (by omega) HSZ.out)
 have HG2:Hid (w.heap.size<=g):=c1n (by have:=K1.out.size;omega)
 have O2:=c1n (a6s ho2 (Nat.zero_le _))
 rw[HC.out] at HCK
 clear hff hl2 hg2 ho2 hb2 K1
 go_wp2_with fail
 refine HCK.out.mono ?_
 rintro _ w3 ⟨rfl,hd3⟩
 have k3:=Dr.keeps (S:=[]) hd3
 have K3:=c1n (K2.out.trans k3)
 have O3:=c1n (a0b O2.out k3 (by simp))
 have HGL:Hid (g<w3.heap.size):=c1n (b2G O3.out ⟨g,0,none⟩ rfl).2
 clear hd3 k3 HCK K2 O2
 go_upto_region 9 with (fail)
 go_loopw [6,7] (fun ov iv wr=>∃ (i:Nat) (AO:Option Addr) (cO:Nat) (yss:List (List Int)),i<=n/\iv=.int .i64 i/\ov=.slice AO i cO/\Hid (PK wr w3.heap.size AO i cO yss)/\Hid (∀ (j:Nat) (h1:j<l.length) (h2:j<yss.length),Defl (sb l[j].2) yss[j])/\Hid (Keeps [] w3 wr)) (fun _ iv _=>n-(intOf iv).toNat)
 case atStart=>exact⟨0,none,0,[],by omega,rfl,rfl,c1n (PK.nil _ _),c1n (fun j h1 h2=>by simp at h2),c1n (Keeps.refl _ _)⟩
 case round=>
  obtain⟨i,AO,cO,yss,hi,rfl,rfl,HP,HD,HK⟩:=hrel
  by_cases hlt:i<n
  ·have e1:decide (i<n)=true:=c1q hlt
   have e1':decide ((i:Int)<(n:Int))=true:=c1q (by omega)
   have hil:i<l.length:=by rw[HL.out];exact hlt
   obtain⟨eb,eo,rfl⟩:=H.out.hd (by omega)
   have KR:=K3.out.trans HK.out
   have hcl:=(H.out.keeps a0j KR (a0a _)).cell eb eo rfl i hil
   have p1:=hcl 1 (by omega)
   have hdz:l[i].2.size<=8192:=((a4x HC.out).2.1 _ (List.getElem_mem _)).2
   have HD2:Hid (∀ ys,Defl (sb l[i].2) ys->∀ (j:Nat) (h1:j<l.length) (h2:j<(yss++[ys]).length),Defl (sb l[j].2) (yss++[ys])[j]):=c1n (fun ys hy j h1 h2=>by
    have hyl:=HP.out.len
    by_cases hj:j<yss.length
    ·rw[List.getElem_append_left hj];exact HD.out j h1 hj
    ·have hj2:j=i:=by simp at h2;omega
     subst hj2
     rw[List.getElem_append_right (by omega)]
     simpa using hy)
   clear hcl HD
   generalize l[i]=en at *
   obtain⟨nm,dat⟩:=en
   dsimp only at HD2 hdz
   simp only[ecells,List.getElem?_cons_succ,List.getElem?_cons_zero] at p1
   obtain⟨cc,w6,hrun,hr6,hk6,hs6⟩:=a7m wr dat
   have HR6:=c1n hr6
   have HKR6:=c1n (KR.trans hk6)
   have HK6:=c1n (HK.out.trans hk6)
   have HP6:=c1n (HP.out.keeps hk6 (by simp))
   have hw36:w3.heap.size<=w6.heap.size:=HK6.out.size
   have hwr6:wr.heap.size<w6.heap.size:=by omega
   clear hr6 hk6 hs6 KR HK HP
   go_wp2_with fail
   refine (a7Z w6 (some ⟨wr.heap.size,0,none⟩) dat.size cc (sb dat) (HT.out.keeps HKR6.out (by simp)).lens HR6.out (by simp) (fun a h=>by injection h with h;subst h;exact hwr6) (fun j=>b8O (a5q dat) j)).mono ?_
   rintro e w7 (⟨h0,-⟩|⟨-,q,m,d,ys,rfl,hr7,hq7,hdf,hb7,-⟩)
   ·exact absurd h0 (by omega)
   have k7:=Keeps.of_below hb7 (S:=[])
   have HP7:=c1n (HP6.out.keeps k7 (by simp))
   have HK7:=c1n (HK6.out.trans k7)
   have HR7:=c1n hr7
   have HDF:=c1n hdf
   have HOB:Hid (∀ x,(Value.slice AO i cO).ownBlock=some x->x<q):=c1n (fun x hx=>by
    obtain⟨sl,h1,-⟩:=HP6.out.out
    have:=a3g h1 x hx
    omega)
   have hqb:w3.heap.size<=q:=by omega
   have hw37:w3.heap.size<=w7.heap.size:=HK7.out.size
   have hi9:i<=1000000000:=by omega
   clear hb7 k7 hr7 hdf hrun p1 HKR6 HK6 HP6 HR6 hq7 hw36 hwr6
   have k8:Keeps [] w7 (w7.alloc (.cells #[.slice (some ⟨q,0,none⟩) m d] 26)):=(Keeps.refl [] _).alloc _
   obtain⟨sl,hsl⟩:=(HP7.out.keeps k8 (by simp)).out
   have HSP:=c1n hsl
   have HSL:=c1n hsl.1
   have HR8:=c1n (HR7.out.keeps k8 (a0a _))
   have hw38:w3.heap.size<=(w7.alloc (.cells #[.slice (some ⟨q,0,none⟩) m d] 26)).heap.size:=Nat.le_trans hw37 k8.size
   clear hsl
   go_wp2_with (at_builtin;go_loud (refine app_rw wt_rows b3X scells_one rfl (.tmp 60) (.tmp 62) rfl w3.heap.size (.slice AO i cO) i sl rfl HSL.out w7.heap.size (some ⟨q,0,none⟩,m,d) rfl (fun j hj=>(a0d w7 26 [.slice (some ⟨q,0,none⟩) m d]).cell j) hi9 hw38 ?_;intro v9 w9 ho9 hg9;obtain⟨A9,c9,rfl⟩:=a0g ho9;have HO9:=c1n ho9;have HKG:=c1n ((Keeps.refl (Value.slice AO i cO).ownBlock.toList _).grown hg9 (fun k hk=>.inl (c1p.2 hk)));clear ho9 hg9))
   go_roundw
   case rel=>
    refine⟨i+1,A9,c9,yss++[ys],by omega,by go_num,rfl,c1n ?_,c1n (HD2.out ys HDF.out),c1n ((HK7.out.trans k8).freshZ HKG.out (fun x hx=>a0m HSL.out x (c1p.1 hx)))⟩
    exact PK.snoc HSP.out HR8.out HDF.out.pos hqb HOB.out HO9.out HKG.out
   case measure=>simp[intOf];omega
  ·have e1:decide (i<n)=false:=c1o hlt
   have e1':decide ((i:Int)<(n:Int))=false:=c1o (by omega)
   obtain rfl:i=n:=by omega
   obtain⟨wo,rfl⟩:∃ wo:World,wo=wr:=⟨_,rfl⟩
   obtain⟨es2,hs1,hs2,hs3⟩:=zes_zip l yss (by rw[HL.out,HP.out.len]) HD.out
   obtain⟨hok,hnd,h64⟩:=b8X HC.out hs1 hs3
   have hxs:xs=zfileB (es2.map ZE.g):=(ff_file HF.out).uniq ⟨⟨es2,hs1,hs3,rfl⟩⟩
   have HXS:=c1n hxs
   have KR:=K3.out.trans HK.out
   have HFL:Hid (∀ W,Keeps [] wo W->Calls Tryz.prog 17 #[.slice A i c,.slice AO i cO] W fun e w'=>∃ AF cF,e=.returned (.slice AF nb cF)/\RI .u8 w' AF nb xs/\Below W.heap.size W w'):=c1n (fun W hk=>by
    have hrb:=(HP.out.keeps hk (by simp)).rbs
    rw[<-hs2] at hrb
    refine (b9v W A AO i c i cO es2 (by rw[hs1];exact H.out.keeps a0j (KR.trans hk) (a0a _)) hrb hok h64).mono ?_
    rintro _ w' ⟨v',rfl,ho,hb⟩
    rw[<-hxs,HLN.out] at ho
    obtain⟨AF,cF,rfl⟩:=a0g ho
    exact⟨AF,cF,rfl,b1q ho,hb⟩)
   have HDY:=c1n HD.out
   have HKR:=c1n KR
   have OR:=c1n (a0b O3.out HK.out (by simp))
   have HPR:=c1n HP.out
   clear hs1 hs2 hs3 hok hnd h64 hxs KR HP HD
   go_wp2_with fail
   refine (HFL.out wo (Keeps.refl _ _)).mono ?_
   rintro _ w4 ⟨AF,cF,rfl,hrf,hb4⟩
   have k4:=Keeps.of_below hb4 (S:=[])
   have HSM:=c1n (b1H w4 (some ⟨g,0,none⟩) AF nb nb cb cF xs xs (b1q (a0b OR.out k4 (by simp))) hrf (by omega) (by omega))
   rw[beq_self_eq_true] at HSM
   have K4:=c1n k4
   clear hrf hb4 k4
   go_wp2_with fail
   refine HSM.out.mono ?_
   rintro _ w5 ⟨rfl,hd5⟩
   have K5:=c1n (K4.out.trans (hd5.keeps (S:=[])))
   have O5:Hid (∃ zs:List Int,w5.ownsRow 0 5 1 (.slice (some ⟨g,0,none⟩) nb cb) nb (ints .u8 zs)):=c1n ⟨xs,a0b OR.out K5.out (by simp)⟩
   clear hd5 HSM K4 OR
   go_upto_region 17 with (fail)
   go_loopw [11] (fun iv wr=>∃ j:Nat,j<=nb/\iv=.int .i64 j/\Hid (∃ zs:List Int,wr.ownsRow 0 5 1 (.slice (some ⟨g,0,none⟩) nb cb) nb (ints .u8 zs))/\Hid (Keeps [g] wo wr)) (fun iv _=>nb-(intOf iv).toNat)
   case atStart=>exact⟨0,by omega,rfl,O5,c1n (K5.out.mono (by simp))⟩
   case round=>
    obtain⟨j,hj,rfl,HO,HKS⟩:=hrel
    by_cases hjl:j<nb
    ·have e2:decide (j<nb)=true:=c1q hjl
     have e2':decide ((j:Int)<(nb:Int))=true:=c1q (by omega)
     obtain⟨zs,hzs⟩:=HO.out
     obtain⟨s1,s2,s3⟩:=own_setI hzs hjl 7
     have S3:=c1n s3
     have KS3:=c1n (HKS.out.setCell (p:=⟨g,j,none⟩) (.inl (by simp)) (.int .u8 7))
     clear hzs s3 HO
     go_wp2_with fail
     go_roundw
     case rel=>exact⟨j+1,by omega,by go_num,c1n ⟨_,S3.out⟩,KS3⟩
     case measure=>simp[intOf];omega
    ·have e2:decide (j<nb)=false:=c1o hjl
     have e2':decide ((j:Int)<(nb:Int))=false:=c1o (by omega)
     have KW:=c1n (HKR.out.freshZ HKS.out (by simp;exact HG2.out))
     have PW:Hid (PK wr w3.heap.size AO i cO yss):=c1n (HPR.out.keeps HKS.out (fun x hx=>by simp at hx;subst hx;exact HGL.out))
     have hgws:g<wr.heap.size:=Nat.lt_of_lt_of_le HGL.out (Nat.le_trans HK.out.size HKS.out.size)
     have HFL2:Hid (∀ W,Keeps [] wr W->Calls Tryz.prog 17 #[.slice A i c,.slice AO i cO] W fun e w'=>∃ AF cF,e=.returned (.slice AF nb cF)/\RI .u8 w' AF nb xs/\Below W.heap.size W w'):=c1n (fun W hk=>by
      obtain⟨es2,hs1,hs2,hs3⟩:=zes_zip l yss (by rw[HL.out,HPR.out.len]) HDY.out
      obtain⟨hok,hnd,h64⟩:=b8X HC.out hs1 hs3
      have hxs:xs=zfileB (es2.map ZE.g):=(ff_file HF.out).uniq ⟨⟨es2,hs1,hs3,rfl⟩⟩
      have hrb:=(PW.out.keeps hk (by simp)).rbs
      rw[<-hs2] at hrb
      refine (b9v W A AO i c i cO es2 (by rw[hs1];exact H.out.keeps a0j (KW.out.trans hk) (a0a _)) hrb hok h64).mono ?_
      rintro _ w' ⟨v',rfl,ho,hb⟩
      rw[<-hxs,HLN.out] at ho
      obtain⟨AF,cF,rfl⟩:=a0g ho
      exact⟨AF,cF,rfl,b1q ho,hb⟩)
     clear HFL HO HKS HPR HKR
     go_wp2_with fail
     refine (b0B wr A i c l (H.out.keeps a0j KW.out (a0a _)) (by omega) HSZ.out (HT.out.keeps KW.out (by simp)) HC.out).mono ?_
     rintro _ w6 ⟨g6,n6,c6,xs6,es6,rfl,hff6,hl6,hg6,ho6,hb6⟩
     obtain rfl:xs6=xs:=(ff_file hff6).uniq (ff_file HF.out)
     have hn6:n6=nb:=by rw[<-hl6,HLN.out]
     have k6:=Keeps.of_below hb6 (S:=[])
     have O6:=c1n ho6
     have K6:=c1n k6
     have KW6:=c1n (KW.out.trans k6)
     clear hff6 hl6 hg6 ho6 hb6 k6
     subst hn6
     go_wp2_with fail
     refine (b8w w6 (HT.out.keeps KW6.out (by simp))).mono ?_
     rintro _ w7 ⟨rfl,k7⟩
     have K7:=c1n (K6.out.trans k7)
     have O7:=c1n (a0b O6.out k7 (by simp))
     have KW7:=c1n (KW6.out.trans k7)
     clear k7 K6 O6 KW6
     go_wp2_with fail
     refine (HFL2.out w7 K7.out).mono ?_
     rintro _ w8 ⟨AF2,cF2,rfl,hrf,hb8⟩
     have k8:=Keeps.of_below hb8 (S:=[])
     have HSM:=c1n (b1H w8 (some ⟨g6,0,none⟩) AF2 n6 n6 c6 cF2 xs6 xs6 (b1q (a0b O7.out k8 (by simp))) hrf (by omega) (by omega))
     rw[beq_self_eq_true] at HSM
     have K8:=c1n (KW7.out.trans k8)
     clear hrf hb8 k8 KW7 O7 HFL2
     go_wp2_with fail
     refine HSM.out.mono ?_
     rintro _ w9 ⟨rfl,hd9⟩
     have K9:=c1n (K8.out.trans (hd9.keeps (S:=[])))
     clear hd9 K8 HSM
     go_wp2_with fail
     go_ret
     exact⟨rfl,K9.out⟩
end Go.Proofs.YtghjlpechjggjaaGreatDoor
/-
 A file has just the bytes that the form says,or the first entry that may not be is refused;of any entries;what is handed in stays.
-/
namespace Go.Proofs.YtghjlpechjggjaaGreatDoor.zipWrites
open Go.ChangeShapes Go.WideShapes Go.ChangeAt Go.RowKit
theorem contract (H:Type) (enc:TypeId×Value->H) (W:World) (base:Nat) (args:Array Value) (ds gs:List (DataW H)) (before:List MemPlace)
  (hval:∀ (j:Nat) t v,Tryz.f4.params[j]? =some t->args[j]? =some v->Value.okWide Tryz.prog W .any base t v)
  (hW:DataW.Whole enc Tryz.prog Tryz.f4.params.toList Rows.zipWritesSpec.vars false W args.toList ds gs before) (hL:laidMetH Tryz.prog Rows.zipWritesRow.laid W) (hsz:(DataW.weightsEach Tryz.prog (Tryz.f4.params.toList++(OpenSpec.ofChange Rows.zipWritesSpec).bare.plain.varTypes Tryz.prog) (ds++gs)).all (·<=reachBytes)=true) :
  Calls Tryz.prog 4 args W fun e W'=>∃ v,e=.returned v/\Rows.zipWritesSpec.post enc Tryz.prog Tryz.f4 false true false false W args v W':=by
 have hT : Tabz W := c1j (laidMet.filter (fun x => x.1 == "haversack/lens.order" || x.1 == "haversack/lens.wide" || x.1 == "haversack/lens.from") hL) (laidMet.filter (fun x => x.1 == "haversack/little.steps") hL)
 have hW':=hW
 obtain⟨p,q,hA0,hV,rfl,hfz,hnd⟩:=hW
 have hA:DataW.TrodAll enc Tryz.prog W 0 (fun _=>true) true Tryz.f4.params.toList args.toList ds p:=hA0
 rw[Tryz.params4] at hA hval
 obtain⟨v0,vs0,d0,ds0,p0,q0,hargs,rfl,rfl,h0,r0⟩:=trodAll_cons hA
 obtain⟨rfl,rfl,rfl⟩:=trodAll_nil r0
 obtain rfl:args=#[v0]:=by cases args;simp_all
 obtain⟨rfl,rfl⟩:=trodVars_none hV
 obtain⟨a0,len0,cap0,rfl⟩:=okWide_slice Tryz.underlying24 (hval 0 24 v0 rfl rfl)
 have k0:=h0
 have lt0:∀ x∈p0,x.block<W.heap.size:=by obtain⟨m,hm⟩:=k0;exact DataW.trod_lt m _ _ _ hm
 obtain⟨z0,w0,m0,y0,n0⟩:=b8E h0 (fun x hx=>of_decide_eq_true (List.all_eq_true.1 hsz x (DataW.weights_mem_each (j:=0) (t:=24) (d:=d0) rfl rfl x hx)))
 clear hA0
 refine (zipWrites_walk W a0 len0 cap0 z0 hT w0 m0 y0 n0).mono fun e W' ⟨he,hk⟩=>?_
 have bel:=hk.below
 subst he
 exact⟨_,rfl,_,_,_,[],_,[],hW',trodAll_mk1 (shut_bool Tryz.underlying4 _),(trodAll_cons_mk (Below.trod laidOut (by kernel_rfl) (of_decide_eq_true (by kernel_rfl)) k0 bel lt0) trodAll_mk0),rfl,bel.frame _,fun h=>by cases h⟩
theorem reads(os:Os){H:Type}(enc:TypeId×Value->H):∃ places,DataW.whole enc Tryz.prog ((laidWorldZ os).forCall (fun _ _=>0) ⟨#[],#[.slice none 0 0],[]⟩).memory Tryz.f4.params.toList Rows.zipWritesSpec.vars false #[Value.slice none 0 0].toList 8=some ([.nil],[],places):=
 ⟨[],by kernel_rfl⟩
theorem lifted(os:Os)(started:os.Started)(H:Type)(enc:TypeId×Value->H)(F:Stop.Interp) :
  ReturnsInHanded {} Tryz.checked os 4 .any ((OpenSpec.ofChange Rows.zipWritesSpec).preRow enc Tryz.prog Tryz.f4 Rows.zipWritesRow.domain false Rows.zipWritesRow.laid) (((OpenSpec.ofChange Rows.zipWritesSpec).at F).post enc Tryz.prog Tryz.f4 false true false false):=by
 obtain⟨places,hx⟩:=reads os enc
 refine returnsInHanded_of_row (C:=Tryz.checked) (s:=OpenSpec.ofChange Rows.zipWritesSpec) own started (by kernel_rfl) Tryz.func4
  (witness_row_at (enc:=enc) (C:=Tryz.checked) false (laidWorldZ os) #[.slice none 0 0] rfl (by kernel_rfl) (by kernel_rfl) (by kernel_rfl)
   (OpenSpec.preRow_of_cond 8 hx (by kernel_rfl) (fun k hk=>by cases hk) (by kernel_rfl) (c0y os _))) ?_
 intro W base args ds gs before hval hW _ _ hsz hL _ _
 exact contract H enc W base args ds gs before hval hW hL hsz
theorem said:Rows.ZipWritesSaid:=
 OpenClaim.holds_of_cond 4 Tryz.f4 rfl rfl rfl rfl rfl rfl rfl ⟨rfl,rfl,rfl,rfl,rfl⟩ rfl rfl rfl rfl rfl (by kernel_rfl) Tryz.func4 (by kernel_rfl)
  (of_decide_eq_true (by kernel_rfl)) (by unfold Func.isWrapper;first|(rw[if_pos (by decide +kernel)];kernel_rfl)|(rw[if_neg (by decide +kernel)];exact⟨rfl,rfl⟩))
  (fun os started H enc _ F=>by rw[OpenClaim.pre_eq_preRow];exact lifted os started H enc F)
theorem plain (f : FuncId) (fn : Func) (hf : Tryz.pinned.checked.prog.funcNamed "haversack/haversacklaw08.ZipWrites" = some f) (hfn : Tryz.pinned.checked.prog.funcs[f]? = some fn) :
  true=Tryz.pinned.checked.prog.looks []/\∀ (j:Nat) t,fn.params[j]? =some t->Tryz.pinned.checked.prog.wantsStandIn t=false:=by
 obtain rfl : f = 4 := Option.some.inj ((show Tryz.prog.funcNamed "haversack/haversacklaw08.ZipWrites" = some 4 by kernel_rfl).symm.trans hf) |>.symm
 obtain rfl:fn=Tryz.f4:=(Option.some.inj (Tryz.func4.symm.trans hfn)).symm
 refine⟨by kernel_rfl,fun j t ht=>?_⟩
 rw[Tryz.params4] at ht
 have hm:=Array.mem_of_getElem? ht
 obtain rfl:t=24:=by simpa using hm
 exact (show Tryz.prog.wantsStandIn 24=false by kernel_rfl)
theorem card:Rows.ZipWritesCardSaid:=
 Claim7.holds_tied_plain_at .later [] _ _ _ _ said (fun _ h=>by cases h) (by kernel_rfl) (fun _ h=>by cases h) zipWrites_row_tie rfl ⟨rfl,rfl⟩ (by kernel_rfl) rfl plain (by kernel_rfl)
#print axioms card
end Go.Proofs.YtghjlpechjggjaaGreatDoor.zipWrites
