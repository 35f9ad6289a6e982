import Derived.Test.YtghjlpechjggjaaGreatDoorZipTellsA
import Derived.Test.YtghjlpechjggjaaGreatDoorZshP
import Derived.Laws.BitsAllLaws
import Derived.Test.YtghjlpechjggjaaGreatDoorZshH
set_option linter.defProp false
set_option linter.unnecessarySimpa false
set_option linter.unusedVariables false
set_option linter.unusedSimpArgs false
set_option linter.constructorNameAsVariable false
set_option maxRecDepth 100000
set_option maxHeartbeats 60000000
namespace Go.Proofs.YtghjlpechjggjaaGreatDoor
open Go.RowKit
private def c1n := @Lib.hid
private def c1o := @decide_eq_false
private def c1p := @IntWalk.i64_in
private def c1q := @decide_eq_true
open Go.RowKit
theorem small_of{l:List EN}(h:a6d l=false):l.length<=16777216/\∀ e∈l,e.1.size<=1000000000/\e.2.size<=1000000000:=by
 unfold a6d at h
 have h:=of_decide_eq_false h
 exact⟨by omega,fun e he=>by have:=c0V he;omega⟩
theorem zipCuts_walk(w:World)(A:Option Addr)(n c:Nat)(l:List EN)(cut:Int)(hT:Tabz w)(h:RW 2 ecells w A n l)(hm:n<=8796093022208)(hs:∀ e∈l,e.1.size<=140737488351232/\e.2.size<=140737488351232)(hnil:A=none->n=0/\c=0)(hk:(Lit.int .i64 cut).wf=true) :
  Calls Tryz.prog 5 #[.slice A n c,.int .i64 cut] w fun e w'=>e=.returned (.bool true)/\Keeps [] w w':=by
 have HT:=c1n hT
 have H:=c1n h
 have HL:=c1n h.len
 have HS:=c1n hs
 obtain⟨i1,i2⟩:=int_ofwf hk
 clear hT h hs hnil hk
 go_enter Tryz.func5,Tryz.ntmps5
 go_wp2_with fail
 refine (b8K w A n c l H.out (by omega) (fun e he=>⟨by have:=(HS.out e he).1;omega,by have:=(HS.out e he).2;omega⟩)).mono ?_
 rintro _ w1 ⟨rfl,hd1⟩
 have K1:=c1n (hd1.keeps (S:=[]))
 clear hd1
 cases hlg:a6d l with
 | true=>
  clear hlg
  go_wp2_with fail
  refine (b8w w1 (HT.out.keeps K1.out (by simp))).mono ?_
  rintro _ w2 ⟨rfl,hk2⟩
  go_wp2_with fail
  go_ret
  exact⟨rfl,K1.out.trans hk2⟩
 | false=>
 obtain⟨hn,hsz⟩:=small_of hlg
 rw[HL.out] at hn
 have HSZ:=c1n hsz
 clear hlg hsz HS hm
 by_cases hc:a0s l=0
 case neg=>
  have e0:(a0s l !=0)=true:=by simpa using hc
  have HC:=c1n hc
  clear hc
  go_wp2_with fail
  refine (b6H w1 A n c l (H.out.keeps a0j K1.out (a0a _)) (by omega) HSZ.out (HT.out.keeps K1.out (by simp)) HC.out).mono ?_
  rintro _ w2 ⟨rfl,hb2⟩
  have K2:=c1n (K1.out.trans (Keeps.of_below hb2 (S:=[])))
  clear hb2 HC
  generalize a0s l=E at *
  go_wp2_with fail
  refine (b8w w2 (HT.out.keeps K2.out (by simp))).mono ?_
  rintro _ w3 ⟨rfl,hk3⟩
  go_wp2_with fail
  go_ret
  exact⟨rfl,K2.out.trans hk3⟩
 have HC:=c1n hc
 clear hc
 go_wp2_with fail
 refine (b0B w1 A n c l (H.out.keeps a0j K1.out (a0a _)) (by omega) HSZ.out (HT.out.keeps K1.out (by simp)) HC.out).mono ?_
 rintro _ w2 ⟨g,nb,cb,xs,es,rfl,hff,hl2,hg2,ho2,hb2⟩
 have K2:=c1n (K1.out.trans (Keeps.of_below hb2 (S:=[])))
 have O2:=c1n ho2
 have HF:=c1n hff
 obtain⟨hl22,hl60⟩:=hff.len
 rw[hl2] at hl22 hl60
 have HLN:=c1n hl2
 have hgw:w.heap.size<=w2.heap.size:=K2.out.size
 clear hff hl2 hg2 ho2 hb2 HC
 have e0:decide ((1048576:Int)<(nb:Int))=false:=c1o (by omega)
 have e0':decide (1048576<nb)=false:=c1o (by omega)
 have e1:decide ((nb:Int)<22)=false:=c1o (by omega)
 have e1':decide (nb<22)=false:=c1o (by omega)
 go_upto_if 43 with (fail)
 go_cut [1] (fun v wc=>∃ K:Nat,v=.int .i64 K/\K<=9223372036854775807/\wc=w2)
 case first=>
  by_cases hz:cut<0
  ·have x0:decide (cut<0)=true:=c1q hz
   have s1:IntKind.i64.wrap (cut+1)=cut+1:=c1p _ (by omega)
   obtain⟨K,hK⟩:∃ K:Nat,-(cut+1)=(K:Int):=⟨(-(cut+1)).toNat,by omega⟩
   have s2:IntKind.i64.wrap (-(cut+1))=(K:Int):=by rw[hK];exact c1p _ (by omega)
   have h3:K<=9223372036854775807:=by omega
   clear hK
   go_wp2_with fail
   go_meet
   exact⟨K,rfl,h3,rfl⟩
  ·have x0:decide (cut<0)=false:=c1o hz
   go_wp2_with fail
   go_meet
   exact⟨cut.toNat,by rw[Int.toNat_of_nonneg (by omega)],by omega,rfl⟩
 case rest=>
  obtain⟨K,rfl,hK,rfl⟩:=hcut
  obtain⟨R,hR⟩:∃ R,R=K%nb:=⟨_,rfl⟩
  have hRn:R<nb:=by rw[hR];exact Nat.mod_lt _ (by omega)
  have r1':(K:Int)%(nb:Int)=(R:Int):=by rw[hR];exact (Int.natCast_emod K nb).symm
  have r1:Int.tmod (K:Int) (nb:Int)=(R:Int):=by rw[Int.tmod_eq_emod_of_nonneg (by omega)];exact r1'
  obtain⟨M,hM⟩:∃ M,M=nb-(1+R):=⟨_,rfl⟩
  have r2:IntKind.i64.wrap (1+(R:Int))=1+(R:Int):=c1p _ (by omega)
  have r3:IntKind.i64.wrap ((nb:Int)-(1+(R:Int)))=(M:Int):=by rw[c1p _ (by omega)];omega
  have hMn:M<nb:=by omega
  have hcap:=b1o O2.out
  have hsl:∀ W,(Instr.slice 26 (.slice (some ⟨g,0,none⟩) nb cb) none (some (.int .i64 (M:Int))) none).run Tryz.prog W=.ok (.slice (some ⟨g,0,none⟩) M cb) W:=fun W=>slice_to8 W _ nb cb M _ rfl (by omega) hcap
  have hcutF:=HF.out.cut (m:=M) (by rw[HLN.out];exact hMn)
  have hzb:ZB wc (some ⟨g,0,none⟩) M cb (xs.take M):=⟨(b1q O2.out).take (by omega),hcap.to (by omega),fun x hx=>HF.out.u8 x (List.mem_of_mem_take hx),by omega,fun a ha=>(b2G O2.out a ha).2⟩
  obtain⟨E,hE⟩:∃ E,E=(a2k (xs.take M)).2:=⟨_,rfl⟩
  have HF3:=c1n (b4v wc (some ⟨g,0,none⟩) M cb (xs.take M) hzb (HT.out.keeps K2.out (by simp)) (l:=[]) (E:=E) (by rw[hE,<-hcutF.2]))
  have t0:(E !=0)=true:=by rw[hE];simpa using hcutF.1
  clear hcutF hzb hE hR hM hK e0 e0' e1 e1' i1 i2 hcap
  go_wp2_with fail
  refine HF3.out.mono ?_
  rintro _ w3 ⟨A3,n3,c3,rfl,hl3,-,-,hb3⟩
  obtain rfl:0=n3:=hl3
  have k3:=Keeps.of_below hb3 (S:=[])
  have K3:=c1n (K2.out.trans k3)
  have O3:=c1n (a0b O2.out k3 (by simp))
  have hw3:w.heap.size<=w3.heap.size:=K3.out.size
  have L3:Hid (RI .u8 (w3.alloc (.cells #[.int .u8 80] 5)) (some ⟨w3.heap.size,0,none⟩) 1 [80]):=c1n (by
   have:=Blk.ri (xs:=[80]) (ys:=[]) (k:=.u8) (by simpa using a0d w3 5 (ints .u8 [80]))
   exact this)
  have k3':Keeps [] w3 (w3.alloc (.cells #[.int .u8 80] 5)):=(Keeps.refl [] _).alloc _
  have hw3':w3.heap.size<=(w3.alloc (.cells #[.int .u8 80] 5)).heap.size:=k3'.size
  have O3':=c1n (a0b O3.out k3' (by simp))
  have K3':=c1n (K3.out.trans k3')
  clear hb3 k3 k3' HF3 K2 O2 r1 r1' r2 r3 hsl O3 K3
  go_wp2_with (at_builtin;refine a4C rfl (.tmp 62) (.tmp 63) rfl w3.heap.size (.slice none 0 0) 0 [] rfl (World.ownsRow_nil _ _ _ _) (some ⟨w3.heap.size,0,none⟩) 1 1 [80] rfl L3.out nofun (by omega) hw3' ?_)
  intro v4 w4 ho4 hg4 _
  obtain⟨A4,c4,rfl⟩:=a0g ho4
  have kk:Keeps [] (w3.alloc (.cells #[.int .u8 80] 5)) w4:=(Keeps.refl _ _).grown hg4 (fun k hk=>by simp[Value.ownBlock] at hk)
  have O4:=c1n (a0b O3'.out kk (by simp))
  have K4:=c1n (K3'.out.trans kk)
  have P4:=c1n ho4
  have R4:=c1n (b1q O4.out)
  have hw4:w3.heap.size<=w4.heap.size:=by have:=kk.size;simp at this;omega
  clear ho4 hg4 kk L3 O3' K3' hw3'
  go_wp2_with (at_builtin;refine a4C rfl (.tmp 65) (.tmp 66) rfl w3.heap.size (.slice A4 (0+1) c4) (0+1) ([]++[80]) rfl P4.out (some ⟨g,0,none⟩) nb cb xs rfl R4.out nofun (by omega) hw4 ?_)
  intro v5 w5 ho5 hg5 _
  obtain⟨A5,c5,rfl⟩:=a0g ho5
  have kk:Keeps (Value.slice A4 (0+1) c4).ownBlock.toList w4 w5:=(Keeps.refl _ _).grown hg5 (fun k hk=>.inl (Option.mem_toList.2 hk))
  have hlo:∀ x∈(Value.slice A4 (0+1) c4).ownBlock.toList,w3.heap.size<=x:=fun x hx=>a0m P4.out x (Option.mem_toList.1 hx)
  have K5:=c1n (K4.out.freshZ kk (fun x hx=>Nat.le_trans hw3 (hlo x hx)))
  have hz5:ZB w5 A5 (0+1+nb) c5 (80::xs):=b8W ho5 (fun x hx=>by
   rcases List.mem_cons.1 hx with rfl|hx
   ·omega
   ·exact HF.out.u8 x hx) (by omega)
  have HF6:=c1n (b4v w5 A5 (0+1+nb) c5 (80::xs) hz5 (HT.out.keeps K5.out (by simp)) (HF.out.ahead 80))
  clear ho5 hg5 kk hlo hz5 K4 P4 R4 O4 hw4
  go_wp2_with fail
  refine HF6.out.mono ?_
  rintro _ w6 ⟨A6,n6,c6,rfl,hl6,-,-,hb6⟩
  obtain rfl:0=n6:=hl6
  have K6:=c1n (K5.out.trans (Keeps.of_below hb6 (S:=[])))
  clear hb6 HF6 K5
  go_wp2_with fail
  refine (b8w w6 (HT.out.keeps K6.out (by simp))).mono ?_
  rintro _ w7 ⟨rfl,hk7⟩
  have K7:=c1n (K6.out.trans hk7)
  clear hk7 K6
  go_wp2_with fail
  go_ret
  exact⟨rfl,K7.out⟩
end Go.Proofs.YtghjlpechjggjaaGreatDoor
namespace Go.Proofs.YtghjlpechjggjaaGreatDoor
open Go.RowKit
theorem own_setI{w:World}{base g n c:Nat}{xs:List Int}(h:w.ownsRow base 5 1 (.slice (some ⟨g,0,none⟩) n c) n (ints .u8 xs)){i:Nat}(hi:i<n)(y:Int) :
  w.cell? ⟨g,i,none⟩=some (.int .u8 (nth xs i))/\w.frozen? ⟨g,i,none⟩=false/\(w.setCell ⟨g,i,none⟩ (.int .u8 y)).ownsRow base 5 1 (.slice (some ⟨g,0,none⟩) n c) n (ints .u8 (xs.set i y)):=by
 have hr:=(b1q h).cell g 0 rfl i hi
 rw[Nat.zero_add] at hr
 have hl:xs.length=n:=by have:=h.1;simpa [ints] using this
 rcases h.2 with⟨hv,_⟩|⟨g',cap,cur,hv,hb,hh,hc,hm,hs,ht⟩
 ·injection hv with h1;cases h1
 ·injection hv with h1 h2 h3
  injection h1 with h1
  injection h1 with h1
  subst h1
  subst h3
  have hB:Blk w g 5 cur.toList:=by unfold Blk;rw[Array.toArray_toList];exact hh
  have hB2:=hB.set i (.int .u8 y)
  refine⟨hr,hB.frozen i,⟨by simp[ints,hl],.inr ⟨g,c,_,rfl,hb,hB2,hc,hm,by simp;omega,?_⟩⟩⟩
  rw[List.toList_toArray,Nat.mul_one,List.take_set,<-Nat.mul_one n,ht]
  simp[ints,List.map_set]
theorem ob_slZ{A:Option Addr}{n c g:Nat}(h:(Value.slice A n c).ownBlock=some g):∃ a,A=some a/\a.block=g:=by
 cases A with
 | none=>simp[Value.ownBlock] at h
 | some a=>exact⟨a,rfl,by simpa [Value.ownBlock] using h⟩
theorem ff_file{l:List EN}{xs:List Int}{es:List ZE}(h:FF l xs es):FileOf l xs:=⟨⟨es,h.out,fun e he=>(h.ok e he).defl,h.xs⟩⟩
theorem u8_xor{b v:Int}(h0:0<=b/\b<=255)(h1:0<=v/\v<=255)(hv:v≠0):(0<=bits .xor .u8 b v/\bits .xor .u8 b v<=255)/\bits .xor .u8 b v≠b:=by
 obtain⟨x,rfl⟩:∃ x:Nat,b=x:=⟨b.toNat,by omega⟩
 obtain⟨y,rfl⟩:∃ y:Nat,v=y:=⟨v.toNat,by omega⟩
 rw[u8_xor_nat x y (by omega) (by omega)]
 have h2:x ^^^ y<256:=Nat.xor_lt_two_pow (n:=8) (by omega) (by omega)
 refine⟨⟨by omega,by omega⟩,fun h=>hv ?_⟩
 have h3:x ^^^ y=x:=by omega
 have h4:x ^^^ (x ^^^ y)=y:=by rw[<-Nat.xor_assoc,Nat.xor_self,Nat.zero_xor]
 rw[h3,Nat.xor_self] at h4
 omega
end Go.Proofs.YtghjlpechjggjaaGreatDoor
namespace Go.Proofs.YtghjlpechjggjaaGreatDoor
open Go.RowKit
theorem u8_ofwf{k:Int}(hk:(Lit.int .u8 k).wf=true):0<=k/\k<=255:=by
 have:=byte_ofwf (zs:=[k]) (by simpa using hk) 0
 simpa [nth] using this
theorem zipTells_walk(w:World)(A:Option Addr)(n c:Nat)(l:List EN)(at_ v:Int)(hT:Tabz w)(h:RW 2 ecells w A n l)(hm:n<=8796093022208)(hs:∀ e∈l,e.1.size<=140737488351232/\e.2.size<=140737488351232)(hnil:A=none->n=0/\c=0)(hk:(Lit.int .i64 at_).wf=true)(hv:(Lit.int .u8 v).wf=true) :
  Calls Tryz.prog 8 #[.slice A n c,.int .i64 at_,.int .u8 v] w fun e w'=>e=.returned (.bool true)/\Keeps [] w w':=by
 have HT:=c1n hT
 have H:=c1n h
 have HL:=c1n h.len
 have HS:=c1n hs
 obtain⟨i1,i2⟩:=int_ofwf hk
 obtain⟨j1,j2⟩:=u8_ofwf hv
 clear hT h hs hnil hk hv
 go_enter Tryz.func8,Tryz.ntmps8
 go_wp2_with fail
 refine (b8K w A n c l H.out (by omega) (fun e he=>⟨by have:=(HS.out e he).1;omega,by have:=(HS.out e he).2;omega⟩)).mono ?_
 rintro _ w1 ⟨rfl,hd1⟩
 have K1:=c1n (hd1.keeps (S:=[]))
 clear hd1
 cases hlg:a6d l with
 | true=>
  clear hlg
  go_wp2_with fail
  refine (b8w w1 (HT.out.keeps K1.out (by simp))).mono ?_
  rintro _ w2 ⟨rfl,hk2⟩
  go_wp2_with fail
  go_ret
  exact⟨rfl,K1.out.trans hk2⟩
 | false=>
 obtain⟨hn,hsz⟩:=small_of hlg
 rw[HL.out] at hn
 have HSZ:=c1n hsz
 clear hlg hsz HS hm
 by_cases hv0:v=0
 ·have e0:(v==0)=true:=by simpa using hv0
  clear hv0
  go_wp2_with fail
  refine (b8w w1 (HT.out.keeps K1.out (by simp))).mono ?_
  rintro _ w2 ⟨rfl,hk2⟩
  go_wp2_with fail
  go_ret
  exact⟨rfl,K1.out.trans hk2⟩
 have v0:(v==0)=false:=by simpa using hv0
 have HV:=c1n hv0
 clear hv0
 by_cases hc:a0s l=0
 case neg=>
  have e0:(a0s l !=0)=true:=by simpa using hc
  have HC:=c1n hc
  clear hc
  go_wp2_with fail
  refine (b6H w1 A n c l (H.out.keeps a0j K1.out (a0a _)) (by omega) HSZ.out (HT.out.keeps K1.out (by simp)) HC.out).mono ?_
  rintro _ w2 ⟨rfl,hb2⟩
  have K2:=c1n (K1.out.trans (Keeps.of_below hb2 (S:=[])))
  clear hb2 HC
  generalize a0s l=E at *
  go_wp2_with fail
  refine (b8w w2 (HT.out.keeps K2.out (by simp))).mono ?_
  rintro _ w3 ⟨rfl,hk3⟩
  go_wp2_with fail
  go_ret
  exact⟨rfl,K2.out.trans hk3⟩
 have HC:=c1n hc
 clear hc
 go_wp2_with fail
 refine (b0B w1 A n c l (H.out.keeps a0j K1.out (a0a _)) (by omega) HSZ.out (HT.out.keeps K1.out (by simp)) HC.out).mono ?_
 rintro _ w2 ⟨g,nb,cb,xs,es,rfl,hff,hl2,hg2,ho2,hb2⟩
 have K2:=c1n (K1.out.trans (Keeps.of_below hb2 (S:=[])))
 have HF:=c1n hff
 obtain⟨hl22,hl60⟩:=hff.len
 rw[hl2] at hl22 hl60
 have HLN:=c1n hl2
 have HG2:Hid (w.heap.size<=g):=c1n (by have:=K1.out.size;omega)
 have O2:=c1n (a6s ho2 (Nat.zero_le _))
 have e0:decide ((1048576:Int)<(nb:Int))=false:=c1o (by omega)
 have e0':decide (1048576<nb)=false:=c1o (by omega)
 have HLI:=c1n (b4u w2 _ nb cb xs (b8W O2.out hff.u8 (by omega)) hff.infos (by rw[hff.pcs]))
 have hem:=hff.many
 clear hff hl2 hg2 ho2 hb2 HC K1
 go_wp2_with fail
 refine HLI.out.mono ?_
 rintro _ w3 ⟨A3,n3,c3,rfl,hl3,hr3,hbk3,hb3⟩
 have k3:=Keeps.of_below hb3 (S:=[])
 have K3:=c1n (K2.out.trans k3)
 have O3:=c1n (a0b O2.out k3 (by simp))
 have R3:=c1n hr3
 have HN3:Hid (es.length=n3):=c1n (by rw[<-hl3,List.length_map])
 have HA3:Hid (∀ a,A3=some a->a.block≠g):=c1n (fun a ha he=>by have h1:=(hbk3 a ha).1;have h2:=(b2G O2.out ⟨g,0,none⟩ rfl).2;simp at h2;omega)
 have hn64:n3<=64:=by have:=HN3.out;omega
 clear hb3 hr3 hbk3 hl3 k3 HLI K2 O2 e0 e0'
 go_upto_if 48 with (fail)
 go_cut [1] (fun u wc=>∃ K:Nat,u=.int .i64 K/\K<=9223372036854775807/\wc=w3)
 case first=>
  by_cases hz:at_<0
  ·have x0:decide (at_<0)=true:=c1q hz
   have s1:IntKind.i64.wrap (at_+1)=at_+1:=c1p _ (by omega)
   obtain⟨K,hK⟩:∃ K:Nat,-(at_+1)=(K:Int):=⟨(-(at_+1)).toNat,by omega⟩
   have s2:IntKind.i64.wrap (-(at_+1))=(K:Int):=by rw[hK];exact c1p _ (by omega)
   have h3:K<=9223372036854775807:=by omega
   clear hK
   go_wp2_with fail
   go_meet
   exact⟨K,rfl,h3,rfl⟩
  ·have x0:decide (at_<0)=false:=c1o hz
   go_wp2_with fail
   go_meet
   exact⟨at_.toNat,by rw[Int.toNat_of_nonneg (by omega)],by omega,rfl⟩
 case rest=>
  obtain⟨K,rfl,hK,rfl⟩:=hcut
  go_upto_region 13 with (fail)
  go_loopw [11,12] (fun pv iv wr=>∃ i:Nat,i<=n3/\iv=.int .i64 i/\pv=.int .i64 (a1O es i:Nat)/\wr=wc) (fun _ iv _=>n3-(intOf iv).toNat)
  case atStart=>exact⟨0,by omega,rfl,by rw[b9J];rfl,rfl⟩
  case round=>
   obtain⟨i,hi,rfl,rfl,rfl⟩:=hrel
   by_cases hlt:i<n3
   ·have e1:decide (i<n3)=true:=c1q hlt
    have e1':decide ((i:Int)<(n3:Int))=true:=c1q (by omega)
    have hie:i<es.length:=by rw[HN3.out];exact hlt
    obtain⟨ib,io,rfl⟩:=R3.out.hd (by omega)
    have hcl:=R3.out.cell ib io rfl i (by rw[List.length_map];exact hie)
    have c0:=hcl 0 (by omega)
    have c2':=hcl 2 (by omega)
    have c4':=hcl 4 (by omega)
    rw[List.getElem_map] at c0 c2' c4'
    obtain⟨t1,t2,t3,t4,t5,t6⟩:=es[i].tells (HF.out.ok _ (List.getElem_mem _))
    have hpk:es[i].g.x.packed=(es[i].body.length:Nat):=rfl
    have hwy:es[i].g.x.way=es[i].way:=rfl
    have hnm:es[i].g.x.name=es[i].name:=rfl
    have HPS:=c1n (b9I es hie)
    have hp1:=c0H es HF.out.ok HF.out.many (i+1)
    have hp0:=c0H es HF.out.ok HF.out.many i
    have HTN:Hid (∀ k u,k<es[i].body.length->es[i].way=0->0<=u/\u<=255->u≠nth xs (a1O es i+30+es[i].name.size+k)->a1O es i+30+es[i].name.size+k<nb/\zpieces (xs.set (a1O es i+30+es[i].name.size+k) u)=zpieces xs/\a2k (xs.set (a1O es i+30+es[i].name.size+k) u)=([],83)/\b4t (xs.set (a1O es i+30+es[i].name.size+k) u) es[i].name=([],83)):=c1n (fun k u h1 h2 h3 h4=>by
     have:=HF.out.turn hie h1 h2 h3 h4
     rw[HLN.out] at this
     exact this)
    have HPU:Hid (∀ k,k<es[i].body.length->a1O es i+30+es[i].name.size+k<nb):=c1n (fun k h1=>by
     have h2:=b9I es hie
     have h3:a1O es (i+1)<=nb:=by
      rw[<-HLN.out,HF.out.xs,a1q]
      unfold a1O
      conv=>rhs;rw[<-List.take_append_drop (i+1) (es.map ZE.g),a4X,List.length_append]
      omega
     omega)
    simp only[icells,List.getElem?_cons_zero,List.getElem?_cons_succ,Nat.add_zero] at c0 c2' c4'
    rw[hnm] at c0
    rw[hpk] at c2'
    rw[hwy] at c4'
    have HW8:Hid (es[i].way=0∨es[i].way=8):=c1n es[i].way08
    clear hcl hpk hwy hnm t1 t2 t3 t4 t5 t6
    generalize es[i]=ee at *
    clear hie
    obtain⟨P,hP⟩:∃ z,z=a1O es i:=⟨_,rfl⟩
    obtain⟨P2,hP2⟩:∃ z,z=a1O es (i+1):=⟨_,rfl⟩
    rw[<-hP] at HPS HTN HPU hp0 ⊢
    rw[<-hP2] at HPS hp1
    have HP2:=c1n hP2
    clear hP hP2
    generalize ee.name=nm at *
    generalize ee.way=way at *
    generalize ee.body.length=bl at *
    obtain⟨Q,hQ⟩:∃ z,z=P+30+nm.size:=⟨_,rfl⟩
    have hps:=HPS.out
    have s1:IntKind.i64.wrap ((P:Int)+30)=(P:Int)+30:=c1p _ (by omega)
    have s2:IntKind.i64.wrap ((P:Int)+30+(nm.size:Int))=(Q:Int):=by rw[c1p _ (by omega)];omega
    have s3:IntKind.i64.wrap ((Q:Int)+(bl:Int))=(P2:Int):=by rw[c1p _ (by omega)];omega
    have hQ2:Q<=600000:=by omega
    have hb0:bl<=600000:=by omega
    rw[<-hQ] at HTN HPU
    obtain⟨R,hR⟩:∃ z,z=K%n3:=⟨_,rfl⟩
    have r1':(K:Int)%(n3:Int)=(R:Int):=by rw[hR];exact (Int.natCast_emod K n3).symm
    have r1:Int.tmod (K:Int) (n3:Int)=(R:Int):=by rw[Int.tmod_eq_emod_of_nonneg (by omega)];exact r1'
    clear hps HPS hQ hR hp0 hp1
    by_cases hit:0<bl/\way=0/\i=R
    ·obtain⟨g1,g2,g3⟩:=hit
     have x1:decide (0<bl)=true:=c1q g1
     have x1':decide ((0:Int)<(bl:Int))=true:=c1q (by omega)
     have x2:(way==0)=true:=by simpa using g2
     have x3:((i:Int)==(R:Int))=true:=by simp;omega
     have HW0:=c1n g2
     obtain⟨M,hM⟩:∃ z,z=K%bl:=⟨_,rfl⟩
     have hMb:M<bl:=by rw[hM];exact Nat.mod_lt _ g1
     have m1':(K:Int)%(bl:Int)=(M:Int):=by rw[hM];exact (Int.natCast_emod K bl).symm
     have m1:Int.tmod (K:Int) (bl:Int)=(M:Int):=by rw[Int.tmod_eq_emod_of_nonneg (by omega)];exact m1'
     obtain⟨J,hJ⟩:∃ z,z=Q+M:=⟨_,rfl⟩
     have s4:IntKind.i64.wrap ((Q:Int)+(M:Int))=(J:Int):=by rw[c1p _ (by omega)];omega
     have hJn:J<nb:=by rw[hJ];exact HPU.out M hMb
     obtain⟨q1,q2,-⟩:=own_setI O3.out hJn 0
     have hb:=HF.out.u8 (nth xs J) (by rw[a0q (by rw[HLN.out];exact hJn)];exact List.getElem_mem _)
     have HJ:=c1n hJ
     clear g1 g2 g3 hM hJ m1'
     have hX:=u8_xor hb ⟨j1,j2⟩ HV.out
     have hT1:=HTN.out M (bits .xor .u8 (nth xs J) v) hMb HW0.out hX.1 (by rw[<-HJ.out];exact hX.2)
     rw[<-HJ.out] at hT1
     obtain⟨-,hz1,hz2,hz3⟩:=hT1
     have O4:=c1n (own_setI O3.out hJn (bits .xor .u8 (nth xs J) v)).2.2
     obtain⟨w4,hw4⟩:∃ z,z=wr.setCell ⟨g,J,none⟩ (.int .u8 (bits .xor .u8 (nth xs J) v)):=⟨_,rfl⟩
     obtain⟨ys,hys⟩:∃ z,z=xs.set J (bits .xor .u8 (nth xs J) v):=⟨_,rfl⟩
     have k4:Keeps [g] wr w4:=by rw[hw4];exact (Keeps.refl [g] wr).setCell (p:=⟨g,J,none⟩) (.inl (by simp)) _
     have hyb:∀ y∈ys,0<=y/\y<=255:=by
      rw[hys];intro y hy
      rcases List.mem_or_eq_of_mem_set hy with hy|rfl
      ·exact HF.out.u8 y hy
      ·exact hX.1
     rw[<-hw4,<-hys] at O4
     rw[<-hys] at hz1 hz2 hz3
     have HYB:=c1n hyb
     have K4:=c1n (K3.out.freshZ k4 (by simp;exact HG2.out))
     have R4:=c1n (R3.out.keeps a3s k4 (fun a ha hm=>HA3.out a ha (by simpa using hm)))
     have Z4:Hid (ZB w4 (some ⟨g,0,none⟩) nb cb ys):=c1n (b8W O4.out hyb (by omega))
     have HLI:=c1n (b4u w4 _ nb cb ys Z4.out (l:=es.map fun e=>e.g.x) (E:=0) (by rw[hz1,HF.out.infos]) (by rw[hz1,HF.out.pcs]))
     have HRD:Hid (a2k ys=([],83)):=c1n hz2
     have HFD:Hid (b4t ys nm=([],83)):=c1n hz3
     have c0w:Hid (∀ V,Keeps [] w4 V->V.cell? ⟨ib,io+i*5,none⟩=some (.string nm)):=c1n (fun V hk=>(k4.trans (hk.mono (by simp))).cell (p:=⟨ib,io+i*5,none⟩) (by simp;exact HA3.out _ rfl) c0)
     go_upto_region 19 with (fail)
     rw[<-hw4]
     clear hw4 hys hX hz1 hz2 hz3 k4 hyb c0 c2' c4' HTN HPU O3 K3 R3 q1 q2 hb
     go_wp2_with fail
     refine HLI.out.mono ?_
     rintro _ w5 ⟨A5,n5,c5,rfl,hl5,hr5,hbk5,hb5⟩
     have k5:=Keeps.of_below hb5 (S:=[])
     have K5:=c1n (K4.out.trans k5)
     have K45:=c1n k5
     have R45:=c1n (R4.out.keeps a3s k5 (a0a _))
     have R5:=c1n hr5
     have Z5:=c1n (Z4.out.keeps k5 (a0a _))
     have hn5:n5=n3:=by rw[<-hl5,List.length_map];exact HN3.out
     clear hb5 hr5 hbk5 hl5 k5 HLI Z4 K4 R4
     subst hn5
     go_wp2_with fail
     refine (b4v w5 _ nb cb ys Z5.out (HT.out.keeps K5.out (by simp)) HRD.out).mono ?_
     rintro _ w6 ⟨A6,n6,c6,rfl,-,-,-,hb6⟩
     have k6:=Keeps.of_below hb6 (S:=[])
     have K6:=c1n (K5.out.trans k6)
     have K46:=c1n (K45.out.trans k6)
     have R46:=c1n (R45.out.keeps a3s k6 (a0a _))
     have R6:=c1n (R5.out.keeps a3s k6 (a0a _))
     have Z6:=c1n (Z5.out.keeps k6 (a0a _))
     have c0:=c0w.out w6 K46.out
     have HFC:=c1n (zfind_calls w6 (some ⟨g,0,none⟩) nb cb ys nm Z6.out (HT.out.keeps K6.out (by simp)))
     rw[HFD.out] at HFC
     clear hb6 k6 Z5 K5 R45 R5 K45
     go_wp2_with fail
     refine HFC.out.mono ?_
     rintro _ w7 ⟨rfl,hb7⟩
     have k7:=Keeps.of_below hb7 (S:=[])
     have K7:=c1n (K6.out.trans k7)
     have R47:=c1n (R46.out.keeps a3s k7 (a0a _))
     have R7:=c1n (R6.out.keeps a3s k7 (a0a _))
     clear hb7 k7 Z6 K6 R46 R6 HFC c0
     go_wp2_with fail
     refine (b8w w7 (HT.out.keeps K7.out (by simp))).mono ?_
     rintro _ w8 ⟨rfl,k8⟩
     have K8:=c1n (K7.out.trans k8)
     have HIN:=c1n (b8H w8 A5 (some ⟨ib,io,none⟩) n5 c5 n5 c3 _ _ (R7.out.keeps a3s k8 (a0a _)) (R47.out.keeps a3s k8 (a0a _)) (by omega) (by omega))
     rw[c1q rfl] at HIN
     clear k8 K7 R47 R7
     go_wp2_with fail
     refine HIN.out.mono ?_
     rintro _ w9 ⟨rfl,hd9⟩
     have K9:=c1n (K8.out.trans (hd9.keeps (S:=[])))
     clear hd9 K8 HIN
     go_wp2_with fail
     go_ret
     exact⟨rfl,K9.out⟩
    ·have NEXT:Hid (i+1<=n3/\(P2:Int)=(a1O es (i+1):Nat)):=c1n ⟨by omega,by rw[HP2.out]⟩
     by_cases g1:0<bl
     ·have x1:decide (0<bl)=true:=c1q g1
      have x1':decide ((0:Int)<(bl:Int))=true:=c1q (by omega)
      by_cases g2:way=0
      ·have x2:(way==0)=true:=by simpa using g2
       have x3:((i:Int)==(R:Int))=false:=by simp;exact fun h=>hit ⟨g1,g2,by omega⟩
       have HG:=c1n g2
       clear g1 g2 hit
       go_wp2_with fail
       go_roundw
       case rel=>exact⟨i+1,by omega,by go_num,by rw[NEXT.out.2],by trivial⟩
       case measure=>simp[intOf];omega
      ·have x2:(way==0)=false:=by simpa using g2
       clear g1 g2 hit
       go_wp2_with fail
       go_roundw
       case rel=>exact⟨i+1,by omega,by go_num,by rw[NEXT.out.2],by trivial⟩
       case measure=>simp[intOf];omega
     ·have x1:decide (0<bl)=false:=c1o g1
      have x1':decide ((0:Int)<(bl:Int))=false:=c1o (by omega)
      clear g1 hit
      go_wp2_with fail
      go_roundw
      case rel=>exact⟨i+1,by omega,by go_num,by rw[NEXT.out.2],by trivial⟩
      case measure=>simp[intOf];omega
   ·have e1:decide (i<n3)=false:=c1o hlt
    have e1':decide ((i:Int)<(n3:Int))=false:=c1o (by omega)
    go_wp2_with fail
    refine (b8w wr (HT.out.keeps K3.out (by simp))).mono ?_
    rintro _ w4 ⟨rfl,k4⟩
    have K4:=c1n (K3.out.trans k4)
    clear k4
    go_wp2_with fail
    go_ret
    exact⟨rfl,K4.out⟩
end Go.Proofs.YtghjlpechjggjaaGreatDoor
/-
 A file in which one byte of an entry that is kept as it is is another one is refused,and its list is the same;of any entries,place and byte.
-/
namespace Go.Proofs.YtghjlpechjggjaaGreatDoor.zipTells
open Go.ChangeShapes Go.WideShapes Go.ChangeAt Go.RowKit
theorem contract (H:Type) (enc:TypeId×Value->H) (W:World) (base:Nat) (args:Array Value) (ds gs:List (DataW H)) (before:List MemPlace)
  (hval:∀ (j:Nat) t v,Tryz.f8.params[j]? =some t->args[j]? =some v->Value.okWide Tryz.prog W .any base t v)
  (hW:DataW.Whole enc Tryz.prog Tryz.f8.params.toList Rows.zipTellsSpec.vars false W args.toList ds gs before) (hL:laidMetH Tryz.prog Rows.zipTellsRow.laid W) (hsz:(DataW.weightsEach Tryz.prog (Tryz.f8.params.toList++(OpenSpec.ofChange Rows.zipTellsSpec).bare.plain.varTypes Tryz.prog) (ds++gs)).all (·<=reachBytes)=true) :
  Calls Tryz.prog 8 args W fun e W'=>∃ v,e=.returned v/\Rows.zipTellsSpec.post enc Tryz.prog Tryz.f8 false true false false W args v W':=by
 have hT : Tabz W := c1j (laidMet.filter (fun x => x.1 == "haversack/lens.order" || x.1 == "haversack/lens.wide" || x.1 == "haversack/lens.from") hL) (laidMet.filter (fun x => x.1 == "haversack/little.steps") hL)
 have hW':=hW
 obtain⟨p,q,hA0,hV,rfl,hfz,hnd⟩:=hW
 have hA:DataW.TrodAll enc Tryz.prog W 0 (fun _=>true) true Tryz.f8.params.toList args.toList ds p:=hA0
 rw[Tryz.params8] at hA hval
 obtain⟨v0,vs0,d0,ds0,p0,q0,hargs,rfl,rfl,h0,r0⟩:=trodAll_cons hA
 obtain⟨v1,vs1,d1,ds1,p1,q1,rfl,rfl,rfl,h1,r1⟩:=trodAll_cons r0
 obtain⟨v2,vs2,d2,ds2,p2,q2,rfl,rfl,rfl,h2,r2⟩:=trodAll_cons r1
 obtain⟨rfl,rfl,rfl⟩:=trodAll_nil r2
 obtain rfl:args=#[v0,v1,v2]:=by cases args;simp_all
 obtain⟨rfl,rfl⟩:=trodVars_none hV
 obtain⟨a0,len0,cap0,rfl⟩:=okWide_slice Tryz.underlying24 (hval 0 24 v0 rfl rfl)
 have k0:=h0
 have lt0:∀ x∈p0,x.block<W.heap.size:=by obtain⟨m,hm⟩:=k0;exact DataW.trod_lt m _ _ _ hm
 obtain⟨z0,w0,m0,y0,n0⟩:=b8E h0 (fun x hx=>of_decide_eq_true (List.all_eq_true.1 hsz x (DataW.weights_mem_each (j:=0) (t:=24) (d:=d0) rfl rfl x hx)))
 obtain⟨a1,rfl,rfl,rfl,w1⟩:=open_int Tryz.underlying3 (hval 1 3 v1 rfl rfl) h1
 obtain⟨a2,rfl,rfl,rfl,w2⟩:=open_int Tryz.underlying5 (hval 2 5 v2 rfl rfl) h2
 clear hA0
 refine (zipTells_walk W a0 len0 cap0 z0 a1 a2 hT w0 m0 y0 n0 w1 w2).mono fun e W' ⟨he,hk⟩=>?_
 have bel:=hk.below
 subst he
 exact⟨_,rfl,_,_,_,[],_,[],hW',trodAll_mk1 (shut_bool Tryz.underlying4 _),(trodAll_cons_mk (Below.trod laidOut (by kernel_rfl) (of_decide_eq_true (by kernel_rfl)) k0 bel lt0) (trodAll_cons_mk (shut_int Tryz.underlying3 w1) (trodAll_cons_mk (shut_int Tryz.underlying5 w2) trodAll_mk0))),rfl,bel.frame _,fun h=>by cases h⟩
theorem reads(os:Os){H:Type}(enc:TypeId×Value->H):∃ places,DataW.whole enc Tryz.prog ((laidWorldZ os).forCall (fun _ _=>0) ⟨#[],#[.slice none 0 0,.int .i64 0,.int .u8 0],[]⟩).memory Tryz.f8.params.toList Rows.zipTellsSpec.vars false #[Value.slice none 0 0,.int .i64 0,.int .u8 0].toList 8=some ([.nil,.lit (.int .i64 0),.lit (.int .u8 0)],[],places):=
 ⟨[],by kernel_rfl⟩
theorem lifted(os:Os)(started:os.Started)(H:Type)(enc:TypeId×Value->H)(F:Stop.Interp) :
  ReturnsInHanded {} Tryz.checked os 8 .any ((OpenSpec.ofChange Rows.zipTellsSpec).preRow enc Tryz.prog Tryz.f8 Rows.zipTellsRow.domain false Rows.zipTellsRow.laid) (((OpenSpec.ofChange Rows.zipTellsSpec).at F).post enc Tryz.prog Tryz.f8 false true false false):=by
 obtain⟨places,hx⟩:=reads os enc
 refine returnsInHanded_of_row (C:=Tryz.checked) (s:=OpenSpec.ofChange Rows.zipTellsSpec) own started (by kernel_rfl) Tryz.func8
  (witness_row_at (enc:=enc) (C:=Tryz.checked) false (laidWorldZ os) #[.slice none 0 0,.int .i64 0,.int .u8 0] rfl (by kernel_rfl) (by kernel_rfl) (by kernel_rfl)
   (OpenSpec.preRow_of_cond 8 hx (by kernel_rfl) (fun k hk=>by cases hk) (by kernel_rfl) (c0y os _))) ?_
 intro W base args ds gs before hval hW _ _ hsz hL _ _
 exact contract H enc W base args ds gs before hval hW hL hsz
theorem said:Rows.ZipTellsSaid:=
 OpenClaim.holds_of_cond 8 Tryz.f8 rfl rfl rfl rfl rfl rfl rfl ⟨rfl,rfl,rfl,rfl,rfl⟩ rfl rfl rfl rfl rfl (by kernel_rfl) Tryz.func8 (by kernel_rfl)
  (of_decide_eq_true (by kernel_rfl)) (by unfold Func.isWrapper;first|(rw[if_pos (by decide +kernel)];kernel_rfl)|(rw[if_neg (by decide +kernel)];exact⟨rfl,rfl⟩))
  (fun os started H enc _ F=>by rw[OpenClaim.pre_eq_preRow];exact lifted os started H enc F)
theorem plain (f : FuncId) (fn : Func) (hf : Tryz.pinned.checked.prog.funcNamed "haversack/haversacklaw08.ZipTells" = some f) (hfn : Tryz.pinned.checked.prog.funcs[f]? = some fn) :
  true=Tryz.pinned.checked.prog.looks []/\∀ (j:Nat) t,fn.params[j]? =some t->Tryz.pinned.checked.prog.wantsStandIn t=false:=by
 obtain rfl : f = 8 := Option.some.inj ((show Tryz.prog.funcNamed "haversack/haversacklaw08.ZipTells" = some 8 by kernel_rfl).symm.trans hf) |>.symm
 obtain rfl:fn=Tryz.f8:=(Option.some.inj (Tryz.func8.symm.trans hfn)).symm
 refine⟨by kernel_rfl,fun j t ht=>?_⟩
 rw[Tryz.params8] at ht
 have hm:=Array.mem_of_getElem? ht
 have hm2:t=24∨t=3∨t=5:=by simpa using hm
 rcases hm2 with rfl|rfl|rfl
 ·exact (show Tryz.prog.wantsStandIn 24=false by kernel_rfl)
 ·exact (show Tryz.prog.wantsStandIn 3=false by kernel_rfl)
 ·exact (show Tryz.prog.wantsStandIn 5=false by kernel_rfl)
theorem card:Rows.ZipTellsCardSaid:=
 Claim7.holds_tied_plain_at .later [] _ _ _ _ said (fun _ h=>by cases h) (by kernel_rfl) (fun _ h=>by cases h) zipTells_row_tie rfl ⟨rfl,rfl⟩ (by kernel_rfl) rfl plain (by kernel_rfl)
#print axioms card
end Go.Proofs.YtghjlpechjggjaaGreatDoor.zipTells
