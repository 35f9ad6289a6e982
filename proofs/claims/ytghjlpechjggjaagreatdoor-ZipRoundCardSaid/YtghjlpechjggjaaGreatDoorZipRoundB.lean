import Derived.Test.YtghjlpechjggjaaGreatDoorZipRoundA
import Derived.Test.YtghjlpechjggjaaGreatDoorZshP
import Derived.Deep.RegionHeldLaw
import Derived.Test.YtghjlpechjggjaaGreatDoorZshH
set_option linter.defProp false
set_option linter.unnecessarySimpa false
set_option linter.unusedVariables false
set_option linter.unusedSimpArgs false
set_option linter.constructorNameAsVariable false
set_option maxRecDepth 100000
set_option maxHeartbeats 60000000
namespace Go.Proofs.YtghjlpechjggjaaGreatDoor
open Go.RowKit
private def c1n := @Lib.hid
private def c1o := @decide_eq_false
private def c1p := @decide_eq_true
private def c1q := @IntWalk.i64_in
open Go.RowKit
theorem small_of{l:List EN}(h:a6d l=false):l.length<=16777216/\∀ e∈l,e.1.size<=1000000000/\e.2.size<=1000000000:=by
 unfold a6d at h
 have h:=of_decide_eq_false h
 exact⟨by omega,fun e he=>by have:=c0V he;omega⟩
theorem zipCuts_walk(w:World)(A:Option Addr)(n c:Nat)(l:List EN)(cut:Int)(hT:Tabz w)(h:RW 2 ecells w A n l)(hm:n<=8796093022208)(hs:∀ e∈l,e.1.size<=140737488351232/\e.2.size<=140737488351232)(hnil:A=none->n=0/\c=0)(hk:(Lit.int .i64 cut).wf=true) :
  Calls Tryz.prog 5 #[.slice A n c,.int .i64 cut] w fun e w'=>e=.returned (.bool true)/\Keeps [] w w':=by
 have HT:=c1n hT
 have H:=c1n h
 have HL:=c1n h.len
 have HS:=c1n hs
 obtain⟨i1,i2⟩:=int_ofwf hk
 clear hT h hs hnil hk
 go_enter Tryz.func5,Tryz.ntmps5
 go_wp2_with fail
 refine (b8K w A n c l H.out (by omega) (fun e he=>⟨by have:=(HS.out e he).1;omega,by have:=(HS.out e he).2;omega⟩)).mono ?_
 rintro _ w1 ⟨rfl,hd1⟩
 have K1:=c1n (hd1.keeps (S:=[]))
 clear hd1
 cases hlg:a6d l with
 | true=>
  clear hlg
  go_wp2_with fail
  refine (b8w w1 (HT.out.keeps K1.out (by simp))).mono ?_
  rintro _ w2 ⟨rfl,hk2⟩
  go_wp2_with fail
  go_ret
  exact⟨rfl,K1.out.trans hk2⟩
 | false=>
 obtain⟨hn,hsz⟩:=small_of hlg
 rw[HL.out] at hn
 have HSZ:=c1n hsz
 clear hlg hsz HS hm
 by_cases hc:a0s l=0
 case neg=>
  have e0:(a0s l !=0)=true:=by simpa using hc
  have HC:=c1n hc
  clear hc
  go_wp2_with fail
  refine (b6H w1 A n c l (H.out.keeps a0j K1.out (a0a _)) (by omega) HSZ.out (HT.out.keeps K1.out (by simp)) HC.out).mono ?_
  rintro _ w2 ⟨rfl,hb2⟩
  have K2:=c1n (K1.out.trans (Keeps.of_below hb2 (S:=[])))
  clear hb2 HC
  generalize a0s l=E at *
  go_wp2_with fail
  refine (b8w w2 (HT.out.keeps K2.out (by simp))).mono ?_
  rintro _ w3 ⟨rfl,hk3⟩
  go_wp2_with fail
  go_ret
  exact⟨rfl,K2.out.trans hk3⟩
 have HC:=c1n hc
 clear hc
 go_wp2_with fail
 refine (b0B w1 A n c l (H.out.keeps a0j K1.out (a0a _)) (by omega) HSZ.out (HT.out.keeps K1.out (by simp)) HC.out).mono ?_
 rintro _ w2 ⟨g,nb,cb,xs,es,rfl,hff,hl2,hg2,ho2,hb2⟩
 have K2:=c1n (K1.out.trans (Keeps.of_below hb2 (S:=[])))
 have O2:=c1n ho2
 have HF:=c1n hff
 obtain⟨hl22,hl60⟩:=hff.len
 rw[hl2] at hl22 hl60
 have HLN:=c1n hl2
 have hgw:w.heap.size<=w2.heap.size:=K2.out.size
 clear hff hl2 hg2 ho2 hb2 HC
 have e0:decide ((1048576:Int)<(nb:Int))=false:=c1o (by omega)
 have e0':decide (1048576<nb)=false:=c1o (by omega)
 have e1:decide ((nb:Int)<22)=false:=c1o (by omega)
 have e1':decide (nb<22)=false:=c1o (by omega)
 go_upto_if 43 with (fail)
 go_cut [1] (fun v wc=>∃ K:Nat,v=.int .i64 K/\K<=9223372036854775807/\wc=w2)
 case first=>
  by_cases hz:cut<0
  ·have x0:decide (cut<0)=true:=c1p hz
   have s1:IntKind.i64.wrap (cut+1)=cut+1:=c1q _ (by omega)
   obtain⟨K,hK⟩:∃ K:Nat,-(cut+1)=(K:Int):=⟨(-(cut+1)).toNat,by omega⟩
   have s2:IntKind.i64.wrap (-(cut+1))=(K:Int):=by rw[hK];exact c1q _ (by omega)
   have h3:K<=9223372036854775807:=by omega
   clear hK
   go_wp2_with fail
   go_meet
   exact⟨K,rfl,h3,rfl⟩
  ·have x0:decide (cut<0)=false:=c1o hz
   go_wp2_with fail
   go_meet
   exact⟨cut.toNat,by rw[Int.toNat_of_nonneg (by omega)],by omega,rfl⟩
 case rest=>
  obtain⟨K,rfl,hK,rfl⟩:=hcut
  obtain⟨R,hR⟩:∃ R,R=K%nb:=⟨_,rfl⟩
  have hRn:R<nb:=by rw[hR];exact Nat.mod_lt _ (by omega)
  have r1':(K:Int)%(nb:Int)=(R:Int):=by rw[hR];exact (Int.natCast_emod K nb).symm
  have r1:Int.tmod (K:Int) (nb:Int)=(R:Int):=by rw[Int.tmod_eq_emod_of_nonneg (by omega)];exact r1'
  obtain⟨M,hM⟩:∃ M,M=nb-(1+R):=⟨_,rfl⟩
  have r2:IntKind.i64.wrap (1+(R:Int))=1+(R:Int):=c1q _ (by omega)
  have r3:IntKind.i64.wrap ((nb:Int)-(1+(R:Int)))=(M:Int):=by rw[c1q _ (by omega)];omega
  have hMn:M<nb:=by omega
  have hcap:=b1o O2.out
  have hsl:∀ W,(Instr.slice 26 (.slice (some ⟨g,0,none⟩) nb cb) none (some (.int .i64 (M:Int))) none).run Tryz.prog W=.ok (.slice (some ⟨g,0,none⟩) M cb) W:=fun W=>slice_to8 W _ nb cb M _ rfl (by omega) hcap
  have hcutF:=HF.out.cut (m:=M) (by rw[HLN.out];exact hMn)
  have hzb:ZB wc (some ⟨g,0,none⟩) M cb (xs.take M):=⟨(b1q O2.out).take (by omega),hcap.to (by omega),fun x hx=>HF.out.u8 x (List.mem_of_mem_take hx),by omega,fun a ha=>(b2G O2.out a ha).2⟩
  obtain⟨E,hE⟩:∃ E,E=(a2k (xs.take M)).2:=⟨_,rfl⟩
  have HF3:=c1n (b4v wc (some ⟨g,0,none⟩) M cb (xs.take M) hzb (HT.out.keeps K2.out (by simp)) (l:=[]) (E:=E) (by rw[hE,<-hcutF.2]))
  have t0:(E !=0)=true:=by rw[hE];simpa using hcutF.1
  clear hcutF hzb hE hR hM hK e0 e0' e1 e1' i1 i2 hcap
  go_wp2_with fail
  refine HF3.out.mono ?_
  rintro _ w3 ⟨A3,n3,c3,rfl,hl3,-,-,hb3⟩
  obtain rfl:0=n3:=hl3
  have k3:=Keeps.of_below hb3 (S:=[])
  have K3:=c1n (K2.out.trans k3)
  have O3:=c1n (a0b O2.out k3 (by simp))
  have hw3:w.heap.size<=w3.heap.size:=K3.out.size
  have L3:Hid (RI .u8 (w3.alloc (.cells #[.int .u8 80] 5)) (some ⟨w3.heap.size,0,none⟩) 1 [80]):=c1n (by
   have:=Blk.ri (xs:=[80]) (ys:=[]) (k:=.u8) (by simpa using a0d w3 5 (ints .u8 [80]))
   exact this)
  have k3':Keeps [] w3 (w3.alloc (.cells #[.int .u8 80] 5)):=(Keeps.refl [] _).alloc _
  have hw3':w3.heap.size<=(w3.alloc (.cells #[.int .u8 80] 5)).heap.size:=k3'.size
  have O3':=c1n (a0b O3.out k3' (by simp))
  have K3':=c1n (K3.out.trans k3')
  clear hb3 k3 k3' HF3 K2 O2 r1 r1' r2 r3 hsl O3 K3
  go_wp2_with (at_builtin;refine a4C rfl (.tmp 62) (.tmp 63) rfl w3.heap.size (.slice none 0 0) 0 [] rfl (World.ownsRow_nil _ _ _ _) (some ⟨w3.heap.size,0,none⟩) 1 1 [80] rfl L3.out nofun (by omega) hw3' ?_)
  intro v4 w4 ho4 hg4 _
  obtain⟨A4,c4,rfl⟩:=a0g ho4
  have kk:Keeps [] (w3.alloc (.cells #[.int .u8 80] 5)) w4:=(Keeps.refl _ _).grown hg4 (fun k hk=>by simp[Value.ownBlock] at hk)
  have O4:=c1n (a0b O3'.out kk (by simp))
  have K4:=c1n (K3'.out.trans kk)
  have P4:=c1n ho4
  have R4:=c1n (b1q O4.out)
  have hw4:w3.heap.size<=w4.heap.size:=by have:=kk.size;simp at this;omega
  clear ho4 hg4 kk L3 O3' K3' hw3'
  go_wp2_with (at_builtin;refine a4C rfl (.tmp 65) (.tmp 66) rfl w3.heap.size (.slice A4 (0+1) c4) (0+1) ([]++[80]) rfl P4.out (some ⟨g,0,none⟩) nb cb xs rfl R4.out nofun (by omega) hw4 ?_)
  intro v5 w5 ho5 hg5 _
  obtain⟨A5,c5,rfl⟩:=a0g ho5
  have kk:Keeps (Value.slice A4 (0+1) c4).ownBlock.toList w4 w5:=(Keeps.refl _ _).grown hg5 (fun k hk=>.inl (Option.mem_toList.2 hk))
  have hlo:∀ x∈(Value.slice A4 (0+1) c4).ownBlock.toList,w3.heap.size<=x:=fun x hx=>a0m P4.out x (Option.mem_toList.1 hx)
  have K5:=c1n (K4.out.freshZ kk (fun x hx=>Nat.le_trans hw3 (hlo x hx)))
  have hz5:ZB w5 A5 (0+1+nb) c5 (80::xs):=b8W ho5 (fun x hx=>by
   rcases List.mem_cons.1 hx with rfl|hx
   ·omega
   ·exact HF.out.u8 x hx) (by omega)
  have HF6:=c1n (b4v w5 A5 (0+1+nb) c5 (80::xs) hz5 (HT.out.keeps K5.out (by simp)) (HF.out.ahead 80))
  clear ho5 hg5 kk hlo hz5 K4 P4 R4 O4 hw4
  go_wp2_with fail
  refine HF6.out.mono ?_
  rintro _ w6 ⟨A6,n6,c6,rfl,hl6,-,-,hb6⟩
  obtain rfl:0=n6:=hl6
  have K6:=c1n (K5.out.trans (Keeps.of_below hb6 (S:=[])))
  clear hb6 HF6 K5
  go_wp2_with fail
  refine (b8w w6 (HT.out.keeps K6.out (by simp))).mono ?_
  rintro _ w7 ⟨rfl,hk7⟩
  have K7:=c1n (K6.out.trans hk7)
  clear hk7 K6
  go_wp2_with fail
  go_ret
  exact⟨rfl,K7.out⟩
end Go.Proofs.YtghjlpechjggjaaGreatDoor
namespace Go.Proofs.YtghjlpechjggjaaGreatDoor
open Go.RowKit
def nsn:ByteArray:=⟨#[110,111,47,115,117,99,104,47,110,97,109,101]⟩
theorem zipRound_walk(w:World)(A:Option Addr)(n c:Nat)(l:List EN)(hT:Tabz w)(h:RW 2 ecells w A n l)(hm:n<=8796093022208)(hs:∀ e∈l,e.1.size<=140737488351232/\e.2.size<=140737488351232)(hnil:A=none->n=0/\c=0) :
  Calls Tryz.prog 7 #[.slice A n c] w fun e w'=>e=.returned (.bool true)/\Keeps [] w w':=by
 have HT:=c1n hT
 have H:=c1n h
 have HL:=c1n h.len
 have HS:=c1n hs
 clear hT h hs hnil
 go_enter Tryz.func7,Tryz.ntmps7
 go_wp2_with fail
 refine (b8K w A n c l H.out (by omega) (fun e he=>⟨by have:=(HS.out e he).1;omega,by have:=(HS.out e he).2;omega⟩)).mono ?_
 rintro _ w1 ⟨rfl,hd1⟩
 have K1:=c1n (hd1.keeps (S:=[]))
 clear hd1
 cases hlg:a6d l with
 | true=>
  clear hlg
  go_wp2_with fail
  refine (b8w w1 (HT.out.keeps K1.out (by simp))).mono ?_
  rintro _ w2 ⟨rfl,hk2⟩
  go_wp2_with fail
  go_ret
  exact⟨rfl,K1.out.trans hk2⟩
 | false=>
 obtain⟨hn,hsz⟩:=small_of hlg
 rw[HL.out] at hn
 have HSZ:=c1n hsz
 clear hlg hsz HS hm
 by_cases hc:a0s l=0
 case neg=>
  have e0:(a0s l !=0)=true:=by simpa using hc
  have HC:=c1n hc
  clear hc
  go_wp2_with fail
  refine (b6H w1 A n c l (H.out.keeps a0j K1.out (a0a _)) (by omega) HSZ.out (HT.out.keeps K1.out (by simp)) HC.out).mono ?_
  rintro _ w2 ⟨rfl,hb2⟩
  have K2:=c1n (K1.out.trans (Keeps.of_below hb2 (S:=[])))
  clear hb2 HC
  generalize a0s l=E at *
  go_wp2_with fail
  refine (b8w w2 (HT.out.keeps K2.out (by simp))).mono ?_
  rintro _ w3 ⟨rfl,hk3⟩
  go_wp2_with fail
  go_ret
  exact⟨rfl,K2.out.trans hk3⟩
 have HC:=c1n hc
 clear hc
 go_wp2_with fail
 refine (b0B w1 A n c l (H.out.keeps a0j K1.out (a0a _)) (by omega) HSZ.out (HT.out.keeps K1.out (by simp)) HC.out).mono ?_
 rintro _ w2 ⟨g,nb,cb,xs,es,rfl,hff,hl2,hg2,ho2,hb2⟩
 have K2:=c1n (K1.out.trans (Keeps.of_below hb2 (S:=[])))
 have O2:=c1n ho2
 have HF:=c1n hff
 obtain⟨hl22,hl60⟩:=hff.len
 rw[hl2] at hl22 hl60
 have HLN:=c1n hl2
 have hgw:w.heap.size<=w2.heap.size:=K2.out.size
 clear hff hl2 hg2 ho2 hb2 HC
 have e0:decide ((1048576:Int)<(nb:Int))=false:=c1o (by omega)
 have e0':decide (1048576<nb)=false:=c1o (by omega)
 have Z2:Hid (ZB w2 (some ⟨g,0,none⟩) nb cb xs):=c1n (b8W O2.out HF.out.u8 (by omega))
 have HEL:Hid (∀ e∈l,e.1.size<=1000000000/\e.2.size<=1000000000):=HSZ
 go_wp2_with fail
 refine (b4v w2 _ nb cb xs Z2.out (HT.out.keeps K2.out (by simp)) HF.out.read).mono ?_
 rintro _ w3 ⟨A3,n3,c3,rfl,hl3,hr3,hbk3,hb3⟩
 have k3:=Keeps.of_below hb3 (S:=[])
 have K3:=c1n (K2.out.trans k3)
 have Z3:=c1n (Z2.out.keeps k3 (a0a _))
 have R3:=c1n hr3
 have hn3:n3=n:=by rw[<-hl3,HL.out]
 clear hb3 hr3 hbk3 hl3 k3 Z2 K2 O2 e0 e0'
 subst hn3
 go_wp2_with fail
 refine (b4u w3 _ nb cb xs Z3.out HF.out.infos (by rw[HF.out.pcs])).mono ?_
 rintro _ w4 ⟨A4,n4,c4,rfl,hl4,hr4,hbk4,hb4⟩
 have k4:=Keeps.of_below hb4 (S:=[])
 have K4:=c1n (K3.out.trans k4)
 have Z4:=c1n (Z3.out.keeps k4 (a0a _))
 have R34:=c1n (R3.out.keeps a0j k4 (a0a _))
 have R4:=c1n hr4
 have hn4:n4=n3:=by rw[<-hl4,List.length_map,<-HL.out,<-HF.out.out,List.length_map]
 clear hb4 hr4 hbk4 hl4 k4 Z3 K3 R3
 subst hn4
 have t0:((n4:Int) !=(n4:Int))=false:=by simp
 have HSM:=c1n (b1I w4 A3 A n4 c3 n4 c l l R34.out (H.out.keeps a0j K4.out (a0a _)) (by omega) (by omega))
 rw[c1p rfl] at HSM
 clear R34
 go_wp2_with fail
 refine HSM.out.mono ?_
 rintro _ w5 ⟨rfl,hd5⟩
 have k5:=hd5.keeps (S:=[])
 have K5:=c1n (K4.out.trans k5)
 have Z5:=c1n (Z4.out.keeps k5 (a0a _))
 have R5:=c1n (R4.out.keeps a3s k5 (a0a _))
 clear hd5 k5 K4 Z4 R4 HSM
 go_upto_region 14 with (fail)
 go_loopw [11] (fun iv wr=>∃ i:Nat,i<=n4/\iv=.int .i64 i/\Hid (Keeps [] w5 wr)) (fun iv _=>n4-(intOf iv).toNat)
 case atStart=>exact⟨0,by omega,rfl,c1n (Keeps.refl _ _)⟩
 case round=>
  clear t0
  obtain⟨i,hi,rfl,HK⟩:=hrel
  by_cases hlt:i<n4
  ·have e1:decide (i<n4)=true:=c1p hlt
   have e1':decide ((i:Int)<(n4:Int))=true:=c1p (by omega)
   have hil:i<l.length:=by rw[HL.out];exact hlt
   obtain⟨eb,eo,rfl⟩:=H.out.hd (by omega)
   obtain⟨ib,io,rfl⟩:=R5.out.hd (by omega)
   have KR:=K5.out.trans HK.out
   have HE:Hid (∀ V,Keeps [] w V->V.cell? ⟨eb,eo+i*2+0,none⟩=some (.string l[i].1)/\V.cell? ⟨eb,eo+i*2+1,none⟩=some (.string l[i].2)):=c1n (fun V hk=>by
    have hc:=(H.out.keeps a0j hk (a0a _)).cell eb eo rfl i hil
    exact⟨hc 0 (by omega),hc 1 (by omega)⟩)
   obtain⟨hie,hnm,hdt⟩:=HF.out.at hil
   obtain⟨t1,t2,t3,t4,t5,t6⟩:=es[i].tells (HF.out.ok _ (List.getElem_mem _))
   have hI:Hid (∀ V,Keeps [] w5 V->∀ j,j<5->V.cell? ⟨ib,io+i*5+j,none⟩=(icells es[i].g.x)[j]?):=c1n (fun V hk j hj=>by
    have hc:=(R5.out.keeps a3s hk (a0a _)).cell ib io rfl i (by rw[List.length_map];exact hie) j hj
    rw[hc,List.getElem_map])
   have HFD:=c1n (HF.out.find_at hil)
   have hsz:=HEL.out l[i] (List.getElem_mem _)
   rw[hnm] at t1
   rw[hdt] at t2 t3
   have HKR:=c1n KR
   clear KR hnm hdt
   generalize l[i]=en at *
   obtain⟨nm,dat⟩:=en
   dsimp only at HE HFD hsz t1 t2 t3
   generalize es[i].g.x=x at *
   obtain⟨xn,xs1,pk,xsum,way⟩:=x
   dsimp only at t1 t2 t3 t4 t5 t6
   subst t1 t2 t3
   obtain⟨hs1,hs2⟩:=hsz
   obtain⟨p0,p1⟩:=HE.out wr HKR.out
   rw[Nat.add_zero] at p0
   have HFC:=c1n (zfind_calls wr (some ⟨g,0,none⟩) nb cb xs xn (Z5.out.keeps HK.out (a0a _)) (HT.out.keeps HKR.out (by simp)))
   rw[HFD.out] at HFC
   rw[a8A] at HFC
   clear HFD
   go_wp2_with fail
   refine HFC.out.mono ?_
   rintro _ w6 ⟨rfl,hb6⟩
   have k6:=Keeps.of_below hb6 (S:=[])
   have HK6:=c1n (HK.out.trans k6)
   have HKR6:=c1n (HKR.out.trans k6)
   have c0:=hI.out w6 HK6.out 0 (by omega)
   have c1':=hI.out w6 HK6.out 1 (by omega)
   have c2':=hI.out w6 HK6.out 2 (by omega)
   have c3':=hI.out w6 HK6.out 3 (by omega)
   have c4':=hI.out w6 HK6.out 4 (by omega)
   simp only[icells,List.getElem?_cons_zero,List.getElem?_cons_succ,Nat.add_zero] at c0 c1' c2' c3' c4'
   clear p0 p1 HFC hb6 k6 HK HKR
   obtain⟨cf,hcf⟩:∃ z:Int,z=((crcF (sb dat):Nat):Int):=⟨_,rfl⟩
   rw[<-hcf] at c3'
   have hsumv:Hid (∀ W B m d,RI .u8 W B m (sb dat)->m<=1000000000->Tabz W->Calls Tryz.prog 28 #[.slice B m d] W fun e w'=>e=.returned (.int .u32 cf)/\Dr W w'):=c1n (fun W B m d h1 h2 h3=>by rw[hcf];exact b0d W B m d (sb dat) h1 (a5q dat) h2 h3)
   clear hcf
   go_upto_region 18 with (fail)
   obtain⟨X,hX⟩:∃ z,z=w6.heap.size:=⟨_,rfl⟩
   obtain⟨w7,hw7⟩:∃ z,z=w6.alloc (.cells #[.string xn,.int .i64 dat.size,.int .i64 pk,.int .u32 cf,.int .i64 way] 51):=⟨_,rfl⟩
   rw[<-hw7,<-hX]
   have k7:Keeps [] w6 w7:=by rw[hw7];exact (Keeps.refl [] _).alloc _
   have X7:Blk w7 X 51 [.string xn,.int .i64 dat.size,.int .i64 pk,.int .u32 cf,.int .i64 way]:=by rw[hw7,hX];exact a0d w6 _ _
   have x0:=X7.cell 0
   have x1:=X7.cell 1
   have x2:=X7.cell 2
   have x3:=X7.cell 3
   have x4:=X7.cell 4
   simp only[List.getElem?_cons_zero,List.getElem?_cons_succ] at x0 x1 x2 x3 x4
   obtain⟨p0,p1⟩:=HE.out w7 (HKR6.out.trans k7)
   rw[Nat.add_zero] at p0
   obtain⟨cc,w8,hrun,hr8,hk8,hs8⟩:=a7m w7.drew dat
   have hk78:Keeps [] w7 w8:=((Keeps.refl [] w7).drew).trans hk8
   have y0:=hk78.cell (p:=⟨X,0,none⟩) (by simp) x0
   have y1:=hk78.cell (p:=⟨X,1,none⟩) (by simp) x1
   have y2:=hk78.cell (p:=⟨X,2,none⟩) (by simp) x2
   have y3:=hk78.cell (p:=⟨X,3,none⟩) (by simp) x3
   have y4:=hk78.cell (p:=⟨X,4,none⟩) (by simp) x4
   have q0:=hk78.cell (p:=⟨eb,eo+i*2,none⟩) (by simp) p0
   have q1:=hk78.cell (p:=⟨eb,eo+i*2+1,none⟩) (by simp) p1
   have HSUM:=c1n (hsumv.out w8 _ dat.size cc hr8 (by omega) (HT.out.keeps ((HKR6.out.trans k7).trans hk78) (by simp)))
   have HK8:=c1n ((HK6.out.trans k7).trans hk78)
   obtain⟨bb,hb1,hb2⟩:∃ bb:Bool,(way==8)=bb/\decide (pk<(dat.size:Int))=bb:=by
    rcases t6 with⟨h1,h2⟩|⟨h1,h2⟩
    ·exact⟨true,by simp[h1],c1p h2⟩
    ·exact⟨false,by simp[h1],c1o (by omega)⟩
   have b3:(bb !=bb)=false:=by simp
   have b4:decide ((dat.size:Int)<pk)=false:=c1o (by omega)
   have b5:(cf !=cf)=false:=by simp
   have b6:((dat.size:Int) !=(dat.size:Int))=false:=by simp
   clear hw7 hX k7 X7 c0 c1' c2' c3' c4' hr8 hk8 hs8 hk78 hsumv HK6 HKR6 t4 t5 t6
   go_region_held_law (fun V=>V.cell? ⟨X,0,none⟩=some (.string xn)/\V.cell? ⟨X,1,none⟩=some (.int .i64 dat.size)/\V.cell? ⟨X,2,none⟩=some (.int .i64 pk)/\V.cell? ⟨X,3,none⟩=some (.int .u32 cf)/\V.cell? ⟨X,4,none⟩=some (.int .i64 way)/\V.cell? ⟨eb,eo+i*2,none⟩=some (.string xn)/\V.cell? ⟨eb,eo+i*2+1,none⟩=some (.string dat))
    (first|go_keep|exact⟨by assumption,by assumption,by assumption,by assumption,by assumption,by assumption,by assumption⟩)
    (first|(go_at_call 28;refine HSUM.out.mono ?_;rintro _ w9 ⟨rfl,q,rfl⟩))
   all_goals (
    go_wp2_with fail
    go_roundw
    case rel=>exact⟨i+1,by omega,by go_num,c1n (HK8.out.trans ((Keeps.refl [] _).drewN _))⟩
    case measure=>simp[intOf];omega)
  ·have e1:decide (i<n4)=false:=c1o hlt
   have e1':decide ((i:Int)<(n4:Int))=false:=c1o (by omega)
   have KR:=c1n (K5.out.trans HK.out)
   have HFC:=c1n (zfind_calls wr (some ⟨g,0,none⟩) nb cb xs nsn (Z5.out.keeps HK.out (a0a _)) (HT.out.keeps KR.out (by simp)))
   obtain⟨E,s,hb,hz⟩:∃ (E:Int) (s:ByteArray),(E==85)=!hasB l nsn/\(strOfNums (b4t xs nsn).1=s/\(b4t xs nsn).2=E):=by
    cases hh:hasB l nsn with
    | true=>
     obtain⟨e,he,hen⟩:=List.mem_map.1 (a5Y.1 hh)
     have:=HF.out.find_some he
     rw[hen] at this
     exact⟨0,_,by rfl,rfl,by rw[this]⟩
    | false=>
     have:=HF.out.find_none (name:=nsn) (fun e he hen=>by
      have h1:hasB l nsn=true:=a5Y.2 (List.mem_map.2 ⟨e,he,hen⟩)
      rw[hh] at h1;cases h1)
     exact⟨85,_,by rfl,rfl,by rw[this]⟩
   rw[hz.1,hz.2] at HFC
   clear hz HK
   have HH:=c1n (H.out.keeps a0j KR.out (a0a _))
   go_wp2_with fail
   refine HFC.out.mono ?_
   rintro _ w6 ⟨rfl,hb6⟩
   have K6:=c1n (KR.out.trans (Keeps.of_below hb6 (S:=[])))
   clear hb6 HFC KR HH
   go_wp2_with fail
   refine (b8w w6 (HT.out.keeps K6.out (by simp))).mono ?_
   rintro _ w7 ⟨rfl,hk7⟩
   have K7:=c1n (K6.out.trans hk7)
   have HCH:=c1n (c0f w7 A n4 c l nsn (H.out.keeps a0j K7.out (a0a _)) (by omega))
   clear hk7 K6
   go_wp2_with fail
   refine HCH.out.mono ?_
   rintro _ wz ⟨rfl,hwz⟩
   obtain rfl:w7=wz:=hwz.symm
   clear hwz HCH
   generalize hasB l nsn=hb0 at *
   have b1:((!hb0) !=hb0)=true:=by cases hb0<;>rfl
   go_wp2_with fail
   go_ret
   exact⟨rfl,K7.out⟩
end Go.Proofs.YtghjlpechjggjaaGreatDoor
/-
 What is written is read as the same entries,in their order,with their sizes and checks;of any entries.
-/
namespace Go.Proofs.YtghjlpechjggjaaGreatDoor.zipRound
open Go.ChangeShapes Go.WideShapes Go.ChangeAt Go.RowKit
theorem contract (H:Type) (enc:TypeId×Value->H) (W:World) (base:Nat) (args:Array Value) (ds gs:List (DataW H)) (before:List MemPlace)
  (hval:∀ (j:Nat) t v,Tryz.f7.params[j]? =some t->args[j]? =some v->Value.okWide Tryz.prog W .any base t v)
  (hW:DataW.Whole enc Tryz.prog Tryz.f7.params.toList Rows.zipRoundSpec.vars false W args.toList ds gs before) (hL:laidMetH Tryz.prog Rows.zipRoundRow.laid W) (hsz:(DataW.weightsEach Tryz.prog (Tryz.f7.params.toList++(OpenSpec.ofChange Rows.zipRoundSpec).bare.plain.varTypes Tryz.prog) (ds++gs)).all (·<=reachBytes)=true) :
  Calls Tryz.prog 7 args W fun e W'=>∃ v,e=.returned v/\Rows.zipRoundSpec.post enc Tryz.prog Tryz.f7 false true false false W args v W':=by
 have hT : Tabz W := c1j (laidMet.filter (fun x => x.1 == "haversack/lens.order" || x.1 == "haversack/lens.wide" || x.1 == "haversack/lens.from") hL) (laidMet.filter (fun x => x.1 == "haversack/little.steps") hL)
 have hW':=hW
 obtain⟨p,q,hA0,hV,rfl,hfz,hnd⟩:=hW
 have hA:DataW.TrodAll enc Tryz.prog W 0 (fun _=>true) true Tryz.f7.params.toList args.toList ds p:=hA0
 rw[Tryz.params7] at hA hval
 obtain⟨v0,vs0,d0,ds0,p0,q0,hargs,rfl,rfl,h0,r0⟩:=trodAll_cons hA
 obtain⟨rfl,rfl,rfl⟩:=trodAll_nil r0
 obtain rfl:args=#[v0]:=by cases args;simp_all
 obtain⟨rfl,rfl⟩:=trodVars_none hV
 obtain⟨a0,len0,cap0,rfl⟩:=okWide_slice Tryz.underlying24 (hval 0 24 v0 rfl rfl)
 have k0:=h0
 have lt0:∀ x∈p0,x.block<W.heap.size:=by obtain⟨m,hm⟩:=k0;exact DataW.trod_lt m _ _ _ hm
 obtain⟨z0,w0,m0,y0,n0⟩:=b8E h0 (fun x hx=>of_decide_eq_true (List.all_eq_true.1 hsz x (DataW.weights_mem_each (j:=0) (t:=24) (d:=d0) rfl rfl x hx)))
 clear hA0
 refine (zipRound_walk W a0 len0 cap0 z0 hT w0 m0 y0 n0).mono fun e W' ⟨he,hk⟩=>?_
 have bel:=hk.below
 subst he
 exact⟨_,rfl,_,_,_,[],_,[],hW',trodAll_mk1 (shut_bool Tryz.underlying4 _),(trodAll_cons_mk (Below.trod laidOut (by kernel_rfl) (of_decide_eq_true (by kernel_rfl)) k0 bel lt0) trodAll_mk0),rfl,bel.frame _,fun h=>by cases h⟩
theorem reads(os:Os){H:Type}(enc:TypeId×Value->H):∃ places,DataW.whole enc Tryz.prog ((laidWorldZ os).forCall (fun _ _=>0) ⟨#[],#[.slice none 0 0],[]⟩).memory Tryz.f7.params.toList Rows.zipRoundSpec.vars false #[Value.slice none 0 0].toList 8=some ([.nil],[],places):=
 ⟨[],by kernel_rfl⟩
theorem lifted(os:Os)(started:os.Started)(H:Type)(enc:TypeId×Value->H)(F:Stop.Interp) :
  ReturnsInHanded {} Tryz.checked os 7 .any ((OpenSpec.ofChange Rows.zipRoundSpec).preRow enc Tryz.prog Tryz.f7 Rows.zipRoundRow.domain false Rows.zipRoundRow.laid) (((OpenSpec.ofChange Rows.zipRoundSpec).at F).post enc Tryz.prog Tryz.f7 false true false false):=by
 obtain⟨places,hx⟩:=reads os enc
 refine returnsInHanded_of_row (C:=Tryz.checked) (s:=OpenSpec.ofChange Rows.zipRoundSpec) own started (by kernel_rfl) Tryz.func7
  (witness_row_at (enc:=enc) (C:=Tryz.checked) false (laidWorldZ os) #[.slice none 0 0] rfl (by kernel_rfl) (by kernel_rfl) (by kernel_rfl)
   (OpenSpec.preRow_of_cond 8 hx (by kernel_rfl) (fun k hk=>by cases hk) (by kernel_rfl) (c0y os _))) ?_
 intro W base args ds gs before hval hW _ _ hsz hL _ _
 exact contract H enc W base args ds gs before hval hW hL hsz
theorem said:Rows.ZipRoundSaid:=
 OpenClaim.holds_of_cond 7 Tryz.f7 rfl rfl rfl rfl rfl rfl rfl ⟨rfl,rfl,rfl,rfl,rfl⟩ rfl rfl rfl rfl rfl (by kernel_rfl) Tryz.func7 (by kernel_rfl)
  (of_decide_eq_true (by kernel_rfl)) (by unfold Func.isWrapper;first|(rw[if_pos (by decide +kernel)];kernel_rfl)|(rw[if_neg (by decide +kernel)];exact⟨rfl,rfl⟩))
  (fun os started H enc _ F=>by rw[OpenClaim.pre_eq_preRow];exact lifted os started H enc F)
theorem plain (f : FuncId) (fn : Func) (hf : Tryz.pinned.checked.prog.funcNamed "haversack/haversacklaw08.ZipRound" = some f) (hfn : Tryz.pinned.checked.prog.funcs[f]? = some fn) :
  true=Tryz.pinned.checked.prog.looks []/\∀ (j:Nat) t,fn.params[j]? =some t->Tryz.pinned.checked.prog.wantsStandIn t=false:=by
 obtain rfl : f = 7 := Option.some.inj ((show Tryz.prog.funcNamed "haversack/haversacklaw08.ZipRound" = some 7 by kernel_rfl).symm.trans hf) |>.symm
 obtain rfl:fn=Tryz.f7:=(Option.some.inj (Tryz.func7.symm.trans hfn)).symm
 refine⟨by kernel_rfl,fun j t ht=>?_⟩
 rw[Tryz.params7] at ht
 have hm:=Array.mem_of_getElem? ht
 obtain rfl:t=24:=by simpa using hm
 exact (show Tryz.prog.wantsStandIn 24=false by kernel_rfl)
theorem card:Rows.ZipRoundCardSaid:=
 Claim7.holds_tied_plain_at .later [] _ _ _ _ said (fun _ h=>by cases h) (by kernel_rfl) (fun _ h=>by cases h) zipRound_row_tie rfl ⟨rfl,rfl⟩ (by kernel_rfl) rfl plain (by kernel_rfl)
#print axioms card
end Go.Proofs.YtghjlpechjggjaaGreatDoor.zipRound
