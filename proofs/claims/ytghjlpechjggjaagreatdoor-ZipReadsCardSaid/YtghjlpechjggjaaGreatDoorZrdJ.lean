import Derived.Test.YtghjlpechjggjaaGreatDoorChecked
import Derived.Lib.Strings
import Derived.Lib.Slices
import Derived.Lib.Walk
import Derived.Lib.Bytealg
import Derived.Test.YtghjlpechjggjaaGreatDoorZrdC
import Derived.Deep.LoopGhost
set_option linter.defProp false
set_option linter.unnecessarySimpa false
set_option linter.unusedVariables false
set_option linter.unusedSimpArgs false
set_option linter.constructorNameAsVariable false
set_option maxRecDepth 100000
set_option maxHeartbeats 60000000
namespace Go.Proofs.YtghjlpechjggjaaGreatDoor
open Go.RowKit
private def c3o := @Lib.hid
private def c3p := @List.getElem?_cons_zero
theorem a6e(s:ByteArray)(c:Int)(w:World) :
  Calls Tryz.prog 112 #[.string s,.int .u8 c] w fun e w'=>e=.returned (.int .i64 (Lib.indexByte s.data.toList c.toNat.toUInt8))/\w'=w:=by
 go_enter Tryz.func112,Tryz.ntmps112
 go_wp2
 rw[run_callFunc_extern Tryz.func136 (by kernel_rfl) (by kernel_rfl) (by kernel_rfl) (e:=Extern.BytealgIndexByte.indexByte) (by kernel_rfl),Lib.run_indexByteString]
 simp only[Result.andThen]
 rw[Oper.upon_value]
 go_wp2
 go_ret
 exact⟨rfl,rfl⟩
theorem a7H(s:ByteArray)(c:Int)(w:World) :
  Calls Tryz.prog 85 #[.string s,.int .u8 c] w fun e w'=>e=.returned (.int .i64 (Lib.indexByte s.data.toList c.toNat.toUInt8))/\w'=w:=by
 go_enter Tryz.func85,Tryz.ntmps85
 go_wp2_with (go_at_call 112;refine (a6e _ _ _).mono ?_;rintro e w' ⟨rfl,rfl⟩)
 go_ret
 exact⟨rfl,rfl⟩
theorem b1t(s:ByteArray)(c:UInt8)(w:World) :
  Calls Tryz.prog 111 #[.string s,.string ⟨#[c]⟩] w fun e w'=>e=.returned (.int .i64 (Lib.indexByte s.data.toList c))/\w'=w:=by
 go_enter Tryz.func111,Tryz.ntmps111
 go_wp2_with (go_at_call 112;refine (a6e _ _ _).mono ?_;rintro e w' ⟨rfl,rfl⟩)
 ·have h:([c]==s.toList)=true:=by assumption
  go_ret
  refine⟨?_,rfl⟩
  have e:s.data.toList=[c]:=by rw[<-Lib.toList_data];exact (beq_iff_eq.1 h).symm
  rw[e]
  simp[Lib.indexByte]
 ·go_ret
  exact⟨rfl,rfl⟩
theorem b3k(s:ByteArray)(c:UInt8)(w:World) :
  Calls Tryz.prog 84 #[.string s,.string ⟨#[c]⟩] w fun e w'=>e=.returned (.int .i64 (Lib.indexByte s.data.toList c))/\w'=w:=by
 go_enter Tryz.func84,Tryz.ntmps84
 go_wp2_with (go_at_call 111;refine (b1t _ _ _).mono ?_;rintro e w' ⟨rfl,rfl⟩)
 go_ret
 exact⟨rfl,rfl⟩
open Go.RowKit
def a2V:List UInt8->List (List UInt8)
 | []=>[[]]
 | b::l=>if b=47 then []::a2V l else match a2V l with
  | p::ps=>(b::p)::ps
  | []=>[[b]]
theorem b0O(c:UInt8):∀ l:List UInt8,(Lib.indexByte l c=-1/\c∉l)∨∃ n:Nat,Lib.indexByte l c=n/\n<l.length/\l.drop n=c::l.drop (n+1)/\c∉l.take n
 | []=>.inl ⟨rfl,by simp⟩
 | b::l=>by
  unfold Lib.indexByte
  by_cases hb:b=c
  ·subst hb
   exact .inr ⟨0,by simp,by simp,by simp,by simp⟩
  ·have hbf:(b==c)=false:=by simpa using hb
   rw[hbf]
   rcases b0O c l with⟨h1,h2⟩|⟨n,h1,h2,h3,h4⟩
   ·left
    rw[h1]
    exact⟨by simp,by simp[h2,Ne.symm hb]⟩
   ·right
    refine⟨n+1,?_,by simp;omega,by simpa using h3,by simp[h4,Ne.symm hb]⟩
    rw[h1]
    have:((n:Int)==-1)=false:=by simp
    rw[this];simp
theorem a4p:∀ {l:List UInt8},(47:UInt8)∉l->a2V l=[l]
 | [],_=>rfl
 | b::l,h=>by
  have hb:b≠47:=fun e=>h (by simp[e])
  have hl:(47:UInt8)∉l:=fun e=>h (by simp[e])
  rw[a2V,if_neg hb,a4p hl]
theorem a4q:∀ {l:List UInt8} {n:Nat},l.drop n=47::l.drop (n+1)->(47:UInt8)∉l.take n->a2V l=l.take n::a2V (l.drop (n+1))
 | [],n,h,_=>by simp at h
 | b::l,0,h,_=>by
  simp at h
  rw[a2V,if_pos h];rfl
 | b::l,n+1,h,h2=>by
  have hb:b≠47:=fun e=>h2 (by simp[e])
  have hl:(47:UInt8)∉l.take n:=fun e=>h2 (by simp[e])
  rw[a2V,if_neg hb,a4q (by simpa using h) hl]
  simp
def mkB(l:List UInt8):ByteArray:=⟨l.toArray⟩
theorem b4k(s:ByteArray):mkB s.data.toList=s:=by cases s;rfl
theorem b9G(l:List UInt8):(mkB l).size=l.length:=by simp[mkB,ByteArray.size]
theorem a3V(s:ByteArray)(a b:Nat):s.extract a b=mkB ((s.data.toList.drop a).take (b-a)):=by
 rw[<-Lib.extract_data,b4k]
def a5a(s:ByteArray):List ByteArray:=(a2V s.data.toList).map mkB
def strE(s:ByteArray):Array Value:=#[.string s]
theorem b5L (w0:World) (Bp Bs Bv:Nat) (s:ByteArray) (hs:s.size<=1000000000) (h1:Bp≠Bs) (h2:Bv≠Bs)
  (hp:Blk w0 Bp 9 [.string ⟨#[47]⟩]) (hsb:Blk w0 Bs 9 [.string s]) (hv:Blk w0 Bv 3 [.int .i64 0]) :
  c0W Tryz.prog 82 #[.pointer (some ⟨Bp,0,none⟩),.pointer (some ⟨Bs,0,none⟩),.pointer (some ⟨Bv,0,none⟩)] strE (a5a s) [Bs] (fun k=>k=Bp∨k=Bs∨k=Bv) w0:=by
 intro l J Jx W hW hJ hY h0
 refine callsIn_wide.2 ?_
 have BP:=c3o (hp.keeps hW (by simp))
 have BS:=c3o (hsb.keeps hW (by simp))
 have BV:=c3o (hv.keeps hW (by simp))
 have HJ:=c3o hJ
 have HY:=c3o hY
 have H0:=c3o h0
 have p0:=BP.out.cell 0
 simp only[c3p] at p0
 clear hJ hY h0 hp hsb hv
 go_enter Tryz.func82,Tryz.ntmps82
 go_wp2_with fail
 clear p0
 go_loopg [] (s.size+1) (fun gf wr=>∃ (t:ByteArray) (pre:List ByteArray),Hid (Blk wr Bp 9 [.string ⟨#[47]⟩])/\Hid (Blk wr Bs 9 [.string t])/\Hid (Blk wr Bv 3 [.int .i64 0])/\Hid (J pre wr)/\Hid (pre++a5a t=a5a s)/\t.size<gf/\t.size<=1000000000)
 case atStart=>exact⟨s,[],BP,BS,BV,H0,c3o rfl,by omega,hs⟩
 case round=>
  clear BP BS BV H0
  obtain⟨t,pre,BP,BS,BV,HJP,HT,hlt,htz⟩:=hrel
  have p0:=BP.out.cell 0
  have s0:=BS.out.cell 0
  have v0:=BV.out.cell 0
  simp only[c3p] at p0 s0 v0
  have HC:=c3o (b3k t 47 wr)
  have htl:t.data.toList.length=t.size:=by cases t;rfl
  rcases b0O 47 t.data.toList with⟨hi,hn⟩|⟨m,hi,hm,hd,hn⟩
  ·rw[hi] at HC
   have hpz:a5a t=[t]:=by unfold a5a;rw[a4p hn];simp[b4k]
   have HT2:Hid (pre++[t]=a5a s):=c3o (by rw[<-hpz];exact HT.out)
   obtain⟨fn,tmps,assign,body,hy,hR⟩:=HY.out pre t wr HJP.out ⟨[],by rw[HT2.out];simp⟩
   have HRR:=c3o hR
   dsimp only[strE] at hy
   clear hi hn hpz hR htl
   go_wp2_with fail
   refine HC.out.mono ?_
   rintro _ w2 ⟨rfl,rfl⟩
   clear HC
   go_upto_region 10 with (fail)
   refine (wpIn_wide (n:=0)).1 ?_
   gi_wp2
   refine⟨rfl,HRR.out.mono ?_⟩
   rintro _ W7 (⟨rfl,hJ7,hk7⟩|⟨rfl,hx7⟩)
   ·have HJ7:=c3o hJ7
    clear hJ7 hk7 hy HRR
    gi_wp2
    go_end0
    exact⟨⟨_,rfl⟩,.inl (by rw[<-HT2.out];exact HJ7.out)⟩
   ·have HX7:=c3o hx7
    clear hx7 hy HRR
    gi_wp2
    go_end0
    exact⟨⟨_,rfl⟩,.inr ⟨_,⟨[],by rw[HT2.out];simp⟩,HX7.out⟩⟩
  ·rw[hi] at HC
   have hpz:a5a t=mkB (t.data.toList.take m)::a5a (mkB (t.data.toList.drop (m+1))):=by
    unfold a5a
    rw[a4q hd hn,List.map_cons]
    rfl
   obtain⟨t',ht'⟩:∃ z,z=mkB (t.data.toList.drop (m+1)):=⟨_,rfl⟩
   obtain⟨f',hf'⟩:∃ z,z=mkB (t.data.toList.take m):=⟨_,rfl⟩
   rw[<-ht',<-hf'] at hpz
   have hmt:m<t.size:=by omega
   have HT2:Hid ((pre++[f'])++a5a t'=a5a s):=c3o (by rw[<-HT.out,hpz];simp)
   have hsl1:∀ w,(Instr.slice 9 (.string t) none (some (.int .i64 (m:Int))) none).run Tryz.prog w=.ok (.string f') w:=fun w=>by
    rw[run_slice_string_h w 9 t Tryz.underlying9 .i64 (m:Int) (by omega) (by omega),a3V,hf']
    simp
   have hsl2:∀ w,(Instr.slice 9 (.string t) (some (.int .i64 ((m:Int)+1))) none none).run Tryz.prog w=.ok (.string t') w:=fun w=>by
    rw[run_slice_string_l w 9 t Tryz.underlying9 .i64 ((m:Int)+1) (by omega) (by omega),a3V,ht',show ((m:Int)+1).toNat=m+1 by omega,List.take_of_length_le (by rw[List.length_drop,htl];omega)]
   have ht'z:t'.size<t.size:=by rw[ht',b9G,List.length_drop,htl];omega
   obtain⟨g',rfl⟩:∃ g',gk=g'+1:=⟨gk-1,by omega⟩
   obtain⟨fn,tmps,assign,body,hy,hR⟩:=HY.out pre f' wr HJP.out ⟨a5a t',HT2.out⟩
   have HRR:=c3o hR
   dsimp only[strE] at hy
   have x1:decide ((m:Int)<0)=false:=by simp
   have sw:IntKind.i64.wrap ((m:Int)+1)=(m:Int)+1:=IntWalk.i64_in _ (by omega)
   clear hi hn hpz hR htl hd ht' hf' HT
   go_wp2_with fail
   refine HC.out.mono ?_
   rintro _ w2 ⟨rfl,rfl⟩
   clear HC
   go_upto_region 8 with (fail)
   refine (wpIn_wide (n:=0)).1 ?_
   gi_wp2
   refine⟨rfl,HRR.out.mono ?_⟩
   rintro _ W7 (⟨rfl,hJ7,hk7⟩|⟨rfl,hx7⟩)
   ·have B7:Blk W7 Bs 9 [.string t]:=(hk7.block Bs BS.out.lt (.inr (.inl rfl))).trans BS.out
    have P7:Blk W7 Bp 9 [.string ⟨#[47]⟩]:=(hk7.block Bp BP.out.lt (.inl rfl)).trans BP.out
    have V7:Blk W7 Bv 3 [.int .i64 0]:=(hk7.block Bv BV.out.lt (.inr (.inr rfl))).trans BV.out
    have HB7:=c3o B7
    have HP7:=c3o P7
    have HV7:=c3o V7
    have HJ7:=c3o hJ7
    have s1:=B7.cell 0
    have p1:=P7.cell 0
    simp only[c3p] at s1 p1
    have f1:=B7.frozen 0
    clear hJ7 hk7 hy HRR B7 P7 V7 p0 s0 v0 BP BS BV HJP
    gi_wp2
    go_wp2_with fail
    go_roundg g'
    case measure=>omega
    case rel=>
     have hk8:Keeps [Bs] W7 (W7.setCell ⟨Bs,0,none⟩ (.string t')):=(Keeps.refl [Bs] W7).setCell (p:=⟨Bs,0,none⟩) (.inl (by simp)) _
     exact⟨t',pre++[f'],c3o (HP7.out.keeps hk8 (by simpa using h1)),c3o (HB7.out.set 0 _),c3o (HV7.out.keeps hk8 (by simpa using h2)),c3o (HJ.out _ _ _ HJ7.out hk8),HT2,by omega,by omega⟩
   ·have HX7:=c3o hx7
    clear hx7 hy HRR
    gi_wp2
    go_wp2_with fail
    exact bodyPost_ret (v:=.tuple #[]) (results_none rfl _ _ _) rfl ⟨⟨_,rfl⟩,.inr ⟨_,⟨a5a t',HT2.out⟩,HX7.out⟩⟩
end Go.Proofs.YtghjlpechjggjaaGreatDoor
