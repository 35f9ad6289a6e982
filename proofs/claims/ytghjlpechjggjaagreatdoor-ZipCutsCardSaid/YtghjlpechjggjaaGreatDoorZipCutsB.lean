import Derived.Test.YtghjlpechjggjaaGreatDoorZipCutsA
import Derived.Test.YtghjlpechjggjaaGreatDoorZshP
import Derived.Test.YtghjlpechjggjaaGreatDoorZshH
set_option linter.defProp false
set_option linter.unnecessarySimpa false
set_option linter.unusedVariables false
set_option linter.unusedSimpArgs false
set_option linter.constructorNameAsVariable false
set_option maxRecDepth 100000
set_option maxHeartbeats 60000000
namespace Go.Proofs.YtghjlpechjggjaaGreatDoor
open Go.RowKit
private def c1n := @Lib.hid
private def c1o := @decide_eq_false
private def c1p := @IntWalk.i64_in
open Go.RowKit
theorem small_of{l:List EN}(h:a6d l=false):l.length<=16777216/\∀ e∈l,e.1.size<=1000000000/\e.2.size<=1000000000:=by
 unfold a6d at h
 have h:=of_decide_eq_false h
 exact⟨by omega,fun e he=>by have:=c0V he;omega⟩
theorem zipCuts_walk(w:World)(A:Option Addr)(n c:Nat)(l:List EN)(cut:Int)(hT:Tabz w)(h:RW 2 ecells w A n l)(hm:n<=8796093022208)(hs:∀ e∈l,e.1.size<=140737488351232/\e.2.size<=140737488351232)(hnil:A=none->n=0/\c=0)(hk:(Lit.int .i64 cut).wf=true) :
  Calls Tryz.prog 5 #[.slice A n c,.int .i64 cut] w fun e w'=>e=.returned (.bool true)/\Keeps [] w w':=by
 have HT:=c1n hT
 have H:=c1n h
 have HL:=c1n h.len
 have HS:=c1n hs
 obtain⟨i1,i2⟩:=int_ofwf hk
 clear hT h hs hnil hk
 go_enter Tryz.func5,Tryz.ntmps5
 go_wp2_with fail
 refine (b8K w A n c l H.out (by omega) (fun e he=>⟨by have:=(HS.out e he).1;omega,by have:=(HS.out e he).2;omega⟩)).mono ?_
 rintro _ w1 ⟨rfl,hd1⟩
 have K1:=c1n (hd1.keeps (S:=[]))
 clear hd1
 cases hlg:a6d l with
 | true=>
  clear hlg
  go_wp2_with fail
  refine (b8w w1 (HT.out.keeps K1.out (by simp))).mono ?_
  rintro _ w2 ⟨rfl,hk2⟩
  go_wp2_with fail
  go_ret
  exact⟨rfl,K1.out.trans hk2⟩
 | false=>
 obtain⟨hn,hsz⟩:=small_of hlg
 rw[HL.out] at hn
 have HSZ:=c1n hsz
 clear hlg hsz HS hm
 by_cases hc:a0s l=0
 case neg=>
  have e0:(a0s l !=0)=true:=by simpa using hc
  have HC:=c1n hc
  clear hc
  go_wp2_with fail
  refine (b6H w1 A n c l (H.out.keeps a0j K1.out (a0a _)) (by omega) HSZ.out (HT.out.keeps K1.out (by simp)) HC.out).mono ?_
  rintro _ w2 ⟨rfl,hb2⟩
  have K2:=c1n (K1.out.trans (Keeps.of_below hb2 (S:=[])))
  clear hb2 HC
  generalize a0s l=E at *
  go_wp2_with fail
  refine (b8w w2 (HT.out.keeps K2.out (by simp))).mono ?_
  rintro _ w3 ⟨rfl,hk3⟩
  go_wp2_with fail
  go_ret
  exact⟨rfl,K2.out.trans hk3⟩
 have HC:=c1n hc
 clear hc
 go_wp2_with fail
 refine (b0B w1 A n c l (H.out.keeps a0j K1.out (a0a _)) (by omega) HSZ.out (HT.out.keeps K1.out (by simp)) HC.out).mono ?_
 rintro _ w2 ⟨g,nb,cb,xs,es,rfl,hff,hl2,hg2,ho2,hb2⟩
 have K2:=c1n (K1.out.trans (Keeps.of_below hb2 (S:=[])))
 have O2:=c1n ho2
 have HF:=c1n hff
 obtain⟨hl22,hl60⟩:=hff.len
 rw[hl2] at hl22 hl60
 have HLN:=c1n hl2
 have hgw:w.heap.size<=w2.heap.size:=K2.out.size
 clear hff hl2 hg2 ho2 hb2 HC
 have e0:decide ((1048576:Int)<(nb:Int))=false:=c1o (by omega)
 have e0':decide (1048576<nb)=false:=c1o (by omega)
 have e1:decide ((nb:Int)<22)=false:=c1o (by omega)
 have e1':decide (nb<22)=false:=c1o (by omega)
 go_upto_if 43 with (fail)
 go_cut [1] (fun v wc=>∃ K:Nat,v=.int .i64 K/\K<=9223372036854775807/\wc=w2)
 case first=>
  by_cases hz:cut<0
  ·have x0:decide (cut<0)=true:=decide_eq_true hz
   have s1:IntKind.i64.wrap (cut+1)=cut+1:=c1p _ (by omega)
   obtain⟨K,hK⟩:∃ K:Nat,-(cut+1)=(K:Int):=⟨(-(cut+1)).toNat,by omega⟩
   have s2:IntKind.i64.wrap (-(cut+1))=(K:Int):=by rw[hK];exact c1p _ (by omega)
   have h3:K<=9223372036854775807:=by omega
   clear hK
   go_wp2_with fail
   go_meet
   exact⟨K,rfl,h3,rfl⟩
  ·have x0:decide (cut<0)=false:=c1o hz
   go_wp2_with fail
   go_meet
   exact⟨cut.toNat,by rw[Int.toNat_of_nonneg (by omega)],by omega,rfl⟩
 case rest=>
  obtain⟨K,rfl,hK,rfl⟩:=hcut
  obtain⟨R,hR⟩:∃ R,R=K%nb:=⟨_,rfl⟩
  have hRn:R<nb:=by rw[hR];exact Nat.mod_lt _ (by omega)
  have r1':(K:Int)%(nb:Int)=(R:Int):=by rw[hR];exact (Int.natCast_emod K nb).symm
  have r1:Int.tmod (K:Int) (nb:Int)=(R:Int):=by rw[Int.tmod_eq_emod_of_nonneg (by omega)];exact r1'
  obtain⟨M,hM⟩:∃ M,M=nb-(1+R):=⟨_,rfl⟩
  have r2:IntKind.i64.wrap (1+(R:Int))=1+(R:Int):=c1p _ (by omega)
  have r3:IntKind.i64.wrap ((nb:Int)-(1+(R:Int)))=(M:Int):=by rw[c1p _ (by omega)];omega
  have hMn:M<nb:=by omega
  have hcap:=b1o O2.out
  have hsl:∀ W,(Instr.slice 26 (.slice (some ⟨g,0,none⟩) nb cb) none (some (.int .i64 (M:Int))) none).run Tryz.prog W=.ok (.slice (some ⟨g,0,none⟩) M cb) W:=fun W=>slice_to8 W _ nb cb M _ rfl (by omega) hcap
  have hcutF:=HF.out.cut (m:=M) (by rw[HLN.out];exact hMn)
  have hzb:ZB wc (some ⟨g,0,none⟩) M cb (xs.take M):=⟨(b1q O2.out).take (by omega),hcap.to (by omega),fun x hx=>HF.out.u8 x (List.mem_of_mem_take hx),by omega,fun a ha=>(b2G O2.out a ha).2⟩
  obtain⟨E,hE⟩:∃ E,E=(a2k (xs.take M)).2:=⟨_,rfl⟩
  have HF3:=c1n (b4v wc (some ⟨g,0,none⟩) M cb (xs.take M) hzb (HT.out.keeps K2.out (by simp)) (l:=[]) (E:=E) (by rw[hE,<-hcutF.2]))
  have t0:(E !=0)=true:=by rw[hE];simpa using hcutF.1
  clear hcutF hzb hE hR hM hK e0 e0' e1 e1' i1 i2 hcap
  go_wp2_with fail
  refine HF3.out.mono ?_
  rintro _ w3 ⟨A3,n3,c3,rfl,hl3,-,-,hb3⟩
  obtain rfl:0=n3:=hl3
  have k3:=Keeps.of_below hb3 (S:=[])
  have K3:=c1n (K2.out.trans k3)
  have O3:=c1n (a0b O2.out k3 (by simp))
  have hw3:w.heap.size<=w3.heap.size:=K3.out.size
  have L3:Hid (RI .u8 (w3.alloc (.cells #[.int .u8 80] 5)) (some ⟨w3.heap.size,0,none⟩) 1 [80]):=c1n (by
   have:=Blk.ri (xs:=[80]) (ys:=[]) (k:=.u8) (by simpa using a0d w3 5 (ints .u8 [80]))
   exact this)
  have k3':Keeps [] w3 (w3.alloc (.cells #[.int .u8 80] 5)):=(Keeps.refl [] _).alloc _
  have hw3':w3.heap.size<=(w3.alloc (.cells #[.int .u8 80] 5)).heap.size:=k3'.size
  have O3':=c1n (a0b O3.out k3' (by simp))
  have K3':=c1n (K3.out.trans k3')
  clear hb3 k3 k3' HF3 K2 O2 r1 r1' r2 r3 hsl O3 K3
  go_wp2_with (at_builtin;refine a4C rfl (.tmp 62) (.tmp 63) rfl w3.heap.size (.slice none 0 0) 0 [] rfl (World.ownsRow_nil _ _ _ _) (some ⟨w3.heap.size,0,none⟩) 1 1 [80] rfl L3.out nofun (by omega) hw3' ?_)
  intro v4 w4 ho4 hg4 _
  obtain⟨A4,c4,rfl⟩:=a0g ho4
  have kk:Keeps [] (w3.alloc (.cells #[.int .u8 80] 5)) w4:=(Keeps.refl _ _).grown hg4 (fun k hk=>by simp[Value.ownBlock] at hk)
  have O4:=c1n (a0b O3'.out kk (by simp))
  have K4:=c1n (K3'.out.trans kk)
  have P4:=c1n ho4
  have R4:=c1n (b1q O4.out)
  have hw4:w3.heap.size<=w4.heap.size:=by have:=kk.size;simp at this;omega
  clear ho4 hg4 kk L3 O3' K3' hw3'
  go_wp2_with (at_builtin;refine a4C rfl (.tmp 65) (.tmp 66) rfl w3.heap.size (.slice A4 (0+1) c4) (0+1) ([]++[80]) rfl P4.out (some ⟨g,0,none⟩) nb cb xs rfl R4.out nofun (by omega) hw4 ?_)
  intro v5 w5 ho5 hg5 _
  obtain⟨A5,c5,rfl⟩:=a0g ho5
  have kk:Keeps (Value.slice A4 (0+1) c4).ownBlock.toList w4 w5:=(Keeps.refl _ _).grown hg5 (fun k hk=>.inl (Option.mem_toList.2 hk))
  have hlo:∀ x∈(Value.slice A4 (0+1) c4).ownBlock.toList,w3.heap.size<=x:=fun x hx=>a0m P4.out x (Option.mem_toList.1 hx)
  have K5:=c1n (K4.out.freshZ kk (fun x hx=>Nat.le_trans hw3 (hlo x hx)))
  have hz5:ZB w5 A5 (0+1+nb) c5 (80::xs):=b8W ho5 (fun x hx=>by
   rcases List.mem_cons.1 hx with rfl|hx
   ·omega
   ·exact HF.out.u8 x hx) (by omega)
  have HF6:=c1n (b4v w5 A5 (0+1+nb) c5 (80::xs) hz5 (HT.out.keeps K5.out (by simp)) (HF.out.ahead 80))
  clear ho5 hg5 kk hlo hz5 K4 P4 R4 O4 hw4
  go_wp2_with fail
  refine HF6.out.mono ?_
  rintro _ w6 ⟨A6,n6,c6,rfl,hl6,-,-,hb6⟩
  obtain rfl:0=n6:=hl6
  have K6:=c1n (K5.out.trans (Keeps.of_below hb6 (S:=[])))
  clear hb6 HF6 K5
  go_wp2_with fail
  refine (b8w w6 (HT.out.keeps K6.out (by simp))).mono ?_
  rintro _ w7 ⟨rfl,hk7⟩
  have K7:=c1n (K6.out.trans hk7)
  clear hk7 K6
  go_wp2_with fail
  go_ret
  exact⟨rfl,K7.out⟩
end Go.Proofs.YtghjlpechjggjaaGreatDoor
/-
 Of a file that is read nothing is read when its last bytes are cut off,or a byte stands ahead of it;of any entries and number.
-/
namespace Go.Proofs.YtghjlpechjggjaaGreatDoor.zipCuts
open Go.ChangeShapes Go.WideShapes Go.ChangeAt Go.RowKit
theorem contract (H:Type) (enc:TypeId×Value->H) (W:World) (base:Nat) (args:Array Value) (ds gs:List (DataW H)) (before:List MemPlace)
  (hval:∀ (j:Nat) t v,Tryz.f5.params[j]? =some t->args[j]? =some v->Value.okWide Tryz.prog W .any base t v)
  (hW:DataW.Whole enc Tryz.prog Tryz.f5.params.toList Rows.zipCutsSpec.vars false W args.toList ds gs before) (hL:laidMetH Tryz.prog Rows.zipCutsRow.laid W) (hsz:(DataW.weightsEach Tryz.prog (Tryz.f5.params.toList++(OpenSpec.ofChange Rows.zipCutsSpec).bare.plain.varTypes Tryz.prog) (ds++gs)).all (·<=reachBytes)=true) :
  Calls Tryz.prog 5 args W fun e W'=>∃ v,e=.returned v/\Rows.zipCutsSpec.post enc Tryz.prog Tryz.f5 false true false false W args v W':=by
 have hT : Tabz W := c1j (laidMet.filter (fun x => x.1 == "haversack/lens.order" || x.1 == "haversack/lens.wide" || x.1 == "haversack/lens.from") hL) (laidMet.filter (fun x => x.1 == "haversack/little.steps") hL)
 have hW':=hW
 obtain⟨p,q,hA0,hV,rfl,hfz,hnd⟩:=hW
 have hA:DataW.TrodAll enc Tryz.prog W 0 (fun _=>true) true Tryz.f5.params.toList args.toList ds p:=hA0
 rw[Tryz.params5] at hA hval
 obtain⟨v0,vs0,d0,ds0,p0,q0,hargs,rfl,rfl,h0,r0⟩:=trodAll_cons hA
 obtain⟨v1,vs1,d1,ds1,p1,q1,rfl,rfl,rfl,h1,r1⟩:=trodAll_cons r0
 obtain⟨rfl,rfl,rfl⟩:=trodAll_nil r1
 obtain rfl:args=#[v0,v1]:=by cases args;simp_all
 obtain⟨rfl,rfl⟩:=trodVars_none hV
 obtain⟨a0,len0,cap0,rfl⟩:=okWide_slice Tryz.underlying24 (hval 0 24 v0 rfl rfl)
 have k0:=h0
 have lt0:∀ x∈p0,x.block<W.heap.size:=by obtain⟨m,hm⟩:=k0;exact DataW.trod_lt m _ _ _ hm
 obtain⟨z0,w0,m0,y0,n0⟩:=b8E h0 (fun x hx=>of_decide_eq_true (List.all_eq_true.1 hsz x (DataW.weights_mem_each (j:=0) (t:=24) (d:=d0) rfl rfl x hx)))
 obtain⟨a1,rfl,rfl,rfl,w1⟩:=open_int Tryz.underlying3 (hval 1 3 v1 rfl rfl) h1
 clear hA0
 refine (zipCuts_walk W a0 len0 cap0 z0 a1 hT w0 m0 y0 n0 w1).mono fun e W' ⟨he,hk⟩=>?_
 have bel:=hk.below
 subst he
 exact⟨_,rfl,_,_,_,[],_,[],hW',trodAll_mk1 (shut_bool Tryz.underlying4 _),(trodAll_cons_mk (Below.trod laidOut (by kernel_rfl) (of_decide_eq_true (by kernel_rfl)) k0 bel lt0) (trodAll_cons_mk (shut_int Tryz.underlying3 w1) trodAll_mk0)),rfl,bel.frame _,fun h=>by cases h⟩
theorem reads(os:Os){H:Type}(enc:TypeId×Value->H):∃ places,DataW.whole enc Tryz.prog ((laidWorldZ os).forCall (fun _ _=>0) ⟨#[],#[.slice none 0 0,.int .i64 0],[]⟩).memory Tryz.f5.params.toList Rows.zipCutsSpec.vars false #[Value.slice none 0 0,.int .i64 0].toList 8=some ([.nil,.lit (.int .i64 0)],[],places):=
 ⟨[],by kernel_rfl⟩
theorem lifted(os:Os)(started:os.Started)(H:Type)(enc:TypeId×Value->H)(F:Stop.Interp) :
  ReturnsInHanded {} Tryz.checked os 5 .any ((OpenSpec.ofChange Rows.zipCutsSpec).preRow enc Tryz.prog Tryz.f5 Rows.zipCutsRow.domain false Rows.zipCutsRow.laid) (((OpenSpec.ofChange Rows.zipCutsSpec).at F).post enc Tryz.prog Tryz.f5 false true false false):=by
 obtain⟨places,hx⟩:=reads os enc
 refine returnsInHanded_of_row (C:=Tryz.checked) (s:=OpenSpec.ofChange Rows.zipCutsSpec) own started (by kernel_rfl) Tryz.func5
  (witness_row_at (enc:=enc) (C:=Tryz.checked) false (laidWorldZ os) #[.slice none 0 0,.int .i64 0] rfl (by kernel_rfl) (by kernel_rfl) (by kernel_rfl)
   (OpenSpec.preRow_of_cond 8 hx (by kernel_rfl) (fun k hk=>by cases hk) (by kernel_rfl) (c0y os _))) ?_
 intro W base args ds gs before hval hW _ _ hsz hL _ _
 exact contract H enc W base args ds gs before hval hW hL hsz
theorem said:Rows.ZipCutsSaid:=
 OpenClaim.holds_of_cond 5 Tryz.f5 rfl rfl rfl rfl rfl rfl rfl ⟨rfl,rfl,rfl,rfl,rfl⟩ rfl rfl rfl rfl rfl (by kernel_rfl) Tryz.func5 (by kernel_rfl)
  (of_decide_eq_true (by kernel_rfl)) (by unfold Func.isWrapper;first|(rw[if_pos (by decide +kernel)];kernel_rfl)|(rw[if_neg (by decide +kernel)];exact⟨rfl,rfl⟩))
  (fun os started H enc _ F=>by rw[OpenClaim.pre_eq_preRow];exact lifted os started H enc F)
theorem plain (f : FuncId) (fn : Func) (hf : Tryz.pinned.checked.prog.funcNamed "haversack/haversacklaw08.ZipCuts" = some f) (hfn : Tryz.pinned.checked.prog.funcs[f]? = some fn) :
  true=Tryz.pinned.checked.prog.looks []/\∀ (j:Nat) t,fn.params[j]? =some t->Tryz.pinned.checked.prog.wantsStandIn t=false:=by
 obtain rfl : f = 5 := Option.some.inj ((show Tryz.prog.funcNamed "haversack/haversacklaw08.ZipCuts" = some 5 by kernel_rfl).symm.trans hf) |>.symm
 obtain rfl:fn=Tryz.f5:=(Option.some.inj (Tryz.func5.symm.trans hfn)).symm
 refine⟨by kernel_rfl,fun j t ht=>?_⟩
 rw[Tryz.params5] at ht
 have hm:=Array.mem_of_getElem? ht
 have hm2:t=24∨t=3:=by simpa using hm
 rcases hm2 with rfl|rfl
 ·exact (show Tryz.prog.wantsStandIn 24=false by kernel_rfl)
 ·exact (show Tryz.prog.wantsStandIn 3=false by kernel_rfl)
theorem card:Rows.ZipCutsCardSaid:=
 Claim7.holds_tied_plain_at .later [] _ _ _ _ said (fun _ h=>by cases h) (by kernel_rfl) (fun _ h=>by cases h) zipCuts_row_tie rfl ⟨rfl,rfl⟩ (by kernel_rfl) rfl plain (by kernel_rfl)
#print axioms card
end Go.Proofs.YtghjlpechjggjaaGreatDoor.zipCuts
