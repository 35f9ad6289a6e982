import Derived.Test.YtghjlpechjggjaaGreatDoorZshM
import Derived.Test.YtghjlpechjggjaaGreatDoorZshG
import Derived.Deep.RegionLaw
import Derived.Test.YtghjlpechjggjaaGreatDoorZshA
import Derived.Test.YtghjlpechjggjaaGreatDoorZshB
import Derived.Test.YtghjlpechjggjaaGreatDoorZshH
import Derived.Test.YtghjlpechjggjaaGreatDoorZshD
import Derived.Test.YtghjlpechjggjaaGreatDoorZshF
import Derived.BigQuiet
import Derived.Test.YtghjlpechjggjaaGreatDoorZshI
set_option linter.defProp false
set_option linter.unnecessarySimpa false
set_option linter.unusedVariables false
set_option linter.unusedSimpArgs false
set_option linter.constructorNameAsVariable false
set_option maxRecDepth 100000
set_option maxHeartbeats 60000000
namespace Go.Proofs.YtghjlpechjggjaaGreatDoor
open Go.RowKit
private def c1n := @Lib.hid
private def c1o := @decide_eq_false
private def c1p := @decide_eq_true
private def c1q := @List.getElem?_cons_zero
private def c1r := @List.take_succ_eq_append_getElem
private def c1s := @List.getElem?_cons_succ
private def c1t := @List.length_map
private def c1u := @List.length_append
private def c1v := @List.not_mem_nil
private def c1w := @World.ownsRow_nil
private def c1x := @List.mem_cons
private def c1y := @List.take_of_length_le
private def c1z := @List.getElem_mem
private def c1A := @World.cell?_setCell_other
private def c1B := @World.cell?_setCell_same
private def c1C := @List.map_append
private def c1D := @AllReady.cons
private def c1E := @List.append_assoc
private def c1F := @List.drop_eq_getElem_cons
private def c1G := @beq_eq_false_iff_ne
private def c1H := @Nat.add_zero
private def c1I := @World.block_lt_of_cell?
private def c1J := @IntWalk.i64_in
private def c1K := @List.take_append_drop
private def c1L := @List.getElem_map
private def c1M := @ByteArray.toList_eq
private def c1N := @Nat.le_refl
private def c1O := @AllReady.nil
private def c1P := @List.mem_map
private def c1Q := @Below.refl
private def c1R := @wpAny_ready
open Go.RowKit Go.Maps
def pcz(A:Option Addr)(c:Nat)(p:ZP):List Value:=[.string p.x.name,.int .i64 p.x.size,.int .i64 p.x.packed,.int .u32 p.x.sum,.int .i64 p.x.way,.slice (cutA A p.fro c) p.len (c-p.fro)]
theorem a6y(A:Option Addr)(c:Nat)(p:ZP):(pcz A c p).length=6:=rfl
def PcsP(w:World)(A:Option Addr)(c:Nat)(xs:List Int)(r:Ending)(w':World):Prop:=
 ∃ v,r=.returned (.tuple #[v,.int .i64 (zpieces xs).1])/\((zpieces xs).1≠0->v=.slice none 0 0)/\((zpieces xs).1=0->w'.ownsRow w.heap.size 77 6 v (zpieces xs).2.length ((zpieces xs).2.flatMap (pcz A c)))/\Below w.heap.size w w'
structure OE (w:World) (O E:Nat):Prop where
 o:∃ v,w.cell? ⟨O,0,none⟩=some v
 e:∃ v,w.cell? ⟨E,0,none⟩=some v
 fo:w.frozen? ⟨O,0,none⟩=false
 fe:w.frozen? ⟨E,0,none⟩=false
theorem OE.keeps{S:List Nat}{w w':World}{O E:Nat}(h:OE w O E)(hk:Keeps S w w')(hO:O∉S)(hE:E∉S):OE w' O E:=by
 obtain⟨⟨v,hv⟩,⟨u,hu⟩,f1,f2⟩:=h
 exact⟨⟨v,hk.cell (p:=⟨O,0,none⟩) hO hv⟩,⟨u,hk.cell (p:=⟨E,0,none⟩) hE hu⟩,(hk.frozen (p:=⟨O,0,none⟩) (c1I _ _ hv) hO).trans f1,(hk.frozen (p:=⟨E,0,none⟩) (c1I _ _ hu) hE).trans f2⟩
def b8q:WT 73 77 6:=⟨.agg #[.string ⟨#[]⟩,.int .i64 0,.int .i64 0,.int .u32 0,.int .i64 0,.slice none 0 0],72,by kernel_rfl,Tryz.underlying73,rfl,by decide,by decide⟩
theorem b9H(A:Option Addr)(c:Nat)(p:ZP):∀ v∈pcz A c p,v.oneCell'=true:=by
 intro v hv
 unfold pcz at hv
 simp only[c1x,c1v,or_false] at hv
 rcases hv with rfl|rfl|rfl|rfl|rfl|rfl<;>rfl
def a7K(O E:Nat):Deferred:={ target:=.fn (.func 72) #[.pointer (some ⟨O,0,none⟩),.pointer (some ⟨E,0,none⟩)],args:=#[] }
theorem a0r {W:World} {O E:Nat} {e:Int} {tmps:Array Value} {R:Ending->World->Prop} (h2:tmps.getD 2 undef=.pointer (some ⟨O,0,none⟩)) (h3:tmps.getD 3 undef=.pointer (some ⟨E,0,none⟩)) (hoe:OE W O E) (hne:O≠E)
  (hR:∀ w',Keeps [O,E] W w'->R (.returned (.tuple #[.slice none 0 0,.int .i64 e])) w'):bodyPostD Tryz.prog Tryz.f47 R (Exit.panic (a7l e)) { tmps:=tmps,defers:=[a7K O E] } W:=by
 obtain⟨⟨v,hv⟩,⟨u,hu⟩,f1,f2⟩:=hoe
 refine leaves_cons (f:=72) (args:=#[.pointer (some ⟨O,0,none⟩),.pointer (some ⟨E,0,none⟩)]) (by simp[a7K]) (by simp[a7K,go_sem]) ?_
 refine (b0H O E e _ v u hv hu f1 f2 hne).mono ?_
 rintro _ u' w'' ⟨rfl,rfl,rfl⟩
 have c1:((W.setCell ⟨O,0,none⟩ (.slice none 0 0)).setCell ⟨E,0,none⟩ (.int .i64 e)).cell? ⟨O,0,none⟩=some (.slice none 0 0):=(c1A _ _ _ _ (by simpa using hne.symm)).trans (c1B _ _ _ hv)
 have c2:((W.setCell ⟨O,0,none⟩ (.slice none 0 0)).setCell ⟨E,0,none⟩ (.int .i64 e)).cell? ⟨E,0,none⟩=some (.int .i64 e):=c1B _ _ _ ((c1A _ _ _ _ (by simpa using hne)).trans hu)
 have hr:=hR _ (((Keeps.refl [O,E] W).setCell (p:=⟨O,0,none⟩) (.inl (by simp)) (.slice none 0 0)).setCell (p:=⟨E,0,none⟩) (.inl (by simp)) (.int .i64 e))
 have h2':tmps[2]?.getD undef=.pointer (some ⟨O,0,none⟩):=by simpa using h2
 have h3':tmps[3]?.getD undef=.pointer (some ⟨E,0,none⟩):=by simpa using h3
 have ha:∀ w,(isAgg 73).run Tryz.prog w=.ok false w:=run_isAgg_plain Tryz.underlying73 rfl
 have hb:∀ w,(isAgg 27).run Tryz.prog w=.ok false w:=run_isAgg_plain Tryz.underlying27 rfl
 simp[Leaves,settle,results,Tryz.results47,go_sem,h2',h3',asAddr,ha,hb,c1,c2]
 exact hr
theorem a9H {W:World} {O E:Nat} {v u:Value} {tmps:Array Value} {R:Ending->World->Prop} (h2:tmps.getD 2 undef=.pointer (some ⟨O,0,none⟩)) (h3:tmps.getD 3 undef=.pointer (some ⟨E,0,none⟩)) (hv:W.cell? ⟨O,0,none⟩=some v) (hu:W.cell? ⟨E,0,none⟩=some u)
  (hR:R (.returned (.tuple #[v,u])) W):bodyPostD Tryz.prog Tryz.f47 R Exit.ret { tmps:=tmps,defers:=[a7K O E] } W:=by
 have h2':tmps[2]?.getD undef=.pointer (some ⟨O,0,none⟩):=by simpa using h2
 have h3':tmps[3]?.getD undef=.pointer (some ⟨E,0,none⟩):=by simpa using h3
 have ha:∀ w,(isAgg 73).run Tryz.prog w=.ok false w:=run_isAgg_plain Tryz.underlying73 rfl
 have hb:∀ w,(isAgg 27).run Tryz.prog w=.ok false w:=run_isAgg_plain Tryz.underlying27 rfl
 refine leaves_cons (f:=72) (args:=#[.pointer (some ⟨O,0,none⟩),.pointer (some ⟨E,0,none⟩)]) (by simp[a7K]) (by simp[a7K,go_sem]) ?_
 refine (b3n O E _).mono ?_
 rintro _ u' w'' ⟨rfl,rfl,rfl⟩
 simp[Leaves,settle,results,Tryz.results47,go_sem,h2',h3',asAddr,ha,hb,hv,hu]
 exact hR
theorem a5g(w:World)(A:Option Addr)(n c:Nat)(xs:List Int)(hz:ZB w A n c xs) :
  Calls Tryz.prog 47 #[.slice A n c] w (PcsP w A c xs):=by
 have hmf:∀ (fn:Fn) (first cap:Array Value) (w:World),(Instr.makeFunc fn first cap).run Tryz.prog w=.ok (.func fn first cap) w:=fun _ _ _ _=>rfl
 have HZ:=c1n hz
 have hn9:=hz.len
 have HX:=c1n hz.ri.len
 clear hz
 obtain⟨O,hO⟩:∃ z,z=w.heap.size:=⟨_,rfl⟩
 obtain⟨E,hE⟩:∃ z,z=O+1:=⟨_,rfl⟩
 have hne:O≠E:=by omega
 have BADP:Hid (∀ e,zpieces xs=(e,[])->e≠0->∀ W,Below w.heap.size w W->∀ w',Keeps [O,E] W w'->PcsP w A c xs (.returned (.tuple #[.slice none 0 0,.int .i64 e])) w'):=c1n (fun e he h0 W hb w' hk=>by
  have hb2:Below w.heap.size w w':=hb.trans (a0c hk hb.size (fun x hx=>by simp at hx;omega))
  exact⟨.slice none 0 0,by rw[he],fun _=>rfl,fun h=>absurd (by rw[he] at h;exact h) h0,hb2⟩)
 obtain⟨w2,hw2⟩:∃ z,z=(w.alloc (.cells #[.slice none 0 0] 73)).alloc (.cells #[.int .i64 0] 27):=⟨_,rfl⟩
 have O2:Hid (Blk w2 O 73 [.slice none 0 0]):=c1n (by rw[hw2,hO];exact (a0d w 73 [.slice none 0 0]).keeps (S:=[]) ((Keeps.refl [] _).alloc _) (by simp))
 have E2:Hid (Blk w2 E 27 [.int .i64 0]):=c1n (by
  have:=a0d (w.alloc (.cells #[.slice none 0 0] 73)) 27 [.int .i64 0]
  rw[World.size_alloc,<-hO,<-hE] at this
  rw[hw2];exact this)
 have B2:Hid (Below w.heap.size w w2):=c1n (by rw[hw2];exact ((c1Q _ w).alloc (c1N _) _).alloc (by simp) _)
 have hs2:w2.heap.size=E+1:=by rw[hw2];simp;omega
 have HOO:=c1n hO
 have HEE:=c1n hE
 have P2:Hid (OE w2 O E):=c1n ⟨⟨_,O2.out.cell 0⟩,⟨_,E2.out.cell 0⟩,O2.out.frozen 0,E2.out.frozen 0⟩
 have HS2:=c1n hs2
 clear hs2
 go_enter_defers Tryz.func47,Tryz.ntmps47
 go_upto_region 2 with (fail)
 rw[<-hw2,<-hO,<-hE]
 clear hw2 hO hE
 by_cases q1:n<=1048576
 case neg=>
  have HP:Hid (zpieces xs=(2,[])):=c1n (by unfold zpieces;rw[if_pos (by rw[HX.out];omega)])
  have t1:decide ((n:Int)<=1048576)=false:=c1o (by omega)
  have t1':decide (n<=1048576)=false:=c1o q1
  clear q1
  go_wp2_with fail
  refine (a0p _ 2).mono ?_
  rintro _ _ ⟨rfl,rfl⟩
  exact a0r rfl rfl P2.out hne (BADP.out 2 HP.out (by decide) _ B2.out)
 have t1:decide ((n:Int)<=1048576)=true:=c1p (by omega)
 have t1':decide (n<=1048576)=true:=c1p q1
 go_wp2_with fail
 refine (a1u _ 2).mono ?_
 rintro _ wz ⟨rfl,hwz⟩
 obtain rfl:w2=wz:=hwz.symm
 clear hwz t1 t1'
 by_cases q2:22<=n
 case neg=>
  have HP:Hid (zpieces xs=(81,[])):=c1n (by unfold zpieces;rw[if_neg (by rw[HX.out];omega),if_pos (by rw[HX.out];omega)])
  have t1:decide ((22:Int)<=(n:Int))=false:=c1o (by omega)
  have t1':decide (22<=n)=false:=c1o q2
  clear q1 q2
  go_wp2_with fail
  refine (a0p _ 81).mono ?_
  rintro _ _ ⟨rfl,rfl⟩
  exact a0r rfl rfl P2.out hne (BADP.out 81 HP.out (by decide) _ B2.out)
 have t1:decide ((22:Int)<=(n:Int))=true:=c1p (by omega)
 have t1':decide (22<=n)=true:=c1p q2
 obtain⟨en,hen⟩:∃ z,z=n-22:=⟨_,rfl⟩
 have s1:IntKind.i64.wrap ((n:Int)-22)=(en:Int):=by rw[c1J _ (by omega)];omega
 have s1':(n:Int)-22=(en:Int):=by omega
 have hn22:n=en+22:=by omega
 have HEN:=c1n hen
 have HZ1:Hid (zpieces xs=if ¬ZEnd xs en then (81,[]) else if 64<zmany xs then (86,[]) else zloop xs (zfirst xs) en (zmany xs) (zfirst xs) 0 []):=c1n (by
  unfold zpieces
  rw[if_neg (by rw[HX.out];omega),if_neg (by rw[HX.out];omega),HX.out,<-hen])
 have HN22:=c1n hn22
 clear hen hn22
 go_wp2_with fail
 refine (a1u _ 81).mono ?_
 rintro _ wz ⟨rfl,hwz⟩
 obtain rfl:w2=wz:=hwz.symm
 clear hwz t1 t1'
 go_upto_region 6 with (fail)
 obtain⟨F,hF⟩:∃ z,z=w2.heap.size:=⟨_,rfl⟩
 obtain⟨w3,hw3⟩:∃ z,z=w2.alloc (.cells #[.slice A n c,.int .i64 en] 118):=⟨_,rfl⟩
 have K3:Hid (Keeps [] w2 w3):=c1n (by rw[hw3];exact (Keeps.refl [] _).alloc _)
 have hFB:Blk w3 F 118 [.slice A n c,.int .i64 en]:=by rw[hw3,hF];exact a0d _ _ _
 have F3:Hid (FD w3 F 0 A n c en):=c1n ⟨by have:=hFB.cell 0;simpa using this,by have:=hFB.cell 1;simpa using this,hFB.frozen 1,fun a ha he=>by have h1:=HZ.out.old a ha;have h2:=B2.out.size;omega⟩
 have HF:=c1n hF
 have Z2:=c1n (HZ.out.keeps (Keeps.of_below B2.out (S:=[])) (a0a _))
 rw[<-hw3,<-hF]
 have hFge:w2.heap.size<=F:=by omega
 have h22:en+22<=n:=by have:=HN22.out;omega
 have h22':n<=en+22:=by have:=HN22.out;omega
 clear hw3 hFB hF s1 s1'
 go_wp2_with fail
 refine (a0U w3 F 0 A n c xs en F3.out (Z2.out.keeps K3.out (a0a _)) (by omega)).mono ?_
 rintro _ w4 ⟨rfl,hf,ho⟩
 have F4:=c1n hf
 have K4:=c1n (K3.out.then ho.keeps (fun x hx=>.inr (by simp at hx;omega)))
 obtain⟨v0,hv⟩:∃ z,z=zget xs en 4:=⟨_,rfl⟩
 rw[<-hv]
 have V0:=c1n hv
 clear hf ho hv F3 K3
 go_wp2_with fail
 refine (a0P w4 F 0 A n c xs (en+4) F4.out (Z2.out.keeps K4.out (a0a _)) (by omega)).mono ?_
 rintro _ w5 ⟨rfl,hf,ho⟩
 have F5:=c1n hf
 have K5:=c1n (K4.out.then ho.keeps (fun x hx=>.inr (by simp at hx;omega)))
 obtain⟨v1,hv⟩:∃ z,z=zget xs (en+4) 2:=⟨_,rfl⟩
 rw[<-hv]
 have V1:=c1n hv
 clear hf ho hv F4 K4
 go_wp2_with fail
 refine (a0P w5 F 0 A n c xs (en+4+2) F5.out (Z2.out.keeps K5.out (a0a _)) (by omega)).mono ?_
 rintro _ w6 ⟨rfl,hf,ho⟩
 have F6:=c1n hf
 have K6:=c1n (K5.out.then ho.keeps (fun x hx=>.inr (by simp at hx;omega)))
 obtain⟨v2,hv⟩:∃ z,z=zget xs (en+4+2) 2:=⟨_,rfl⟩
 rw[<-hv]
 have V2:=c1n hv
 clear hf ho hv F5 K5
 go_wp2_with fail
 refine (a0P w6 F 0 A n c xs (en+4+2+2) F6.out (Z2.out.keeps K6.out (a0a _)) (by omega)).mono ?_
 rintro _ w7 ⟨rfl,hf,ho⟩
 have F7:=c1n hf
 have K7:=c1n (K6.out.then ho.keeps (fun x hx=>.inr (by simp at hx;omega)))
 obtain⟨v3,hv⟩:∃ z,z=zget xs (en+4+2+2) 2:=⟨_,rfl⟩
 rw[<-hv]
 have V3:=c1n hv
 clear hf ho hv F6 K6
 go_wp2_with fail
 refine (a0P w7 F 0 A n c xs (en+4+2+2+2) F7.out (Z2.out.keeps K7.out (a0a _)) (by omega)).mono ?_
 rintro _ w8 ⟨rfl,hf,ho⟩
 have F8:=c1n hf
 have K8:=c1n (K7.out.then ho.keeps (fun x hx=>.inr (by simp at hx;omega)))
 obtain⟨v4,hv⟩:∃ z,z=zget xs (en+4+2+2+2) 2:=⟨_,rfl⟩
 rw[<-hv]
 have V4:=c1n hv
 clear hf ho hv F7 K7
 go_wp2_with fail
 refine (a0U w8 F 0 A n c xs (en+4+2+2+2+2) F8.out (Z2.out.keeps K8.out (a0a _)) (by omega)).mono ?_
 rintro _ w9 ⟨rfl,hf,ho⟩
 have F9:=c1n hf
 have K9:=c1n (K8.out.then ho.keeps (fun x hx=>.inr (by simp at hx;omega)))
 obtain⟨v5,hv⟩:∃ z,z=zget xs (en+4+2+2+2+2) 4:=⟨_,rfl⟩
 rw[<-hv]
 have V5:=c1n hv
 clear hf ho hv F8 K8
 go_wp2_with fail
 refine (a0U w9 F 0 A n c xs (en+4+2+2+2+2+4) F9.out (Z2.out.keeps K9.out (a0a _)) (by omega)).mono ?_
 rintro _ w10 ⟨rfl,hf,ho⟩
 have F10:=c1n hf
 have K10:=c1n (K9.out.then ho.keeps (fun x hx=>.inr (by simp at hx;omega)))
 obtain⟨v6,hv⟩:∃ z,z=zget xs (en+4+2+2+2+2+4) 4:=⟨_,rfl⟩
 rw[<-hv]
 have V6:=c1n hv
 clear hf ho hv F9 K9
 go_wp2_with fail
 refine (a0P w10 F 0 A n c xs (en+4+2+2+2+2+4+4) F10.out (Z2.out.keeps K10.out (a0a _)) (by omega)).mono ?_
 rintro _ w11 ⟨rfl,hf,ho⟩
 have F11:=c1n hf
 have K11:=c1n (K10.out.then ho.keeps (fun x hx=>.inr (by simp at hx;omega)))
 obtain⟨v7,hv⟩:∃ z,z=zget xs (en+4+2+2+2+2+4+4) 2:=⟨_,rfl⟩
 rw[<-hv]
 have V7:=c1n hv
 clear hf ho hv F10 K10
 have HZE:Hid (ZEnd xs en↔v0=101010256/\v1=0/\v2=0/\v3=v4/\v6+v5=(en:Int)/\v7=0):=c1n (by
  unfold ZEnd
  rw[V0.out,V1.out,V2.out,V3.out,V4.out,V5.out,V6.out,V7.out])
 have HBE:Hid (¬(v0=101010256/\v1=0/\v2=0/\v3=v4/\v6+v5=(en:Int)/\v7=0)->zpieces xs=(81,[])):=c1n (fun h=>by rw[HZ1.out,if_pos (fun hh=>h (HZE.out.1 hh))])
 have hb3:=a2P HZ.out.byte (p:=en+4+2+2) (by rw[HX.out];omega)
 have hb5:=a2q HZ.out.byte (p:=en+4+2+2+2+2) (by rw[HX.out];omega)
 have hb6:=a2q HZ.out.byte (p:=en+4+2+2+2+2+4) (by rw[HX.out];omega)
 have hb3':0<=v3/\v3<65536:=by rw[V3.out];exact hb3
 have hb5':0<=v5/\v5<4294967296:=by rw[V5.out];exact hb5
 have hb6':0<=v6/\v6<4294967296:=by rw[V6.out];exact hb6
 clear hb3 hb5 hb6
 have sS:IntKind.i64.wrap (v6+v5)=v6+v5:=c1J _ (by omega)
 have P11:Hid (OE w11 O E):=c1n (P2.out.keeps K11.out (by simp) (by simp))
 have B11:Hid (Below w.heap.size w w11):=c1n (B2.out.trans (a0c K11.out B2.out.size (by simp)))
 have HV3:=c1n hb3'
 have HV6:=c1n hb6'
 clear hb3' hb5' hb6'
 by_cases c0:v0=101010256
 case neg=>
  have b0:(v0==101010256)=false:=by simpa using c0
  have HP:=c1n (HBE.out (fun h=>c0 h.1))
  clear c0
  go_wp2_with fail
  refine (a0p _ 81).mono ?_
  rintro _ _ ⟨rfl,rfl⟩
  exact a0r rfl rfl P11.out hne (BADP.out 81 HP.out (by decide) _ B11.out)
 have b0:(v0==101010256)=true:=by simpa using c0
 by_cases c1:v1=0
 case neg=>
  have b1:(v1==0)=false:=by simpa using c1
  have HP:=c1n (HBE.out (fun h=>c1 h.2.1))
  clear c0 c1
  go_wp2_with fail
  refine (a0p _ 81).mono ?_
  rintro _ _ ⟨rfl,rfl⟩
  exact a0r rfl rfl P11.out hne (BADP.out 81 HP.out (by decide) _ B11.out)
 have b1:(v1==0)=true:=by simpa using c1
 by_cases c2:v2=0
 case neg=>
  have b2:(v2==0)=false:=by simpa using c2
  have HP:=c1n (HBE.out (fun h=>c2 h.2.2.1))
  clear c0 c1 c2
  go_wp2_with fail
  refine (a0p _ 81).mono ?_
  rintro _ _ ⟨rfl,rfl⟩
  exact a0r rfl rfl P11.out hne (BADP.out 81 HP.out (by decide) _ B11.out)
 have b2:(v2==0)=true:=by simpa using c2
 by_cases c3:v3=v4
 case neg=>
  have b3:(v3==v4)=false:=by simpa using c3
  have HP:=c1n (HBE.out (fun h=>c3 h.2.2.2.1))
  clear c0 c1 c2 c3
  go_wp2_with fail
  refine (a0p _ 81).mono ?_
  rintro _ _ ⟨rfl,rfl⟩
  exact a0r rfl rfl P11.out hne (BADP.out 81 HP.out (by decide) _ B11.out)
 have b3:(v3==v4)=true:=by simpa using c3
 by_cases c4:v6+v5=(en:Int)
 case neg=>
  have b4:(v6+v5==(en:Int))=false:=by simpa using c4
  have HP:=c1n (HBE.out (fun h=>c4 h.2.2.2.2.1))
  clear c0 c1 c2 c3 c4
  go_wp2_with fail
  refine (a0p _ 81).mono ?_
  rintro _ _ ⟨rfl,rfl⟩
  exact a0r rfl rfl P11.out hne (BADP.out 81 HP.out (by decide) _ B11.out)
 have b4:(v6+v5==(en:Int))=true:=by simpa using c4
 by_cases c5:v7=0
 case neg=>
  have b5:(v7==0)=false:=by simpa using c5
  have HP:=c1n (HBE.out (fun h=>c5 h.2.2.2.2.2))
  clear c0 c1 c2 c3 c4 c5
  go_wp2_with fail
  refine (a0p _ 81).mono ?_
  rintro _ _ ⟨rfl,rfl⟩
  exact a0r rfl rfl P11.out hne (BADP.out 81 HP.out (by decide) _ B11.out)
 have b5:(v7==0)=true:=by simpa using c5
 have HEND:Hid (ZEnd xs en):=c1n (HZE.out.2 ⟨c0,c1,c2,c3,c4,c5⟩)
 have H4:=c1n c4
 clear c0 c1 c2 c3 c4 c5 HBE HZE
 go_wp2_with fail
 refine (a1u _ 81).mono ?_
 rintro _ wz ⟨rfl,hwz⟩
 obtain rfl:w11=wz:=hwz.symm
 clear hwz b0 b1 b2 b3 b4 b5 sS
 obtain⟨N,hN⟩:∃ z:Nat,(z:Int)=v3:=⟨v3.toNat,Int.toNat_of_nonneg HV3.out.1⟩
 obtain⟨fs,hfs⟩:∃ z:Nat,(z:Int)=v6:=⟨v6.toNat,Int.toNat_of_nonneg HV6.out.1⟩
 rw[<-hN,<-hfs]
 have HNM:Hid (zmany xs=N):=c1n (by
  unfold zmany
  rw[HX.out,<-HEN.out,show en+8=en+4+2+2 from rfl,<-V3.out,<-hN]
  exact Int.toNat_natCast _)
 have HFS:Hid (zfirst xs=fs):=c1n (by
  unfold zfirst
  rw[HX.out,<-HEN.out,show en+16=en+4+2+2+2+2+4 from rfl,<-V6.out,<-hfs]
  exact Int.toNat_natCast _)
 have hfe:fs<=en:=by
  have h1:=H4.out
  have h2:=(a2q HZ.out.byte (p:=en+4+2+2+2+2) (by rw[HX.out];omega)).1
  rw[<-V5.out] at h2
  omega
 have HZ2:Hid (zpieces xs=if 64<N then (86,[]) else zloop xs fs en N fs 0 []):=c1n (by rw[HZ1.out,if_neg (fun h=>h HEND.out),HNM.out,HFS.out])
 clear hN hfs HV3 HV6 HZ1 H4
 by_cases q64:N<=64
 case neg=>
  have HP:Hid (zpieces xs=(86,[])):=c1n (by rw[HZ2.out,if_pos (by omega)])
  have t1:decide ((N:Int)<=64)=false:=c1o (by omega)
  have t1':decide (N<=64)=false:=c1o q64
  clear q64
  go_wp2_with fail
  refine (a0p _ 86).mono ?_
  rintro _ _ ⟨rfl,rfl⟩
  exact a0r rfl rfl P11.out hne (BADP.out 86 HP.out (by decide) _ B11.out)
 have t1:decide ((N:Int)<=64)=true:=c1p (by omega)
 have t1':decide (N<=64)=true:=c1p q64
 have HZ3:Hid (zpieces xs=zloop xs fs en N fs 0 []):=c1n (by rw[HZ2.out,if_neg (by omega)])
 have hmm:=@run_makeMap Tryz.prog
 clear HZ2
 go_wp2_with fail
 refine (a1u _ 86).mono ?_
 rintro _ wz ⟨rfl,hwz⟩
 obtain rfl:w11=wz:=hwz.symm
 clear hwz t1 t1'
 go_wp2_with fail
 obtain⟨B,hB⟩:∃ z,z=w11.heap.size:=⟨_,rfl⟩
 obtain⟨G,hG⟩:∃ z,z=B+1:=⟨_,rfl⟩
 obtain⟨w12,hw12⟩:∃ z,z=(w11.alloc (.map #[] 0)).alloc (.cells #[.slice A n c,.int .i64 fs,.int .i64 en,.slice A n c,.int .i64 fs,.int .i64 0,.map (some w11.heap.size)] 122):=⟨_,rfl⟩
 have k12:Keeps [] w11 w12:=by rw[hw12];exact ((Keeps.refl [] _).alloc _).alloc _
 have G12:Blk w12 G 122 [.slice A n c,.int .i64 fs,.int .i64 en,.slice A n c,.int .i64 fs,.int .i64 0,.map (some B)]:=by
  have:=a0d (w11.alloc (.map #[] 0)) 122 [.slice A n c,.int .i64 fs,.int .i64 en,.slice A n c,.int .i64 fs,.int .i64 0,.map (some w11.heap.size)]
  rw[World.size_alloc,<-hB,<-hG] at this
  rw[hw12,<-hB];exact this
 have M12:Hid (SetM w12 B []):=c1n (by rw[hw12,hB];exact (b2O w11).keeps (S:=[]) ((Keeps.refl [] _).alloc _) (by simp))
 have R12:Hid (RDR w12 G A n c fs en 0 B):=c1n ⟨G12.cell 0,G12.cell 1,G12.cell 2,G12.cell 5,G12.cell 6,G12.frozen 5⟩
 have hEw:E<w2.heap.size:=E2.out.lt
 have hw11:w2.heap.size<=w11.heap.size:=K11.out.size
 have hAold:∀ a,A=some a->a.block<w.heap.size:=HZ.out.old
 have hw0:w.heap.size<=w2.heap.size:=B2.out.size
 have F12:Hid (FD w12 G 3 A n c fs):=c1n ⟨G12.cell 3,G12.cell 4,G12.frozen 4,fun a ha he=>by have h1:=hAold a ha;omega⟩
 have O12:Hid (Blk w12 O 73 [.slice none 0 0]):=c1n (O2.out.keeps (K11.out.trans k12) (by simp))
 have E12:Hid (Blk w12 E 27 [.int .i64 0]):=c1n (E2.out.keeps (K11.out.trans k12) (by simp))
 have B12:Hid (Below w.heap.size w w12):=c1n (B11.out.trans (a0c k12 B11.out.size (by simp)))
 have hGw:G<w12.heap.size:=G12.lt
 have hEB:E<B:=by omega
 have hOE2:O<E:=by have:=HEE.out;omega
 have hwO:w.heap.size<=O:=by have:=HOO.out;omega
 have hAB:∀ a,A=some a->a.block<O:=fun a ha=>by have:=hAold a ha;omega
 have HAB:=c1n hAB
 have hGB:B<G:=by omega
 rw[<-hw12,<-hB,<-hG]
 clear hw12 k12 G12 hB hG hEw hw11 hAold hw0 hAB O2 E2 P2 P11 B11 K11 Z2 F11 hmm
 go_loopw [78] (fun iv wr=>∃ (i rp at_:Nat) (acc:List ZP) (AO:Option Addr) (cO:Nat),i<=N/\iv=.int .i64 i/\rp<=en/\at_<=fs/\acc.length=i/\Hid (zpieces xs=zloop xs fs en (N-i) rp at_ acc)/\Hid (RDR wr G A n c fs en at_ B)/\Hid (FD wr G 3 A n c rp)/\Hid (SetM wr B (znames acc))/\Hid (Blk wr O 73 [.slice AO i cO]) /\
  Hid (wr.ownsRow (G+1) 77 6 (.slice AO i cO) i (acc.flatMap (pcz A c)))/\Hid (Blk wr E 27 [.int .i64 0])/\Hid (Below w.heap.size w wr)/\G<wr.heap.size) (fun iv _=>N-(intOf iv).toNat)
 case atStart=>exact⟨0,fs,0,[],none,0,by omega,rfl,by omega,by omega,rfl,HZ3,R12,F12,M12,O12,c1n (c1w _ _ _ _),E12,B12,hGw⟩
 case round=>
  clear HZ3 R12 F12 M12 O12 E12 B12 hGw
  obtain⟨i,rp,at_,acc,AO,cO,hi,rfl,hrp,hat,hal,HZL,HR,HF,HM,HO,HOW,HE,HB,hGw⟩:=hrel
  have POE:Hid (OE wr O E):=c1n ⟨⟨_,HO.out.cell 0⟩,⟨_,HE.out.cell 0⟩,HO.out.frozen 0,HE.out.frozen 0⟩
  have hkn:(znames acc).length<=100000:=by unfold znames;rw[c1t];omega
  by_cases hlt:i<N
  ·have e0:decide (i<N)=true:=c1p hlt
   have HZS:Hid (zpieces xs=if a1C xs fs en rp at_ (znames acc)=0 then zloop xs fs en (N-(i+1)) (rp+46+a1h xs rp) (at_+30+a1h xs rp+(zrecI xs rp).packed.toNat) (acc++[a2u xs rp at_]) else (a1C xs fs en rp at_ (znames acc),[])):=c1n (by
    rw[HZL.out,show N-i=(N-(i+1))+1 by omega,zloop])
   have NC:Hid (∀ w',Keeps [] wr w'->Calls Tryz.prog 76 #[.pointer (some ⟨G,0,none⟩)] w' (NextP w' G A n c xs fs en rp at_ B (znames acc))):=c1n (fun w' hk=>
    b2e w' G A n c xs fs en rp at_ B (znames acc) (HR.out.keeps hk (by simp)) (HF.out.keeps hk (by simp)) ((HZ.out.keeps (Keeps.of_below HB.out (S:=[])) (a0a _)).keeps hk (a0a _)) (HM.out.keeps hk (by simp)) (by omega) (fun a ha=>by have:=HAB.out a ha;omega) hfe (by omega) hrp hat hkn)
   have o0:=HO.out.cell 0
   have of:=HO.out.frozen 0
   simp only[c1q] at o0
   clear HZL
   go_upto_region 12 with (fail)
   by_cases hz0:a1C xs fs en rp at_ (znames acc)=0
   ·obtain⟨z1,z2,z3,z4,z5,z6,z7,z8⟩:=a3P hz0
    have hrl:rp+46+a1h xs rp<=en:=z1.2.2.2.2.2.2
    have hpk:0<=(zrecI xs rp).packed:=(a2q HZ.out.byte (p:=rp+6+14) (by rw[HX.out];omega)).1
    have hat2:at_+30+a1h xs rp+(zrecI xs rp).packed.toNat<=fs:=by omega
    have HZT:Hid (zpieces xs=zloop xs fs en (N-(i+1)) (rp+46+a1h xs rp) (at_+30+a1h xs rp+(zrecI xs rp).packed.toNat) (acc++[a2u xs rp at_])):=c1n (by rw[HZS.out,if_pos hz0])
    have hzn:znames (acc++[a2u xs rp at_])=znames acc++[a3l xs rp]:=by unfold znames;rw[c1C];rfl
    obtain⟨nm,hnm⟩:∃ z,z=a3l xs rp:=⟨_,rfl⟩
    obtain⟨a1,ha1⟩:∃ z,z=(zrecI xs rp).size:=⟨_,rfl⟩
    obtain⟨a2,ha2⟩:∃ z,z=(zrecI xs rp).packed:=⟨_,rfl⟩
    obtain⟨a3,ha3⟩:∃ z,z=(zrecI xs rp).sum:=⟨_,rfl⟩
    obtain⟨a4,ha4⟩:∃ z,z=(zrecI xs rp).way:=⟨_,rfl⟩
    obtain⟨CA,hCA⟩:∃ z,z=cutA A (at_+30+a1h xs rp) c:=⟨_,rfl⟩
    obtain⟨cn,hcn⟩:∃ z,z=c-(at_+30+a1h xs rp):=⟨_,rfl⟩
    obtain⟨ln,hln⟩:∃ z,z=(zrecI xs rp).packed.toNat:=⟨_,rfl⟩
    have HPC:Hid (pcz A c (a2u xs rp at_)=[.string nm,.int .i64 a1,.int .i64 a2,.int .u32 a3,.int .i64 a4,.slice CA ln cn]):=c1n (by
     rw[hnm,ha1,ha2,ha3,ha4,hCA,hcn,hln];rfl)
    have HOK:Hid (∀ w',Keeps [] wr w'->Calls Tryz.prog 76 #[.pointer (some ⟨G,0,none⟩)] w' fun r w2=>r=.returned (.agg #[.string nm,.int .i64 a1,.int .i64 a2,.int .u32 a3,.int .i64 a4,.slice CA ln cn])/\Keeps [G,B] wr w2 /\
      Hid (RDR w2 G A n c fs en (at_+30+a1h xs rp+(zrecI xs rp).packed.toNat) B)/\Hid (FD w2 G 3 A n c (rp+46+a1h xs rp))/\Hid (SetM w2 B (znames (acc++[a2u xs rp at_])))):=c1n (fun w' hk=>by
     refine (NC.out w' hk).mono ?_
     rintro r w2 ⟨hk2,⟨h0,-⟩|⟨-,rfl,h1,h2,h3⟩⟩
     ·exact absurd hz0 h0
     ·rw[hzn,hnm,ha1,ha2,ha3,ha4,hCA,hcn,hln]
      exact⟨rfl,(hk.mono (by simp)).trans hk2,c1n h1,c1n h2,c1n h3⟩)
    obtain⟨p,hp⟩:∃ z,z=a2u xs rp at_:=⟨_,rfl⟩
    obtain⟨at2,hat⟩:∃ z,z=at_+30+a1h xs rp+(zrecI xs rp).packed.toNat:=⟨_,rfl⟩
    obtain⟨rp2,hrp2⟩:∃ z,z=rp+46+a1h xs rp:=⟨_,rfl⟩
    rw[<-hp] at HPC HOK HZT
    rw[<-hat] at HOK HZT hat2
    rw[<-hrp2] at HOK HZT hrl
    clear z1 z2 z3 z4 z5 z6 z7 z8 hz0 HZS hzn hnm ha1 ha2 ha3 ha4 hCA hcn hln hp hat hrp2 NC hpk
    have hO1:O≠G:=by omega
    have REL:Hid (∀ w2 w3 g3 c3,Keeps [G,B] wr w2->Hid (RDR w2 G A n c fs en at2 B)->Hid (FD w2 G 3 A n c rp2)->Hid (SetM w2 B (znames (acc++[p])))->Keeps (Value.slice AO i cO).ownBlock.toList w2 w3->w3.ownsRow (G+1) 77 6 (.slice (some ⟨g3,0,none⟩) (i+1) c3) (i+1) ((acc++[p]).flatMap (pcz A c)) ->
      Hid (RDR (w3.setCell ⟨O,0,none⟩ (.slice (some ⟨g3,0,none⟩) (i+1) c3)) G A n c fs en at2 B)/\Hid (FD (w3.setCell ⟨O,0,none⟩ (.slice (some ⟨g3,0,none⟩) (i+1) c3)) G 3 A n c rp2)/\Hid (SetM (w3.setCell ⟨O,0,none⟩ (.slice (some ⟨g3,0,none⟩) (i+1) c3)) B (znames (acc++[p])))/\Hid (Blk (w3.setCell ⟨O,0,none⟩ (.slice (some ⟨g3,0,none⟩) (i+1) c3)) O 73 [.slice (some ⟨g3,0,none⟩) (i+1) c3]) /\
      Hid ((w3.setCell ⟨O,0,none⟩ (.slice (some ⟨g3,0,none⟩) (i+1) c3)).ownsRow (G+1) 77 6 (.slice (some ⟨g3,0,none⟩) (i+1) c3) (i+1) ((acc++[p]).flatMap (pcz A c)))/\Hid (Blk (w3.setCell ⟨O,0,none⟩ (.slice (some ⟨g3,0,none⟩) (i+1) c3)) E 27 [.int .i64 0])/\Hid (Below w.heap.size w (w3.setCell ⟨O,0,none⟩ (.slice (some ⟨g3,0,none⟩) (i+1) c3)))/\G<(w3.setCell ⟨O,0,none⟩ (.slice (some ⟨g3,0,none⟩) (i+1) c3)).heap.size):=c1n (fun w2 w3 g3 c3 hk2 hR2 hF2 hM2 k3 ho3=>by
     have hlo:∀ x∈(Value.slice AO i cO).ownBlock.toList,G+1<=x:=fun x hx=>a0m HOW.out x (Option.mem_toList.1 hx)
     have kO:Keeps [O] w3 (w3.setCell ⟨O,0,none⟩ (.slice (some ⟨g3,0,none⟩) (i+1) c3)):=(Keeps.refl [O] w3).setCell (p:=⟨O,0,none⟩) (.inl (by simp)) _
     refine⟨c1n ((hR2.out.keeps k3 (fun hm=>by have:=hlo G hm;omega)).keeps kO (by simp;omega)),c1n ((hF2.out.keeps k3 (fun hm=>by have:=hlo G hm;omega)).keeps kO (by simp;omega)),c1n ((hM2.out.keeps k3 (fun hm=>by have:=hlo B hm;omega)).keeps kO (by simp;omega)),
      c1n (((HO.out.keeps hk2 (by simp;omega)).keeps k3 (fun hm=>by have:=hlo O hm;omega)).set 0 _),c1n (a0b ho3 kO (fun g hg hm=>by have:=a0m ho3 g hg;simp at hm;omega)),c1n (((HE.out.keeps hk2 (by simp;omega)).keeps k3 (fun hm=>by have:=hlo E hm;omega)).keeps kO (by simp;omega)),c1n ?_,?_⟩
     ·have b2:=HB.out.trans (a0c hk2 HB.out.size (fun x hx=>by simp at hx;omega))
      have b3:=b2.trans (a0c k3 b2.size (fun x hx=>by have:=hlo x hx;omega))
      exact b3.trans (a0c kO b3.size (fun x hx=>by simp at hx;omega))
     ·have h1:=hk2.size;have h2:=k3.size;have h3:=kO.size;omega)
    refine wp_region_noPanic ?_
    go_region_law (first
      | (refine b9R b8q (a6y A c) (b9H A c) rfl (.tmp 80) (.tmp 83) rfl (G+1) _ i acc rfl (a0b HOW.out (hk2.alloc _) (fun g hg hm=>by have:=a0m HOW.out g hg;simp at hm;omega)) w2.heap.size p rfl (fun j hj=>by rw[HPC.out];exact (a0d w2 77 [.string nm,.int .i64 a1,.int .i64 a2,.int .u32 a3,.int .i64 a4,.slice CA ln cn]).cell j) (by omega) (by have:=hk2.size;simp;omega) ?_;intro g3 c3 w3 ho3 hg3;have k3:Keeps (Value.slice AO i cO).ownBlock.toList w2 w3:=⟨hg3.os,hg3.tape,hg3.output,Nat.le_trans (by simp) hg3.size,fun k hk hm=>(hg3.block k (by simp;omega) (fun e=>hm (Option.mem_toList.2 e.symm))).trans (Below.heap_alloc _ _ _ hk)⟩;have hlo:∀ x∈(Value.slice AO i cO).ownBlock.toList,G+1<=x:=fun x hx=>a0m HOW.out x (Option.mem_toList.1 hx);have q3:=k3.cell (p:=⟨O,0,none⟩) (fun hm=>by have:=hlo O hm;omega) q1;have q4:=(k3.frozen (p:=⟨O,0,none⟩) (c1I _ _ q1) (fun hm=>by have:=hlo O hm;omega)).trans q2)
      | (refine a6L (f:=76) (args:=#[.pointer (some ⟨G,0,none⟩)]) rfl (by first|kernel_rfl|(simp[go_sem];done)|go_simp) ?_;refine (HOK.out _ (by repeat (first|exact Keeps.refl _ _|apply Keeps.drewN|apply Keeps.drew))).mono ?_;rintro _ w2 ⟨rfl,hk2,HR2,HF2,HM2⟩;refine⟨_,rfl,?_⟩;have q1:=hk2.cell (p:=⟨O,0,none⟩) (by simp;omega) o0;have q2:=(hk2.frozen (p:=⟨O,0,none⟩) HO.out.lt (by simp;omega)).trans of;have q6:∀ o,(w2.alloc o).cell? ⟨O,0,none⟩=some (.slice AO i cO):=fun o=>((Keeps.refl [] w2).alloc o).cell (p:=⟨O,0,none⟩) (by simp) q1))
    all_goals (
     refine NoPanic.normal ?_
     obtain⟨RL1,RL2,RL3,RL4,RL5,RL6,RL7,RL8⟩:=REL.out w2 w3 g3 c3 hk2 HR2 HF2 HM2 k3 ho3
     clear REL HOK HR HF HM HO HOW HE HB POE
     go_wp2_with fail
     go_roundw
     case rel=>exact⟨i+1,rp2,at2,acc++[p],some ⟨g3,0,none⟩,c3,by omega,by go_num,hrl,hat2,by rw[c1u,hal];rfl,HZT,RL1,RL2,RL3,RL4,RL5,RL6,RL7,RL8⟩
     case measure=>simp[intOf];omega)
   ·have HP:Hid (zpieces xs=(a1C xs fs en rp at_ (znames acc),[])):=c1n (by rw[HZS.out,if_neg hz0])
    have HZN:=c1n hz0
    clear hz0 HZS
    refine wp_region_any (by kernel_rfl) ?_
    change wpAny _ _ _ _ _ _ _ (World.drew _)
    refine c1R (rs:=[0,1]) (by kernel_rfl) (by simp) ?_
    refine c1D rfl (fun K hK=>?_) ?_
    ·go_simp
     refine hK _ _ ?_
     clear hK K
     refine c1R (rs:=[1]) (by kernel_rfl) (by simp) ?_
     refine c1D rfl (fun K hK=>?_) ?_
     ·go_simp
      refine hK _ _ ?_
      clear hK K
      refine c1R (rs:=[2]) (by kernel_rfl) (by simp) ?_
      refine c1D rfl (fun K hK=>?_) ?_
      ·go_simp
       refine (NC.out _ (by repeat (first|exact Keeps.refl _ _|apply Keeps.drew|apply Keeps.drewN))).mono ?_
       rintro r wp ⟨hk,hor⟩
       rcases hor with⟨h0,rfl⟩|⟨h0,-⟩
       rotate_left
       ·exact absurd h0 HZN.out
       exact a0r rfl rfl ((POE.out.keeps (S:=[]) ((Keeps.refl [] wr).drew) (by simp) (by simp)).keeps hk (by simp;omega) (by simp;omega)) hne (BADP.out _ HP.out HZN.out _ (HB.out.trans (a0c (((Keeps.refl [G,B] wr).drew).trans hk) HB.out.size (fun x hx=>by simp at hx;omega))))
      exact c1O
     exact c1O
    refine c1D rfl (fun K hK=>?_) ?_
    ·go_simp
     refine hK _ _ ?_
     clear hK K
     refine c1R (rs:=[0,2]) (by kernel_rfl) (by simp) ?_
     refine c1D rfl (fun K hK=>?_) ?_
     ·go_simp
      refine hK _ _ ?_
      clear hK K
      refine c1R (rs:=[2]) (by kernel_rfl) (by simp) ?_
      refine c1D rfl (fun K hK=>?_) ?_
      ·go_simp
       refine (NC.out _ (by repeat (first|exact Keeps.refl _ _|apply Keeps.drew|apply Keeps.drewN))).mono ?_
       rintro r wp ⟨hk,hor⟩
       rcases hor with⟨h0,rfl⟩|⟨h0,-⟩
       rotate_left
       ·exact absurd h0 HZN.out
       exact a0r rfl rfl ((POE.out.keeps (S:=[]) ((Keeps.refl [] wr).drew) (by simp) (by simp)).keeps hk (by simp;omega) (by simp;omega)) hne (BADP.out _ HP.out HZN.out _ (HB.out.trans (a0c (((Keeps.refl [G,B] wr).drew).trans hk) HB.out.size (fun x hx=>by simp at hx;omega))))
      exact c1O
     refine c1D rfl (fun K hK=>?_) ?_
     ·go_simp
      refine (NC.out _ (by repeat (first|exact Keeps.refl _ _|apply Keeps.drew|apply Keeps.drewN))).mono ?_
      rintro r wp ⟨hk,hor⟩
      rcases hor with⟨h0,rfl⟩|⟨h0,-⟩
      rotate_left
      ·exact absurd h0 HZN.out
      exact a0r rfl rfl ((POE.out.keeps (S:=[]) ((Keeps.refl [] wr).drew) (by simp) (by simp)).keeps hk (by simp;omega) (by simp;omega)) hne (BADP.out _ HP.out HZN.out _ (HB.out.trans (a0c (((Keeps.refl [G,B] wr).drew).trans hk) HB.out.size (fun x hx=>by simp at hx;omega))))
     exact c1O
    exact c1O
  ·have hiN:i=N:=by omega
   have e0:decide (i<N)=false:=c1o hlt
   have HZF:Hid (zpieces xs=if rp=en/\at_=fs then (0,acc) else (81,[])):=c1n (by rw[HZL.out,hiN,Nat.sub_self,zloop])
   have r4:=HF.out.c1
   have r5:=HR.out.c5
   have o0:=HO.out.cell 0
   have of:=HO.out.frozen 0
   have ee:=HE.out.cell 0
   have ef:=HE.out.frozen 0
   simp only[c1q] at o0 ee
   clear hiN HZL
   by_cases y1:rp=en
   case neg=>
    have b1:((rp:Int)==(en:Int))=false:=by simp;omega
    have HP:Hid (zpieces xs=(81,[])):=c1n (by rw[HZF.out,if_neg (fun h=>y1 h.1)])
    clear y1
    go_wp2_with fail
    refine (a0p _ 81).mono ?_
    rintro _ _ ⟨rfl,rfl⟩
    exact a0r rfl rfl POE.out hne (BADP.out 81 HP.out (by decide) _ HB.out)
   have b1:((rp:Int)==(en:Int))=true:=by simp;omega
   by_cases y2:at_=fs
   case neg=>
    have b2:((at_:Int)==(fs:Int))=false:=by simp;omega
    have HP:Hid (zpieces xs=(81,[])):=c1n (by rw[HZF.out,if_neg (fun h=>y2 h.2)])
    clear y1 y2
    go_wp2_with fail
    refine (a0p _ 81).mono ?_
    rintro _ _ ⟨rfl,rfl⟩
    exact a0r rfl rfl POE.out hne (BADP.out 81 HP.out (by decide) _ HB.out)
   have b2:((at_:Int)==(fs:Int))=true:=by simp;omega
   have HP:Hid (zpieces xs=(0,acc)):=c1n (by rw[HZF.out,if_pos ⟨y1,y2⟩])
   clear y1 y2 HZF
   go_wp2_with fail
   refine (a1u _ 81).mono ?_
   rintro _ wz ⟨rfl,hwz⟩
   obtain rfl:wr=wz:=hwz.symm
   clear hwz b1 b2
   have kE:∀ v,(wr.setCell ⟨O,0,none⟩ v).cell? ⟨E,0,none⟩=some (.int .i64 0):=fun v=>(c1A _ _ _ _ (by simpa using hne)).trans ee
   have fE:∀ v,(wr.setCell ⟨O,0,none⟩ v).frozen? ⟨E,0,none⟩=false:=fun v=>(World.frozen?_setCell _ _ _ _).trans ef
   go_wp2_with fail
   have kk:Keeps [O,E] wr ((wr.setCell ⟨O,0,none⟩ (.slice AO i cO)).setCell ⟨E,0,none⟩ (.int .i64 0)):=((Keeps.refl [O,E] wr).setCell (p:=⟨O,0,none⟩) (.inl (by simp)) _).setCell (p:=⟨E,0,none⟩) (.inl (by simp)) _
   refine a9H rfl rfl (v:=.slice AO i cO) (u:=.int .i64 0) ((c1A _ _ _ _ (by simpa using hne.symm)).trans (c1B _ _ _ o0)) (c1B _ _ _ (kE _)) ?_
   refine⟨.slice AO i cO,by rw[HP.out],fun h=>absurd (by rw[HP.out]) h,fun _=>?_,HB.out.trans (a0c kk HB.out.size (fun x hx=>by simp at hx;omega))⟩
   rw[HP.out]
   dsimp only
   rw[hal]
   exact a0b (a0u HOW.out (by omega)) kk (fun g hg hm=>by have:=a0m HOW.out g hg;simp at hm;omega)
end Go.Proofs.YtghjlpechjggjaaGreatDoor
namespace Go.Proofs.YtghjlpechjggjaaGreatDoor
open Go.RowKit
def a3y(way size sum:Int)(body:List Int):List Int×Int:=
 if way=8 then
  if (a0O body size).2.2≠0∨(a0O body size).2.1≠body.length∨((a0O body size).1.length:Int)≠size then ([],84)
  else if ((crcF (a0O body size).1:Nat):Int)≠sum then ([],83) else ((a0O body size).1,0)
 else if ((crcF body:Nat):Int)≠sum then ([],83) else (body,0)
theorem b1Z{xs:List Int}{p:ZP}(h:p.fro+p.len<=xs.length):a2B xs p=a3y p.x.way p.x.size p.x.sum (seg xs p.fro p.len):=by
 unfold a2B a3y
 rw[a4M h]
theorem b1Y(w:World)(nm:ByteArray)(a1 a2 a3 a4:Int)(SA:Option Addr)(sn sc:Nat)(body:List Int)(hr:RI .u8 w SA sn body)(hb:∀ x∈body,0<=x/\x<=255)(hnil:SA=none->sn=0/\sc=0)(hsn:sn<=1000000)(ha1:a1<=16384)(hT:Tabz w) :
  Calls Tryz.prog 48 #[.agg #[.string nm,.int .i64 a1,.int .i64 a2,.int .u32 a3,.int .i64 a4,.slice SA sn sc]] w fun e w'=>e=.returned (.tuple #[.string (strOfNums (a3y a4 a1 a3 body).1),.int .i64 (a3y a4 a1 a3 body).2])/\Below w.heap.size w w':=by
 have HR:=c1n hr
 have HBY:=c1n hb
 have HN:=c1n hnil
 have HT:=c1n hT
 have HL:Hid (body.length=sn):=c1n hr.len
 have kT:∀ b c,convert b c=convert b c:=fun _ _=>rfl
 clear hr hb hnil hT kT
 obtain⟨X,hX⟩:∃ z,z=w.heap.size:=⟨_,rfl⟩
 obtain⟨w1,hw1⟩:∃ z,z=w.alloc (.cells #[.string nm,.int .i64 a1,.int .i64 a2,.int .u32 a3,.int .i64 a4,.slice SA sn sc] 77):=⟨_,rfl⟩
 have k1:Keeps [] w w1:=by rw[hw1];exact (Keeps.refl [] w).alloc _
 have X1:Hid (Blk w1 X 77 [.string nm,.int .i64 a1,.int .i64 a2,.int .u32 a3,.int .i64 a4,.slice SA sn sc]):=c1n (by rw[hw1,hX];exact a0d w _ _)
 have B1:Hid (Below w.heap.size w w1):=c1n k1.below
 have R1:=c1n (HR.out.keeps k1 (a0a _))
 have T1:=c1n (HT.out.keeps k1 (by simp))
 have x1:=X1.out.cell 1
 have x3:=X1.out.cell 3
 have x4:=X1.out.cell 4
 have x5:=X1.out.cell 5
 simp only[c1q,c1s] at x1 x3 x4 x5
 obtain⟨w1',hw1'⟩:∃ z,z=w1:=⟨_,rfl⟩
 -- the end: the check,and the bytes as a text
 have END:Hid (∀ (W:World) (out:List Int) (A:Option Addr) (n c:Nat),RI .u8 W A n out->(∀ x∈out,0<=x/\x<=255)->n<=1000000->Below w.heap.size w W->Tabz W->Calls Tryz.prog 28 #[.slice A n c] W fun e w'=>e=.returned (.int .u32 ((crcF out:Nat):Int))/\∃ m,w'=W.drewN m):=c1n (fun W out A n c hr hb hn hB hT=>(b0d W A n c out hr hb (by omega) hT).mono fun _ _ ⟨h,m,hm⟩=>⟨h,m,hm⟩)
 go_enter Tryz.func48,Tryz.ntmps48
 go_upto_region 1 with (fail)
 rw[<-hw1,<-hX]
 clear hw1 hX hw1'
 by_cases h8:a4=8
 ·have b8:(a4==8)=true:=by simpa using h8
  have HP:Hid (a3y a4 a1 a3 body=if (a0O body a1).2.2≠0∨(a0O body a1).2.1≠body.length∨((a0O body a1).1.length:Int)≠a1 then ([],84) else if ((crcF (a0O body a1).1:Nat):Int)≠a3 then ([],83) else ((a0O body a1).1,0)):=c1n (by unfold a3y;rw[if_pos h8])
  clear h8
  go_wp2_with fail
  refine (a8j w1 SA sn sc body a1 T1.out.lens R1.out HN.out (fun j=>ZU8.nth (l:=body) HBY.out j) (by omega)).mono ?_
  rintro _ w2 ⟨v2,rfl,ho2,hb2⟩
  have hk2:=Keeps.of_below hb2 (S:=[])
  have HU:=c1n (b7k body a1)
  obtain⟨A2,c2,rfl,hr2⟩:=a0n ho2
  generalize a0O body a1=r at *
  obtain⟨out,used,err⟩:=r
  dsimp only at HP HU hr2 ho2 ⊢
  obtain⟨on,hon⟩:∃ z,z=out.length:=⟨_,rfl⟩
  rw[<-hon] at hr2 HP ⊢
  have HON:=c1n hon
  have R2:=c1n hr2
  have X2:=c1n (X1.out.keeps hk2 (by simp))
  have B2:=c1n (B1.out.trans (a0c hk2 B1.out.size (by simp)))
  have T2:=c1n (T1.out.keeps hk2 (by simp))
  have x1:=X2.out.cell 1
  have x3:=X2.out.cell 3
  have x5:=X2.out.cell 5
  simp only[c1q,c1s] at x1 x3 x5
  clear hr2 ho2 hb2 hk2 hon x4 R1 X1 B1 T1
  by_cases e0:err=0
  case neg=>
   have b0:(err !=0)=true:=by simpa using e0
   have HQ:Hid (a3y a4 a1 a3 body=([],84)):=c1n (by rw[HP.out,if_pos (.inl e0)])
   clear e0
   go_wp2_with fail
   go_ret2
   exact⟨by rw[HQ.out];rfl,B2.out⟩
  have b0:(err !=0)=false:=by simpa using e0
  by_cases e1:used=body.length
  case neg=>
   have b1:((used:Int) !=(sn:Int))=true:=by have:=HL.out;simp;omega
   have HQ:Hid (a3y a4 a1 a3 body=([],84)):=c1n (by rw[HP.out,if_pos (.inr (.inl e1))])
   clear e0 e1
   go_wp2_with fail
   go_ret2
   exact⟨by rw[HQ.out];rfl,B2.out⟩
  have b1:((used:Int) !=(sn:Int))=false:=by have:=HL.out;simp;omega
  by_cases e2:(on:Int)=a1
  case neg=>
   have b2:((on:Int) !=a1)=true:=by simpa using e2
   have HQ:Hid (a3y a4 a1 a3 body=([],84)):=c1n (by rw[HP.out,if_pos (.inr (.inr e2))])
   clear e0 e1 e2
   go_wp2_with fail
   go_ret2
   exact⟨by rw[HQ.out];rfl,B2.out⟩
  have b2:((on:Int) !=a1)=false:=by simpa using e2
  have HP2:Hid (a3y a4 a1 a3 body=if ((crcF out:Nat):Int)≠a3 then ([],83) else (out,0)):=c1n (by rw[HP.out,if_neg (by rintro (h|h|h);exact h e0;exact h e1;exact h e2)])
  have HCL:Hid (∀ q,Calls Tryz.prog 28 #[.slice A2 on c2] (w2.drewN q) fun e w'=>e=.returned (.int .u32 ((crcF out:Nat):Int))/\∃ m,w'=(w2.drewN q).drewN m):=c1n (fun q=>END.out (w2.drewN q) out A2 on c2 (R2.out.keeps ((Keeps.refl [] w2).drewN q) (a0a _)) HU.out (by omega) (B2.out.trans (a0c ((Keeps.refl [] w2).drewN q) B2.out.size (by simp))) (T2.out.keeps ((Keeps.refl [] w2).drewN q) (by simp)))
  have hcv:∀ q,(convert 26 9 (.slice A2 on c2)).run Tryz.prog (w2.drewN q)=.ok (.string (strOfNums out)) (w2.drewN q):=fun q=>c0d (R2.out.keeps ((Keeps.refl [] w2).drewN q) (a0a _))
  clear e0 e1 e2 HP
  generalize crcF out=S at *
  go_upto_region 7 with (fail)
  go_quiet (first|(go_at_call 28;exact Calls.quiet_of (HCL.out _)))
  have hcv:=hcv nq
  by_cases e3:(S:Int)=a3
  ·have b3:((S:Int) !=a3)=false:=by simpa using e3
   have HQ:Hid (a3y a4 a1 a3 body=(out,0)):=c1n (by rw[HP2.out,if_neg (fun h=>h e3)])
   clear e3
   go_wp2_with fail
   go_ret2
   exact⟨by rw[HQ.out];rfl,B2.out.trans (a0c ((Keeps.refl [] w2).drewN nq) B2.out.size (by simp))⟩
  ·have b3:((S:Int) !=a3)=true:=by simpa using e3
   have HQ:Hid (a3y a4 a1 a3 body=([],83)):=c1n (by rw[HP2.out,if_pos e3])
   clear e3
   go_wp2_with fail
   go_ret2
   exact⟨by rw[HQ.out];rfl,B2.out.trans (a0c ((Keeps.refl [] w2).drewN nq) B2.out.size (by simp))⟩
 ·have b8:(a4==8)=false:=by simpa using h8
  have HP2:Hid (a3y a4 a1 a3 body=if ((crcF body:Nat):Int)≠a3 then ([],83) else (body,0)):=c1n (by unfold a3y;rw[if_neg h8])
  have HCL:Hid (∀ q,Calls Tryz.prog 28 #[.slice SA sn sc] (w1.drewN q) fun e w'=>e=.returned (.int .u32 ((crcF body:Nat):Int))/\∃ m,w'=(w1.drewN q).drewN m):=c1n (fun q=>END.out (w1.drewN q) body SA sn sc (R1.out.keeps ((Keeps.refl [] w1).drewN q) (a0a _)) HBY.out (by omega) (B1.out.trans (a0c ((Keeps.refl [] w1).drewN q) B1.out.size (by simp))) (T1.out.keeps ((Keeps.refl [] w1).drewN q) (by simp)))
  have hcv:∀ q,(convert 26 9 (.slice SA sn sc)).run Tryz.prog (w1.drewN q)=.ok (.string (strOfNums body)) (w1.drewN q):=fun q=>c0d (R1.out.keeps ((Keeps.refl [] w1).drewN q) (a0a _))
  clear h8
  generalize crcF body=S at *
  go_upto_region 7 with (fail)
  go_quiet (first|(go_at_call 28;exact Calls.quiet_of (HCL.out _)))
  have hcv:=hcv nq
  by_cases e3:(S:Int)=a3
  ·have b3:((S:Int) !=a3)=false:=by simpa using e3
   have HQ:Hid (a3y a4 a1 a3 body=(body,0)):=c1n (by rw[HP2.out,if_neg (fun h=>h e3)])
   clear e3
   go_wp2_with fail
   go_ret2
   exact⟨by rw[HQ.out];rfl,B1.out.trans (a0c ((Keeps.refl [] w1).drewN nq) B1.out.size (by simp))⟩
  ·have b3:((S:Int) !=a3)=true:=by simpa using e3
   have HQ:Hid (a3y a4 a1 a3 body=([],83)):=c1n (by rw[HP2.out,if_pos e3])
   clear e3
   go_wp2_with fail
   go_ret2
   exact⟨by rw[HQ.out];rfl,B1.out.trans (a0c ((Keeps.refl [] w1).drewN nq) B1.out.size (by simp))⟩
end Go.Proofs.YtghjlpechjggjaaGreatDoor
namespace Go.Proofs.YtghjlpechjggjaaGreatDoor
open Go.RowKit
theorem a6V{xs:List Int}(hb:∀ x∈xs,0<=x/\x<=255)(p k:Nat):0<=zget xs p k:=(a9w (a6H hb p k)).1
theorem b0w{xs:List Int}{first en:Nat}:∀ {n rp at_:Nat} {acc:List ZP},(zloop xs first en n rp at_ acc).1=0->(zloop xs first en n rp at_ acc).2.length=acc.length+n
 | 0,rp,at_,acc,h=>by
  rw[zloop] at h ⊢
  split
  ·rfl
  ·rename_i hq;rw[if_neg hq] at h;cases h
 | n+1,rp,at_,acc,h=>by
  rw[zloop] at h ⊢
  split
  ·rename_i h0
   rw[if_pos h0] at h
   rw[b0w h,c1u,List.length_singleton];omega
  ·rename_i h0;rw[if_neg h0] at h;exact absurd h h0
theorem a4Z{xs:List Int}(hb:∀ x∈xs,0<=x/\x<=255)(h:(zpieces xs).1=0):xs.length<=1048576/\(zpieces xs).2.length<=64/\∀ p∈(zpieces xs).2,p.fro+p.len<=xs.length/\nameB p.x.name=true/\p.x.size<=8192/\0<=p.x.size/\p.x.packed<=16384/\0<=p.x.packed:=by
 unfold zpieces at h ⊢
 split at h;· cases h
 rename_i c1
 rw[if_neg c1]
 split at h;· cases h
 rename_i c2
 rw[if_neg c2]
 split at h;· cases h
 rename_i c3
 rw[if_neg c3]
 split at h;· cases h
 rename_i c4
 rw[if_neg c4]
 have c3':=Classical.not_not.1 c3
 have hfe:zfirst xs<=xs.length:=by
  have h1:=c3'.2.2.2.2.1
  have h2:=a6V hb (xs.length-22+12) 4
  have h3:=a6V hb (xs.length-22+16) 4
  unfold zfirst
  omega
 refine⟨by omega,by rw[b0w h];simp;omega,fun p hp=>?_⟩
 have hz:zloop xs (zfirst xs) (xs.length-22) (zmany xs) (zfirst xs) 0 []=(0,(zloop xs (zfirst xs) (xs.length-22) (zmany xs) (zfirst xs) 0 []).2):=by rw[<-h]
 rcases b3i (fun rp=>a6V hb _ _) hz p hp with h0|⟨h1,h2,h3,h4,h5,rp,at_,rfl⟩
 ·cases h0
 ·exact⟨by omega,h2,h4,a6V hb _ _,h5,a6V hb _ _⟩
theorem b0v{xs:List Int}{first en:Nat}:∀ {n rp at_:Nat} {acc:List ZP},(zloop xs first en n rp at_ acc).1≠0->(zloop xs first en n rp at_ acc).2=[]
 | 0,rp,at_,acc,h=>by
  rw[zloop] at h ⊢
  split
  ·rename_i hq;rw[if_pos hq] at h;exact absurd rfl h
  ·rfl
 | n+1,rp,at_,acc,h=>by
  rw[zloop] at h ⊢
  split
  ·rename_i h0
   rw[if_pos h0] at h
   exact b0v h
  ·rfl
theorem a6X{xs:List Int}(h:(zpieces xs).1≠0):(zpieces xs).2=[]:=by
 unfold zpieces at h ⊢
 split;· rfl
 rename_i c1
 rw[if_neg c1] at h
 split;· rfl
 rename_i c2
 rw[if_neg c2] at h
 split;· rfl
 rename_i c3
 rw[if_neg c3] at h
 split;· rfl
 rename_i c4
 rw[if_neg c4] at h
 exact b0v h
theorem b8s{w w':World}{A:Option Addr}{n c:Nat}{xs:List Int}(hz:ZB w A n c xs)(hT:Tabz w)(hk:Keeps [] w w'){p:ZP}(h:(zpieces xs).1=0)(hp:p∈(zpieces xs).2) :
  Calls Tryz.prog 48 #[.agg (pcz A c p).toArray] w' fun e w2=>e=.returned (.tuple #[.string (strOfNums (a2B xs p).1),.int .i64 (a2B xs p).2])/\Below w'.heap.size w' w2:=by
 obtain⟨q1,-,q⟩:=a4Z hz.byte h
 obtain⟨h1,h2,h3,h4,h5,h6⟩:=q p hp
 have hl:=hz.ri.len
 have hnil:A=none->n=0/\c=0:=fun ha=>by
  obtain⟨r1,r2,r3⟩:=hz.cap
  rcases Nat.eq_zero_or_pos c with r|r
  ·omega
  ·obtain⟨b,o,hbo⟩:=r3 r
   rw[ha] at hbo;cases hbo
 have hR:RI .u8 w' (cutA A p.fro c) p.len (seg xs p.fro p.len):=by
  have:=(hz.ri.mid hz.cap (l:=p.fro) (m:=p.fro+p.len) (by omega) (by omega)).keeps hk (a0a _)
  rwa [Nat.add_sub_cancel_left] at this
 rw[b1Z h1]
 have hc:=b0O hz.cap hnil (l:=p.fro) (m:=p.fro+p.len) (by omega) (by omega)
 rw[Nat.add_sub_cancel_left] at hc
 exact b1Y w' p.x.name p.x.size p.x.packed p.x.sum p.x.way (cutA A p.fro c) p.len (c-p.fro) (seg xs p.fro p.len) hR (a6H hz.byte _ _) hc (by unfold ZP.len;omega) (by omega) (hT.keeps hk (by simp))
theorem b2a{xs:List Int}{ps:List ZP}{i:Nat}(hi:i<ps.length)(acc:List EN):zdatas xs (ps.drop i) acc=if (a2B xs ps[i]).2=0 then zdatas xs (ps.drop (i+1)) (acc++[(ps[i].x.name,strOfNums (a2B xs ps[i]).1)]) else ([],(a2B xs ps[i]).2):=by
 rw[c1F hi,zdatas]
theorem b3s(e:EN):∀ v∈ecells e,v.oneCell'=true:=by
 intro v hv
 unfold ecells at hv
 simp only[c1x,c1v,or_false] at hv
 rcases hv with rfl|rfl<;>rfl
def b8p:WT 24 34 2:=⟨.agg #[.string ⟨#[]⟩,.string ⟨#[]⟩],32,by kernel_rfl,Tryz.underlying24,rfl,by decide,by decide⟩
def icells(x:ZI):List Value:=[.string x.name,.int .i64 x.size,.int .i64 x.packed,.int .u32 x.sum,.int .i64 x.way]
theorem a3s(x:ZI):(icells x).length=5:=rfl
theorem b3w(x:ZI):∀ v∈icells x,v.oneCell'=true:=by
 intro v hv
 unfold icells at hv
 simp only[c1x,c1v,or_false] at hv
 rcases hv with rfl|rfl|rfl|rfl|rfl<;>rfl
def b9Z:WT 41 51 5:=⟨.agg #[.string ⟨#[]⟩,.int .i64 0,.int .i64 0,.int .u32 0,.int .i64 0],48,by kernel_rfl,Tryz.underlying41,rfl,by decide,by decide⟩
end Go.Proofs.YtghjlpechjggjaaGreatDoor
namespace Go.Proofs.YtghjlpechjggjaaGreatDoor
open Go.RowKit
theorem b2g(w:World)(A:Option Addr)(n c:Nat)(xs:List Int)(hz:ZB w A n c xs)(hT:Tabz w) :
  Calls Tryz.prog 18 #[.slice A n c] w fun e w'=>∃ v,e=.returned (.tuple #[v,.int .i64 (a2k xs).2])/\((a2k xs).2≠0->v=.slice none 0 0)/\w'.ownsRow w.heap.size 34 2 v (a2k xs).1.length ((a2k xs).1.flatMap ecells)/\Below w.heap.size w w':=by
 have HZ:=c1n hz
 have HT:=c1n hT
 clear hz hT
 go_enter Tryz.func18,Tryz.ntmps18
 go_wp2_with fail
 refine (a5g w A n c xs HZ.out).mono ?_
 rintro _ w2 ⟨v2,rfl,hv0,hv1,hb2⟩
 have HB2:=c1n hb2
 by_cases e0:(zpieces xs).1=0
 case neg=>
  have HR:Hid (a2k xs=([],(zpieces xs).1)):=c1n (by unfold a2k;rw[if_neg e0])
  have b0:((zpieces xs).1 !=0)=true:=by simpa using e0
  obtain rfl:=hv0 e0
  clear hv0 hv1 hb2 e0
  generalize (zpieces xs).1=E at *
  go_wp2_with fail
  go_ret2
  exact⟨.slice none 0 0,by rw[HR.out];rfl,fun _=>rfl,by rw[HR.out];exact c1w _ _ _ _,HB2.out⟩
 have b0:((zpieces xs).1 !=0)=false:=by simpa using e0
 obtain⟨AP,cP,rfl,hrw,hcap,hblk⟩:=b2H (by decide) (a6y A c) (hv1 e0)
 have HE0:=c1n e0
 have HR:Hid (a2k xs=zdatas xs (zpieces xs).2 []):=c1n (by unfold a2k;rw[if_pos e0])
 have hpi:=a4Z HZ.out.byte e0
 have hm64:=hpi.2.1
 have HD:Hid (∀ p∈(zpieces xs).2,∀ w',Keeps [] w w'->Calls Tryz.prog 48 #[.agg (pcz A c p).toArray] w' fun e w2=>e=.returned (.tuple #[.string (strOfNums (a2B xs p).1),.int .i64 (a2B xs p).2])/\Below w'.heap.size w' w2):=c1n (fun p hp w' hk=>b8s HZ.out HT.out hk HE0.out hp)
 have HRW:=c1n hrw
 have HEZ:Hid ((zpieces xs).1=0):=HE0
 clear hv0 hv1 hb2 e0 hrw hcap hblk HE0 hpi
 rw[HEZ.out] at b0 ⊢
 clear HEZ b0
 generalize (zpieces xs).2=ps at *
 obtain⟨m,hm⟩:∃ z,z=ps.length:=⟨_,rfl⟩
 have HM:=c1n hm
 rw[<-hm] at HRW hm64 ⊢
 clear hm
 go_upto_region 6 with (fail)
 go_loopw [6,21] (fun ov iv wr=>∃ (i:Nat) (acc:List EN) (AO:Option Addr) (cO:Nat),i<=m/\iv=.int .i64 i/\ov=.slice AO i cO/\Hid (a2k xs=zdatas xs (ps.drop i) acc)/\Hid (acc.length=i)/\Hid (wr.ownsRow w2.heap.size 34 2 (.slice AO i cO) i (acc.flatMap ecells))/\Hid (Below w2.heap.size w2 wr)) (fun _ iv _=>m-(intOf iv).toNat)
 case atStart=>exact⟨0,[],none,0,by omega,rfl,rfl,HR,c1n rfl,c1n (c1w _ _ _ _),c1n (c1Q _ _)⟩
 case round=>
  obtain⟨i,acc,AO,cO,hi,rfl,rfl,HRI,HAL,HO,HB⟩:=hrel
  by_cases hlt:i<m
  ·have e1:decide (i<m)=true:=c1p hlt
   obtain⟨tb,to',rfl⟩:=HRW.out.hd (by omega)
   have hpl:i<ps.length:=by rw[<-HM.out];exact hlt
   have hrw:=(HRW.out.keeps (a6y A c) (Keeps.of_below HB.out (S:=[])) (a0a _)).cell tb to' rfl i hpl
   have p0:=hrw 0 (by omega)
   have p1:=hrw 1 (by omega)
   have p2:=hrw 2 (by omega)
   have p3:=hrw 3 (by omega)
   have p4:=hrw 4 (by omega)
   have p5:=hrw 5 (by omega)
   have HRS:Hid _:=c1n (HRI.out.trans (b2a hpl acc))
   have HDP:=c1n (HD.out ps[i] (c1z _))
   clear hrw HRI HRW
   generalize ps[i]=p at *
   simp only[pcz,c1q,c1s,c1H] at p0 p1 p2 p3 p4 p5
   obtain⟨Xb,hXb⟩:∃ z,z=wr.heap.size:=⟨_,rfl⟩
   obtain⟨w3,hw3⟩:∃ z,z=wr.alloc (.cells (pcz A c p).toArray 77):=⟨_,rfl⟩
   have k3:Keeps [] wr w3:=by rw[hw3];exact (Keeps.refl [] wr).alloc _
   have hX3:Hid (Blk w3 Xb 77 (pcz A c p)):=c1n (by rw[hw3,hXb];exact a0d wr _ _)
   have HCL:Hid (Calls Tryz.prog 48 #[.agg (pcz A c p).toArray] w3 fun e w2=>e=.returned (.tuple #[.string (strOfNums (a2B xs p).1),.int .i64 (a2B xs p).2])/\Below w3.heap.size w3 w2):=c1n (HDP.out w3 (((Keeps.of_below HB2.out (S:=[])).trans (Keeps.of_below HB.out)).trans k3))
   have HB3:=c1n (HB.out.trans (a0c k3 HB.out.size (by simp)))
   have HO3:=c1n (a0b HO.out k3 (by simp))
   clear k3 HDP
   simp only[pcz] at hw3 HCL hX3
   go_upto_region 8 with (fail)
   rw[<-hw3,<-hXb]
   clear hw3 hXb p0 p1 p2 p3 p4 p5
   have x0:=hX3.out.cell 0
   have x1:=hX3.out.cell 1
   have x2:=hX3.out.cell 2
   have x3:=hX3.out.cell 3
   have x4:=hX3.out.cell 4
   have x5:=hX3.out.cell 5
   simp only[c1q,c1s] at x0 x1 x2 x3 x4 x5
   go_wp2_with fail
   refine HCL.out.mono ?_
   rintro _ w4 ⟨rfl,hb4⟩
   have k4:=Keeps.of_below hb4 (S:=[])
   have HB4:=c1n (HB3.out.trans (a0c k4 HB3.out.size (by simp)))
   have HO4:=c1n (a0b HO3.out k4 (by simp))
   have X4:=hX3.out.keeps k4 (by simp)
   have x0:=X4.cell 0
   simp only[c1q,c1s] at x0
   clear x1 x2 x3 x4 x5 X4 k4 hb4 HCL hX3 HB3 HO3 HB HO
   generalize a2B xs p=r at *
   obtain⟨out,er⟩:=r
   dsimp only at HRS ⊢
   by_cases e4:er=0
   ·have b4:(er !=0)=false:=by simpa using e4
    subst e4
    have HRT:Hid (a2k xs=zdatas xs (ps.drop (i+1)) (acc++[(p.x.name,strOfNums out)])):=c1n (by rw[HRS.out,if_pos rfl])
    clear HRS b4
    generalize strOfNums out=so at *
    go_wp2_with (at_builtin;refine app_rw b8p a0j b3s rfl (.tmp 33) (.tmp 39) rfl w2.heap.size _ i acc rfl (a0b HO4.out ((Keeps.refl [] w4).alloc _) (by simp)) w4.heap.size (p.x.name,so) rfl (fun j hj=>(a0d w4 34 [.string p.x.name,.string so]).cell j) (by omega) (by have:=HB4.out.size;simp;omega) ?_;intro v5 w5 ho5 hg5;obtain⟨A5,c5,rfl⟩:=a0g ho5;have HO5:=c1n ho5;have HB5:=c1n ((HB4.out.alloc HB4.out.size (.cells #[.string p.x.name,.string so] 34)).grown hg5 (by have:=HB4.out.size;simp;omega) (fun k hk=>a0m HO4.out k hk));clear ho5 hg5)
    go_roundw
    case rel=>exact⟨i+1,acc++[(p.x.name,so)],A5,c5,by omega,by go_num,rfl,HRT,c1n (by rw[c1u,HAL.out];rfl),HO5,HB5⟩
    case measure=>simp[intOf];omega
   ·have b4:(er !=0)=true:=by simpa using e4
    have HRT:Hid (a2k xs=([],er)):=c1n (by rw[HRS.out,if_neg e4])
    clear HRS e4
    go_wp2_with fail
    go_ret2
    exact⟨.slice none 0 0,by rw[HRT.out];rfl,fun _=>rfl,by rw[HRT.out];exact c1w _ _ _ _,HB2.out.trans (a0c (Keeps.of_below HB4.out (S:=[])) HB2.out.size (by simp))⟩
  ·have e1:decide (i<m)=false:=c1o hlt
   have him:i=m:=by omega
   have HRT:Hid (a2k xs=(acc,0)):=c1n (by rw[HRI.out,him,HM.out,List.drop_length,zdatas])
   clear HRI him
   go_wp2_with fail
   go_ret2
   refine⟨.slice AO i cO,by rw[HRT.out];rfl,fun h=>absurd (by rw[HRT.out]) h,?_,HB2.out.trans (a0c (Keeps.of_below HB.out (S:=[])) HB2.out.size (by simp))⟩
   rw[HRT.out]
   show wr.ownsRow _ _ _ _ acc.length _
   rw[HAL.out]
   exact a6s HO.out HB2.out.size
end Go.Proofs.YtghjlpechjggjaaGreatDoor
namespace Go.Proofs.YtghjlpechjggjaaGreatDoor
open Go.RowKit
theorem b2c(w:World)(A:Option Addr)(n c:Nat)(xs:List Int)(hz:ZB w A n c xs) :
  Calls Tryz.prog 20 #[.slice A n c] w fun e w'=>∃ v,e=.returned (.tuple #[v,.int .i64 (zpieces xs).1])/\w'.ownsRow w.heap.size 51 5 v (zpieces xs).2.length (((zpieces xs).2.map ZP.x).flatMap icells)/\Below w.heap.size w w':=by
 have HZ:=c1n hz
 clear hz
 go_enter Tryz.func20,Tryz.ntmps20
 go_wp2_with fail
 refine (a5g w A n c xs HZ.out).mono ?_
 rintro _ w2 ⟨v2,rfl,hv0,hv1,hb2⟩
 have HB2:=c1n hb2
 have hown:w2.ownsRow w.heap.size 77 6 v2 (zpieces xs).2.length ((zpieces xs).2.flatMap (pcz A c)):=by
  by_cases e0:(zpieces xs).1=0
  ·exact hv1 e0
  ·rw[hv0 e0,a6X e0];exact c1w _ _ _ _
 have hm64:(zpieces xs).2.length<=64:=by
  by_cases e0:(zpieces xs).1=0
  ·exact (a4Z HZ.out.byte e0).2.1
  ·rw[a6X e0];simp
 obtain⟨AP,cP,rfl,hrw,hcap,hblk⟩:=b2H (by decide) (a6y A c) hown
 have HRW:=c1n hrw
 clear hv0 hv1 hb2 hrw hcap hblk hown
 obtain⟨ps,hps⟩:∃ z,z=(zpieces xs).2:=⟨_,rfl⟩
 obtain⟨E,hE⟩:∃ z,z=(zpieces xs).1:=⟨_,rfl⟩
 rw[<-hps] at HRW hm64
 rw[<-hE]
 have HPS:=c1n hps
 have HE:=c1n hE
 clear hps hE
 obtain⟨m,hm⟩:∃ z,z=ps.length:=⟨_,rfl⟩
 have HM:=c1n hm
 have HRW:Hid (RW 6 (pcz A c) w2 AP m ps):=by rw[hm];exact HRW
 rw[<-hm] at hm64
 have hm':(zpieces xs).2.length=m:=by rw[hm,HPS.out]
 rw[hm']
 clear hm
 go_upto_region 4 with (fail)
 go_loopw [6,16] (fun ov iv wr=>∃ (i:Nat) (AO:Option Addr) (cO:Nat),i<=m/\iv=.int .i64 i/\ov=.slice AO i cO/\Hid (wr.ownsRow w2.heap.size 51 5 (.slice AO i cO) i (((ps.take i).map ZP.x).flatMap icells))/\Hid (Below w2.heap.size w2 wr)) (fun _ iv _=>m-(intOf iv).toNat)
 case atStart=>exact⟨0,none,0,by omega,rfl,rfl,c1n (c1w _ _ _ _),c1n (c1Q _ _)⟩
 case round=>
  obtain⟨i,AO,cO,hi,rfl,rfl,HO,HB⟩:=hrel
  by_cases hlt:i<m
  ·have e1:decide (i<m)=true:=c1p hlt
   obtain⟨tb,to',rfl⟩:=HRW.out.hd (by omega)
   have hpl:i<ps.length:=by rw[<-HM.out];exact hlt
   have hrw:=(HRW.out.keeps (a6y A c) (Keeps.of_below HB.out (S:=[])) (a0a _)).cell tb to' rfl i hpl
   have p0:=hrw 0 (by omega)
   have p1:=hrw 1 (by omega)
   have p2:=hrw 2 (by omega)
   have p3:=hrw 3 (by omega)
   have p4:=hrw 4 (by omega)
   have p5:=hrw 5 (by omega)
   have HTK:Hid ((ps.take (i+1)).map ZP.x=(ps.take i).map ZP.x++[ps[i].x]):=c1n (by rw[c1r hpl,c1C];rfl)
   clear hrw HRW
   generalize ps[i]=p at *
   simp only[pcz,c1q,c1s,c1H] at p0 p1 p2 p3 p4 p5
   obtain⟨Xb,hXb⟩:∃ z,z=wr.heap.size:=⟨_,rfl⟩
   obtain⟨w3,hw3⟩:∃ z,z=wr.alloc (.cells (pcz A c p).toArray 77):=⟨_,rfl⟩
   have k3:Keeps [] wr w3:=by rw[hw3];exact (Keeps.refl [] wr).alloc _
   have hX3:Hid (Blk w3 Xb 77 (pcz A c p)):=c1n (by rw[hw3,hXb];exact a0d wr _ _)
   have HB3:=c1n (HB.out.trans (a0c k3 HB.out.size (by simp)))
   have HO3:=c1n (a0b HO.out k3 (by simp))
   clear k3
   simp only[pcz] at hw3 hX3
   go_upto_region 6 with (fail)
   rw[<-hw3,<-hXb]
   clear hw3 hXb p0 p1 p2 p3 p4 p5
   have x0:=hX3.out.cell 0
   have x1:=hX3.out.cell 1
   have x2:=hX3.out.cell 2
   have x3:=hX3.out.cell 3
   have x4:=hX3.out.cell 4
   simp only[c1q,c1s] at x0 x1 x2 x3 x4
   clear HB HO hX3
   go_wp2_with (at_builtin;go_loud (refine app_rw b9Z a3s b3w rfl (.tmp 20) (.tmp 23) rfl w2.heap.size _ i ((ps.take i).map ZP.x) rfl (a0b HO3.out ((Keeps.refl [] w3).alloc _) (by simp)) w3.heap.size p.x rfl (fun j hj=>(a0d w3 51 [.string p.x.name,.int .i64 p.x.size,.int .i64 p.x.packed,.int .u32 p.x.sum,.int .i64 p.x.way]).cell j) (by omega) (by have:=HB3.out.size;simp;omega) ?_;intro v5 w5 ho5 hg5;obtain⟨A5,c5,rfl⟩:=a0g ho5;have HO5:=c1n ho5;have HB5:=c1n ((HB3.out.alloc HB3.out.size (.cells #[.string p.x.name,.int .i64 p.x.size,.int .i64 p.x.packed,.int .u32 p.x.sum,.int .i64 p.x.way] 51)).grown hg5 (by have:=HB3.out.size;simp;omega) (fun k hk=>a0m HO3.out k hk));clear ho5 hg5))
   go_roundw
   case rel=>exact⟨i+1,A5,c5,by omega,by go_num,rfl,by rw[HTK.out];exact HO5,HB5⟩
   case measure=>simp[intOf];omega
  ·have e1:decide (i<m)=false:=c1o hlt
   have him:i=m:=by omega
   have HT:Hid ((ps.take i).map ZP.x=ps.map ZP.x):=c1n (by rw[him,HM.out,List.take_length])
   have HI:=c1n him
   clear him
   go_wp2_with fail
   go_ret2
   refine⟨.slice AO i cO,by rw[<-HE.out];rfl,?_,HB2.out.trans (a0c (Keeps.of_below HB.out (S:=[])) HB2.out.size (by simp))⟩
   rw[<-HPS.out,<-HT.out,<-HM.out,<-HI.out]
   exact a6s HO.out HB2.out.size
end Go.Proofs.YtghjlpechjggjaaGreatDoor
namespace Go.Proofs.YtghjlpechjggjaaGreatDoor
open Go.RowKit
end Go.Proofs.YtghjlpechjggjaaGreatDoor
namespace Go.Proofs.YtghjlpechjggjaaGreatDoor
open Go.RowKit
theorem b8V{xs bl:List Int}(h:WB xs bl)(hb:0<bl.length):0<xs.length:=by rw[h.len];omega
theorem Defl.pos{data xs:List Int}(h:Defl data xs):0<xs.length:=by
 obtain⟨f,d,hf,hd,rfl⟩:=h.out
 have h1:0<f.length:=b8V hf (by unfold fixB;rw[c1u,List.length_cons];omega)
 have h2:0<d.length:=b8V hd (by unfold dynB;rw[c1u,List.length_cons];omega)
 have h3:0<(storB 1 data).length:=by rw[a2h];omega
 have sel:∀ a b:List Int,0<a.length->0<b.length->0<(lessL a b).length:=fun a b ha hb=>by unfold lessL;split<;>assumption
 exact sel _ _ (sel _ _ h3 h1) h2
structure FF (l:List EN) (xs:List Int) (es:List ZE):Prop where
 out:es.map ZE.out=l
 ok:∀ e∈es,e.Ok
 nd:(es.map ZE.name).Nodup
 many:es.length<=64
 xs:xs=zfileB (es.map ZE.g)
theorem c1b{l:List EN}{xs:List Int}(hc:a0s l=0)(h:FileOf l xs):∃ es,FF l xs es:=by
 obtain⟨es,a1,a2,rfl⟩:=h.out
 obtain⟨b1,b2,b3⟩:=b8X hc a1 a2
 exact⟨es,a1,b1,b2,b3,rfl⟩
section
variable {l:List EN} {xs:List Int} {es:List ZE}
theorem FF.zok(h:FF l xs es):ZOk (es.map ZE.g):=b8Y h.ok h.nd h.many
theorem FF.u8(h:FF l xs es):∀ x∈xs,0<=x/\x<=255:=by
 rw[h.xs]
 exact b8t (fun g hg x hx=>by obtain⟨e,he,rfl⟩:=c1P.1 hg;exact (h.ok e he).body_u8 x hx)
theorem FF.len(h:FF l xs es):22<=xs.length/\xs.length<=600000:=by
 have h1:=a2O h.zok
 have h2:=a1q (es.map ZE.g)
 rw[h.xs];omega
theorem FF.pcs(h:FF l xs es):zpieces xs=(0,zpcs 0 (es.map ZE.g)):=by rw[h.xs];exact a2r h.zok
theorem FF.read(h:FF l xs es):a2k xs=(l,0):=by
 rw[h.xs,a7Q h.zok,b6G es [] h.ok,List.nil_append,h.out]
theorem FF.at(h:FF l xs es){i:Nat}(hi:i<l.length):∃ hi':i<es.length,es[i].name=l[i].1/\es[i].dat=l[i].2:=by
 have hl:l.length=es.length:=by rw[<-h.out,c1t]
 refine⟨by omega,?_⟩
 have:=h.out
 subst this
 simp[ZE.out]
theorem FF.find_at(h:FF l xs es){i:Nat}(hi:i<l.length):b4t xs l[i].1=(sb l[i].2,0):=by
 obtain⟨hi',h1,h2⟩:=h.at hi
 rw[h.xs,a4Y h.zok,<-h1,b3h es es[i] h.ok h.nd (c1z _),h2]
theorem FF.find_none(h:FF l xs es){name:ByteArray}(hn:∀ e∈l,e.1≠name):b4t xs name=([],85):=by
 rw[h.xs,a4Y h.zok,a7M es name (fun e he=>by
  have:e.out∈l:=by rw[<-h.out];exact c1P.2 ⟨e,he,rfl⟩
  exact hn _ this)]
theorem FF.find_some(h:FF l xs es){e:EN}(he:e∈l):b4t xs e.1=(sb e.2,0):=by
 obtain⟨i,hi,rfl⟩:=List.getElem_of_mem he
 exact h.find_at hi
theorem b8Z:∀ (gs:List ZG) (a:Nat),(zpcs a gs).map ZP.x=gs.map ZG.x
 | [],_=>rfl
 | e::gs,a=>by rw[zpcs,List.map_cons,List.map_cons,b8Z gs]
theorem FF.infos(h:FF l xs es):(zpieces xs).2.map ZP.x=es.map fun e=>e.g.x:=by
 rw[h.pcs]
 show (zpcs 0 (es.map ZE.g)).map ZP.x=_
 rw[b8Z,List.map_map];rfl
theorem FF.info_len(h:FF l xs es):((zpieces xs).2.map ZP.x).length=l.length:=by
 rw[h.infos,<-h.out,c1t,c1t]
theorem ZE.tells(e:ZE)(h:e.Ok):e.g.x.name=e.name/\e.g.x.size=e.dat.size/\e.g.x.sum=(crcF (sb e.dat):Nat)/\e.g.x.packed<=e.g.x.size/\0<=e.g.x.packed/\(e.g.x.way=8/\e.g.x.packed<e.g.x.size∨e.g.x.way=0/\e.g.x.packed=e.g.x.size):=by
 have hb:=e.body_le
 refine⟨rfl,rfl,rfl,?_,?_,?_⟩
 ·show (e.body.length:Int)<=(e.dat.size:Int);omega
 ·show 0<=(e.body.length:Int);omega
 ·rcases e.way08 with hw|hw
  ·refine .inr ⟨hw,?_⟩
   show (e.body.length:Int)=(e.dat.size:Int)
   rw[hb.2.1 hw,a1o]
  ·refine .inl ⟨hw,?_⟩
   show (e.body.length:Int)<(e.dat.size:Int)
   rw[(hb.2.2 hw).1]
   have:=(hb.2.2 hw).2
   omega
theorem FF.cut(h:FF l xs es){m:Nat}(hm:m<xs.length):(a2k (xs.take m)).2≠0/\(a2k (xs.take m)).1=[]:=by
 have hu:=h.u8
 have hz:(zpieces (xs.take m)).1≠0:=by
  have hx:=h.xs
  subst hx
  exact zcut h.zok hm (fun p n=>(a9w (a6H (fun x hx=>hu x (List.mem_of_mem_take hx)) p n)).1)
 unfold a2k
 rw[if_neg hz]
 exact⟨hz,rfl⟩
theorem FF.ahead(h:FF l xs es)(v:Int):a2k (v::xs)=([],81):=by
 have hz:(zpieces (v::xs)).1=81:=by rw[h.xs];exact c0U h.zok v
 unfold a2k
 rw[hz];rfl
def a1O(es:List ZE)(i:Nat):Nat:=(zPs ((es.map ZE.g).take i)).length
theorem b9J(es:List ZE):a1O es 0=0:=rfl
theorem b9I(es:List ZE){i:Nat}(hi:i<es.length):a1O es (i+1)=a1O es i+(30+es[i].name.size+es[i].body.length):=by
 unfold a1O
 rw[c1r (by rw[c1t];exact hi),a4X,c1u,b1W,c1L,ZG.piece_len]
 rfl
theorem c0H(es:List ZE)(hok:∀ e∈es,e.Ok)(hm:es.length<=64)(i:Nat):a1O es i<=600000:=by
 have h1:=(a6A (l:=(es.map ZE.g).take i) (fun g hg=>by obtain⟨e,he,rfl⟩:=c1P.1 (List.mem_of_mem_take hg);exact (hok e he).g)).1
 have h2:((es.map ZE.g).take i).length<=64:=by rw[List.length_take,c1t];omega
 unfold a1O
 have:((es.map ZE.g).take i).length*8286<=64*8286:=Nat.mul_le_mul_right _ h2
 omega
theorem FF.turn(h:FF l xs es){i k:Nat}{v:Int}(hi:i<es.length)(hk:k<es[i].body.length)(h0:es[i].way=0)(hv:0<=v/\v<=255)(hne:v≠nth xs (a1O es i+30+es[i].name.size+k)) :
  a1O es i+30+es[i].name.size+k<xs.length/\zpieces (xs.set (a1O es i+30+es[i].name.size+k) v)=zpieces xs/\a2k (xs.set (a1O es i+30+es[i].name.size+k) v)=([],83)/\b4t (xs.set (a1O es i+30+es[i].name.size+k) v) es[i].name=([],83):=by
 have hi':i<(es.map ZE.g).length:=by rw[c1t];exact hi
 have hg:(es.map ZE.g)[i]=es[i].g:=c1L ..
 have hft:=b4s (es.map ZE.g) i k v hi' (by rw[hg];exact hk)
 have hzt:=b8u h.zok i k v hi'
 have hpt:=b0y (es.map ZE.g) 0 i k v hi'
 rw[hg] at hft hzt hpt
 have hlt:a1O es i+30+es[i].name.size+k<xs.length:=by
  have h1:=a1q (es.map ZE.g)
  have h2:zPs (es.map ZE.g)=zPs ((es.map ZE.g).take i)++(es[i].g.piece++zPs ((es.map ZE.g).drop (i+1))):=by
   conv=>lhs;rw[<-c1K i (es.map ZE.g),a4X,c1F hi',a0K,hg]
  have h3:=es[i].g.piece_len
  have h4:=congrArg List.length h2
  rw[c1u,c1u,h3] at h4
  rw[h.xs]
  have h5:es[i].g.body.length=es[i].body.length:=rfl
  have h6:es[i].g.x.name.size=es[i].name.size:=rfl
  unfold a1O
  omega
 have hnb:nth es[i].body k=nth xs (a1O es i+30+es[i].name.size+k):=by
  have h2:zPs (es.map ZE.g)=zPs ((es.map ZE.g).take i)++(es[i].g.piece++zPs ((es.map ZE.g).drop (i+1))):=by
   conv=>lhs;rw[<-c1K i (es.map ZE.g),a4X,c1F hi',a0K,hg]
  have h7:xs=zPs ((es.map ZE.g).take i)++(es[i].g.piece++(zPs ((es.map ZE.g).drop (i+1))++(zRs 0 (es.map ZE.g)++zendB (es.map ZE.g).length (zRs 0 (es.map ZE.g)).length (zPs (es.map ZE.g)).length))):=by
   conv=>lhs;rw[h.xs]
   unfold zfileB
   generalize hz:zendB (es.map ZE.g).length (zRs 0 (es.map ZE.g)).length (zPs (es.map ZE.g)).length=Z
   rw[h2]
   simp only[c1E]
  have h8:=(es[i].g.head_at (h.ok _ (c1z _)).g (zPs ((es.map ZE.g).take i)) (zPs ((es.map ZE.g).drop (i+1))++(zRs 0 (es.map ZE.g)++zendB (es.map ZE.g).length (zRs 0 (es.map ZE.g)).length (zPs (es.map ZE.g)).length))).2
  rw[<-h7] at h8
  have h9:es[i].g.body=es[i].body:=rfl
  have h10:es[i].g.x.name.size=es[i].name.size:=rfl
  rw[h9,h10] at h8
  rw[<-h8]
  unfold seg
  show nth ((xs.take (a1O es i+30+es[i].name.size+es[i].body.length)).drop (a1O es i+30+es[i].name.size)) k=_
  rw[nth,List.getD_eq_getElem?_getD,List.getElem?_drop,List.getElem?_take_of_lt (by omega)]
  rfl
 have htb:=ZE.turn_bad (h.ok _ (c1z _)) h0 hk hv (by rw[hnb];exact hne)
 have hft':xs.set (a1O es i+30+es[i].name.size+k) v=zfileB ((es.map ZE.g).set i (es[i].g.turn k v)):=by
  rw[<-hft]
  conv=>lhs;rw[h.xs]
  rfl
 refine⟨hlt,?_,?_,?_⟩
 ·rw[hft',a2r hzt,hpt,h.pcs]
 ·rw[hft',a7Q hzt]
  exact b0x es i k v [] hi h.ok htb
 ·rw[hft',a4Y hzt]
  exact a7N es i k v hi h.nd htb
end
end Go.Proofs.YtghjlpechjggjaaGreatDoor
namespace Go.Proofs.YtghjlpechjggjaaGreatDoor
open Go.RowKit
theorem a5H{a1 a2:ByteArray}:a1.toList=a2.toList↔a1=a2:=by
 constructor
 ·intro e
  rw[c1M,c1M] at e
  cases a1;cases a2
  simpa using e
 ·rintro rfl;rfl
theorem a9k(w:World)(a1 a2 b1 b2:ByteArray):(binOp .neq 34 (.agg #[.string a1,.string b1]) (.agg #[.string a2,.string b2])).run Tryz.prog w=.ok (.bool (!decide (((a1,b1):EN)=(a2,b2)))) w:=by
 have u9:=Tryz.underlying9
 have hS:Tryz.prog.underlying 34=some (.struct (Tryz.prog.fieldsOf 34)):=by kernel_rfl
 have hp:Tryz.prog.stoodInHeld 34=false:=by kernel_rfl
 rw[run_neq_struct,show (10000:Nat)=9999+1 from rfl,run_equalIn_agg w 9999 34 _ _ hS hp]
 simp only[Program.fieldsOf,Tryz.underlying34]
 go_simp
 by_cases h1:a1=a2<;>by_cases h2:b1=b2<;>simp[h1,h2,a5H]
theorem b0Q(x y:Operand)(w:World)(a1 a2 b1 b2:ByteArray):(eqGuard .neq 34 x y (.agg #[.string a1,.string b1]) (.agg #[.string a2,.string b2])).run Tryz.prog w=.ok () w:=
 run_eqGuard_agg _ _ _ _ _ _ _ (by kernel_rfl)
theorem b2x(w:World)(a1 a2:ByteArray)(b1 b2 c1 c2 d1 d2 e1 e2:Int):(binOp .neq 51 (.agg #[.string a1,.int .i64 b1,.int .i64 c1,.int .u32 d1,.int .i64 e1]) (.agg #[.string a2,.int .i64 b2,.int .i64 c2,.int .u32 d2,.int .i64 e2])).run Tryz.prog w=.ok (.bool (!decide ((⟨a1,b1,c1,d1,e1⟩:ZI)=⟨a2,b2,c2,d2,e2⟩))) w:=by
 have u3:=Tryz.underlying3
 have u9:=Tryz.underlying9
 have u32:=Tryz.underlying49
 have hS:Tryz.prog.underlying 51=some (.struct (Tryz.prog.fieldsOf 51)):=by kernel_rfl
 have hp:Tryz.prog.stoodInHeld 51=false:=by kernel_rfl
 rw[run_neq_struct,show (10000:Nat)=9999+1 from rfl,run_equalIn_agg w 9999 51 _ _ hS hp]
 simp only[Program.fieldsOf,Tryz.underlying51]
 go_simp
 by_cases h1:a1=a2<;>by_cases h2:b1=b2<;>by_cases h3:c1=c2<;>by_cases h4:d1=d2<;>by_cases h5:e1=e2<;>simp[h1,h2,h3,h4,h5,a5H]
theorem b0W(x y:Operand)(w:World)(a1 a2:ByteArray)(b1 b2 c1 c2 d1 d2 e1 e2:Int):(eqGuard .neq 51 x y (.agg #[.string a1,.int .i64 b1,.int .i64 c1,.int .u32 d1,.int .i64 e1]) (.agg #[.string a2,.int .i64 b2,.int .i64 c2,.int .u32 d2,.int .i64 e2])).run Tryz.prog w=.ok () w:=
 run_eqGuard_agg _ _ _ _ _ _ _ (by kernel_rfl)
theorem a7F{α:Type}{l1 l2:List α}{n:Nat}(h1:l1.length=n)(h2:l2.length=n)(h:l1.take n=l2.take n):l1=l2:=by
 rwa [c1y (by omega),c1y (by omega)] at h
theorem b1I(w:World)(A B:Option Addr)(n c m d:Nat)(l1 l2:List EN)(h1:RW 2 ecells w A n l1)(h2:RW 2 ecells w B m l2)(hn:n<=1000000000)(hm:m<=1000000000) :
  Calls Tryz.prog 27 #[.slice A n c,.slice B m d] w fun e w'=>e=.returned (.bool (decide (l1=l2)))/\Dr w w':=by
 have H1:=c1n h1
 have H2:=c1n h2
 have L1:=c1n h1.len
 have L2:=c1n h2.len
 clear h1 h2
 by_cases hnm:n=m
 case neg=>
  have hx:decide (l1=l2)=false:=c1o (fun e=>hnm (by rw[<-L1.out,<-L2.out,e]))
  have HX:=c1n hx
  have e0:((n:Int) !=(m:Int))=true:=by simp;omega
  clear hnm hx
  go_enter Tryz.func27,Tryz.ntmps27
  go_wp2_with fail
  go_ret
  exact⟨by rw[HX.out];rfl,Dr.refl _⟩
 obtain rfl:=hnm
 have e0:((n:Int) !=(n:Int))=false:=by simp
 go_enter Tryz.func27,Tryz.ntmps27
 go_wp2_with fail
 go_loopw [5] (fun iv wr=>∃ i:Nat,i<=n/\iv=.int .i64 i/\Hid (Dr w wr)/\Hid (l1.take i=l2.take i)) (fun iv _=>n-(intOf iv).toNat)
 case atStart=>exact⟨0,by omega,rfl,c1n (Dr.refl _),c1n rfl⟩
 case round=>
  obtain⟨i,hi,rfl,HW,HE⟩:=hrel
  by_cases hlt:i<n
  ·have e1:decide (i<n)=true:=c1p hlt
   have e1':decide ((i:Int)<(n:Int))=true:=c1p (by omega)
   obtain⟨b1,o1,rfl⟩:=H1.out.hd (by omega)
   obtain⟨b2,o2,rfl⟩:=H2.out.hd (by omega)
   have hk:=HW.out.keeps (S:=[])
   have i1:i<l1.length:=by rw[L1.out];exact hlt
   have i2:i<l2.length:=by rw[L2.out];exact hlt
   have c1:=(H1.out.keeps a0j hk (a0a _)).cell b1 o1 rfl i i1
   have c2:=(H2.out.keeps a0j hk (a0a _)).cell b2 o2 rfl i i2
   have p10:=c1 0 (by omega)
   have p11:=c1 1 (by omega)
   have p20:=c2 0 (by omega)
   have p21:=c2 1 (by omega)
   have HTK:Hid (l1[i]=l2[i]->l1.take (i+1)=l2.take (i+1)):=c1n (fun e=>by rw[c1r i1,c1r i2,HE.out,e])
   have HNE:Hid (l1[i]≠l2[i]->decide (l1=l2)=false):=c1n (fun h=>c1o (fun e=>h (by subst e;rfl)))
   clear c1 c2 hk H1 H2 L1 L2 HE
   generalize l1[i]=x1 at *
   generalize l2[i]=x2 at *
   obtain⟨a1,b1'⟩:=x1
   obtain⟨a2,b2'⟩:=x2
   simp only[ecells,c1q,c1s,c1H] at p10 p11 p20 p21
   have hgd:=fun x y w=>b0Q x y w a1 a2 b1' b2'
   by_cases hxx:((a1,b1'):EN)=(a2,b2')
   ·have HT2:=c1n (HTK.out hxx)
    have hrn:=fun w=>a9k w a1 a2 b1' b2'
    simp only[c1p hxx,Bool.not_true] at hrn
    clear HTK HNE hxx
    go_wp2_with fail
    go_quiet (fail)
    go_wp2_with fail
    go_roundw
    case rel=>exact⟨i+1,by omega,by go_num,c1n (HW.out.step _),HT2⟩
    case measure=>simp[intOf];omega
   ·have HN2:=c1n (HNE.out hxx)
    have hrn:=fun w=>a9k w a1 a2 b1' b2'
    simp only[c1o hxx,Bool.not_false] at hrn
    clear HTK HNE hxx
    go_wp2_with fail
    go_quiet (fail)
    go_wp2_with fail
    go_ret
    exact⟨by rw[HN2.out];rfl,HW.out.step _⟩
  ·have e1:decide (i<n)=false:=c1o hlt
   have e1':decide ((i:Int)<(n:Int))=false:=c1o (by omega)
   have HX:Hid (decide (l1=l2)=true):=c1n (c1p (a7F L1.out L2.out (by have:=HE.out;rwa [show i=n by omega] at this)))
   clear HE
   go_wp2_with fail
   go_ret
   exact⟨by rw[HX.out];rfl,HW.out⟩
theorem b8H(w:World)(A B:Option Addr)(n c m d:Nat)(l1 l2:List ZI)(h1:RW 5 icells w A n l1)(h2:RW 5 icells w B m l2)(hn:n<=1000000000)(hm:m<=1000000000) :
  Calls Tryz.prog 26 #[.slice A n c,.slice B m d] w fun e w'=>e=.returned (.bool (decide (l1=l2)))/\Dr w w':=by
 have H1:=c1n h1
 have H2:=c1n h2
 have L1:=c1n h1.len
 have L2:=c1n h2.len
 clear h1 h2
 by_cases hnm:n=m
 case neg=>
  have hx:decide (l1=l2)=false:=c1o (fun e=>hnm (by rw[<-L1.out,<-L2.out,e]))
  have HX:=c1n hx
  have e0:((n:Int) !=(m:Int))=true:=by simp;omega
  clear hnm hx
  go_enter Tryz.func26,Tryz.ntmps26
  go_wp2_with fail
  go_ret
  exact⟨by rw[HX.out];rfl,Dr.refl _⟩
 obtain rfl:=hnm
 have e0:((n:Int) !=(n:Int))=false:=by simp
 go_enter Tryz.func26,Tryz.ntmps26
 go_wp2_with fail
 go_loopw [5] (fun iv wr=>∃ i:Nat,i<=n/\iv=.int .i64 i/\Hid (Dr w wr)/\Hid (l1.take i=l2.take i)) (fun iv _=>n-(intOf iv).toNat)
 case atStart=>exact⟨0,by omega,rfl,c1n (Dr.refl _),c1n rfl⟩
 case round=>
  obtain⟨i,hi,rfl,HW,HE⟩:=hrel
  by_cases hlt:i<n
  ·have e1:decide (i<n)=true:=c1p hlt
   have e1':decide ((i:Int)<(n:Int))=true:=c1p (by omega)
   obtain⟨b1,o1,rfl⟩:=H1.out.hd (by omega)
   obtain⟨b2,o2,rfl⟩:=H2.out.hd (by omega)
   have hk:=HW.out.keeps (S:=[])
   have i1:i<l1.length:=by rw[L1.out];exact hlt
   have i2:i<l2.length:=by rw[L2.out];exact hlt
   have c1:=(H1.out.keeps a3s hk (a0a _)).cell b1 o1 rfl i i1
   have c2:=(H2.out.keeps a3s hk (a0a _)).cell b2 o2 rfl i i2
   have p10:=c1 0 (by omega)
   have p11:=c1 1 (by omega)
   have p12:=c1 2 (by omega)
   have p13:=c1 3 (by omega)
   have p14:=c1 4 (by omega)
   have p20:=c2 0 (by omega)
   have p21:=c2 1 (by omega)
   have p22:=c2 2 (by omega)
   have p23:=c2 3 (by omega)
   have p24:=c2 4 (by omega)
   have HTK:Hid (l1[i]=l2[i]->l1.take (i+1)=l2.take (i+1)):=c1n (fun e=>by rw[c1r i1,c1r i2,HE.out,e])
   have HNE:Hid (l1[i]≠l2[i]->decide (l1=l2)=false):=c1n (fun h=>c1o (fun e=>h (by subst e;rfl)))
   clear c1 c2 hk H1 H2 L1 L2 HE
   generalize l1[i]=x1 at *
   generalize l2[i]=x2 at *
   obtain⟨a1,s1,q1,u1,y1⟩:=x1
   obtain⟨a2,s2,q2,u2,y2⟩:=x2
   simp only[icells,c1q,c1s,c1H] at p10 p11 p12 p13 p14 p20 p21 p22 p23 p24
   have hgd:=fun x y w=>b0W x y w a1 a2 s1 s2 q1 q2 u1 u2 y1 y2
   by_cases hxx:(⟨a1,s1,q1,u1,y1⟩:ZI)=⟨a2,s2,q2,u2,y2⟩
   ·have HT2:=c1n (HTK.out hxx)
    have hrn:=fun w=>b2x w a1 a2 s1 s2 q1 q2 u1 u2 y1 y2
    simp only[c1p hxx,Bool.not_true] at hrn
    clear HTK HNE hxx
    go_wp2_with fail
    go_quiet (fail)
    go_wp2_with fail
    go_roundw
    case rel=>exact⟨i+1,by omega,by go_num,c1n (HW.out.step _),HT2⟩
    case measure=>simp[intOf];omega
   ·have HN2:=c1n (HNE.out hxx)
    have hrn:=fun w=>b2x w a1 a2 s1 s2 q1 q2 u1 u2 y1 y2
    simp only[c1o hxx,Bool.not_false] at hrn
    clear HTK HNE hxx
    go_wp2_with fail
    go_quiet (fail)
    go_wp2_with fail
    go_ret
    exact⟨by rw[HN2.out];rfl,HW.out.step _⟩
  ·have e1:decide (i<n)=false:=c1o hlt
   have e1':decide ((i:Int)<(n:Int))=false:=c1o (by omega)
   have HX:Hid (decide (l1=l2)=true):=c1n (c1p (a7F L1.out L2.out (by have:=HE.out;rwa [show i=n by omega] at this)))
   clear HE
   go_wp2_with fail
   go_ret
   exact⟨by rw[HX.out];rfl,HW.out⟩
end Go.Proofs.YtghjlpechjggjaaGreatDoor
namespace Go.Proofs.YtghjlpechjggjaaGreatDoor
open Go.RowKit
def bulk(l:List EN):Nat:=(l.map fun e=>e.1.size+e.2.size).sum
theorem b4N(l:List EN):∀ k,k<=l.length->bulk (l.take k)<=bulk l:=by
 intro k hk
 have e:bulk l=bulk (l.take k)+bulk (l.drop k):=by
  unfold bulk;rw[<-List.sum_append,<-c1C,c1K]
 omega
theorem b4M(l:List EN){k:Nat}(hk:k<l.length):bulk (l.take (k+1))=bulk (l.take k)+(l[k].1.size+l[k].2.size):=by
 unfold bulk
 rw[c1r hk,c1C,List.sum_append]
 simp
theorem c0V{l:List EN}{e:EN}(h:e∈l):e.1.size+e.2.size<=bulk l:=by
 induction l with
 | nil=>cases h
 | cons x l ih=>
  unfold bulk at *
  rw[List.map_cons,List.sum_cons]
  rcases c1x.1 h with rfl|h
  ·omega
  ·have:=ih h;omega
def a6d(l:List EN):Bool:=decide (16777216<l.length+bulk l)
theorem b8K(w:World)(A:Option Addr)(n c:Nat)(l:List EN)(h:RW 2 ecells w A n l)(hn:n<=1000000000000000)(hs:∀ e∈l,e.1.size<=1000000000000000/\e.2.size<=1000000000000000) :
  Calls Tryz.prog 12 #[.slice A n c] w fun e w'=>e=.returned (.bool (a6d l))/\Dr w w':=by
 have H:=c1n h
 have HL:=c1n h.len
 have HS:=c1n hs
 clear h hs
 go_enter Tryz.func12,Tryz.ntmps12
 go_upto_region 3 with (fail)
 go_loopw [3,4] (fun nv iv wr=>∃ i s:Nat,i<=n/\s<=3000000000000000/\iv=.int .i64 i/\nv=.int .i64 s/\Hid (s=n+bulk (l.take i))/\Hid (Dr w wr)) (fun _ iv _=>n-(intOf iv).toNat)
 case atStart=>exact⟨0,n,by omega,by omega,rfl,rfl,c1n (by simp[bulk]),c1n (Dr.refl _)⟩
 case round=>
  obtain⟨i,s,hi,hs,rfl,rfl,HI,HW⟩:=hrel
  by_cases hlt:i<n
  ·have e1:decide (i<n)=true:=c1p hlt
   have e1':decide ((i:Int)<(n:Int))=true:=c1p (by omega)
   have hil:i<l.length:=by rw[HL.out];exact hlt
   by_cases hm:s<=16777216
   ·have e2:decide ((s:Int)<=16777216)=true:=c1p (by omega)
    have e2':decide (s<=16777216)=true:=c1p hm
    obtain⟨b,o,rfl⟩:=H.out.hd (by omega)
    have hc:=(H.out.keeps a0j (HW.out.keeps (S:=[])) (a0a _)).cell b o rfl i hil
    have p0:=hc 0 (by omega)
    have p1:=hc 1 (by omega)
    have HB:=c1n (b4M l hil)
    have hsz:=HS.out l[i] (c1z _)
    clear hc H HS
    generalize l[i]=e at *
    obtain⟨x,y⟩:=e
    simp only[ecells,c1q,c1s,c1H] at p0 p1
    dsimp only at hsz HB
    obtain⟨h1,h2⟩:=hsz
    obtain⟨t,ht⟩:∃ z,z=s+(x.size+y.size):=⟨_,rfl⟩
    have s1:IntKind.i64.wrap ((s:Int)+(x.size:Int))=(s:Int)+(x.size:Int):=c1J _ (by omega)
    have s2:IntKind.i64.wrap ((s:Int)+(x.size:Int)+(y.size:Int))=(t:Int):=by rw[c1J _ (by omega)];omega
    have HT:Hid (t=n+bulk (l.take (i+1))):=c1n (by rw[ht,HB.out,HI.out];omega)
    have ht3:t<=3000000000000000:=by omega
    clear ht HB HI
    go_wp2_with fail
    go_quiet (fail)
    go_wp2_with fail
    go_roundw
    case rel=>exact⟨i+1,t,by omega,ht3,by go_num,rfl,HT,c1n (HW.out.step _)⟩
    case measure=>simp[intOf];omega
   ·have e2:decide ((s:Int)<=16777216)=false:=c1o (by omega)
    have e2':decide (s<=16777216)=false:=c1o hm
    have e3:decide ((16777216:Int)<(s:Int))=true:=c1p (by omega)
    have e3':decide (16777216<s)=true:=c1p (by omega)
    have HX:Hid (a6d l=true):=c1n (by
     have:=b4N l i (by omega)
     have:=HI.out
     have:=HL.out
     unfold a6d;rw[decide_eq_true_eq];omega)
    clear HI
    go_wp2_with fail
    go_ret
    exact⟨by rw[HX.out];rfl,HW.out⟩
  ·have e1:decide (i<n)=false:=c1o hlt
   have e1':decide ((i:Int)<(n:Int))=false:=c1o (by omega)
   have HX:Hid (a6d l=decide ((16777216:Int)<(s:Int))):=c1n (by
    have h1:=HI.out
    have h2:=HL.out
    rw[c1y (by omega)] at h1
    unfold a6d
    rw[h2,<-h1]
    by_cases h:16777216<s
    ·rw[c1p h,c1p (by omega)]
    ·rw[c1o h,c1o (by omega)])
   clear HI
   by_cases hm:s<=16777216
   ·have e3:decide ((16777216:Int)<(s:Int))=false:=c1o (by omega)
    have e3':decide (16777216<s)=false:=c1o (by omega)
    have HY:Hid (a6d l=false):=c1n (by rw[HX.out,e3])
    clear HX
    go_wp2_with fail
    go_ret
    exact⟨by rw[HY.out];rfl,HW.out⟩
   ·have e3:decide ((16777216:Int)<(s:Int))=true:=c1p (by omega)
    have e3':decide (16777216<s)=true:=c1p (by omega)
    have HY:Hid (a6d l=true):=c1n (by rw[HX.out,e3])
    clear HX
    go_wp2_with fail
    go_ret
    exact⟨by rw[HY.out];rfl,HW.out⟩
theorem b1d(w:World)(A:Option Addr)(n c:Nat)(xs:List Int)(hx:RI .u8 w A n xs)(hn:n<=900000000) :
  Calls Tryz.prog 19 #[.slice A n c] w fun e w'=>∃ g,e=.returned (.slice (some ⟨g,0,none⟩) n (n+1))/\Blk w' g 5 (ints .u8 (xs++[99]))/\w.heap.size<=g/\Keeps [] w w':=by
 have lx:=hx.len
 have HX:=c1n hx
 have LX:=c1n lx
 clear hx lx
 have hmk:=fun w=>a1c (P:=Tryz.prog) w 26 5 .u8 1 Tryz.underlying26 a2F ((n:Int)+1) (n+1) (by omega) (by omega) (by omega)
 go_enter Tryz.func19,Tryz.ntmps19
 go_wp2_with (with_reducible refine wpList_copy_splice rfl (.tmp 8) (.tmp 9) _ _ rfl 5 Tryz.underlying26 b1K _ _ _ _ _ _ rfl rfl w.heap.size 0 (ints .u8 (List.replicate (n+1) 0)) 5 ?h1 (ints .u8 xs) ?h2 ?h3 ?h4 ?h5 w.heap.size w ?h6 (c1N _) ?_)
 case h1=>exact a0d w _ _
 case h2=>have:=LX.out;simp[ints];omega
 case h3=>
  intro hp
  obtain⟨a,o,ha⟩:=HX.out.hd (by have:=LX.out;simpa [ints,this] using hp)
  refine⟨_,ha,fun j v hv=>?_⟩
  have hj:j<n:=by have:=LX.out;have:=(List.getElem?_eq_some_iff.1 hv).1;simp[ints] at this;omega
  have hc:=HX.out.cell a o ha j hj
  have e:(ints .u8 xs)[j]? =some (.int .u8 (nth xs j)):=by rw[a0e];simp[nth,List.getD,show j<xs.length from by have:=LX.out;omega]
  rw[e] at hv
  rw[<-Option.some.inj hv,a0t]
  exact (Keeps.refl [] w).alloc _ |>.cell (by simp) hc
 case h4=>have:=LX.out;simp[ints];omega
 case h5=>intro v hv;simp only[ints,c1P] at hv;obtain⟨x,_,rfl⟩:=hv;rfl
 case h6=>exact (c1Q _ _).alloc (c1N _) _
 intro w1 hg1 hb1
 have hB:Blk w1 w.heap.size 5 (splice (ints .u8 (List.replicate (n+1) 0)) 0 (ints .u8 xs)):=hg1.out
 have hsp:splice (ints .u8 (List.replicate (n+1) 0)) 0 (ints .u8 xs)=ints .u8 (xs++[0]):=by
  have:=LX.out
  simp[splice,ints,this]
 rw[hsp] at hB
 clear hg1 hsp
 have hc1:w1.cell? ⟨w.heap.size,n,none⟩=some (.int .u8 0):=by
  rw[hB.cell,a0e];have:=LX.out;simp[this]
 have hf1:=hB.frozen n
 have hB2:=hB.set n (.int .u8 99)
 have hz:(ints .u8 (xs++[0])).set n (.int .u8 99)=ints .u8 (xs++[99]):=by
  have:=LX.out
  simp[ints,List.set_append,this]
 rw[hz] at hB2
 have HB2:=c1n hB2
 have HB1:=c1n hb1
 clear hB hz hmk hB2 hb1
 go_wp2
 go_ret
 exact⟨_,rfl,HB2.out,c1N _,(Keeps.of_below HB1.out).setCell (Or.inr (c1N _)) _⟩
theorem b9x(w:World)(g:Nat)(A:Option Addr)(n c:Nat)(xs:List Int)(hx:RI .u8 w A n xs)(hB:Blk w g 5 (ints .u8 (xs++[99])))(hn:n<=900000000) :
  Calls Tryz.prog 22 #[.slice (some ⟨g,0,none⟩) n (n+1),.slice A n c] w fun e w'=>e=.returned (.bool true)/\Dr w w':=by
 have lx:=hx.len
 have hr:RI .u8 w (some ⟨g,0,none⟩) n xs:=by have:=hB.ri;rwa [lx] at this
 have hc1:w.cell? ⟨g,n,none⟩=some (.int .u8 99):=by rw[hB.cell,a0e];simp[lx]
 have HX:=c1n hx
 have HR:=c1n hr
 clear hx hr lx hB
 have hn2:n<=140737488355328:=by omega
 go_enter Tryz.func22,Tryz.ntmps22
 go_wp2_with fail
 refine (b1H w _ _ n n _ _ xs xs HR.out HX.out hn2 hn2).mono ?_
 rintro e w' ⟨rfl,q,rfl⟩
 rw[beq_self_eq_true]
 go_wp2
 go_ret
 exact⟨rfl,_,rfl⟩
def hasB(l:List EN)(s:ByteArray):Bool:=inL (l.map fun e=>e.1) s
theorem c0f(w:World)(A:Option Addr)(n c:Nat)(l:List EN)(name:ByteArray)(h:RW 2 ecells w A n l)(hn:n<=100000000) :
  Calls Tryz.prog 29 #[.slice A n c,.string name] w fun e w'=>e=.returned (.bool (hasB l name))/\w'=w:=by
 have HRW:=c1n h
 have HL:=c1n h.len
 clear h
 go_enter Tryz.func29,Tryz.ntmps29
 go_wp2_with fail
 go_loopw [5] (fun iv wr=>∃ k:Nat,k<=n/\iv=.int .i64 k/\wr=w/\Hid (hasB (l.take k) name=false)) (fun iv _=>n-(intOf iv).toNat)
 case atStart=>exact⟨0,by omega,rfl,rfl,c1n rfl⟩
 case round=>
  obtain⟨k,hk,rfl,rfl,HI⟩:=hrel
  by_cases hlt:k<n
  ·have e0:decide (k<n)=true:=c1p hlt
   obtain⟨tb,to',rfl⟩:=HRW.out.hd (by omega)
   have hpl:k<l.length:=by rw[HL.out];exact hlt
   have p0:=HRW.out.cell tb to' rfl k hpl 0 (by omega)
   have HTK:Hid (hasB (l.take (k+1)) name=decide (l[k].1=name)):=c1n (by
    unfold hasB
    rw[c1r hpl,c1C,List.map_singleton]
    have hq:inL ((l.take k).map fun e=>e.1) name=false:=HI.out
    unfold inL at hq ⊢
    rw[List.any_append,hq]
    simp)
   have HME:Hid (l[k].1=name->hasB l name=true):=c1n (fun e=>a5Y.2 (c1P.2 ⟨l[k],c1z _,e⟩))
   clear HRW
   generalize l[k]=p at *
   obtain⟨x,y⟩:=p
   simp only[ecells,c1q,c1H] at p0
   dsimp only at HTK HME
   by_cases hnm:x=name
   ·have HX:=c1n (HME.out hnm)
    subst hnm
    clear HTK HI HME
    go_wp2_with fail
    go_ret
    exact⟨by rw[HX.out];rfl,rfl⟩
   ·have HX:Hid (hasB (l.take (k+1)) name=false):=c1n (by rw[HTK.out];exact c1o hnm)
    have s0:¬x.toList=name.toList:=fun e=>hnm (a5H.1 e)
    have s2:decide (x.toList=name.toList)=false:=c1o s0
    have s3:(x.toList==name.toList)=false:=c1G.2 s0
    clear HTK HI HME hnm
    go_wp2_with fail
    go_roundw
    case rel=>exact⟨k+1,by omega,by go_num,by trivial,HX⟩
    case measure=>simp[intOf];omega
  ·have e0:decide (k<n)=false:=c1o hlt
   have HX:Hid (hasB l name=false):=c1n (by have:=HI.out;rwa [c1y (by rw[HL.out];omega)] at this)
   clear HI
   go_wp2_with fail
   go_ret
   exact⟨by rw[HX.out];rfl,rfl⟩
end Go.Proofs.YtghjlpechjggjaaGreatDoor
namespace Go.Proofs.YtghjlpechjggjaaGreatDoor
open Go.RowKit
theorem a6w(w:World)(s:ByteArray) :
  Calls Tryz.prog 34 #[.string s] w fun e w'=>e=.returned (.bool (a0S s.data.toList))/\w'=w:=by
 have htl:s.toList=s.data.toList:=c1M s
 by_cases q1:s.data.toList=[]
 ·have HP:=c1n (show a0S s.data.toList=false by rw[q1];rfl)
  have z1:(s.toList==[])=true:=by rw[htl,q1];rfl
  have z1':s.toList.isEmpty=true:=by rw[htl,q1];rfl
  have z1'':(s.toList !=[])=false:=by rw[htl,q1];rfl
  clear q1 htl
  go_enter Tryz.func34,Tryz.ntmps34
  go_wp2_with fail
  go_ret
  exact⟨by rw[HP.out];rfl,rfl⟩
 have z1:(s.toList==[])=false:=by rw[htl];simpa using q1
 have z1':s.toList.isEmpty=false:=by rw[htl];simpa using q1
 have z1'':(s.toList !=[])=true:=by rw[htl];simpa using q1
 by_cases q2:s.data.toList=[46]
 ·have HP:=c1n (show a0S s.data.toList=false by rw[q2];rfl)
  have z2:(s.toList==[46])=true:=by rw[htl,q2];rfl
  have z2'':(s.toList !=[46])=false:=by rw[htl,q2];rfl
  clear q1 q2 htl
  go_enter Tryz.func34,Tryz.ntmps34
  go_wp2_with fail
  go_ret
  exact⟨by rw[HP.out];rfl,rfl⟩
 have z2:(s.toList==[46])=false:=by rw[htl];simpa using q2
 have z2'':(s.toList !=[46])=true:=by rw[htl];simpa using q2
 by_cases q3:s.data.toList=[46,46]
 ·have HP:=c1n (show a0S s.data.toList=false by rw[q3];rfl)
  have z3:(s.toList==[46,46])=true:=by rw[htl,q3];rfl
  have z3'':(s.toList !=[46,46])=false:=by rw[htl,q3];rfl
  clear q1 q2 q3 htl
  go_enter Tryz.func34,Tryz.ntmps34
  go_wp2_with fail
  go_ret
  exact⟨by rw[HP.out];rfl,rfl⟩
 have z3:(s.toList==[46,46])=false:=by rw[htl];simpa using q3
 have z3'':(s.toList !=[46,46])=true:=by rw[htl];simpa using q3
 have HP:=c1n (show a0S s.data.toList=true by unfold a0S;rw[c1G.2 q1,c1G.2 q2,c1G.2 q3];rfl)
 clear q1 q2 q3 htl
 go_enter Tryz.func34,Tryz.ntmps34
 go_wp2_with fail
 go_ret
 exact⟨by rw[HP.out];rfl,rfl⟩
def goN:List UInt8->List UInt8->Bool
 | cur,[]=>a0S cur
 | cur,b::r=>if b=47 then a0S cur&&goN [] r else okB b.toNat&&goN (cur++[b]) r
theorem b5E:okB (47:UInt8).toNat=true:=by decide
theorem b5b:∀ (l cur:List UInt8),(47:UInt8)∉cur->goN cur l=((a2A (cur++l)).all a0S&&l.all fun b=>okB b.toNat)
 | [],cur,h=>by rw[goN,List.append_nil,a3I h];simp
 | b::r,cur,h=>by
  rw[goN]
  split
  ·rename_i hb
   subst hb
   have e:=a3J (l:=cur++47::r) (n:=cur.length) (by rw[List.drop_left,show cur.length+1=(cur++[(47:UInt8)]).length by simp,show cur++47::r=(cur++[47])++r by simp,List.drop_left]) (by rw[List.take_left];exact h)
   rw[List.take_left,show cur.length+1=(cur++[(47:UInt8)]).length by simp,show (cur++47::r).drop (cur++[(47:UInt8)]).length=r by rw[show cur++47::r=(cur++[47])++r by simp,List.drop_left]] at e
   rw[b5b r [] (by simp),List.nil_append,e,List.all_cons,List.all_cons,b5E,Bool.true_and,Bool.and_assoc]
  ·rename_i hb
   rw[b5b r (cur++[b]) (by simp only[List.mem_append,List.mem_singleton];rintro (h'|h');exact h h';exact hb h'.symm),c1E,List.singleton_append,List.all_cons,Bool.and_left_comm]
theorem b5A{s:ByteArray}(h:1<=s.size/\s.size<=64):nameB s=goN [] s.data.toList:=by
 rw[b5b _ [] (by simp),List.nil_append]
 unfold nameB
 rw[c1p h,Bool.true_and]
end Go.Proofs.YtghjlpechjggjaaGreatDoor
namespace Go.Proofs.YtghjlpechjggjaaGreatDoor
open Go.RowKit
abbrev SL:=Option Addr×Nat×Nat
def b8R(s:SL):List Value:=[.slice s.1 s.2.1 s.2.2]
theorem b3X(s:SL):(b8R s).length=1:=rfl
structure RBs (w:World) (B:Option Addr) (m:Nat) (yss:List (List Int)):Prop where
 out:∃ sl:List SL,RW 1 b8R w B m sl/\sl.length=yss.length/\∀ (i:Nat) (h1:i<sl.length) (h2:i<yss.length),RI .u8 w sl[i].1 sl[i].2.1 yss[i]/\(sl[i].1=none->sl[i].2.1=0/\sl[i].2.2=0)
theorem RBs.keeps{w w':World}{B:Option Addr}{m:Nat}{yss:List (List Int)}(h:RBs w B m yss)(hk:Keeps [] w w'):RBs w' B m yss:=by
 obtain⟨sl,a,b,c⟩:=h.out
 exact⟨sl,a.keeps b3X hk (a0a _),b,fun i h1 h2=>⟨(c i h1 h2).1.keeps hk (a0a _),(c i h1 h2).2⟩⟩
theorem RBs.at{w:World}{B:Option Addr}{m:Nat}{yss:List (List Int)}(h:RBs w B m yss){i:Nat}(hi:i<yss.length):∃ b o A n c,B=some ⟨b,o,none⟩/\i<m/\w.cell? ⟨b,o+i*1,none⟩=some (.slice A n c)/\RI .u8 w A n yss[i]/\(A=none->n=0/\c=0):=by
 obtain⟨sl,a,b,c⟩:=h.out
 have hsl:i<sl.length:=by omega
 have hm:i<m:=by rw[<-a.len];exact hsl
 obtain⟨tb,to',rfl⟩:=a.hd (by omega)
 have hc:=a.cell tb to' rfl i hsl 0 (by omega)
 obtain⟨c1,c2⟩:=c i hsl hi
 exact⟨tb,to',_,_,_,rfl,hm,hc,c1,c2⟩
theorem b5d(way sum bl dl nl:Int):a2e [(67324752,4),(20,2),(0,2),(way,2),(0,2),(33,2),(sum,4),(bl,4),(dl,4),(nl,2),(0,2)]=zlesB 4 [67324752]++sharedB way sum bl dl nl:=by
 simp[a2e,sharedB,zlesB]
theorem b7Y(way sum bl dl nl at_:Int):a2e [(33639248,4),(20,2),(20,2),(0,2),(way,2),(0,2),(33,2),(sum,4),(bl,4),(dl,4),(nl,2),(0,2),(0,2),(0,2),(0,2),(0,4),(at_,4)]=zlesB 4 [33639248]++(zlesB 2 [20]++(sharedB way sum bl dl nl++(zlesB 2 [0,0,0]++zlesB 4 [0,at_]))):=by
 simp[a2e,sharedB,zlesB]
theorem b7b(n r p:Int):a2e [(101010256,4),(0,2),(0,2),(n,2),(n,2),(r,4),(p,4),(0,2)]=zendB n r p:=by
 simp[a2e,zendB,zlesB]
theorem a8m(w:World)(A:Option Addr)(n c:Nat)(xs:List Int)(hx:RI .u8 w A n xs)(hn:n<=900000000)(ps:List (Int×Nat))(h0:0<ps.length)(h1:ps.length<=1000)(hv:∀ p∈ps,0<=p.1/\p.1<18446744073709551616/\p.2<=8) :
  Calls Tryz.prog 46 #[.slice A n c,.slice (some ⟨w.heap.size,0,none⟩) (flatF ps).length (flatF ps).length] (w.alloc (.cells (ints .i64 (flatF ps)).toArray 3)) fun e w'=>∃ v',e=.returned v'/\w'.ownsRow w.heap.size 5 1 v' (n+(a2e ps).length) (ints .u8 (xs++a2e ps))/\Below w.heap.size w w':=
 (b0Y _ A n c xs (hx.keeps ((Keeps.refl [] w).alloc _) (a0a _)) hn _ (flatF ps).length (flatF ps).length ps (a4b w _) h0 h1 hv).mono fun _ _ ⟨v,e,ho,hb⟩=>
  ⟨v,e,a0u ho (by simp),((c1Q w.heap.size w).alloc (c1N _) _).trans (hb.mono (by simp))⟩
theorem b7i(w:World)(A:Option Addr)(n c:Nat)(xs:List Int)(hx:RI .u8 w A n xs)(hn:n<=900000000)(way sum bl dl nl:Int)(hv:∀ x∈[way,sum,bl,dl,nl],0<=x/\x<18446744073709551616) :
  Calls Tryz.prog 46 #[.slice A n c,.slice (some ⟨w.heap.size,0,none⟩) 22 22] (w.alloc (.cells #[.int .i64 67324752,.int .i64 4,.int .i64 20,.int .i64 2,.int .i64 0,.int .i64 2,.int .i64 way,.int .i64 2,.int .i64 0,.int .i64 2,.int .i64 33,.int .i64 2,.int .i64 sum,.int .i64 4,.int .i64 bl,.int .i64 4,.int .i64 dl,.int .i64 4,.int .i64 nl,.int .i64 2,.int .i64 0,.int .i64 2] 3)) fun e w'=>∃ A' c',e=.returned (.slice A' (n+30) c')/\w'.ownsRow w.heap.size 5 1 (.slice A' (n+30) c') (n+30) (ints .u8 (xs++(zlesB 4 [67324752]++sharedB way sum bl dl nl)))/\Below w.heap.size w w':=by
 have h_way:=hv way (by simp)
 have h_sum:=hv sum (by simp)
 have h_bl:=hv bl (by simp)
 have h_dl:=hv dl (by simp)
 have h_nl:=hv nl (by simp)
 refine (a8m w A n c xs hx hn [(67324752,4),(20,2),(0,2),(way,2),(0,2),(33,2),(sum,4),(bl,4),(dl,4),(nl,2),(0,2)] (by simp) (by simp) ?_).mono ?_
 ·intro p hp
  simp only[c1x,c1v,or_false] at hp
  rcases hp with rfl|rfl|rfl|rfl|rfl|rfl|rfl|rfl|rfl|rfl|rfl
  all_goals (first|exact⟨by decide,by decide,by decide⟩|exact⟨h_way.1,h_way.2,by dsimp only;omega⟩|exact⟨h_sum.1,h_sum.2,by dsimp only;omega⟩|exact⟨h_bl.1,h_bl.2,by dsimp only;omega⟩|exact⟨h_dl.1,h_dl.2,by dsimp only;omega⟩|exact⟨h_nl.1,h_nl.2,by dsimp only;omega⟩)
 ·rintro _ w' ⟨v',rfl,ho,hb⟩
  rw[b5d] at ho
  obtain⟨A',c',hv'⟩:=a0g ho
  subst hv'
  have e:(zlesB 4 [67324752]++sharedB way sum bl dl nl).length=30:=by simp[a1Q,a1f,a4y]
  rw[e] at ho
  exact⟨A',c',by rw[e],ho,hb⟩
theorem b9L(w:World)(A:Option Addr)(n c:Nat)(xs:List Int)(hx:RI .u8 w A n xs)(hn:n<=900000000)(way sum bl dl nl at_:Int)(hv:∀ x∈[way,sum,bl,dl,nl,at_],0<=x/\x<18446744073709551616) :
  Calls Tryz.prog 46 #[.slice A n c,.slice (some ⟨w.heap.size,0,none⟩) 34 34] (w.alloc (.cells #[.int .i64 33639248,.int .i64 4,.int .i64 20,.int .i64 2,.int .i64 20,.int .i64 2,.int .i64 0,.int .i64 2,.int .i64 way,.int .i64 2,.int .i64 0,.int .i64 2,.int .i64 33,.int .i64 2,.int .i64 sum,.int .i64 4,.int .i64 bl,.int .i64 4,.int .i64 dl,.int .i64 4,.int .i64 nl,.int .i64 2,.int .i64 0,.int .i64 2,.int .i64 0,.int .i64 2,.int .i64 0,.int .i64 2,.int .i64 0,.int .i64 2,.int .i64 0,.int .i64 4,.int .i64 at_,.int .i64 4] 3)) fun e w'=>∃ A' c',e=.returned (.slice A' (n+46) c')/\w'.ownsRow w.heap.size 5 1 (.slice A' (n+46) c') (n+46) (ints .u8 (xs++(zlesB 4 [33639248]++(zlesB 2 [20]++(sharedB way sum bl dl nl++(zlesB 2 [0,0,0]++zlesB 4 [0,at_]))))))/\Below w.heap.size w w':=by
 have h_way:=hv way (by simp)
 have h_sum:=hv sum (by simp)
 have h_bl:=hv bl (by simp)
 have h_dl:=hv dl (by simp)
 have h_nl:=hv nl (by simp)
 have h_at_:=hv at_ (by simp)
 refine (a8m w A n c xs hx hn [(33639248,4),(20,2),(20,2),(0,2),(way,2),(0,2),(33,2),(sum,4),(bl,4),(dl,4),(nl,2),(0,2),(0,2),(0,2),(0,2),(0,4),(at_,4)] (by simp) (by simp) ?_).mono ?_
 ·intro p hp
  simp only[c1x,c1v,or_false] at hp
  rcases hp with rfl|rfl|rfl|rfl|rfl|rfl|rfl|rfl|rfl|rfl|rfl|rfl|rfl|rfl|rfl|rfl|rfl
  all_goals (first|exact⟨by decide,by decide,by decide⟩|exact⟨h_way.1,h_way.2,by dsimp only;omega⟩|exact⟨h_sum.1,h_sum.2,by dsimp only;omega⟩|exact⟨h_bl.1,h_bl.2,by dsimp only;omega⟩|exact⟨h_dl.1,h_dl.2,by dsimp only;omega⟩|exact⟨h_nl.1,h_nl.2,by dsimp only;omega⟩|exact⟨h_at_.1,h_at_.2,by dsimp only;omega⟩)
 ·rintro _ w' ⟨v',rfl,ho,hb⟩
  rw[b7Y] at ho
  obtain⟨A',c',hv'⟩:=a0g ho
  subst hv'
  have e:(zlesB 4 [33639248]++(zlesB 2 [20]++(sharedB way sum bl dl nl++(zlesB 2 [0,0,0]++zlesB 4 [0,at_])))).length=46:=by simp[a1Q,a1f,a4y]
  rw[e] at ho
  exact⟨A',c',by rw[e],ho,hb⟩
theorem b9t(w:World)(A:Option Addr)(n c:Nat)(xs:List Int)(hx:RI .u8 w A n xs)(hn:n<=900000000)(nn r p:Int)(hv:∀ x∈[nn,r,p],0<=x/\x<18446744073709551616) :
  Calls Tryz.prog 46 #[.slice A n c,.slice (some ⟨w.heap.size,0,none⟩) 16 16] (w.alloc (.cells #[.int .i64 101010256,.int .i64 4,.int .i64 0,.int .i64 2,.int .i64 0,.int .i64 2,.int .i64 nn,.int .i64 2,.int .i64 nn,.int .i64 2,.int .i64 r,.int .i64 4,.int .i64 p,.int .i64 4,.int .i64 0,.int .i64 2] 3)) fun e w'=>∃ A' c',e=.returned (.slice A' (n+22) c')/\w'.ownsRow w.heap.size 5 1 (.slice A' (n+22) c') (n+22) (ints .u8 (xs++(zendB nn r p)))/\Below w.heap.size w w':=by
 have h_nn:=hv nn (by simp)
 have h_r:=hv r (by simp)
 have h_p:=hv p (by simp)
 refine (a8m w A n c xs hx hn [(101010256,4),(0,2),(0,2),(nn,2),(nn,2),(r,4),(p,4),(0,2)] (by simp) (by simp) ?_).mono ?_
 ·intro p hp
  simp only[c1x,c1v,or_false] at hp
  rcases hp with rfl|rfl|rfl|rfl|rfl|rfl|rfl|rfl
  all_goals (first|exact⟨by decide,by decide,by decide⟩|exact⟨h_nn.1,h_nn.2,by dsimp only;omega⟩|exact⟨h_r.1,h_r.2,by dsimp only;omega⟩|exact⟨h_p.1,h_p.2,by dsimp only;omega⟩)
 ·rintro _ w' ⟨v',rfl,ho,hb⟩
  rw[b7b] at ho
  obtain⟨A',c',hv'⟩:=a0g ho
  subst hv'
  have e:(zendB nn r p).length=22:=by simp[a1Q,a1f,a4y]
  rw[e] at ho
  exact⟨A',c',by rw[e],ho,hb⟩
theorem b9v(w:World)(A B:Option Addr)(n c m d:Nat)(es:List ZE)(h:RW 2 ecells w A n (es.map ZE.out))(hp:RBs w B m (es.map ZE.ys))(hok:∀ e∈es,e.Ok)(hl:es.length<=64) :
  Calls Tryz.prog 17 #[.slice A n c,.slice B m d] w fun e w'=>∃ v',e=.returned v'/\w'.ownsRow w.heap.size 5 1 v' (zfileB (es.map ZE.g)).length (ints .u8 (zfileB (es.map ZE.g)))/\Below w.heap.size w w':=by
 have H:=c1n h
 have HP:=c1n hp
 have HK:=c1n hok
 have hel:es.length=n:=by have:=h.len;rw[c1t] at this;exact this
 have HL:=c1n hel
 have hn64:n<=64:=by omega
 clear h hp hok hel hl
 go_enter Tryz.func17,Tryz.ntmps17
 go_wp2_with fail
 go_loopw [5,6,7] (fun pv rv iv wr=>∃ (i:Nat) (AP AR:Option Addr) (nP nR cP cR:Nat),i<=n/\iv=.int .i64 i/\pv=.slice AP nP cP/\rv=.slice AR nR cR/\nP<=i*8286/\nR<=i*110/\Hid (wr.ownsRow w.heap.size 5 1 (.slice AP nP cP) nP (ints .u8 (zPs ((es.take i).map ZE.g))))/\Hid (wr.ownsRow w.heap.size 5 1 (.slice AR nR cR) nR (ints .u8 (zRs 0 ((es.take i).map ZE.g))))/\Hid (Below w.heap.size w wr)) (fun _ _ iv _=>n-(intOf iv).toNat)
 case atStart=>exact⟨0,none,none,0,0,0,0,by omega,rfl,rfl,rfl,by omega,by omega,c1n (c1w _ _ _ _),c1n (c1w _ _ _ _),c1n (c1Q _ _)⟩
 case round=>
  obtain⟨i,AP,AR,nP,nR,cP,cR,hi,rfl,rfl,rfl,hnP,hnR,HOP,HOR,HB⟩:=hrel
  by_cases hlt:i<n
  ·have e0:decide (i<n)=true:=by simpa using hlt
   obtain⟨tb,to',rfl⟩:=H.out.hd (by omega)
   have hil:i<es.length:=by rw[HL.out];exact hlt
   have hkw:=Keeps.of_below HB.out (S:=[])
   have hrw:=(H.out.keeps a0j hkw (a0a _)).cell tb to' rfl i (by rw[c1t];exact hil)
   have p0:=hrw 0 (by omega)
   have p1:=hrw 1 (by omega)
   rw[c1L] at p0 p1
   obtain⟨qb,qo,QA,qn,qc,rfl,hqm,hqc,hqr,hqn⟩:=(HP.out.keeps hkw).at (i:=i) (by rw[c1t];exact hil)
   rw[c1L] at hqr
   have HTK:Hid ((es.take (i+1)).map ZE.g=(es.take i).map ZE.g++[es[i].g]):=c1n (by rw[c1r hil,c1C];rfl)
   have HEK:=c1n (HK.out es[i] (c1z _))
   generalize es[i]=e at *
   obtain⟨name,dat,ys⟩:=e
   simp only[ZE.out,ecells,c1q,c1s,c1H] at p0 p1
   dsimp only at hqr
   rw[Nat.mul_one] at hqc
   clear hrw hkw
   obtain⟨cc,w2,hcv,hr2,hk2,hs2⟩:=a7m wr dat
   have HQR:=c1n (hqr.keeps hk2 (a0a _))
   have HR2:=c1n hr2
   have HK2:=c1n hk2
   have HQN:=c1n hqn
   have c2:=hk2.cell (p:=⟨qb,qo+i,none⟩) (by simp) hqc
   have p0':=hk2.cell (p:=⟨tb,to'+i*2,none⟩) (by simp) p0
   have HYL:Hid (ys.length=qn):=c1n hqr.len
   clear hqr hr2 hk2 hs2 hqn p0
   obtain⟨D,hD⟩:∃ z,z=wr.heap.size:=⟨_,rfl⟩
   rw[<-hD] at hcv HR2
   have HD:=c1n hD
   clear hD
   obtain⟨way,hway⟩:∃ z,z=zway (sb dat) ys:=⟨_,rfl⟩
   obtain⟨body,hbody⟩:∃ z,z=a3O (sb dat) ys:=⟨_,rfl⟩
   have hsbl:=a1o dat
   have hyl:=HYL.out
   have HDT:Hid (dat.size<=8192):=c1n HEK.out.dat
   obtain⟨pp,hpp⟩:∃ p,decide (qn<dat.size)=p:=⟨_,rfl⟩
   have hpp':decide ((qn:Int)<(dat.size:Int))=pp:=by rw[<-hpp];exact decide_eq_decide.2 (by omega)
   go_upto_if 36 with (fail)
   go_cut [9,10] (fun u9 u10 wc=>∃ (BA:Option Addr) (nb cb:Nat),u9=.int .i64 way/\u10=.slice BA nb cb/\Hid (RI .u8 w2 BA nb body)/\Hid (BA=none->nb=0/\cb=0)/\nb<=8192/\wc=w2)
   case first=>
    cases pp with
    | true=>
     have hlt2:qn<dat.size:=of_decide_eq_true hpp
     have e1:way=8:=by rw[hway];unfold zway;rw[if_pos (by rw[hyl,hsbl];exact hlt2)]
     have e2:body=ys:=by rw[hbody];unfold a3O;rw[if_pos (by rw[hyl,hsbl];exact hlt2)]
     have E1:=c1n e1
     have E2:=c1n e2
     have hq8:qn<=8192:=by have:=HDT.out;omega
     clear hway hbody hsbl hyl e1 e2 hlt2 hpp hpp'
     go_wp2_with fail
     go_meet
     exact⟨QA,qn,qc,by rw[E1.out],rfl,by rw[E2.out];exact HQR,HQN,hq8,rfl⟩
    | false=>
     have hlt2:¬qn<dat.size:=of_decide_eq_false hpp
     have e1:way=0:=by rw[hway];unfold zway;rw[if_neg (by rw[hyl,hsbl];exact hlt2)]
     have e2:body=sb dat:=by rw[hbody];unfold a3O;rw[if_neg (by rw[hyl,hsbl];exact hlt2)]
     have E1:=c1n e1
     have E2:=c1n e2
     clear hway hbody hsbl hyl e1 e2 hlt2 hpp hpp'
     go_wp2_with fail
     go_meet
     exact⟨some ⟨D,0,none⟩,dat.size,cc,by rw[E1.out],rfl,by rw[E2.out];exact HR2,c1n (fun h=>by cases h),HDT.out,rfl⟩
   case rest=>
    obtain⟨BA,nb,cb,rfl,rfl,HBY,HBN,hnb,hwc⟩:=hcut
    obtain rfl:w2=wc:=hwc.symm
    have HWAY:=c1n hway
    have HBODY:=c1n hbody
    clear hway hbody hsbl hyl hwc hpp hpp'
    have hnm:=a3c HEK.out.name
    dsimp only at hnm
    have HOP2:=c1n (a0b HOP.out HK2.out (by simp))
    have HOR2:=c1n (a0b HOR.out HK2.out (by simp))
    have HB2:=c1n (HB.out.trans (a0c HK2.out HB.out.size (by simp)))
    have hcr:=b0M (a5q dat)
    obtain⟨S,hS⟩:∃ z,z=crcF (sb dat):=⟨_,rfl⟩
    rw[<-hS] at hcr
    have HSS:=c1n hS
    have sS:IntKind.i64.wrap (S:Int)=(S:Int):=c1J _ (by omega)
    clear hS HOP HOR HB HK2 c2 HQR HQN
    go_wp2_with fail
    refine (b4f w2 (some ⟨D,0,none⟩) dat.size cc (sb dat) HR2.out (a5q dat) (by have:=HDT.out;omega)).mono ?_
    rintro _ wz ⟨rfl,hwz⟩
    obtain rfl:w2=wz:=hwz.symm
    rw[<-HSS.out]
    clear hwz
    go_wp2_with fail
    have hPr:=a0n HOP2.out
    have hRr:=a0n HOR2.out
    obtain⟨PA,pc,hpv,hpr⟩:=hPr
    obtain⟨RA,rc,hrv,hrr⟩:=hRr
    injection hpv with pv1 pv2 pv3
    injection hrv with rv1 rv2 rv3
    subst pv1
    subst rv1
    have HPR:=c1n hpr
    have HRR:=c1n hrr
    have HWB:Hid (0<=way/\way<18446744073709551616):=c1n (by rw[HWAY.out];unfold zway;split<;>omega)
    clear pv2 pv3 rv2 rv3 hpr hrr
    refine (b7i w2 AP nP cP _ HPR.out (by omega) way (S:Int) (nb:Int) (dat.size:Int) (name.size:Int) (by
     have:=HWB.out;have:=HDT.out
     simp only[c1x,c1v,or_false]
     rintro x (rfl|rfl|rfl|rfl|rfl)<;>omega)).mono ?_
    rintro _ w3 ⟨A3,c3,rfl,ho3,hb3⟩
    have hk3:=Keeps.of_below hb3 (S:=[])
    have HO3:=c1n ho3
    have HK3:=c1n hk3
    have p03:=hk3.cell (p:=⟨tb,to'+i*2,none⟩) (by simp) p0'
    clear ho3 hb3 hk3 sS
    go_wp2_with (first
     | (at_builtin;refine b4D rfl (.tmp 61) (.tmp 66) rfl w2.heap.size _ (nP+30) _ rfl HO3.out name rfl (by omega) HK3.out.size ?_;intro v4 w4 ho4 hg4;obtain⟨A4,c4,rfl⟩:=a0g ho4;have hk4:=HK3.out.grown hg4 (fun k hk=>.inr (a0m HO3.out k hk));have HO4:=c1n ho4;have HK4:=c1n hk4;clear ho4 hk4 hg4)
     | (at_builtin;refine a2S rfl (.tmp 68) (.tmp 69) rfl w2.heap.size _ (nP+30+name.size) _ rfl HO4.out BA nb cb body rfl (HBY.out.keeps HK4.out (a0a _)) HBN.out (by omega) HK4.out.size ?_;intro v5 w5 ho5 hg5;obtain⟨A5,c5,rfl⟩:=a0g ho5;have hk5:=HK4.out.grown hg5 (fun k hk=>.inr (a0m HO4.out k hk));have HO5:=c1n ho5;have HK5:=c1n hk5;have p05:=hk5.cell (p:=⟨tb,to'+i*2,none⟩) (by simp) p0';clear ho5 hk5 hg5))
    refine (b9L w5 AR nR cR _ (HRR.out.keeps HK5.out (a0a _)) (by omega) way (S:Int) (nb:Int) (dat.size:Int) (name.size:Int) (nP:Int) (by
     have:=HWB.out;have:=HDT.out
     simp only[c1x,c1v,or_false]
     rintro x (rfl|rfl|rfl|rfl|rfl|rfl)<;>omega)).mono ?_
    rintro _ w6 ⟨A6,c6,rfl,ho6,hb6⟩
    have hk6:=Keeps.of_below hb6 (S:=[])
    have HO6:=c1n ho6
    have HK6:=c1n hk6
    have p06:=hk6.cell (p:=⟨tb,to'+i*2,none⟩) (by simp) p05
    clear ho6 hb6 hk6
    go_wp2_with (at_builtin;refine b4D rfl (.tmp 87) (.tmp 92) rfl w5.heap.size _ (nR+46) _ rfl HO6.out name rfl (by omega) HK6.out.size ?_;intro v7 w7 ho7 hg7;obtain⟨A7,c7,rfl⟩:=a0g ho7;have hk7:=HK6.out.grown hg7 (fun k hk=>.inr (a0m HO6.out k hk));have HO7:=c1n ho7;have HK7:=c1n hk7;clear ho7 hk7 hg7)
    have hbl:nb=body.length:=HBY.out.len.symm
    have e1:zPs ((es.take (i+1)).map ZE.g)=zPs ((es.take i).map ZE.g)++(zlesB 4 [67324752]++sharedB way (S:Int) (nb:Int) (dat.size:Int) (name.size:Int))++sb name++body:=by
     rw[HTK.out,a4X,b1W,ZE.piece_eq]
     dsimp only
     rw[<-HWAY.out,<-HBODY.out]
     unfold a6W b6E
     rw[<-HSS.out,<-hbl,a1o]
     simp only[c1E]
    have hPl:(zPs ((es.take i).map ZE.g)).length=nP:=HPR.out.len
    have e2:zRs 0 ((es.take (i+1)).map ZE.g)=zRs 0 ((es.take i).map ZE.g)++(zlesB 4 [33639248]++(zlesB 2 [20]++(sharedB way (S:Int) (nb:Int) (dat.size:Int) (name.size:Int)++(zlesB 2 [0,0,0]++zlesB 4 [0,(nP:Int)]))))++sb name:=by
     rw[HTK.out,b1X,b6A,ZE.recd_eq,Nat.zero_add,hPl]
     dsimp only
     rw[<-HWAY.out,<-HBODY.out]
     unfold zrec
     rw[<-HSS.out,<-hbl,a1o]
     simp only[c1E]
    have hw25:w.heap.size<=w2.heap.size:=HB2.out.size
    have hw5:w.heap.size<=w5.heap.size:=Nat.le_trans hw25 HK5.out.size
    have HOP8:Hid (w7.ownsRow w.heap.size 5 1 (.slice A5 (nP+30+name.size+nb) c5) (nP+30+name.size+nb) (ints .u8 (zPs ((es.take (i+1)).map ZE.g)))):=c1n (by
     rw[e1]
     exact a0u (a0b HO5.out HK7.out (by simp)) hw25)
    have HOR8:Hid (w7.ownsRow w.heap.size 5 1 (.slice A7 (nR+46+name.size) c7) (nR+46+name.size) (ints .u8 (zRs 0 ((es.take (i+1)).map ZE.g)))):=c1n (by
     rw[e2]
     exact a0u HO7.out hw5)
    have HB8:=c1n (HB2.out.trans (a0c (HK5.out.trans HK7.out) hw25 (by simp)))
    clear e1 e2 hPl hw25 hw5 hbl p0' p03 p05 p06 p1
    go_wp2_with fail
    go_roundw
    case rel=>exact⟨i+1,A5,A7,nP+30+name.size+nb,nR+46+name.size,c5,c7,by omega,by go_num,rfl,rfl,by omega,by omega,HOP8,HOR8,HB8⟩
    case measure=>simp[intOf];omega
  ·have e0:decide (i<n)=false:=by simpa using hlt
   have hin:i=n:=by omega
   have htk:es.take i=es:=c1y (by rw[HL.out];omega)
   rw[htk] at HOP HOR
   have hPr:=a0n HOP.out
   have hRr:=a0n HOR.out
   obtain⟨PA,pc,hpv,hpr⟩:=hPr
   obtain⟨RA,rc,hrv,hrr⟩:=hRr
   injection hpv with pv1 pv2 pv3
   injection hrv with rv1 rv2 rv3
   subst pv1
   subst rv1
   have HRR:=c1n hrr
   have HRN:Hid (AR=none->nR=0/\cR=0):=c1n (fun hnone=>by
    rcases HOR.out.2 with⟨h1,h2⟩|⟨g,cap,cur,h1,-⟩
    ·injection h1 with a b c
     exact⟨b,c⟩
    ·injection h1 with a b c
     rw[hnone] at a
     cases a)
   have HPL:Hid ((zPs (es.map ZE.g)).length=nP):=c1n hpr.len
   have HRL:Hid ((zRs 0 (es.map ZE.g)).length=nR):=c1n hrr.len
   have hw:=HB.out.size
   clear hin htk hpr hrr pv2 pv3 rv2 rv3
   go_wp2_with (at_builtin;refine a2S rfl (.tmp 98) (.tmp 99) rfl w.heap.size _ nP _ rfl HOP.out AR nR cR _ rfl HRR.out HRN.out (by omega) hw ?_;intro v3 w3 ho3 hg3;obtain⟨A3,c3,rfl⟩:=a0g ho3;have HO3:=c1n ho3;have HG3:=c1n hg3;clear ho3 hg3)
   obtain⟨A3',c3',hv3,hr3⟩:=a0n HO3.out
   injection hv3 with q1 q2 q3
   subst q1
   have HB3:=c1n (HB.out.grown HG3.out hw (fun k hk=>a0m HOP.out k hk))
   refine (b9t w3 A3 (nP+nR) c3 _ hr3 (by omega) (n:Int) (nR:Int) (nP:Int) (by
     simp only[c1x,c1v,or_false]
     rintro x (rfl|rfl|rfl)<;>omega)).mono ?_
   rintro _ w4 ⟨A4,c4,rfl,ho4,hb4⟩
   have HF:Hid (w4.ownsRow w.heap.size 5 1 (.slice A4 (nP+nR+22) c4) (zfileB (es.map ZE.g)).length (ints .u8 (zfileB (es.map ZE.g)))):=c1n (by
    have e1:zPs (es.map ZE.g)++zRs 0 (es.map ZE.g)++zendB (n:Int) (nR:Int) (nP:Int)=zfileB (es.map ZE.g):=by
     unfold zfileB
     rw[c1t,HL.out,HPL.out,HRL.out,c1E]
    have e2:nP+nR+22=(zfileB (es.map ZE.g)).length:=by rw[a1q,HPL.out,HRL.out]
    rw[e1,e2] at ho4
    rw[e2]
    exact a0u ho4 HB3.out.size)
   have HB4:=c1n (HB3.out.trans (hb4.mono HB3.out.size))
   clear ho4 hb4 hr3 q2 q3
   go_wp2_with fail
   go_ret
   exact⟨_,rfl,HF.out,HB4.out⟩
end Go.Proofs.YtghjlpechjggjaaGreatDoor
