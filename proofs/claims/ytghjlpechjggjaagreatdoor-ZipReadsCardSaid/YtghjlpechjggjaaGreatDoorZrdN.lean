import Derived.Test.YtghjlpechjggjaaGreatDoorZrdB
import Derived.Test.YtghjlpechjggjaaGreatDoorZrdG
import Derived.Test.YtghjlpechjggjaaGreatDoorZrdM
import Derived.Test.YtghjlpechjggjaaGreatDoorZrdD
import Derived.Test.YtghjlpechjggjaaGreatDoorZrdF
import Derived.BigQuiet
import Derived.Test.YtghjlpechjggjaaGreatDoorZrdA
import Derived.Outline
import Derived.Test.YtghjlpechjggjaaGreatDoorZrdI
set_option linter.defProp false
set_option linter.unnecessarySimpa false
set_option linter.unusedVariables false
set_option linter.unusedSimpArgs false
set_option linter.constructorNameAsVariable false
set_option maxRecDepth 100000
set_option maxHeartbeats 60000000
namespace Go.Proofs.YtghjlpechjggjaaGreatDoor
open Go.RowKit
private def c3o := @Lib.hid
private def c3p := @decide_eq_false
private def c3q := @IntWalk.i64_in
private def c3r := @decide_eq_true
private def c3s := @List.getElem?_cons_zero
private def c3t := @List.getElem?_cons_succ
private def c3u := @beq_eq_false_iff_ne
private def c3v := @List.take_succ_eq_append_getElem
private def c3w := @ByteArray.toList_eq
private def c3x := @List.drop_succ_cons
private def c3y := @List.take_succ_cons
private def c3z := @World.ownsRow_nil
private def c3A := @List.drop_zero
private def c3B := @List.take_zero
private def c3C := @List.take_of_length_le
private def c3D := @List.drop_eq_getElem_cons
private def c3E := @wpQuiet_nil
private def c3F := @List.length_append
private def c3G := @List.drop_eq_nil_of_le
private def c3H := @Option.mem_toList
private def c3I := @Nat.add_zero
open Go.RowKit
def a1X(way size sum:Int)(body:List Int):List Int×Int:=
 if way=8 then
  if (a0B body size).2.2≠0∨(a0B body size).2.1≠body.length∨((a0B body size).1.length:Int)≠size then ([],84)
  else if ((crcF (a0B body size).1:Nat):Int)≠sum then ([],83) else ((a0B body size).1,0)
 else if ((crcF body:Nat):Int)≠sum then ([],83) else (body,0)
theorem a7V{xs:List Int}{p:ZP}(h:p.fro+p.len<=xs.length):a1B xs p=a1X p.x.way p.x.size p.x.sum (seg xs p.fro p.len):=by
 unfold a1B a1X
 rw[a3g h]
theorem b3F(w:World)(nm:ByteArray)(a1 a2 a3 a4:Int)(SA:Option Addr)(sn sc:Nat)(body:List Int)(hr:RI .u8 w SA sn body)(hb:∀ x∈body,0<=x/\x<=255)(hnil:SA=none->sn=0/\sc=0)(hsn:sn<=1000000)(ha1:a1<=16384)(hT:Tabz w) :
  Calls Tryz.prog 48 #[.agg #[.string nm,.int .i64 a1,.int .i64 a2,.int .u32 a3,.int .i64 a4,.slice SA sn sc]] w fun e w'=>e=.returned (.tuple #[.string (strOfNums (a1X a4 a1 a3 body).1),.int .i64 (a1X a4 a1 a3 body).2])/\Below w.heap.size w w':=by
 have HR:=c3o hr
 have HBY:=c3o hb
 have HN:=c3o hnil
 have HT:=c3o hT
 have HL:Hid (body.length=sn):=c3o hr.len
 have kT:∀ b c,convert b c=convert b c:=fun _ _=>rfl
 clear hr hb hnil hT kT
 obtain⟨X,hX⟩:∃ z,z=w.heap.size:=⟨_,rfl⟩
 obtain⟨w1,hw1⟩:∃ z,z=w.alloc (.cells #[.string nm,.int .i64 a1,.int .i64 a2,.int .u32 a3,.int .i64 a4,.slice SA sn sc] 77):=⟨_,rfl⟩
 have k1:Keeps [] w w1:=by rw[hw1];exact (Keeps.refl [] w).alloc _
 have X1:Hid (Blk w1 X 77 [.string nm,.int .i64 a1,.int .i64 a2,.int .u32 a3,.int .i64 a4,.slice SA sn sc]):=c3o (by rw[hw1,hX];exact a0d w _ _)
 have B1:Hid (Below w.heap.size w w1):=c3o k1.below
 have R1:=c3o (HR.out.keeps k1 (a0a _))
 have T1:=c3o (HT.out.keeps k1 (by simp))
 have x1:=X1.out.cell 1
 have x3:=X1.out.cell 3
 have x4:=X1.out.cell 4
 have x5:=X1.out.cell 5
 simp only[c3s,c3t] at x1 x3 x4 x5
 obtain⟨w1',hw1'⟩:∃ z,z=w1:=⟨_,rfl⟩
 -- the end: the check,and the bytes as a text
 have END:Hid (∀ (W:World) (out:List Int) (A:Option Addr) (n c:Nat),RI .u8 W A n out->(∀ x∈out,0<=x/\x<=255)->n<=1000000->Below w.heap.size w W->Tabz W->Calls Tryz.prog 28 #[.slice A n c] W fun e w'=>e=.returned (.int .u32 ((crcF out:Nat):Int))/\∃ m,w'=W.drewN m):=c3o (fun W out A n c hr hb hn hB hT=>(b1E W A n c out hr hb (by omega) hT).mono fun _ _ ⟨h,m,hm⟩=>⟨h,m,hm⟩)
 go_enter Tryz.func48,Tryz.ntmps48
 go_upto_region 1 with (fail)
 rw[<-hw1,<-hX]
 clear hw1 hX hw1'
 by_cases h8:a4=8
 ·have b8:(a4==8)=true:=by simpa using h8
  have HP:Hid (a1X a4 a1 a3 body=if (a0B body a1).2.2≠0∨(a0B body a1).2.1≠body.length∨((a0B body a1).1.length:Int)≠a1 then ([],84) else if ((crcF (a0B body a1).1:Nat):Int)≠a3 then ([],83) else ((a0B body a1).1,0)):=c3o (by unfold a1X;rw[if_pos h8])
  clear h8
  go_wp2_with fail
  refine (a9r w1 SA sn sc body a1 T1.out.lens R1.out HN.out (fun j=>ZU8.nth (l:=body) HBY.out j) (by omega)).mono ?_
  rintro _ w2 ⟨v2,rfl,ho2,hb2⟩
  have hk2:=Keeps.of_below hb2 (S:=[])
  have HU:=c3o (b4d body a1)
  obtain⟨A2,c2,rfl,hr2⟩:=a0Q ho2
  generalize a0B body a1=r at *
  obtain⟨out,used,err⟩:=r
  dsimp only at HP HU hr2 ho2 ⊢
  obtain⟨on,hon⟩:∃ z,z=out.length:=⟨_,rfl⟩
  rw[<-hon] at hr2 HP ⊢
  have HON:=c3o hon
  have R2:=c3o hr2
  have X2:=c3o (X1.out.keeps hk2 (by simp))
  have B2:=c3o (B1.out.trans (a0c hk2 B1.out.size (by simp)))
  have T2:=c3o (T1.out.keeps hk2 (by simp))
  have x1:=X2.out.cell 1
  have x3:=X2.out.cell 3
  have x5:=X2.out.cell 5
  simp only[c3s,c3t] at x1 x3 x5
  clear hr2 ho2 hb2 hk2 hon x4 R1 X1 B1 T1
  by_cases e0:err=0
  case neg=>
   have b0:(err !=0)=true:=by simpa using e0
   have HQ:Hid (a1X a4 a1 a3 body=([],84)):=c3o (by rw[HP.out,if_pos (.inl e0)])
   clear e0
   go_wp2_with fail
   go_ret2
   exact⟨by rw[HQ.out];rfl,B2.out⟩
  have b0:(err !=0)=false:=by simpa using e0
  by_cases e1:used=body.length
  case neg=>
   have b1:((used:Int) !=(sn:Int))=true:=by have:=HL.out;simp;omega
   have HQ:Hid (a1X a4 a1 a3 body=([],84)):=c3o (by rw[HP.out,if_pos (.inr (.inl e1))])
   clear e0 e1
   go_wp2_with fail
   go_ret2
   exact⟨by rw[HQ.out];rfl,B2.out⟩
  have b1:((used:Int) !=(sn:Int))=false:=by have:=HL.out;simp;omega
  by_cases e2:(on:Int)=a1
  case neg=>
   have b2:((on:Int) !=a1)=true:=by simpa using e2
   have HQ:Hid (a1X a4 a1 a3 body=([],84)):=c3o (by rw[HP.out,if_pos (.inr (.inr e2))])
   clear e0 e1 e2
   go_wp2_with fail
   go_ret2
   exact⟨by rw[HQ.out];rfl,B2.out⟩
  have b2:((on:Int) !=a1)=false:=by simpa using e2
  have HP2:Hid (a1X a4 a1 a3 body=if ((crcF out:Nat):Int)≠a3 then ([],83) else (out,0)):=c3o (by rw[HP.out,if_neg (by rintro (h|h|h);exact h e0;exact h e1;exact h e2)])
  have HCL:Hid (∀ q,Calls Tryz.prog 28 #[.slice A2 on c2] (w2.drewN q) fun e w'=>e=.returned (.int .u32 ((crcF out:Nat):Int))/\∃ m,w'=(w2.drewN q).drewN m):=c3o (fun q=>END.out (w2.drewN q) out A2 on c2 (R2.out.keeps ((Keeps.refl [] w2).drewN q) (a0a _)) HU.out (by omega) (B2.out.trans (a0c ((Keeps.refl [] w2).drewN q) B2.out.size (by simp))) (T2.out.keeps ((Keeps.refl [] w2).drewN q) (by simp)))
  have hcv:∀ q,(convert 26 9 (.slice A2 on c2)).run Tryz.prog (w2.drewN q)=.ok (.string (strOfNums out)) (w2.drewN q):=fun q=>b3E (R2.out.keeps ((Keeps.refl [] w2).drewN q) (a0a _))
  clear e0 e1 e2 HP
  generalize crcF out=S at *
  go_upto_region 7 with (fail)
  go_quiet (first|(go_at_call 28;exact Calls.quiet_of (HCL.out _)))
  have hcv:=hcv nq
  by_cases e3:(S:Int)=a3
  ·have b3:((S:Int) !=a3)=false:=by simpa using e3
   have HQ:Hid (a1X a4 a1 a3 body=(out,0)):=c3o (by rw[HP2.out,if_neg (fun h=>h e3)])
   clear e3
   go_wp2_with fail
   go_ret2
   exact⟨by rw[HQ.out];rfl,B2.out.trans (a0c ((Keeps.refl [] w2).drewN nq) B2.out.size (by simp))⟩
  ·have b3:((S:Int) !=a3)=true:=by simpa using e3
   have HQ:Hid (a1X a4 a1 a3 body=([],83)):=c3o (by rw[HP2.out,if_pos e3])
   clear e3
   go_wp2_with fail
   go_ret2
   exact⟨by rw[HQ.out];rfl,B2.out.trans (a0c ((Keeps.refl [] w2).drewN nq) B2.out.size (by simp))⟩
 ·have b8:(a4==8)=false:=by simpa using h8
  have HP2:Hid (a1X a4 a1 a3 body=if ((crcF body:Nat):Int)≠a3 then ([],83) else (body,0)):=c3o (by unfold a1X;rw[if_neg h8])
  have HCL:Hid (∀ q,Calls Tryz.prog 28 #[.slice SA sn sc] (w1.drewN q) fun e w'=>e=.returned (.int .u32 ((crcF body:Nat):Int))/\∃ m,w'=(w1.drewN q).drewN m):=c3o (fun q=>END.out (w1.drewN q) body SA sn sc (R1.out.keeps ((Keeps.refl [] w1).drewN q) (a0a _)) HBY.out (by omega) (B1.out.trans (a0c ((Keeps.refl [] w1).drewN q) B1.out.size (by simp))) (T1.out.keeps ((Keeps.refl [] w1).drewN q) (by simp)))
  have hcv:∀ q,(convert 26 9 (.slice SA sn sc)).run Tryz.prog (w1.drewN q)=.ok (.string (strOfNums body)) (w1.drewN q):=fun q=>b3E (R1.out.keeps ((Keeps.refl [] w1).drewN q) (a0a _))
  clear h8
  generalize crcF body=S at *
  go_upto_region 7 with (fail)
  go_quiet (first|(go_at_call 28;exact Calls.quiet_of (HCL.out _)))
  have hcv:=hcv nq
  by_cases e3:(S:Int)=a3
  ·have b3:((S:Int) !=a3)=false:=by simpa using e3
   have HQ:Hid (a1X a4 a1 a3 body=(body,0)):=c3o (by rw[HP2.out,if_neg (fun h=>h e3)])
   clear e3
   go_wp2_with fail
   go_ret2
   exact⟨by rw[HQ.out];rfl,B1.out.trans (a0c ((Keeps.refl [] w1).drewN nq) B1.out.size (by simp))⟩
  ·have b3:((S:Int) !=a3)=true:=by simpa using e3
   have HQ:Hid (a1X a4 a1 a3 body=([],83)):=c3o (by rw[HP2.out,if_pos e3])
   clear e3
   go_wp2_with fail
   go_ret2
   exact⟨by rw[HQ.out];rfl,B1.out.trans (a0c ((Keeps.refl [] w1).drewN nq) B1.out.size (by simp))⟩
open Go.RowKit
theorem a3O{xs:List Int}(hb:∀ x∈xs,0<=x/\x<=255)(p k:Nat):0<=zget xs p k:=(a8v (a5f hb p k)).1
theorem b1V{xs:List Int}{first en:Nat}:∀ {n rp at_:Nat} {acc:List ZP},(a1n xs first en n rp at_ acc).1=0->(a1n xs first en n rp at_ acc).2.length=acc.length+n
 | 0,rp,at_,acc,h=>by
  rw[a1n] at h ⊢
  split
  ·rfl
  ·rename_i hq;rw[if_neg hq] at h;cases h
 | n+1,rp,at_,acc,h=>by
  rw[a1n] at h ⊢
  split
  ·rename_i h0
   rw[if_pos h0] at h
   rw[b1V h,c3F,List.length_singleton];omega
  ·rename_i h0;rw[if_neg h0] at h;exact absurd h h0
theorem a1O{xs:List Int}(hb:∀ x∈xs,0<=x/\x<=255)(h:(zpieces xs).1=0):xs.length<=1048576/\(zpieces xs).2.length<=64/\∀ p∈(zpieces xs).2,p.fro+p.len<=xs.length/\nameB p.x.name=true/\p.x.size<=8192/\0<=p.x.size/\p.x.packed<=16384/\0<=p.x.packed:=by
 unfold zpieces at h ⊢
 split at h;· cases h
 rename_i c1
 rw[if_neg c1]
 split at h;· cases h
 rename_i c2
 rw[if_neg c2]
 split at h;· cases h
 rename_i c3
 rw[if_neg c3]
 split at h;· cases h
 rename_i c4
 rw[if_neg c4]
 have c3':=Classical.not_not.1 c3
 have hfe:a1U xs<=xs.length:=by
  have h1:=c3'.2.2.2.2.1
  have h2:=a3O hb (xs.length-22+12) 4
  have h3:=a3O hb (xs.length-22+16) 4
  unfold a1U
  omega
 refine⟨by omega,by rw[b1V h];simp;omega,fun p hp=>?_⟩
 have hz:a1n xs (a1U xs) (xs.length-22) (a4z xs) (a1U xs) 0 []=(0,(a1n xs (a1U xs) (xs.length-22) (a4z xs) (a1U xs) 0 []).2):=by rw[<-h]
 rcases b4N (fun rp=>a3O hb _ _) hz p hp with h0|⟨h1,h2,h3,h4,h5,rp,at_,rfl⟩
 ·cases h0
 ·exact⟨by omega,h2,h4,a3O hb _ _,h5,a3O hb _ _⟩
theorem b1U{xs:List Int}{first en:Nat}:∀ {n rp at_:Nat} {acc:List ZP},(a1n xs first en n rp at_ acc).1≠0->(a1n xs first en n rp at_ acc).2=[]
 | 0,rp,at_,acc,h=>by
  rw[a1n] at h ⊢
  split
  ·rename_i hq;rw[if_pos hq] at h;exact absurd rfl h
  ·rfl
 | n+1,rp,at_,acc,h=>by
  rw[a1n] at h ⊢
  split
  ·rename_i h0
   rw[if_pos h0] at h
   exact b1U h
  ·rfl
theorem a3n{xs:List Int}(h:(zpieces xs).1≠0):(zpieces xs).2=[]:=by
 unfold zpieces at h ⊢
 split;· rfl
 rename_i c1
 rw[if_neg c1] at h
 split;· rfl
 rename_i c2
 rw[if_neg c2] at h
 split;· rfl
 rename_i c3
 rw[if_neg c3] at h
 split;· rfl
 rename_i c4
 rw[if_neg c4] at h
 exact b1U h
theorem b4M{w w':World}{A:Option Addr}{n c:Nat}{xs:List Int}(hz:ZB w A n c xs)(hT:Tabz w)(hk:Keeps [] w w'){p:ZP}(h:(zpieces xs).1=0)(hp:p∈(zpieces xs).2) :
  Calls Tryz.prog 48 #[.agg (pcz A c p).toArray] w' fun e w2=>e=.returned (.tuple #[.string (strOfNums (a1B xs p).1),.int .i64 (a1B xs p).2])/\Below w'.heap.size w' w2:=by
 obtain⟨q1,-,q⟩:=a1O hz.byte h
 obtain⟨h1,h2,h3,h4,h5,h6⟩:=q p hp
 have hl:=hz.ri.len
 have hnil:A=none->n=0/\c=0:=fun ha=>by
  obtain⟨r1,r2,r3⟩:=hz.cap
  rcases Nat.eq_zero_or_pos c with r|r
  ·omega
  ·obtain⟨b,o,hbo⟩:=r3 r
   rw[ha] at hbo;cases hbo
 have hR:RI .u8 w' (cutA A p.fro c) p.len (seg xs p.fro p.len):=by
  have:=(hz.ri.mid hz.cap (l:=p.fro) (m:=p.fro+p.len) (by omega) (by omega)).keeps hk (a0a _)
  rwa [Nat.add_sub_cancel_left] at this
 rw[a7V h1]
 have hc:=b2l hz.cap hnil (l:=p.fro) (m:=p.fro+p.len) (by omega) (by omega)
 rw[Nat.add_sub_cancel_left] at hc
 exact b3F w' p.x.name p.x.size p.x.packed p.x.sum p.x.way (cutA A p.fro c) p.len (c-p.fro) (seg xs p.fro p.len) hR (a5f hz.byte _ _) hc (by unfold ZP.len;omega) (by omega) (hT.keeps hk (by simp))
theorem a7W{xs:List Int}{ps:List ZP}{i:Nat}(hi:i<ps.length)(acc:List EN):zdatas xs (ps.drop i) acc=if (a1B xs ps[i]).2=0 then zdatas xs (ps.drop (i+1)) (acc++[(ps[i].x.name,strOfNums (a1B xs ps[i]).1)]) else ([],(a1B xs ps[i]).2):=by
 rw[c3D hi,zdatas]
theorem a7X{xs:List Int}{name:ByteArray}{ps:List ZP}{i:Nat}(hi:i<ps.length):a2Y xs name (ps.drop i)=if ps[i].x.name=name then a1B xs ps[i] else a2Y xs name (ps.drop (i+1)):=by
 rw[c3D hi,a2Y]
theorem a8o(e:EN):∀ v∈ecells e,v.oneCell'=true:=by
 intro v hv
 unfold ecells at hv
 simp only[List.mem_cons,List.not_mem_nil,or_false] at hv
 rcases hv with rfl|rfl<;>rfl
def b4L:WT 24 34 2:=⟨.agg #[.string ⟨#[]⟩,.string ⟨#[]⟩],32,by kernel_rfl,Tryz.underlying24,rfl,by decide,by decide⟩
def icells(x:ZI):List Value:=[.string x.name,.int .i64 x.size,.int .i64 x.packed,.int .u32 x.sum,.int .i64 x.way]
theorem a0A(x:ZI):(icells x).length=5:=rfl
theorem a8t(x:ZI):∀ v∈icells x,v.oneCell'=true:=by
 intro v hv
 unfold icells at hv
 simp only[List.mem_cons,List.not_mem_nil,or_false] at hv
 rcases hv with rfl|rfl|rfl|rfl|rfl<;>rfl
def b8s:WT 41 51 5:=⟨.agg #[.string ⟨#[]⟩,.int .i64 0,.int .i64 0,.int .u32 0,.int .i64 0],48,by kernel_rfl,Tryz.underlying41,rfl,by decide,by decide⟩
open Go.RowKit
theorem b3L(w:World)(A:Option Addr)(n c:Nat)(xs:List Int)(hz:ZB w A n c xs)(hT:Tabz w) :
  Calls Tryz.prog 18 #[.slice A n c] w fun e w'=>∃ v,e=.returned (.tuple #[v,.int .i64 (a1K xs).2])/\((a1K xs).2≠0->v=.slice none 0 0)/\w'.ownsRow w.heap.size 34 2 v (a1K xs).1.length ((a1K xs).1.flatMap ecells)/\Below w.heap.size w w':=by
 have HZ:=c3o hz
 have HT:=c3o hT
 clear hz hT
 go_enter Tryz.func18,Tryz.ntmps18
 go_wp2_with fail
 refine (a3I w A n c xs HZ.out).mono ?_
 rintro _ w2 ⟨v2,rfl,hv0,hv1,hb2⟩
 have HB2:=c3o hb2
 by_cases e0:(zpieces xs).1=0
 case neg=>
  have HR:Hid (a1K xs=([],(zpieces xs).1)):=c3o (by unfold a1K;rw[if_neg e0])
  have b0:((zpieces xs).1 !=0)=true:=by simpa using e0
  obtain rfl:=hv0 e0
  clear hv0 hv1 hb2 e0
  generalize (zpieces xs).1=E at *
  go_wp2_with fail
  go_ret2
  exact⟨.slice none 0 0,by rw[HR.out];rfl,fun _=>rfl,by rw[HR.out];exact c3z _ _ _ _,HB2.out⟩
 have b0:((zpieces xs).1 !=0)=false:=by simpa using e0
 obtain⟨AP,cP,rfl,hrw,hcap,hblk⟩:=a4Z (by decide) (a4o A c) (hv1 e0)
 have HE0:=c3o e0
 have HR:Hid (a1K xs=zdatas xs (zpieces xs).2 []):=c3o (by unfold a1K;rw[if_pos e0])
 have hpi:=a1O HZ.out.byte e0
 have hm64:=hpi.2.1
 have HD:Hid (∀ p∈(zpieces xs).2,∀ w',Keeps [] w w'->Calls Tryz.prog 48 #[.agg (pcz A c p).toArray] w' fun e w2=>e=.returned (.tuple #[.string (strOfNums (a1B xs p).1),.int .i64 (a1B xs p).2])/\Below w'.heap.size w' w2):=c3o (fun p hp w' hk=>b4M HZ.out HT.out hk HE0.out hp)
 have HRW:=c3o hrw
 have HEZ:Hid ((zpieces xs).1=0):=HE0
 clear hv0 hv1 hb2 e0 hrw hcap hblk HE0 hpi
 rw[HEZ.out] at b0 ⊢
 clear HEZ b0
 generalize (zpieces xs).2=ps at *
 obtain⟨m,hm⟩:∃ z,z=ps.length:=⟨_,rfl⟩
 have HM:=c3o hm
 rw[<-hm] at HRW hm64 ⊢
 clear hm
 go_upto_region 6 with (fail)
 go_loopw [6,21] (fun ov iv wr=>∃ (i:Nat) (acc:List EN) (AO:Option Addr) (cO:Nat),i<=m/\iv=.int .i64 i/\ov=.slice AO i cO/\Hid (a1K xs=zdatas xs (ps.drop i) acc)/\Hid (acc.length=i)/\Hid (wr.ownsRow w2.heap.size 34 2 (.slice AO i cO) i (acc.flatMap ecells))/\Hid (Below w2.heap.size w2 wr)) (fun _ iv _=>m-(intOf iv).toNat)
 case atStart=>exact⟨0,[],none,0,by omega,rfl,rfl,HR,c3o rfl,c3o (c3z _ _ _ _),c3o (Below.refl _ _)⟩
 case round=>
  obtain⟨i,acc,AO,cO,hi,rfl,rfl,HRI,HAL,HO,HB⟩:=hrel
  by_cases hlt:i<m
  ·have e1:decide (i<m)=true:=c3r hlt
   obtain⟨tb,to',rfl⟩:=HRW.out.hd (by omega)
   have hpl:i<ps.length:=by rw[<-HM.out];exact hlt
   have hrw:=(HRW.out.keeps (a4o A c) (Keeps.of_below HB.out (S:=[])) (a0a _)).cell tb to' rfl i hpl
   have p0:=hrw 0 (by omega)
   have p1:=hrw 1 (by omega)
   have p2:=hrw 2 (by omega)
   have p3:=hrw 3 (by omega)
   have p4:=hrw 4 (by omega)
   have p5:=hrw 5 (by omega)
   have HRS:Hid _:=c3o (HRI.out.trans (a7W hpl acc))
   have HDP:=c3o (HD.out ps[i] (List.getElem_mem _))
   clear hrw HRI HRW
   generalize ps[i]=p at *
   simp only[pcz,c3s,c3t,c3I] at p0 p1 p2 p3 p4 p5
   obtain⟨Xb,hXb⟩:∃ z,z=wr.heap.size:=⟨_,rfl⟩
   obtain⟨w3,hw3⟩:∃ z,z=wr.alloc (.cells (pcz A c p).toArray 77):=⟨_,rfl⟩
   have k3:Keeps [] wr w3:=by rw[hw3];exact (Keeps.refl [] wr).alloc _
   have hX3:Hid (Blk w3 Xb 77 (pcz A c p)):=c3o (by rw[hw3,hXb];exact a0d wr _ _)
   have HCL:Hid (Calls Tryz.prog 48 #[.agg (pcz A c p).toArray] w3 fun e w2=>e=.returned (.tuple #[.string (strOfNums (a1B xs p).1),.int .i64 (a1B xs p).2])/\Below w3.heap.size w3 w2):=c3o (HDP.out w3 (((Keeps.of_below HB2.out (S:=[])).trans (Keeps.of_below HB.out)).trans k3))
   have HB3:=c3o (HB.out.trans (a0c k3 HB.out.size (by simp)))
   have HO3:=c3o (a0b HO.out k3 (by simp))
   clear k3 HDP
   simp only[pcz] at hw3 HCL hX3
   go_upto_region 8 with (fail)
   rw[<-hw3,<-hXb]
   clear hw3 hXb p0 p1 p2 p3 p4 p5
   have x0:=hX3.out.cell 0
   have x1:=hX3.out.cell 1
   have x2:=hX3.out.cell 2
   have x3:=hX3.out.cell 3
   have x4:=hX3.out.cell 4
   have x5:=hX3.out.cell 5
   simp only[c3s,c3t] at x0 x1 x2 x3 x4 x5
   go_wp2_with fail
   refine HCL.out.mono ?_
   rintro _ w4 ⟨rfl,hb4⟩
   have k4:=Keeps.of_below hb4 (S:=[])
   have HB4:=c3o (HB3.out.trans (a0c k4 HB3.out.size (by simp)))
   have HO4:=c3o (a0b HO3.out k4 (by simp))
   have X4:=hX3.out.keeps k4 (by simp)
   have x0:=X4.cell 0
   simp only[c3s,c3t] at x0
   clear x1 x2 x3 x4 x5 X4 k4 hb4 HCL hX3 HB3 HO3 HB HO
   generalize a1B xs p=r at *
   obtain⟨out,er⟩:=r
   dsimp only at HRS ⊢
   by_cases e4:er=0
   ·have b4:(er !=0)=false:=by simpa using e4
    subst e4
    have HRT:Hid (a1K xs=zdatas xs (ps.drop (i+1)) (acc++[(p.x.name,strOfNums out)])):=c3o (by rw[HRS.out,if_pos rfl])
    clear HRS b4
    generalize strOfNums out=so at *
    go_wp2_with (at_builtin;refine app_rw b4L a0g a8o rfl (.tmp 33) (.tmp 39) rfl w2.heap.size _ i acc rfl (a0b HO4.out ((Keeps.refl [] w4).alloc _) (by simp)) w4.heap.size (p.x.name,so) rfl (fun j hj=>(a0d w4 34 [.string p.x.name,.string so]).cell j) (by omega) (by have:=HB4.out.size;simp;omega) ?_;intro v5 w5 ho5 hg5;obtain⟨A5,c5,rfl⟩:=a0h ho5;have HO5:=c3o ho5;have HB5:=c3o ((HB4.out.alloc HB4.out.size (.cells #[.string p.x.name,.string so] 34)).grown hg5 (by have:=HB4.out.size;simp;omega) (fun k hk=>a0j HO4.out k hk));clear ho5 hg5)
    go_roundw
    case rel=>exact⟨i+1,acc++[(p.x.name,so)],A5,c5,by omega,by go_num,rfl,HRT,c3o (by rw[c3F,HAL.out];rfl),HO5,HB5⟩
    case measure=>simp[intOf];omega
   ·have b4:(er !=0)=true:=by simpa using e4
    have HRT:Hid (a1K xs=([],er)):=c3o (by rw[HRS.out,if_neg e4])
    clear HRS e4
    go_wp2_with fail
    go_ret2
    exact⟨.slice none 0 0,by rw[HRT.out];rfl,fun _=>rfl,by rw[HRT.out];exact c3z _ _ _ _,HB2.out.trans (a0c (Keeps.of_below HB4.out (S:=[])) HB2.out.size (by simp))⟩
  ·have e1:decide (i<m)=false:=c3p hlt
   have him:i=m:=by omega
   have HRT:Hid (a1K xs=(acc,0)):=c3o (by rw[HRI.out,him,HM.out,List.drop_length,zdatas])
   clear HRI him
   go_wp2_with fail
   go_ret2
   refine⟨.slice AO i cO,by rw[HRT.out];rfl,fun h=>absurd (by rw[HRT.out]) h,?_,HB2.out.trans (a0c (Keeps.of_below HB.out (S:=[])) HB2.out.size (by simp))⟩
   rw[HRT.out]
   show wr.ownsRow _ _ _ _ acc.length _
   rw[HAL.out]
   exact a3H HO.out HB2.out.size
open Go.RowKit
theorem b3I(w:World)(A:Option Addr)(n c:Nat)(xs:List Int)(hz:ZB w A n c xs) :
  Calls Tryz.prog 20 #[.slice A n c] w fun e w'=>∃ v,e=.returned (.tuple #[v,.int .i64 (zpieces xs).1])/\w'.ownsRow w.heap.size 51 5 v (zpieces xs).2.length (((zpieces xs).2.map ZP.x).flatMap icells)/\Below w.heap.size w w':=by
 have HZ:=c3o hz
 clear hz
 go_enter Tryz.func20,Tryz.ntmps20
 go_wp2_with fail
 refine (a3I w A n c xs HZ.out).mono ?_
 rintro _ w2 ⟨v2,rfl,hv0,hv1,hb2⟩
 have HB2:=c3o hb2
 have hown:w2.ownsRow w.heap.size 77 6 v2 (zpieces xs).2.length ((zpieces xs).2.flatMap (pcz A c)):=by
  by_cases e0:(zpieces xs).1=0
  ·exact hv1 e0
  ·rw[hv0 e0,a3n e0];exact c3z _ _ _ _
 have hm64:(zpieces xs).2.length<=64:=by
  by_cases e0:(zpieces xs).1=0
  ·exact (a1O HZ.out.byte e0).2.1
  ·rw[a3n e0];simp
 obtain⟨AP,cP,rfl,hrw,hcap,hblk⟩:=a4Z (by decide) (a4o A c) hown
 have HRW:=c3o hrw
 clear hv0 hv1 hb2 hrw hcap hblk hown
 obtain⟨ps,hps⟩:∃ z,z=(zpieces xs).2:=⟨_,rfl⟩
 obtain⟨E,hE⟩:∃ z,z=(zpieces xs).1:=⟨_,rfl⟩
 rw[<-hps] at HRW hm64
 rw[<-hE]
 have HPS:=c3o hps
 have HE:=c3o hE
 clear hps hE
 obtain⟨m,hm⟩:∃ z,z=ps.length:=⟨_,rfl⟩
 have HM:=c3o hm
 have HRW:Hid (RW 6 (pcz A c) w2 AP m ps):=by rw[hm];exact HRW
 rw[<-hm] at hm64
 have hm':(zpieces xs).2.length=m:=by rw[hm,HPS.out]
 rw[hm']
 clear hm
 go_upto_region 4 with (fail)
 go_loopw [6,16] (fun ov iv wr=>∃ (i:Nat) (AO:Option Addr) (cO:Nat),i<=m/\iv=.int .i64 i/\ov=.slice AO i cO/\Hid (wr.ownsRow w2.heap.size 51 5 (.slice AO i cO) i (((ps.take i).map ZP.x).flatMap icells))/\Hid (Below w2.heap.size w2 wr)) (fun _ iv _=>m-(intOf iv).toNat)
 case atStart=>exact⟨0,none,0,by omega,rfl,rfl,c3o (c3z _ _ _ _),c3o (Below.refl _ _)⟩
 case round=>
  obtain⟨i,AO,cO,hi,rfl,rfl,HO,HB⟩:=hrel
  by_cases hlt:i<m
  ·have e1:decide (i<m)=true:=c3r hlt
   obtain⟨tb,to',rfl⟩:=HRW.out.hd (by omega)
   have hpl:i<ps.length:=by rw[<-HM.out];exact hlt
   have hrw:=(HRW.out.keeps (a4o A c) (Keeps.of_below HB.out (S:=[])) (a0a _)).cell tb to' rfl i hpl
   have p0:=hrw 0 (by omega)
   have p1:=hrw 1 (by omega)
   have p2:=hrw 2 (by omega)
   have p3:=hrw 3 (by omega)
   have p4:=hrw 4 (by omega)
   have p5:=hrw 5 (by omega)
   have HTK:Hid ((ps.take (i+1)).map ZP.x=(ps.take i).map ZP.x++[ps[i].x]):=c3o (by rw[c3v hpl,List.map_append];rfl)
   clear hrw HRW
   generalize ps[i]=p at *
   simp only[pcz,c3s,c3t,c3I] at p0 p1 p2 p3 p4 p5
   obtain⟨Xb,hXb⟩:∃ z,z=wr.heap.size:=⟨_,rfl⟩
   obtain⟨w3,hw3⟩:∃ z,z=wr.alloc (.cells (pcz A c p).toArray 77):=⟨_,rfl⟩
   have k3:Keeps [] wr w3:=by rw[hw3];exact (Keeps.refl [] wr).alloc _
   have hX3:Hid (Blk w3 Xb 77 (pcz A c p)):=c3o (by rw[hw3,hXb];exact a0d wr _ _)
   have HB3:=c3o (HB.out.trans (a0c k3 HB.out.size (by simp)))
   have HO3:=c3o (a0b HO.out k3 (by simp))
   clear k3
   simp only[pcz] at hw3 hX3
   go_upto_region 6 with (fail)
   rw[<-hw3,<-hXb]
   clear hw3 hXb p0 p1 p2 p3 p4 p5
   have x0:=hX3.out.cell 0
   have x1:=hX3.out.cell 1
   have x2:=hX3.out.cell 2
   have x3:=hX3.out.cell 3
   have x4:=hX3.out.cell 4
   simp only[c3s,c3t] at x0 x1 x2 x3 x4
   clear HB HO hX3
   go_wp2_with (at_builtin;go_loud (refine app_rw b8s a0A a8t rfl (.tmp 20) (.tmp 23) rfl w2.heap.size _ i ((ps.take i).map ZP.x) rfl (a0b HO3.out ((Keeps.refl [] w3).alloc _) (by simp)) w3.heap.size p.x rfl (fun j hj=>(a0d w3 51 [.string p.x.name,.int .i64 p.x.size,.int .i64 p.x.packed,.int .u32 p.x.sum,.int .i64 p.x.way]).cell j) (by omega) (by have:=HB3.out.size;simp;omega) ?_;intro v5 w5 ho5 hg5;obtain⟨A5,c5,rfl⟩:=a0h ho5;have HO5:=c3o ho5;have HB5:=c3o ((HB3.out.alloc HB3.out.size (.cells #[.string p.x.name,.int .i64 p.x.size,.int .i64 p.x.packed,.int .u32 p.x.sum,.int .i64 p.x.way] 51)).grown hg5 (by have:=HB3.out.size;simp;omega) (fun k hk=>a0j HO3.out k hk));clear ho5 hg5))
   go_roundw
   case rel=>exact⟨i+1,A5,c5,by omega,by go_num,rfl,by rw[HTK.out];exact HO5,HB5⟩
   case measure=>simp[intOf];omega
  ·have e1:decide (i<m)=false:=c3p hlt
   have him:i=m:=by omega
   have HT:Hid ((ps.take i).map ZP.x=ps.map ZP.x):=c3o (by rw[him,HM.out,List.take_length])
   have HI:=c3o him
   clear him
   go_wp2_with fail
   go_ret2
   refine⟨.slice AO i cO,by rw[<-HE.out];rfl,?_,HB2.out.trans (a0c (Keeps.of_below HB.out (S:=[])) HB2.out.size (by simp))⟩
   rw[<-HPS.out,<-HT.out,<-HM.out,<-HI.out]
   exact a3H HO.out HB2.out.size
open Go.RowKit
theorem b3H(w:World)(A:Option Addr)(n c:Nat)(xs:List Int)(name:ByteArray)(hz:ZB w A n c xs)(hT:Tabz w) :
  Calls Tryz.prog 21 #[.slice A n c,.string name] w fun e w'=>e=.returned (.tuple #[.string (strOfNums (a2C xs name).1),.int .i64 (a2C xs name).2])/\Below w.heap.size w w':=by
 have HZ:=c3o hz
 have HT:=c3o hT
 clear hz hT
 go_enter Tryz.func21,Tryz.ntmps21
 go_wp2_with fail
 refine (a3I w A n c xs HZ.out).mono ?_
 rintro _ w2 ⟨v2,rfl,hv0,hv1,hb2⟩
 have HB2:=c3o hb2
 by_cases e0:(zpieces xs).1=0
 case neg=>
  have HR:Hid (a2C xs name=([],(zpieces xs).1)):=c3o (by unfold a2C;rw[if_neg e0])
  have b0:((zpieces xs).1 !=0)=true:=by simpa using e0
  obtain rfl:=hv0 e0
  clear hv0 hv1 hb2 e0
  generalize (zpieces xs).1=E at *
  go_wp2_with fail
  go_ret2
  exact⟨by rw[HR.out];rfl,HB2.out⟩
 have b0:((zpieces xs).1 !=0)=false:=by simpa using e0
 obtain⟨AP,cP,rfl,hrw,hcap,hblk⟩:=a4Z (by decide) (a4o A c) (hv1 e0)
 have HE0:=c3o e0
 have HR:Hid (a2C xs name=a2Y xs name (zpieces xs).2):=c3o (by unfold a2C;rw[if_pos e0])
 have hpi:=a1O HZ.out.byte e0
 have hm64:=hpi.2.1
 have HD:Hid (∀ p∈(zpieces xs).2,∀ w',Keeps [] w w'->Calls Tryz.prog 48 #[.agg (pcz A c p).toArray] w' fun e w2=>e=.returned (.tuple #[.string (strOfNums (a1B xs p).1),.int .i64 (a1B xs p).2])/\Below w'.heap.size w' w2):=c3o (fun p hp w' hk=>b4M HZ.out HT.out hk HE0.out hp)
 have HRW:=c3o hrw
 have HEZ:Hid ((zpieces xs).1=0):=HE0
 clear hv0 hv1 hb2 e0 hrw hcap hblk HE0 hpi
 rw[HEZ.out] at b0 ⊢
 clear HEZ b0
 generalize (zpieces xs).2=ps at *
 obtain⟨m,hm⟩:∃ z,z=ps.length:=⟨_,rfl⟩
 have HM:=c3o hm
 rw[<-hm] at HRW hm64 ⊢
 clear hm
 go_upto_region 5 with (fail)
 go_loopw [20] (fun iv wr=>∃ (i:Nat),i<=m/\iv=.int .i64 i/\Hid (a2C xs name=a2Y xs name (ps.drop i))/\Hid (Below w2.heap.size w2 wr)) (fun iv _=>m-(intOf iv).toNat)
 case atStart=>exact⟨0,by omega,rfl,HR,c3o (Below.refl _ _)⟩
 case round=>
  obtain⟨i,hi,rfl,HRI,HB⟩:=hrel
  by_cases hlt:i<m
  ·have e1:decide (i<m)=true:=c3r hlt
   obtain⟨tb,to',rfl⟩:=HRW.out.hd (by omega)
   have hpl:i<ps.length:=by rw[<-HM.out];exact hlt
   have hrw:=(HRW.out.keeps (a4o A c) (Keeps.of_below HB.out (S:=[])) (a0a _)).cell tb to' rfl i hpl
   have p0:=hrw 0 (by omega)
   have p1:=hrw 1 (by omega)
   have p2:=hrw 2 (by omega)
   have p3:=hrw 3 (by omega)
   have p4:=hrw 4 (by omega)
   have p5:=hrw 5 (by omega)
   have HRS:Hid _:=c3o (HRI.out.trans (a7X hpl))
   have HDP:=c3o (HD.out ps[i] (List.getElem_mem _))
   clear hrw HRI HRW
   generalize ps[i]=p at *
   simp only[pcz,c3s,c3t,c3I] at p0 p1 p2 p3 p4 p5
   obtain⟨Xb,hXb⟩:∃ z,z=wr.heap.size:=⟨_,rfl⟩
   obtain⟨w3,hw3⟩:∃ z,z=wr.alloc (.cells (pcz A c p).toArray 77):=⟨_,rfl⟩
   have k3:Keeps [] wr w3:=by rw[hw3];exact (Keeps.refl [] wr).alloc _
   have hX3:Hid (Blk w3 Xb 77 (pcz A c p)):=c3o (by rw[hw3,hXb];exact a0d wr _ _)
   have HCL:Hid (Calls Tryz.prog 48 #[.agg (pcz A c p).toArray] w3 fun e w2=>e=.returned (.tuple #[.string (strOfNums (a1B xs p).1),.int .i64 (a1B xs p).2])/\Below w3.heap.size w3 w2):=c3o (HDP.out w3 (((Keeps.of_below HB2.out (S:=[])).trans (Keeps.of_below HB.out)).trans k3))
   have HB3:=c3o (HB.out.trans (a0c k3 HB.out.size (by simp)))
   clear k3 HDP
   simp only[pcz] at hw3 HCL hX3
   go_upto_region 7 with (fail)
   rw[<-hw3,<-hXb]
   clear hw3 hXb p0 p1 p2 p3 p4 p5
   have x0:=hX3.out.cell 0
   have x1:=hX3.out.cell 1
   have x2:=hX3.out.cell 2
   have x3:=hX3.out.cell 3
   have x4:=hX3.out.cell 4
   have x5:=hX3.out.cell 5
   simp only[c3s,c3t] at x0 x1 x2 x3 x4 x5
   by_cases hnm:p.x.name=name
   ·have HRT:Hid (a2C xs name=a1B xs p):=c3o (by rw[HRS.out,if_pos hnm])
    subst hnm
    clear HRS
    go_wp2_with fail
    refine HCL.out.mono ?_
    rintro _ w4 ⟨rfl,hb4⟩
    have k4:=Keeps.of_below hb4 (S:=[])
    have HB4:=c3o (HB3.out.trans (a0c k4 HB3.out.size (by simp)))
    clear k4 hb4 x0 x1 x2 x3 x4 x5 HCL
    go_wp2_with fail
    go_ret2
    exact⟨by rw[HRT.out];rfl,HB2.out.trans (a0c (Keeps.of_below HB4.out (S:=[])) HB2.out.size (by simp))⟩
   ·have HRT:Hid (a2C xs name=a2Y xs name (ps.drop (i+1))):=c3o (by rw[HRS.out,if_neg hnm])
    have s0:¬p.x.name.toList=name.toList:=fun e=>hnm (by rw[c3w,c3w] at e;cases hh:p.x.name;rw[hh] at e;cases name;simpa using e)
    have s2:decide (p.x.name.toList=name.toList)=false:=c3p s0
    have s3:(p.x.name.toList==name.toList)=false:=c3u.2 s0
    clear HRS hnm
    go_wp2_with fail
    go_roundw
    case rel=>exact⟨i+1,by omega,by go_num,HRT,HB3⟩
    case measure=>simp[intOf];omega
  ·have e1:decide (i<m)=false:=c3p hlt
   have him:i=m:=by omega
   have HRT:Hid (a2C xs name=([],85)):=c3o (by rw[HRI.out,him,HM.out,List.drop_length,a2Y])
   clear HRI him
   go_wp2_with fail
   go_ret2
   exact⟨by rw[HRT.out];rfl,HB2.out.trans (a0c (Keeps.of_below HB.out (S:=[])) HB2.out.size (by simp))⟩
open Go.RowKit
structure FF (l:List EN) (xs:List Int) (es:List ZE):Prop where
 out:es.map ZE.out=l
 ok:∀ e∈es,e.Ok
 nd:(es.map ZE.name).Nodup
 many:es.length<=64
 xs:xs=zfileB (es.map ZE.g)
theorem c3e{l:List EN}{xs:List Int}(hc:a1k l=0)(h:FileOf l xs):∃ es,FF l xs es:=by
 obtain⟨es,a1,a2,rfl⟩:=h.out
 obtain⟨b1,b2,b3⟩:=c0T hc a1 a2
 exact⟨es,a1,b1,b2,b3,rfl⟩
section
variable {l:List EN} {xs:List Int} {es:List ZE}
theorem FF.zok(h:FF l xs es):ZOk (es.map ZE.g):=c0U h.ok h.nd h.many
theorem FF.u8(h:FF l xs es):∀ x∈xs,0<=x/\x<=255:=by
 rw[h.xs]
 exact c0t (fun g hg x hx=>by obtain⟨e,he,rfl⟩:=List.mem_map.1 hg;exact (h.ok e he).body_u8 x hx)
theorem FF.len(h:FF l xs es):22<=xs.length/\xs.length<=600000:=by
 have h1:=a4y h.zok
 have h2:=a2X (es.map ZE.g)
 rw[h.xs];omega
theorem FF.read(h:FF l xs es):a1K xs=(l,0):=by
 rw[h.xs,b6d h.zok,b8A es [] h.ok,List.nil_append,h.out]
end
open Go.RowKit
theorem b0m{a1 a2:ByteArray}:a1.toList=a2.toList↔a1=a2:=by
 constructor
 ·intro e
  rw[c3w,c3w] at e
  cases a1;cases a2
  simpa using e
 ·rintro rfl;rfl
theorem b0G(w:World)(a1 a2 b1 b2:ByteArray):(binOp .neq 34 (.agg #[.string a1,.string b1]) (.agg #[.string a2,.string b2])).run Tryz.prog w=.ok (.bool (!decide (((a1,b1):EN)=(a2,b2)))) w:=by
 have u9:=Tryz.underlying9
 have hS:Tryz.prog.underlying 34=some (.struct (Tryz.prog.fieldsOf 34)):=by kernel_rfl
 have hp:Tryz.prog.stoodInHeld 34=false:=by kernel_rfl
 rw[run_neq_struct,show (10000:Nat)=9999+1 from rfl,run_equalIn_agg w 9999 34 _ _ hS hp]
 simp only[Program.fieldsOf,Tryz.underlying34]
 go_simp
 by_cases h1:a1=a2<;>by_cases h2:b1=b2<;>simp[h1,h2,b0m]
theorem b2n(x y:Operand)(w:World)(a1 a2 b1 b2:ByteArray):(eqGuard .neq 34 x y (.agg #[.string a1,.string b1]) (.agg #[.string a2,.string b2])).run Tryz.prog w=.ok () w:=
 run_eqGuard_agg _ _ _ _ _ _ _ (by kernel_rfl)
theorem b4e(w:World)(a1 a2:ByteArray)(b1 b2 c1 c2 d1 d2 e1 e2:Int):(binOp .neq 51 (.agg #[.string a1,.int .i64 b1,.int .i64 c1,.int .u32 d1,.int .i64 e1]) (.agg #[.string a2,.int .i64 b2,.int .i64 c2,.int .u32 d2,.int .i64 e2])).run Tryz.prog w=.ok (.bool (!decide ((⟨a1,b1,c1,d1,e1⟩:ZI)=⟨a2,b2,c2,d2,e2⟩))) w:=by
 have u3:=Tryz.underlying3
 have u9:=Tryz.underlying9
 have u32:=Tryz.underlying49
 have hS:Tryz.prog.underlying 51=some (.struct (Tryz.prog.fieldsOf 51)):=by kernel_rfl
 have hp:Tryz.prog.stoodInHeld 51=false:=by kernel_rfl
 rw[run_neq_struct,show (10000:Nat)=9999+1 from rfl,run_equalIn_agg w 9999 51 _ _ hS hp]
 simp only[Program.fieldsOf,Tryz.underlying51]
 go_simp
 by_cases h1:a1=a2<;>by_cases h2:b1=b2<;>by_cases h3:c1=c2<;>by_cases h4:d1=d2<;>by_cases h5:e1=e2<;>simp[h1,h2,h3,h4,h5,b0m]
theorem b2v(x y:Operand)(w:World)(a1 a2:ByteArray)(b1 b2 c1 c2 d1 d2 e1 e2:Int):(eqGuard .neq 51 x y (.agg #[.string a1,.int .i64 b1,.int .i64 c1,.int .u32 d1,.int .i64 e1]) (.agg #[.string a2,.int .i64 b2,.int .i64 c2,.int .u32 d2,.int .i64 e2])).run Tryz.prog w=.ok () w:=
 run_eqGuard_agg _ _ _ _ _ _ _ (by kernel_rfl)
theorem a8K{α:Type}{l1 l2:List α}{n:Nat}(h1:l1.length=n)(h2:l2.length=n)(h:l1.take n=l2.take n):l1=l2:=by
 rwa [c3C (by omega),c3C (by omega)] at h
theorem a7I(w:World)(A B:Option Addr)(n c m d:Nat)(l1 l2:List EN)(h1:RW 2 ecells w A n l1)(h2:RW 2 ecells w B m l2)(hn:n<=1000000000)(hm:m<=1000000000) :
  Calls Tryz.prog 27 #[.slice A n c,.slice B m d] w fun e w'=>e=.returned (.bool (decide (l1=l2)))/\Dr w w':=by
 have H1:=c3o h1
 have H2:=c3o h2
 have L1:=c3o h1.len
 have L2:=c3o h2.len
 clear h1 h2
 by_cases hnm:n=m
 case neg=>
  have hx:decide (l1=l2)=false:=c3p (fun e=>hnm (by rw[<-L1.out,<-L2.out,e]))
  have HX:=c3o hx
  have e0:((n:Int) !=(m:Int))=true:=by simp;omega
  clear hnm hx
  go_enter Tryz.func27,Tryz.ntmps27
  go_wp2_with fail
  go_ret
  exact⟨by rw[HX.out];rfl,Dr.refl _⟩
 obtain rfl:=hnm
 have e0:((n:Int) !=(n:Int))=false:=by simp
 go_enter Tryz.func27,Tryz.ntmps27
 go_wp2_with fail
 go_loopw [5] (fun iv wr=>∃ i:Nat,i<=n/\iv=.int .i64 i/\Hid (Dr w wr)/\Hid (l1.take i=l2.take i)) (fun iv _=>n-(intOf iv).toNat)
 case atStart=>exact⟨0,by omega,rfl,c3o (Dr.refl _),c3o rfl⟩
 case round=>
  obtain⟨i,hi,rfl,HW,HE⟩:=hrel
  by_cases hlt:i<n
  ·have e1:decide (i<n)=true:=c3r hlt
   have e1':decide ((i:Int)<(n:Int))=true:=c3r (by omega)
   obtain⟨b1,o1,rfl⟩:=H1.out.hd (by omega)
   obtain⟨b2,o2,rfl⟩:=H2.out.hd (by omega)
   have hk:=HW.out.keeps (S:=[])
   have i1:i<l1.length:=by rw[L1.out];exact hlt
   have i2:i<l2.length:=by rw[L2.out];exact hlt
   have c1:=(H1.out.keeps a0g hk (a0a _)).cell b1 o1 rfl i i1
   have c2:=(H2.out.keeps a0g hk (a0a _)).cell b2 o2 rfl i i2
   have p10:=c1 0 (by omega)
   have p11:=c1 1 (by omega)
   have p20:=c2 0 (by omega)
   have p21:=c2 1 (by omega)
   have HTK:Hid (l1[i]=l2[i]->l1.take (i+1)=l2.take (i+1)):=c3o (fun e=>by rw[c3v i1,c3v i2,HE.out,e])
   have HNE:Hid (l1[i]≠l2[i]->decide (l1=l2)=false):=c3o (fun h=>c3p (fun e=>h (by subst e;rfl)))
   clear c1 c2 hk H1 H2 L1 L2 HE
   generalize l1[i]=x1 at *
   generalize l2[i]=x2 at *
   obtain⟨a1,b1'⟩:=x1
   obtain⟨a2,b2'⟩:=x2
   simp only[ecells,c3s,c3t,c3I] at p10 p11 p20 p21
   have hgd:=fun x y w=>b2n x y w a1 a2 b1' b2'
   by_cases hxx:((a1,b1'):EN)=(a2,b2')
   ·have HT2:=c3o (HTK.out hxx)
    have hrn:=fun w=>b0G w a1 a2 b1' b2'
    simp only[c3r hxx,Bool.not_true] at hrn
    clear HTK HNE hxx
    go_wp2_with fail
    go_quiet (fail)
    go_wp2_with fail
    go_roundw
    case rel=>exact⟨i+1,by omega,by go_num,c3o (HW.out.step _),HT2⟩
    case measure=>simp[intOf];omega
   ·have HN2:=c3o (HNE.out hxx)
    have hrn:=fun w=>b0G w a1 a2 b1' b2'
    simp only[c3p hxx,Bool.not_false] at hrn
    clear HTK HNE hxx
    go_wp2_with fail
    go_quiet (fail)
    go_wp2_with fail
    go_ret
    exact⟨by rw[HN2.out];rfl,HW.out.step _⟩
  ·have e1:decide (i<n)=false:=c3p hlt
   have e1':decide ((i:Int)<(n:Int))=false:=c3p (by omega)
   have HX:Hid (decide (l1=l2)=true):=c3o (c3r (a8K L1.out L2.out (by have:=HE.out;rwa [show i=n by omega] at this)))
   clear HE
   go_wp2_with fail
   go_ret
   exact⟨by rw[HX.out];rfl,HW.out⟩
theorem b0R(w:World)(A B:Option Addr)(n c m d:Nat)(l1 l2:List ZI)(h1:RW 5 icells w A n l1)(h2:RW 5 icells w B m l2)(hn:n<=1000000000)(hm:m<=1000000000) :
  Calls Tryz.prog 26 #[.slice A n c,.slice B m d] w fun e w'=>e=.returned (.bool (decide (l1=l2)))/\Dr w w':=by
 have H1:=c3o h1
 have H2:=c3o h2
 have L1:=c3o h1.len
 have L2:=c3o h2.len
 clear h1 h2
 by_cases hnm:n=m
 case neg=>
  have hx:decide (l1=l2)=false:=c3p (fun e=>hnm (by rw[<-L1.out,<-L2.out,e]))
  have HX:=c3o hx
  have e0:((n:Int) !=(m:Int))=true:=by simp;omega
  clear hnm hx
  go_enter Tryz.func26,Tryz.ntmps26
  go_wp2_with fail
  go_ret
  exact⟨by rw[HX.out];rfl,Dr.refl _⟩
 obtain rfl:=hnm
 have e0:((n:Int) !=(n:Int))=false:=by simp
 go_enter Tryz.func26,Tryz.ntmps26
 go_wp2_with fail
 go_loopw [5] (fun iv wr=>∃ i:Nat,i<=n/\iv=.int .i64 i/\Hid (Dr w wr)/\Hid (l1.take i=l2.take i)) (fun iv _=>n-(intOf iv).toNat)
 case atStart=>exact⟨0,by omega,rfl,c3o (Dr.refl _),c3o rfl⟩
 case round=>
  obtain⟨i,hi,rfl,HW,HE⟩:=hrel
  by_cases hlt:i<n
  ·have e1:decide (i<n)=true:=c3r hlt
   have e1':decide ((i:Int)<(n:Int))=true:=c3r (by omega)
   obtain⟨b1,o1,rfl⟩:=H1.out.hd (by omega)
   obtain⟨b2,o2,rfl⟩:=H2.out.hd (by omega)
   have hk:=HW.out.keeps (S:=[])
   have i1:i<l1.length:=by rw[L1.out];exact hlt
   have i2:i<l2.length:=by rw[L2.out];exact hlt
   have c1:=(H1.out.keeps a0A hk (a0a _)).cell b1 o1 rfl i i1
   have c2:=(H2.out.keeps a0A hk (a0a _)).cell b2 o2 rfl i i2
   have p10:=c1 0 (by omega)
   have p11:=c1 1 (by omega)
   have p12:=c1 2 (by omega)
   have p13:=c1 3 (by omega)
   have p14:=c1 4 (by omega)
   have p20:=c2 0 (by omega)
   have p21:=c2 1 (by omega)
   have p22:=c2 2 (by omega)
   have p23:=c2 3 (by omega)
   have p24:=c2 4 (by omega)
   have HTK:Hid (l1[i]=l2[i]->l1.take (i+1)=l2.take (i+1)):=c3o (fun e=>by rw[c3v i1,c3v i2,HE.out,e])
   have HNE:Hid (l1[i]≠l2[i]->decide (l1=l2)=false):=c3o (fun h=>c3p (fun e=>h (by subst e;rfl)))
   clear c1 c2 hk H1 H2 L1 L2 HE
   generalize l1[i]=x1 at *
   generalize l2[i]=x2 at *
   obtain⟨a1,s1,q1,u1,y1⟩:=x1
   obtain⟨a2,s2,q2,u2,y2⟩:=x2
   simp only[icells,c3s,c3t,c3I] at p10 p11 p12 p13 p14 p20 p21 p22 p23 p24
   have hgd:=fun x y w=>b2v x y w a1 a2 s1 s2 q1 q2 u1 u2 y1 y2
   by_cases hxx:(⟨a1,s1,q1,u1,y1⟩:ZI)=⟨a2,s2,q2,u2,y2⟩
   ·have HT2:=c3o (HTK.out hxx)
    have hrn:=fun w=>b4e w a1 a2 s1 s2 q1 q2 u1 u2 y1 y2
    simp only[c3r hxx,Bool.not_true] at hrn
    clear HTK HNE hxx
    go_wp2_with fail
    go_quiet (fail)
    go_wp2_with fail
    go_roundw
    case rel=>exact⟨i+1,by omega,by go_num,c3o (HW.out.step _),HT2⟩
    case measure=>simp[intOf];omega
   ·have HN2:=c3o (HNE.out hxx)
    have hrn:=fun w=>b4e w a1 a2 s1 s2 q1 q2 u1 u2 y1 y2
    simp only[c3p hxx,Bool.not_false] at hrn
    clear HTK HNE hxx
    go_wp2_with fail
    go_quiet (fail)
    go_wp2_with fail
    go_ret
    exact⟨by rw[HN2.out];rfl,HW.out.step _⟩
  ·have e1:decide (i<n)=false:=c3p hlt
   have e1':decide ((i:Int)<(n:Int))=false:=c3p (by omega)
   have HX:Hid (decide (l1=l2)=true):=c3o (c3r (a8K L1.out L2.out (by have:=HE.out;rwa [show i=n by omega] at this)))
   clear HE
   go_wp2_with fail
   go_ret
   exact⟨by rw[HX.out];rfl,HW.out⟩
open Go.RowKit
theorem a7i(w:World)(A:Option Addr)(n c:Nat)(xs:List Int)(hx:RI .u8 w A n xs)(hn:n<=900000000) :
  Calls Tryz.prog 19 #[.slice A n c] w fun e w'=>∃ g,e=.returned (.slice (some ⟨g,0,none⟩) n (n+1))/\Blk w' g 5 (ints .u8 (xs++[99]))/\w.heap.size<=g/\Keeps [] w w':=by
 have lx:=hx.len
 have HX:=c3o hx
 have LX:=c3o lx
 clear hx lx
 have hmk:=fun w=>a1h (P:=Tryz.prog) w 26 5 .u8 1 Tryz.underlying26 a3c ((n:Int)+1) (n+1) (by omega) (by omega) (by omega)
 go_enter Tryz.func19,Tryz.ntmps19
 go_wp2_with (with_reducible refine wpList_copy_splice rfl (.tmp 8) (.tmp 9) _ _ rfl 5 Tryz.underlying26 b7X _ _ _ _ _ _ rfl rfl w.heap.size 0 (ints .u8 (List.replicate (n+1) 0)) 5 ?h1 (ints .u8 xs) ?h2 ?h3 ?h4 ?h5 w.heap.size w ?h6 (Nat.le_refl _) ?_)
 case h1=>exact a0d w _ _
 case h2=>have:=LX.out;simp[ints];omega
 case h3=>
  intro hp
  obtain⟨a,o,ha⟩:=HX.out.hd (by have:=LX.out;simpa [ints,this] using hp)
  refine⟨_,ha,fun j v hv=>?_⟩
  have hj:j<n:=by have:=LX.out;have:=(List.getElem?_eq_some_iff.1 hv).1;simp[ints] at this;omega
  have hc:=HX.out.cell a o ha j hj
  have e:(ints .u8 xs)[j]? =some (.int .u8 (nth xs j)):=by rw[a0f];simp[nth,List.getD,show j<xs.length from by have:=LX.out;omega]
  rw[e] at hv
  rw[<-Option.some.inj hv,a0w]
  exact (Keeps.refl [] w).alloc _ |>.cell (by simp) hc
 case h4=>have:=LX.out;simp[ints];omega
 case h5=>intro v hv;simp only[ints,List.mem_map] at hv;obtain⟨x,_,rfl⟩:=hv;rfl
 case h6=>exact (Below.refl _ _).alloc (Nat.le_refl _) _
 intro w1 hg1 hb1
 have hB:Blk w1 w.heap.size 5 (splice (ints .u8 (List.replicate (n+1) 0)) 0 (ints .u8 xs)):=hg1.out
 have hsp:splice (ints .u8 (List.replicate (n+1) 0)) 0 (ints .u8 xs)=ints .u8 (xs++[0]):=by
  have:=LX.out
  simp[splice,ints,this]
 rw[hsp] at hB
 clear hg1 hsp
 have hc1:w1.cell? ⟨w.heap.size,n,none⟩=some (.int .u8 0):=by
  rw[hB.cell,a0f];have:=LX.out;simp[this]
 have hf1:=hB.frozen n
 have hB2:=hB.set n (.int .u8 99)
 have hz:(ints .u8 (xs++[0])).set n (.int .u8 99)=ints .u8 (xs++[99]):=by
  have:=LX.out
  simp[ints,List.set_append,this]
 rw[hz] at hB2
 have HB2:=c3o hB2
 have HB1:=c3o hb1
 clear hB hz hmk hB2 hb1
 go_wp2
 go_ret
 exact⟨_,rfl,HB2.out,Nat.le_refl _,(Keeps.of_below HB1.out).setCell (Or.inr (Nat.le_refl _)) _⟩
theorem b2x(w:World)(g:Nat)(A:Option Addr)(n c:Nat)(xs:List Int)(hx:RI .u8 w A n xs)(hB:Blk w g 5 (ints .u8 (xs++[99])))(hn:n<=900000000) :
  Calls Tryz.prog 22 #[.slice (some ⟨g,0,none⟩) n (n+1),.slice A n c] w fun e w'=>e=.returned (.bool true)/\Dr w w':=by
 have lx:=hx.len
 have hr:RI .u8 w (some ⟨g,0,none⟩) n xs:=by have:=hB.ri;rwa [lx] at this
 have hc1:w.cell? ⟨g,n,none⟩=some (.int .u8 99):=by rw[hB.cell,a0f];simp[lx]
 have HX:=c3o hx
 have HR:=c3o hr
 clear hx hr lx hB
 have hn2:n<=140737488355328:=by omega
 go_enter Tryz.func22,Tryz.ntmps22
 go_wp2_with fail
 refine (b3m w _ _ n n _ _ xs xs HR.out HX.out hn2 hn2).mono ?_
 rintro e w' ⟨rfl,q,rfl⟩
 rw[beq_self_eq_true]
 go_wp2
 go_ret
 exact⟨rfl,_,rfl⟩
open Go.RowKit
theorem a8q(w:World)(A:Option Addr)(n c:Nat)(xs:List Int)(hx:RI .u8 w A n xs)(hb:∀ x∈xs,0<=x/\x<=255)(hn:n<=1000000000)(p k:Nat)(hk:k<=4)(hpk:p+k<=n) :
  Calls Tryz.prog 78 #[.slice A n c,.int .i64 p,.int .i64 k] w fun e w'=>e=.returned (.int .i64 (zget xs p k))/\w'=w:=by
 have HC:=c3o (b5f w A n c xs hx hb hn p k (by omega) hpk)
 have hz:=a8v (a5f hb p k)
 rw[a3g (by rw[hx.len];omega)] at hz
 have hz':0<=zget xs p k/\zget xs p k<256^k:=hz
 have h4:(256:Int)^k<=4294967296:=by
  rcases (by omega:k=0∨k=1∨k=2∨k=3∨k=4) with rfl|rfl|rfl|rfl|rfl<;>decide
 have s1:IntKind.i64.wrap (zget xs p k)=zget xs p k:=c3q _ (by omega)
 clear hx hb hz hz' h4
 generalize zget xs p k=v at *
 go_enter Tryz.func78,Tryz.ntmps78
 go_wp2_with fail
 refine HC.out.mono ?_
 rintro _ w' ⟨rfl,rfl⟩
 go_wp2_with fail
 go_ret
 exact⟨rfl,rfl⟩
theorem a7w(w:World)(s:ByteArray) :
  Calls Tryz.prog 34 #[.string s] w fun e w'=>e=.returned (.bool (a1c s.data.toList))/\w'=w:=by
 have htl:s.toList=s.data.toList:=c3w s
 by_cases q1:s.data.toList=[]
 ·have HP:=c3o (show a1c s.data.toList=false by rw[q1];rfl)
  have z1:(s.toList==[])=true:=by rw[htl,q1];rfl
  have z1':s.toList.isEmpty=true:=by rw[htl,q1];rfl
  have z1'':(s.toList !=[])=false:=by rw[htl,q1];rfl
  clear q1 htl
  go_enter Tryz.func34,Tryz.ntmps34
  go_wp2_with fail
  go_ret
  exact⟨by rw[HP.out];rfl,rfl⟩
 have z1:(s.toList==[])=false:=by rw[htl];simpa using q1
 have z1':s.toList.isEmpty=false:=by rw[htl];simpa using q1
 have z1'':(s.toList !=[])=true:=by rw[htl];simpa using q1
 by_cases q2:s.data.toList=[46]
 ·have HP:=c3o (show a1c s.data.toList=false by rw[q2];rfl)
  have z2:(s.toList==[46])=true:=by rw[htl,q2];rfl
  have z2'':(s.toList !=[46])=false:=by rw[htl,q2];rfl
  clear q1 q2 htl
  go_enter Tryz.func34,Tryz.ntmps34
  go_wp2_with fail
  go_ret
  exact⟨by rw[HP.out];rfl,rfl⟩
 have z2:(s.toList==[46])=false:=by rw[htl];simpa using q2
 have z2'':(s.toList !=[46])=true:=by rw[htl];simpa using q2
 by_cases q3:s.data.toList=[46,46]
 ·have HP:=c3o (show a1c s.data.toList=false by rw[q3];rfl)
  have z3:(s.toList==[46,46])=true:=by rw[htl,q3];rfl
  have z3'':(s.toList !=[46,46])=false:=by rw[htl,q3];rfl
  clear q1 q2 q3 htl
  go_enter Tryz.func34,Tryz.ntmps34
  go_wp2_with fail
  go_ret
  exact⟨by rw[HP.out];rfl,rfl⟩
 have z3:(s.toList==[46,46])=false:=by rw[htl];simpa using q3
 have z3'':(s.toList !=[46,46])=true:=by rw[htl];simpa using q3
 have HP:=c3o (show a1c s.data.toList=true by unfold a1c;rw[c3u.2 q1,c3u.2 q2,c3u.2 q3];rfl)
 clear q1 q2 q3 htl
 go_enter Tryz.func34,Tryz.ntmps34
 go_wp2_with fail
 go_ret
 exact⟨by rw[HP.out];rfl,rfl⟩
def goN:List UInt8->List UInt8->Bool
 | cur,[]=>a1c cur
 | cur,b::r=>if b=47 then a1c cur&&goN [] r else okB b.toNat&&goN (cur++[b]) r
theorem b7v:okB (47:UInt8).toNat=true:=by decide
theorem b6L:∀ (l cur:List UInt8),(47:UInt8)∉cur->goN cur l=((a2V (cur++l)).all a1c&&l.all fun b=>okB b.toNat)
 | [],cur,h=>by rw[goN,List.append_nil,a4p h];simp
 | b::r,cur,h=>by
  rw[goN]
  split
  ·rename_i hb
   subst hb
   have e:=a4q (l:=cur++47::r) (n:=cur.length) (by rw[List.drop_left,show cur.length+1=(cur++[(47:UInt8)]).length by simp,show cur++47::r=(cur++[47])++r by simp,List.drop_left]) (by rw[List.take_left];exact h)
   rw[List.take_left,show cur.length+1=(cur++[(47:UInt8)]).length by simp,show (cur++47::r).drop (cur++[(47:UInt8)]).length=r by rw[show cur++47::r=(cur++[47])++r by simp,List.drop_left]] at e
   rw[b6L r [] (by simp),List.nil_append,e,List.all_cons,List.all_cons,b7v,Bool.true_and,Bool.and_assoc]
  ·rename_i hb
   rw[b6L r (cur++[b]) (by simp only[List.mem_append,List.mem_singleton];rintro (h'|h');exact h h';exact hb h'.symm),List.append_assoc,List.singleton_append,List.all_cons,Bool.and_left_comm]
theorem b7p{s:ByteArray}(h:1<=s.size/\s.size<=64):nameB s=goN [] s.data.toList:=by
 rw[b6L _ [] (by simp),List.nil_append]
 unfold nameB
 rw[c3r h,Bool.true_and]
open Go.RowKit
open Go.RowKit
theorem b2K(w:World)(s:ByteArray)(hs:s.size<=1000000000) :
  Calls Tryz.prog 11 #[.string s] w fun e w'=>e=.returned (.bool (nameB s))/\w'=w:=by
 by_cases hsz:1<=s.size/\s.size<=64
 case neg=>
  have HN:Hid (nameB s=false):=c3o (by unfold nameB;rw[c3p hsz,Bool.false_and])
  by_cases h1:s.size<1
  ·have d1:decide ((s.size:Int)<1)=true:=by simp;omega
   have d1':decide (s.size<1)=true:=by simpa using h1
   clear hsz h1
   go_enter Tryz.func11,Tryz.ntmps11
   go_wp2_with fail
   go_ret
   exact⟨by rw[HN.out];rfl,rfl⟩
  ·have d1:decide ((s.size:Int)<1)=false:=c3p (by omega)
   have d1':decide (s.size<1)=false:=c3p (by omega)
   have d2:decide ((64:Int)<(s.size:Int))=true:=by simp;omega
   have d2':decide (64<s.size)=true:=by simp;omega
   clear hsz h1
   go_enter Tryz.func11,Tryz.ntmps11
   go_wp2_with fail
   go_ret
   exact⟨by rw[HN.out];rfl,rfl⟩
 have HG:=c3o (b7p hsz)
 have d1:decide ((s.size:Int)<1)=false:=c3p (by omega)
 have d1':decide (s.size<1)=false:=c3p (by omega)
 have d2:decide ((64:Int)<(s.size:Int))=false:=by simp;omega
 have d2':decide (64<s.size)=false:=by simp;omega
 have hll:s.data.toList.length=s.size:=by cases s;rfl
 have HLL:=c3o hll
 have h64:s.size<=64:=hsz.2
 clear hsz hll
 go_enter Tryz.func11,Tryz.ntmps11
 go_wp2_with fail
 go_loopw [3,4] (fun fv iv wr=>∃ (i f:Nat),iv=.int .i64 i/\fv=.int .i64 f/\wr=w/\i<=s.size+1/\((i<=s.size/\f<=i/\Hid ((47:UInt8)∉(s.data.toList.take i).drop f/\nameB s=goN ((s.data.toList.take i).drop f) (s.data.toList.drop i)))∨(i=s.size+1/\Hid (nameB s=true)))) (fun _ iv _=>s.size+1-(intOf iv).toNat)
 case atStart=>exact⟨0,0,rfl,rfl,rfl,by omega,.inl ⟨by omega,by omega,c3o ⟨by simp,by rw[HG.out];rfl⟩⟩⟩
 case round=>
  obtain⟨i,f,rfl,rfl,rfl,hi1,hor⟩:=hrel
  rcases hor with⟨hi,hf,HH⟩|⟨rfl,HT⟩
  ·have e0:decide ((i:Int)<=(s.size:Int))=true:=by simp;omega
   have e0':decide (i<=s.size)=true:=by simpa using hi
   by_cases hin:i=s.size
   ·have e1:((i:Int)==(s.size:Int))=true:=by simp;omega
    have hdn:s.data.toList.drop i=[]:=c3G (by rw[HLL.out];omega)
    have htn:s.data.toList.take i=s.data.toList:=c3C (by rw[HLL.out];omega)
    have HX:Hid (nameB s=a1c (s.extract f i).data.toList):=c3o (by
     rw[HH.out.2,hdn,goN,a3V,List.drop_take]
     rfl)
    have HIN:=c3o hin
    clear hdn htn hin
    go_wp2_with fail
    refine (a7w wr (s.extract f i)).mono ?_
    rintro _ wz ⟨rfl,hwz⟩
    obtain rfl:wr=wz:=hwz.symm
    cases hp:a1c (s.extract f i).data.toList with
    | false=>
     rw[hp] at HX
     go_wp2_with fail
     go_ret
     exact⟨by rw[HX.out];rfl,rfl⟩
    | true=>
     rw[hp] at HX
     go_wp2_with fail
     go_roundw
     case rel=>exact⟨i+1,i+1,by go_num,by go_num,by trivial,by omega,.inr ⟨by have:=HIN.out;omega,HX⟩⟩
     case measure=>simp[intOf];omega
   ·have e1:((i:Int)==(s.size:Int))=false:=by simp;omega
    have hlt:i<s.size:=by omega
    have hll:i<s.data.toList.length:=by rw[HLL.out];exact hlt
    have hget:s.data.toList[i]=s[i]:=by rw[Array.getElem_toList];rfl
    have hdc:s.data.toList.drop i=s[i]::s.data.toList.drop (i+1):=by rw[c3D hll,hget]
    have htc:(s.data.toList.take (i+1)).drop f=(s.data.toList.take i).drop f++[s[i]]:=by rw[c3v hll,hget,List.drop_append_of_le_length (by rw[List.length_take,HLL.out];omega)]
    have hst:=HH.out.2
    rw[hdc,goN] at hst
    by_cases h47:s[i].toNat=47
    ·have hb47:s[i]=47:=UInt8.toNat.inj (by rw[h47];rfl)
     have t1:((s[i].toNat:Int)==47)=true:=by rw[h47];rfl
     rw[if_pos hb47] at hst
     have HX:Hid (nameB s=(a1c (s.extract f i).data.toList&&goN [] (s.data.toList.drop (i+1)))):=c3o (by
      rw[hst,a3V,List.drop_take]
      rfl)
     clear hst htc hdc hb47 hget
     go_wp2_with fail
     refine (a7w wr (s.extract f i)).mono ?_
     rintro _ wz ⟨rfl,hwz⟩
     obtain rfl:wr=wz:=hwz.symm
     cases hp:a1c (s.extract f i).data.toList with
     | false=>
      rw[hp,Bool.false_and] at HX
      go_wp2_with fail
      go_ret
      exact⟨by rw[HX.out];rfl,rfl⟩
     | true=>
      rw[hp,Bool.true_and] at HX
      go_wp2_with fail
      go_roundw
      case rel=>exact⟨i+1,i+1,by go_num,by go_num,by trivial,by omega,.inl ⟨by omega,by omega,c3o ⟨by rw[c3G (by rw[List.length_take];omega)];simp,by rw[c3G (by rw[List.length_take];omega)];exact HX.out⟩⟩⟩
      case measure=>simp[intOf];omega
    ·have hb47:s[i]≠47:=fun e=>h47 (by rw[e];rfl)
     have t1:((s[i].toNat:Int)==47)=false:=by simp;omega
     rw[if_neg hb47] at hst
     have hlt8:s[i].toNat<256:=s[i].toNat_lt
     have HOKC:Hid (okB s[i].toNat=true->Hid ((47:UInt8)∉(s.data.toList.take (i+1)).drop f/\nameB s=goN ((s.data.toList.take (i+1)).drop f) (s.data.toList.drop (i+1)))):=c3o (fun h=>c3o ⟨by rw[htc];simp only[List.mem_append,List.mem_singleton];rintro (h'|h');exact HH.out.1 h';exact hb47 h'.symm,by rw[hst,h,Bool.true_and,htc]⟩)
     have HBADC:Hid (okB s[i].toNat=false->nameB s=false):=c3o (fun h=>by rw[hst,h,Bool.false_and])
     clear hst htc hdc hb47 hget
     have cases_:s[i].toNat<45∨s[i].toNat=45∨s[i].toNat=46∨(48<=s[i].toNat/\s[i].toNat<=57)∨(58<=s[i].toNat/\s[i].toNat<=94)∨s[i].toNat=95∨s[i].toNat=96∨(97<=s[i].toNat/\s[i].toNat<=122)∨123<=s[i].toNat:=by omega
     rcases cases_ with h|h|h|⟨h,h'⟩|⟨h,h'⟩|h|h|⟨h,h'⟩|h
     ·have n46:((s[i].toNat:Int) !=46)=true:=by simp;omega
      have n95:((s[i].toNat:Int) !=95)=true:=by simp;omega
      have n45:((s[i].toNat:Int) !=45)=true:=by simp;omega
      go_wp2_with fail
      go_ret
      exact⟨by rw[HBADC.out (by unfold okB;simp;omega)];rfl,rfl⟩
     ·have n46:((s[i].toNat:Int) !=46)=true:=by simp;omega
      have n95:((s[i].toNat:Int) !=95)=true:=by simp;omega
      have n45:((s[i].toNat:Int) !=45)=false:=by simp;omega
      go_wp2_with fail
      go_roundw
      case rel=>exact⟨i+1,f,by go_num,rfl,by trivial,by omega,.inl ⟨by omega,by omega,HOKC.out (by unfold okB;simp;omega)⟩⟩
      case measure=>simp[intOf];omega
     ·have n46:((s[i].toNat:Int) !=46)=false:=by simp;omega
      have n95:((s[i].toNat:Int) !=95)=true:=by simp;omega
      have n45:((s[i].toNat:Int) !=45)=true:=by simp;omega
      go_wp2_with fail
      go_roundw
      case rel=>exact⟨i+1,f,by go_num,rfl,by trivial,by omega,.inl ⟨by omega,by omega,HOKC.out (by unfold okB;simp;omega)⟩⟩
      case measure=>simp[intOf];omega
     ·have n46:((s[i].toNat:Int) !=46)=true:=by simp;omega
      have n95:((s[i].toNat:Int) !=95)=true:=by simp;omega
      have n45:((s[i].toNat:Int) !=45)=true:=by simp;omega
      go_wp2_with fail
      go_roundw
      case rel=>exact⟨i+1,f,by go_num,rfl,by trivial,by omega,.inl ⟨by omega,by omega,HOKC.out (by unfold okB;simp;omega)⟩⟩
      case measure=>simp[intOf];omega
     ·have n46:((s[i].toNat:Int) !=46)=true:=by simp;omega
      have n95:((s[i].toNat:Int) !=95)=true:=by simp;omega
      have n45:((s[i].toNat:Int) !=45)=true:=by simp;omega
      go_wp2_with fail
      go_ret
      exact⟨by rw[HBADC.out (by unfold okB;simp;omega)];rfl,rfl⟩
     ·have n46:((s[i].toNat:Int) !=46)=true:=by simp;omega
      have n95:((s[i].toNat:Int) !=95)=false:=by simp;omega
      have n45:((s[i].toNat:Int) !=45)=true:=by simp;omega
      go_wp2_with fail
      go_roundw
      case rel=>exact⟨i+1,f,by go_num,rfl,by trivial,by omega,.inl ⟨by omega,by omega,HOKC.out (by unfold okB;simp;omega)⟩⟩
      case measure=>simp[intOf];omega
     ·have n46:((s[i].toNat:Int) !=46)=true:=by simp;omega
      have n95:((s[i].toNat:Int) !=95)=true:=by simp;omega
      have n45:((s[i].toNat:Int) !=45)=true:=by simp;omega
      go_wp2_with fail
      go_ret
      exact⟨by rw[HBADC.out (by unfold okB;simp;omega)];rfl,rfl⟩
     ·have n46:((s[i].toNat:Int) !=46)=true:=by simp;omega
      have n95:((s[i].toNat:Int) !=95)=true:=by simp;omega
      have n45:((s[i].toNat:Int) !=45)=true:=by simp;omega
      go_wp2_with fail
      go_roundw
      case rel=>exact⟨i+1,f,by go_num,rfl,by trivial,by omega,.inl ⟨by omega,by omega,HOKC.out (by unfold okB;simp;omega)⟩⟩
      case measure=>simp[intOf];omega
     ·have n46:((s[i].toNat:Int) !=46)=true:=by simp;omega
      have n95:((s[i].toNat:Int) !=95)=true:=by simp;omega
      have n45:((s[i].toNat:Int) !=45)=true:=by simp;omega
      go_wp2_with fail
      go_ret
      exact⟨by rw[HBADC.out (by unfold okB;simp;omega)];rfl,rfl⟩
  ·have e0:decide (((s.size+1:Nat):Int)<=(s.size:Int))=false:=c3p (by omega)
   have e0':decide (s.size+1<=s.size)=false:=c3p (by omega)
   go_wp2_with fail
   go_ret
   exact⟨by rw[HT.out];rfl,rfl⟩
open Go.RowKit
def pcr(p:ZP):List Value:=[.string p.x.name,.int .i64 p.x.size,.int .i64 p.x.packed,.int .u32 p.x.sum,.int .i64 p.x.way,.int .i64 (p.fro:Nat),.int .i64 ((p.fro+p.len:Nat):Int)]
theorem a2A(p:ZP):(pcr p).length=7:=rfl
theorem b9i(l:List ByteArray)(x s:ByteArray):inL (l++[x]) s=(inL l s||decide (x=s)):=by unfold inL;simp
theorem c1i{a b:ByteArray}(h:a≠b):¬a.toList=b.toList:=fun e=>h (by rw[c3w,c3w] at e;cases a;cases b;simpa using e)
theorem b0S(w:World)(A:Option Addr)(n c:Nat)(ps:List ZP)(name:ByteArray)(h:RW 7 pcr w A n ps)(hn:n<=100000) :
  Calls Tryz.prog 79 #[.slice A n c,.string name] w fun e w'=>e=.returned (.bool (inL (znames ps) name))/\w'=w:=by
 have HRW:=c3o h
 have HL:=c3o h.len
 clear h
 go_enter Tryz.func79,Tryz.ntmps79
 go_wp2_with fail
 go_loopw [5] (fun iv wr=>∃ k:Nat,k<=n/\iv=.int .i64 k/\wr=w/\Hid (inL (znames (ps.take k)) name=false)) (fun iv _=>n-(intOf iv).toNat)
 case atStart=>exact⟨0,by omega,rfl,rfl,c3o rfl⟩
 case round=>
  obtain⟨k,hk,rfl,rfl,HI⟩:=hrel
  by_cases hlt:k<n
  ·have e0:decide (k<n)=true:=c3r hlt
   obtain⟨tb,to',rfl⟩:=HRW.out.hd (by omega)
   have hpl:k<ps.length:=by rw[HL.out];exact hlt
   have p0:=HRW.out.cell tb to' rfl k hpl 0 (by omega)
   have HTK:Hid (inL (znames (ps.take (k+1))) name=decide (ps[k].x.name=name)):=c3o (by
    rw[c3v hpl];unfold znames;rw[List.map_append,List.map_singleton,b9i]
    rw[show inL ((ps.take k).map fun p=>p.x.name) name=false from HI.out,Bool.false_or])
   have HME:Hid (ps[k].x.name=name->inL (znames ps) name=true):=c3o (fun e=>a6Y.2 (List.mem_map.2 ⟨ps[k],List.getElem_mem _,e⟩))
   clear HRW
   generalize ps[k]=p at *
   simp only[pcr,c3s,c3I] at p0
   by_cases hnm:p.x.name=name
   ·have HX:=c3o (HME.out hnm)
    subst hnm
    clear HTK HI HME
    go_wp2_with fail
    go_ret
    exact⟨by rw[HX.out];rfl,rfl⟩
   ·have HX:Hid (inL (znames (ps.take (k+1))) name=false):=c3o (by rw[HTK.out];exact c3p hnm)
    have s0:=c1i hnm
    have s2:decide (p.x.name.toList=name.toList)=false:=c3p s0
    have s3:(p.x.name.toList==name.toList)=false:=c3u.2 s0
    clear HTK HI HME hnm
    go_wp2_with fail
    go_roundw
    case rel=>exact⟨k+1,by omega,by go_num,by trivial,HX⟩
    case measure=>simp[intOf];omega
  ·have e0:decide (k<n)=false:=c3p hlt
   have HX:Hid (inL (znames ps) name=false):=c3o (by have:=HI.out;rwa [c3C (by rw[HL.out];omega)] at this)
   clear HI
   go_wp2_with fail
   go_ret
   exact⟨by rw[HX.out];rfl,rfl⟩
open Go.RowKit
theorem a6W(w:World)(A:Option Addr)(n c:Nat)(xs:List Int)(hz:ZB w A n c xs)(at_:Nat)(x:ZI)(hat:at_+30+x.name.size<=n)(h3:0<=x.sum/\x.sum<4294967296) :
  Calls Tryz.prog 80 #[.slice A n c,.int .i64 at_,.agg (icells x).toArray] w fun e w'=>e=.returned (.bool (decide (a1E xs at_ x)))/\Below w.heap.size w w':=by
 have HZ:=c3o hz
 have HL:=c3o hz.ri.len
 have hn:=hz.len
 clear hz
 obtain⟨name,a1,a2,a3,a4⟩:=x
 dsimp only[icells] at hat h3 ⊢
 obtain⟨nl,hnl⟩:∃ z,z=name.size:=⟨_,rfl⟩
 have HNL:=c3o hnl
 rw[<-hnl] at hat
 obtain⟨X,hX⟩:∃ z,z=w.heap.size:=⟨_,rfl⟩
 obtain⟨w1,hw1⟩:∃ z,z=w.alloc (.cells #[.string name,.int .i64 a1,.int .i64 a2,.int .u32 a3,.int .i64 a4] 51):=⟨_,rfl⟩
 have k1:Keeps [] w w1:=by rw[hw1];exact (Keeps.refl [] w).alloc _
 have X1:Hid (Blk w1 X 51 [.string name,.int .i64 a1,.int .i64 a2,.int .u32 a3,.int .i64 a4]):=c3o (by rw[hw1,hX];exact a0d w _ _)
 have B1:Hid (Below w.heap.size w w1):=c3o k1.below
 have ZB1:=c3o (HZ.out.keeps k1 (a0a _))
 have G:Hid (∀ wq,(∃ m,wq=w1.drewN m)->∀ p k,k<=4->p+k<=n->Calls Tryz.prog 78 #[.slice A n c,.int .i64 p,.int .i64 k] wq fun e w'=>e=.returned (.int .i64 (zget xs p k))/\w'=wq):=c3o (fun wq ⟨m,hm⟩ p k hk hp=>a8q wq A n c xs ((ZB1.out.ri.keeps ((Keeps.refl [] w1).drewN m) (a0a _)) |> (hm ▸ ·)) ZB1.out.byte ZB1.out.len p k hk hp)
 have s1:IntKind.i64.wrap ((at_:Int)+6)=((at_+6:Nat):Int):=by rw[c3q _ (by omega)];omega
 have s2:IntKind.i64.wrap ((at_:Int)+28)=((at_+28:Nat):Int):=by rw[c3q _ (by omega)];omega
 have s3:IntKind.i64.wrap ((at_:Int)+8)=((at_+8:Nat):Int):=by rw[c3q _ (by omega)];omega
 have s4:IntKind.i64.wrap ((at_:Int)+14)=((at_+14:Nat):Int):=by rw[c3q _ (by omega)];omega
 have s5:IntKind.i64.wrap ((at_:Int)+18)=((at_+18:Nat):Int):=by rw[c3q _ (by omega)];omega
 have s6:IntKind.i64.wrap ((at_:Int)+22)=((at_+22:Nat):Int):=by rw[c3q _ (by omega)];omega
 have s7:IntKind.i64.wrap ((at_:Int)+26)=((at_+26:Nat):Int):=by rw[c3q _ (by omega)];omega
 have x0:=X1.out.cell 0
 have x1:=X1.out.cell 1
 have x2:=X1.out.cell 2
 have x3:=X1.out.cell 3
 have x4:=X1.out.cell 4
 simp only[c3s,c3t] at x0 x1 x2 x3 x4
 go_enter Tryz.func80,Tryz.ntmps80
 go_upto_region 1 with (fail)
 rw[<-hw1,<-hX]
 clear hw1 hX k1 hnl
 have GQ:Hid (∀ q p k,k<=4->p+k<=n->Calls Tryz.prog 78 #[.slice A n c,.int .i64 (p:Nat),.int .i64 (k:Nat)] (w1.drewN q) fun e w'=>e=.returned (.int .i64 (zget xs p k))/\∃ m,w'=(w1.drewN q).drewN m):=c3o (fun q p k hk hp=>(G.out _ ⟨q,rfl⟩ p k hk hp).mono fun _ _ ⟨h1,h2⟩=>⟨h1,0,h2⟩)
 have HF:Hid (decide (a1E xs at_ ⟨name,a1,a2,a3,a4⟩)=(decide (zget xs at_ 4=67324752/\zget xs (at_+6) 2=0/\zget xs (at_+28) 2=0)&&decide (zget xs (at_+8) 2=a4/\zget xs (at_+14) 4=a3/\zget xs (at_+18) 4=a2/\zget xs (at_+22) 4=a1/\zget xs (at_+26) 2=(nl:Int))&&decide (strOfNums (seg xs (at_+30) nl)=name))):=c3o (by
  rw[<-Bool.decide_and,<-Bool.decide_and]
  apply decide_eq_decide.2
  unfold a1E zinf
  simp only[ZI.mk.injEq,HNL.out]
  constructor
  ·rintro ⟨q1,q2,q3,q4,q5,q6,q7,q8,q9⟩;exact⟨⟨⟨q1,q2,q3⟩,q9,q8,q7,q6,q4⟩,q5⟩
  ·rintro ⟨⟨⟨q1,q2,q3⟩,q9,q8,q7,q6,q4⟩,q5⟩;exact⟨q1,q2,q3,q4,q5,q6,q7,q8,q9⟩)
 have s8:IntKind.i64.wrap a3=a3:=c3q _ (by omega)
 go_cut [7] (fun v7 wc=>v7=.bool (decide (zget xs at_ 4=67324752/\zget xs (at_+6) 2=0/\zget xs (at_+28) 2=0))/\wc=w1)
 case first=>
  clear HF GQ x0 x1 x2 x3 x4 s3 s4 s5 s6 s7 s8
  go_wp2_with fail
  refine (G.out w1 ⟨0,rfl⟩ at_ 4 (by omega) (by omega)).mono ?_
  rintro _ wz ⟨rfl,hwz⟩
  obtain rfl:w1=wz:=hwz.symm
  clear hwz
  by_cases q1:zget xs at_ 4=67324752
  case neg=>
   have b1:(zget xs at_ 4==67324752)=false:=c3u.2 q1
   have e:decide (zget xs at_ 4=67324752/\zget xs (at_+6) 2=0/\zget xs (at_+28) 2=0)=false:=c3p (fun h=>q1 h.1)
   clear q1
   go_wp2_with fail
   go_meet
   exact⟨by rw[e],rfl⟩
  have b1:(zget xs at_ 4==67324752)=true:=by rw[q1];rfl
  go_wp2_with fail
  refine (G.out w1 ⟨0,rfl⟩ (at_+6) 2 (by omega) (by omega)).mono ?_
  rintro _ wz ⟨rfl,hwz⟩
  obtain rfl:w1=wz:=hwz.symm
  clear hwz
  by_cases q2:zget xs (at_+6) 2=0
  case neg=>
   have b2:(zget xs (at_+6) 2==0)=false:=c3u.2 q2
   have e:decide (zget xs at_ 4=67324752/\zget xs (at_+6) 2=0/\zget xs (at_+28) 2=0)=false:=c3p (fun h=>q2 h.2.1)
   clear q1 q2
   go_wp2_with fail
   go_meet
   exact⟨by rw[e],rfl⟩
  have b2:(zget xs (at_+6) 2==0)=true:=by rw[q2];rfl
  go_wp2_with fail
  refine (G.out w1 ⟨0,rfl⟩ (at_+28) 2 (by omega) (by omega)).mono ?_
  rintro _ wz ⟨rfl,hwz⟩
  obtain rfl:w1=wz:=hwz.symm
  clear hwz
  by_cases q3:zget xs (at_+28) 2=0
  case neg=>
   have b3:(zget xs (at_+28) 2==0)=false:=c3u.2 q3
   have e:decide (zget xs at_ 4=67324752/\zget xs (at_+6) 2=0/\zget xs (at_+28) 2=0)=false:=c3p (fun h=>q3 h.2.2)
   clear q1 q2 q3
   go_wp2_with fail
   go_meet
   exact⟨by rw[e],rfl⟩
  have b3:(zget xs (at_+28) 2==0)=true:=by rw[q3];rfl
  have e:decide (zget xs at_ 4=67324752/\zget xs (at_+6) 2=0/\zget xs (at_+28) 2=0)=true:=c3r ⟨q1,q2,q3⟩
  clear q1 q2 q3
  go_wp2_with fail
  go_meet
  exact⟨by rw[e],rfl⟩
 case rest=>
 obtain⟨rfl,hwq⟩:=hcut
 obtain rfl:w1=wc:=hwq.symm
 clear hwq
 go_upto_region 2 with (fail)
 obtain⟨P0,hP0⟩:∃ z,z=at_+8:=⟨_,rfl⟩
 obtain⟨Z0,hZ0⟩:∃ z,z=zget xs (at_+8) 2:=⟨_,rfl⟩
 have D0:Calls Tryz.prog 78 #[.slice A n c,.int .i64 (P0:Nat),.int .i64 2] w1.drew fun e w'=>e=.returned (.int .i64 Z0)/\w'=w1.drew:=by rw[hP0,hZ0];exact G.out _ ⟨1,rfl⟩ (at_+8) 2 (by omega) (by omega)
 rw[<-hZ0] at HF
 rw[<-hP0] at s3
 obtain⟨P1,hP1⟩:∃ z,z=at_+14:=⟨_,rfl⟩
 obtain⟨Z1,hZ1⟩:∃ z,z=zget xs (at_+14) 4:=⟨_,rfl⟩
 have D1:Calls Tryz.prog 78 #[.slice A n c,.int .i64 (P1:Nat),.int .i64 4] w1.drew fun e w'=>e=.returned (.int .i64 Z1)/\w'=w1.drew:=by rw[hP1,hZ1];exact G.out _ ⟨1,rfl⟩ (at_+14) 4 (by omega) (by omega)
 rw[<-hZ1] at HF
 rw[<-hP1] at s4
 obtain⟨P2,hP2⟩:∃ z,z=at_+18:=⟨_,rfl⟩
 obtain⟨Z2,hZ2⟩:∃ z,z=zget xs (at_+18) 4:=⟨_,rfl⟩
 have D2:Calls Tryz.prog 78 #[.slice A n c,.int .i64 (P2:Nat),.int .i64 4] w1.drew fun e w'=>e=.returned (.int .i64 Z2)/\w'=w1.drew:=by rw[hP2,hZ2];exact G.out _ ⟨1,rfl⟩ (at_+18) 4 (by omega) (by omega)
 rw[<-hZ2] at HF
 rw[<-hP2] at s5
 obtain⟨P3,hP3⟩:∃ z,z=at_+22:=⟨_,rfl⟩
 obtain⟨Z3,hZ3⟩:∃ z,z=zget xs (at_+22) 4:=⟨_,rfl⟩
 have D3:Calls Tryz.prog 78 #[.slice A n c,.int .i64 (P3:Nat),.int .i64 4] w1.drew fun e w'=>e=.returned (.int .i64 Z3)/\w'=w1.drew:=by rw[hP3,hZ3];exact G.out _ ⟨1,rfl⟩ (at_+22) 4 (by omega) (by omega)
 rw[<-hZ3] at HF
 rw[<-hP3] at s6
 obtain⟨P4,hP4⟩:∃ z,z=at_+26:=⟨_,rfl⟩
 obtain⟨Z4,hZ4⟩:∃ z,z=zget xs (at_+26) 2:=⟨_,rfl⟩
 have D4:Calls Tryz.prog 78 #[.slice A n c,.int .i64 (P4:Nat),.int .i64 2] w1.drew fun e w'=>e=.returned (.int .i64 Z4)/\w'=w1.drew:=by rw[hP4,hZ4];exact G.out _ ⟨1,rfl⟩ (at_+26) 2 (by omega) (by omega)
 rw[<-hZ4] at HF
 rw[<-hP4] at s7
 clear hP0 hZ0 hP1 hZ1 hP2 hZ2 hP3 hZ3 hP4 hZ4 GQ
 generalize hp7:decide (zget xs at_ 4=67324752/\zget xs (at_+6) 2=0/\zget xs (at_+28) 2=0)=p7 at *
 clear hp7
 go_cut [8] (fun v8 wr=>v8=.bool (decide (Z0=a4/\Z1=a3/\Z2=a2/\Z3=a1/\Z4=(nl:Int)))/\Hid (∃ m,wr=w1.drewN m))
 case first=>
  clear HF G s1 s2 HZ ZB1
  by_cases q0:Z0=a4
  case neg=>
   have b0:(Z0==a4)=false:=c3u.2 q0
   have e:decide (Z0=a4/\Z1=a3/\Z2=a2/\Z3=a1/\Z4=(nl:Int))=false:=c3p (fun h=>q0 h.1)
   clear q0
   refine a0L 45 (by kernel_rfl) (by kernel_rfl) ?_
   simp only[c3y,c3B,c3x,c3A]
   repeat (go_big_quiet_step (fail))
   go_big_quiet_step (exact D0 _)
   repeat (go_big_quiet_step (fail))
   refine c3E ?_
   go_wp2_with fail
   go_meet
   exact⟨by rw[e],c3o ⟨1,rfl⟩⟩
  have b0:(Z0==a4)=true:=by rw[q0];exact beq_self_eq_true _
  by_cases q1:Z1=a3
  case neg=>
   have b1:(Z1==a3)=false:=c3u.2 q1
   have e:decide (Z0=a4/\Z1=a3/\Z2=a2/\Z3=a1/\Z4=(nl:Int))=false:=c3p (fun h=>q1 h.2.1)
   clear q0 q1
   refine a0L 45 (by kernel_rfl) (by kernel_rfl) ?_
   simp only[c3y,c3B,c3x,c3A]
   repeat (go_big_quiet_step (fail))
   go_big_quiet_step (exact D0 _)
   repeat (go_big_quiet_step (fail))
   go_big_quiet_step (exact D1 _)
   repeat (go_big_quiet_step (fail))
   refine c3E ?_
   go_wp2_with fail
   go_meet
   exact⟨by rw[e],c3o ⟨1,rfl⟩⟩
  have b1:(Z1==a3)=true:=by rw[q1];exact beq_self_eq_true _
  by_cases q2:Z2=a2
  case neg=>
   have b2:(Z2==a2)=false:=c3u.2 q2
   have e:decide (Z0=a4/\Z1=a3/\Z2=a2/\Z3=a1/\Z4=(nl:Int))=false:=c3p (fun h=>q2 h.2.2.1)
   clear q0 q1 q2
   refine a0L 45 (by kernel_rfl) (by kernel_rfl) ?_
   simp only[c3y,c3B,c3x,c3A]
   repeat (go_big_quiet_step (fail))
   go_big_quiet_step (exact D0 _)
   repeat (go_big_quiet_step (fail))
   go_big_quiet_step (exact D1 _)
   repeat (go_big_quiet_step (fail))
   go_big_quiet_step (exact D2 _)
   repeat (go_big_quiet_step (fail))
   refine c3E ?_
   go_wp2_with fail
   go_meet
   exact⟨by rw[e],c3o ⟨1,rfl⟩⟩
  have b2:(Z2==a2)=true:=by rw[q2];exact beq_self_eq_true _
  by_cases q3:Z3=a1
  case neg=>
   have b3:(Z3==a1)=false:=c3u.2 q3
   have e:decide (Z0=a4/\Z1=a3/\Z2=a2/\Z3=a1/\Z4=(nl:Int))=false:=c3p (fun h=>q3 h.2.2.2.1)
   clear q0 q1 q2 q3
   refine a0L 45 (by kernel_rfl) (by kernel_rfl) ?_
   simp only[c3y,c3B,c3x,c3A]
   repeat (go_big_quiet_step (fail))
   go_big_quiet_step (exact D0 _)
   repeat (go_big_quiet_step (fail))
   go_big_quiet_step (exact D1 _)
   repeat (go_big_quiet_step (fail))
   go_big_quiet_step (exact D2 _)
   repeat (go_big_quiet_step (fail))
   go_big_quiet_step (exact D3 _)
   repeat (go_big_quiet_step (fail))
   refine c3E ?_
   go_wp2_with fail
   go_meet
   exact⟨by rw[e],c3o ⟨1,rfl⟩⟩
  have b3:(Z3==a1)=true:=by rw[q3];exact beq_self_eq_true _
  by_cases q4:Z4=(nl:Int)
  case neg=>
   have b4:(Z4==(nl:Int))=false:=c3u.2 q4
   have b4':(Z4==(name.size:Int))=false:=by rw[<-HNL.out];exact b4
   have e:decide (Z0=a4/\Z1=a3/\Z2=a2/\Z3=a1/\Z4=(nl:Int))=false:=c3p (fun h=>q4 h.2.2.2.2)
   clear q0 q1 q2 q3 q4
   refine a0L 45 (by kernel_rfl) (by kernel_rfl) ?_
   simp only[c3y,c3B,c3x,c3A]
   repeat (go_big_quiet_step (fail))
   go_big_quiet_step (exact D0 _)
   repeat (go_big_quiet_step (fail))
   go_big_quiet_step (exact D1 _)
   repeat (go_big_quiet_step (fail))
   go_big_quiet_step (exact D2 _)
   repeat (go_big_quiet_step (fail))
   go_big_quiet_step (exact D3 _)
   repeat (go_big_quiet_step (fail))
   go_big_quiet_step (exact D4 _)
   repeat (go_big_quiet_step (fail))
   refine c3E ?_
   go_wp2_with fail
   go_meet
   exact⟨by rw[e],c3o ⟨1,rfl⟩⟩
  have b4:(Z4==(nl:Int))=true:=by rw[q4];exact beq_self_eq_true _
  have b4':(Z4==(name.size:Int))=true:=by rw[<-HNL.out];exact b4
  have e:decide (Z0=a4/\Z1=a3/\Z2=a2/\Z3=a1/\Z4=(nl:Int))=true:=c3r ⟨q0,q1,q2,q3,q4⟩
  clear q0 q1 q2 q3 q4
  refine a0L 45 (by kernel_rfl) (by kernel_rfl) ?_
  simp only[c3y,c3B,c3x,c3A]
  repeat (go_big_quiet_step (fail))
  go_big_quiet_step (exact D0 _)
  repeat (go_big_quiet_step (fail))
  go_big_quiet_step (exact D1 _)
  repeat (go_big_quiet_step (fail))
  go_big_quiet_step (exact D2 _)
  repeat (go_big_quiet_step (fail))
  go_big_quiet_step (exact D3 _)
  repeat (go_big_quiet_step (fail))
  go_big_quiet_step (exact D4 _)
  repeat (go_big_quiet_step (fail))
  refine c3E ?_
  go_wp2_with fail
  go_meet
  exact⟨by rw[e],c3o ⟨1,rfl⟩⟩
 case rest=>
 obtain⟨rfl,HW⟩:=hcut
 generalize hp8:decide (Z0=a4/\Z1=a3/\Z2=a2/\Z3=a1/\Z4=(nl:Int))=p8 at *
 clear hp8
 have hkr:Keeps [] w1 wc:=by obtain⟨m,hm⟩:=HW.out;rw[hm];exact (Keeps.refl [] w1).drewN m
 have HBr:Hid (Below w.heap.size w wc):=c3o (B1.out.trans (a0c hkr B1.out.size (by simp)))
 have HBQ:Hid (∀ q,Below w.heap.size w (wc.drewN q)):=c3o (fun q=>HBr.out.trans (a0c ((Keeps.refl [] wc).drewN q) HBr.out.size (by simp)))
 have y0:=hkr.cell (p:=⟨X,0,none⟩) (by simp) x0
 have HZr:=c3o (ZB1.out.keeps hkr (a0a _))
 obtain⟨P,hP⟩:∃ z,z=at_+30:=⟨_,rfl⟩
 obtain⟨Q,hQ⟩:∃ z,z=P+nl:=⟨_,rfl⟩
 have s9:IntKind.i64.wrap ((at_:Int)+30)=(P:Int):=by rw[c3q _ (by omega)];omega
 have s10:IntKind.i64.wrap ((P:Int)+(name.size:Int))=(Q:Int):=by have:=HNL.out;rw[c3q _ (by omega)];omega
 have hsl:∀ W:World,(Instr.slice 26 (.slice A n c) (some (.int .i64 (P:Int))) (some (.int .i64 (Q:Int))) none).run Tryz.prog W=.ok (.slice (cutA A P c) (Q-P) (c-P)) W:=fun q=>a2c _ A n c P Q _ _ rfl rfl (by omega) (by omega) HZ.out.cap
 have hcv:∀ q,(convert 26 9 (.slice (cutA A P c) (Q-P) (c-P))).run Tryz.prog (wc.drewN q)=.ok (.string (strOfNums (seg xs P nl))) (wc.drewN q):=fun q=>by
  have:=b3E (c:=c-P) (((HZr.out.ri.keeps ((Keeps.refl [] wc).drewN q) (a0a _)).mid HZ.out.cap (l:=P) (m:=Q) (by omega) (by omega)))
  rw[this,hQ];rfl
 have hcv0:(convert 26 9 (.slice (cutA A P c) (Q-P) (c-P))).run Tryz.prog wc=.ok (.string (strOfNums (seg xs P nl))) wc:=hcv 0
 have HFF:Hid (decide (a1E xs at_ ⟨name,a1,a2,a3,a4⟩)=(p7&&p8&&decide (strOfNums (seg xs P nl)=name))):=c3o (by rw[HF.out,hP])
 clear HF hP hQ hkr x0 x1 x2 x3 x4 s1 s2 s3 s4 s5 s6 s7 s8 D0 D1 D2 D3 D4 G B1 X1 HW hat HL HZ ZB1
 clear HBr HZr
 go_upto_region 3 with (fail)
 cases p7 with
 | false=>
  go_quiet (fail)
  go_wp2_with fail
  go_ret
  exact⟨by rw[HFF.out];rfl,HBQ.out _⟩
 | true=>
  cases p8 with
  | false=>
   go_quiet (fail)
   go_wp2_with fail
   go_ret
   exact⟨by rw[HFF.out];rfl,HBQ.out _⟩
  | true=>
   generalize strOfNums (seg xs P nl)=got at *
   by_cases hnm:got=name
   ·have HX:Hid (decide (a1E xs at_ ⟨name,a1,a2,a3,a4⟩)=true):=c3o (by rw[HFF.out];simp[hnm])
    subst hnm
    clear HFF
    go_quiet (fail)
    go_wp2_with fail
    go_ret
    exact⟨by rw[HX.out];rfl,HBQ.out _⟩
   ·have HX:Hid (decide (a1E xs at_ ⟨name,a1,a2,a3,a4⟩)=false):=c3o (by rw[HFF.out];simp[hnm])
    have s0:=c1i hnm
    have s2:decide (got.toList=name.toList)=false:=c3p s0
    have s3:(got.toList==name.toList)=false:=c3u.2 s0
    clear HFF hnm
    go_quiet (fail)
    go_wp2_with fail
    go_ret
    exact⟨by rw[HX.out];rfl,HBQ.out _⟩
open Go.RowKit
def Pcs8P(w:World)(xs:List Int)(r:Ending)(w':World):Prop:=
 ∃ v,r=.returned (.tuple #[v,.int .i64 (zpieces xs).1])/\((zpieces xs).1≠0->v=.slice none 0 0)/\w'.ownsRow w.heap.size 83 7 v (zpieces xs).2.length ((zpieces xs).2.flatMap pcr)/\Below w.heap.size w w'
theorem b7F(p:ZP):∀ v∈pcr p,v.oneCell'=true:=by
 intro v hv
 unfold pcr at hv
 simp only[List.mem_cons,List.not_mem_nil,or_false] at hv
 rcases hv with rfl|rfl|rfl|rfl|rfl|rfl|rfl<;>rfl
theorem c2A{A:Option Addr}{n c g:Nat}(h:(Value.slice A n c).ownBlock=some g):∃ a,A=some a/\a.block=g:=by
 cases A with
 | none=>simp[Value.ownBlock] at h
 | some a=>exact⟨a,rfl,by simpa [Value.ownBlock] using h⟩
def b1Q:WT 79 83 7:=⟨.agg #[.string ⟨#[]⟩,.int .i64 0,.int .i64 0,.int .u32 0,.int .i64 0,.int .i64 0,.int .i64 0],64,by kernel_rfl,Tryz.underlying79,rfl,by decide,by decide⟩
theorem a3e(w:World)(A:Option Addr)(n c:Nat)(xs:List Int)(hz:ZB w A n c xs) :
  Calls Tryz.prog 49 #[.slice A n c] w (Pcs8P w xs):=by
 have HZ:=c3o hz
 have hn9:=hz.len
 have HX:=c3o hz.ri.len
 clear hz
 have BAD:Hid (∀ e,zpieces xs=(e,[])->∀ W,Below w.heap.size w W->Pcs8P w xs (.returned (.tuple #[.slice none 0 0,.int .i64 e])) W):=c3o (fun e he W hb=>⟨.slice none 0 0,by rw[he],fun _=>rfl,by rw[he];exact c3z _ _ _ _,hb⟩)
 have G:Hid (∀ W,Below w.heap.size w W->∀ p k,k<=4->p+k<=n->Calls Tryz.prog 78 #[.slice A n c,.int .i64 (p:Nat),.int .i64 (k:Nat)] W fun e w'=>e=.returned (.int .i64 (zget xs p k))/\w'=W):=c3o (fun W hb p k hk hp=>a8q W A n c xs (HZ.out.ri.keeps (Keeps.of_below hb (S:=[])) (a0a _)) HZ.out.byte HZ.out.len p k hk hp)
 have BW:Hid (Below w.heap.size w w):=c3o (Below.refl _ w)
 go_enter Tryz.func49,Tryz.ntmps49
 by_cases q1:n<=1048576
 case neg=>
  have t1:decide ((1048576:Int)<(n:Int))=true:=c3r (by omega)
  have t1':decide (1048576<n)=true:=c3r (by omega)
  have HP:Hid (zpieces xs=(2,[])):=c3o (by unfold zpieces;rw[if_pos (by rw[HX.out];omega)])
  clear q1
  go_wp2_with fail
  go_ret2
  exact BAD.out 2 HP.out _ BW.out
 have t1:decide ((1048576:Int)<(n:Int))=false:=c3p (by omega)
 have t1':decide (1048576<n)=false:=c3p (by omega)
 by_cases q2:22<=n
 case neg=>
  have s1:IntKind.i64.wrap ((n:Int)-22)=(n:Int)-22:=c3q _ (by omega)
  have t2:decide ((n:Int)-22<0)=true:=c3r (by omega)
  have t2':decide ((n:Int)<22)=true:=c3r (by omega)
  have HP:Hid (zpieces xs=(81,[])):=c3o (by unfold zpieces;rw[if_neg (by rw[HX.out];omega),if_pos (by rw[HX.out];omega)])
  clear q1 q2
  go_wp2_with fail
  go_ret2
  exact BAD.out 81 HP.out _ BW.out
 obtain⟨en,hen⟩:∃ z,z=n-22:=⟨_,rfl⟩
 have s1:IntKind.i64.wrap ((n:Int)-22)=(en:Int):=by rw[c3q _ (by omega)];omega
 have s1':(n:Int)-22=(en:Int):=by omega
 have t2:decide ((en:Int)<0)=false:=c3p (by omega)
 have hn22:en+22<=n:=by omega
 have HZ1:Hid (zpieces xs=if ¬ZEnd xs en then (81,[]) else if 64<a4z xs then (86,[]) else a1n xs (a1U xs) en (a4z xs) (a1U xs) 0 []):=c3o (by
  unfold zpieces
  rw[if_neg (by rw[HX.out];omega),if_neg (by rw[HX.out];omega),HX.out,<-hen])
 have HM:Hid (zget xs (en+8) 2=(a4z xs:Nat)):=c3o (by unfold a4z;rw[HX.out,<-hen];have:=a3O HZ.out.byte (en+8) 2;omega)
 have HFS:Hid (zget xs (en+16) 4=(a1U xs:Nat)):=c3o (by unfold a1U;rw[HX.out,<-hen];have:=a3O HZ.out.byte (en+16) 4;omega)
 have HS12:Hid (0<=zget xs (en+12) 4/\zget xs (en+12) 4<4294967296):=c3o (a1C HZ.out.byte (by rw[HX.out];omega))
 clear hen q1 q2
 obtain⟨N,hN⟩:∃ z,z=a4z xs:=⟨_,rfl⟩
 obtain⟨fs,hfs⟩:∃ z,z=a1U xs:=⟨_,rfl⟩
 rw[<-hN] at HM HZ1
 rw[<-hfs] at HFS HZ1
 clear hN hfs
 have e4:IntKind.i64.wrap ((en:Int)+4)=((en+4:Nat):Int):=by rw[c3q _ (by omega)];omega
 have e6:IntKind.i64.wrap ((en:Int)+6)=((en+6:Nat):Int):=by rw[c3q _ (by omega)];omega
 have e8:IntKind.i64.wrap ((en:Int)+8)=((en+8:Nat):Int):=by rw[c3q _ (by omega)];omega
 have e10:IntKind.i64.wrap ((en:Int)+10)=((en+10:Nat):Int):=by rw[c3q _ (by omega)];omega
 have e20:IntKind.i64.wrap ((en:Int)+20)=((en+20:Nat):Int):=by rw[c3q _ (by omega)];omega
 have e16:IntKind.i64.wrap ((en:Int)+16)=((en+16:Nat):Int):=by rw[c3q _ (by omega)];omega
 have e12:IntKind.i64.wrap ((en:Int)+12)=((en+12:Nat):Int):=by rw[c3q _ (by omega)];omega
 go_wp2_with fail
 refine (G.out w BW.out (en) 4 (by omega) (by omega)).mono ?_
 rintro _ wz ⟨rfl,hwz⟩
 obtain rfl:w=wz:=hwz.symm
 clear hwz
 by_cases r0:zget xs (en) 4=101010256
 case neg=>
  have b0:(zget xs (en) 4 !=101010256)=true:=by simpa using r0
  have HP:Hid (zpieces xs=(81,[])):=c3o (by rw[HZ1.out,if_pos (fun h=>r0 h.1)])
  go_wp2_with fail
  go_ret2
  exact BAD.out 81 HP.out _ BW.out
 have b0:(zget xs (en) 4 !=101010256)=false:=by simpa using r0
 have R0:=c3o r0
 clear r0
 go_wp2_with fail
 refine (G.out w BW.out (en+4) 2 (by omega) (by omega)).mono ?_
 rintro _ wz ⟨rfl,hwz⟩
 obtain rfl:w=wz:=hwz.symm
 clear hwz
 by_cases r1:zget xs (en+4) 2=0
 case neg=>
  have b1:(zget xs (en+4) 2 !=0)=true:=by simpa using r1
  have HP:Hid (zpieces xs=(81,[])):=c3o (by rw[HZ1.out,if_pos (fun h=>r1 h.2.1)])
  go_wp2_with fail
  go_ret2
  exact BAD.out 81 HP.out _ BW.out
 have b1:(zget xs (en+4) 2 !=0)=false:=by simpa using r1
 have R1:=c3o r1
 clear r1
 go_wp2_with fail
 refine (G.out w BW.out (en+6) 2 (by omega) (by omega)).mono ?_
 rintro _ wz ⟨rfl,hwz⟩
 obtain rfl:w=wz:=hwz.symm
 clear hwz
 by_cases r2:zget xs (en+6) 2=0
 case neg=>
  have b2:(zget xs (en+6) 2 !=0)=true:=by simpa using r2
  have HP:Hid (zpieces xs=(81,[])):=c3o (by rw[HZ1.out,if_pos (fun h=>r2 h.2.2.1)])
  go_wp2_with fail
  go_ret2
  exact BAD.out 81 HP.out _ BW.out
 have b2:(zget xs (en+6) 2 !=0)=false:=by simpa using r2
 have R2:=c3o r2
 clear r2
 go_wp2_with fail
 refine (G.out w BW.out (en+8) 2 (by omega) (by omega)).mono ?_
 rintro _ wz ⟨rfl,hwz⟩
 obtain rfl:w=wz:=hwz.symm
 clear hwz
 go_wp2_with fail
 refine (G.out w BW.out (en+10) 2 (by omega) (by omega)).mono ?_
 rintro _ wz ⟨rfl,hwz⟩
 obtain rfl:w=wz:=hwz.symm
 clear hwz
 by_cases r3:zget xs (en+8) 2=zget xs (en+10) 2
 case neg=>
  have b3:(zget xs (en+8) 2 !=zget xs (en+10) 2)=true:=by simpa using r3
  have HP:Hid (zpieces xs=(81,[])):=c3o (by rw[HZ1.out,if_pos (fun h=>r3 h.2.2.2.1)])
  go_wp2_with fail
  go_ret2
  exact BAD.out 81 HP.out _ BW.out
 have b3:(zget xs (en+8) 2 !=zget xs (en+10) 2)=false:=by simpa using r3
 have R3:=c3o r3
 clear r3
 go_wp2_with fail
 refine (G.out w BW.out (en+20) 2 (by omega) (by omega)).mono ?_
 rintro _ wz ⟨rfl,hwz⟩
 obtain rfl:w=wz:=hwz.symm
 clear hwz
 by_cases r4:zget xs (en+20) 2=0
 case neg=>
  have b4:(zget xs (en+20) 2 !=0)=true:=by simpa using r4
  have HP:Hid (zpieces xs=(81,[])):=c3o (by rw[HZ1.out,if_pos (fun h=>r4 h.2.2.2.2.2)])
  go_wp2_with fail
  go_ret2
  exact BAD.out 81 HP.out _ BW.out
 have b4:(zget xs (en+20) 2 !=0)=false:=by simpa using r4
 have R4:=c3o r4
 clear r4
 go_wp2_with fail
 refine (G.out w BW.out (en+8) 2 (by omega) (by omega)).mono ?_
 rintro _ wz ⟨rfl,hwz⟩
 obtain rfl:w=wz:=hwz.symm
 clear hwz
 rw[HM.out]
 go_wp2_with fail
 refine (G.out w BW.out (en+16) 4 (by omega) (by omega)).mono ?_
 rintro _ wz ⟨rfl,hwz⟩
 obtain rfl:w=wz:=hwz.symm
 clear hwz
 rw[HFS.out]
 go_wp2_with fail
 refine (G.out w BW.out (en+12) 4 (by omega) (by omega)).mono ?_
 rintro _ wz ⟨rfl,hwz⟩
 obtain rfl:w=wz:=hwz.symm
 clear hwz
 by_cases q12:(fs:Int)+zget xs (en+12) 4=(en:Int)
 case neg=>
  have b12:((fs:Int)+zget xs (en+12) 4 !=(en:Int))=true:=by simpa using q12
  have HF0:Hid (0<=(fs:Int)/\(fs:Int)<4294967296):=c3o (by rw[<-HFS.out];exact a1C HZ.out.byte (by rw[HX.out];omega))
  have s12:IntKind.i64.wrap ((fs:Int)+zget xs (en+12) 4)=(fs:Int)+zget xs (en+12) 4:=by have h1:=HF0.out;have h2:=HS12.out;exact c3q _ (by omega)
  have HP:Hid (zpieces xs=(81,[])):=c3o (by rw[HZ1.out,if_pos (fun h=>q12 (by rw[<-HFS.out];exact h.2.2.2.2.1))])
  go_wp2_with fail
  go_ret2
  exact BAD.out 81 HP.out _ BW.out
 have HZE:Hid (ZEnd xs en):=c3o ⟨R0.out,R1.out,R2.out,R3.out,by rw[HFS.out];exact q12,R4.out⟩
 have b12:((fs:Int)+zget xs (en+12) 4 !=(en:Int))=false:=by simpa using q12
 have s12:IntKind.i64.wrap ((fs:Int)+zget xs (en+12) 4)=(en:Int):=by rw[q12];exact c3q _ (by omega)
 have b12':((en:Int) !=(en:Int))=false:=by simp
 have hfs:fs<=en:=by have:=HS12.out;omega
 have HZ2:Hid (zpieces xs=if 64<N then (86,[]) else a1n xs fs en N fs 0 []):=c3o (by rw[HZ1.out,if_neg (fun h=>h HZE.out)])
 clear q12 HZ1 HS12 R0 R1 R2 R3 R4
 by_cases q64:64<N
 case pos=>
  have t1:decide ((64:Int)<(N:Int))=true:=c3r (by omega)
  have t1':decide (64<N)=true:=c3r q64
  have HP:Hid (zpieces xs=(86,[])):=c3o (by rw[HZ2.out,if_pos q64])
  go_wp2_with fail
  go_ret2
  exact BAD.out 86 HP.out _ BW.out
 have t3:decide ((64:Int)<(N:Int))=false:=c3p (by omega)
 have t3':decide (64<N)=false:=c3p q64
 have HZ3:Hid (zpieces xs=a1n xs fs en N fs 0 []):=c3o (by rw[HZ2.out,if_neg q64])
 have hN64:N<=64:=by omega
 clear HZ2 q64
 go_upto_region 16 with (fail)
 clear t1 t1' t2 t3 t3' e4 e6 e8 e10 e20 e16 e12 b0 b1 b2 b3 b4 b12 b12' s12 s1'
 go_loopw [7,8,9,10] (fun ov rv av iv wr=>∃ (i rp at_:Nat) (acc:List ZP) (AO:Option Addr) (cO:Nat),i<=N/\iv=.int .i64 i/\rv=.int .i64 rp/\av=.int .i64 at_/\ov=.slice AO i cO/\rp<=en/\at_<=fs/\Hid (acc.length=i)/\Hid (zpieces xs=a1n xs fs en (N-i) rp at_ acc)/\Hid (wr.ownsRow w.heap.size 83 7 (.slice AO i cO) i (acc.flatMap pcr))/\Hid (Below w.heap.size w wr)) (fun _ _ _ iv _=>N-(intOf iv).toNat)
 case atStart=>exact⟨0,fs,0,[],none,0,by omega,rfl,rfl,rfl,rfl,by omega,by omega,c3o rfl,HZ3,c3o (c3z _ _ _ _),BW⟩
 case round=>
  clear HZ3
  obtain⟨i,rp,at_,acc,AO,cO,hi,rfl,rfl,rfl,rfl,hrp,hat,HAL,HZL,HO,HB⟩:=hrel
  by_cases hlt:i<N
  case neg=>
   have hiN:i=N:=by omega
   have e0:decide (i<N)=false:=c3p hlt
   have HZF:Hid (zpieces xs=if rp=en/\at_=fs then (0,acc) else (81,[])):=c3o (by rw[HZL.out,hiN,Nat.sub_self,a1n])
   clear hiN HZL
   by_cases y1:rp=en
   case neg=>
    have b1:((rp:Int) !=(en:Int))=true:=by simp;omega
    have HP:Hid (zpieces xs=(81,[])):=c3o (by rw[HZF.out,if_neg (fun h=>y1 h.1)])
    clear y1
    go_wp2_with fail
    go_ret2
    exact BAD.out 81 HP.out _ HB.out
   have b1:((rp:Int) !=(en:Int))=false:=by simp;omega
   by_cases y2:at_=fs
   case neg=>
    have b2:((at_:Int) !=(fs:Int))=true:=by simp;omega
    have HP:Hid (zpieces xs=(81,[])):=c3o (by rw[HZF.out,if_neg (fun h=>y2 h.2)])
    clear y1 y2
    go_wp2_with fail
    go_ret2
    exact BAD.out 81 HP.out _ HB.out
   have b2:((at_:Int) !=(fs:Int))=false:=by simp;omega
   have HP:Hid (zpieces xs=(0,acc)):=c3o (by rw[HZF.out,if_pos ⟨y1,y2⟩])
   clear y1 y2 HZF
   go_wp2_with fail
   go_ret2
   refine⟨.slice AO i cO,by rw[HP.out];rfl,fun h=>absurd (by rw[HP.out]) h,?_,HB.out⟩
   rw[HP.out]
   dsimp only
   rw[HAL.out]
   exact HO.out
  have e0:decide (i<N)=true:=c3r hlt
  have HZS:Hid (zpieces xs=if zwrong xs fs en rp at_ (znames acc)=0 then a1n xs fs en (N-(i+1)) (rp+46+a0V xs rp) (at_+30+a0V xs rp+(zrecI xs rp).packed.toNat) (acc++[a1w xs rp at_]) else (zwrong xs fs en rp at_ (znames acc),[])):=c3o (by rw[HZL.out,show N-i=(N-(i+1))+1 by omega,a1n])
  have BADW:Hid (∀ e,zwrong xs fs en rp at_ (znames acc)=e->e≠0->zpieces xs=(e,[])):=c3o (fun e h1 h2=>by rw[HZS.out,if_neg (by rw[h1];exact h2),h1])
  clear HZL
  have s1:IntKind.i64.wrap ((en:Int)-(rp:Int))=(en:Int)-(rp:Int):=c3q _ (by omega)
  by_cases c1:rp+46<=en
  case neg=>
   have t1:decide ((en:Int)-(rp:Int)<46)=true:=c3r (by omega)
   have HP:Hid (zpieces xs=(81,[])):=c3o (BADW.out 81 (by unfold zwrong;rw[if_pos (fun h=>c1 h.1)]) (by decide))
   clear c1
   go_wp2_with fail
   go_ret2
   exact BAD.out 81 HP.out _ HB.out
  have t1:decide ((en:Int)-(rp:Int)<46)=false:=c3p (by omega)
  have f28:IntKind.i64.wrap ((rp:Int)+28)=((rp+28:Nat):Int):=by rw[c3q _ (by omega)];omega
  have f8:IntKind.i64.wrap ((rp:Int)+8)=((rp+8:Nat):Int):=by rw[c3q _ (by omega)];omega
  have f30:IntKind.i64.wrap ((rp:Int)+30)=((rp+30:Nat):Int):=by rw[c3q _ (by omega)];omega
  have f32:IntKind.i64.wrap ((rp:Int)+32)=((rp+32:Nat):Int):=by rw[c3q _ (by omega)];omega
  have f34:IntKind.i64.wrap ((rp:Int)+34)=((rp+34:Nat):Int):=by rw[c3q _ (by omega)];omega
  have HLG:Hid (zget xs (rp+28) 2=(a0V xs rp:Nat)):=c3o (by unfold a0V;have:=a3O HZ.out.byte (rp+28) 2;omega)
  obtain⟨lg,hlg⟩:∃ z,z=a0V xs rp:=⟨_,rfl⟩
  rw[<-hlg] at HLG HZS
  have HL2:=c3o hlg
  have hlg2:lg<65536:=by have h1:=a2u HZ.out.byte (p:=rp+28) (by rw[HX.out];omega);rw[HLG.out] at h1;omega
  clear hlg
  go_wp2_with fail
  refine (G.out wr HB.out (rp+28) 2 (by omega) (by omega)).mono ?_
  rintro _ wz ⟨rfl,hwz⟩
  obtain rfl:wr=wz:=hwz.symm
  clear hwz
  rw[HLG.out]
  have s2:IntKind.i64.wrap (46+(lg:Int))=46+(lg:Int):=c3q _ (by omega)
  by_cases c2:rp+46+lg<=en
  case neg=>
   have t2:decide ((en:Int)-(rp:Int)<46+(lg:Int))=true:=c3r (by omega)
   have HP:Hid (zpieces xs=(81,[])):=c3o (BADW.out 81 (by unfold zwrong;rw[if_pos (fun h=>c2 (by rw[HL2.out];exact h.2.2.2.2.2.2))]) (by decide))
   clear c1 c2
   go_wp2_with fail
   go_ret2
   exact BAD.out 81 HP.out _ HB.out
  have t2:decide ((en:Int)-(rp:Int)<46+(lg:Int))=false:=c3p (by omega)
  go_wp2_with fail
  refine (G.out wr HB.out (rp) 4 (by omega) (by omega)).mono ?_
  rintro _ wz ⟨rfl,hwz⟩
  obtain rfl:wr=wz:=hwz.symm
  clear hwz
  by_cases r0:zget xs (rp) 4=33639248
  case neg=>
   have b0:(zget xs (rp) 4 !=33639248)=true:=by simpa using r0
   have HP:Hid (zpieces xs=(81,[])):=c3o (BADW.out 81 (by unfold zwrong;rw[if_pos (fun h=>r0 h.2.1)]) (by decide))
   go_wp2_with fail
   go_ret2
   exact BAD.out 81 HP.out _ HB.out
  have b0:(zget xs (rp) 4 !=33639248)=false:=by simpa using r0
  have R0:=c3o r0
  clear r0
  go_wp2_with fail
  refine (G.out wr HB.out (rp+8) 2 (by omega) (by omega)).mono ?_
  rintro _ wz ⟨rfl,hwz⟩
  obtain rfl:wr=wz:=hwz.symm
  clear hwz
  by_cases r1:zget xs (rp+8) 2=0
  case neg=>
   have b1:(zget xs (rp+8) 2 !=0)=true:=by simpa using r1
   have HP:Hid (zpieces xs=(81,[])):=c3o (BADW.out 81 (by unfold zwrong;rw[if_pos (fun h=>r1 h.2.2.1)]) (by decide))
   go_wp2_with fail
   go_ret2
   exact BAD.out 81 HP.out _ HB.out
  have b1:(zget xs (rp+8) 2 !=0)=false:=by simpa using r1
  have R1:=c3o r1
  clear r1
  go_wp2_with fail
  refine (G.out wr HB.out (rp+30) 2 (by omega) (by omega)).mono ?_
  rintro _ wz ⟨rfl,hwz⟩
  obtain rfl:wr=wz:=hwz.symm
  clear hwz
  by_cases r2:zget xs (rp+30) 2=0
  case neg=>
   have b2:(zget xs (rp+30) 2 !=0)=true:=by simpa using r2
   have HP:Hid (zpieces xs=(81,[])):=c3o (BADW.out 81 (by unfold zwrong;rw[if_pos (fun h=>r2 h.2.2.2.1)]) (by decide))
   go_wp2_with fail
   go_ret2
   exact BAD.out 81 HP.out _ HB.out
  have b2:(zget xs (rp+30) 2 !=0)=false:=by simpa using r2
  have R2:=c3o r2
  clear r2
  go_wp2_with fail
  refine (G.out wr HB.out (rp+32) 2 (by omega) (by omega)).mono ?_
  rintro _ wz ⟨rfl,hwz⟩
  obtain rfl:wr=wz:=hwz.symm
  clear hwz
  by_cases r3:zget xs (rp+32) 2=0
  case neg=>
   have b3:(zget xs (rp+32) 2 !=0)=true:=by simpa using r3
   have HP:Hid (zpieces xs=(81,[])):=c3o (BADW.out 81 (by unfold zwrong;rw[if_pos (fun h=>r3 h.2.2.2.2.1)]) (by decide))
   go_wp2_with fail
   go_ret2
   exact BAD.out 81 HP.out _ HB.out
  have b3:(zget xs (rp+32) 2 !=0)=false:=by simpa using r3
  have R3:=c3o r3
  clear r3
  go_wp2_with fail
  refine (G.out wr HB.out (rp+34) 2 (by omega) (by omega)).mono ?_
  rintro _ wz ⟨rfl,hwz⟩
  obtain rfl:wr=wz:=hwz.symm
  clear hwz
  by_cases r4:zget xs (rp+34) 2=0
  case neg=>
   have b4:(zget xs (rp+34) 2 !=0)=true:=by simpa using r4
   have HP:Hid (zpieces xs=(81,[])):=c3o (BADW.out 81 (by unfold zwrong;rw[if_pos (fun h=>r4 h.2.2.2.2.2.1)]) (by decide))
   go_wp2_with fail
   go_ret2
   exact BAD.out 81 HP.out _ HB.out
  have b4:(zget xs (rp+34) 2 !=0)=false:=by simpa using r4
  have R4:=c3o r4
  clear r4
  have HZR:Hid (a8Y xs en rp):=c3o ⟨c1,R0.out,R1.out,R2.out,R3.out,R4.out,by rw[<-HL2.out];exact c2⟩
  clear R0 R1 R2 R3 R4
  go_upto_region 23 with (fail)
  clear b0 b1 b2 b3 b4 t1 t2 f28 f8 f30 f32 f34 s1 s2
  have g10:IntKind.i64.wrap ((rp:Int)+10)=((rp+10:Nat):Int):=by rw[c3q _ (by omega)];omega
  have g16:IntKind.i64.wrap ((rp:Int)+16)=((rp+16:Nat):Int):=by rw[c3q _ (by omega)];omega
  have g20:IntKind.i64.wrap ((rp:Int)+20)=((rp+20:Nat):Int):=by rw[c3q _ (by omega)];omega
  have g24:IntKind.i64.wrap ((rp:Int)+24)=((rp+24:Nat):Int):=by rw[c3q _ (by omega)];omega
  have DRB:Hid (Below w.heap.size w wr.drew):=c3o (HB.out.trans (a0c ((Keeps.refl [] wr).drew) HB.out.size (by simp)))
  obtain⟨P0,hP0⟩:∃ z,z=rp+10:=⟨_,rfl⟩
  obtain⟨Y0,hY0⟩:∃ z,z=zget xs (rp+10) 2:=⟨_,rfl⟩
  have D0:Calls Tryz.prog 78 #[.slice A n c,.int .i64 (P0:Nat),.int .i64 2] wr.drew fun e w'=>e=.returned (.int .i64 Y0)/\w'=wr.drew:=by rw[hP0,hY0];exact G.out _ DRB.out (rp+10) 2 (by omega) (by omega)
  have E0:∀ W,Below w.heap.size w W->Calls Tryz.prog 78 #[.slice A n c,.int .i64 (P0:Nat),.int .i64 2] W fun e w'=>e=.returned (.int .i64 Y0)/\w'=W:=fun W hW=>by rw[hP0,hY0];exact G.out _ hW (rp+10) 2 (by omega) (by omega)
  rw[<-hP0] at g10
  obtain⟨P1,hP1⟩:∃ z,z=rp+16:=⟨_,rfl⟩
  obtain⟨Y1,hY1⟩:∃ z,z=zget xs (rp+16) 4:=⟨_,rfl⟩
  have D1:Calls Tryz.prog 78 #[.slice A n c,.int .i64 (P1:Nat),.int .i64 4] wr.drew fun e w'=>e=.returned (.int .i64 Y1)/\w'=wr.drew:=by rw[hP1,hY1];exact G.out _ DRB.out (rp+16) 4 (by omega) (by omega)
  have E1:∀ W,Below w.heap.size w W->Calls Tryz.prog 78 #[.slice A n c,.int .i64 (P1:Nat),.int .i64 4] W fun e w'=>e=.returned (.int .i64 Y1)/\w'=W:=fun W hW=>by rw[hP1,hY1];exact G.out _ hW (rp+16) 4 (by omega) (by omega)
  rw[<-hP1] at g16
  obtain⟨P2,hP2⟩:∃ z,z=rp+20:=⟨_,rfl⟩
  obtain⟨Y2,hY2⟩:∃ z,z=zget xs (rp+20) 4:=⟨_,rfl⟩
  have D2:Calls Tryz.prog 78 #[.slice A n c,.int .i64 (P2:Nat),.int .i64 4] wr.drew fun e w'=>e=.returned (.int .i64 Y2)/\w'=wr.drew:=by rw[hP2,hY2];exact G.out _ DRB.out (rp+20) 4 (by omega) (by omega)
  have E2:∀ W,Below w.heap.size w W->Calls Tryz.prog 78 #[.slice A n c,.int .i64 (P2:Nat),.int .i64 4] W fun e w'=>e=.returned (.int .i64 Y2)/\w'=W:=fun W hW=>by rw[hP2,hY2];exact G.out _ hW (rp+20) 4 (by omega) (by omega)
  rw[<-hP2] at g20
  obtain⟨P3,hP3⟩:∃ z,z=rp+24:=⟨_,rfl⟩
  obtain⟨Y3,hY3⟩:∃ z,z=zget xs (rp+24) 4:=⟨_,rfl⟩
  have D3:Calls Tryz.prog 78 #[.slice A n c,.int .i64 (P3:Nat),.int .i64 4] wr.drew fun e w'=>e=.returned (.int .i64 Y3)/\w'=wr.drew:=by rw[hP3,hY3];exact G.out _ DRB.out (rp+24) 4 (by omega) (by omega)
  have E3:∀ W,Below w.heap.size w W->Calls Tryz.prog 78 #[.slice A n c,.int .i64 (P3:Nat),.int .i64 4] W fun e w'=>e=.returned (.int .i64 Y3)/\w'=W:=fun W hW=>by rw[hP3,hY3];exact G.out _ hW (rp+24) 4 (by omega) (by omega)
  rw[<-hP3] at g24
  have HY1:0<=Y1/\Y1<4294967296:=by rw[hY1];exact a1C HZ.out.byte (by rw[HX.out];omega)
  have HRI:Hid (zrecI xs rp=⟨a2N xs rp,Y3,Y2,Y1,Y0⟩):=c3o (by rw[hY0,hY1,hY2,hY3];rfl)
  have HY:Hid ((0<=Y0/\Y0<65536)/\(0<=Y1/\Y1<4294967296)/\(0<=Y2/\Y2<4294967296)/\(0<=Y3/\Y3<4294967296)):=c3o ⟨by rw[hY0];exact a2u HZ.out.byte (by rw[HX.out];omega),HY1,by rw[hY2];exact a1C HZ.out.byte (by rw[HX.out];omega),by rw[hY3];exact a1C HZ.out.byte (by rw[HX.out];omega)⟩
  have g49:IntKind.u32.wrap Y1=Y1:=IntWalk.u32_in _ (by omega)
  clear HY1
  obtain⟨NP,hNP⟩:∃ z,z=rp+46:=⟨_,rfl⟩
  obtain⟨NQ,hNQ⟩:∃ z,z=NP+lg:=⟨_,rfl⟩
  have g46:IntKind.i64.wrap ((rp:Int)+46)=(NP:Int):=by rw[c3q _ (by omega)];omega
  have g47:IntKind.i64.wrap ((NP:Int)+(lg:Int))=(NQ:Int):=by rw[c3q _ (by omega)];omega
  have hsl:∀ W:World,(Instr.slice 26 (.slice A n c) (some (.int .i64 (NP:Int))) (some (.int .i64 (NQ:Int))) none).run Tryz.prog W=.ok (.slice (cutA A NP c) (NQ-NP) (c-NP)) W:=fun W=>a2c _ A n c NP NQ _ _ rfl rfl (by omega) (by omega) HZ.out.cap
  obtain⟨nm,hnm⟩:∃ z,z=a2N xs rp:=⟨_,rfl⟩
  have hcvg:∀ W,Below w.heap.size w W->(convert 26 9 (.slice (cutA A NP c) (NQ-NP) (c-NP))).run Tryz.prog W=.ok (.string nm) W:=fun W hW=>by
   have:=b3E (c:=c-NP) (((HZ.out.ri.keeps (Keeps.of_below hW (S:=[])) (a0a _)).mid HZ.out.cap (l:=NP) (m:=NQ) (by omega) (by omega)))
   rw[this,hnm,hNQ,hNP];unfold a2N;rw[HL2.out];rfl
  have hcv:=hcvg _ DRB.out
  rw[<-hnm] at HRI
  have HNM:=c3o hnm
  have HNS:Hid (nm.size=lg):=c3o (by rw[hnm];unfold a2N;rw[a8I,a3g (by rw[HX.out,<-HL2.out];omega),<-HL2.out])
  have HNP:=c3o hNP
  have HNQ:=c3o hNQ
  clear hP0 hP1 hP2 hP3 hY0 hY1 hY2 hY3 hNP hNQ hnm
  have HA:∀ o,Below w.heap.size w (wr.alloc o).drew:=fun o=>DRB.out.alloc DRB.out.size o
  have D0a:∀ o,Calls Tryz.prog 78 #[.slice A n c,.int .i64 (P0:Nat),.int .i64 2] (wr.alloc o).drew fun e w'=>e=.returned (.int .i64 Y0)/\w'=(wr.alloc o).drew:=fun o=>E0 _ (HA o)
  have D1a:∀ o,Calls Tryz.prog 78 #[.slice A n c,.int .i64 (P1:Nat),.int .i64 4] (wr.alloc o).drew fun e w'=>e=.returned (.int .i64 Y1)/\w'=(wr.alloc o).drew:=fun o=>E1 _ (HA o)
  have D2a:∀ o,Calls Tryz.prog 78 #[.slice A n c,.int .i64 (P2:Nat),.int .i64 4] (wr.alloc o).drew fun e w'=>e=.returned (.int .i64 Y2)/\w'=(wr.alloc o).drew:=fun o=>E2 _ (HA o)
  have D3a:∀ o,Calls Tryz.prog 78 #[.slice A n c,.int .i64 (P3:Nat),.int .i64 4] (wr.alloc o).drew fun e w'=>e=.returned (.int .i64 Y3)/\w'=(wr.alloc o).drew:=fun o=>E3 _ (HA o)
  have hcva:∀ o,(convert 26 9 (.slice (cutA A NP c) (NQ-NP) (c-NP))).run Tryz.prog (wr.alloc o).drew=.ok (.string nm) (wr.alloc o).drew:=fun o=>hcvg _ (HA o)
  clear E0 E1 E2 E3 hcvg
  refine b3a 27 28 251 _ (.pointer (some ⟨wr.heap.size,0,none⟩)) (wr.alloc (.cells #[.string ⟨#[]⟩,.int .i64 0,.int .i64 0,.int .u32 0,.int .i64 0] 51)).drew (by kernel_rfl) rfl rfl rfl ?hB (by decide) rfl ?hD (fun e=>?hr) ?h0
  case hB=>kernel_rfl
  case hD=>kernel_rfl
  case hr=>kernel_rfl
  apply Exists.intro
  simp only[List.set_cons_zero,List.set_cons_succ,c3y,c3B,c3x,c3A]
  refine⟨?_,?_,?_⟩
  ·skip
   repeat (go_big_quiet_step (fail))
   go_big_quiet_step (exact D0 _)
   repeat (go_big_quiet_step (fail))
   go_big_quiet_step (exact D1 _)
   repeat (go_big_quiet_step (fail))
   go_big_quiet_step (exact D2 _)
   repeat (go_big_quiet_step (fail))
   go_big_quiet_step (exact D3 _)
   repeat (go_big_quiet_step (fail))
   exact c3E rfl
  ·skip
   repeat (go_big_quiet_step (fail))
   go_big_quiet_step (exact D0a _ _)
   repeat (go_big_quiet_step (fail))
   go_big_quiet_step (exact D1a _ _)
   repeat (go_big_quiet_step (fail))
   go_big_quiet_step (exact D2a _ _)
   repeat (go_big_quiet_step (fail))
   go_big_quiet_step (exact D3a _ _)
   repeat (go_big_quiet_step (fail))
   exact c3E rfl
  go_wp2_with fail
  obtain⟨X,hX⟩:∃ z,z=wr.heap.size:=⟨_,rfl⟩
  obtain⟨w3,hw3⟩:∃ z,z=(wr.alloc (.cells #[.string nm,.int .i64 Y3,.int .i64 Y2,.int .u32 Y1,.int .i64 Y0] 51)).drew:=⟨_,rfl⟩
  rw[<-hw3,<-hX]
  have k3:Keeps [] wr w3:=by rw[hw3];exact ((Keeps.refl [] wr).alloc _).drew
  have X3:Hid (Blk w3 X 51 [.string nm,.int .i64 Y3,.int .i64 Y2,.int .u32 Y1,.int .i64 Y0]):=c3o (by rw[hw3,hX];exact (a0d wr _ _).keeps (S:=[]) ((Keeps.refl [] _).drew) (by simp))
  have HB3:=c3o (HB.out.trans (a0c k3 HB.out.size (by simp)))
  have HO3:=c3o (a0b HO.out k3 (by simp))
  obtain⟨A',c',hv,hrw,-,hblk⟩:=a4Z (by decide) a2A HO.out
  injection hv with q1 q2 q3
  subst q1 q3
  clear q2
  have HAX:Hid (∀ a,AO=some a->a.block<X):=c3o (fun a ha=>by rw[hX];exact (hblk a ha).2)
  have HRW:=c3o (hrw.keeps a2A k3 (a0a _))
  have hlo:w.heap.size<=X:=by have:=HB.out.size;omega
  have c0:=X3.out.cell 0
  have c1':=X3.out.cell 1
  have c2':=X3.out.cell 2
  have c3:=X3.out.cell 3
  have c4:=X3.out.cell 4
  simp only[c3s,c3t] at c0 c1' c2' c3 c4
  clear hw3 hX k3 HB HO hrw hblk D0 D1 D2 D3 D0a D1a D2a D3a hcv hcva HA DRB g10 g16 g20 g24 g49 hsl
  have HNZ:=c3o HNS.out
  have hN9:nm.size<=1000000000:=by have:=HNS.out;omega
  refine (b2K w3 nm hN9).mono ?_
  rintro _ wz ⟨rfl,hwz⟩
  obtain rfl:w3=wz:=hwz.symm
  clear hwz
  cases hnb:nameB nm with
  | false=>
   have HNB:=c3o hnb
   clear hnb
   have HP:Hid (zpieces xs=(80,[])):=c3o (BADW.out 80 (by unfold zwrong;rw[if_neg (fun h=>h HZR.out),if_pos (.inr (by rw[<-HNM.out];exact HNB.out))]) (by decide))
   go_wp2_with fail
   go_ret2
   exact BAD.out 80 HP.out _ HB3.out
  | true=>
  have HNB:=c3o hnb
  clear hnb
  go_wp2_with fail
  refine (b0S w3 AO i cO acc nm HRW.out (by omega)).mono ?_
  rintro _ wz ⟨rfl,hwz⟩
  obtain rfl:w3=wz:=hwz.symm
  clear hwz
  cases hkn:inL (znames acc) nm with
  | true=>
   have HKN:=c3o hkn
   clear hkn
   have HP:Hid (zpieces xs=(80,[])):=c3o (BADW.out 80 (by unfold zwrong;rw[if_neg (fun h=>h HZR.out),if_pos (.inl (by rw[<-HNM.out];exact a6Y.1 HKN.out))]) (by decide))
   go_wp2_with fail
   go_ret2
   exact BAD.out 80 HP.out _ HB3.out
  | false=>
  have HKN:Hid (¬(a2N xs rp∈znames acc∨nameB (a2N xs rp)=false)):=c3o (by rw[<-HNM.out,HNB.out];exact fun h=>h.elim (fun h=>by rw[a6Y.2 h] at hkn;cases hkn) (fun h=>by cases h))
  clear hkn HNB
  by_cases hw:Y0=0∨Y0=8
  case neg=>
   have y1:(Y0 !=0)=true:=by simp only[bne_iff_ne];exact fun h=>hw (.inl h)
   have y2:(Y0 !=8)=true:=by simp only[bne_iff_ne];exact fun h=>hw (.inr h)
   have HP:Hid (zpieces xs=(82,[])):=c3o (BADW.out 82 (by unfold zwrong;rw[if_neg (fun h=>h HZR.out),if_neg HKN.out,if_pos (by rw[HRI.out];exact hw)]) (by decide))
   clear hw
   go_wp2_with fail
   go_ret2
   exact BAD.out 82 HP.out _ HB3.out
  have HWY:=c3o hw
  by_cases hw8:Y0=0
  ·have y1:(Y0 !=0)=false:=by simpa using hw8
   have y1':(Y0==0)=true:=by simpa using hw8
   have HW8:=c3o hw8
   clear hw hw8
   by_cases hs:8192<Y3
   case pos=>
    have t1:decide (8192<Y3)=true:=c3r hs
    have HP:Hid (zpieces xs=(87,[])):=c3o (BADW.out 87 (by unfold zwrong;rw[if_neg (fun h=>h HZR.out),if_neg HKN.out,if_neg (fun h=>h (by rw[HRI.out];exact HWY.out)),if_pos (.inl (by rw[HRI.out];exact hs))]) (by decide))
    go_wp2_with fail
    go_ret2
    exact BAD.out 87 HP.out _ HB3.out
   have t1:decide (8192<Y3)=false:=c3p hs
   by_cases hp:16384<Y2
   case pos=>
    have t2:decide (16384<Y2)=true:=c3r hp
    have HP:Hid (zpieces xs=(87,[])):=c3o (BADW.out 87 (by unfold zwrong;rw[if_neg (fun h=>h HZR.out),if_neg HKN.out,if_neg (fun h=>h (by rw[HRI.out];exact HWY.out)),if_pos (.inr (by rw[HRI.out];exact hp))]) (by decide))
    go_wp2_with fail
    go_ret2
    exact BAD.out 87 HP.out _ HB3.out
   have t2:decide (16384<Y2)=false:=c3p hp
   have HSP:Hid (¬(8192<(zrecI xs rp).size∨16384<(zrecI xs rp).packed)):=c3o (by rw[HRI.out];exact fun h=>h.elim hs hp)
   obtain⟨p2,hp2⟩:∃ z:Nat,Y2=z:=⟨Y2.toNat,by have:=HY.out.2.2.1;omega⟩
   have hp3:p2<=16384:=by omega
   clear hs hp
   subst hp2
   have t2':decide (16384<p2)=false:=c3p (by omega)
   obtain⟨FR,hFR⟩:∃ z,z=at_+30+lg:=⟨_,rfl⟩
   obtain⟨TO,hTO⟩:∃ z,z=FR+p2:=⟨_,rfl⟩
   have f1:IntKind.i64.wrap ((at_:Int)+30)=((at_+30:Nat):Int):=by rw[c3q _ (by omega)];omega
   have f2:IntKind.i64.wrap (((at_+30:Nat):Int)+(lg:Int))=(FR:Int):=by rw[c3q _ (by omega)];omega
   have f2':IntKind.i64.wrap ((at_:Int)+30+(lg:Int))=(FR:Int):=by rw[c3q _ (by omega)];omega
   have f3:IntKind.i64.wrap ((FR:Int)+(p2:Int))=(TO:Int):=by rw[c3q _ (by omega)];omega
   have f42:IntKind.i64.wrap ((rp:Int)+42)=((rp+42:Nat):Int):=by rw[c3q _ (by omega)];omega
   have HFR:=c3o hFR
   have HTO:=c3o hTO
   have hns:=HNS.out
   have HC5:Hid (∀ P:Prop,(((zrecI xs rp).way=8∨(zrecI xs rp).size=(zrecI xs rp).packed)/\zget xs (rp+42) 4=at_/\((at_+30+a0V xs rp:Nat):Int)+(zrecI xs rp).packed<=fs->P)->((Y0=8∨Y3=p2)/\zget xs (rp+42) 4=at_/\TO<=fs->P)):=c3o (by rw[HRI.out,<-HL2.out,<-HFR.out];exact fun P h hh=>h ⟨hh.1,hh.2.1,by show (FR:Int)+(p2:Int)<=fs;have:=HTO.out;omega⟩)
   have HC6:Hid (((zrecI xs rp).way=8∨(zrecI xs rp).size=(zrecI xs rp).packed)/\zget xs (rp+42) 4=at_/\((at_+30+a0V xs rp:Nat):Int)+(zrecI xs rp).packed<=fs->(Y0=8∨Y3=p2)/\zget xs (rp+42) 4=at_/\TO<=fs):=c3o (by rw[HRI.out,<-HL2.out,<-HFR.out];exact fun hh=>⟨hh.1,hh.2.1,by have:=HTO.out;have h3:(FR:Int)+(p2:Int)<=fs:=hh.2.2;omega⟩)
   clear hFR hTO
   by_cases h35:Y3=p2
   case neg=>
    have y3:(Y3 !=(p2:Int))=true:=by simpa using h35
    have HP:Hid (zpieces xs=(81,[])):=c3o (BADW.out 81 (by unfold zwrong;rw[if_neg (fun h=>h HZR.out),if_neg HKN.out,if_neg (fun h=>h (by rw[HRI.out];exact HWY.out)),if_neg HSP.out,if_pos (fun h=>(HC6.out h).1.elim (fun h=>by have:=HW8.out;omega) h35)]) (by decide))
    go_wp2_with fail
    go_ret2
    exact BAD.out 81 HP.out _ HB3.out
   have y3:(Y3 !=(p2:Int))=false:=by simpa using h35
   have HY8:Hid (Y0=8∨Y3=p2):=c3o (.inr h35)
   clear h35
   go_wp2_with fail
   refine (G.out w3 HB3.out (rp+42) 4 (by omega) (by omega)).mono ?_
   rintro _ wz ⟨rfl,hwz⟩
   obtain rfl:w3=wz:=hwz.symm
   clear hwz
   by_cases h42:zget xs (rp+42) 4=(at_:Int)
   case neg=>
    have y4:(zget xs (rp+42) 4 !=(at_:Int))=true:=by simpa using h42
    have HP:Hid (zpieces xs=(81,[])):=c3o (BADW.out 81 (by unfold zwrong;rw[if_neg (fun h=>h HZR.out),if_neg HKN.out,if_neg (fun h=>h (by rw[HRI.out];exact HWY.out)),if_neg HSP.out,if_pos (fun h=>h42 (HC6.out h).2.1)]) (by decide))
    go_wp2_with fail
    go_ret2
    exact BAD.out 81 HP.out _ HB3.out
   have y4:(zget xs (rp+42) 4 !=(at_:Int))=false:=by simpa using h42
   have H42:=c3o h42
   clear h42
   by_cases hto:TO<=fs
   case neg=>
    have y5:decide ((fs:Int)<(TO:Int))=true:=c3r (by omega)
    have y5':decide (fs<TO)=true:=c3r (by omega)
    have HP:Hid (zpieces xs=(81,[])):=c3o (BADW.out 81 (by unfold zwrong;rw[if_neg (fun h=>h HZR.out),if_neg HKN.out,if_neg (fun h=>h (by rw[HRI.out];exact HWY.out)),if_neg HSP.out,if_pos (fun h=>hto (HC6.out h).2.2)]) (by decide))
    go_wp2_with fail
    go_ret2
    exact BAD.out 81 HP.out _ HB3.out
   have y5:decide ((fs:Int)<(TO:Int))=false:=c3p (by omega)
   have y5':decide (fs<TO)=false:=c3p (by omega)
   have HC7:Hid (((zrecI xs rp).way=8∨(zrecI xs rp).size=(zrecI xs rp).packed)/\zget xs (rp+42) 4=at_/\((at_+30+a0V xs rp:Nat):Int)+(zrecI xs rp).packed<=fs):=c3o (HC5.out _ id ⟨HY8.out,H42.out,hto⟩)
   have hend:at_+30+nm.size<=n:=by have:=HFR.out;have:=HTO.out;omega
   have HHD:=c3o (a6W w3 A n c xs (HZ.out.keeps (Keeps.of_below HB3.out (S:=[])) (a0a _)) at_ ⟨nm,Y3,p2,Y1,Y0⟩ hend HY.out.2.1)
   simp only[icells] at HHD
   go_wp2_with fail
   refine HHD.out.mono ?_
   rintro _ w4 ⟨rfl,hb4⟩
   have k4:=Keeps.of_below hb4 (S:=[])
   have HB4:=c3o (HB3.out.trans (a0c k4 HB3.out.size (by simp)))
   have X4:=c3o (X3.out.keeps k4 (by simp))
   have HO4:=c3o (a0b HO3.out k4 (by simp))
   have hX4:X<w4.heap.size:=X4.out.lt
   clear c0 c1' c2' c3 c4 k4 hb4 X3 HO3 HRW HHD
   have c0:=X4.out.cell 0
   have c1':=X4.out.cell 1
   have c2':=X4.out.cell 2
   have c3:=X4.out.cell 3
   have c4:=X4.out.cell 4
   simp only[c3s,c3t] at c0 c1' c2' c3 c4
   by_cases hhd:a1E xs at_ ⟨nm,Y3,p2,Y1,Y0⟩
   case neg=>
    rw[c3p hhd]
    have HP:Hid (zpieces xs=(81,[])):=c3o (BADW.out 81 (by unfold zwrong;rw[if_neg (fun h=>h HZR.out),if_neg HKN.out,if_neg (fun h=>h (by rw[HRI.out];exact HWY.out)),if_neg HSP.out,if_neg (fun h=>h HC7.out),if_pos (by rw[HRI.out];exact hhd)]) (by decide))
    clear hhd
    go_wp2_with fail
    go_ret2
    exact BAD.out 81 HP.out _ HB4.out
   rw[c3r hhd]
   have HZ0:Hid (zwrong xs fs en rp at_ (znames acc)=0):=c3o (by unfold zwrong;rw[if_neg (fun h=>h HZR.out),if_neg HKN.out,if_neg (fun h=>h (by rw[HRI.out];exact HWY.out)),if_neg HSP.out,if_neg (fun h=>h HC7.out),if_neg (fun h=>h (by rw[HRI.out];exact hhd))])
   have HZT:Hid (zpieces xs=a1n xs fs en (N-(i+1)) NQ TO (acc++[a1w xs rp at_])):=c3o (by rw[HZS.out,if_pos HZ0.out,HRI.out];show a1n xs fs en (N-(i+1)) (rp+46+lg) (at_+30+lg+((p2:Int)).toNat) _=_;rw[Int.toNat_natCast,<-HFR.out,<-HTO.out,<-HNP.out,<-HNQ.out])
   have HPC:Hid (a1w xs rp at_=⟨⟨nm,Y3,p2,Y1,Y0⟩,FR⟩):=c3o (by unfold a1w;rw[HRI.out,<-HL2.out,<-HFR.out])
   rw[HPC.out] at HZT
   have HPR:Hid (pcr ⟨⟨nm,Y3,p2,Y1,Y0⟩,FR⟩=[.string nm,.int .i64 Y3,.int .i64 p2,.int .u32 Y1,.int .i64 Y0,.int .i64 (FR:Nat),.int .i64 (TO:Nat)]):=c3o (by rw[HTO.out];rfl)
   have hnq:NQ<=en:=by have:=HNQ.out;have:=HNP.out;omega
   clear hhd HC5 HC6 HC7 HSP HWY HKN HZ0 HPC HRI HNM HNS HNZ hns hN9 HY HY8 H42 hend f42 HZR HZS BADW HLG HL2
   go_wp2_with (at_builtin;go_loud (refine app_rw b1Q a2A b7F rfl (.tmp 224) (.tmp 232) rfl w.heap.size _ i acc rfl (a0b HO4.out ((Keeps.refl [] w4).alloc _) (by simp)) w4.heap.size ⟨⟨nm,Y3,p2,Y1,Y0⟩,FR⟩ rfl (fun j hj=>by rw[HPR.out];exact (a0d w4 83 [.string nm,.int .i64 Y3,.int .i64 p2,.int .u32 Y1,.int .i64 Y0,.int .i64 (FR:Nat),.int .i64 (TO:Nat)]).cell j) (by omega) (by have:=HB4.out.size;simp;omega) ?_;intro v5 w5 ho5 hg5;obtain⟨A5,c5,rfl⟩:=a0h ho5;have HO5:=c3o ho5;have HB5:=c3o ((HB4.out.alloc HB4.out.size (.cells #[.string nm,.int .i64 Y3,.int .i64 p2,.int .u32 Y1,.int .i64 Y0,.int .i64 FR,.int .i64 TO] 83)).grown hg5 (by have:=HB4.out.size;simp;omega) (fun k hk=>a0j HO4.out k hk));have k5:Keeps (Value.slice AO i cO).ownBlock.toList w4 w5:=((Keeps.refl _ w4).alloc _).grown hg5 (fun k hk=>.inl (c3H.2 hk));have c2':=k5.cell (p:=⟨X,2,none⟩) (fun hm=>by obtain⟨a,ha,hab⟩:=c2A (c3H.1 hm);have:=HAX.out a ha;simp at hab;omega) c2';clear ho5 hg5 k5))
   go_roundw
   case rel=>exact⟨i+1,NQ,TO,acc++[⟨⟨nm,Y3,p2,Y1,Y0⟩,FR⟩],A5,c5,by omega,by go_num,rfl,rfl,rfl,hnq,hto,c3o (by rw[c3F,HAL.out];rfl),HZT,HO5,HB5⟩
   case measure=>simp[intOf];omega
  ·have y1:(Y0 !=0)=true:=by simpa using hw8
   have y1':(Y0==0)=false:=by simpa using hw8
   have hw8:Y0=8:=hw.resolve_left hw8
   have y2:(Y0 !=8)=false:=by simpa using hw8
   have HW8:=c3o hw8
   clear hw hw8
   by_cases hs:8192<Y3
   case pos=>
    have t1:decide (8192<Y3)=true:=c3r hs
    have HP:Hid (zpieces xs=(87,[])):=c3o (BADW.out 87 (by unfold zwrong;rw[if_neg (fun h=>h HZR.out),if_neg HKN.out,if_neg (fun h=>h (by rw[HRI.out];exact HWY.out)),if_pos (.inl (by rw[HRI.out];exact hs))]) (by decide))
    go_wp2_with fail
    go_ret2
    exact BAD.out 87 HP.out _ HB3.out
   have t1:decide (8192<Y3)=false:=c3p hs
   by_cases hp:16384<Y2
   case pos=>
    have t2:decide (16384<Y2)=true:=c3r hp
    have HP:Hid (zpieces xs=(87,[])):=c3o (BADW.out 87 (by unfold zwrong;rw[if_neg (fun h=>h HZR.out),if_neg HKN.out,if_neg (fun h=>h (by rw[HRI.out];exact HWY.out)),if_pos (.inr (by rw[HRI.out];exact hp))]) (by decide))
    go_wp2_with fail
    go_ret2
    exact BAD.out 87 HP.out _ HB3.out
   have t2:decide (16384<Y2)=false:=c3p hp
   have HSP:Hid (¬(8192<(zrecI xs rp).size∨16384<(zrecI xs rp).packed)):=c3o (by rw[HRI.out];exact fun h=>h.elim hs hp)
   obtain⟨p2,hp2⟩:∃ z:Nat,Y2=z:=⟨Y2.toNat,by have:=HY.out.2.2.1;omega⟩
   have hp3:p2<=16384:=by omega
   clear hs hp
   subst hp2
   have t2':decide (16384<p2)=false:=c3p (by omega)
   obtain⟨FR,hFR⟩:∃ z,z=at_+30+lg:=⟨_,rfl⟩
   obtain⟨TO,hTO⟩:∃ z,z=FR+p2:=⟨_,rfl⟩
   have f1:IntKind.i64.wrap ((at_:Int)+30)=((at_+30:Nat):Int):=by rw[c3q _ (by omega)];omega
   have f2:IntKind.i64.wrap (((at_+30:Nat):Int)+(lg:Int))=(FR:Int):=by rw[c3q _ (by omega)];omega
   have f2':IntKind.i64.wrap ((at_:Int)+30+(lg:Int))=(FR:Int):=by rw[c3q _ (by omega)];omega
   have f3:IntKind.i64.wrap ((FR:Int)+(p2:Int))=(TO:Int):=by rw[c3q _ (by omega)];omega
   have f42:IntKind.i64.wrap ((rp:Int)+42)=((rp+42:Nat):Int):=by rw[c3q _ (by omega)];omega
   have HFR:=c3o hFR
   have HTO:=c3o hTO
   have hns:=HNS.out
   have HC5:Hid (∀ P:Prop,(((zrecI xs rp).way=8∨(zrecI xs rp).size=(zrecI xs rp).packed)/\zget xs (rp+42) 4=at_/\((at_+30+a0V xs rp:Nat):Int)+(zrecI xs rp).packed<=fs->P)->((Y0=8∨Y3=p2)/\zget xs (rp+42) 4=at_/\TO<=fs->P)):=c3o (by rw[HRI.out,<-HL2.out,<-HFR.out];exact fun P h hh=>h ⟨hh.1,hh.2.1,by show (FR:Int)+(p2:Int)<=fs;have:=HTO.out;omega⟩)
   have HC6:Hid (((zrecI xs rp).way=8∨(zrecI xs rp).size=(zrecI xs rp).packed)/\zget xs (rp+42) 4=at_/\((at_+30+a0V xs rp:Nat):Int)+(zrecI xs rp).packed<=fs->(Y0=8∨Y3=p2)/\zget xs (rp+42) 4=at_/\TO<=fs):=c3o (by rw[HRI.out,<-HL2.out,<-HFR.out];exact fun hh=>⟨hh.1,hh.2.1,by have:=HTO.out;have h3:(FR:Int)+(p2:Int)<=fs:=hh.2.2;omega⟩)
   clear hFR hTO
   have HY8:Hid (Y0=8∨Y3=p2):=c3o (.inl HW8.out)
   go_wp2_with fail
   refine (G.out w3 HB3.out (rp+42) 4 (by omega) (by omega)).mono ?_
   rintro _ wz ⟨rfl,hwz⟩
   obtain rfl:w3=wz:=hwz.symm
   clear hwz
   by_cases h42:zget xs (rp+42) 4=(at_:Int)
   case neg=>
    have y4:(zget xs (rp+42) 4 !=(at_:Int))=true:=by simpa using h42
    have HP:Hid (zpieces xs=(81,[])):=c3o (BADW.out 81 (by unfold zwrong;rw[if_neg (fun h=>h HZR.out),if_neg HKN.out,if_neg (fun h=>h (by rw[HRI.out];exact HWY.out)),if_neg HSP.out,if_pos (fun h=>h42 (HC6.out h).2.1)]) (by decide))
    go_wp2_with fail
    go_ret2
    exact BAD.out 81 HP.out _ HB3.out
   have y4:(zget xs (rp+42) 4 !=(at_:Int))=false:=by simpa using h42
   have H42:=c3o h42
   clear h42
   by_cases hto:TO<=fs
   case neg=>
    have y5:decide ((fs:Int)<(TO:Int))=true:=c3r (by omega)
    have y5':decide (fs<TO)=true:=c3r (by omega)
    have HP:Hid (zpieces xs=(81,[])):=c3o (BADW.out 81 (by unfold zwrong;rw[if_neg (fun h=>h HZR.out),if_neg HKN.out,if_neg (fun h=>h (by rw[HRI.out];exact HWY.out)),if_neg HSP.out,if_pos (fun h=>hto (HC6.out h).2.2)]) (by decide))
    go_wp2_with fail
    go_ret2
    exact BAD.out 81 HP.out _ HB3.out
   have y5:decide ((fs:Int)<(TO:Int))=false:=c3p (by omega)
   have y5':decide (fs<TO)=false:=c3p (by omega)
   have HC7:Hid (((zrecI xs rp).way=8∨(zrecI xs rp).size=(zrecI xs rp).packed)/\zget xs (rp+42) 4=at_/\((at_+30+a0V xs rp:Nat):Int)+(zrecI xs rp).packed<=fs):=c3o (HC5.out _ id ⟨HY8.out,H42.out,hto⟩)
   have hend:at_+30+nm.size<=n:=by have:=HFR.out;have:=HTO.out;omega
   have HHD:=c3o (a6W w3 A n c xs (HZ.out.keeps (Keeps.of_below HB3.out (S:=[])) (a0a _)) at_ ⟨nm,Y3,p2,Y1,Y0⟩ hend HY.out.2.1)
   simp only[icells] at HHD
   go_wp2_with fail
   refine HHD.out.mono ?_
   rintro _ w4 ⟨rfl,hb4⟩
   have k4:=Keeps.of_below hb4 (S:=[])
   have HB4:=c3o (HB3.out.trans (a0c k4 HB3.out.size (by simp)))
   have X4:=c3o (X3.out.keeps k4 (by simp))
   have HO4:=c3o (a0b HO3.out k4 (by simp))
   have hX4:X<w4.heap.size:=X4.out.lt
   clear c0 c1' c2' c3 c4 k4 hb4 X3 HO3 HRW HHD
   have c0:=X4.out.cell 0
   have c1':=X4.out.cell 1
   have c2':=X4.out.cell 2
   have c3:=X4.out.cell 3
   have c4:=X4.out.cell 4
   simp only[c3s,c3t] at c0 c1' c2' c3 c4
   by_cases hhd:a1E xs at_ ⟨nm,Y3,p2,Y1,Y0⟩
   case neg=>
    rw[c3p hhd]
    have HP:Hid (zpieces xs=(81,[])):=c3o (BADW.out 81 (by unfold zwrong;rw[if_neg (fun h=>h HZR.out),if_neg HKN.out,if_neg (fun h=>h (by rw[HRI.out];exact HWY.out)),if_neg HSP.out,if_neg (fun h=>h HC7.out),if_pos (by rw[HRI.out];exact hhd)]) (by decide))
    clear hhd
    go_wp2_with fail
    go_ret2
    exact BAD.out 81 HP.out _ HB4.out
   rw[c3r hhd]
   have HZ0:Hid (zwrong xs fs en rp at_ (znames acc)=0):=c3o (by unfold zwrong;rw[if_neg (fun h=>h HZR.out),if_neg HKN.out,if_neg (fun h=>h (by rw[HRI.out];exact HWY.out)),if_neg HSP.out,if_neg (fun h=>h HC7.out),if_neg (fun h=>h (by rw[HRI.out];exact hhd))])
   have HZT:Hid (zpieces xs=a1n xs fs en (N-(i+1)) NQ TO (acc++[a1w xs rp at_])):=c3o (by rw[HZS.out,if_pos HZ0.out,HRI.out];show a1n xs fs en (N-(i+1)) (rp+46+lg) (at_+30+lg+((p2:Int)).toNat) _=_;rw[Int.toNat_natCast,<-HFR.out,<-HTO.out,<-HNP.out,<-HNQ.out])
   have HPC:Hid (a1w xs rp at_=⟨⟨nm,Y3,p2,Y1,Y0⟩,FR⟩):=c3o (by unfold a1w;rw[HRI.out,<-HL2.out,<-HFR.out])
   rw[HPC.out] at HZT
   have HPR:Hid (pcr ⟨⟨nm,Y3,p2,Y1,Y0⟩,FR⟩=[.string nm,.int .i64 Y3,.int .i64 p2,.int .u32 Y1,.int .i64 Y0,.int .i64 (FR:Nat),.int .i64 (TO:Nat)]):=c3o (by rw[HTO.out];rfl)
   have hnq:NQ<=en:=by have:=HNQ.out;have:=HNP.out;omega
   clear hhd HC5 HC6 HC7 HSP HWY HKN HZ0 HPC HRI HNM HNS HNZ hns hN9 HY HY8 H42 hend f42 HZR HZS BADW HLG HL2
   go_wp2_with (at_builtin;go_loud (refine app_rw b1Q a2A b7F rfl (.tmp 224) (.tmp 232) rfl w.heap.size _ i acc rfl (a0b HO4.out ((Keeps.refl [] w4).alloc _) (by simp)) w4.heap.size ⟨⟨nm,Y3,p2,Y1,Y0⟩,FR⟩ rfl (fun j hj=>by rw[HPR.out];exact (a0d w4 83 [.string nm,.int .i64 Y3,.int .i64 p2,.int .u32 Y1,.int .i64 Y0,.int .i64 (FR:Nat),.int .i64 (TO:Nat)]).cell j) (by omega) (by have:=HB4.out.size;simp;omega) ?_;intro v5 w5 ho5 hg5;obtain⟨A5,c5,rfl⟩:=a0h ho5;have HO5:=c3o ho5;have HB5:=c3o ((HB4.out.alloc HB4.out.size (.cells #[.string nm,.int .i64 Y3,.int .i64 p2,.int .u32 Y1,.int .i64 Y0,.int .i64 FR,.int .i64 TO] 83)).grown hg5 (by have:=HB4.out.size;simp;omega) (fun k hk=>a0j HO4.out k hk));have k5:Keeps (Value.slice AO i cO).ownBlock.toList w4 w5:=((Keeps.refl _ w4).alloc _).grown hg5 (fun k hk=>.inl (c3H.2 hk));have c2':=k5.cell (p:=⟨X,2,none⟩) (fun hm=>by obtain⟨a,ha,hab⟩:=c2A (c3H.1 hm);have:=HAX.out a ha;simp at hab;omega) c2';clear ho5 hg5 k5))
   go_roundw
   case rel=>exact⟨i+1,NQ,TO,acc++[⟨⟨nm,Y3,p2,Y1,Y0⟩,FR⟩],A5,c5,by omega,by go_num,rfl,rfl,rfl,hnq,hto,c3o (by rw[c3F,HAL.out];rfl),HZT,HO5,HB5⟩
   case measure=>simp[intOf];omega
open Go.RowKit
theorem a6N(w:World)(A:Option Addr)(n c:Nat)(xs:List Int)(hz:ZB w A n c xs)(p:ZP)(hin:p.fro+p.len<=n)(hlen:p.len<=1000000)(hsz:p.x.size<=1000000) :
  Calls Tryz.prog 50 #[.slice A n c,.agg (pcr p).toArray] w fun e w'=>e=.returned (.tuple #[.string (strOfNums (a1B xs p).1),.int .i64 (a1B xs p).2])/\Below w.heap.size w w':=by
 rw[a7V (by rw[hz.ri.len];exact hin)]
 have HZ:=c3o hz
 have hn:=hz.len
 obtain⟨⟨nm,a1,a2,a3,a4⟩,fro⟩:=p
 dsimp only[pcr] at hin hlen hsz ⊢
 generalize hsn:ZP.len ⟨⟨nm,a1,a2,a3,a4⟩,fro⟩=sn at *
 clear hsn
 obtain⟨body,hbody⟩:∃ z,z=seg xs fro sn:=⟨_,rfl⟩
 obtain⟨to',hto⟩:∃ z,z=fro+sn:=⟨_,rfl⟩
 obtain⟨SA,hSA⟩:∃ z,z=cutA A fro c:=⟨_,rfl⟩
 obtain⟨sc,hsc⟩:∃ z,z=c-fro:=⟨_,rfl⟩
 obtain⟨sn',hsn'⟩:∃ z,z=to'-fro:=⟨_,rfl⟩
 have hr:RI .u8 w SA sn body:=by
  have:=hz.ri.mid hz.cap (l:=fro) (m:=fro+sn) (by omega) (by omega)
  rw[Nat.add_sub_cancel_left] at this
  rw[hSA,hbody];exact this
 have hb:∀ x∈body,0<=x/\x<=255:=by rw[hbody];exact a5f hz.byte _ _
 have hsl:∀ W:World,(Instr.slice 26 (.slice A n c) (some (.int .i64 (fro:Int))) (some (.int .i64 (to':Int))) none).run Tryz.prog W=.ok (.slice SA sn sc) W:=fun W=>by
  have:=a2c W A n c fro to' fro to' rfl rfl (by omega) (by omega) hz.cap
  rw[this,hSA,hsc,show to'-fro=sn by omega]
 rw[<-hbody,<-hto]
 have HL:Hid (body.length=sn):=c3o hr.len
 have HBY:=c3o hb
 have HR:=c3o hr
 have hsn:=hlen
 clear hr hb hz hbody hto hSA hsc hsn' hin hn hlen
 obtain⟨X,hX⟩:∃ z,z=w.heap.size:=⟨_,rfl⟩
 obtain⟨w1,hw1⟩:∃ z,z=w.alloc (.cells #[.string nm,.int .i64 a1,.int .i64 a2,.int .u32 a3,.int .i64 a4,.int .i64 (fro:Nat),.int .i64 (to':Nat)] 83):=⟨_,rfl⟩
 have k1:Keeps [] w w1:=by rw[hw1];exact (Keeps.refl [] w).alloc _
 have X1:Hid (Blk w1 X 83 [.string nm,.int .i64 a1,.int .i64 a2,.int .u32 a3,.int .i64 a4,.int .i64 (fro:Nat),.int .i64 (to':Nat)]):=c3o (by rw[hw1,hX];exact a0d w _ _)
 have B1:Hid (Below w.heap.size w w1):=c3o k1.below
 have R1:=c3o (HR.out.keeps k1 (a0a _))
 have x1:=X1.out.cell 1
 have x3:=X1.out.cell 3
 have x4:=X1.out.cell 4
 have x5:=X1.out.cell 5
 have x6:=X1.out.cell 6
 simp only[c3s,c3t] at x1 x3 x4 x5 x6
 go_enter Tryz.func50,Tryz.ntmps50
 go_upto_region 1 with (fail)
 rw[<-hw1,<-hX]
 clear hw1 hX k1 HR
 by_cases h8:a4=8
 ·have b8:(a4==8)=true:=by simpa using h8
  have HP:Hid (a1X a4 a1 a3 body=if (a0B body a1).2.2≠0∨(a0B body a1).2.1≠body.length∨((a0B body a1).1.length:Int)≠a1 then ([],84) else if ((crcF (a0B body a1).1:Nat):Int)≠a3 then ([],83) else ((a0B body a1).1,0)):=c3o (by unfold a1X;rw[if_pos h8])
  clear h8
  go_wp2_with fail
  refine (a8e w1 SA sn sc body a1 R1.out (fun j=>ZU8.nth (l:=body) HBY.out j) (by omega)).mono ?_
  rintro _ w2 ⟨A2,c2,rfl,hr2,hA2,hk2⟩
  have HU:=c3o (b4d body a1)
  generalize a0B body a1=r at *
  obtain⟨out,used,err⟩:=r
  dsimp only at HP HU hr2 ⊢
  obtain⟨on,hon⟩:∃ z,z=out.length:=⟨_,rfl⟩
  rw[<-hon] at hr2 HP ⊢
  have HON:=c3o hon
  have R2:=c3o hr2
  have X2:=c3o (X1.out.keeps hk2 (by simp))
  have B2:=c3o (B1.out.trans (a0c hk2 B1.out.size (by simp)))
  have x1:=X2.out.cell 1
  have x3:=X2.out.cell 3
  simp only[c3s,c3t] at x1 x3
  clear hr2 hA2 hk2 hon x4 x5 x6 R1 X1 B1 hsl
  by_cases e0:err=0
  case neg=>
   have b0:(err !=0)=true:=by simpa using e0
   have HQ:Hid (a1X a4 a1 a3 body=([],84)):=c3o (by rw[HP.out,if_pos (.inl e0)])
   clear e0
   go_wp2_with fail
   go_ret2
   exact⟨by rw[HQ.out];rfl,B2.out⟩
  have b0:(err !=0)=false:=by simpa using e0
  by_cases e1:used=body.length
  case neg=>
   have b1:((used:Int) !=(sn:Int))=true:=by have:=HL.out;simp;omega
   have HQ:Hid (a1X a4 a1 a3 body=([],84)):=c3o (by rw[HP.out,if_pos (.inr (.inl e1))])
   clear e0 e1
   go_wp2_with fail
   go_ret2
   exact⟨by rw[HQ.out];rfl,B2.out⟩
  have b1:((used:Int) !=(sn:Int))=false:=by have:=HL.out;simp;omega
  by_cases e2:(on:Int)=a1
  case neg=>
   have b2:((on:Int) !=a1)=true:=by simpa using e2
   have HQ:Hid (a1X a4 a1 a3 body=([],84)):=c3o (by rw[HP.out,if_pos (.inr (.inr e2))])
   clear e0 e1 e2
   go_wp2_with fail
   go_ret2
   exact⟨by rw[HQ.out];rfl,B2.out⟩
  have b2:((on:Int) !=a1)=false:=by simpa using e2
  have HP2:Hid (a1X a4 a1 a3 body=if ((crcF out:Nat):Int)≠a3 then ([],83) else (out,0)):=c3o (by rw[HP.out,if_neg (by rintro (h|h|h);exact h e0;exact h e1;exact h e2)])
  have HCL:Hid (∀ q,Calls Tryz.prog 45 #[.slice A2 on c2] (w2.drewN q) fun e w'=>e=.returned (.int .u32 ((crcF out:Nat):Int))/\∃ m,w'=(w2.drewN q).drewN m):=c3o (fun q=>(a8J (w2.drewN q) A2 on c2 out (R2.out.keeps ((Keeps.refl [] w2).drewN q) (a0a _)) HU.out (by omega)).mono fun _ _ ⟨h,h2⟩=>⟨h,0,h2⟩)
  have hcv:∀ q,(convert 26 9 (.slice A2 on c2)).run Tryz.prog (w2.drewN q)=.ok (.string (strOfNums out)) (w2.drewN q):=fun q=>b3E (R2.out.keeps ((Keeps.refl [] w2).drewN q) (a0a _))
  clear e0 e1 e2 HP
  generalize crcF out=S at *
  go_upto_region 8 with (fail)
  go_quiet (first|(go_at_call 45;exact Calls.quiet_of (HCL.out _)))
  have hcv:=hcv nq
  by_cases e3:(S:Int)=a3
  ·have b3:((S:Int) !=a3)=false:=by simpa using e3
   have HQ:Hid (a1X a4 a1 a3 body=(out,0)):=c3o (by rw[HP2.out,if_neg (fun h=>h e3)])
   clear e3
   go_wp2_with fail
   go_ret2
   exact⟨by rw[HQ.out];rfl,B2.out.trans (a0c ((Keeps.refl [] w2).drewN nq) B2.out.size (by simp))⟩
  ·have b3:((S:Int) !=a3)=true:=by simpa using e3
   have HQ:Hid (a1X a4 a1 a3 body=([],83)):=c3o (by rw[HP2.out,if_pos e3])
   clear e3
   go_wp2_with fail
   go_ret2
   exact⟨by rw[HQ.out];rfl,B2.out.trans (a0c ((Keeps.refl [] w2).drewN nq) B2.out.size (by simp))⟩
 ·have b8:(a4==8)=false:=by simpa using h8
  have HP2:Hid (a1X a4 a1 a3 body=if ((crcF body:Nat):Int)≠a3 then ([],83) else (body,0)):=c3o (by unfold a1X;rw[if_neg h8])
  have HCL:Hid (∀ q,Calls Tryz.prog 45 #[.slice SA sn sc] (w1.drewN q) fun e w'=>e=.returned (.int .u32 ((crcF body:Nat):Int))/\∃ m,w'=(w1.drewN q).drewN m):=c3o (fun q=>(a8J (w1.drewN q) SA sn sc body (R1.out.keeps ((Keeps.refl [] w1).drewN q) (a0a _)) HBY.out (by omega)).mono fun _ _ ⟨h,h2⟩=>⟨h,0,h2⟩)
  have hcv:∀ q,(convert 26 9 (.slice SA sn sc)).run Tryz.prog (w1.drewN q)=.ok (.string (strOfNums body)) (w1.drewN q):=fun q=>b3E (R1.out.keeps ((Keeps.refl [] w1).drewN q) (a0a _))
  clear h8
  generalize crcF body=S at *
  go_upto_region 8 with (fail)
  go_quiet (first|(go_at_call 45;exact Calls.quiet_of (HCL.out _)))
  have hcv:=hcv nq
  by_cases e3:(S:Int)=a3
  ·have b3:((S:Int) !=a3)=false:=by simpa using e3
   have HQ:Hid (a1X a4 a1 a3 body=(body,0)):=c3o (by rw[HP2.out,if_neg (fun h=>h e3)])
   clear e3
   go_wp2_with fail
   go_ret2
   exact⟨by rw[HQ.out];rfl,B1.out.trans (a0c ((Keeps.refl [] w1).drewN nq) B1.out.size (by simp))⟩
  ·have b3:((S:Int) !=a3)=true:=by simpa using e3
   have HQ:Hid (a1X a4 a1 a3 body=([],83)):=c3o (by rw[HP2.out,if_pos e3])
   clear e3
   go_wp2_with fail
   go_ret2
   exact⟨by rw[HQ.out];rfl,B1.out.trans (a0c ((Keeps.refl [] w1).drewN nq) B1.out.size (by simp))⟩
end Go.Proofs.YtghjlpechjggjaaGreatDoor
