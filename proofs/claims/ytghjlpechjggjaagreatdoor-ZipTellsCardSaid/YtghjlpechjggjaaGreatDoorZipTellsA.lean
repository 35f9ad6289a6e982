import Derived.Test.YtghjlpechjggjaaGreatDoorZshC
import Derived.Test.YtghjlpechjggjaaGreatDoorCards
import Derived.Test.YtghjlpechjggjaaGreatDoorTie
import Derived.Test.YtghjlpechjggjaaGreatDoorZshB
import Derived.ProofKit
import Derived.OpenShut
import Derived.ChangeOld
import Derived.Deep.DeepHandedRow
import Derived.Deep.DeepLaidRun
import Derived.Lib.LaidTab
import Derived.Test.YtghjlpechjggjaaGreatDoorZshH
import Derived.Test.YtghjlpechjggjaaGreatDoorZshN
import Derived.Test.YtghjlpechjggjaaGreatDoorZshA
import Derived.Laws.BytesArg
set_option linter.defProp false
set_option linter.unnecessarySimpa false
set_option linter.unusedVariables false
set_option linter.unusedSimpArgs false
set_option linter.constructorNameAsVariable false
set_option maxRecDepth 100000
set_option maxHeartbeats 60000000
namespace Go.Proofs.YtghjlpechjggjaaGreatDoor
open Go.RowKit
private def c1n := @Lib.hid
open Go.RowKit
open Go.ChangeShapes Go.WideShapes Go.ChangeAt Go.RowKit
theorem slice_to8(w:World)(A:Option Addr)(n c l:Nat)(li:Int)(hli:li=l)(hl:l<=n)(hc:CapOk A n c) :
  (Instr.slice 26 (.slice A n c) none (some (.int .i64 li)) none).run Tryz.prog w=.ok (.slice A l c) w:=by
 obtain⟨h1,-,h3⟩:=hc
 subst hli
 rw[run_slice_h w 26 A n c (by kernel_rfl) .i64 l (by omega) (by omega)]
 have hs:(sizeOf (Tryz.prog.elem 26)).run Tryz.prog w=.ok 1 w:=by kernel_rfl
 rw[hs]
 by_cases h0:c=0
 ·subst h0
  simp[Result.andThen,sliced]
 ·obtain⟨b,o,rfl⟩:=h3 (by omega)
  simp[Result.andThen,sliced,a0t]
theorem laidOut:laidOutB Tryz.prog=true:=by kernel_rfl
theorem zfindL_step{xs:List Int}{name:ByteArray}{ps:List ZP}{i:Nat}(hi:i<ps.length):zfindL xs name (ps.drop i)=if ps[i].x.name=name then a2B xs ps[i] else zfindL xs name (ps.drop (i+1)):=by
 rw[List.drop_eq_getElem_cons hi,zfindL]
theorem zfind_calls(w:World)(A:Option Addr)(n c:Nat)(xs:List Int)(name:ByteArray)(hz:ZB w A n c xs)(hT:Tabz w) :
  Calls Tryz.prog 21 #[.slice A n c,.string name] w fun e w'=>e=.returned (.tuple #[.string (strOfNums (b4t xs name).1),.int .i64 (b4t xs name).2])/\Below w.heap.size w w':=by
 have HZ:=c1n hz
 have HT:=c1n hT
 clear hz hT
 go_enter Tryz.func21,Tryz.ntmps21
 go_wp2_with fail
 refine (a5g w A n c xs HZ.out).mono ?_
 rintro _ w2 ⟨v2,rfl,hv0,hv1,hb2⟩
 have HB2:=c1n hb2
 by_cases e0:(zpieces xs).1=0
 case neg=>
  have HR:Hid (b4t xs name=([],(zpieces xs).1)):=c1n (by unfold b4t;rw[if_neg e0])
  have b0:((zpieces xs).1 !=0)=true:=by simpa using e0
  obtain rfl:=hv0 e0
  clear hv0 hv1 hb2 e0
  generalize (zpieces xs).1=E at *
  go_wp2_with fail
  go_ret2
  exact⟨by rw[HR.out];rfl,HB2.out⟩
 have b0:((zpieces xs).1 !=0)=false:=by simpa using e0
 obtain⟨AP,cP,rfl,hrw,hcap,hblk⟩:=b2H (by decide) (a6y A c) (hv1 e0)
 have HE0:=c1n e0
 have HR:Hid (b4t xs name=zfindL xs name (zpieces xs).2):=c1n (by unfold b4t;rw[if_pos e0])
 have hpi:=a4Z HZ.out.byte e0
 have hm64:=hpi.2.1
 have HD:Hid (∀ p∈(zpieces xs).2,∀ w',Keeps [] w w'->Calls Tryz.prog 48 #[.agg (pcz A c p).toArray] w' fun e w2=>e=.returned (.tuple #[.string (strOfNums (a2B xs p).1),.int .i64 (a2B xs p).2])/\Below w'.heap.size w' w2):=c1n (fun p hp w' hk=>b8s HZ.out HT.out hk HE0.out hp)
 have HRW:=c1n hrw
 have HEZ:Hid ((zpieces xs).1=0):=HE0
 clear hv0 hv1 hb2 e0 hrw hcap hblk HE0 hpi
 rw[HEZ.out] at b0 ⊢
 clear HEZ b0
 generalize (zpieces xs).2=ps at *
 obtain⟨m,hm⟩:∃ z,z=ps.length:=⟨_,rfl⟩
 have HM:=c1n hm
 rw[<-hm] at HRW hm64 ⊢
 clear hm
 go_upto_region 5 with (fail)
 go_loopw [20] (fun iv wr=>∃ (i:Nat),i<=m/\iv=.int .i64 i/\Hid (b4t xs name=zfindL xs name (ps.drop i))/\Hid (Below w2.heap.size w2 wr)) (fun iv _=>m-(intOf iv).toNat)
 case atStart=>exact⟨0,by omega,rfl,HR,c1n (Below.refl _ _)⟩
 case round=>
  obtain⟨i,hi,rfl,HRI,HB⟩:=hrel
  by_cases hlt:i<m
  ·have e1:decide (i<m)=true:=decide_eq_true hlt
   obtain⟨tb,to',rfl⟩:=HRW.out.hd (by omega)
   have hpl:i<ps.length:=by rw[<-HM.out];exact hlt
   have hrw:=(HRW.out.keeps (a6y A c) (Keeps.of_below HB.out (S:=[])) (a0a _)).cell tb to' rfl i hpl
   have p0:=hrw 0 (by omega)
   have p1:=hrw 1 (by omega)
   have p2:=hrw 2 (by omega)
   have p3:=hrw 3 (by omega)
   have p4:=hrw 4 (by omega)
   have p5:=hrw 5 (by omega)
   have HRS:Hid _:=c1n (HRI.out.trans (zfindL_step hpl))
   have HDP:=c1n (HD.out ps[i] (List.getElem_mem _))
   clear hrw HRI HRW
   generalize ps[i]=p at *
   simp only[pcz,List.getElem?_cons_zero,List.getElem?_cons_succ,Nat.add_zero] at p0 p1 p2 p3 p4 p5
   obtain⟨Xb,hXb⟩:∃ z,z=wr.heap.size:=⟨_,rfl⟩
   obtain⟨w3,hw3⟩:∃ z,z=wr.alloc (.cells (pcz A c p).toArray 77):=⟨_,rfl⟩
   have k3:Keeps [] wr w3:=by rw[hw3];exact (Keeps.refl [] wr).alloc _
   have hX3:Hid (Blk w3 Xb 77 (pcz A c p)):=c1n (by rw[hw3,hXb];exact a0d wr _ _)
   have HCL:Hid (Calls Tryz.prog 48 #[.agg (pcz A c p).toArray] w3 fun e w2=>e=.returned (.tuple #[.string (strOfNums (a2B xs p).1),.int .i64 (a2B xs p).2])/\Below w3.heap.size w3 w2):=c1n (HDP.out w3 (((Keeps.of_below HB2.out (S:=[])).trans (Keeps.of_below HB.out)).trans k3))
   have HB3:=c1n (HB.out.trans (a0c k3 HB.out.size (by simp)))
   clear k3 HDP
   simp only[pcz] at hw3 HCL hX3
   go_upto_region 7 with (fail)
   rw[<-hw3,<-hXb]
   clear hw3 hXb p0 p1 p2 p3 p4 p5
   have x0:=hX3.out.cell 0
   have x1:=hX3.out.cell 1
   have x2:=hX3.out.cell 2
   have x3:=hX3.out.cell 3
   have x4:=hX3.out.cell 4
   have x5:=hX3.out.cell 5
   simp only[List.getElem?_cons_zero,List.getElem?_cons_succ] at x0 x1 x2 x3 x4 x5
   by_cases hnm:p.x.name=name
   ·have HRT:Hid (b4t xs name=a2B xs p):=c1n (by rw[HRS.out,if_pos hnm])
    subst hnm
    clear HRS
    go_wp2_with fail
    refine HCL.out.mono ?_
    rintro _ w4 ⟨rfl,hb4⟩
    have k4:=Keeps.of_below hb4 (S:=[])
    have HB4:=c1n (HB3.out.trans (a0c k4 HB3.out.size (by simp)))
    clear k4 hb4 x0 x1 x2 x3 x4 x5 HCL
    go_wp2_with fail
    go_ret2
    exact⟨by rw[HRT.out];rfl,HB2.out.trans (a0c (Keeps.of_below HB4.out (S:=[])) HB2.out.size (by simp))⟩
   ·have HRT:Hid (b4t xs name=zfindL xs name (ps.drop (i+1))):=c1n (by rw[HRS.out,if_neg hnm])
    have s0:¬p.x.name.toList=name.toList:=fun e=>hnm (by rw[ByteArray.toList_eq,ByteArray.toList_eq] at e;cases hh:p.x.name;rw[hh] at e;cases name;simpa using e)
    have s2:decide (p.x.name.toList=name.toList)=false:=decide_eq_false s0
    have s3:(p.x.name.toList==name.toList)=false:=beq_eq_false_iff_ne.2 s0
    clear HRS hnm
    go_wp2_with fail
    go_roundw
    case rel=>exact⟨i+1,by omega,by go_num,HRT,HB3⟩
    case measure=>simp[intOf];omega
  ·have e1:decide (i<m)=false:=decide_eq_false hlt
   have him:i=m:=by omega
   have HRT:Hid (b4t xs name=([],85)):=c1n (by rw[HRI.out,him,HM.out,List.drop_length,zfindL])
   clear HRI him
   go_wp2_with fail
   go_ret2
   exact⟨by rw[HRT.out];rfl,HB2.out.trans (a0c (Keeps.of_below HB.out (S:=[])) HB2.out.size (by simp))⟩
end Go.Proofs.YtghjlpechjggjaaGreatDoor
namespace Go.Proofs.YtghjlpechjggjaaGreatDoor
open Go.RowKit
theorem by_all{xs:List Int}(h:xs.all (fun x=>decide (0<=x)&&decide (x<=255))=true)(j:Nat):0<=nth xs j/\nth xs j<=255:=by
 by_cases hj:j<xs.length
 ·have:=List.all_eq_true.1 h (nth xs j) (by rw[a0q hj];exact List.getElem_mem _)
  simpa using this
 ·simp[nth,List.getD,List.getElem?_eq_none (Nat.le_of_not_lt hj)]
theorem conv_str{w:World}{A:Option Addr}{n c:Nat}{xs:List Int}(h:RI .u8 w A n xs)(h1:0<n)(s:ByteArray)(hs:strOfNums xs=s):(convert 26 9 (.slice A n c)).run Tryz.prog w=.ok (.string s) w:=by
 subst hs
 obtain⟨b,o,rfl⟩:=h.hd h1
 exact run_convert_bytes_arg w 26 5 Tryz.underlying26 Tryz.underlying5 b o n c xs h.len (fun i hi=>h.cell b o rfl i hi) 9 Tryz.underlying9
theorem lit_bytes(w:World)(xs:List Int):RI .u8 (w.alloc (.cells (ints .u8 xs).toArray 5)) (some ⟨w.heap.size,0,none⟩) xs.length xs:=by
 have:=Blk.ri (xs:=xs) (ys:=[]) (k:=.u8) (by simpa using a0d w 5 (ints .u8 xs))
 exact this
theorem byte_ofwf{zs:List Int}(h:∀ x∈zs,(Lit.int .u8 x).wf=true)(j:Nat):0<=nth zs j/\nth zs j<=255:=by
 by_cases hj:j<zs.length
 ·have:=h (nth zs j) (by rw[a0q hj];exact List.getElem_mem _)
  simp[Lit.wf] at this
  rwa [show IntKind.u8.min=0 from rfl,show IntKind.u8.max=255 from rfl] at this
 ·simp[nth,List.getD,List.getElem?_eq_none (Nat.le_of_not_lt hj)]
theorem int_ofwf{k:Int}(hk:(Lit.int .i64 k).wf=true):-9223372036854775808<=k/\k<=9223372036854775807:=by
 simp[Lit.wf] at hk
 first
  | exact hk
  | rwa [show IntKind.i64.min=-9223372036854775808 from rfl,show IntKind.i64.max=9223372036854775807 from rfl] at hk
end Go.Proofs.YtghjlpechjggjaaGreatDoor
