import Derived.Test.YtghjlpechjggjaaGreatDoorZshN
import Derived.BigQuiet
set_option linter.defProp false
set_option linter.unnecessarySimpa false
set_option linter.unusedVariables false
set_option linter.unusedSimpArgs false
set_option linter.constructorNameAsVariable false
set_option maxRecDepth 100000
set_option maxHeartbeats 60000000
namespace Go.Proofs.YtghjlpechjggjaaGreatDoor
open Go.RowKit
private def c1n := @decide_eq_false
private def c1o := @Lib.hid
private def c1p := @List.take_succ_eq_append_getElem
private def c1q := @List.drop_eq_nil_of_le
private def c1r := @decide_eq_true
open Go.RowKit
theorem b1m(w:World)(s:ByteArray)(hs:s.size<=1000000000) :
  Calls Tryz.prog 11 #[.string s] w fun e w'=>e=.returned (.bool (nameB s))/\w'=w:=by
 by_cases hsz:1<=s.size/\s.size<=64
 case neg=>
  have HN:Hid (nameB s=false):=c1o (by unfold nameB;rw[c1n hsz,Bool.false_and])
  by_cases h1:s.size<1
  ·have d1:decide ((s.size:Int)<1)=true:=by simp;omega
   have d1':decide (s.size<1)=true:=by simpa using h1
   clear hsz h1
   go_enter Tryz.func11,Tryz.ntmps11
   go_wp2_with fail
   go_ret
   exact⟨by rw[HN.out];rfl,rfl⟩
  ·have d1:decide ((s.size:Int)<1)=false:=c1n (by omega)
   have d1':decide (s.size<1)=false:=c1n (by omega)
   have d2:decide ((64:Int)<(s.size:Int))=true:=by simp;omega
   have d2':decide (64<s.size)=true:=by simp;omega
   clear hsz h1
   go_enter Tryz.func11,Tryz.ntmps11
   go_wp2_with fail
   go_ret
   exact⟨by rw[HN.out];rfl,rfl⟩
 have HG:=c1o (b5A hsz)
 have d1:decide ((s.size:Int)<1)=false:=c1n (by omega)
 have d1':decide (s.size<1)=false:=c1n (by omega)
 have d2:decide ((64:Int)<(s.size:Int))=false:=by simp;omega
 have d2':decide (64<s.size)=false:=by simp;omega
 have hll:s.data.toList.length=s.size:=by cases s;rfl
 have HLL:=c1o hll
 have h64:s.size<=64:=hsz.2
 clear hsz hll
 go_enter Tryz.func11,Tryz.ntmps11
 go_wp2_with fail
 go_loopw [3,4] (fun fv iv wr=>∃ (i f:Nat),iv=.int .i64 i/\fv=.int .i64 f/\wr=w/\i<=s.size+1/\((i<=s.size/\f<=i/\Hid ((47:UInt8)∉(s.data.toList.take i).drop f/\nameB s=goN ((s.data.toList.take i).drop f) (s.data.toList.drop i)))∨(i=s.size+1/\Hid (nameB s=true)))) (fun _ iv _=>s.size+1-(intOf iv).toNat)
 case atStart=>exact⟨0,0,rfl,rfl,rfl,by omega,.inl ⟨by omega,by omega,c1o ⟨by simp,by rw[HG.out];rfl⟩⟩⟩
 case round=>
  obtain⟨i,f,rfl,rfl,rfl,hi1,hor⟩:=hrel
  rcases hor with⟨hi,hf,HH⟩|⟨rfl,HT⟩
  ·have e0:decide ((i:Int)<=(s.size:Int))=true:=by simp;omega
   have e0':decide (i<=s.size)=true:=by simpa using hi
   by_cases hin:i=s.size
   ·have e1:((i:Int)==(s.size:Int))=true:=by simp;omega
    have hdn:s.data.toList.drop i=[]:=c1q (by rw[HLL.out];omega)
    have htn:s.data.toList.take i=s.data.toList:=List.take_of_length_le (by rw[HLL.out];omega)
    have HX:Hid (nameB s=a0S (s.extract f i).data.toList):=c1o (by
     rw[HH.out.2,hdn,goN,a3r,List.drop_take]
     rfl)
    have HIN:=c1o hin
    clear hdn htn hin
    go_wp2_with fail
    refine (a6w wr (s.extract f i)).mono ?_
    rintro _ wz ⟨rfl,hwz⟩
    obtain rfl:wr=wz:=hwz.symm
    cases hp:a0S (s.extract f i).data.toList with
    | false=>
     rw[hp] at HX
     go_wp2_with fail
     go_ret
     exact⟨by rw[HX.out];rfl,rfl⟩
    | true=>
     rw[hp] at HX
     go_wp2_with fail
     go_roundw
     case rel=>exact⟨i+1,i+1,by go_num,by go_num,by trivial,by omega,.inr ⟨by have:=HIN.out;omega,HX⟩⟩
     case measure=>simp[intOf];omega
   ·have e1:((i:Int)==(s.size:Int))=false:=by simp;omega
    have hlt:i<s.size:=by omega
    have hll:i<s.data.toList.length:=by rw[HLL.out];exact hlt
    have hget:s.data.toList[i]=s[i]:=by rw[Array.getElem_toList];rfl
    have hdc:s.data.toList.drop i=s[i]::s.data.toList.drop (i+1):=by rw[List.drop_eq_getElem_cons hll,hget]
    have htc:(s.data.toList.take (i+1)).drop f=(s.data.toList.take i).drop f++[s[i]]:=by rw[c1p hll,hget,List.drop_append_of_le_length (by rw[List.length_take,HLL.out];omega)]
    have hst:=HH.out.2
    rw[hdc,goN] at hst
    by_cases h47:s[i].toNat=47
    ·have hb47:s[i]=47:=UInt8.toNat.inj (by rw[h47];rfl)
     have t1:((s[i].toNat:Int)==47)=true:=by rw[h47];rfl
     rw[if_pos hb47] at hst
     have HX:Hid (nameB s=(a0S (s.extract f i).data.toList&&goN [] (s.data.toList.drop (i+1)))):=c1o (by
      rw[hst,a3r,List.drop_take]
      rfl)
     clear hst htc hdc hb47 hget
     go_wp2_with fail
     refine (a6w wr (s.extract f i)).mono ?_
     rintro _ wz ⟨rfl,hwz⟩
     obtain rfl:wr=wz:=hwz.symm
     cases hp:a0S (s.extract f i).data.toList with
     | false=>
      rw[hp,Bool.false_and] at HX
      go_wp2_with fail
      go_ret
      exact⟨by rw[HX.out];rfl,rfl⟩
     | true=>
      rw[hp,Bool.true_and] at HX
      go_wp2_with fail
      go_roundw
      case rel=>exact⟨i+1,i+1,by go_num,by go_num,by trivial,by omega,.inl ⟨by omega,by omega,c1o ⟨by rw[c1q (by rw[List.length_take];omega)];simp,by rw[c1q (by rw[List.length_take];omega)];exact HX.out⟩⟩⟩
      case measure=>simp[intOf];omega
    ·have hb47:s[i]≠47:=fun e=>h47 (by rw[e];rfl)
     have t1:((s[i].toNat:Int)==47)=false:=by simp;omega
     rw[if_neg hb47] at hst
     have hlt8:s[i].toNat<256:=s[i].toNat_lt
     have HOKC:Hid (okB s[i].toNat=true->Hid ((47:UInt8)∉(s.data.toList.take (i+1)).drop f/\nameB s=goN ((s.data.toList.take (i+1)).drop f) (s.data.toList.drop (i+1)))):=c1o (fun h=>c1o ⟨by rw[htc];simp only[List.mem_append,List.mem_singleton];rintro (h'|h');exact HH.out.1 h';exact hb47 h'.symm,by rw[hst,h,Bool.true_and,htc]⟩)
     have HBADC:Hid (okB s[i].toNat=false->nameB s=false):=c1o (fun h=>by rw[hst,h,Bool.false_and])
     clear hst htc hdc hb47 hget
     have cases_:s[i].toNat<45∨s[i].toNat=45∨s[i].toNat=46∨(48<=s[i].toNat/\s[i].toNat<=57)∨(58<=s[i].toNat/\s[i].toNat<=94)∨s[i].toNat=95∨s[i].toNat=96∨(97<=s[i].toNat/\s[i].toNat<=122)∨123<=s[i].toNat:=by omega
     rcases cases_ with h|h|h|⟨h,h'⟩|⟨h,h'⟩|h|h|⟨h,h'⟩|h
     ·have n46:((s[i].toNat:Int) !=46)=true:=by simp;omega
      have n95:((s[i].toNat:Int) !=95)=true:=by simp;omega
      have n45:((s[i].toNat:Int) !=45)=true:=by simp;omega
      go_wp2_with fail
      go_ret
      exact⟨by rw[HBADC.out (by unfold okB;simp;omega)];rfl,rfl⟩
     ·have n46:((s[i].toNat:Int) !=46)=true:=by simp;omega
      have n95:((s[i].toNat:Int) !=95)=true:=by simp;omega
      have n45:((s[i].toNat:Int) !=45)=false:=by simp;omega
      go_wp2_with fail
      go_roundw
      case rel=>exact⟨i+1,f,by go_num,rfl,by trivial,by omega,.inl ⟨by omega,by omega,HOKC.out (by unfold okB;simp;omega)⟩⟩
      case measure=>simp[intOf];omega
     ·have n46:((s[i].toNat:Int) !=46)=false:=by simp;omega
      have n95:((s[i].toNat:Int) !=95)=true:=by simp;omega
      have n45:((s[i].toNat:Int) !=45)=true:=by simp;omega
      go_wp2_with fail
      go_roundw
      case rel=>exact⟨i+1,f,by go_num,rfl,by trivial,by omega,.inl ⟨by omega,by omega,HOKC.out (by unfold okB;simp;omega)⟩⟩
      case measure=>simp[intOf];omega
     ·have n46:((s[i].toNat:Int) !=46)=true:=by simp;omega
      have n95:((s[i].toNat:Int) !=95)=true:=by simp;omega
      have n45:((s[i].toNat:Int) !=45)=true:=by simp;omega
      go_wp2_with fail
      go_roundw
      case rel=>exact⟨i+1,f,by go_num,rfl,by trivial,by omega,.inl ⟨by omega,by omega,HOKC.out (by unfold okB;simp;omega)⟩⟩
      case measure=>simp[intOf];omega
     ·have n46:((s[i].toNat:Int) !=46)=true:=by simp;omega
      have n95:((s[i].toNat:Int) !=95)=true:=by simp;omega
      have n45:((s[i].toNat:Int) !=45)=true:=by simp;omega
      go_wp2_with fail
      go_ret
      exact⟨by rw[HBADC.out (by unfold okB;simp;omega)];rfl,rfl⟩
     ·have n46:((s[i].toNat:Int) !=46)=true:=by simp;omega
      have n95:((s[i].toNat:Int) !=95)=false:=by simp;omega
      have n45:((s[i].toNat:Int) !=45)=true:=by simp;omega
      go_wp2_with fail
      go_roundw
      case rel=>exact⟨i+1,f,by go_num,rfl,by trivial,by omega,.inl ⟨by omega,by omega,HOKC.out (by unfold okB;simp;omega)⟩⟩
      case measure=>simp[intOf];omega
     ·have n46:((s[i].toNat:Int) !=46)=true:=by simp;omega
      have n95:((s[i].toNat:Int) !=95)=true:=by simp;omega
      have n45:((s[i].toNat:Int) !=45)=true:=by simp;omega
      go_wp2_with fail
      go_ret
      exact⟨by rw[HBADC.out (by unfold okB;simp;omega)];rfl,rfl⟩
     ·have n46:((s[i].toNat:Int) !=46)=true:=by simp;omega
      have n95:((s[i].toNat:Int) !=95)=true:=by simp;omega
      have n45:((s[i].toNat:Int) !=45)=true:=by simp;omega
      go_wp2_with fail
      go_roundw
      case rel=>exact⟨i+1,f,by go_num,rfl,by trivial,by omega,.inl ⟨by omega,by omega,HOKC.out (by unfold okB;simp;omega)⟩⟩
      case measure=>simp[intOf];omega
     ·have n46:((s[i].toNat:Int) !=46)=true:=by simp;omega
      have n95:((s[i].toNat:Int) !=95)=true:=by simp;omega
      have n45:((s[i].toNat:Int) !=45)=true:=by simp;omega
      go_wp2_with fail
      go_ret
      exact⟨by rw[HBADC.out (by unfold okB;simp;omega)];rfl,rfl⟩
  ·have e0:decide (((s.size+1:Nat):Int)<=(s.size:Int))=false:=c1n (by omega)
   have e0':decide (s.size+1<=s.size)=false:=c1n (by omega)
   go_wp2_with fail
   go_ret
   exact⟨by rw[HT.out];rfl,rfl⟩
open Go.RowKit
def pcr(p:ZP):List Value:=[.string p.x.name,.int .i64 p.x.size,.int .i64 p.x.packed,.int .u32 p.x.sum,.int .i64 p.x.way,.int .i64 (p.fro:Nat),.int .i64 ((p.fro+p.len:Nat):Int)]
theorem c1e(p:ZP):(pcr p).length=7:=rfl
theorem b2w(l:List ByteArray)(x s:ByteArray):inL (l++[x]) s=(inL l s||decide (x=s)):=by unfold inL;simp
theorem c0o{a b:ByteArray}(h:a≠b):¬a.toList=b.toList:=fun e=>h (by rw[ByteArray.toList_eq,ByteArray.toList_eq] at e;cases a;cases b;simpa using e)
theorem b8J(w:World)(A:Option Addr)(n c:Nat)(ps:List ZP)(name:ByteArray)(h:RW 7 pcr w A n ps)(hn:n<=100000) :
  Calls Tryz.prog 79 #[.slice A n c,.string name] w fun e w'=>e=.returned (.bool (inL (znames ps) name))/\w'=w:=by
 have HRW:=c1o h
 have HL:=c1o h.len
 clear h
 go_enter Tryz.func79,Tryz.ntmps79
 go_wp2_with fail
 go_loopw [5] (fun iv wr=>∃ k:Nat,k<=n/\iv=.int .i64 k/\wr=w/\Hid (inL (znames (ps.take k)) name=false)) (fun iv _=>n-(intOf iv).toNat)
 case atStart=>exact⟨0,by omega,rfl,rfl,c1o rfl⟩
 case round=>
  obtain⟨k,hk,rfl,rfl,HI⟩:=hrel
  by_cases hlt:k<n
  ·have e0:decide (k<n)=true:=c1r hlt
   obtain⟨tb,to',rfl⟩:=HRW.out.hd (by omega)
   have hpl:k<ps.length:=by rw[HL.out];exact hlt
   have p0:=HRW.out.cell tb to' rfl k hpl 0 (by omega)
   have HTK:Hid (inL (znames (ps.take (k+1))) name=decide (ps[k].x.name=name)):=c1o (by
    rw[c1p hpl];unfold znames;rw[List.map_append,List.map_singleton,b2w]
    rw[show inL ((ps.take k).map fun p=>p.x.name) name=false from HI.out,Bool.false_or])
   have HME:Hid (ps[k].x.name=name->inL (znames ps) name=true):=c1o (fun e=>a5Y.2 (List.mem_map.2 ⟨ps[k],List.getElem_mem _,e⟩))
   clear HRW
   generalize ps[k]=p at *
   simp only[pcr,List.getElem?_cons_zero,Nat.add_zero] at p0
   by_cases hnm:p.x.name=name
   ·have HX:=c1o (HME.out hnm)
    subst hnm
    clear HTK HI HME
    go_wp2_with fail
    go_ret
    exact⟨by rw[HX.out];rfl,rfl⟩
   ·have HX:Hid (inL (znames (ps.take (k+1))) name=false):=c1o (by rw[HTK.out];exact c1n hnm)
    have s0:=c0o hnm
    have s2:decide (p.x.name.toList=name.toList)=false:=c1n s0
    have s3:(p.x.name.toList==name.toList)=false:=beq_eq_false_iff_ne.2 s0
    clear HTK HI HME hnm
    go_wp2_with fail
    go_roundw
    case rel=>exact⟨k+1,by omega,by go_num,by trivial,HX⟩
    case measure=>simp[intOf];omega
  ·have e0:decide (k<n)=false:=c1n hlt
   have HX:Hid (inL (znames ps) name=false):=c1o (by have:=HI.out;rwa [List.take_of_length_le (by rw[HL.out];omega)] at this)
   clear HI
   go_wp2_with fail
   go_ret
   exact⟨by rw[HX.out];rfl,rfl⟩
theorem b8z(w:World)(A:Option Addr)(n c:Nat)(l:List EN)(h:RW 2 ecells w A n l)(hn:n<=100000000)(hs:∀ e∈l,e.1.size<=1000000000/\e.2.size<=1000000000) :
  Calls Tryz.prog 14 #[.slice A n c] w fun e w'=>e=.returned (.int .i64 (a0s l))/\∃ m,w'=w.drewN m:=by
 have HRW:=c1o h
 have HL:=c1o h.len
 have HS:=c1o hs
 clear h hs
 by_cases h64:64<n
 ·have HZ:Hid (a0s l=86):=c1o (by unfold a0s;rw[if_pos (by rw[HL.out];exact h64)])
  have e0:decide ((64:Int)<(n:Int))=true:=by simp;omega
  have e0':decide (64<n)=true:=c1r h64
  clear h64
  go_enter Tryz.func14,Tryz.ntmps14
  go_wp2_with fail
  go_ret
  exact⟨by rw[HZ.out];rfl,0,rfl⟩
 have HZ:Hid (a0s l=zchk (l.drop 0) ((l.take 0).map fun e=>e.1)):=c1o (by unfold a0s;rw[if_neg (by rw[HL.out];exact h64)];rfl)
 have e0:decide ((64:Int)<(n:Int))=false:=by simp;omega
 have e0':decide (64<n)=false:=c1n h64
 have hn64:n<=64:=by omega
 clear h64
 go_enter Tryz.func14,Tryz.ntmps14
 go_upto_region 4 with (fail)
 go_loopw [3] (fun iv wr=>∃ k:Nat,k<=n/\iv=.int .i64 k/\Hid (∃ m,wr=w.drewN m)/\Hid (a0s l=zchk (l.drop k) ((l.take k).map fun e=>e.1))) (fun iv _=>n-(intOf iv).toNat)
 case atStart=>exact⟨0,by omega,rfl,c1o ⟨0,rfl⟩,HZ⟩
 case round=>
  clear HZ
  obtain⟨k,hk,rfl,HW,HZ⟩:=hrel
  by_cases hlt:k<n
  ·have e1:decide (k<n)=true:=c1r hlt
   obtain⟨tb,to',rfl⟩:=HRW.out.hd (by omega)
   have hpl:k<l.length:=by rw[HL.out];exact hlt
   have kk:∀ {wq:World},(∃ m,wq=w.drewN m)->Keeps [] w wq:=fun ⟨m,hm⟩=>by rw[hm];exact (Keeps.refl [] w).drewN m
   have hrw:=(HRW.out.keeps a0j (kk HW.out) (a0a _)).cell tb to' rfl k hpl
   have p0:=hrw 0 (by omega)
   have p1:=hrw 1 (by omega)
   have HCH:Hid (∀ wq,(∃ m,wq=w.drewN m)->∀ j,(hj:j<k)->wq.cell? ⟨tb,to'+j*2,none⟩=some (.string (l[j]'(by omega)).1)):=c1o (fun wq hq j hj=>by
    have:=(HRW.out.keeps a0j (kk hq) (a0a _)).cell tb to' rfl j (by omega) 0 (by omega)
    simpa [ecells] using this)
   have HCK:Hid (∀ wq,(∃ m,wq=w.drewN m)->wq.cell? ⟨tb,to'+k*2,none⟩=some (.string l[k].1)/\wq.cell? ⟨tb,to'+k*2+1,none⟩=some (.string l[k].2)):=c1o (fun wq hq=>by
    have h0:=(HRW.out.keeps a0j (kk hq) (a0a _)).cell tb to' rfl k (by omega) 0 (by omega)
    have h1:=(HRW.out.keeps a0j (kk hq) (a0a _)).cell tb to' rfl k (by omega) 1 (by omega)
    exact⟨by simpa [ecells] using h0,by simpa [ecells] using h1⟩)
   have HZS:Hid (a0s l=if inL ((l.take k).map fun e=>e.1) l[k].1=true∨nameB l[k].1=false then 80 else if 8192<l[k].2.size then 87 else zchk (l.drop (k+1)) ((l.take (k+1)).map fun e=>e.1)):=c1o (by
    rw[HZ.out,List.drop_eq_getElem_cons hpl,zchk,c1p hpl,List.map_append];rfl)
   have HSZ:=c1o (HS.out l[k] (List.getElem_mem _))
   clear hrw HZ HRW kk
   obtain⟨name,hname⟩:∃ z,z=l[k].1:=⟨_,rfl⟩
   obtain⟨dat,hdat⟩:∃ z,z=l[k].2:=⟨_,rfl⟩
   rw[<-hname,<-hdat] at HCK HZS HSZ
   simp only[ecells,List.getElem?_cons_zero,List.getElem?_cons_succ,Nat.add_zero] at p0 p1
   rw[<-hname] at p0
   rw[<-hdat] at p1
   clear hname hdat
   go_upto_region 6 with (fail)
   go_wp2_with fail
   refine (b1m _ name HSZ.out.1).mono ?_
   rintro _ wz ⟨rfl,hwz⟩
   obtain rfl:wr=wz:=hwz.symm
   clear hwz
   cases hnb:nameB name with
   | false=>
    have HX:Hid (a0s l=80):=c1o (by rw[HZS.out,if_pos (.inr hnb)])
    go_wp2_with fail
    go_ret
    exact⟨by rw[HX.out];rfl,HW.out⟩
   | true=>
    have HZT:Hid (a0s l=if inL ((l.take k).map fun e=>e.1) name=true then 80 else if 8192<dat.size then 87 else zchk (l.drop (k+1)) ((l.take (k+1)).map fun e=>e.1)):=c1o (by rw[HZS.out];simp[hnb])
    clear HZS p0 p1
    go_upto_region 9 with (fail)
    go_loopw [4] (fun jv wq=>∃ j:Nat,j<=k/\jv=.int .i64 j/\Hid (∃ m,wq=w.drewN m)/\Hid (inL ((l.take j).map fun e=>e.1) name=false)) (fun jv _=>k-(intOf jv).toNat)
    case atStart=>exact⟨0,by omega,rfl,HW,c1o rfl⟩
    case round=>
     obtain⟨j,hj,rfl,HQ,HI⟩:=hrel
     rename_i wq
     obtain⟨hc0,hc1⟩:=HCK.out _ HQ.out
     by_cases hjk:j<k
     ·have e2:decide (j<k)=true:=c1r hjk
      have hcj:=HCH.out _ HQ.out j hjk
      have hjl:j<l.length:=by omega
      have HTK:Hid (inL ((l.take (j+1)).map fun e=>e.1) name=decide (l[j].1=name)):=c1o (by
       rw[c1p hjl,List.map_append,List.map_singleton,b2w,HI.out,Bool.false_or])
      have HME:Hid (l[j].1=name->a0s l=80):=c1o (fun e=>by
       rw[HZT.out,if_pos (a5Y.2 (List.mem_map.2 ⟨l[j],List.mem_take_iff_getElem.2 ⟨j,by omega,rfl⟩,e⟩))])
      generalize l[j].1=nj at *
      by_cases hnm:nj=name
      ·have HX:=c1o (HME.out hnm)
       subst hnm
       clear HTK HI HME
       go_upto_region 11 with (fail)
       go_quiet (fail)
       go_wp2_with fail
       go_ret
       exact⟨by rw[HX.out];rfl,Dr.step (w:=w) HQ.out nq⟩
      ·have HX:Hid (inL ((l.take (j+1)).map fun e=>e.1) name=false):=c1o (by rw[HTK.out];exact c1n hnm)
       have s0:=c0o hnm
       have s2:decide (nj.toList=name.toList)=false:=c1n s0
       have s3:(nj.toList==name.toList)=false:=beq_eq_false_iff_ne.2 s0
       clear HTK HI HME hnm
       go_upto_region 11 with (fail)
       go_quiet (fail)
       go_wp2_with fail
       go_roundw
       case rel=>exact⟨j+1,by omega,by go_num,c1o (Dr.step (w:=w) HQ.out nq),HX⟩
       case measure=>simp[intOf];omega
     ·have e2:decide (j<k)=false:=c1n hjk
      have hjk':j=k:=by omega
      have HZU:Hid (a0s l=if 8192<dat.size then 87 else zchk (l.drop (k+1)) ((l.take (k+1)).map fun e=>e.1)):=c1o (by rw[HZT.out,if_neg];rw[<-hjk',HI.out];simp)
      clear HZT HI hjk'
      by_cases hd:8192<dat.size
      ·have HX:Hid (a0s l=87):=c1o (by rw[HZU.out,if_pos hd])
       have d1:decide ((8192:Int)<(dat.size:Int))=true:=by simp;omega
       have d1':decide (8192<dat.size)=true:=by simpa using hd
       clear hd
       go_wp2_with fail
       go_ret
       exact⟨by rw[HX.out];rfl,HQ.out⟩
      ·have HX:Hid (a0s l=zchk (l.drop (k+1)) ((l.take (k+1)).map fun e=>e.1)):=c1o (by rw[HZU.out,if_neg hd])
       have d1:decide ((8192:Int)<(dat.size:Int))=false:=by simp;omega
       have d1':decide (8192<dat.size)=false:=by simpa using hd
       clear hd
       go_wp2_with fail
       go_roundw
       case rel=>exact⟨k+1,by omega,by go_num,HQ,HX⟩
       case measure=>simp[intOf];omega
  ·have e1:decide (k<n)=false:=c1n hlt
   have HX:Hid (a0s l=0):=c1o (by rw[HZ.out,c1q (by rw[HL.out];omega),zchk])
   clear HZ
   go_wp2_with fail
   go_ret
   exact⟨by rw[HX.out];rfl,HW.out⟩
end Go.Proofs.YtghjlpechjggjaaGreatDoor
