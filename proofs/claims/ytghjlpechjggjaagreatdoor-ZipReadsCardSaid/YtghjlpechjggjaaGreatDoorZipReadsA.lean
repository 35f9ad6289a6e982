import Derived.Test.YtghjlpechjggjaaGreatDoorZrdB
import Derived.Test.YtghjlpechjggjaaGreatDoorZrdD
import Derived.Test.YtghjlpechjggjaaGreatDoorZrdM
import Derived.Test.YtghjlpechjggjaaGreatDoorZrdN
import Derived.Test.YtghjlpechjggjaaGreatDoorZrdG
import Derived.Test.YtghjlpechjggjaaGreatDoorZrdA
set_option linter.defProp false
set_option linter.unnecessarySimpa false
set_option linter.unusedVariables false
set_option linter.unusedSimpArgs false
set_option linter.constructorNameAsVariable false
set_option maxRecDepth 100000
set_option maxHeartbeats 60000000
namespace Go.Proofs.YtghjlpechjggjaaGreatDoor
open Go.RowKit
def Ext(r r':IRes):Prop:=(r.2.2≠55->r'=r)/\(r.2.2=55->r.1 <+: r'.1)
theorem Ext.same{r r':IRes}(h:r'=r):Ext r r':=⟨fun _=>h,fun _=>by rw[h];exact List.prefix_refl _⟩
theorem WB.first{xs bl:List Int}(h:WB xs ([1,0,1]++bl)):0<xs.length/\0<=nth xs 0/\nth xs 0<=255/\nth xs 0%8=5:=by
 have hl:=h.len
 have hn:([1,0,1]++bl:List Int).length=3+bl.length:=by simp;omega
 obtain⟨b1,b2⟩:=h.byte 0
 have h0:=h.bit 0 (by omega)
 have h1:=h.bit 1 (by omega)
 have h2:=h.bit 2 (by omega)
 simp[bitAt,nth] at h0 h1 h2
 have e:nth xs 0=xs.getD 0 0:=rfl
 simp[nth] at b1 b2
 refine⟨by omega,?_⟩
 simp only[nth,List.getD_eq_getElem?_getD]
 omega
theorem same.symm{a b:List Pk}(h:same a b):same b a:=⟨h.1.symm,fun v=>(h.2 v).symm⟩
theorem FF.at(h:FF l xs es){i:Nat}(hi:i<l.length):∃ hi':i<es.length,es[i].name=l[i].1/\es[i].dat=l[i].2:=by
 have hl:l.length=es.length:=by rw[<-h.out,List.length_map]
 refine⟨by omega,?_⟩
 have:=h.out
 subst this
 simp[ZE.out]
abbrev SL:=Option Addr×Nat×Nat
def scells(s:SL):List Value:=[.slice s.1 s.2.1 s.2.2]
structure RBs (w:World) (B:Option Addr) (m:Nat) (yss:List (List Int)):Prop where
 out:∃ sl:List SL,RW 1 scells w B m sl/\sl.length=yss.length/\∀ (i:Nat) (h1:i<sl.length) (h2:i<yss.length),RI .u8 w sl[i].1 sl[i].2.1 yss[i]/\(sl[i].1=none->sl[i].2.1=0/\sl[i].2.2=0)
theorem RBs.at{w:World}{B:Option Addr}{m:Nat}{yss:List (List Int)}(h:RBs w B m yss){i:Nat}(hi:i<yss.length):∃ b o A n c,B=some ⟨b,o,none⟩/\i<m/\w.cell? ⟨b,o+i*1,none⟩=some (.slice A n c)/\RI .u8 w A n yss[i]/\(A=none->n=0/\c=0):=by
 obtain⟨sl,a,b,c⟩:=h.out
 have hsl:i<sl.length:=by omega
 have hm:i<m:=by rw[<-a.len];exact hsl
 obtain⟨tb,to',rfl⟩:=a.hd (by omega)
 have hc:=a.cell tb to' rfl i hsl 0 (by omega)
 obtain⟨c1,c2⟩:=c i hsl hi
 exact⟨tb,to',_,_,_,rfl,hm,hc,c1,c2⟩
end Go.Proofs.YtghjlpechjggjaaGreatDoor
