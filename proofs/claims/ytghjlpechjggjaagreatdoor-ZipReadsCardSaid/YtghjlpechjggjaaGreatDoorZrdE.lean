import Derived.Test.YtghjlpechjggjaaGreatDoorZrdD
import Derived.Test.YtghjlpechjggjaaGreatDoorZrdA
import Derived.Deep.Onto
import Derived.Test.YtghjlpechjggjaaGreatDoorZrdB
import Derived.Test.YtghjlpechjggjaaGreatDoorZrdC
import Derived.StillTailTactics
import Derived.WalkMore
set_option linter.defProp false
set_option linter.unnecessarySimpa false
set_option linter.unusedVariables false
set_option linter.unusedSimpArgs false
set_option linter.constructorNameAsVariable false
set_option maxRecDepth 100000
set_option maxHeartbeats 60000000
namespace Go.Proofs.YtghjlpechjggjaaGreatDoor
open Go.RowKit
private def c3o := @List.length_append
private def c3p := @Lib.hid
private def c3q := @List.append_assoc
private def c3r := @List.eq_nil_of_length_eq_zero
private def c3s := @List.take_append_drop
private def c3t := @IntWalk.i64_in
private def c3u := @Nat.eq_zero_or_pos
private def c3v := @List.length_drop
private def c3w := @List.length_take
private def c3x := @List.append_nil
private def c3y := @List.getD_eq_getElem?_getD
private def c3z := @Int.ediv_eq_zero_of_lt
private def c3A := @List.take_of_length_le
private def c3B := @List.getElem?_eq_getElem
private def c3C := @Nat.le_refl
private def c3D := @List.getElem_mem
private def c3E := @List.take_zero
private def c3F := @List.mem_singleton
private def c3G := @Option.some.inj
private def c3H := @Int.toNat_natCast
private def c3I := @Below.refl
private def c3J := @Int.eq_ofNat_of_zero_le
private def c3K := @List.drop_eq_nil_of_le
private def c3L := @Nat.zero_add
private def c3M := @Nat.lt_succ_self
private def c3N := @List.mem_of_mem_take
private def c3O := @List.mem_append
private def c3P := @Nat.le_of_lt
private def c3Q := @Nat.lt_of_lt_of_le
private def c3R := @Nat.add_mul
theorem b9s{x s t y:List Pk}{a m k:Nat}(h1:a=x.length)(h2:m=x.length+s.length)(g1:a<=k)(g2:k<m):kth (x++(s++(t++y))) k=kth s (k-a):=by
 rw[a0l,if_neg (by omega),a0l,if_pos (by omega)]
 congr 1;omega
theorem b9u{x s t y:List Pk}{m b k:Nat}(h2:m=x.length+s.length)(h3:b=x.length+s.length+t.length)(g1:m<=k)(g2:k<b):kth (x++(s++(t++y))) k=kth t (k-m):=by
 rw[a0l,if_neg (by omega),a0l,if_neg (by omega),a0l,if_pos (by omega)]
 congr 1;omega
def symC(a m b M st0 r0:Nat):Prop:=(M<m/\st0+b=M+m/\r0=M)∨(m<=M/\st0=a/\r0=m)
theorem b3x{a m b M st0 r0:Nat}(h:symC a m b M st0 r0)(hM:M=(a+b)/2)(h1:a<m)(h2:m<b):a<=st0/\st0<=r0/\r0<=m/\r0<=M/\M<b/\(∀ c,st0<=c->c<r0->m<=M+m-1-c/\M+m-1-c<b):=by
 rcases h with⟨h,h3,h4⟩|⟨h,h3,h4⟩
 ·exact⟨by omega,by omega,by omega,by omega,by omega,fun c g1 g2=>by omega⟩
 ·exact⟨by omega,by omega,by omega,by omega,by omega,fun c g1 g2=>by omega⟩
theorem b4F {x s t y:List Pk} {a m b M st0 r0:Nat} (h1:a=x.length) (h2:m=x.length+s.length) (h3:b=x.length+s.length+t.length) (hs:srt s) (ht:srt t) (hM:M=(a+b)/2) (ha:a<m) (hb:m<b) (hc:symC a m b M st0 r0)
  {k h:Nat} (g1:st0<=k) (g2:k<=h) (g3:h<r0) (hp:(kth (x++(s++(t++y))) h).w<=(kth (x++(s++(t++y))) (M+m-1-h)).w):(kth (x++(s++(t++y))) k).w<=(kth (x++(s++(t++y))) (M+m-1-k)).w:=by
 obtain⟨c1,c2,c3,c4,c5,c6⟩:=b3x hc hM ha hb
 have d1:=c6 k g1 (by omega)
 have d2:=c6 h (by omega) g3
 rw[b9s h1 h2 (by omega) (by omega),b9u h2 h3 d1.1 d1.2]
 rw[b9s h1 h2 (by omega) (by omega),b9u h2 h3 d2.1 d2.2] at hp
 have e1:=a2H hs (i:=k-a) (j:=h-a) (by omega) (by omega)
 have e2:=a2H ht (i:=M+m-1-h-m) (j:=M+m-1-k-m) (by omega) (by omega)
 omega
theorem b8f {x s t y:List Pk} {a m b M st0 st r0:Nat} (h1:a=x.length) (h2:m=x.length+s.length) (h3:b=x.length+s.length+t.length) (hs:srt s) (ht:srt t) (hM:M=(a+b)/2) (ha:a<m) (hb:m<b) (hc:symC a m b M st0 r0)
  (hT:Turn (fun c=>(kth (x++(s++(t++y))) c).w<=(kth (x++(s++(t++y))) (M+m-1-c)).w) st0 st st r0) :
  ∃ s1 s2 t1 t2,s=s1++s2/\t=t1++t2/\a+s1.length=st/\st+t1.length=M/\(∀ p∈t1,∀ q∈s2,p.w<q.w)/\(∀ p∈s1,∀ q∈t2,p.w<=q.w):=by
 obtain⟨c1,c2,c3,c4,c5,c6⟩:=b3x hc hM ha hb
 have T1:=hT.a
 have T3:=hT.c
 refine⟨s.take (st-a),s.drop (st-a),t.take (M-st),t.drop (M-st),(c3s _ _).symm,(c3s _ _).symm,by rw[c3w];omega,?_,?_,?_⟩
 ·rw[c3w]
  rcases hc with⟨h,h4,h5⟩|⟨h,h4,h5⟩<;>omega
 ·intro p hp q hq
  obtain⟨i,hi,rfl⟩:=a3C hp
  obtain⟨j,hj,rfl⟩:=a3C hq
  rw[c3w] at hi
  rw[c3v] at hj
  rw[a6p (by omega),a6o]
  have hst:st<r0:=by rcases hc with⟨h,h4,h5⟩|⟨h,h4,h5⟩<;>omega
  have d:=c6 st (by omega) hst
  have:=hT.no st (c3C _) hst
  rw[b9s h1 h2 (by omega) (by omega),b9u h2 h3 d.1 d.2] at this
  have e1:=a2H hs (i:=st-a) (j:=st-a+j) (by omega) (by omega)
  have e2:=a2H ht (i:=i) (j:=M+m-1-st-m) (by omega) (by omega)
  omega
 ·intro p hp q hq
  obtain⟨i,hi,rfl⟩:=a3C hp
  obtain⟨j,hj,rfl⟩:=a3C hq
  rw[c3w] at hi
  rw[c3v] at hj
  rw[a6p (by omega),a6o]
  have hst:st0<st:=by rcases hc with⟨h,h4,h5⟩|⟨h,h4,h5⟩<;>omega
  have d:=c6 (st-1) (by omega) (by omega)
  have:=hT.yes (st-1) (by omega) (by omega)
  rw[b9s h1 h2 (by omega) (by omega),b9u h2 h3 d.1 d.2] at this
  have e1:=a2H hs (i:=i) (j:=st-1-a) (by omega) (by omega)
  have e2:=a2H ht (i:=M+m-1-(st-1)-m) (j:=M-st+j) (by omega) (by omega)
  omega
theorem a3k{s1 s2 t1 t2 r1 r2:List Pk}(hs:srt (s1++s2))(ht:srt (t1++t2))(f1:∀ p∈t1,∀ q∈s2,p.w<q.w)(f2:∀ p∈s1,∀ q∈t2,p.w<=q.w)(h1:SS r1 (s1++t1))(h2:SS r2 (s2++t2)):SS (r1++r2) (s1++s2++(t1++t2)):=by
 refine⟨b3u h1.1 h2.1 ?_,?_⟩
 ·intro p hp q hq
  rcases c3O.1 (h1.mem.1 hp) with hp|hp<;>rcases c3O.1 (h2.mem.1 hq) with hq|hq
  ·exact b1r hs p hp q hq
  ·exact f2 p hp q hq
  ·exact Int.le_of_lt (f1 p hp q hq)
  ·exact b1r ht p hp q hq
 ·refine (h1.2.app h2.2).trans ?_
  have e1:s1++t1++(s2++t2)=s1++((t1++s2)++t2):=by simp
  have e2:s1++s2++(t1++t2)=s1++((s2++t1)++t2):=by simp
  rw[e1,e2]
  refine (same.refl s1).app (same.app ?_ (same.refl t2))
  exact a7J s2 t1 (fun p hp q hq=>by have:=f1 q hq p hp;omega)
def pc(l:List Pk)(k b:Nat):List Pk:=(l.drop k).take b
def Ch(b:Nat)(r l:List Pk):Prop:=r.length=l.length/\∀ k,SS (pc r (k*b) b) (pc l (k*b) b)
theorem c0P:SS [] []:=⟨b7Z,same.refl _⟩
theorem a7x{x r:List Pk}{k b:Nat}(h:k+b<=x.length):pc (x++r) k b=pc x k b:=by
 unfold pc
 rw[List.drop_append_of_le_length (by omega),List.take_append_of_le_length (by rw[c3v];omega)]
theorem a2J{x r:List Pk}{k b:Nat}(h:x.length<=k):pc (x++r) k b=pc r (k-x.length) b:=by
 unfold pc
 rw[List.drop_append,c3K h,List.nil_append]
theorem b4q{r:List Pk}{b:Nat}(h:r.length<=b):pc r 0 b=r:=by
 unfold pc;rw[List.drop_zero,c3A h]
theorem b2T{r:List Pk}{k b:Nat}(h:r.length<=k):pc r k b=[]:=by
 unfold pc;rw[c3K h,List.take_nil]
theorem c0A(b:Nat):Ch b [] []:=⟨rfl,fun k=>by rw[b2T (by simp)];exact c0P⟩
theorem b0t{b k:Nat}{x y r s:List Pk}(h:Ch b x y)(hk:x.length=k*b)(hs:SS r s)(hl:s.length<=b):Ch b (x++r) (y++s):=by
 have hxy:=h.1
 refine⟨by rw[c3o,c3o,hxy,hs.len],fun j=>?_⟩
 rcases Nat.lt_trichotomy j k with hj|rfl|hj
 ·have:(j+1)*b<=k*b:=Nat.mul_le_mul_right b hj
  rw[c3R,Nat.one_mul] at this
  rw[a7x (by omega),a7x (by omega)]
  exact h.2 j
 ·rw[a2J (by omega),a2J (by omega),hk,<-hxy,hk,Nat.sub_self,b4q (by rw[hs.len];exact hl),b4q hl]
  exact hs
 ·have:(k+1)*b<=j*b:=Nat.mul_le_mul_right b hj
  rw[c3R,Nat.one_mul] at this
  have e1:r.length<=j*b-x.length:=by rw[hs.len];omega
  have e2:s.length<=j*b-y.length:=by omega
  rw[a2J (by omega),a2J (by omega),b2T e1,b2T e2]
  exact c0P
theorem c1m{b:Nat}{r l:List Pk}(h:Ch b r l)(hb:l.length<=b):SS r l:=by
 have:=h.2 0
 rwa [Nat.zero_mul,b4q (by rw[h.1];exact hb),b4q hb] at this
theorem a6f{c s t s0 t0:List Pk}(h:SS c (s++t))(hs:SS s s0)(ht:SS t t0):SS c (s0++t0):=h.of_same (hs.2.app ht.2)
theorem c0N(l:List Pk)(k b:Nat):pc l k (2*b)=pc l k b++pc l (k+b) b:=by
 unfold pc
 rw[show 2*b=b+b by omega,List.take_add,List.drop_drop]
theorem a6Q(l:List Pk)(k b:Nat):l.drop k=pc l k b++l.drop (k+b):=by
 unfold pc
 rw[<-List.drop_drop,c3s]
theorem a8z(l:List Pk)(k b:Nat):(pc l k b).length=min b (l.length-k):=by unfold pc;rw[c3w,c3v]
theorem c2p{b k a:Nat}{r l:List Pk}(h:Ch b r l)(ha:a=k*b):SS (pc r a b) (pc l a b):=by subst ha;exact h.2 k
theorem b8k(l:List Pk)(k b:Nat):l.take (k+b)=l.take k++pc l k b:=by unfold pc;rw[List.take_add]
open Go.RowKit
theorem a2B (w:World) (g:Nat) (x u z v y:List Pk) (R:List Value) (m c a b n:Nat) (ai bi ni:Int) (fv:Value) (h:PB w g (x++(u++(z++(v++y)))) R) (hm:m=(x++(u++(z++(v++y)))).length)
  (h1:a=x.length) (h2:b=x.length+u.length+z.length) (h3:n=u.length) (h4:n=v.length) (ea:ai=a) (eb:bi=b) (en:ni=n) (hsz:m<=1000000) :
  Calls Tryz.prog 175 #[.slice (some ⟨g,0,none⟩) m c,.int .i64 ai,.int .i64 bi,.int .i64 ni,fv] w fun e w'=>e=.returned (.tuple #[])/\PB w' g (x++(v++(z++(u++y)))) R/\Keeps [g] w w':=by
 subst ea eb en
 have hl:m=x.length+(u.length+(z.length+(v.length+y.length))):=by rw[hm];simp only[c3o]
 have:=a7Q w g _ R m c a b n fv h hm (by omega) (by omega) hsz
 rw[h1,h2,h3,b5Q x u z v y (by omega)] at this
 rw[h1,h2,h3];exact this
theorem a2K (w:World) (g:Nat) (x u v y:List Pk) (R:List Value) (n c a m b:Nat) (fv:Value) (h:PB w g (x++(u++(v++y))) R) (hn:n=(x++(u++(v++y))).length)
  (h1:a=x.length) (h2:m=x.length+u.length) (h3:b=x.length+u.length+v.length) (hu:0<u.length) (hv:0<v.length) (hsz:n<=1000000) :
  Calls Tryz.prog 158 #[.slice (some ⟨g,0,none⟩) n c,.int .i64 a,.int .i64 m,.int .i64 b,fv] w fun e w'=>e=.returned (.tuple #[])/\PB w' g (x++(v++(u++y))) R/\Keeps [g] w w':=by
 have H:=c3p h
 have hl:n=x.length+(u.length+(v.length+y.length)):=by rw[hn];simp only[c3o]
 have HL:=c3p hl
 have H1:=c3p h1
 have H2:=c3p h2
 have H3:=c3p h3
 have b1:a<=m:=by omega
 have b2:m<=b:=by omega
 have b3:b<=n:=by omega
 have e1:IntKind.i64.wrap ((m:Int)-a)=(m:Int)-a:=c3t _ (by omega)
 have e2:IntKind.i64.wrap ((b:Int)-m)=(b:Int)-m:=c3t _ (by omega)
 clear h hl h1 h2 h3 hn
 go_enter Tryz.func158,Tryz.ntmps158
 go_wp2_with fail
 go_loopw [10,11] (fun iv jv wr=>∃ (i j:Nat) (P U V S:List Pk),0<i/\0<j/\i<=m/\j<=n/\m+j<=n/\iv=.int .i64 i/\jv=.int .i64 j/\Hid (U.length=i)/\Hid (V.length=j)/\Hid (P.length+i=m)/\Hid (P.length+(i+(j+S.length))=n)/\Hid (P++(V++(U++S))=x++(v++(u++y)))/\Hid (PB wr g (P++(U++(V++S))) R)/\Hid (Keeps [g] w wr)) (fun iv jv _=>(intOf iv+intOf jv).toNat)
 case atStart=>
  have q1:=H1.out;have q2:=H2.out;have q3:=H3.out;have q4:=HL.out
  exact⟨m-a,b-m,x,u,v,y,by omega,by omega,by omega,by omega,by omega,by congr 1;omega,by congr 1;omega,c3p (by omega),c3p (by omega),c3p (by omega),c3p (by omega),c3p rfl,H,c3p (Keeps.refl _ _)⟩
 case round=>
  obtain⟨i,j,P,U,V,S,hi,hj,him,hjn,hmj,rfl,rfl,HU,HV,HP,HN,HT,HB,HK⟩:=hrel
  clear e1 e2 b1 b2 b3 H
  by_cases hne:i=j
  ·subst hne
   have e3:((i:Int) !=(i:Int))=false:=by simp
   have e4:IntKind.i64.wrap ((m:Int)-i)=(m:Int)-i:=c3t _ (by omega)
   go_wp2_with fail
   have HB2:Hid (PB wr g (P++(U++([]++(V++S)))) R):=HB
   refine (a2B _ _ P U [] V S R _ _ (m-i) m i _ _ _ _ HB2.out (by have:=HN.out;have:=HU.out;have:=HV.out;simp only[c3o,List.length_nil];omega) (by have:=HP.out;omega) (by have:=HP.out;have:=HU.out;simp only[List.length_nil];omega) (by have:=HU.out;omega) (by have:=HV.out;omega) (by omega) rfl rfl hsz).mono ?_
   rintro e w' ⟨rfl,hb,hk⟩
   have HB3:=c3p hb
   have HK3:=c3p (HK.out.trans hk)
   clear hb hk
   go_wp2_with fail
   go_end0
   refine⟨rfl,?_,HK3.out⟩
   rw[<-HT.out];exact HB3.out
  ·have e3:((i:Int) !=(j:Int))=true:=by simp;omega
   by_cases hgt:j<i
   ·have e4:IntKind.i64.wrap ((m:Int)-i)=(m:Int)-i:=c3t _ (by omega)
    have e5:IntKind.i64.wrap ((i:Int)-j)=(i:Int)-j:=c3t _ (by omega)
    have HB2:Hid (PB wr g (P++(U.take j++(U.drop j++(V++S)))) R):=by
     have:=HB.out;rw[<-c3s j U,c3q] at this;exact this
    have l1:Hid ((U.take j).length=j):=by have:=HU.out;show _=_;rw[c3w];omega
    have l2:Hid ((U.drop j).length=i-j):=by have:=HU.out;show _=_;rw[c3v];omega
    have HT2:Hid (P++(V++(U.take j++(U.drop j++S)))=x++(v++(u++y))):=by
     have:=HT.out;rw[<-c3s j U,c3q] at this;exact this
    generalize U.take j=U1 at *
    generalize U.drop j=U2 at *
    clear hne HB HT
    go_wp2_with fail
    refine (a2B _ _ P U1 U2 V S R _ _ (m-i) m j _ _ _ _ HB2.out (by have:=HN.out;have:=l1.out;have:=l2.out;have:=HV.out;simp only[c3o];omega) (by have:=HP.out;omega) (by have:=HP.out;have:=l1.out;have:=l2.out;omega) (by have:=l1.out;omega) (by have:=HV.out;omega) (by omega) rfl rfl hsz).mono ?_
    rintro e w' ⟨rfl,hb,hk⟩
    have HB3:=c3p hb
    have HK3:=c3p (HK.out.trans hk)
    clear hb hk
    go_wp2_with fail
    go_roundw
    case rel=>exact⟨i-j,j,P++V,U2,U1,S,by omega,by omega,by omega,by omega,by omega,by congr 1;omega,rfl,l2,l1,c3p (by have:=HP.out;have:=HV.out;rw[c3o];omega),c3p (by have:=HN.out;have:=HV.out;rw[c3o];omega),c3p (by rw[c3q];exact HT2.out),c3p (by rw[c3q];exact HB3.out),HK3⟩
    case measure=>simp[intOf];omega
   ·have hij:i<j:=by omega
    have e4:IntKind.i64.wrap ((m:Int)-i)=(m:Int)-i:=c3t _ (by omega)
    have e5:IntKind.i64.wrap ((j:Int)-i)=(j:Int)-i:=c3t _ (by omega)
    have e6:IntKind.i64.wrap ((m:Int)+j)=(m:Int)+j:=c3t _ (by omega)
    have e7:IntKind.i64.wrap ((m:Int)+j-i)=(m:Int)+j-i:=c3t _ (by omega)
    have HB2:Hid (PB wr g (P++(U++(V.take (j-i)++(V.drop (j-i)++S)))) R):=by
     have:=HB.out;rw[<-c3s (j-i) V,c3q] at this;exact this
    have l1:Hid ((V.take (j-i)).length=j-i):=by have:=HV.out;show _=_;rw[c3w];omega
    have l2:Hid ((V.drop (j-i)).length=i):=by have:=HV.out;show _=_;rw[c3v];omega
    have HT2:Hid (P++(V.take (j-i)++(V.drop (j-i)++(U++S)))=x++(v++(u++y))):=by
     have:=HT.out;rw[<-c3s (j-i) V,c3q] at this;exact this
    generalize V.take (j-i)=V1 at *
    generalize V.drop (j-i)=V2 at *
    clear hne HB HT
    go_wp2_with fail
    refine (a2B _ _ P U V1 V2 S R _ _ (m-i) (m+j-i) i _ _ _ _ HB2.out (by have:=HN.out;have:=l1.out;have:=l2.out;have:=HU.out;simp only[c3o];omega) (by have:=HP.out;omega) (by have:=HP.out;have:=l1.out;have:=HU.out;omega) (by have:=HU.out;omega) (by have:=l2.out;omega) (by omega) (by omega) rfl hsz).mono ?_
    rintro e w' ⟨rfl,hb,hk⟩
    have HB3:=c3p hb
    have HK3:=c3p (HK.out.trans hk)
    clear hb hk
    go_wp2_with fail
    go_roundw
    case rel=>exact⟨i,j-i,P,V2,V1,U++S,by omega,by omega,by omega,by omega,by omega,rfl,by congr 1;omega,l2,l1,HP,c3p (by have:=HN.out;have:=HU.out;rw[c3o];omega),HT2,HB3,HK3⟩
    case measure=>simp[intOf];omega
open Go.RowKit
theorem b8e(x S1 S2 T1 T2 y:List Pk):(x++(S1++(T1++(S2++(T2++y))))).Perm (x++((S1++S2)++((T1++T2)++y))):=by
 refine List.Perm.append_left x ?_
 rw[c3q]
 refine List.Perm.append_left S1 ?_
 rw[c3q,<-c3q T1,<-c3q S2]
 exact List.Perm.append_right _ List.perm_append_comm
theorem a9Z{x S1 T1 z r1:List Pk}(h:r1.Perm (S1++T1)):((x++r1)++z).Perm (x++(S1++(T1++z))):=by
 rw[c3q,<-c3q S1]
 exact List.Perm.append_left x (List.Perm.append_right z h)
def SymC(N:Nat):Prop:=∀ (w:World) (g:Nat) (x s t y:List Pk) (R:List Value) (n c a m b:Nat),PB w g (x++(s++(t++y))) R->n=(x++(s++(t++y))).length->okW (x++(s++(t++y))) ->
  a=x.length->m=x.length+s.length->b=x.length+s.length+t.length->srt s->srt t->0<s.length->0<t.length->s.length+t.length<=N->n<=1000000 ->
  Calls Tryz.prog 138 #[.slice (some ⟨g,0,none⟩) n c,.int .i64 a,.int .i64 m,.int .i64 b,theCmp] w fun e w'=>e=.returned (.tuple #[])/\∃ r,SS r (s++t)/\PB w' g (x++(r++y)) R/\Keeps [g] w w'
theorem b1F (N:Nat) (ih:SymC N) (w:World) (g:Nat) (x s t y:List Pk) (R:List Value) (n c a m b:Nat) (h:PB w g (x++(s++(t++y))) R) (hn:n=(x++(s++(t++y))).length) (hw:okW (x++(s++(t++y))))
  (h1:a=x.length) (h2:m=x.length+s.length) (h3:b=x.length+s.length+t.length) (hs:srt s) (ht:srt t) (ls:2<=s.length) (lt:2<=t.length) (hN:s.length+t.length<=N+1) (hsz:n<=1000000) :
  Calls Tryz.prog 138 #[.slice (some ⟨g,0,none⟩) n c,.int .i64 a,.int .i64 m,.int .i64 b,theCmp] w fun e w'=>e=.returned (.tuple #[])/\∃ r,SS r (s++t)/\PB w' g (x++(r++y)) R/\Keeps [g] w w':=by
 have H:=c3p h
 have hl:n=x.length+(s.length+(t.length+y.length)):=by rw[hn];simp only[c3o]
 have HL:=c3p hl
 have HLN:=c3p hn
 have H1:=c3p h1
 have H2:=c3p h2
 have H3:=c3p h3
 have HW:=c3p hw
 have HS:=c3p hs
 have HT:=c3p ht
 have IH:=c3p ih
 have HN:=c3p hN
 have b1:a+2<=m:=by omega
 have b2:m+2<=b:=by omega
 have b3:b<=n:=by omega
 have e1:IntKind.i64.wrap ((m:Int)-a)=(m:Int)-a:=c3t _ (by omega)
 have e2:((m:Int)-a==1)=false:=by simp;omega
 have e3:IntKind.i64.wrap ((b:Int)-m)=(b:Int)-m:=c3t _ (by omega)
 have e4:((b:Int)-m==1)=false:=by simp;omega
 obtain⟨M,hM⟩:∃ M:Nat,M=(a+b)/2:=⟨_,rfl⟩
 have s0:((a:Int)+b)/2=(M:Int):=by omega
 have m1:a<M:=by omega
 have m2:M<b:=by omega
 have HM:=c3p hM
 have hcase:∃ st0 r0:Nat,symC a m b M st0 r0:=by
  by_cases hmm:M<m
  ·exact⟨M+m-b,M,Or.inl ⟨hmm,by omega,rfl⟩⟩
  ·exact⟨a,m,Or.inr ⟨by omega,rfl,rfl⟩⟩
 obtain⟨st0,r0,hC⟩:=hcase
 obtain⟨c1,c2,c3,c4,c5,c6⟩:=b3x hC hM (by omega) (by omega)
 have HC:=c3p hC
 have C6:=c3p c6
 clear h hl h1 h2 h3 hn hw hs ht ih hN hM hC c6
 have key:∀ wq:World,Hid (PB wq g (x++(s++(t++y))) R)->True:=fun _ _=>trivial
 clear key
 rcases (by have:=HC.out;unfold symC at this;omega:(M<m/\st0+b=M+m/\r0=M)∨(m<=M/\st0=a/\r0=m)) with⟨hmm,q1,q2⟩|⟨hmm,q1,q2⟩
 case' inl=>
  have e5:decide (M<m)=true:=by simpa using hmm
  have q3:Hid ((M:Int)+m-b=(st0:Int)):=c3p (by omega)
  have q4:Hid ((M:Int)=(r0:Int)):=c3p (by omega)
 case' inr=>
  have e5:decide (M<m)=false:=by simp;omega
  have q3:Hid ((a:Int)=(st0:Int)):=c3p (by omega)
  have q4:Hid ((m:Int)=(r0:Int)):=c3p (by omega)
 all_goals
  clear q1 q2
  go_enter Tryz.func138,Tryz.ntmps138
  go_wp2_with fail
  go_loopw [20,21] (fun iv jv wr=>∃ (i j:Nat),iv=.int .i64 i/\jv=.int .i64 j/\i<=j/\j<=r0/\st0<=i/\Hid (Turn (fun c=>(kth (x++(s++(t++y))) c).w<=(kth (x++(s++(t++y))) (M+m-1-c)).w) st0 i j r0)/\Hid (PB wr g (x++(s++(t++y))) R)/\Hid (Keeps [g] w wr)) (fun iv jv _=>(intOf jv-intOf iv).toNat)
  case atStart=>exact⟨st0,r0,by rw[q3.out],by rw[q4.out],c2,by omega,by omega,c3p (Turn.start _ c2),H,c3p (Keeps.refl _ _)⟩
 all_goals
  clear H
  obtain⟨i,j,rfl,rfl,hij,hjb,hmi,HTN,HB,HK⟩:=hrel
  obtain⟨wo,rfl⟩:∃ wo:World,wo=wr:=⟨_,rfl⟩
  by_cases hlt:i<j
  ·have e0:decide (i<j)=true:=by simpa using hlt
   obtain⟨h,hh⟩:∃ h:Nat,h=(i+j)/2:=⟨_,rfl⟩
   have s1:((i:Int)+j)/2=(h:Int):=by omega
   have hih:i<=h:=by omega
   have hhj:h<j:=by omega
   obtain⟨z1,z2⟩:=C6.out h (by omega) (by omega)
   obtain⟨Z,hZ⟩:∃ Z:Nat,Z=M+m-1-h:=⟨_,rfl⟩
   rw[<-hZ] at z1 z2
   have s2:(M:Int)+m-1-h=(Z:Int):=by omega
   have s5:IntKind.i64.wrap (Z:Int)=(Z:Int):=c3t _ (by omega)
   have s3:(h:Int)<n:=by omega
   have s4:(Z:Int)<n:=by omega
   obtain⟨p1,p2⟩:=HB.out.cell (j:=h) (by have:=HLN.out;omega)
   obtain⟨q1,q2⟩:=HB.out.cell (j:=Z) (by have:=HLN.out;omega)
   obtain⟨we,we1⟩:=a1S.1 HW.out _ (a3y (t:=x++(s++(t++y))) (i:=h) (by have:=HLN.out;omega))
   obtain⟨wp,wp1⟩:=a1S.1 HW.out _ (a3y (t:=x++(s++(t++y))) (i:=Z) (by have:=HLN.out;omega))
   obtain⟨u,hu⟩:∃ u,u=kth (x++(s++(t++y))) h:=⟨_,rfl⟩
   obtain⟨v,hv⟩:∃ v,v=kth (x++(s++(t++y))) Z:=⟨_,rfl⟩
   rw[<-hu] at p1 p2 we we1
   rw[<-hv] at q1 q2 wp wp1
   have HU:=c3p hu
   have HV:=c3p hv
   have HH:=c3p hh
   have HZ:=c3p hZ
   clear hu hv hh hZ
   go_wp2_with fail
   go_still_tail 11,(by kernel_rfl)
   change wpList _ _ _ _ _ wo.drew
   go_wp2_with fail
   refine (a2r _ _ _ _ _ _ _ _ _ wp wp1 we we1).mono ?_
   rintro _ w1 ⟨rfl,hk⟩
   have HK1:=c3p (HK.out.trans ((Keeps.refl [g] wo).drew.trans (hk.mono (by simp))))
   have HB3:=c3p (HB.out.keeps ((Keeps.refl [] wo).drew.trans hk) (by simp))
   clear hk HB HK p1 p2 q1 q2 s5 s2
   by_cases hlt:v.w<u.w
   ·have e2:decide (v.w-u.w<0)=true:=by simp;omega
    go_wp2_with fail
    refine⟨⟨i,h,rfl,rfl,by omega,by omega,by omega,c3p (HTN.out.down hih hhj (fun k g1 g2 g3=>?_) ?_),HB3,HK1⟩,by simp[intOf];omega⟩
    ·exact b4F H1.out H2.out H3.out HS.out HT.out HM.out (by omega) (by omega) HC.out (by omega) g1 g2 g3
    ·show ¬(kth _ h).w<=(kth _ (M+m-1-h)).w;rw[<-HZ.out,<-HU.out,<-HV.out];omega
   ·have e2:decide (v.w-u.w<0)=false:=by simp;omega
    go_wp2_with fail
    refine⟨⟨h+1,j,by go_num,rfl,by omega,by omega,by omega,c3p (HTN.out.up hih hhj (fun k g1 g2 g3=>?_) ?_),HB3,HK1⟩,by simp[intOf];omega⟩
    ·exact b4F H1.out H2.out H3.out HS.out HT.out HM.out (by omega) (by omega) HC.out g1 g2 (by omega) g3
    ·show (kth _ h).w<=(kth _ (M+m-1-h)).w;rw[<-HZ.out,<-HU.out,<-HV.out];omega
  ·have e0:decide (i<j)=false:=by simpa using hlt
   obtain rfl:i=j:=by omega
   obtain⟨S1,S2,T1,T2,es,et,l1,l2,F1,F2⟩:=b8f H1.out H2.out H3.out HS.out HT.out HM.out (by omega) (by omega) HC.out HTN.out
   obtain⟨E,hE⟩:∃ E:Nat,E+i=M+m:=⟨M+m-i,by omega⟩
   have s1:(M:Int)+m-i=(E:Int):=by omega
   have s2:IntKind.i64.wrap ((M:Int)+m-i)=(E:Int):=by rw[c3t _ (by omega)];exact s1
   have ls':s.length=S1.length+S2.length:=by rw[es,c3o]
   have lt':t.length=T1.length+T2.length:=by rw[et,c3o]
   have a1:E=m+T1.length:=by omega
   have a2:a<=i:=by omega
   have a3:i<=M:=by omega
   have a4:M<=E:=by omega
   have a5:E<=b:=by have:=H2.out;have:=H3.out;omega
   have a6:i<=m:=by omega
   have a7:m<=E:=by omega
   have F:Hid (a=x.length/\i=x.length+S1.length/\m=i+S2.length/\M=i+T1.length/\E=m+T1.length/\b=E+T2.length/\n=b+y.length/\S1.length+S2.length+(T1.length+T2.length)<=N+1/\2<=S1.length+S2.length/\2<=T1.length+T2.length):=by
    have:=H1.out;have:=H2.out;have:=H3.out;have:=HL.out;have:=HN.out
    exact⟨by omega,by omega,by omega,by omega,by omega,by omega,by omega,by omega,by omega,by omega⟩
   have HF1:=c3p F1
   have HF2:=c3p F2
   have ES:=c3p es
   have ET:=c3p et
   have HS2:Hid (srt (S1++S2)):=by have:=HS.out;rwa [es] at this
   have HT2:Hid (srt (T1++T2)):=by have:=HT.out;rwa [et] at this
   have HB2:Hid (PB wo g (x++S1++(S2++(T1++(T2++y)))) R):=by
    have:=HB.out;rw[es,et] at this;simp only[c3q] at this ⊢;exact this
   have OK4:Hid (okW (x++(S1++(T1++(S2++(T2++y)))))):=by
    have:=HW.out;rw[es,et] at this;exact a3X (b8e x S1 S2 T1 T2 y) this
   clear hE l1 l2 ls' lt' a1 F1 F2 es et HB HTN e1 e2 e3 e4
   rcases c3u S1.length with z10|z10
   ·rcases c3u S2.length with z20|z20
    ·rcases c3u T1.length with z30|z30
     ·rcases c3u T2.length with z40|z40
      ·exfalso;have f:=F.out;omega
      ·exfalso;have f:=F.out;omega
     ·rcases c3u T2.length with z40|z40
      ·exfalso;have f:=F.out;omega
      ·exfalso;have f:=F.out;omega
    ·rcases c3u T1.length with z30|z30
     ·rcases c3u T2.length with z40|z40
      ·exfalso;have f:=F.out;omega
      ·exfalso;have f:=F.out;omega
     ·rcases c3u T2.length with z40|z40
      ·have z1:=c3r z10
       have z4:=c3r z40
       have d0:decide (i<m)=true:=by have f:=F.out;simp;omega
       have d1:decide (m<E)=true:=by have f:=F.out;simp;omega
       have d2:decide (a<i)=false:=by have f:=F.out;simp;omega
       have d3:decide (i<M)=true:=by have f:=F.out;simp;omega
       have d4:decide (M<E)=true:=by have f:=F.out;simp;omega
       have d5:decide (E<b)=false:=by have f:=F.out;simp;omega
       go_wp2_with fail
       refine (a2K _ _ (x++S1) S2 T1 (T2++y) R _ _ i m E _ HB2.out (by have f:=F.out;(try simp only[c3o]);omega) (by have f:=F.out;(try simp only[c3o]);omega) (by have f:=F.out;(try simp only[c3o]);omega) (by have f:=F.out;(try simp only[c3o]);omega) (by omega) (by omega) hsz).mono ?_
       rintro _ w2 ⟨rfl,hb,hk⟩
       have HB3:=c3p hb
       have HK3:=c3p (HK.out.trans hk)
       clear hb hk
       have HB4:Hid (PB w2 g (x++(S1++(T1++(S2++(T2++y))))) R):=by
        have:=HB3.out;rw[c3q] at this;exact this
       have HR1:Hid (SS (S1++T1) (S1++T1)):=c3p ⟨by rw[z1];exact a1A HT2.out,same.refl _⟩
       have HB5:Hid (PB w2 g (x++((S1++T1)++(S2++(T2++y)))) R):=by
        have:=HB4.out;rw[c3q S1];exact this
       have HK4:=HK3
       have HB6:Hid (PB w2 g ((x++(S1++T1))++(S2++(T2++y))) R):=by
        have:=HB5.out;rw[c3q x];exact this
       have LR:Hid ((S1++T1).length=S1.length+T1.length):=c3p (HR1.out.len.trans (c3o ..))
       have HR2:Hid (SS (S2++T2) (S2++T2)):=c3p ⟨by rw[z4];rw[c3x];exact a1j HS2.out,same.refl _⟩
       have HB7:Hid (PB w2 g ((x++(S1++T1))++((S2++T2)++y)) R):=by
        have:=HB6.out;rw[c3q S2];exact this
       have HK5:=HK4
       go_wp2_with fail
       go_end0
       refine⟨rfl,(S1++T1)++(S2++T2),?_,?_,HK5.out⟩
       ·rw[ES.out,ET.out];exact a3k HS2.out HT2.out HF1.out HF2.out HR1.out HR2.out
       ·have:=HB7.out;simp only[c3q] at this ⊢;exact this
      ·have z1:=c3r z10
       have d0:decide (i<m)=true:=by have f:=F.out;simp;omega
       have d1:decide (m<E)=true:=by have f:=F.out;simp;omega
       have d2:decide (a<i)=false:=by have f:=F.out;simp;omega
       have d3:decide (i<M)=true:=by have f:=F.out;simp;omega
       have d4:decide (M<E)=true:=by have f:=F.out;simp;omega
       have d5:decide (E<b)=true:=by have f:=F.out;simp;omega
       go_wp2_with fail
       refine (a2K _ _ (x++S1) S2 T1 (T2++y) R _ _ i m E _ HB2.out (by have f:=F.out;(try simp only[c3o]);omega) (by have f:=F.out;(try simp only[c3o]);omega) (by have f:=F.out;(try simp only[c3o]);omega) (by have f:=F.out;(try simp only[c3o]);omega) (by omega) (by omega) hsz).mono ?_
       rintro _ w2 ⟨rfl,hb,hk⟩
       have HB3:=c3p hb
       have HK3:=c3p (HK.out.trans hk)
       clear hb hk
       have HB4:Hid (PB w2 g (x++(S1++(T1++(S2++(T2++y))))) R):=by
        have:=HB3.out;rw[c3q] at this;exact this
       have HR1:Hid (SS (S1++T1) (S1++T1)):=c3p ⟨by rw[z1];exact a1A HT2.out,same.refl _⟩
       have HB5:Hid (PB w2 g (x++((S1++T1)++(S2++(T2++y)))) R):=by
        have:=HB4.out;rw[c3q S1];exact this
       have HK4:=HK3
       have HB6:Hid (PB w2 g ((x++(S1++T1))++(S2++(T2++y))) R):=by
        have:=HB5.out;rw[c3q x];exact this
       have LR:Hid ((S1++T1).length=S1.length+T1.length):=c3p (HR1.out.len.trans (c3o ..))
       go_wp2_with fail
       refine (IH.out _ _ (x++(S1++T1)) S2 T2 y R _ _ M E b HB6.out (by have f:=F.out;have:=LR.out;(try simp only[c3o] at *);omega) (a3X (a9Z HR1.out.2.1) OK4.out) (by have f:=F.out;have:=LR.out;(try simp only[c3o] at *);omega) (by have f:=F.out;have:=LR.out;(try simp only[c3o] at *);omega) (by have f:=F.out;have:=LR.out;(try simp only[c3o] at *);omega) (a1j HS2.out) (a1j HT2.out) (by omega) (by omega) (by have f:=F.out;(try simp only[c3o]);omega) hsz).mono ?_
       rintro _ w4 ⟨rfl,r2,hr2,hb,hk⟩
       have HR2:=c3p hr2
       have HB7:=c3p hb
       have HK5:=c3p (HK4.out.trans hk)
       clear hb hk hr2
       go_wp2_with fail
       go_end0
       refine⟨rfl,(S1++T1)++r2,?_,?_,HK5.out⟩
       ·rw[ES.out,ET.out];exact a3k HS2.out HT2.out HF1.out HF2.out HR1.out HR2.out
       ·have:=HB7.out;simp only[c3q] at this ⊢;exact this
   ·rcases c3u S2.length with z20|z20
    ·rcases c3u T1.length with z30|z30
     ·rcases c3u T2.length with z40|z40
      ·exfalso;have f:=F.out;omega
      ·have z2:=c3r z20
       have z3:=c3r z30
       have d0:decide (i<m)=false:=by have f:=F.out;simp;omega
       have d1:decide (m<E)=false:=by have f:=F.out;simp;omega
       have d2:decide (a<i)=true:=by have f:=F.out;simp;omega
       have d3:decide (i<M)=false:=by have f:=F.out;simp;omega
       have d4:decide (M<E)=false:=by have f:=F.out;simp;omega
       have d5:decide (E<b)=true:=by have f:=F.out;simp;omega
       have HB3:Hid (PB wo g (x++S1++(T1++(S2++(T2++y)))) R):=by
        have:=HB2.out;rw[z2] at this ⊢;exact this
       have HK3:=HK
       have HB4:Hid (PB wo g (x++(S1++(T1++(S2++(T2++y))))) R):=by
        have:=HB3.out;rw[c3q] at this;exact this
       have HR1:Hid (SS (S1++T1) (S1++T1)):=c3p ⟨by rw[z3];rw[c3x];exact a1A HS2.out,same.refl _⟩
       have HB5:Hid (PB wo g (x++((S1++T1)++(S2++(T2++y)))) R):=by
        have:=HB4.out;rw[c3q S1];exact this
       have HK4:=HK3
       have HB6:Hid (PB wo g ((x++(S1++T1))++(S2++(T2++y))) R):=by
        have:=HB5.out;rw[c3q x];exact this
       have LR:Hid ((S1++T1).length=S1.length+T1.length):=c3p (HR1.out.len.trans (c3o ..))
       have HR2:Hid (SS (S2++T2) (S2++T2)):=c3p ⟨by rw[z2];exact a1j HT2.out,same.refl _⟩
       have HB7:Hid (PB wo g ((x++(S1++T1))++((S2++T2)++y)) R):=by
        have:=HB6.out;rw[c3q S2];exact this
       have HK5:=HK4
       go_wp2_with fail
       go_end0
       refine⟨rfl,(S1++T1)++(S2++T2),?_,?_,HK5.out⟩
       ·rw[ES.out,ET.out];exact a3k HS2.out HT2.out HF1.out HF2.out HR1.out HR2.out
       ·have:=HB7.out;simp only[c3q] at this ⊢;exact this
     ·rcases c3u T2.length with z40|z40
      ·exfalso;have f:=F.out;omega
      ·have z2:=c3r z20
       have d0:decide (i<m)=false:=by have f:=F.out;simp;omega
       have d1:decide (m<E)=true:=by have f:=F.out;simp;omega
       have d2:decide (a<i)=true:=by have f:=F.out;simp;omega
       have d3:decide (i<M)=true:=by have f:=F.out;simp;omega
       have d4:decide (M<E)=false:=by have f:=F.out;simp;omega
       have d5:decide (E<b)=true:=by have f:=F.out;simp;omega
       have HB3:Hid (PB wo g (x++S1++(T1++(S2++(T2++y)))) R):=by
        have:=HB2.out;rw[z2] at this ⊢;exact this
       have HK3:=HK
       have HB4:Hid (PB wo g (x++(S1++(T1++(S2++(T2++y))))) R):=by
        have:=HB3.out;rw[c3q] at this;exact this
       go_wp2_with fail
       refine (IH.out _ _ x S1 T1 (S2++(T2++y)) R _ _ a i M HB4.out (by have f:=F.out;(try simp only[c3o]);omega) OK4.out (by have f:=F.out;(try simp only[c3o]);omega) (by have f:=F.out;(try simp only[c3o]);omega) (by have f:=F.out;(try simp only[c3o]);omega) (a1A HS2.out) (a1A HT2.out) (by omega) (by omega) (by have f:=F.out;(try simp only[c3o]);omega) hsz).mono ?_
       rintro _ w3 ⟨rfl,r1,hr1,hb,hk⟩
       have HR1:=c3p hr1
       have HB5:=c3p hb
       have HK4:=c3p (HK3.out.trans hk)
       clear hb hk hr1
       have HB6:Hid (PB w3 g ((x++r1)++(S2++(T2++y))) R):=by
        have:=HB5.out;rw[c3q x];exact this
       have LR:Hid (r1.length=S1.length+T1.length):=c3p (HR1.out.len.trans (c3o ..))
       have HR2:Hid (SS (S2++T2) (S2++T2)):=c3p ⟨by rw[z2];exact a1j HT2.out,same.refl _⟩
       have HB7:Hid (PB w3 g ((x++r1)++((S2++T2)++y)) R):=by
        have:=HB6.out;rw[c3q S2];exact this
       have HK5:=HK4
       go_wp2_with fail
       go_end0
       refine⟨rfl,r1++(S2++T2),?_,?_,HK5.out⟩
       ·rw[ES.out,ET.out];exact a3k HS2.out HT2.out HF1.out HF2.out HR1.out HR2.out
       ·have:=HB7.out;simp only[c3q] at this ⊢;exact this
    ·rcases c3u T1.length with z30|z30
     ·rcases c3u T2.length with z40|z40
      ·exfalso;have f:=F.out;omega
      ·have z3:=c3r z30
       have d0:decide (i<m)=true:=by have f:=F.out;simp;omega
       have d1:decide (m<E)=false:=by have f:=F.out;simp;omega
       have d2:decide (a<i)=true:=by have f:=F.out;simp;omega
       have d3:decide (i<M)=false:=by have f:=F.out;simp;omega
       have d4:decide (M<E)=true:=by have f:=F.out;simp;omega
       have d5:decide (E<b)=true:=by have f:=F.out;simp;omega
       have HB3:Hid (PB wo g (x++S1++(T1++(S2++(T2++y)))) R):=by
        have:=HB2.out;rw[z3] at this ⊢;exact this
       have HK3:=HK
       have HB4:Hid (PB wo g (x++(S1++(T1++(S2++(T2++y))))) R):=by
        have:=HB3.out;rw[c3q] at this;exact this
       have HR1:Hid (SS (S1++T1) (S1++T1)):=c3p ⟨by rw[z3];rw[c3x];exact a1A HS2.out,same.refl _⟩
       have HB5:Hid (PB wo g (x++((S1++T1)++(S2++(T2++y)))) R):=by
        have:=HB4.out;rw[c3q S1];exact this
       have HK4:=HK3
       have HB6:Hid (PB wo g ((x++(S1++T1))++(S2++(T2++y))) R):=by
        have:=HB5.out;rw[c3q x];exact this
       have LR:Hid ((S1++T1).length=S1.length+T1.length):=c3p (HR1.out.len.trans (c3o ..))
       go_wp2_with fail
       refine (IH.out _ _ (x++(S1++T1)) S2 T2 y R _ _ M E b HB6.out (by have f:=F.out;have:=LR.out;(try simp only[c3o] at *);omega) (a3X (a9Z HR1.out.2.1) OK4.out) (by have f:=F.out;have:=LR.out;(try simp only[c3o] at *);omega) (by have f:=F.out;have:=LR.out;(try simp only[c3o] at *);omega) (by have f:=F.out;have:=LR.out;(try simp only[c3o] at *);omega) (a1j HS2.out) (a1j HT2.out) (by omega) (by omega) (by have f:=F.out;(try simp only[c3o]);omega) hsz).mono ?_
       rintro _ w4 ⟨rfl,r2,hr2,hb,hk⟩
       have HR2:=c3p hr2
       have HB7:=c3p hb
       have HK5:=c3p (HK4.out.trans hk)
       clear hb hk hr2
       go_wp2_with fail
       go_end0
       refine⟨rfl,(S1++T1)++r2,?_,?_,HK5.out⟩
       ·rw[ES.out,ET.out];exact a3k HS2.out HT2.out HF1.out HF2.out HR1.out HR2.out
       ·have:=HB7.out;simp only[c3q] at this ⊢;exact this
     ·rcases c3u T2.length with z40|z40
      ·have z4:=c3r z40
       have d0:decide (i<m)=true:=by have f:=F.out;simp;omega
       have d1:decide (m<E)=true:=by have f:=F.out;simp;omega
       have d2:decide (a<i)=true:=by have f:=F.out;simp;omega
       have d3:decide (i<M)=true:=by have f:=F.out;simp;omega
       have d4:decide (M<E)=true:=by have f:=F.out;simp;omega
       have d5:decide (E<b)=false:=by have f:=F.out;simp;omega
       go_wp2_with fail
       refine (a2K _ _ (x++S1) S2 T1 (T2++y) R _ _ i m E _ HB2.out (by have f:=F.out;(try simp only[c3o]);omega) (by have f:=F.out;(try simp only[c3o]);omega) (by have f:=F.out;(try simp only[c3o]);omega) (by have f:=F.out;(try simp only[c3o]);omega) (by omega) (by omega) hsz).mono ?_
       rintro _ w2 ⟨rfl,hb,hk⟩
       have HB3:=c3p hb
       have HK3:=c3p (HK.out.trans hk)
       clear hb hk
       have HB4:Hid (PB w2 g (x++(S1++(T1++(S2++(T2++y))))) R):=by
        have:=HB3.out;rw[c3q] at this;exact this
       go_wp2_with fail
       refine (IH.out _ _ x S1 T1 (S2++(T2++y)) R _ _ a i M HB4.out (by have f:=F.out;(try simp only[c3o]);omega) OK4.out (by have f:=F.out;(try simp only[c3o]);omega) (by have f:=F.out;(try simp only[c3o]);omega) (by have f:=F.out;(try simp only[c3o]);omega) (a1A HS2.out) (a1A HT2.out) (by omega) (by omega) (by have f:=F.out;(try simp only[c3o]);omega) hsz).mono ?_
       rintro _ w3 ⟨rfl,r1,hr1,hb,hk⟩
       have HR1:=c3p hr1
       have HB5:=c3p hb
       have HK4:=c3p (HK3.out.trans hk)
       clear hb hk hr1
       have HB6:Hid (PB w3 g ((x++r1)++(S2++(T2++y))) R):=by
        have:=HB5.out;rw[c3q x];exact this
       have LR:Hid (r1.length=S1.length+T1.length):=c3p (HR1.out.len.trans (c3o ..))
       have HR2:Hid (SS (S2++T2) (S2++T2)):=c3p ⟨by rw[z4];rw[c3x];exact a1j HS2.out,same.refl _⟩
       have HB7:Hid (PB w3 g ((x++r1)++((S2++T2)++y)) R):=by
        have:=HB6.out;rw[c3q S2];exact this
       have HK5:=HK4
       go_wp2_with fail
       go_end0
       refine⟨rfl,r1++(S2++T2),?_,?_,HK5.out⟩
       ·rw[ES.out,ET.out];exact a3k HS2.out HT2.out HF1.out HF2.out HR1.out HR2.out
       ·have:=HB7.out;simp only[c3q] at this ⊢;exact this
      ·have d0:decide (i<m)=true:=by have f:=F.out;simp;omega
       have d1:decide (m<E)=true:=by have f:=F.out;simp;omega
       have d2:decide (a<i)=true:=by have f:=F.out;simp;omega
       have d3:decide (i<M)=true:=by have f:=F.out;simp;omega
       have d4:decide (M<E)=true:=by have f:=F.out;simp;omega
       have d5:decide (E<b)=true:=by have f:=F.out;simp;omega
       go_wp2_with fail
       refine (a2K _ _ (x++S1) S2 T1 (T2++y) R _ _ i m E _ HB2.out (by have f:=F.out;(try simp only[c3o]);omega) (by have f:=F.out;(try simp only[c3o]);omega) (by have f:=F.out;(try simp only[c3o]);omega) (by have f:=F.out;(try simp only[c3o]);omega) (by omega) (by omega) hsz).mono ?_
       rintro _ w2 ⟨rfl,hb,hk⟩
       have HB3:=c3p hb
       have HK3:=c3p (HK.out.trans hk)
       clear hb hk
       have HB4:Hid (PB w2 g (x++(S1++(T1++(S2++(T2++y))))) R):=by
        have:=HB3.out;rw[c3q] at this;exact this
       go_wp2_with fail
       refine (IH.out _ _ x S1 T1 (S2++(T2++y)) R _ _ a i M HB4.out (by have f:=F.out;(try simp only[c3o]);omega) OK4.out (by have f:=F.out;(try simp only[c3o]);omega) (by have f:=F.out;(try simp only[c3o]);omega) (by have f:=F.out;(try simp only[c3o]);omega) (a1A HS2.out) (a1A HT2.out) (by omega) (by omega) (by have f:=F.out;(try simp only[c3o]);omega) hsz).mono ?_
       rintro _ w3 ⟨rfl,r1,hr1,hb,hk⟩
       have HR1:=c3p hr1
       have HB5:=c3p hb
       have HK4:=c3p (HK3.out.trans hk)
       clear hb hk hr1
       have HB6:Hid (PB w3 g ((x++r1)++(S2++(T2++y))) R):=by
        have:=HB5.out;rw[c3q x];exact this
       have LR:Hid (r1.length=S1.length+T1.length):=c3p (HR1.out.len.trans (c3o ..))
       go_wp2_with fail
       refine (IH.out _ _ (x++r1) S2 T2 y R _ _ M E b HB6.out (by have f:=F.out;have:=LR.out;(try simp only[c3o] at *);omega) (a3X (a9Z HR1.out.2.1) OK4.out) (by have f:=F.out;have:=LR.out;(try simp only[c3o] at *);omega) (by have f:=F.out;have:=LR.out;(try simp only[c3o] at *);omega) (by have f:=F.out;have:=LR.out;(try simp only[c3o] at *);omega) (a1j HS2.out) (a1j HT2.out) (by omega) (by omega) (by have f:=F.out;(try simp only[c3o]);omega) hsz).mono ?_
       rintro _ w4 ⟨rfl,r2,hr2,hb,hk⟩
       have HR2:=c3p hr2
       have HB7:=c3p hb
       have HK5:=c3p (HK4.out.trans hk)
       clear hb hk hr2
       go_wp2_with fail
       go_end0
       refine⟨rfl,r1++r2,?_,?_,HK5.out⟩
       ·rw[ES.out,ET.out];exact a3k HS2.out HT2.out HF1.out HF2.out HR1.out HR2.out
       ·have:=HB7.out;simp only[c3q] at this ⊢;exact this
open Go.RowKit
theorem c1P:∀ N,SymC N:=by
 intro N
 induction N with
 | zero=>intro w g x s t y R n c a m b h hn hw h1 h2 h3 hs ht ls lt hN hsz;omega
 | succ N ih=>
  intro w g x s t y R n c a m b h hn hw h1 h2 h3 hs ht ls lt hN hsz
  by_cases e1:s.length=1
  ·obtain⟨p,rfl⟩:=List.length_eq_one_iff.1 e1
   exact a9Y w g x t y p R n c a m b h hn hw h1 (by simpa using h2) (by simpa using h3) ht hsz
  ·by_cases e2:t.length=1
   ·obtain⟨q,rfl⟩:=List.length_eq_one_iff.1 e2
    exact a8g w g x s y q R n c a m b h hn hw h1 h2 (by simpa using h3) e1 hs hsz
   ·exact b1F N ih w g x s t y R n c a m b h hn hw h1 h2 h3 hs ht (by omega) (by omega) hN hsz
theorem b1G (w:World) (g:Nat) (x s t y:List Pk) (R:List Value) (n c a m b:Nat) (h:PB w g (x++(s++(t++y))) R) (hn:n=(x++(s++(t++y))).length) (hw:okW (x++(s++(t++y))))
  (h1:a=x.length) (h2:m=x.length+s.length) (h3:b=x.length+s.length+t.length) (hs:srt s) (ht:srt t) (ls:0<s.length) (lt:0<t.length) (hsz:n<=1000000) :
  Calls Tryz.prog 138 #[.slice (some ⟨g,0,none⟩) n c,.int .i64 a,.int .i64 m,.int .i64 b,theCmp] w fun e w'=>e=.returned (.tuple #[])/\∃ r,SS r (s++t)/\PB w' g (x++(r++y)) R/\Keeps [g] w w':=
 c1P _ w g x s t y R n c a m b h hn hw h1 h2 h3 hs ht ls lt (c3C _) hsz
theorem b9M{b:Nat}{x y z l:List Pk}(h:same x y)(hl:l=y++z)(k:okW l):okW (x++z):=a3X (List.Perm.append_right z h.1) (hl ▸ k)
theorem b2h{b:Nat}:∀ {n:Nat} {r l:List Pk},r.length<=n->0<b->Ch b r l->same r l:=by
 intro n
 induction n with
 | zero=>
  intro r l hn hb h
  have e1:r=[]:=c3r (by omega)
  have e2:l=[]:=c3r (by have:=h.1;omega)
  subst e1 e2
  exact same.refl _
 | succ n ih=>
  intro r l hn hb h
  rw[<-c3s b r,<-c3s b l]
  refine same.app ?_ ?_
  ·have:=h.2 0
   rw[Nat.zero_mul] at this
   exact this.2
  ·by_cases hr:r=[]
   ·subst hr
    have e2:l=[]:=c3r (by have:=h.1;simpa using this.symm)
    subst e2
    exact same.refl _
   ·refine ih (by rw[c3v];have:=List.length_pos_iff.2 hr;omega) hb ⟨by rw[c3v,c3v,h.1],fun k=>?_⟩
    have:=h.2 (k+1)
    unfold pc at *
    rw[List.drop_drop,List.drop_drop]
    rwa [c3R,Nat.one_mul,Nat.add_comm] at this
theorem b1u(w:World)(g:Nat)(L:List Pk)(R:List Value)(n c:Nat)(h:PB w g L R)(hn:n=L.length)(hw:okW L)(hsz:n<=1000000) :
  Calls Tryz.prog 122 #[.slice (some ⟨g,0,none⟩) n c,.int .i64 n,theCmp] w fun e w'=>e=.returned (.tuple #[])/\∃ r,SS r L/\PB w' g r R/\Keeps [g] w w':=by
 have H:=c3p h
 have HN:=c3p hn
 have HW:=c3p hw
 clear h hn hw
 go_enter Tryz.func122,Tryz.ntmps122
 go_wp2_with fail
 go_loopw [7,8] (fun av bv wr=>∃ (A B k:Nat) (x:List Pk),A<=n/\B=A+20/\av=.int .i64 A/\bv=.int .i64 B/\Hid (A=k*20)/\Hid (Ch 20 x (L.take A))/\Hid (PB wr g (x++L.drop A) R)/\Hid (Keeps [g] w wr)) (fun _ bv _=>(n+20-intOf bv).toNat)
 case atStart=>exact⟨0,20,0,[],by omega,rfl,rfl,rfl,c3p rfl,c3p (by rw[c3E];exact c0A _),H,c3p (Keeps.refl _ _)⟩
 case round=>
  clear H
  obtain⟨A,B,k,x,hA,hB',rfl,rfl,HA,HC,HB,HK⟩:=hrel
  have hx:Hid (x.length=A):=by have:=HC.out.1;rw[c3w] at this;have:=HN.out;show _=_;omega
  have OKx:Hid (okW (x++L.drop A)):=b9M (b:=0) (b2h (c3C _) (by decide) HC.out) (c3s A L).symm HW.out
  have HB2:=c3p hB'
  by_cases hlt:B<=n
  ·have e0:decide (B<=n)=true:=by simpa using hlt
   have es:Hid (L.drop A=pc L A 20++L.drop B):=by rw[hB'];exact a6Q L A 20
   have lp:Hid ((pc L A 20).length=20):=by show _=_;rw[a8z];have:=HN.out;omega
   have HB3:Hid (PB wr g (x++(pc L A 20++L.drop B)) R):=by have:=HB.out;rwa [es.out] at this
   have OK3:Hid (okW (x++(pc L A 20++L.drop B))):=by have:=OKx.out;rwa [es.out] at this
   have LN:Hid (n=(x++(pc L A 20++L.drop B)).length):=by show _=_;rw[<-es.out,c3o,c3v,hx.out];have:=HN.out;omega
   clear hB' HB
   go_wp2_with fail
   refine (a4L _ _ x (pc L A 20) (L.drop B) R _ _ A B HB3.out LN.out OK3.out hx.out.symm (by have:=hx.out;have:=lp.out;have:=HB2.out;omega) hsz).mono ?_
   rintro e w1 ⟨rfl,r,hr,hb,hk⟩
   have HR:=c3p hr
   have HB4:=c3p hb
   have HK1:=c3p (HK.out.trans hk)
   clear hr hb hk
   go_wp2_with fail
   go_roundw
   case rel=>
    refine⟨B,B+20,k+1,x++r,hlt,rfl,rfl,by go_num,c3p (by have:=HA.out;have:=HB2.out;omega),c3p ?_,c3p ?_,HK1⟩
    ·rw[HB2.out,b8k]
     exact b0t HC.out (hx.out.trans HA.out) HR.out (by rw[lp.out];exact c3C _)
    ·rw[c3q];exact HB4.out
   case measure=>simp[intOf];omega
  ·have e0:decide (B<=n)=false:=by simpa using hlt
   have HB3:Hid (PB wr g (x++(L.drop A++[])) R):=by have:=HB.out;rwa [<-c3x (L.drop A)] at this
   have OK3:Hid (okW (x++(L.drop A++[]))):=by have:=OKx.out;rwa [<-c3x (L.drop A)] at this
   have lp:Hid ((L.drop A).length=n-A):=by show _=_;rw[c3v];have:=HN.out;omega
   clear hB' HB
   go_wp2_with fail
   refine (a4L _ _ x (L.drop A) [] R _ _ A n HB3.out (by have:=hx.out;have:=lp.out;rw[c3o,c3o,List.length_nil];omega) OK3.out hx.out.symm (by have:=hx.out;have:=lp.out;omega) hsz).mono ?_
   rintro e w1 ⟨rfl,r,hr,hb,hk⟩
   have HCh:Hid (Ch 20 (x++r) L):=by
    have:=b0t HC.out (hx.out.trans HA.out) hr (by rw[lp.out];have:=HB2.out;omega)
    rwa [c3s] at this
   have HB4:Hid (PB w1 g (x++r) R):=by rw[c3x] at hb;exact hb
   have HK1:=c3p (HK.out.trans hk)
   generalize x++r=r0 at *
   clear hr hb hk HK HB3 OK3 HC OKx hx HA e0 lp HB2
   obtain⟨wo,rfl⟩:∃ wo:World,wo=w1:=⟨_,rfl⟩
   go_wp2_with fail
   go_loopw [6] (fun bv wr=>∃ (bs:Nat) (r:List Pk),20<=bs/\bs<=2000000/\bv=.int .i64 bs/\Hid (Ch bs r L)/\Hid (PB wr g r R)/\Hid (Keeps [g] w wr)) (fun bv _=>(n-intOf bv).toNat)
   case atStart=>exact⟨20,r0,by omega,by omega,rfl,HCh,HB4,HK1⟩
   case round=>
    clear HCh HB4 HK1
    obtain⟨bs,r,hb1,hb2,rfl,HC,HB,HK⟩:=hrel
    obtain⟨wq,rfl⟩:∃ wq:World,wq=wr:=⟨_,rfl⟩
    have lr:Hid (r.length=n):=by have:=HC.out.1;have:=HN.out;show _=_;omega
    have HS:Hid (same r L):=b2h (c3C _) (by omega) HC.out
    by_cases hlt:bs<n
    ·have e0:decide (bs<n)=true:=by simpa using hlt
     go_wp2_with fail
     go_loopw [7,8] (fun av bv wr=>∃ (A B k:Nat) (x:List Pk),A<=n/\B=A+2*bs/\av=.int .i64 A/\bv=.int .i64 B/\Hid (A=k*(2*bs))/\Hid (Ch (2*bs) x (L.take A))/\Hid (PB wr g (x++r.drop A) R)/\Hid (Keeps [g] w wr)) (fun _ bv _=>(n+2*bs-intOf bv).toNat)
     case atStart=>exact⟨0,2*bs,0,[],by omega,by omega,rfl,by go_num,c3p (by omega),c3p (by rw[c3E];exact c0A _),HB,HK⟩
     case round=>
      clear HB HK
      obtain⟨A,B,k,x,hA,hB',rfl,rfl,HA,HCx,HB,HK⟩:=hrel
      have hx:Hid (x.length=A):=by have:=HCx.out.1;rw[c3w] at this;have:=HN.out;show _=_;omega
      have HD:Hid (okW r):=a3X HS.out.1 HW.out
      have OKx:Hid (okW (x++r.drop A)):=by
       have s1:=b2h (c3C _) (by omega) HCx.out
       refine a1S.2 fun p hp=>?_
       rcases c3O.1 hp with hp|hp
       ·exact a1S.1 HW.out p (c3N (s1.1.mem_iff.1 hp))
       ·exact a1S.1 HD.out p (List.mem_of_mem_drop hp)
      have hA2:Hid (A=(2*k)*bs):=by show _=_;rw[HA.out,Nat.mul_comm 2 bs,<-Nat.mul_assoc,Nat.mul_comm 2 k,Nat.mul_assoc,Nat.mul_assoc,Nat.mul_comm bs 2]
      have S1:Hid (SS (pc r A bs) (pc L A bs)):=c2p HC.out hA2.out
      have S2:Hid (SS (pc r (A+bs) bs) (pc L (A+bs) bs)):=c2p (k:=2*k+1) HC.out (by rw[hA2.out];simp only[c3R,Nat.one_mul])
      have HB2:=c3p hB'
      by_cases hlt:B<=n
      ·have e0:decide (B<=n)=true:=by simpa using hlt
       have l1:Hid ((pc r A bs).length=bs):=by show _=_;rw[a8z];have:=lr.out;omega
       have l2:Hid ((pc r (A+bs) bs).length=bs):=by show _=_;rw[a8z];have:=lr.out;omega
       have es:Hid (r.drop A=pc r A bs++(pc r (A+bs) bs++r.drop B)):=by
        show _=_
        rw[a6Q r A bs,a6Q r (A+bs) bs,hB',show A+bs+bs=A+2*bs by omega]
       have HB3:Hid (PB wr g (x++(pc r A bs++(pc r (A+bs) bs++r.drop B))) R):=by have:=HB.out;rwa [es.out] at this
       have OK3:Hid (okW (x++(pc r A bs++(pc r (A+bs) bs++r.drop B)))):=by have:=OKx.out;rwa [es.out] at this
       have LN:Hid (n=(x++(pc r A bs++(pc r (A+bs) bs++r.drop B))).length):=by show _=_;rw[<-es.out,c3o,c3v,hx.out];have:=lr.out;omega
       clear hB' HB
       go_wp2_with fail
       rw[show ((A:Int)+bs)=((A+bs:Nat):Int) by omega]
       refine (b1G _ _ x (pc r A bs) (pc r (A+bs) bs) (r.drop B) R _ _ A (A+bs) B HB3.out LN.out OK3.out hx.out.symm (by have:=hx.out;have:=l1.out;omega) (by have:=hx.out;have:=l1.out;have:=l2.out;have:=HB2.out;omega) S1.out.1 S2.out.1 (by have:=l1.out;omega) (by have:=l2.out;omega) hsz).mono ?_
       rintro e w1 ⟨rfl,q,hr,hb,hk⟩
       have HR:Hid (SS q (pc L A (2*bs))):=by show SS _ _;rw[c0N];exact a6f hr S1.out S2.out
       have HB4:=c3p hb
       have HK1:=c3p (HK.out.trans hk)
       clear hr hb hk
       go_wp2_with fail
       go_roundw
       case rel=>
        refine⟨B,B+2*bs,k+1,x++q,hlt,rfl,rfl,by go_num,c3p (by rw[c3R,Nat.one_mul,<-HA.out];exact HB2.out),c3p ?_,c3p ?_,HK1⟩
        ·rw[HB2.out,b8k]
         exact b0t HCx.out (hx.out.trans HA.out) HR.out (by rw[a8z];omega)
        ·rw[c3q];exact HB4.out
       case measure=>simp[intOf];omega
      ·have e0:decide (B<=n)=false:=by simpa using hlt
       by_cases hm:A+bs<n
       ·have e5:decide ((A:Int)+bs<n)=true:=by simp;omega
        have l1:Hid ((pc r A bs).length=bs):=by show _=_;rw[a8z];have:=lr.out;omega
        have l2:Hid ((pc r (A+bs) bs).length=n-(A+bs)):=by show _=_;rw[a8z];have:=lr.out;omega
        have es:Hid (r.drop A=pc r A bs++(pc r (A+bs) bs++[])):=by
         show _=_
         rw[a6Q r A bs,a6Q r (A+bs) bs,c3K (show r.length<=A+bs+bs by have:=lr.out;omega)]
        have HB3:Hid (PB wr g (x++(pc r A bs++(pc r (A+bs) bs++[]))) R):=by have:=HB.out;rwa [es.out] at this
        have OK3:Hid (okW (x++(pc r A bs++(pc r (A+bs) bs++[])))):=by have:=OKx.out;rwa [es.out] at this
        have LN:Hid (n=(x++(pc r A bs++(pc r (A+bs) bs++[]))).length):=by show _=_;rw[<-es.out,c3o,c3v,hx.out];have:=lr.out;omega
        clear hB' HB
        go_wp2_with fail
        rw[show ((A:Int)+bs)=((A+bs:Nat):Int) by omega]
        refine (b1G _ _ x (pc r A bs) (pc r (A+bs) bs) [] R _ _ A (A+bs) n HB3.out LN.out OK3.out hx.out.symm (by have:=hx.out;have:=l1.out;omega) (by have:=hx.out;have:=l1.out;have:=l2.out;omega) S1.out.1 S2.out.1 (by have:=l1.out;omega) (by have:=l2.out;omega) hsz).mono ?_
        rintro e w1 ⟨rfl,q,hr,hb,hk⟩
        have HCh:Hid (Ch (2*bs) (x++q) L):=by
         have hq:SS q (pc L A (2*bs)):=by rw[c0N];exact a6f hr S1.out S2.out
         have hd:pc L A (2*bs)=L.drop A:=by unfold pc;rw[c3A (by rw[c3v];have:=HN.out;have:=HB2.out;omega)]
         rw[hd] at hq
         have:=b0t HCx.out (hx.out.trans HA.out) hq (by rw[c3v];have:=HN.out;have:=HB2.out;omega)
         rwa [c3s] at this
        have HB4:Hid (PB w1 g (x++q) R):=by rw[c3x] at hb;exact hb
        have HK1:=c3p (HK.out.trans hk)
        clear hr hb hk
        go_wp2_with fail
        refine⟨⟨2*bs,x++q,by omega,by omega,by go_num,HCh,HB4,HK1⟩,by simp[intOf];omega⟩
       ·have e5:decide ((A:Int)+bs<n)=false:=by simp;omega
        have HCh:Hid (Ch (2*bs) (x++r.drop A) L):=by
         have hd:∀ z:List Pk,z.length=n->pc z A bs=z.drop A:=fun z hz=>by unfold pc;rw[c3A (by rw[c3v];omega)]
         have hq:=S1.out
         rw[hd r lr.out,hd L HN.out.symm] at hq
         have:=b0t HCx.out (hx.out.trans HA.out) hq (by rw[c3v];have:=HN.out;have:=HB2.out;omega)
         rwa [c3s] at this
        clear hB'
        go_wp2_with fail
        refine⟨⟨2*bs,x++r.drop A,by omega,by omega,by go_num,HCh,HB,HK⟩,by simp[intOf];omega⟩
    ·have e0:decide (bs<n)=false:=by simpa using hlt
     go_wp2_with fail
     go_end0
     exact⟨rfl,r,c1m HC.out (by have:=HN.out;omega),HB.out,HK.out⟩
theorem b5K(w:World)(g:Nat)(L:List Pk)(R:List Value)(n c:Nat)(h:PB w g L R)(hn:n=L.length)(hw:okW L)(hsz:n<=1000000) :
  Calls Tryz.prog 98 #[.slice (some ⟨g,0,none⟩) n c,theCmp] w fun e w'=>e=.returned (.tuple #[])/\∃ r,SS r L/\PB w' g r R/\Keeps [g] w w':=by
 have H:=c3p h
 have HN:=c3p hn
 have HW:=c3p hw
 clear h hn hw
 go_enter Tryz.func98,Tryz.ntmps98
 go_wp2_with fail
 refine (b1u _ _ L R _ _ H.out HN.out HW.out hsz).mono ?_
 rintro e w1 ⟨rfl,r,hr,hb,hk⟩
 have HR:=c3p hr
 have HB4:=c3p hb
 have HK1:=c3p hk
 clear hr hb hk
 go_wp2_with fail
 go_end0
 exact⟨rfl,r,HR.out,HB4.out,HK1.out⟩
open Go.RowKit
def rdS(w:World)(p:Pk):List Int:=(List.range p.n).map fun j=>match p.a with
 | some a=>match w.cell? ⟨a.block,a.off+j,none⟩ with
  | some (.int _ x)=>x
  | _=>0
 | none=>0
def absW(w:World)(p:Pk):PP:=(p.w,rdS w p)
def sv(p:Pk):Value:=.slice p.a p.n p.c
def Sy(w:World)(base:Nat)(ok:Nat->Prop)(p:Pk):Prop:=0<p.n/\∃ xs,w.ownsRow base 3 1 (sv p) p.n (ints .i64 xs)/\∀ g,(sv p).ownBlock=some g->ok g
theorem a7A{w:World}{base:Nat}{p:Pk}{xs:List Int}(h:w.ownsRow base 3 1 (sv p) p.n (ints .i64 xs)):rdS w p=xs:=by
 obtain⟨A,c,hv,hr,-,-⟩:=a0y h
 unfold sv at hv
 injection hv with h1 h2 h3
 have hl:=hr.len
 refine List.ext_getElem (by simp[rdS,hl]) fun j h4 h5=>?_
 have hj:j<p.n:=by omega
 obtain⟨b,o,ha,hc⟩:=hr.at hj
 rw[<-h1] at ha
 simp only[rdS,List.getElem_map,List.getElem_range,ha,hc]
 exact a0o h5
theorem Sy.own{w:World}{base:Nat}{ok:Nat->Prop}{p:Pk}(h:Sy w base ok p):w.ownsRow base 3 1 (sv p) p.n (ints .i64 (rdS w p)):=by
 obtain⟨_,xs,h1,_⟩:=h
 rw[a7A h1];exact h1
theorem a2s{w:World}{base:Nat}{e:TypeId}{size n:Nat}{v:Value}{xs:List Value}(h:w.ownsRow base e size v n xs){g:Nat}(hg:v.ownBlock=some g):∃ cs,w.heap[g]? =some (.cells cs e (0,0)):=by
 rcases h.2 with⟨rfl,_⟩|⟨g',cap,cur,rfl,hb,hh,_⟩
 ·simp[Value.ownBlock] at hg
 ·have:g'=g:=by simpa [Value.ownBlock] using hg
  subst this
  exact⟨_,hh⟩
theorem Sy.keeps{w w':World}{base:Nat}{ok:Nat->Prop}{p:Pk}{S:List Nat}(h:Sy w base ok p)(hk:Keeps S w w')(hS:∀ g∈S,¬(ok g/\∃ cs,w.heap[g]? =some (.cells cs 3 (0,0)))):Sy w' base ok p/\rdS w' p=rdS w p:=by
 obtain⟨hp,xs,ho,hok⟩:=h
 have ho2:=a0b ho hk (fun g hg hm=>hS g hm ⟨hok g hg,a2s ho hg⟩)
 exact⟨⟨hp,xs,ho2,hok⟩,by rw[a7A ho2,a7A ho]⟩
theorem Sy.mono{w:World}{base base':Nat}{ok ok':Nat->Prop}{p:Pk}(h:Sy w base ok p)(hb:base'<=base)(ho:∀ g,base<=g->g<w.heap.size->ok g->ok' g):Sy w base' ok' p:=by
 obtain⟨hp,xs,h1,h2⟩:=h
 exact⟨hp,xs,h1.mono hb,fun g hg=>ho g (a0j h1 g hg) (a2T h1 g hg) (h2 g hg)⟩
theorem a9E{w:World}{base:Nat}{e:TypeId}{size n:Nat}{v:Value}{xs:List Value}(h:w.ownsRow base e size v n xs):∃ A c,v=.slice A n c:=by
 rcases h.2 with⟨rfl,rfl⟩|⟨g,cap,cur,rfl,_⟩
 ·exact⟨_,_,rfl⟩
 ·exact⟨_,_,rfl⟩
theorem b7z{w:World}{base:Nat}{e:TypeId}{size n:Nat}{v:Value}{xs:List Value}(h:w.ownsRow base e size v n xs):∃ A c,v=.slice A n c/\n<=c:=by
 rcases h.2 with⟨rfl,rfl⟩|⟨g,cap,cur,rfl,_,_,hc,_⟩
 ·exact⟨_,_,rfl,c3C _⟩
 ·exact⟨_,_,rfl,hc⟩
structure PR (w:World) (base:Nat) (ok:Nat->Prop) (b2:Nat) (v:Value) (L:List Pk) (X:List PP):Prop where
 own:w.ownsRow b2 154 2 v L.length (kcells L)
 sy:∀ p∈L,Sy w base ok p
 ab:L.map (absW w)=X
theorem PR.nil(w:World)(base:Nat)(ok:Nat->Prop)(b2:Nat):PR w base ok b2 (.slice none 0 0) [] []:=⟨World.ownsRow_nil _ _ _ _,by simp,rfl⟩
theorem PR.len{w:World}{base b2:Nat}{ok:Nat->Prop}{v:Value}{L:List Pk}{X:List PP}(h:PR w base ok b2 v L X):X.length=L.length:=by rw[<-h.ab,List.length_map]
theorem c1O{w w':World}{base:Nat}{ok:Nat->Prop}{L:List Pk}(h:∀ p∈L,Sy w' base ok p/\rdS w' p=rdS w p):L.map (absW w')=L.map (absW w):=
 List.map_congr_left fun p hp=>by unfold absW;rw[(h p hp).2]
theorem PR.keeps{w w':World}{base b2:Nat}{ok:Nat->Prop}{v:Value}{L:List Pk}{X:List PP}{S:List Nat}(h:PR w base ok b2 v L X)(hk:Keeps S w w')(hv:∀ g,v.ownBlock=some g->g∉S)(hS:∀ g∈S,¬(ok g/\∃ cs,w.heap[g]? =some (.cells cs 3 (0,0)))):PR w' base ok b2 v L X:=
 ⟨a0b h.own hk hv,fun p hp=>((h.sy p hp).keeps hk hS).1,by rw[c1O (fun p hp=>(h.sy p hp).keeps hk hS)];exact h.ab⟩
theorem PR.dr{w w':World}{base b2:Nat}{ok:Nat->Prop}{v:Value}{L:List Pk}{X:List PP}(h:PR w base ok b2 v L X)(hk:Keeps [] w w'):PR w' base ok b2 v L X:=h.keeps hk (by simp) (by simp)
theorem PR.mono{w:World}{base b2:Nat}{ok ok':Nat->Prop}{v:Value}{L:List Pk}{X:List PP}(h:PR w base ok b2 v L X)(ho:∀ g,base<=g->g<w.heap.size->ok g->ok' g):PR w base ok' b2 v L X:=
 ⟨h.own,fun p hp=>(h.sy p hp).mono (c3C _) ho,h.ab⟩
theorem c2N{w:World}{r L:List Pk}(h:SS r L):r.map (absW w)=sortP (L.map (absW w)):=by
 refine b4y Prod.fst ?_ ⟨h.2.1.map _,fun v=>?_⟩
 ·unfold Srt
  rw[List.pairwise_map]
  exact h.1
 ·have:=h.2.2 v
  unfold ofW at this
  rw[List.filter_map,List.filter_map]
  exact congrArg (List.map (absW w)) this
theorem c2B{w:World}{L:List Pk}(h:∀ x∈L.map (absW w),0<=x.1/\x.1<=100000000000000000):okW L:=a1S.2 fun p hp=>h (absW w p) (List.mem_map_of_mem hp)
theorem PR.sort{w:World}{base b2:Nat}{ok:Nat->Prop}{v:Value}{L:List Pk}{X:List PP}(h:PR w base ok b2 v L X)(hp:0<L.length)(hn:L.length<=1000000)(hw:∀ x∈X,0<=x.1/\x.1<=100000000000000000) :
  Calls Tryz.prog 98 #[v,theCmp] w fun e w'=>e=.returned (.tuple #[])/\∃ g r,v.ownBlock=some g/\b2<=g/\PR w' base ok b2 v r (sortP X)/\Keeps [g] w w'/\r.length=L.length/\∃ cs,w.heap[g]? =some (.cells cs 154 (0,0)):=by
 obtain⟨g,c,R,rfl,hl,hg,hb,hback⟩:=c2F h.own hp
 refine (b5K w g L R _ c hb hl.symm (c2B (w:=w) (by rw[h.ab];exact hw)) (by omega)).mono ?_
 rintro e w' ⟨rfl,r,hr,hb',hk⟩
 have hS:∀ x∈[g],¬(ok x/\∃ cs,w.heap[x]? =some (.cells cs 3 (0,0))):=by
  intro x hx
  rw[c3F.1 hx]
  rintro ⟨_,cs,hc⟩
  rw[show w.heap[g]? =some (.cells (kcells L++R).toArray 154 (0,0)) from hb] at hc
  injection hc with hc
  injection hc with _ h2
  exact absurd h2 (by decide)
 have hsy:∀ p∈r,Sy w' base ok p/\rdS w' p=rdS w p:=fun p hp'=>(h.sy p (hr.mem.1 hp')).keeps hk hS
 refine⟨rfl,g,r,rfl,hg,⟨?_,fun p hp'=>(hsy p hp').1,?_⟩,hk,hr.len,_,hb⟩
 ·have:=hback w' r hb' hr.len
  rw[hr.len];exact this
 ·rw[c1O hsy,c2N hr,h.ab]
def ob(v:Value):List Nat:=v.ownBlock.toList
theorem a7m{v:Value}{g:Nat}:g∈ob v↔v.ownBlock=some g:=by unfold ob;cases v.ownBlock<;>simp[eq_comm]
theorem a6U{w w':World}{v:Value}(h:w.grownBy w' v.ownBlock):Keeps (ob v) w w':=
 (Keeps.refl (ob v) w).grown h (fun k hk=>Or.inl (a7m.2 hk))
theorem Sy.grown{w w':World}{base b2 n:Nat}{ok:Nat->Prop}{p:Pk}{v:Value}{L:List Pk}(h:Sy w base ok p)(hv:w.ownsRow b2 154 2 v n (kcells L))(hg:w.grownBy w' v.ownBlock):Sy w' base ok p/\rdS w' p=rdS w p:=by
 refine h.keeps (a6U hg) fun g hgm=>?_
 rintro ⟨_,cs,hc⟩
 obtain⟨cs',hc'⟩:=a2s hv (a7m.1 hgm)
 rw[hc'] at hc
 injection hc with hc
 injection hc with _ h2
 exact absurd h2 (by decide)
theorem PR.cells{w:World}{base b2:Nat}{ok:Nat->Prop}{v:Value}{L:List Pk}{X:List PP}(h:PR w base ok b2 v L X)(hp:0<L.length) :
  ∃ g c,v=.slice (some ⟨g,0,none⟩) L.length c/\b2<=g/\g<w.heap.size/\v.ownBlock=some g/\∀ j,j<L.length->w.cell? ⟨g,j*2,none⟩=some (.int .i64 (kth L j).w)/\w.cell? ⟨g,j*2+1,none⟩=some (.slice (kth L j).a (kth L j).n (kth L j).c):=by
 obtain⟨g,c,rfl,hg,hb,hc⟩:=a7t h.own hp (by decide)
 refine⟨g,c,rfl,hb,hg,rfl,fun j hj=>?_⟩
 have:=a8u L [] j hj
 rw[c3x] at this
 exact⟨hc _ _ this.1,hc _ _ this.2⟩
theorem PR.ath{w:World}{base b2:Nat}{ok:Nat->Prop}{v:Value}{L:List Pk}{X:List PP}(h:PR w base ok b2 v L X){j:Nat}(hj:j<L.length):(X.getD j (0,[]))=absW w (kth L j):=by
 rw[<-h.ab,c3y,List.getElem?_map,c3B hj,a4N hj];rfl
theorem Sy.reads{w:World}{base:Nat}{ok:Nat->Prop}{p:Pk}(h:Sy w base ok p):RI .i64 w p.a p.n (rdS w p)/\∃ g,p.a=some ⟨g,0,none⟩/\base<=g/\g<w.heap.size/\ok g:=by
 have ho:=h.own
 obtain⟨g,c,hv,hg,hb,hc⟩:=a7t ho h.1 (by decide)
 obtain⟨A,c',hv',hr,-,-⟩:=a0y ho
 unfold sv at hv hv'
 injection hv with h1 h2 h3
 injection hv' with h4 h5 h6
 subst h4
 obtain⟨_,xs,ho2,hok⟩:=h
 exact⟨hr,g,h1,hb,hg,hok g (by unfold sv;rw[h1];rfl)⟩
theorem b2O{w:World}{base b2:Nat}{ok:Nat->Prop}{v:Value}{L:List Pk}{X:List PP}(h:PR w base ok b2 v L X):∀ g∈ob v,¬(ok g/\∃ cs,w.heap[g]? =some (.cells cs 3 (0,0))):=by
 rintro g hg ⟨_,cs,hc⟩
 obtain⟨cs',hc'⟩:=a2s h.own (a7m.1 hg)
 rw[hc'] at hc
 injection hc with hc
 injection hc with _ h2
 exact absurd h2 (by decide)
theorem PR.other{w w':World}{base b2 b3:Nat}{ok:Nat->Prop}{v v':Value}{L L':List Pk}{X X':List PP}(h:PR w base ok b2 v L X)(h':PR w base ok b3 v' L' X')(hk:Keeps (ob v') w w')(hne:∀ g,v.ownBlock=some g->g<b3):PR w' base ok b2 v L X:=
 h.keeps hk (fun g hg hm=>by have:=a0j h'.own g (a7m.1 hm);have:=hne g hg;omega) (b2O h')
theorem PR.snoc {w w2 w3:World} {base b2:Nat} {ok:Nat->Prop} {v v':Value} {L:List Pk} {X:List PP} {p:Pk} (h:PR w base ok b2 v L X) (hk:Keeps [] w w2) (hp:Sy w2 base ok p)
  (ho:w3.ownsRow b2 154 2 v' (L.length+1) (kcells (L++[p]))) (hg:w2.grownBy w3 v.ownBlock):PR w3 base ok b2 v' (L++[p]) (X++[absW w2 p]):=by
 have h2:=h.dr hk
 refine⟨by rw[c3o];exact ho,fun q hq=>?_,?_⟩
 ·rcases c3O.1 hq with hq|hq
  ·exact ((h2.sy q hq).grown h2.own hg).1
  ·rw[c3F.1 hq];exact (hp.grown h2.own hg).1
 ·rw[List.map_append,<-h2.ab,c1O (fun q hq=>(h2.sy q hq).grown h2.own hg)]
  congr 1
  show [absW w3 p]=[absW w2 p]
  unfold absW;rw[(hp.grown h2.own hg).2]
theorem a5E{w:World}{base g n:Nat}{xs:List Int}(h:Blk w g 3 (ints .i64 xs))(hl:xs.length=n)(hb:base<=g)(hn:n<=1000000000):w.ownsRow base 3 1 (.slice (some ⟨g,0,none⟩) n n) n (ints .i64 xs):=
 ⟨by simp[ints,hl],.inr ⟨g,n,_,rfl,hb,h,c3C _,by unfold maxLen;omega,by simp[ints,hl],by rw[List.toList_toArray,c3A (by simp[ints,hl])]⟩⟩
theorem c2O{w:World}{base b:Nat}{ok:Nat->Prop}{x k:Int}(hb:base<=b)(h:w.heap[b]? =some (.cells #[.int .i64 k] 3 (0,0)))(ho:ok b):Sy w base ok ⟨x,some ⟨b,0,none⟩,1,1⟩/\absW w ⟨x,some ⟨b,0,none⟩,1,1⟩=(x,[k]):=by
 have o:w.ownsRow base 3 1 (sv ⟨x,some ⟨b,0,none⟩,1,1⟩) 1 (ints .i64 [k]):=⟨rfl,.inr ⟨b,1,#[.int .i64 k],rfl,hb,h,c3C _,by unfold maxLen;omega,rfl,rfl⟩⟩
 exact⟨⟨Nat.one_pos,[k],o,fun g hg=>by have:b=g:=(by simpa [sv,Value.ownBlock] using hg);subst this;exact ho⟩,by unfold absW;rw[a7A o]⟩
open Go.RowKit
def a6A(w:World)(r:List Int×Int)(e:Ending)(w':World):Prop:=
 ∃ v,e=.returned (.tuple #[v,.int .i64 r.2])/\w'.ownsRow w.heap.size 3 1 v r.1.length (ints .i64 r.1)/\Below w.heap.size w w'
theorem a1I(w w':World)(r:List Int×Int)(e:Int)(hr:r=([],e))(h:Below w.heap.size w w'):a6A w r (.returned (.tuple #[.slice none 0 0,.int .i64 e])) w':=by
 subst hr
 exact⟨_,rfl,World.ownsRow_nil _ _ _ _,h⟩
theorem a5z{w w':World}{r:List Int×Int}{v:Value}{n:Nat}{ls:List Int}(hr:r=(ls,0))(hl:ls.length=n)(ho:w'.ownsRow w.heap.size 3 1 v n (ints .i64 ls))(h:Below w.heap.size w w'):a6A w r (.returned (.tuple #[v,.int .i64 0])) w':=by
 subst hr hl
 exact⟨_,rfl,ho,h⟩
theorem b7c(w:World)(A:Option Addr)(n c:Nat)(l:List Int)(most:Int)(hl:l.length=n)(hb:n=0∨288<n∨most<1∨15<most) :
  Calls Tryz.prog 68 #[.slice A n c,.int .i64 most] w (a6A w (limF l most)):=by
 have HR:Hid (limF l most=([],1)):=by show _=_;rw[limF,if_pos (by omega)]
 by_cases h0:n=0
 ·subst h0
  clear hb hl
  go_enter Tryz.func68,Tryz.ntmps68
  go_wp2_with fail
  go_ret2
  exact a1I _ _ _ _ HR.out (c3I _ _)
 ·have e0:((n:Int)==0)=false:=by simp;omega
  by_cases h1:288<n
  ·have e1:decide (288<n)=true:=by simpa using h1
   clear hb hl
   go_enter Tryz.func68,Tryz.ntmps68
   go_wp2_with fail
   go_ret2
   exact a1I _ _ _ _ HR.out (c3I _ _)
  ·have e1:decide (288<n)=false:=by simpa using h1
   by_cases h2:most<1
   ·have e2:decide (most<1)=true:=by simpa using h2
    clear hb hl
    go_enter Tryz.func68,Tryz.ntmps68
    go_wp2_with fail
    go_ret2
    exact a1I _ _ _ _ HR.out (c3I _ _)
   ·have e2:decide (most<1)=false:=by simpa using h2
    have e3:decide (15<most)=true:=by simp;omega
    clear hb hl
    go_enter Tryz.func68,Tryz.ntmps68
    go_wp2_with fail
    go_ret2
    exact a1I _ _ _ _ HR.out (c3I _ _)
theorem b6n(l:List Int)(k:Nat)(h:k<l.length):(l.take (k+1)).any a0C=((l.take k).any a0C||a0C (nth l k)):=by
 rw[a0N l k h,List.any_append];simp
theorem b2z(l:List Int)(k:Nat)(h:k<l.length):leavesF (l.take (k+1)) 0=leavesF (l.take k) 0++if 0<nth l k then [(nth l k,[(k:Int)])] else []:=by
 rw[a0N l k h,a2I]
 simp[c3w,Nat.min_eq_left (c3P h)]
theorem b3P(l:List Int)(k:Nat)(h:k<l.length)(hb:a0C (nth l k)=true):l.any a0C=true:=by
 rw[List.any_eq_true]
 rw[a0o h] at hb
 exact⟨_,c3D h,hb⟩
theorem b5r(w:World)(A:Option Addr)(n c:Nat)(l:List Int)(m:Nat)(hl:RI .i64 w A n l)(h0:0<n)(h1:n<=288)(h2:1<=m)(h3:m<=15) :
  Calls Tryz.prog 68 #[.slice A n c,.int .i64 m] w (a6A w (limF l m)):=by
 have hll:=hl.len
 have HL:=c3p hl
 have HLL:=c3p hll
 have HR:Hid (limF l m=if l.any a0C then ([],1) else if 2^m<(leavesF l 0).length then ([],30) else (limLens l m,0)):=by
  show _=_;rw[limF,if_neg (by omega)];simp
 clear hl hll
 have e0:((n:Int)==0)=false:=by simp;omega
 have e1:decide (288<n)=false:=by simp;omega
 have e2:decide ((m:Int)<1)=false:=by simp;omega
 have e3:decide ((15:Int)<m)=false:=by simp;omega
 go_enter Tryz.func68,Tryz.ntmps68
 go_wp2_with fail
 clear e0 e1 e2 e3
 go_loopw [6,36] (fun v i wr=>∃ (k:Nat) (L:List Pk),k<=n/\i=.int .i64 k/\L.length<=k/\Hid ((l.take k).any a0C=false)/\Hid (PR wr w.heap.size (fun _=>True) w.heap.size v L (leavesF (l.take k) 0))/\Hid (Below w.heap.size w wr)) (fun _ i _=>n-(intOf i).toNat)
 case atStart=>exact⟨0,[],by omega,rfl,by simp,c3p (by simp),c3p (PR.nil _ _ _ _),c3p (c3I _ _)⟩
 case round=>
  obtain⟨k,L,hk,rfl,hLk,HA,HP,HW⟩:=hrel
  by_cases hlt:k<n
  ·obtain⟨b,o,rfl,hc⟩:=HL.out.at hlt
   have hc:=(Keeps.of_below (S:=[]) HW.out).cell (by simp) hc
   have as1:=b6n l k (by have:=HLL.out;omega)
   have ls:=b2z l k (by have:=HLL.out;omega)
   rw[HA.out] at as1
   have AS:=c3p as1
   have LS:=c3p ls
   clear as1 ls
   by_cases hneg:nth l k<0
   ·have e1:decide (nth l k<0)=true:=by simpa using hneg
    have HR2:Hid (limF l m=([],1)):=by show _=_;rw[HR.out,if_pos (b3P l k (by have:=HLL.out;omega) (by simp[a0C];omega))]
    go_wp2_with fail
    go_ret2
    exact a1I _ _ _ _ HR2.out HW.out
   ·have e1:decide (nth l k<0)=false:=by simpa using hneg
    by_cases hbig:1000000000000<nth l k
    ·have e2:decide (1000000000000<nth l k)=true:=by simpa using hbig
     have HR2:Hid (limF l m=([],1)):=by show _=_;rw[HR.out,if_pos (b3P l k (by have:=HLL.out;omega) (by simp[a0C];omega))]
     go_wp2_with fail
     go_ret2
     exact a1I _ _ _ _ HR2.out HW.out
    ·have e2:decide (1000000000000<nth l k)=false:=by simpa using hbig
     have HB:Hid ((l.take (k+1)).any a0C=false):=by show _=_;rw[AS.out];simp[a0C];omega
     by_cases hz:0<nth l k
     ·have e3:decide (0<nth l k)=true:=by simpa using hz
      have hsz:=HW.out.size
      have HO:=c3p HP.out.own
      obtain⟨vA,vc,rfl⟩:=a9E HO.out
      go_wp2_with (at_builtin;refine b8L rfl (.tmp 49) (.tmp 54) rfl w.heap.size _ L.length L rfl ?c0 (wr.heap.size+1) ⟨nth l k,some ⟨wr.heap.size,0,none⟩,1,1⟩ ?c5 ?c1 ?c2 ?c3 ?c4 ?_)
      case c0=>exact a0b HO.out (((Keeps.refl [] wr).alloc _).alloc _) (by simp)
      case c3=>omega
      case c4=>omega
      intro v' w1 h1 hg
      have hk2:Keeps [] wr ((wr.alloc (.cells #[.int .i64 k] 3)).alloc (.cells #[.int .i64 (nth l k),.slice (some ⟨wr.heap.size,0,none⟩) 1 1] 154)):=((Keeps.refl [] wr).alloc _).alloc _
      obtain⟨hs1,hs2⟩:=c2O (w:=(wr.alloc (.cells #[.int .i64 k] 3)).alloc (.cells #[.int .i64 (nth l k),.slice (some ⟨wr.heap.size,0,none⟩) 1 1] 154)) (x:=nth l k) (k:=(k:Int)) (ok:=fun _=>True) hsz (Blk.alloc (a0d wr 3 [.int .i64 k]) _) trivial
      have hp2:=HP.out.snoc hk2 hs1 h1 hg
      rw[hs2] at hp2
      have HP2:Hid (PR w1 w.heap.size (fun _=>True) w.heap.size v' (L++[⟨nth l k,some ⟨wr.heap.size,0,none⟩,1,1⟩]) (leavesF (l.take (k+1)) 0)):=by
       show PR _ _ _ _ _ _ _;rw[LS.out,if_pos hz];exact hp2
      have HW2:=c3p (((HW.out.alloc hsz _).alloc (by simp;omega) _).grown hg (by simp;omega) (fun g hg=>a0j HO.out g hg))
      clear h1 hg hk2 hs1 hs2 hp2
      go_wp2_with fail
      go_roundw
      case rel=>exact⟨k+1,_,by omega,by go_num,by rw[c3o];simp;omega,HB,HP2,HW2⟩
      case measure=>simp[intOf];omega
     ·have e3:decide (0<nth l k)=false:=by simpa using hz
      go_wp2_with fail
      go_roundw
      case rel=>exact⟨k+1,L,by omega,by go_num,by omega,HB,by rw[LS.out,if_neg hz,c3x];exact HP,HW⟩
      case measure=>simp[intOf];omega
  ·obtain rfl:k=n:=by omega
   have htk:l.take k=l:=c3A (by have:=HLL.out;omega)
   rw[htk] at HA HP
   obtain⟨b1,b2,b3,b4,b5⟩:=a3A l HA.out 0
   have HR2:Hid (limF l m=if 2^m<(leavesF l 0).length then ([],30) else (limLens l m,0)):=by show _=_;rw[HR.out,if_neg (by rw[HA.out];simp)]
   have hlen:=HP.out.len
   obtain⟨P,hP⟩:∃ P:Nat,P=2^m:=⟨_,rfl⟩
   have hP2:(2:Int)^m=(P:Int):=by rw[hP];simp
   have hPb:P<=32768:=by rw[hP];exact Nat.pow_le_pow_right (by decide) h3
   have HPP:=c3p hP
   have HLEN:=c3p hlen
   have B1:=c3p b1
   have B2:=c3p b2
   have B3:=c3p b3
   have B5:=c3p b5
   clear hP hlen b1 b2 b3 b5 htk HR
   obtain⟨vA,vc,rfl⟩:=a9E HP.out.own
   by_cases hov:P<L.length
   ·have e1:decide (P<L.length)=true:=by simpa using hov
    have HR3:Hid (limF l m=([],30)):=by show _=_;rw[HR2.out,if_pos (by rw[HLEN.out,<-HPP.out];exact hov)]
    go_wp2_with fail
    go_ret2
    exact a1I _ _ _ _ HR3.out HW.out
   ·have e1:decide (P<L.length)=false:=by simpa using hov
    have HR3:Hid (limF l m=(limLens l m,0)):=by show _=_;rw[HR2.out,if_neg (by rw[HLEN.out,<-HPP.out];exact hov)]
    have hmk:=fun w=>a1h (P:=Tryz.prog) w 90 3 .i64 8 Tryz.underlying90 a1y (k:Int) k rfl (by omega) (by omega)
    clear HR2
    by_cases hl1:L.length=1
    ·have e2:((L.length:Int)==1)=true:=by simp;omega
     have e3:decide (L.length<2)=true:=by simp;omega
     obtain⟨g,c',hv,hg,hg2,hob,hcell⟩:=HP.out.cells (by omega)
     injection hv with hv1 hv2 hv3
     subst hv1
     obtain⟨p1,p2⟩:=hcell 0 (by omega)
     have hx:=HP.out.ath (j:=0) (by omega)
     have hsy:=HP.out.sy (kth L 0) (a3y (by omega))
     obtain⟨hri,gs,hpa,hgs,hgs2,-⟩:=hsy.reads
     have hpn:=hsy.1
     generalize kth L 0=p at *
     obtain⟨pw,pa,pn,pcap⟩:=p
     dsimp only at hpa hpn p1 p2 hri
     subst hpa
     have hs0:=hri.cell gs 0 rfl 0 hpn
     have hsl:leavesF l 0=[((pw,rdS wr ⟨pw,some ⟨gs,0,none⟩,pn,pcap⟩):PP)]:=by
      have hlen:=HLEN.out
      match hLL:leavesF l 0,hlen with
      | [x],_=>rw[hLL] at hx;rw[show x=_ from hx];rfl
      | [],h=>simp at h;omega
      | x::y::r,h=>simp at h;omega
     have hB3:=B3.out
     have hB5:=B5.out
     rw[hsl] at hB3 hB5
     have hrl:(rdS wr ⟨pw,some ⟨gs,0,none⟩,pn,pcap⟩).length=1:=by simpa [sumS] using hB3
     have hrd:rdS wr ⟨pw,some ⟨gs,0,none⟩,pn,pcap⟩=[nth (rdS wr ⟨pw,some ⟨gs,0,none⟩,pn,pcap⟩) 0]:=by
      match hm:rdS wr ⟨pw,some ⟨gs,0,none⟩,pn,pcap⟩,hrl with
      | [s],_=>rfl
     have hsr:=hB5 _ (c3F.2 rfl) (nth (rdS wr ⟨pw,some ⟨gs,0,none⟩,pn,pcap⟩) 0) (by rw[hrd];simp[nth])
     obtain⟨s,hs⟩:=c3J (show 0<=nth (rdS wr ⟨pw,some ⟨gs,0,none⟩,pn,pcap⟩) 0 by omega)
     rw[hs] at hrd hsr hs0
     have hsk:s<k:=by have:=HLL.out;omega
     have HRES:Hid (limLens l m=cntF k ([]++[(s:Int)])):=by
      show _=_
      unfold limLens
      rw[hsl,hrd,HLL.out]
      rfl
     have p2':=((Keeps.refl [] wr).alloc (.cells (ints .i64 (List.replicate k 0)).toArray 3)).cell (by simp) p2
     have hs0':=((Keeps.refl [] wr).alloc (.cells (ints .i64 (List.replicate k 0)).toArray 3)).cell (by simp) hs0
     have hbz:=a0d wr 3 (ints .i64 (List.replicate k 0))
     have c0:(wr.alloc (.cells (ints .i64 (List.replicate k 0)).toArray 3)).cell? ⟨wr.heap.size,s,none⟩=some (.int .i64 0):=by rw[hbz.cell,a0f];simp[hsk]
     have f0:=hbz.frozen s
     have HBS:=c3p (a0d wr 3 ((ints .i64 (List.replicate k 0)).set s (.int .i64 1)))
     clear hcell p1 p2 hx hsy hri hs0 hsl hB3 hB5 hrl hrd hsr hs hbz
     have HBW:=c3p (HW.out.alloc HW.out.size (.cells ((ints .i64 (List.replicate k 0)).set s (.int .i64 1)).toArray 3))
     have hwz:=HW.out.size
     go_wp2_with fail
     go_ret2
     refine a5z (v:=.slice (some ⟨wr.heap.size,0,none⟩) k k) HR3.out (by rw[HRES.out,a1o]) ?_ HBW.out
     have hz:cntF k ([]++[(s:Int)])=(List.replicate k 0).set s 1:=by
      rw[a2Q k [] s hsk,a3R]
      congr 1
      simp[nth,hsk]
     rw[HRES.out,hz]
     refine a5E ?_ (by simp) hwz (by omega)
     rw[<-show (ints .i64 (List.replicate k 0)).set s (.int .i64 1)=ints .i64 ((List.replicate k 0).set s 1) by simp[ints,List.map_set]]
     exact HBS.out
    ·have e2:((L.length:Int)==1)=false:=by simp;omega
     by_cases hl2:L.length<2
     ·have e3:decide (L.length<2)=true:=by simpa using hl2
      have hz:Hid (limLens l m=List.replicate k 0):=by
       show _=_
       have h0:leavesF l 0=[]:=c3r (by rw[HLEN.out];omega)
       unfold limLens
       rw[h0,HLL.out]
       exact a3R k
      have HBW:=c3p (HW.out.alloc HW.out.size (.cells (ints .i64 (List.replicate k 0)).toArray 3))
      have HBS:=c3p (a0d wr 3 (ints .i64 (List.replicate k 0)))
      have hwz:=HW.out.size
      go_wp2_with fail
      go_ret2
      refine a5z (v:=.slice (some ⟨wr.heap.size,0,none⟩) k k) HR3.out (by rw[hz.out,List.length_replicate]) ?_ HBW.out
      rw[hz.out]
      exact a5E HBS.out (by simp) hwz (by omega)
     ·have e3:decide (L.length<2)=false:=by simpa using hl2
      have hwz:=HW.out.size
      have HP1:=c3p ((HP.out.mono (ok':=fun g=>g≠wr.heap.size) (fun g _ hg _=>Nat.ne_of_lt hg)).dr ((Keeps.refl [] wr).alloc (.cells (ints .i64 (List.replicate k 0)).toArray 3)))
      have HBZ:=c3p (a0d wr 3 (ints .i64 (List.replicate k 0)))
      have HBW:=c3p (HW.out.alloc HW.out.size (.cells (ints .i64 (List.replicate k 0)).toArray 3))
      have hvlt:=c3p (fun g (h:(Value.slice vA L.length vc).ownBlock=some g)=>a2T HP.out.own g h)
      have B2':Hid (sumW (leavesF l 0)<=288000000000000):=by have:=B2.out;have:=HLL.out;show _<=_;omega
      have B3':Hid (sumS (leavesF l 0)<=288):=by have:=B3.out;have:=HLL.out;show _<=_;omega
      have HKP:Hid (L.length<=2^m):=by show _<=_;rw[<-HPP.out];omega
      go_wp2_with fail
      refine (HP1.out.sort (by omega) (by omega) (c1w B1.out B2'.out)).mono ?_
      rintro _ w2 ⟨rfl,g,r,hvg,hbg,hpr,hkp,hrl,-⟩
      have hgk:g<wr.heap.size:=hvlt.out g hvg
      have HP2:=c3p hpr
      have HBZ2:=c3p (HBZ.out.keeps hkp (by simp;omega))
      have HBW2:Hid (Below w.heap.size w w2):=c3p (((Keeps.of_below HBW.out).then hkp (fun x hx=>Or.inr (by simp at hx;omega)):Keeps [] w w2).below)
      have hz2:wr.heap.size<w2.heap.size:=HBZ2.out.lt
      have HGK:=c3p hgk
      have HVG:=c3p hvg
      have HRL:=c3p hrl
      clear hpr hkp HP HP1 HBZ HBW hrl hvg hbg hvlt HW HA
      generalize hgo:wr.heap.size=go at *
      obtain⟨wo,rfl⟩:∃ wo:World,wo=w2:=⟨_,rfl⟩
      go_wp2_with fail
      go_loopw [11,84] (fun v i wx=>∃ (t:Nat) (Ll:List Pk),t<=m/\i=.int .i64 t/\Hid (PR wx w.heap.size (fun x=>x≠go) w.heap.size v Ll (levelF (sortP (leavesF l 0)) t))/\Hid (PR wx w.heap.size (fun x=>x≠go) w.heap.size (.slice vA L.length vc) r (sortP (leavesF l 0)))/\Hid (Blk wx go 3 (ints .i64 (List.replicate k 0)))/\Hid (Below w.heap.size w wx)/\Hid (wo.heap.size<=wx.heap.size)) (fun _ i _=>m-(intOf i).toNat)
      case atStart=>exact⟨0,[],by omega,rfl,c3p (PR.nil _ _ _ _),HP2,HBZ2,HBW2,c3p (c3C _)⟩
      case round=>
       obtain⟨t,Ll,ht,rfl,HPl,HPv,HBZ,HBW,HWO⟩:=hrel
       obtain⟨wu,rfl⟩:∃ wu:World,wu=wr:=⟨_,rfl⟩
       obtain⟨lA,lc,rfl,hlc⟩:=b7z HPl.out.own
       have hlvl:=HPl.out.len
       by_cases hlt:t<m
       ·have hlb:Ll.length<=576:=by
         have:=(a9w (sortP (leavesF l 0)) (b1q B1.out) t).2.2.2
         rw[a1H,HLEN.out] at this
         omega
        have HLVL:=c3p hlvl
        clear hlvl
        go_wp2_with fail
        refine (b2i _ _ _ _ r (by have:=HPv.out.own;rwa [HRL.out] at this) (by omega) (by omega)).mono ?_
        rintro _ w3 ⟨v3,rfl,ho3,hb3⟩
        have K3:=c3p (Keeps.of_below (S:=[]) hb3)
        have hz3:=hb3.size
        have HPl3:=c3p (HPl.out.dr K3.out)
        have HPv3:=c3p (HPv.out.dr K3.out)
        have HBZ3:=c3p (HBZ.out.keeps K3.out (by simp))
        have HBW3:=c3p (HBW.out.trans (hb3.mono HBW.out.size))
        have HPn:Hid (PR w3 w.heap.size (fun x=>x≠go) wu.heap.size v3 r (sortP (leavesF l 0)++(pairsF (levelF (sortP (leavesF l 0)) t)).take 0)):=by
         rw[c3E,c3x]
         exact⟨by rw[HRL.out];exact ho3,HPv3.out.sy,HPv3.out.ab⟩
        have HLO:=c3p (fun x (h:(Value.slice lA Ll.length lc).ownBlock=some x)=>a2T HPl.out.own x h)
        have HLV:=c3p (fun x (h:(Value.slice vA L.length vc).ownBlock=some x)=>a2T HPv.out.own x h)
        have HGO:=c3p HBZ.out.lt
        have hbu:=HBW.out.size
        have HWQ:Hid (wo.heap.size<=w3.heap.size):=c3p (Nat.le_trans HWO.out hz3)
        clear ho3 hb3 HPl HPv HBZ HBW
        obtain⟨wq,rfl⟩:∃ wq:World,wq=w3:=⟨_,rfl⟩
        go_wp2_with fail
        go_loopw [12,13] (fun v i wx=>∃ (I j:Nat) (Lc:List Pk),i=.int .i64 I/\I<=600/\Lc.length<=1000/\Hid (I=2*j)/\Hid (PR wx w.heap.size (fun x=>x≠go) wu.heap.size v Lc (sortP (leavesF l 0)++(pairsF (levelF (sortP (leavesF l 0)) t)).take j))/\Hid (PR wx w.heap.size (fun x=>x≠go) w.heap.size (.slice lA Ll.length lc) Ll (levelF (sortP (leavesF l 0)) t))/\Hid (PR wx w.heap.size (fun x=>x≠go) w.heap.size (.slice vA L.length vc) r (sortP (leavesF l 0)))/\Hid (Blk wx go 3 (ints .i64 (List.replicate k 0)))/\Hid (Below w.heap.size w wx)/\Hid (wq.heap.size<=wx.heap.size)) (fun _ i _=>(1000-intOf i).toNat)
        case atStart=>exact⟨0,0,r,rfl,by omega,by rw[HRL.out];omega,c3p rfl,HPn,HPl3,HPv3,HBZ3,HBW3,c3p (c3C _)⟩
        case round=>
         clear HPn HPl3 HPv3 HBZ3 HBW3
         obtain⟨I,j,Lc,rfl,hI,hLc,HI,HPc,HPl,HPv,HBZ,HBW,HWX⟩:=hrel
         obtain⟨cA,cc,rfl⟩:=a9E HPc.out.own
         by_cases hlt2:I+1<Ll.length
         ·have e5:decide ((I:Int)+1<(Ll.length:Int))=true:=by simp;omega
          obtain⟨gl,c',hv,hgl,hgl2,hob,hcell⟩:=HPl.out.cells (by omega)
          injection hv with hv1 hv2 hv3
          subst hv1
          subst hv3
          obtain⟨p1,p2⟩:=hcell I (by omega)
          obtain⟨q1,q2⟩:=hcell (I+1) hlt2
          have hxp:=HPl.out.ath (j:=I) (by omega)
          have hxq:=HPl.out.ath (j:=I+1) hlt2
          have hsp:=HPl.out.sy (kth Ll I) (a3y (by omega))
          have hsq:=HPl.out.sy (kth Ll (I+1)) (a3y hlt2)
          have hxl:=HPl.out.len
          have hpn:=hsp.1
          have okp:=a4O B1.out B2'.out B3'.out (t:=t) (by omega) (absW wr (kth Ll I)) (by rw[<-hxp,c3y,c3B (by omega)];exact c3D _)
          have okq:=a4O B1.out B2'.out B3'.out (t:=t) (by omega) (absW wr (kth Ll (I+1))) (by rw[<-hxq,c3y,c3B (by omega)];exact c3D _)
          have HTK:Hid ((pairsF (levelF (sortP (leavesF l 0)) t)).take (j+1)=(pairsF (levelF (sortP (leavesF l 0)) t)).take j++[((absW wr (kth Ll I)).1+(absW wr (kth Ll (I+1))).1,(absW wr (kth Ll I)).2++(absW wr (kth Ll (I+1))).2)]):=by
           have:=b2Q (levelF (sortP (leavesF l 0)) t) j (by have:=HI.out;omega)
           unfold pth2 at this
           rw[<-HI.out,hxp,hxq] at this
           exact this
          generalize kth Ll I=p at *
          generalize kth Ll (I+1)=q at *
          obtain⟨pw,pa,pn,pcap⟩:=p
          obtain⟨qw,qa,qn,qcap⟩:=q
          obtain⟨hrp,gp,hpa,hgp,hgp2,-⟩:=hsp.reads
          obtain⟨hrq,gq,hqa,hgq,hgq2,-⟩:=hsq.reads
          dsimp only at hpa hqa p1 p2 q1 q2 hrp hrq hpn
          subst hpa
          subst hqa
          have lp:=hrp.len
          have lq:=hrq.len
          have okp1:0<pw:=okp.1
          have okp2:pw<=100000000000000000:=okp.2.1
          have okq1:0<qw:=okq.1
          have okq2:qw<=100000000000000000:=okq.2.1
          have okp3:pn<=4320:=by rw[<-lp];exact okp.2.2
          have okq3:qn<=4320:=by rw[<-lq];exact okq.2.2
          have e6:IntKind.i64.wrap (pw+qw)=pw+qw:=c3t _ (by omega)
          have e7:IntKind.i64.wrap ((I:Int)+1)=(I:Int)+1:=c3t _ (by omega)
          have e8:((I:Int)+1).toNat=I+1:=by omega
          have e9:(0:Int)<=(I:Int)+1:=by omega
          have e10:(I:Int)+1<(Ll.length:Int):=by omega
          have e11:(I:Int)<(Ll.length:Int):=by omega
          have HRP:=c3p hrp
          have HRQ:=c3p hrq
          have hwq:=HWX.out
          have hbz:=HBW.out.size
          have HGZ:=c3p HBZ.out.lt
          have NOB:Hid (gl∉ob (.slice cA Lc.length cc)):=fun hm=>by have q1:=a0j HPc.out.own gl (a7m.1 hm);have q2:=HLO.out gl rfl;omega
          clear okp okq hrp hrq lp lq hsp hsq hxp hxq hcell hxl
          go_wp2_with fail
          go_region_held3 (fun w'=>w'.cell? ⟨gl,I*2,none⟩=some (.int .i64 pw)/\w'.cell? ⟨gl,I*2+1,none⟩=some (.slice (some ⟨gp,0,none⟩) pn pcap)/\w'.cell? ⟨gl,(I+1)*2,none⟩=some (.int .i64 qw)/\w'.cell? ⟨gl,(I+1)*2+1,none⟩=some (.slice (some ⟨gq,0,none⟩) qn qcap))
           (first|go_keep|(exact⟨by assumption,by assumption,by assumption,by assumption⟩))
           (first
            | (go_at_call 60;refine (a6L wr _ wr.heap.size (some ⟨gp,0,none⟩) (some ⟨gq,0,none⟩) pn qn pcap qcap _ _ (by repeat (first|exact Keeps.refl _ _|apply Keeps.drewN|apply Keeps.drew|apply Keeps.alloc)) (by simp) (by simp) HRP.out HRQ.out nofun nofun (fun ad h=>⟨gp,0,(c3G h).symm⟩) (fun ad h=>⟨gq,0,(c3G h).symm⟩) (by omega) (by omega)).mono ?_;rintro _ w1 ⟨A5,c5,rfl,ho5,hk5⟩;have hz5:=hk5.size;have r1:=hk5.cell (by simp) p1;have r2:=hk5.cell (by simp) p2;have r3:=hk5.cell (by simp) q1;have r4:=hk5.cell (by simp) q2)
            | (refine b8b rfl (.tmp 95) (.tmp 122) rfl wu.heap.size _ Lc.length Lc rfl (a0b HPc.out.own (hk5.alloc _) (by simp)) w1.heap.size ⟨pw+qw,A5,pn+qn,c5⟩ rfl (by simp) (by simp) (by omega) (by simp;omega) ?_;intro g6 c6 w6 ho6 hg6;have hk6:Keeps (ob (.slice cA Lc.length cc)) wr w6:=((hk5.alloc _).mono (by simp)).trans (a6U hg6);have t1:=hk6.cell NOB.out p1;have t2:=hk6.cell NOB.out p2;have t3:=hk6.cell NOB.out q1;have t4:=hk6.cell NOB.out q2))
          have hK7:Keeps [] wr (w1.alloc (.cells #[.int .i64 (pw+qw),.slice A5 (pn+qn) c5] 154)):=hk5.alloc _
          have hsn:Sy w1 w.heap.size (fun x=>x≠go) ⟨pw+qw,A5,pn+qn,c5⟩:=
           ⟨by show 0<pn+qn;omega,_,ho5.mono hbz,fun x hx=>by have q1:=a0j ho5 x hx;have q2:=HGZ.out;show x≠go;omega⟩
          have hrd:=a7A (p:=⟨pw+qw,A5,pn+qn,c5⟩) ho5
          have hsn2:=hsn.keeps ((Keeps.refl [] w1).alloc (.cells #[.int .i64 (pw+qw),.slice A5 (pn+qn) c5] 154)) (by simp)
          have hsnoc:=HPc.out.snoc hK7 hsn2.1 ho6 hg6
          have hab:absW (w1.alloc (.cells #[.int .i64 (pw+qw),.slice A5 (pn+qn) c5] 154)) ⟨pw+qw,A5,pn+qn,c5⟩=((absW wr ⟨pw,some ⟨gp,0,none⟩,pn,pcap⟩).1+(absW wr ⟨qw,some ⟨gq,0,none⟩,qn,qcap⟩).1,(absW wr ⟨pw,some ⟨gp,0,none⟩,pn,pcap⟩).2++(absW wr ⟨qw,some ⟨gq,0,none⟩,qn,qcap⟩).2):=by
           unfold absW;rw[hsn2.2,hrd]
          rw[hab,c3q,<-HTK.out] at hsnoc
          have HPc6:=c3p hsnoc
          have HPl6:=c3p (HPl.out.other HPc.out hk6 HLO.out)
          have HPv6:=c3p (HPv.out.other HPc.out hk6 HLV.out)
          have HBZ6:=c3p (HBZ.out.keeps hk6 (fun hm=>by have q1:=a0j HPc.out.own go (a7m.1 hm);have q2:=HGO.out;omega))
          have HBW6:Hid (Below w.heap.size w w6):=c3p (((Keeps.of_below HBW.out).then hk6 (fun x hm=>Or.inr (by have q1:=a0j HPc.out.own x (a7m.1 hm);omega)):Keeps [] w w6).below)
          have HWX6:Hid (wq.heap.size<=w6.heap.size):=c3p (Nat.le_trans HWX.out hk6.size)
          clear hK7 hsn hrd hsn2 hsnoc hab hk6 hg6 ho6 t1 t2 t3 t4 HPc HPl HPv HBZ HBW HWX
          go_wp2_with fail
          go_roundw
          case rel=>exact⟨I+2,j+1,Lc++[⟨pw+qw,A5,pn+qn,c5⟩],by go_num,by omega,by have hq:=HPc6.out.len;rw[c3o,a1H,HLEN.out,c3w] at hq;have:=HI.out;omega,c3p (by have:=HI.out;omega),HPc6,HPl6,HPv6,HBZ6,HBW6,HWX6⟩
          case measure=>simp[intOf];omega
         ·have e5:decide ((I:Int)+1<(Ll.length:Int))=false:=by simp;omega
          have HDN:Hid (sortP (leavesF l 0)++(pairsF (levelF (sortP (leavesF l 0)) t)).take j=sortP (leavesF l 0)++pairsF (levelF (sortP (leavesF l 0)) t)):=by
           show _=_;rw[b2P _ j (by rw[HLVL.out];have:=HI.out;omega)]
          have HPc2:Hid (PR wr w.heap.size (fun x=>x≠go) wu.heap.size (.slice cA Lc.length cc) Lc (sortP (leavesF l 0)++pairsF (levelF (sortP (leavesF l 0)) t))):=by have:=HPc.out;rwa [HDN.out] at this
          have hlc0:0<Lc.length:=by have hq:=HPc2.out.len;rw[c3o,a1H,HLEN.out] at hq;omega
          have hwq:=HWX.out
          go_wp2_with fail
          refine (HPc2.out.sort hlc0 (by omega) (a9x B1.out B2'.out B3'.out (by omega))).mono ?_
          rintro _ w7 ⟨rfl,g7,r7,hg7,hb7,hpr7,hk7,hl7,-⟩
          have hobv:ob (Value.slice cA Lc.length cc)=[g7]:=by unfold ob;rw[hg7];rfl
          have hk8:Keeps (ob (Value.slice cA Lc.length cc)) wr w7:=by rw[hobv];exact hk7
          have HPv7:=c3p (HPv.out.other HPc2.out hk8 HLV.out)
          have HBZ7:=c3p (HBZ.out.keeps hk7 (by have:=HGO.out;simp;omega))
          have HBW7:Hid (Below w.heap.size w w7):=c3p (((Keeps.of_below HBW.out).then hk7 (fun x hm=>Or.inr (by simp at hm;omega)):Keeps [] w w7).below)
          have HWO7:Hid (wo.heap.size<=w7.heap.size):=c3p (Nat.le_trans HWQ.out (Nat.le_trans hwq hk7.size))
          have HPl7:Hid (PR w7 w.heap.size (fun x=>x≠go) w.heap.size (.slice cA Lc.length cc) r7 (levelF (sortP (leavesF l 0)) (t+1))):=c3p ⟨hpr7.own.mono hbu,hpr7.sy,hpr7.ab⟩
          clear hpr7 hk7 hk8 hobv hl7 hg7 hb7 HPc HPl HPv HBZ HBW
          go_wp2_with fail
          refine⟨⟨t+1,r7,by omega,by go_num,HPl7,HPv7,HBZ7,HBW7,HWO7⟩,by simp[intOf];omega⟩
       ·obtain rfl:t=m:=by omega
        have hlen2:=b0W (leavesF l 0) t (by rw[HLEN.out];omega) (by rw[HLEN.out];exact HKP.out)
        rw[HLEN.out,hlvl] at hlen2
        obtain⟨Q,hQ⟩:∃ Q:Nat,Q=2*L.length-2:=⟨_,rfl⟩
        have s1:2*(L.length:Int)-2=(Q:Int):=by omega
        have s2:Q<=lc:=by omega
        have s3:Q<=Ll.length:=by omega
        have s4:0<Q:=by omega
        have HQ:=c3p hQ
        have HINR:Hid (inR k (levelF (sortP (leavesF l 0)) t)):=by
         refine b0V _ (fun p hp s hs=>?_) t
         have:=B5.out p ((a0M _).mem_iff.1 hp) s hs
         have h5:=HLL.out
         omega
        have HLVL:=c3p hlvl
        have HBZ0:Hid (Blk wu go 3 (ints .i64 (cntF k (((levelF (sortP (leavesF l 0)) t).take 0).flatMap Prod.snd)))):=by
         rw[c3E,List.flatMap_nil,a3R];exact HBZ
        clear hQ hlen2 hlvl HBZ
        go_wp2_with fail
        go_loopw [136] (fun i wx=>∃ q:Nat,q<=Q/\i=.int .i64 q/\Hid (PR wx w.heap.size (fun x=>x≠go) w.heap.size (.slice lA Ll.length lc) Ll (levelF (sortP (leavesF l 0)) t))/\Hid (Blk wx go 3 (ints .i64 (cntF k (((levelF (sortP (leavesF l 0)) t).take q).flatMap Prod.snd))))/\Hid (Below w.heap.size w wx)) (fun i _=>Q-(intOf i).toNat)
        case atStart=>exact⟨0,by omega,rfl,HPl,HBZ0,HBW⟩
        case round=>
         clear HPl HBZ0 HBW
         obtain⟨q,hq,rfl,HPl,HBZ,HBW⟩:=hrel
         by_cases hlt3:q<Q
         ·obtain⟨gl,c',hv,hgl,hgl2,hob,hcell⟩:=HPl.out.cells (by omega)
          injection hv with hv1 hv2 hv3
          subst hv1
          subst hv3
          obtain⟨p1,p2⟩:=hcell q (by omega)
          have hxp:=HPl.out.ath (j:=q) (by omega)
          have hsp:=HPl.out.sy (kth Ll q) (a3y (by omega))
          have hpn:=hsp.1
          have hxl:=HPl.out.len
          have hmem:absW wr (kth Ll q)∈levelF (sortP (leavesF l 0)) t:=by rw[<-hxp,c3y,c3B (by omega)];exact c3D _
          have HTK:Hid (((levelF (sortP (leavesF l 0)) t).take (q+1)).flatMap Prod.snd=((levelF (sortP (leavesF l 0)) t).take q).flatMap Prod.snd++(absW wr (kth Ll q)).2):=by
           show _=_
           rw[List.take_succ_eq_append_getElem (by omega),List.flatMap_append,<-hxp,c3y,c3B (by omega)]
           simp
          have hin:=HINR.out _ hmem
          have okp:=(a4O B1.out B2'.out B3'.out (t:=t) (by omega) _ hmem).2.2
          generalize kth Ll q=p at *
          obtain⟨pw,pa,pn,pcap⟩:=p
          obtain⟨hrp,gp,hpa,hgp,hgp2,hgo2⟩:=hsp.reads
          dsimp only at hpa p1 p2 hrp hpn hgo2
          subst hpa
          have HSY:Hid (∃ xs,xs=rdS wr ⟨pw,some ⟨gp,0,none⟩,pn,pcap⟩):=⟨_,rfl⟩
          obtain⟨xs,hxs⟩:=HSY.out
          have hxs2:(absW wr ⟨pw,some ⟨gp,0,none⟩,pn,pcap⟩).2=xs:=hxs.symm
          rw[<-hxs] at hrp
          rw[hxs2] at hin okp
          have HTK2:Hid (((levelF (sortP (leavesF l 0)) t).take (q+1)).flatMap Prod.snd=((levelF (sortP (leavesF l 0)) t).take q).flatMap Prod.snd++xs):=by show _=_;rw[HTK.out,hxs2]
          have HRP:=c3p hrp
          have HIN:=c3p hin
          have hpn2:pn<=4320:=by rw[<-hrp.len];exact okp
          have HPA:=c3p (HPl.out.dr ((Keeps.refl [] wr).alloc (.cells #[.int .i64 pw,.slice (some ⟨gp,0,none⟩) pn pcap] 154)))
          have HRPA:=c3p (hrp.keeps ((Keeps.refl [] wr).alloc (.cells #[.int .i64 pw,.slice (some ⟨gp,0,none⟩) pn pcap] 154)) (a0a _))
          have HBZA:Hid (Blk (wr.alloc (.cells #[.int .i64 pw,.slice (some ⟨gp,0,none⟩) pn pcap] 154)) go 3 (ints .i64 (cntF k (((levelF (sortP (leavesF l 0)) t).take q).flatMap Prod.snd++xs.take 0)))):=by
           rw[c3E,c3x];exact HBZ.out.alloc _
          have HOKL:Hid (¬(Value.slice (some ⟨gl,0,none⟩) Ll.length lc).ownBlock=some go):=fun h=>by
           obtain⟨cs,hcs⟩:=a2s HPl.out.own h
           rw[show wr.heap[go]? =some (.cells _ 3 (0,0)) from HBZ.out] at hcs
           injection hcs with hcs
           injection hcs with _ h2
           exact absurd h2 (by decide)
          have HBWA:=c3p (HBW.out.alloc HBW.out.size (.cells #[.int .i64 pw,.slice (some ⟨gp,0,none⟩) pn pcap] 154))
          clear hcell hxp hsp hxl hmem hin okp hxs2 HTK hrp HSY hxs HPl HBZ HBW
          go_wp2_with fail
          go_loopw [143] (fun i wx=>∃ j:Nat,j<=pn/\i=.int .i64 j/\Hid (PR wx w.heap.size (fun x=>x≠go) w.heap.size (.slice (some ⟨gl,0,none⟩) Ll.length lc) Ll (levelF (sortP (leavesF l 0)) t))/\Hid (RI .i64 wx (some ⟨gp,0,none⟩) pn xs)/\Hid (Blk wx go 3 (ints .i64 (cntF k (((levelF (sortP (leavesF l 0)) t).take q).flatMap Prod.snd++xs.take j))))/\Hid (Below w.heap.size w wx)) (fun i _=>pn-(intOf i).toNat)
          case atStart=>exact⟨0,by omega,rfl,HPA,HRPA,HBZA,HBWA⟩
          case round=>
           clear HPA HRPA HBZA HBWA
           obtain⟨j,hj,rfl,HPl,HRP2,HBZ,HBW⟩:=hrel
           by_cases hlt4:j<pn
           ·have hc:=HRP2.out.cell gp 0 rfl j hlt4
            rw[c3L] at hc
            have hs:=HIN.out (nth xs j) (by have:=HRP.out.len;rw[a0o (by omega)];exact c3D _)
            have HT1:Hid (xs.take (j+1)=xs.take j++[nth xs j]):=a0N xs j (by have:=HRP.out.len;omega)
            obtain⟨s,hs0⟩:=c3J hs.1
            rw[hs0] at hc
            have hsk:s<k:=by have:=hs.2;rw[hs0] at this;omega
            have HT2:Hid (xs.take (j+1)=xs.take j++[(s:Int)]):=by have:=HT1.out;rwa [hs0] at this
            clear hs hs0 HT1
            have hbd:(((levelF (sortP (leavesF l 0)) t).take q).flatMap Prod.snd++xs.take j).length<=10000000:=by
             have h1:=b9f (X:=(levelF (sortP (leavesF l 0)) t).take q) (fun x hx=>(a4O B1.out B2'.out B3'.out (t:=t) (by omega) x (c3N hx)).2.2)
             rw[c3w] at h1
             rw[c3o,c3w]
             have:=HQ.out
             omega
            have HTJ:Hid (((levelF (sortP (leavesF l 0)) t).take q).flatMap Prod.snd++xs.take (j+1)=(((levelF (sortP (leavesF l 0)) t).take q).flatMap Prod.snd++xs.take j)++[(s:Int)]):=by show _=_;rw[HT2.out,c3q]
            generalize ((levelF (sortP (leavesF l 0)) t).take q).flatMap Prod.snd++xs.take j=S0 at *
            obtain⟨x0,x1⟩:=a5T k S0 s hsk
            have HC2:=c3p (a2Q k S0 s hsk)
            have hc0:wr.cell? ⟨go,s,none⟩=some (.int .i64 (nth (cntF k S0) s)):=by
             rw[HBZ.out.cell,a0f]
             have:=a1o k S0
             simp[nth,List.getD,show s<(cntF k S0).length by omega]
            have hf0:=HBZ.out.frozen s
            generalize nth (cntF k S0) s=x at *
            have HKG:Hid (Keeps [go] wr (wr.setCell ⟨go,s,none⟩ (.int .i64 (x+1)))):=c3p ((Keeps.refl _ _).setCell (Or.inl (by simp)) _)
            have HPlK:=c3p (HPl.out.keeps HKG.out (fun g hg hm=>by rw[c3F.1 hm] at hg;exact HOKL.out hg) (fun g hg h=>by rw[c3F.1 hg] at h;exact h.1 rfl))
            have HRPK:=c3p (HRP2.out.keeps HKG.out (fun ad h=>by obtain rfl:=c3G h;simpa using hgo2))
            have HBZK:=c3p (HBZ.out.set s (.int .i64 (x+1)))
            have HBWK:=c3p (HBW.out.setCell (p:=⟨go,s,none⟩) hwz (.int .i64 (x+1)))
            have x2:x<=10000000:=by omega
            clear hbd HPl HRP2 HBZ HBW x1
            go_wp2_with fail
            refine⟨⟨j+1,by omega,by go_num,HPlK,HRPK,c3p ?_,HBWK⟩,by simp[intOf];omega⟩
            rw[HTJ.out,HC2.out]
            have:=HBZK.out
            rw[show (ints .i64 (cntF k S0)).set s (.int .i64 (x+1))=ints .i64 ((cntF k S0).set s (x+1)) by simp[ints,List.map_set]] at this
            exact this
           ·obtain rfl:j=pn:=by omega
            have hxt:xs.take j=xs:=c3A (by have:=HRP.out.len;omega)
            have HBZ2:Hid (Blk wr go 3 (ints .i64 (cntF k (((levelF (sortP (leavesF l 0)) t).take (q+1)).flatMap Prod.snd)))):=by
             have:=HBZ.out;rw[hxt,<-HTK2.out] at this;exact this
            clear hxt HBZ
            go_wp2_with fail
            refine⟨⟨q+1,by omega,by go_num,HPl,HBZ2,HBW⟩,by simp[intOf];omega⟩
         ·obtain rfl:q=Q:=by omega
          have HRES:Hid (limLens l t=cntF k (((levelF (sortP (leavesF l 0)) t).take q).flatMap Prod.snd)):=by
           show _=_
           unfold limLens
           rw[if_neg (by rw[HLEN.out];omega),HLL.out,HLEN.out,HQ.out]
          go_wp2_with fail
          go_ret2
          refine a5z (v:=.slice (some ⟨go,0,none⟩) k k) HR3.out (by rw[HRES.out,a1o]) ?_ HBW.out
          rw[HRES.out]
          exact a5E HBZ.out (a1o _ _) hwz (by omega)
theorem a4k(w:World)(A:Option Addr)(n c:Nat)(l:List Int)(most:Int)(hl:RI .i64 w A n l) :
  Calls Tryz.prog 68 #[.slice A n c,.int .i64 most] w (a6A w (limF l most)):=by
 by_cases h:n=0∨288<n∨most<1∨15<most
 ·exact b7c w A n c l most hl.len h
 ·obtain⟨m,rfl⟩:=c3J (show 0<=most by omega)
  exact b5r w A n c l m hl (by omega) (by omega) (by omega) (by omega)
open Go.RowKit
theorem c3c:Tryz.prog.underlying 164=some (.array (Tryz.prog.arrayLen 164) (Tryz.prog.elem 164)):=by kernel_rfl
theorem c2x:Tryz.prog.arrayLen 164=19:=by kernel_rfl
theorem c2r:Tryz.prog.elem 164=3:=by kernel_rfl
theorem b1p(w:World)(b mn:Nat)(h:mn<=19):(Instr.sliceAt 164 (.pointer (some ⟨b,0,none⟩)) none (some (.int .i64 mn)) none).run Tryz.prog w=.ok (.slice (some ⟨b,0,none⟩) mn 19) w:=by
 rw[run_sliceAt_array_h w 164 ⟨b,0,none⟩ c3c .i64 (mn:Int) (by omega) (by rw[c2x];omega),c2r,c2x]
 obtain⟨i0,hi,hz0,hz1,hz2⟩:=info_parts a1y
 simp[sizeOf,typeInfo,hi,hz1,slicedAt,go_sem]
open Go.RowKit
theorem RP.keeps{S:List Nat}{w w':World}{A:Option Addr}{n:Nat}{xs:List (Int×Int)}(h:RP w A n xs)(hk:Keeps S w w')(ho:Off S A):RP w' A n xs:=
 ⟨h.len,h.hd,fun b o ha j hj=>⟨hk.cell (p:=⟨b,o+j*2,none⟩) (ho ⟨b,o,none⟩ ha) (h.cell b o ha j hj).1,hk.cell (p:=⟨b,o+j*2+1,none⟩) (ho ⟨b,o,none⟩ ha) (h.cell b o ha j hj).2⟩⟩
theorem c0M{w:World}{base:Nat}{e:TypeId}{v:Value}{n:Nat}{xs:List (Int×Int)}(h:w.ownsRow base e 2 v n (pcells xs)) :
  ∃ A c,v=.slice A n c/\RP w A n xs/\n<=c/\(∀ a,A=some a->base<=a.block/\a.block<w.heap.size):=by
 obtain⟨h1,h2⟩:=h
 have hl:xs.length=n:=by rw[a5d] at h1;omega
 rcases h2 with⟨rfl,rfl⟩|⟨g,cap,cur,rfl,hb,hh,hc,hm,hs,ht⟩
 ·exact⟨none,0,rfl,⟨hl,by omega,by simp⟩,by omega,by simp⟩
 ·refine⟨_,_,rfl,⟨hl,fun _=>⟨_,_,rfl⟩,fun b o ha j hj=>?_⟩,hc,fun a ha=>?_⟩
  ·injection ha with ha;injection ha with h1 h2 h3;subst h1;subst h2
   have hp:=b5E xs j (by omega)
   have e1:∀ i,i<n*2->cur.toList[i]? =(pcells xs)[i]? :=fun i hi=>by rw[<-ht,List.getElem?_take,if_pos hi]
   rw[c3L]
   unfold World.cell?
   simp only[hh]
   rw[<-Array.getElem?_toList,<-Array.getElem?_toList,e1 _ (by omega),e1 _ (by omega)]
   exact hp
  ·obtain rfl:=c3G ha
   exact⟨hb,(Array.getElem?_eq_some_iff.1 hh).1⟩
open Go.RowKit
theorem b7B{w w':World}{g base n size:Nat}{t:TypeId}{v:Value}{xs:List Value}(ht:t≠5)(hb:g<base)(h:w.ownsRow base t size v n xs)(hp:PT g w w'):w'.ownsRow base t size v n xs:=by
 obtain⟨h1,h2⟩:=h
 refine⟨h1,?_⟩
 rcases h2 with h2|⟨b,cap,cur,hv,hb2,hh,r⟩
 ·exact Or.inl h2
 ·refine Or.inr ⟨b,cap,cur,hv,hb2,?_,r⟩
  rw[hp.same b (Array.getElem?_eq_some_iff.1 hh).1 (by omega) (fun ⟨c,f,hc⟩=>?_),hh]
  rw[hh] at hc
  injection hc with hc
  injection hc with _ h2 _
  exact ht h2
theorem b7O{w w':World}{g base n c:Nat}{t:TypeId}{A:Option Addr}{k:IntKind}{xs:List Int}(ht:t≠5)(hb:g<base)(h:w.ownsRow base t 1 (.slice A n c) n (ints k xs))(hp:PT g w w'):RI k w' A n xs:=by
 obtain⟨A',c',hv,hr,_⟩:=a0y (b7B ht hb h hp)
 injection hv with h1 h2 h3
 rw[h1];exact hr
theorem c3i{w w':World}{g base n c:Nat}{t:TypeId}{A:Option Addr}{xs:List (Int×Int)}(ht:t≠5)(hb:g<base)(h:w.ownsRow base t 2 (.slice A n c) n (pcells xs))(hp:PT g w w'):RP w' A n xs:=by
 obtain⟨A',c',hv,hr,_⟩:=c0M (b7B ht hb h hp)
 injection hv with h1 h2 h3
 rw[h1];exact hr
theorem a6B{xs:List Int}(h:∀ x∈xs,0<=x/\x<=15):a2g xs=false:=by
 unfold a2g
 rw[List.any_eq_false]
 intro x hx
 have:=h x hx
 simp[a2D];omega
theorem b1k(c:Int):∀ n t,t<n->revF c n/2^t%2=c/2^(n-1-t)%2
 | 0,t,h=>by omega
 | n+1,t,h=>by
  rw[revF]
  match t with
  | 0=>rw[Int.pow_zero,Int.ediv_one,show n+1-1-0=n by omega];omega
  | t+1=>
   have ih:=b1k c n t (by omega)
   rw[Int.pow_succ,Int.mul_comm (2^t) 2,<-a4f _ _ _ (by omega),show (2*revF c n+c/2^n%2)/2=revF c n by omega,ih,show n+1-1-(t+1)=n-1-t by omega]
theorem a8M(c:Int)(n:Nat):vbits (revF c n) n=msbF c n:=by
 unfold vbits msbF
 refine List.map_congr_left fun t ht=>?_
 exact b1k c n t (List.mem_range.1 ht)
theorem a4E{l:List Int}(hc:a0e l=0):(codesF l).1.length=l.length/\∀ k m:Nat,k<l.length->nth l k=m->1<=m->nth (codesF l).1 k=revF (a0P l k) m:=by
 have e:(codesF l).1=outL l l.length:=by unfold codesF;rw[if_pos hc]
 rw[e]
 refine⟨a6s l _,fun k m hk hm h1=>?_⟩
 unfold outL
 rw[a1z _ _ _ hk,if_pos ⟨hk,by omega⟩,hm];rfl
theorem b2X{xs:List (Int×Int)}{i:Nat}(h:i<xs.length):pth xs i∈xs:=by
 have:pth xs i=xs[i]:=by simp[pth,List.getD,h]
 rw[this];exact c3D _
theorem b4G{xs:List (Int×Int)}{i:Nat}(h:i<xs.length):xs.take (i+1)=xs.take i++[pth xs i]:=by
 rw[List.take_succ_eq_append_getElem h];simp[pth,List.getD,h]
theorem PT.of_keeps{g:Nat}{w w':World}(h:Keeps [] w w'):PT g w w':=⟨h.size,fun k hk _ _=>h.block k hk (by simp)⟩
theorem a0p{B C:Nat}{w w':World}(h:Below B w w')(hle:C<=B):Below C w w':=⟨h.os,h.tape,h.output,h.size,fun k hk=>h.block k (c3Q hk hle)⟩
theorem b2E(codes:List Int)(m:Nat)(h4:4<m)(h0:nth codes (nth orderL (m-1)).toNat=0):manyGo codes m=manyGo codes (m-1):=by
 obtain⟨k,rfl⟩:∃ k,m=k+1:=⟨m-1,by omega⟩
 rw[manyGo,if_pos ⟨by omega,h0⟩];rfl
theorem b2F(codes:List Int)(m:Nat)(h4:4<=m)(h0:m=4∨nth codes (nth orderL (m-1)).toNat≠0):manyGo codes m=m:=by
 obtain⟨k,rfl⟩:∃ k,m=k+1:=⟨m-1,by omega⟩
 rw[manyGo,if_neg]
 rintro ⟨h1,h2⟩
 rcases h0 with h|h
 ·omega
 ·exact h h2
def c0X(w:World)(g:Nat)(bl lit dist:List Int)(e:Ending)(w':World):Prop:=
 (MayW lit dist/\e=.returned (.int .i64 0)/\Wtr w' g (bl++a2p lit dist)/\Below g w w'/\PT g w w')∨(¬MayW lit dist/\e=.returned (.int .i64 1)/\Below w.heap.size w w')
theorem b6b (w:World) (g:Nat) (bl:List Int) (A1 A2:Option Addr) (n1 n2 c1 c2:Nat) (lit dist:List Int) (hT:Tabs w) (hg:gtop<=g) (hw:Wtr w g bl) (hb:bl.length<=50000000)
  (hx:RI .i64 w A1 n1 lit) (hy:RI .i64 w A2 n2 dist) (hm:MayW lit dist) :
  Calls Tryz.prog 69 #[.pointer (some ⟨g,0,none⟩),.slice A1 n1 c1,.slice A2 n2 c2] w (c0X w g bl lit dist):=by
 have hl0:=hx.len
 have hl1:=hy.len
 have b0:=hm.lit0
 have b1:=hm.lit1
 have b2:=hm.dist0
 have b3:=hm.dist1
 have e1:decide (n1<257)=false:=by simp;omega
 have e1':decide ((n1:Int)<257)=false:=by simp;omega
 have e2:decide (286<n1)=false:=by simp;omega
 have e2':decide ((286:Int)<(n1:Int))=false:=by simp;omega
 have e3:decide (n2<1)=false:=by simp;omega
 have e3':decide ((n2:Int)<1)=false:=by simp;omega
 have e4:decide (30<n2)=false:=by simp;omega
 have e4':decide ((30:Int)<(n2:Int))=false:=by simp;omega
 have hg0:n1<=286:=by omega
 have hg1:n2<=30:=by omega
 obtain⟨ba,oa,rfl⟩:=hx.hd (by omega)
 obtain⟨bb,ob,rfl⟩:=hy.hd (by omega)
 have HL1:Hid (lit.length=n1):=c3p hl0
 have HL2:Hid (dist.length=n2):=c3p hl1
 have HX:=c3p hx
 have HY:=c3p hy
 have HT:=c3p hT
 have HW:=c3p hw
 have HM:=c3p hm
 have hgt:=hw.lt
 have HA1:Hid (a2g lit=false):=c3p (a6B hm.litB)
 have HA2:Hid (a2g dist=false):=c3p (a6B hm.distB)
 have HA3:Hid (a2g (lit++dist)=false):=c3p (a6B hm.all)
 clear hx hy hT hw hm hl0 hl1 b0 b1 b2 b3
 go_enter Tryz.func69,Tryz.ntmps69
 go_wp2_with fail
 refine (a1R _ _ _ _ lit HX.out (by omega)).mono ?_
 rintro _ wa ⟨rfl,hd1⟩
 rw[HA1.out]
 have K1:=c3p (hd1.keeps (S:=[]))
 clear hd1
 go_wp2_with fail
 refine (a1R _ _ _ _ dist (HY.out.keeps K1.out (a0a _)) (by omega)).mono ?_
 rintro _ wb ⟨rfl,hd1⟩
 rw[HA2.out]
 have K2:=c3p (K1.out.trans (hd1.keeps (S:=[])))
 clear hd1 K1 e1 e2 e3 e4 e1' e2' e3' e4'
 go_wp2_with fail
 refine (a6L w _ wb.heap.size _ _ n1 n2 c1 c2 lit dist (K2.out.alloc _) (by simp) (by simp) HX.out HY.out nofun nofun (fun ad h=>⟨ba,oa,(c3G h).symm⟩) (fun ad h=>⟨bb,ob,(c3G h).symm⟩) (by omega) (by omega)).mono ?_
 rintro _ wc ⟨AC,cc,rfl,hoc,hkc⟩
 obtain⟨A',c',hv',hric,-⟩:=a0y hoc
 injection hv' with q1 q2 q3
 subst q1
 subst q3
 have HRC:=c3p hric
 have KC:=c3p hkc
 have HTC:=c3p (HT.out.keeps hkc (by simp))
 clear hoc hric hkc HX HY K2
 go_wp2_with fail
 refine (a8b wc _ _ _ (lit++dist) HTC.out HRC.out (by omega)).mono ?_
 rintro e wd hpk
 obtain⟨vs,rfl,hos,hbd⟩:∃ v,e=.returned (.tuple #[v,.int .i64 0])/\wd.ownsRow wc.heap.size 163 2 v (packF (lit++dist)).length (pcells (packF (lit++dist)))/\Below wc.heap.size wc wd:=by
  rcases hpk with⟨_,_,h⟩|⟨h,_⟩
  ·exact h
  ·exfalso
   rw[HA3.out,c3o,HL1.out,HL2.out] at h
   rcases h with h|h
   ·omega
   ·cases h
 obtain⟨st,hst⟩:∃ st,st=packF (lit++dist):=⟨_,rfl⟩
 rw[<-hst] at hos
 have HST:=c3p hst
 have HSL:Hid (st.length<=316):=c3p (by have:=a7u (lit++dist);rw[c3o,HL1.out,HL2.out] at this;rw[hst];omega)
 have HSY:Hid (∀ s∈st,0<=s.1/\s.1<=18/\0<=s.2/\s.2<2^wN s.1):=c3p (by rw[hst];exact HM.out.sym)
 obtain⟨AS,cs,rfl,hrp,-⟩:=c0M hos
 have hk1:=Keeps.of_below hbd (S:=[])
 have hgc:g<wc.heap.size:=c3Q hgt KC.out.size
 have KD:=c3p (KC.out.trans hk1)
 have HOS:=c3p (hos.mono (Nat.le_of_lt_succ (Nat.succ_lt_succ hgc)):wd.ownsRow (g+1) 163 2 _ _ _)
 have HRP:=c3p hrp
 clear hos hrp hbd hk1 hst HRC HTC HA1 HA2 HA3 hpk
 have HKL:=c3p (rfl:st.length=st.length)
 generalize hk:st.length=k at HOS HRP HSL HKL ⊢
 have hk316:k<=316:=HSL.out
 have HKK:Hid (st.length=k):=c3p hk
 clear hk HKL HSL
 have hmk:=fun w=>a1h (P:=Tryz.prog) w 90 3 .i64 8 Tryz.underlying90 a1y 19 19 rfl (by omega) (by omega)
 obtain⟨cb,hcb⟩:∃ x,x=wd.heap.size:=⟨_,rfl⟩
 obtain⟨w4,hw4⟩:∃ x,x=wd.alloc (.cells (ints .i64 (List.replicate 19 0)).toArray 3):=⟨_,rfl⟩
 have hk4:Keeps [] wd w4:=by rw[hw4];exact (Keeps.refl [] wd).alloc _
 have HC4:Hid (Blk w4 cb 3 (ints .i64 (cntF 19 ((st.take 0).map Prod.fst)))):=by rw[hw4,hcb];exact c3p (by rw[c3E];exact a0d wd _ _)
 have HK4:=c3p hk4
 have hcb2:wd.heap.size<=cb:=by omega
 clear hk4
 go_upto_region 7 with (fail)
 change Code.wp _ _ _ _ (wd.alloc (.cells (ints .i64 (List.replicate 19 0)).toArray 3))
 rw[<-hw4,<-hcb]
 clear hw4 hcb hmk
 go_wp2_with fail
 go_loopw [64] (fun iv wr=>∃ (i:Nat),i<=k/\iv=.int .i64 i/\Hid (Blk wr cb 3 (ints .i64 (cntF 19 ((st.take i).map Prod.fst))))/\Hid (Keeps [] wd wr)) (fun iv _=>k-(intOf iv).toNat)
 case atStart=>exact⟨0,by omega,rfl,HC4,HK4⟩
 case round=>
  clear HC4 HK4
  obtain⟨i,hi,rfl,HC,HK⟩:=hrel
  by_cases hlt:i<k
  ·have e0:decide (i<k)=true:=by simpa using hlt
   obtain⟨b,o,rfl⟩:=HRP.out.hd (by omega)
   obtain⟨p1,p2⟩:=(HRP.out.keeps HK.out (a0a _)).cell b o rfl i hlt
   obtain⟨s0,s1,-,-⟩:=HSY.out _ (b2X (show i<st.length by have:=HKK.out;omega))
   obtain⟨j,hj⟩:∃ j:Nat,(pth st i).1=j:=⟨(pth st i).1.toNat,by omega⟩
   have hj19:j<19:=by omega
   have HCN:Hid (cntF 19 ((st.take (i+1)).map Prod.fst)=(cntF 19 ((st.take i).map Prod.fst)).set j (nth (cntF 19 ((st.take i).map Prod.fst)) j+1)):=c3p (by
    rw[b4G (show i<st.length by have:=HKK.out;omega),List.map_append,List.map_singleton,hj,a2Q _ _ _ hj19])
   have hbd:=a5T 19 ((st.take i).map Prod.fst) j hj19
   have hcl:(cntF 19 ((st.take i).map Prod.fst)).length=19:=a1o _ _
   have hbl:((st.take i).map Prod.fst).length<=316:=by rw[List.length_map,c3w];omega
   rw[hj] at p1
   generalize (pth st i).2=x at *
   generalize cntF 19 ((st.take i).map Prod.fst)=cs0 at *
   obtain⟨v,hv⟩:∃ v,v=nth cs0 j:=⟨_,rfl⟩
   have hcl2:=(HC.out).cell j
   rw[show (ints .i64 cs0)[j]? =some (.int .i64 v) by rw[a0f,hv];simp[nth,List.getD,show j<cs0.length by omega]] at hcl2
   have hfr:=(HC.out).frozen j
   have hclt:=HC.out.lt
   have s2:IntKind.i64.wrap (v+1)=v+1:=c3t _ (by omega)
   go_wp2_with fail
   go_roundw
   case rel=>
    refine⟨i+1,by omega,by go_num,?_,c3p ((HK.out.setCell (p:=⟨cb,j,none⟩) (Or.inr hcb2) _).alloc _)⟩
    rw[HCN.out]
    have:=(HC.out.set j (.int .i64 (nth cs0 j+1))).keeps ((Keeps.refl [] _).alloc (.cells #[.int .i64 (j:Int),.int .i64 x] 163)) (by simp)
    rw[show (ints .i64 cs0).set j (.int .i64 (nth cs0 j+1))=ints .i64 (cs0.set j (nth cs0 j+1)) by simp[ints,List.map_set]] at this
    exact c3p this
   case measure=>simp[intOf];omega
  ·obtain rfl:i=k:=by omega
   have e0:decide (i<i)=false:=by simp
   have HCR:Hid (RI .i64 wr (some ⟨cb,0,none⟩) 19 (a0W lit dist)):=c3p (by
    have h:=HC.out
    rw[<-HKK.out,List.take_length,HST.out] at h
    have:=Blk.ri (xs:=a0W lit dist) (ys:=[]) (by rw[c3x];exact h)
    rwa [a1e] at this)
   obtain⟨w5,hw5⟩:∃ x:World,x=wr:=⟨_,rfl⟩
   rw[<-hw5] at HK HCR ⊢
   clear HC hw5
   go_wp2_with fail
   refine (a4k w5 _ _ _ (a0W lit dist) 7 HCR.out).mono ?_
   rw[HM.out.lim]
   rintro e w6 ⟨vl,rfl,ho6,hb6⟩
   rw[a3S] at ho6
   obtain⟨AL,cl,rfl,hrl,-⟩:=a0y ho6
   have hk6:=Keeps.of_below hb6 (S:=[])
   have hg5:g+1<=w5.heap.size:=by have:=KD.out.size;have:=HK.out.size;omega
   have HO6:Hid (w6.ownsRow (g+1) 3 1 (.slice AL 19 cl) 19 (ints .i64 (codesW lit dist))):=c3p (ho6.mono hg5)
   have HRL:=c3p hrl
   have K6:=c3p (HK.out.trans hk6)
   have hg6:g+1<=w6.heap.size:=by have:=hk6.size;omega
   have HCB:Hid (∀ i,i<19->0<=nth (codesW lit dist) i/\nth (codesW lit dist) i<=7):=c3p (fun i hi=>(HM.out.codes i hi).2)
   have HCS:Hid (∀ s∈st,1<=nth (codesW lit dist) s.1.toNat):=c3p (by rw[HST.out];exact fun s hs=>(HM.out.code s hs).1)
   have HCK:Hid (a0e (codesW lit dist)=0):=c3p HM.out.check
   have HCL:Hid ((codesW lit dist).length=19):=c3p (a3S lit dist)
   have HHB:Hid (a2p lit dist=vbits ((n1:Int)-257) 5++(vbits ((n2:Int)-1) 5++(vbits ((manyGo (codesW lit dist) 19:Int)-4) 4++(codeBits (codesW lit dist) (manyGo (codesW lit dist) 19)++stepsB (codesW lit dist) st)))):=c3p (by rw[HST.out];unfold a2p;rw[HL1.out,HL2.out])
   have hn1:257<=n1:=by rw[<-HL1.out];exact HM.out.lit0
   have hn2:1<=n2:=by rw[<-HL2.out];exact HM.out.dist0
   clear ho6 hrl hb6 hk6 HCR HK
   generalize codesW lit dist=cd at *
   go_wp2_with fail
   refine (a4e w6 _ _ _ cd HRL.out (by omega)).mono ?_
   rintro e w7 ⟨vr,rfl,ho7,hb7⟩
   obtain⟨hcl7,hcat⟩:=a4E HCK.out
   rw[hcl7,HCL.out] at ho7
   obtain⟨AR,cr,rfl,hrr,-⟩:=a0y ho7
   have hk7:=Keeps.of_below hb7 (S:=[])
   have HCA:=c3p hcat
   have HO7:Hid (w7.ownsRow (g+1) 49 1 (.slice AR 19 cr) 19 (ints .u32 (codesF cd).1)):=c3p (ho7.mono hg6)
   have HO6':=c3p (a0b HO6.out hk7 (by simp))
   have K7:=c3p (KD.out.trans (K6.out.trans hk7))
   have HOS':=c3p (a0b HOS.out (K6.out.trans hk7) (by simp))
   have HRL':=c3p (HRL.out.keeps hk7 (a0a _))
   have HT7:=c3p (HT.out.keeps K7.out (by simp))
   have HW7:=c3p (HW.out.keeps K7.out (by simp))
   clear ho7 hrr hb7 hk7 hcl7 hcat HO6 K6 HOS HRL HRP HT HW
   generalize (codesF cd).1=rw at *
   generalize (codesF cd).2=er at *
   go_upto_block 3 with (fail)
   go_cut [16] (fun mv wc=>∃ m:Nat,4<=m/\m<=19/\mv=.int .i64 m/\Hid (manyGo cd 19=m)/\Hid (Keeps [] w7 wc))
   case first=>
    go_wp2_with fail
    go_loopw [16] (fun mv wr=>∃ (m:Nat),4<=m/\m<=19/\mv=.int .i64 m/\Hid (manyGo cd 19=manyGo cd m)/\Hid (Keeps [] w7 wr)) (fun mv _=>(intOf mv).toNat)
    case atStart=>exact⟨19,by omega,by omega,rfl,c3p rfl,c3p (Keeps.refl _ _)⟩
    case round=>
     obtain⟨m,hm4,hm19,rfl,HMG,HK⟩:=hrel
     obtain⟨ol0,ol1⟩:=a4Y (m-1) (by omega)
     have ho:=(HT7.out.keeps HK.out (by simp)).ord.cell _ _ rfl (m-1) (by omega)
     rw[c3L] at ho
     have HDN:Hid (4<m->nth cd (nth orderL (m-1)).toNat=0->manyGo cd m=manyGo cd (m-1)):=c3p (b2E cd m)
     have HSP:Hid (m=4∨nth cd (nth orderL (m-1)).toNat≠0->manyGo cd m=m):=c3p (b2F cd m hm4)
     obtain⟨oj,hoo⟩:∃ o:Nat,nth orderL (m-1)=o:=⟨(nth orderL (m-1)).toNat,by omega⟩
     rw[hoo] at ho ol1 HDN HSP
     rw[c3H] at HDN HSP
     have ho19:oj<19:=by omega
     obtain⟨lb,lo,rfl,hlc⟩:=(HRL'.out.keeps HK.out (a0a _)).at ho19
     clear hoo ol0 ol1
     have s1:IntKind.i64.wrap ((m:Int)-1)=((m-1:Nat):Int):=by rw[c3t _ (by omega)];omega
     have s2:(m:Int)-1=((m-1:Nat):Int):=by omega
     by_cases h4:4<m
     ·have e1:decide (4<m)=true:=by simpa using h4
      have e2:decide ((4:Int)<(m:Int))=true:=by simp;omega
      by_cases h0:nth cd oj=0
      ·rw[h0] at hlc
       go_wp2_with fail
       go_roundw
       case rel=>exact⟨m-1,by omega,by omega,by go_num,c3p (by rw[HMG.out];exact HDN.out h4 h0),HK⟩
       case measure=>simp[intOf];omega
      ·have e3:(nth cd oj==0)=false:=by simpa using h0
       have e4:decide (nth cd oj=0)=false:=by simpa using h0
       go_wp2_with fail
       go_meet
       exact⟨m,by omega,by omega,rfl,c3p (by rw[HMG.out];exact HSP.out (.inr h0)),HK⟩
     ·have e1:decide (4<m)=false:=by simpa using h4
      have e2:decide ((4:Int)<(m:Int))=false:=by simp;omega
      go_wp2_with fail
      go_meet
      exact⟨m,by omega,by omega,rfl,c3p (by rw[HMG.out];exact HSP.out (.inl (by omega))),HK⟩
   case rest=>
    obtain⟨m,hm4,hm19,rfl,HMG,hkw⟩:=hcut
    have HOSp:=c3p (a0b HOS'.out hkw.out (by simp))
    have HO6p:=c3p (a0b HO6'.out hkw.out (by simp))
    have HO7p:=c3p (a0b HO7.out hkw.out (by simp))
    have HTp:=c3p (HT7.out.keeps hkw.out (by simp))
    have HWp:=c3p (HW7.out.keeps hkw.out (by simp))
    have KP:=c3p (K7.out.trans hkw.out)
    have HBL:=c3p hb
    clear HOS' HO6' HO7 HT7 HW7 K7 hkw HRL' KC KD e0 hb
    obtain⟨x1,hx1⟩:∃ x:Int,x=(n1:Int)-257:=⟨_,rfl⟩
    obtain⟨x2,hx2⟩:∃ x:Int,x=(n2:Int)-1:=⟨_,rfl⟩
    obtain⟨x3,hx3⟩:∃ x:Int,x=(m:Int)-4:=⟨_,rfl⟩
    have hx10:0<=x1:=by omega
    have hx11:x1<32:=by omega
    have hx20:0<=x2:=by omega
    have hx21:x2<32:=by omega
    have hx30:0<=x3:=by omega
    have hx31:x3<16:=by omega
    have HHC:Hid (a2p lit dist=vbits x1 5++(vbits x2 5++(vbits x3 4++(codeBits cd m++stepsB cd st)))):=c3p (by rw[HHB.out,HMG.out,<-hx1,<-hx2,<-hx3])
    have f1:(n1:Int)-257=x1:=hx1.symm
    have f2:(n2:Int)-1=x2:=hx2.symm
    have f3:(m:Int)-4=x3:=hx3.symm
    have g1:IntKind.i64.wrap x1=x1:=c3t _ (by omega)
    have g2:IntKind.i64.wrap x2=x2:=c3t _ (by omega)
    have g3:IntKind.i64.wrap x3=x3:=c3t _ (by omega)
    have k1:IntKind.u32.wrap x1=x1:=IntWalk.u32_in _ (by omega)
    have k2:IntKind.u32.wrap x2=x2:=IntWalk.u32_in _ (by omega)
    have k3:IntKind.u32.wrap x3=x3:=IntWalk.u32_in _ (by omega)
    clear hx1 hx2 hx3 HHB HMG
    go_wp2_with fail
    refine (a0K _ g bl x1 5 HWp.out hx10 (by omega) (by omega) (c3z hx10 hx11) (by have:=HBL.out;omega)).mono ?_
    rintro _ w8 ⟨rfl,hw8,hb8,hp8⟩
    have HW8:=c3p hw8
    have HB8:=c3p hb8
    have HP8:=c3p hp8
    clear hw8 hb8 hp8 HWp
    go_wp2_with fail
    refine (a0K _ g _ x2 5 HW8.out hx20 (by omega) (by omega) (c3z hx20 hx21) (by have:=HBL.out;simp only[c3o,a0k];omega)).mono ?_
    rintro _ w9 ⟨rfl,hw9,hb9,hp9⟩
    have HW9:=c3p hw9
    have HB9:=c3p (HB8.out.trans hb9)
    have HP9:=c3p (HP8.out.trans hp9)
    clear hw9 hb9 hp9 HW8 HB8 HP8
    go_wp2_with fail
    refine (a0K _ g _ x3 4 HW9.out hx30 (by omega) (by omega) (c3z hx30 hx31) (by have:=HBL.out;simp only[c3o,a0k];omega)).mono ?_
    rintro _ w10 ⟨rfl,hw10,hb10,hp10⟩
    have HW10:=c3p hw10
    have HB10:=c3p (HB9.out.trans hb10)
    have HP10:=c3p (HP9.out.trans hp10)
    obtain⟨bl3,hbl3⟩:∃ x,x=bl++vbits x1 5++vbits x2 5++vbits x3 4:=⟨_,rfl⟩
    rw[<-hbl3] at HW10
    have HHD:Hid (bl++a2p lit dist=bl3++codeBits cd m++stepsB cd st):=c3p (by rw[HHC.out,hbl3];simp only[c3q])
    have HBL3:Hid (bl3.length<=50000014):=c3p (by have:=HBL.out;rw[hbl3];simp only[c3o,a0k];omega)
    have hsl:=fun w=>b1p w 1 m hm19
    clear hw10 hb10 hp10 HW9 HB9 HP9 hbl3 f1 f2 f3 g1 g2 g3 k1 k2 k3 hx10 hx11 hx20 hx21 hx30 hx31 HHC
    go_wp2_with fail
    go_loopw [120] (fun iv wr=>∃ (q:Nat),q<=m/\iv=.int .i64 q/\Hid (Wtr wr g (bl3++codeBits cd q))/\Hid (Below g wc wr)/\Hid (PT g wc wr)) (fun iv _=>m-(intOf iv).toNat)
    case atStart=>exact⟨0,by omega,rfl,c3p (by rw[show codeBits cd 0=[] from rfl,c3x];exact HW10.out),HB10,HP10⟩
    case round=>
     clear HW10 HB10 HP10 hsl
     obtain⟨q,hq,rfl,HWq,HBq,HPq⟩:=hrel
     by_cases hlt:q<m
     ·have e0:decide (q<m)=true:=by simpa using hlt
      obtain⟨ol0,ol1⟩:=a4Y q (by omega)
      have ho:=(HTp.out.below HBq.out hg).ord.cell _ _ rfl q (by omega)
      rw[c3L] at ho
      have HCN:Hid (codeBits cd (q+1)=codeBits cd q++vbits (nth cd (nth orderL q).toNat) 3):=c3p (a3a cd q)
      obtain⟨oj,hoo⟩:∃ o:Nat,nth orderL q=o:=⟨(nth orderL q).toNat,by omega⟩
      rw[hoo] at ho ol1 HCN
      rw[c3H] at HCN
      have ho19:oj<19:=by omega
      obtain⟨lb,lo,hAL,hlc⟩:=(b7O (by decide) (c3M g) HO6p.out HPq.out).at ho19
      subst hAL
      obtain⟨c0,c1⟩:=HCB.out oj ho19
      have HLQ:Hid ((codeBits cd q).length=3*q):=c3p (a1q cd q)
      clear hoo ol0 ol1
      generalize nth cd oj=y at *
      have k1:IntKind.u32.wrap y=y:=IntWalk.u32_in _ (by omega)
      go_wp2_with fail
      refine (a0K _ g _ y 3 HWq.out c0 (by omega) (by omega) (c3z c0 (Int.lt_of_le_of_lt c1 (by decide))) (by have:=HBL3.out;have:=HLQ.out;simp only[c3o];omega)).mono ?_
      rintro _ w11 ⟨rfl,hw11,hb11,hp11⟩
      have HW11:Hid (Wtr w11 g (bl3++codeBits cd (q+1))):=c3p (by rw[HCN.out,<-c3q];exact hw11)
      have HB11:=c3p (HBq.out.trans hb11)
      have HP11:=c3p (HPq.out.trans hp11)
      clear hw11 hb11 hp11 HWq HBq HPq
      go_wp2_with fail
      go_roundw
      case rel=>exact⟨q+1,by omega,by go_num,HW11,HB11,HP11⟩
      case measure=>simp[intOf];omega
     ·obtain rfl:q=m:=by omega
      have e0:decide (q<q)=false:=by simp
      obtain⟨bl4,hbl4⟩:∃ x,x=bl3++codeBits cd q:=⟨_,rfl⟩
      have HHE:Hid (bl++a2p lit dist=bl4++stepsB cd st):=c3p (by rw[HHD.out,hbl4])
      have HBL4:Hid (bl4.length<=50000100):=c3p (by have:=HBL3.out;rw[hbl4,c3o,a1q];omega)
      rw[<-hbl4] at HWq
      clear hbl4 HHD HBL3
      go_wp2_with fail
      go_loopw [134] (fun iv wr=>∃ (p:Nat),p<=i/\iv=.int .i64 p/\Hid (Wtr wr g (bl4++stepsB cd (st.take p)))/\Hid (Below g wc wr)/\Hid (PT g wc wr)) (fun iv _=>i-(intOf iv).toNat)
      case atStart=>exact⟨0,by omega,rfl,c3p (by rw[c3E,show stepsB cd []=[] from rfl,c3x];exact HWq.out),HBq,HPq⟩
      case round=>
       clear HWq HBq HPq
       obtain⟨p,hp,rfl,HWl,HBl,HPl⟩:=hrel
       by_cases hlt2:p<i
       ·have e5:decide (p<i)=true:=by simpa using hlt2
        have HRPl:=c3i (by decide) (c3M g) HOSp.out HPl.out
        obtain⟨sb,so,rfl⟩:=HRPl.hd (by omega)
        obtain⟨p1,p2⟩:=HRPl.cell sb so rfl p hlt2
        have hps:p<st.length:=by have:=HKK.out;omega
        obtain⟨s0,s1,s2,s3⟩:=HSY.out _ (b2X hps)
        have hcs:=HCS.out _ (b2X hps)
        obtain⟨j,hj⟩:∃ j:Nat,(pth st p).1=j:=⟨(pth st p).1.toNat,by omega⟩
        obtain⟨x,hx⟩:∃ x:Int,x=(pth st p).2:=⟨_,rfl⟩
        have HST2:Hid (stepsB cd (st.take (p+1))=stepsB cd (st.take p)++(msbF (a0P cd j) (nth cd j).toNat++vbits x (wN (j:Int)))):=c3p (by
         rw[b4G hps]
         unfold stepsB
         rw[List.flatMap_append,List.flatMap_singleton,b5M,hj,<-hx,c3H])
        have HSL2:Hid ((stepsB cd (st.take p)).length<=14*316):=c3p (by
         have h1:=a5I (codes:=cd) (st.take p) (fun s hs=>by
          have:=HSY.out s (c3N hs)
          exact (HCB.out _ (by omega)).2)
         have h2:(st.take p).length<=316:=by rw[c3w];omega
         omega)
        rw[hj] at p1 s0 s1 s3 hcs
        rw[<-hx] at p2 s2 s3
        rw[c3H] at hcs
        have hj19:j<19:=by omega
        obtain⟨cb1,co1,hAL,hlc⟩:=(b7O (by decide) (c3M g) HO6p.out HPl.out).at hj19
        subst hAL
        obtain⟨c0,c1⟩:=HCB.out j hj19
        obtain⟨rb1,ro1,hAR,hrc⟩:=(b7O (by decide) (c3M g) HO7p.out HPl.out).at hj19
        subst hAR
        obtain⟨M,hM⟩:∃ M:Nat,nth cd j=M:=⟨(nth cd j).toNat,by omega⟩
        rw[HCA.out j M (by have:=HCL.out;omega) hM (by omega)] at hrc
        rw[hM] at hlc hcs c0 c1 HST2
        rw[c3H] at HST2
        have hrb:=a9L (a0P cd j) M
        have hp16:=b7I M (by omega)
        have HVB:Hid (vbits (revF (a0P cd j) M) M=msbF (a0P cd j) M):=c3p (a8M _ _)
        have HX0:Hid (revF (a0P cd j) M/2^M=0):=c3p (c3z hrb.1 hrb.2)
        have hy0:=hrb.1
        have hy1:revF (a0P cd j) M<4294967296:=by omega
        have hwn:=c1T (j:Int)
        have hw8:=a2M (wN (j:Int)) (by omega)
        have HX1:Hid (x/2^wN (j:Int)=0):=c3p (c3z s2 s3)
        have hwt:=(HTp.out.below HBl.out hg).wid.cell _ _ rfl j (by omega)
        rw[c3L,b8o j hj19] at hwt
        have hM7:M<=7:=by omega
        clear hrb hp16 hcs c0 c1 HRPl hj hx hps
        generalize revF (a0P cd j) M=y at *
        have hx256:x<256:=by omega
        generalize hwN:wN (j:Int)=W at *
        have HWN:=c3p hwN
        clear hwN s3 hw8
        have t1:IntKind.i64.wrap (j:Int)=(j:Int):=c3t _ (by omega)
        have t2:(0:Int)<=(j:Int):=by omega
        have t3:(j:Int)<19:=by omega
        have t4:IntKind.u32.wrap x=x:=IntWalk.u32_in _ (by omega)
        obtain⟨gs,hgs⟩:∃ z,z=wr.heap.size:=⟨_,rfl⟩
        obtain⟨w20,hw20⟩:∃ z,z=wr.alloc (.cells #[.int .i64 (j:Int),.int .i64 x] 163):=⟨_,rfl⟩
        have HB20:Hid (Blk w20 gs 163 [.int .i64 (j:Int),.int .i64 x]):=by rw[hw20,hgs];exact c3p (a0d wr _ [.int .i64 (j:Int),.int .i64 x])
        have ka:Keeps [] wr w20:=by rw[hw20];exact (Keeps.refl [] wr).alloc _
        have hgl:=HWl.out.lt
        have HW20:=c3p (HWl.out.keeps ka (by simp))
        have HBl20:Hid (Below g wc w20):=by rw[hw20];exact c3p (HBl.out.alloc (c3P (c3Q (by rw[hgs] at *;exact hgl) (c3C _))) _)
        have HPl20:Hid (PT g wc w20):=by rw[hw20];exact c3p (HPl.out.alloc _)
        have hggs:gs≠g:=by omega
        go_upto_region 28 with (fail)
        change Code.wp _ _ _ _ (wr.alloc (.cells #[.int .i64 (j:Int),.int .i64 x] 163))
        rw[<-hw20,<-hgs]
        have hlc':=ka.cell (by simp) hlc
        have hrc':=ka.cell (by simp) hrc
        have hwt':=ka.cell (by simp) hwt
        have b1:=HB20.out.cell 0
        have b2:=HB20.out.cell 1
        simp only[List.getElem?_cons_zero,List.getElem?_cons_succ] at b1 b2
        clear hlc hrc hwt ka hgl HWl HBl HPl p1 p2 hw20 hgs e5
        go_wp2_with fail
        go_still_tail 11,(by kernel_rfl)
        change wpList _ _ _ _ _ w20.drew
        have hdr:=(Keeps.refl [] w20).drew
        have HWd:=c3p (HW20.out.keeps hdr (by simp))
        have HBd:=c3p (HBl20.out.trans (a0p hdr.below (c3P HW20.out.lt)))
        have HPd:=c3p HPl20.out.drew
        have HB2:=c3p (HB20.out.keeps hdr (by simp))
        clear hdr HW20 HBl20 HPl20 HB20 b1 b2 hlc' hrc' hwt'
        go_wp2_with fail
        refine (a0K _ g _ y M HWd.out hy0 hy1 (by omega) HX0.out (by have:=HBL4.out;have:=HSL2.out;simp only[c3o];omega)).mono ?_
        rintro _ w21 ⟨rfl,hw21,hb21,hp21⟩
        rw[HVB.out] at hw21
        have HW21:=c3p hw21
        have HB21:=c3p (HBd.out.trans hb21)
        have HP21:=c3p (HPd.out.trans hp21)
        have HB22:Hid (Blk w21 gs 163 [.int .i64 (j:Int),.int .i64 x]):=c3p (by
         have h:=HB2.out
         refine (hp21.same gs h.lt hggs (fun ⟨c,f,hc⟩=>?_)).trans h
         have h2:w20.drew.heap[gs]? =_:=h
         rw[h2] at hc
         injection hc with hc
         injection hc with _ h2 _
         exact absurd h2 (by decide))
        have hwt2:=(HTp.out.below HB21.out hg).wid.cell _ _ rfl j (by omega)
        rw[c3L,b8o j hj19,HWN.out] at hwt2
        have b1:=HB22.out.cell 0
        have b2:=HB22.out.cell 1
        simp only[List.getElem?_cons_zero,List.getElem?_cons_succ] at b1 b2
        clear hw21 hb21 hp21 HWd HBd HPd HB2 HB22
        go_wp2_with fail
        go_still_tail 8,(by kernel_rfl)
        change wpList _ _ _ _ _ w21.drew
        have hdr:=(Keeps.refl [] w21).drew
        have HWd:=c3p (HW21.out.keeps hdr (by simp))
        have HBd:=c3p (HB21.out.trans (a0p hdr.below (c3P HW21.out.lt)))
        have HPd:=c3p HP21.out.drew
        clear hdr HW21 HB21 HP21 b1 b2 hwt2
        go_wp2_with fail
        refine (a0K _ g _ x W HWd.out s2 (by omega) (by omega) HX1.out (by have:=HBL4.out;have:=HSL2.out;simp only[c3o,a0X];omega)).mono ?_
        rintro _ w22 ⟨rfl,hw22,hb22,hp22⟩
        have HW22:Hid (Wtr w22 g (bl4++stepsB cd (st.take (p+1)))):=c3p (by rw[HST2.out];simpa only[c3q] using hw22)
        have HB22:=c3p (HBd.out.trans hb22)
        have HP22:=c3p (HPd.out.trans hp22)
        clear hw22 hb22 hp22 HWd HBd HPd
        go_wp2_with fail
        go_roundw
        case rel=>exact⟨p+1,by omega,by go_num,HW22,HB22,HP22⟩
        case measure=>simp[intOf];omega
       ·obtain rfl:p=i:=by omega
        have e5:decide (p<p)=false:=by simp
        go_wp2_with fail
        go_ret
        have h:=HWl.out
        rw[<-HKK.out,List.take_length,<-HHE.out] at h
        exact .inl ⟨HM.out,rfl,h,(a0p KP.out.below (c3P hgt)).trans HBl.out,(PT.of_keeps KP.out).trans HPl.out⟩
theorem b0j{xs:List Int}(h:a2g xs=false):∀ x∈xs,0<=x/\x<=15:=by
 intro x hx
 have:=List.any_eq_false.1 h x hx
 simp[a2D] at this
 omega
theorem b8r (w:World) (g:Nat) (bl:List Int) (A1 A2:Option Addr) (n1 n2 c1 c2:Nat) (lit dist:List Int)
  (hx:RI .i64 w A1 n1 lit) (hy:RI .i64 w A2 n2 dist) (hm:¬MayW lit dist) :
  Calls Tryz.prog 69 #[.pointer (some ⟨g,0,none⟩),.slice A1 n1 c1,.slice A2 n2 c2] w (c0X w g bl lit dist):=by
 have HM:=c3p hm
 have HX:=c3p hx
 have HY:=c3p hy
 have HL1:Hid (lit.length=n1):=c3p hx.len
 have HL2:Hid (dist.length=n2):=c3p hy.len
 clear hx hy hm
 go_enter Tryz.func69,Tryz.ntmps69
 by_cases h1:n1<257
 ·have e1:decide (n1<257)=true:=by simpa using h1
  have e1':decide ((n1:Int)<257)=true:=by simp;omega
  go_wp2_with fail
  go_ret
  exact .inr ⟨HM.out,rfl,c3I _ _⟩
 have e1:decide (n1<257)=false:=by simpa using h1
 have e1':decide ((n1:Int)<257)=false:=by simp;omega
 by_cases h2:286<n1
 ·have e2:decide (286<n1)=true:=by simpa using h2
  have e2':decide ((286:Int)<(n1:Int))=true:=by simp;omega
  go_wp2_with fail
  go_ret
  exact .inr ⟨HM.out,rfl,c3I _ _⟩
 have e2:decide (286<n1)=false:=by simpa using h2
 have e2':decide ((286:Int)<(n1:Int))=false:=by simp;omega
 by_cases h3:n2<1
 ·have e3:decide (n2<1)=true:=by simpa using h3
  have e3':decide ((n2:Int)<1)=true:=by simp;omega
  have e3'':n2=0:=by omega
  go_wp2_with fail
  go_ret
  exact .inr ⟨HM.out,rfl,c3I _ _⟩
 have e3:decide (n2<1)=false:=by simpa using h3
 have e3':decide ((n2:Int)<1)=false:=by simp;omega
 by_cases h4:30<n2
 ·have e4:decide (30<n2)=true:=by simpa using h4
  have e4':decide ((30:Int)<(n2:Int))=true:=by simp;omega
  go_wp2_with fail
  go_ret
  exact .inr ⟨HM.out,rfl,c3I _ _⟩
 have e4:decide (30<n2)=false:=by simpa using h4
 have e4':decide ((30:Int)<(n2:Int))=false:=by simp;omega
 go_wp2_with fail
 refine (a1R _ _ _ _ lit HX.out (by omega)).mono ?_
 rintro _ wa ⟨rfl,hd1⟩
 have K1:=c3p (hd1.keeps (S:=[]))
 clear hd1
 cases hb1:a2g lit with
 | true=>
  have HB1:=c3p hb1
  clear hb1
  go_wp2_with fail
  go_ret
  exact .inr ⟨HM.out,rfl,K1.out.below⟩
 | false=>
  have HB1:=c3p hb1
  clear hb1
  go_wp2_with fail
  refine (a1R _ _ _ _ dist (HY.out.keeps K1.out (a0a _)) (by omega)).mono ?_
  rintro _ wb ⟨rfl,hd1⟩
  have K2:=c3p (K1.out.trans (hd1.keeps (S:=[])))
  clear hd1 K1
  cases hb2:a2g dist with
  | true=>
   have HB2:=c3p hb2
   clear hb2
   go_wp2_with fail
   go_ret
   exact .inr ⟨HM.out,rfl,K2.out.below⟩
  | false=>
   exfalso
   have:=HL1.out
   have:=HL2.out
   exact HM.out ⟨by omega,by omega,by omega,by omega,b0j HB1.out,b0j hb2⟩
theorem b3D (w:World) (g:Nat) (bl:List Int) (A1 A2:Option Addr) (n1 n2 c1 c2:Nat) (lit dist:List Int) (hT:Tabs w) (hg:gtop<=g) (hw:Wtr w g bl) (hb:bl.length<=50000000)
  (hx:RI .i64 w A1 n1 lit) (hy:RI .i64 w A2 n2 dist) :
  Calls Tryz.prog 69 #[.pointer (some ⟨g,0,none⟩),.slice A1 n1 c1,.slice A2 n2 c2] w (c0X w g bl lit dist):=by
 by_cases hm:MayW lit dist
 ·exact b6b w g bl A1 A2 n1 n2 c1 c2 lit dist hT hg hw hb hx hy hm
 ·exact b8r w g bl A1 A2 n1 n2 c1 c2 lit dist hx hy hm
end Go.Proofs.YtghjlpechjggjaaGreatDoor
