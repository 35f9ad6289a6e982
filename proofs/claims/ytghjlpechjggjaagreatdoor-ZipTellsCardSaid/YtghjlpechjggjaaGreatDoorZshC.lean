import Derived.Test.YtghjlpechjggjaaGreatDoorZshB
import Derived.Test.YtghjlpechjggjaaGreatDoorZshA
import Derived.RegionTactic
import Derived.BigQuiet
import Derived.WalkMore
import Derived.BigRegion
set_option linter.defProp false
set_option linter.unnecessarySimpa false
set_option linter.unusedVariables false
set_option linter.unusedSimpArgs false
set_option linter.constructorNameAsVariable false
set_option maxRecDepth 100000
set_option maxHeartbeats 60000000
namespace Go.Proofs.YtghjlpechjggjaaGreatDoor
open Go.RowKit
private def c1n := @List.length_append
private def c1o := @List.length_cons
private def c1p := @List.take_succ_cons
private def c1q := @List.pairwise_cons
private def c1r := @Nat.le_refl
private def c1s := @List.mem_cons_self
private def c1t := @List.flatMap_cons
private def c1u := @List.length_replicate
private def c1v := @List.append_assoc
private def c1w := @List.mem_cons
private def c1x := @List.length_take
private def c1y := @List.mem_cons_of_mem
private def c1z := @Int.eq_ofNat_of_zero_le
private def c1A := @List.filter_cons_of_neg
private def c1B := @List.filter_cons_of_pos
private def c1C := @Int.toNat_natCast
private def c1D := @List.take_length
private def c1E := @Nat.add_assoc
private def c1F := @Nat.zero_le
private def c1G := @of_decide_eq_true
private def c1H := @Nat.lt_or_ge
private def c1I := @List.append_nil
private def c1J := @List.length_singleton
private def c1K := @List.getElem?_append_right
private def c1L := @List.cons_append
private def c1M := @Nat.add_zero
private def c1N := @List.filter_append
private def c1O := @List.getElem?_cons_succ
private def c1P := @List.mem_append
private def c1Q := @IntWalk.i64_in
private def c1R := @List.flatMap_nil
private def c1S := @List.flatMap_append
private def c1T := @List.mem_singleton
private def c1U := @Nat.lt_of_lt_of_le
private def c1V := @Nat.zero_add
def Ext(r r':IRes):Prop:=(r.2.2≠55->r'=r)/\(r.2.2=55->r.1 <+: r'.1)
theorem Ext.same{r r':IRes}(h:r'=r):Ext r r':=⟨fun _=>h,fun _=>by rw[h];exact List.prefix_refl _⟩
theorem Ext.fin{out:List Int}{r':IRes}(h:out <+: r'.1):Ext (out,0,55) r':=⟨fun h=>absurd rfl h,fun _=>h⟩
theorem b5c(bs:List Int)(p:Nat)(h:(headF bs p).2.2.2=0):p+(headF bs p).2.2.1<=8*bs.length:=by
 have hm:∀ f l q,q<=8*bs.length->(stepsF (codesH bs p) bs ((litF bs p+distF bs p:Nat):Int) f l q).2.2=0->(stepsF (codesH bs p) bs ((litF bs p+distF bs p:Nat):Int) f l q).2.1<=8*bs.length:=by
  intro f
  induction f with
  | zero=>intro l q hq _;exact hq
  | succ f ih=>
   intro l q hq h
   rw[stepsF] at h ⊢
   split
   ·exact hq
   next h1=>
   rw[if_neg h1] at h
   split
   ·exact hq
   next h2=>
   rw[if_neg h2] at h
   split
   ·exact hq
   next h3=>
   rw[if_neg h3] at h
   split
   ·exact hq
   ·next l' ha=>rw[ha] at h;exact ih l' _ (by omega) h
 unfold headF at h ⊢
 split
 ·next h1=>rw[if_pos h1] at h;simp at h
 next h1=>
 rw[if_neg h1] at h
 split
 ·next h2=>rw[if_pos h2] at h;simp at h
 next h2=>
 rw[if_neg h2] at h
 split
 ·next h3=>rw[if_pos h3] at h;simp at h
 next h3=>
 rw[if_neg h3] at h
 split
 ·next h4=>rw[if_pos h4] at h;exact absurd h h4
 next h4=>
 rw[if_neg h4] at h
 split
 ·next h5=>rw[if_pos h5] at h;exact absurd h h5
 ·next h5=>
  have:=hm (litF bs p+distF bs p) [] (p+14+3*a3x bs p) (by omega) (by have:(readR bs p).2.2=0:=(by omega);exact this)
  change (readR bs p).2.1<=_ at this
  simp only[]
  omega
theorem a5P{h:List Int×List Int×Nat×Int}(he:a0N h=0):h.2.2.2=0:=by
 unfold a0N at he
 split at he
 ·next h1=>exact a2x (by decide) he
 ·omega
theorem a7j(bs:List Int)(most:Nat)(kind:Int)(out:List Int)(p:Nat)(hp:p<=8*bs.length)(h:(a1m bs most kind out p).2.2=0):p<=(a1m bs most kind out p).2.1/\(a1m bs most kind out p).2.1<=8*bs.length:=by
 unfold a1m at h ⊢
 split
 ·next h1=>rw[if_pos h1] at h;exact b1N _ _ _ _ h
 next h1=>
 rw[if_neg h1] at h
 split
 ·next h2=>rw[if_pos h2] at h;exact a5B _ _ _ _ _ _ _ hp h
 next h2=>
 rw[if_neg h2] at h
 split
 ·next h3=>
  rw[if_pos h3] at h
  split
  ·next h4=>rw[if_pos h4] at h;exact absurd h h4
  ·next h4=>
   rw[if_neg h4] at h
   have ha:=b5c bs p (a5P (by omega))
   have:=a5B _ _ _ _ _ _ _ ha h
   omega
 ·next h3=>rw[if_neg h3] at h;simp at h
theorem a8T(bs:List Int)(most:Nat):∀ f out p,p<=8*bs.length->(blksF bs most f out p).2.2=0->p<=(blksF bs most f out p).2.1/\(blksF bs most f out p).2.1<=8*bs.length
 | 0,out,p,hp,h=>by simp[blksF] at h
 | f+1,out,p,hp,h=>by
  rw[blksF] at h ⊢
  split
  ·next h1=>rw[if_pos h1] at h;simp at h
  next h1=>
  rw[if_neg h1] at h
  split
  ·next h2=>rw[if_pos h2] at h;simp at h
  next h2=>
  rw[if_neg h2] at h
  split
  ·next h3=>rw[if_pos h3] at h;exact absurd h h3
  next h3=>
  rw[if_neg h3] at h
  obtain⟨b1,b2⟩:=a7j bs most (numB bs (p+1) 2) out (p+3) (by omega) (by omega)
  split
  ·next h4=>
   rw[if_pos h4] at h
   have:=a8T bs most f _ _ b2 h
   omega
  ·omega
theorem b5f(bs:List Int)(most:Nat)(h:(inflF bs most).2.2=0):(inflF bs most).2.1<=8*bs.length:=(a8T bs most _ _ _ (c1F _) h).2
theorem b7j{bs:List Int}{most:Int}(h0:0<=most)(h1:most<=16384)(h:(inflF bs most.toNat).2.2=0):a0O bs most=((inflF bs most.toNat).1,((inflF bs most.toNat).2.1+7)/8,0):=by
 unfold a0O;rw[if_neg (by omega),if_neg (by omega)]
def pth2(X:List PP)(j:Nat):PP:=X.getD j (0,[])
theorem b1t(X:List PP):∀ j,2*j+1<X.length->(pairsF X).take (j+1)=(pairsF X).take j++[((pth2 X (2*j)).1+(pth2 X (2*j+1)).1,(pth2 X (2*j)).2++(pth2 X (2*j+1)).2)]:=by
 induction X using pairsF.induct with
 | case1 a b r ih=>
  intro j hj
  rw[pairsF]
  match j with
  | 0=>rfl
  | j+1=>
   have:=ih j (by simp only[c1o] at hj;omega)
   rw[c1p,this,c1p]
   rfl
 | case2 l hl=>
  intro j hj
  match l,hl with
  | [],_=>simp at hj
  | [x],_=>simp at hj
  | a::b::r,h=>exact absurd rfl (h a b r)
theorem b1s(X:List PP)(j:Nat)(h:X.length<=2*j+1):(pairsF X).take j=pairsF X:=List.take_of_length_le (by rw[a1G];omega)
theorem a9Q{l:List PP}(h:posP l):posP (sortP l):=a6z (a0D l) h
theorem a4a{lv:List PP}(h:posP lv)(hs:sumW lv<=288000000000000)(hl:sumS lv<=288){t:Nat}(ht:t<=15) :
  (∀ x∈levelF (sortP lv) t,0<x.1/\x.1<=100000000000000000/\x.2.length<=4320):=by
 obtain⟨h1,h2,h3,h4⟩:=a8o (sortP lv) (a9Q h) t
 rw[b0c (a0D lv)] at h2
 rw[b0b (a0D lv)] at h3
 intro x hx
 have a1:=b5k h1 hx
 have a2:=b9A hx
 have w0:=a3K lv h
 have b1:(t:Int)*sumW lv<=15*288000000000000:=by
  have:(t:Int)*sumW lv<=15*sumW lv:=Int.mul_le_mul_of_nonneg_right (by omega) w0
  omega
 have b2:t*sumS lv<=15*288:=Nat.mul_le_mul ht hl
 exact⟨(h1 x hx).1,by omega,by omega⟩
theorem a8p{lv:List PP}(h:posP lv)(hs:sumW lv<=288000000000000)(hl:sumS lv<=288){t:Nat}(ht:t<15) :
  ∀ x∈sortP lv++pairsF (levelF (sortP lv) t),0<=x.1/\x.1<=100000000000000000:=by
 intro x hx
 have:=a4a h hs hl (t:=t+1) (by omega) x ((a0D _).mem_iff.2 hx)
 omega
theorem b9B{lv:List PP}(h:posP lv)(hs:sumW lv<=288000000000000):∀ x∈lv,0<=x.1/\x.1<=100000000000000000:=by
 intro x hx
 have:=b5k h hx
 have:=(h x hx).1
 omega
theorem b7e{X:List PP}(h:∀ x∈X,x.2.length<=4320):(X.flatMap Prod.snd).length<=X.length*4320:=by
 induction X with
 | nil=>simp
 | cons a r ih=>
  have:=ih (fun x hx=>h x (by simp[hx]))
  have:=h a (by simp)
  rw[c1t,c1n,c1o]
  omega
theorem a5b(n:Nat)(S:List Int)(s:Nat)(h:s<n):0<=nth (cntF n S) s/\nth (cntF n S) s<=S.length:=by
 rw[a0y n S s h]
 have:=List.count_le_length (a:=(s:Int)) (l:=S)
 omega
theorem a9z(lv:List PP)(m:Nat)(h2:2<=lv.length)(hm:lv.length<=2^m):2*lv.length-2<=(levelF (sortP lv) m).length:=by
 have key:∀ t,1<=t->2*lv.length<=(levelF (sortP lv) t).length+1+(lv.length-1)/2^(t-1):=by
  intro t
  induction t with
  | zero=>intro h;omega
  | succ t ih=>
   intro _
   rw[levelF,a1p,c1n,a1p,a1G]
   by_cases ht:t=0
   ·subst ht;simp[levelF];omega
   ·have:=ih (by omega)
    have e:(lv.length-1)/2^(t+1-1)=(lv.length-1)/2^(t-1)/2:=by
     rw[Nat.div_div_eq_div_mul,<-Nat.pow_succ]
     congr 2;omega
    rw[e]
    omega
 have hm0:1<=m:=by
  by_cases h:m=0
  ·subst h;simp at hm;omega
  ·omega
 have:=key m hm0
 have hd:(lv.length-1)/2^(m-1)<=1:=by
  have h3:2^m=2*2^(m-1):=by rw[<-Nat.pow_succ'];congr 1;omega
  have:(lv.length-1)/2^(m-1)<2:=by
   rw[Nat.div_lt_iff_lt_mul (Nat.two_pow_pos _)];omega
  omega
 omega
section
variable {α:Type} (f:α->Int)
def leB(x y:α):Bool:=decide (f x<=f y)
theorem b5y:∀ (N:Nat) (xs ys:List α),xs.length+ys.length<=N->Srt f xs->Srt f ys->Srt f (List.merge xs ys (leB f))/\Sme f (List.merge xs ys (leB f)) (xs++ys)
 | N,[],ys,_,_,hy=>by
  rw[List.nil_merge];exact⟨hy,List.Perm.refl _,fun _=>rfl⟩
 | N,x::xs,[],_,hx,_=>by
  rw[List.merge_right,c1I];exact⟨hx,List.Perm.refl _,fun _=>rfl⟩
 | 0,x::xs,y::ys,h,_,_=>by simp at h
 | N+1,x::xs,y::ys,h,hx,hy=>by
  have hx':=c1q.1 hx
  have hy':=c1q.1 hy
  rw[List.cons_merge_cons]
  by_cases hle:f x<=f y
  ·rw[if_pos (by simpa [leB] using hle)]
   obtain⟨h1,h2,h3⟩:=b5y N xs (y::ys) (by simp at h ⊢;omega) hx'.2 hy
   refine⟨c1q.2 ⟨fun z hz=>?_,h1⟩,(List.perm_cons x).2 h2,fun v=>?_⟩
   ·rcases c1P.1 (h2.mem_iff.1 hz) with hz|hz
    ·exact hx'.1 z hz
    ·rcases c1w.1 hz with rfl|hz
     ·exact hle
     ·have:=hy'.1 z hz;omega
   ·rw[c1L]
    by_cases e:f x=v
    ·rw[c1B (by simpa using e),c1B (by simpa using e),h3]
    ·rw[c1A (by simpa using e),c1A (by simpa using e),h3]
  ·rw[if_neg (by simpa [leB] using hle)]
   obtain⟨h1,h2,h3⟩:=b5y N (x::xs) ys (by simp at h ⊢;omega) hx hy'.2
   refine⟨c1q.2 ⟨fun z hz=>?_,h1⟩,((List.perm_cons y).2 h2).trans List.perm_middle.symm,fun v=>?_⟩
   ·rcases c1P.1 (h2.mem_iff.1 hz) with hz|hz
    ·rcases c1w.1 hz with rfl|hz
     ·omega
     ·have:=hx'.1 z hz;omega
    ·exact hy'.1 z hz
   ·by_cases e:f y=v
    ·rw[c1B (by simpa using e),h3,c1N,c1N,c1B (p:=fun p=>decide (f p=v)) (a:=y) (by simpa using e)]
     have:List.filter (fun p=>decide (f p=v)) (x::xs)=[]:=by
      rw[List.filter_eq_nil_iff]
      intro z hz
      have:f x<=f z:=by
       rcases c1w.1 hz with rfl|hz
       ·exact Int.le_refl _
       ·exact hx'.1 z hz
      simp;omega
     rw[this];rfl
    ·rw[c1A (by simpa using e),h3,c1N,c1N,c1A (p:=fun p=>decide (f p=v)) (a:=y) (by simpa using e)]
theorem b9P(xs ys:List α)(hx:Srt f xs)(hy:Srt f ys):sortW f (xs++ys) []=List.merge xs ys (leB f):=by
 obtain⟨h1,h2⟩:=b5y f _ xs ys (c1r _) hx hy
 exact (b2Q f h1 h2).symm
theorem b1i:∀ (N:Nat) (xs ys:List α),xs.length+ys.length<=N->Srt f xs->Srt f ys->∀ a,a<=xs.length+ys.length->∃ i j,i<=xs.length/\j<=ys.length/\i+j=a /\
  ((List.merge xs ys (leB f)).take a).Perm (xs.take i++ys.take j)/\(∀ x∈xs.drop i,∀ y∈ys.take j,f y<f x)
 | N,[],ys,_,_,_,a,ha=>by
  rw[List.nil_merge]
  exact⟨0,a,c1F _,by simpa using ha,by omega,by simp,by simp⟩
 | N,x::xs,[],_,_,_,a,ha=>by
  rw[List.merge_right]
  exact⟨a,0,by simpa using ha,c1F _,by omega,by simp,by simp⟩
 | 0,x::xs,y::ys,h,_,_,_,_=>by simp at h
 | N+1,x::xs,y::ys,h,hx,hy,0,_=>⟨0,0,c1F _,c1F _,rfl,by simp,by simp⟩
 | N+1,x::xs,y::ys,h,hx,hy,a+1,ha=>by
  have hx':=c1q.1 hx
  have hy':=c1q.1 hy
  simp only[c1o] at h ha
  rw[List.cons_merge_cons]
  by_cases hle:f x<=f y
  ·rw[if_pos (by simpa [leB] using hle),c1p]
   obtain⟨i,j,h1,h2,h3,h4,h5⟩:=b1i N xs (y::ys) (by simp only[c1o];omega) hx'.2 hy a (by simp only[c1o];omega)
   refine⟨i+1,j,by simp only[c1o];omega,h2,by omega,?_,?_⟩
   ·rw[c1p,c1L];exact (List.perm_cons x).2 h4
   ·rw[List.drop_succ_cons];exact h5
  ·rw[if_neg (by simpa [leB] using hle),c1p]
   obtain⟨i,j,h1,h2,h3,h4,h5⟩:=b1i N (x::xs) ys (by simp only[c1o];omega) hx hy'.2 a (by simp only[c1o];omega)
   refine⟨i,j+1,h1,by simp only[c1o];omega,by omega,?_,?_⟩
   ·rw[c1p];exact ((List.perm_cons y).2 h4).trans List.perm_middle.symm
   ·rw[c1p]
    intro z hz v hv
    rcases c1w.1 hv with rfl|hv
    ·have hz':z∈x::xs:=List.mem_of_mem_drop hz
     rcases c1w.1 hz' with rfl|hz'
     ·omega
     ·have:=hx'.1 z hz';omega
    ·exact h5 z hz v hv
end
theorem a9S(l:List PP)(h:Srt Prod.fst l):Srt Prod.fst (pairsF l):=by
 induction l using pairsF.induct with
 | case1 a b r ih=>
  rw[pairsF]
  have h1:=c1q.1 h
  have h2:=c1q.1 h1.2
  refine c1q.2 ⟨fun p hp=>?_,ih h2.2⟩
  have key:∀ (l:List PP) (m:Int),(∀ x∈l,m<=x.1)->∀ p∈pairsF l,m+m<=p.1:=by
   intro l m
   induction l using pairsF.induct with
   | case1 c d s ihs=>
    intro hm p hp
    rw[pairsF] at hp
    have hc:=hm c (by simp)
    have hd:=hm d (by simp)
    rcases c1w.1 hp with rfl|hp
    ·simp only[];omega
    ·exact ihs (fun x hx=>hm x (by simp[hx])) p hp
   | case2 l hl=>intro _ p hp;rw[a1e hl] at hp;simp at hp
  have hab:=h1.1 b (by simp)
  have:=key r b.1 (fun x hx=>h2.1 x hx) p hp
  simp only[];omega
 | case2 l hl=>rw[a1e hl];exact List.Pairwise.nil
theorem b1u(l:List PP)(hp:posP l):∀ j,j<=l.length/2->∀ x∈l.take (2*j),∃ y∈(pairsF l).take j,x.1<y.1:=by
 induction l using pairsF.induct with
 | case1 a b r ih=>
  intro j hj x hx
  match j with
  | 0=>simp at hx
  | j+1=>
   rw[show 2*(j+1)=(2*j+1)+1 by omega,c1p,c1p] at hx
   rw[pairsF,c1p]
   have ha:=(hp a (by simp)).1
   have hb:=(hp b (by simp)).1
   simp only[c1w] at hx
   rcases hx with rfl|rfl|hx
   ·exact⟨_,c1s ..,by simp only[];omega⟩
   ·exact⟨_,c1s ..,by simp only[];omega⟩
   ·obtain⟨y,h1,h2⟩:=ih (fun p h=>hp p (by simp[h])) j (by simp only[c1o] at hj;omega) x hx
    exact⟨y,c1y _ h1,h2⟩
 | case2 l hl=>
  intro j hj x hx
  have:l.length/2=0:=by rw[<-a1G,a1e hl];rfl
  obtain rfl:j=0:=by omega
  simp at hx
theorem b3R(l:List PP):∀ j,j<=l.length/2->((pairsF l).take j).flatMap Prod.snd=(l.take (2*j)).flatMap Prod.snd:=by
 induction l using pairsF.induct with
 | case1 a b r ih=>
  intro j hj
  match j with
  | 0=>simp
  | j+1=>
   rw[show 2*(j+1)=(2*j+1)+1 by omega,c1p,c1p,pairsF,c1p,c1t,c1t,c1t,ih j (by simp only[c1o] at hj;omega),c1v]
 | case2 l hl=>
  intro j hj
  have:l.length/2=0:=by rw[<-a1G,a1e hl];rfl
  obtain rfl:j=0:=by omega
  simp
theorem b5N(M:Int)(l:List PP)(hp:posP l):2*(pairsF l).countP (fun p=>decide (p.1<M))<=l.countP (fun p=>decide (p.1<M)):=by
 induction l using pairsF.induct with
 | case1 a b r ih=>
  rw[pairsF]
  have ha:=(hp a (by simp)).1
  have hb:=(hp b (by simp)).1
  have:=ih (fun p h=>hp p (by simp[h]))
  rw[List.countP_cons,List.countP_cons,List.countP_cons]
  by_cases h:a.1+b.1<M
  ·rw[if_pos (by simpa using h),if_pos (by simp;omega),if_pos (by simp;omega)];omega
  ·rw[if_neg (by simpa using h)];omega
 | case2 l hl=>rw[a1e hl];simp
def wid:List Nat->Nat
 | []=>0
 | c::r=>c*2^r.length+wid r
theorem a9A{lv:List PP}(h:posP lv)(t:Nat):posP (levelF lv t):=(a8o lv h t).1
theorem a9B(lv:List PP):∀ t,Srt Prod.fst (levelF lv t)
 | 0=>List.Pairwise.nil
 | t+1=>a6J _ _
theorem b5m{lv:List PP}(hs:Srt Prod.fst lv)(hp:posP lv)(t a:Nat)(ha:a<=(levelF lv (t+1)).length):∃ i j,i<=lv.length/\j<=(levelF lv t).length/2/\i+j=a /\
  ((levelF lv (t+1)).take a).Perm (lv.take i++(pairsF (levelF lv t)).take j)/\(∀ x∈lv.drop i,∀ y∈(pairsF (levelF lv t)).take j,y.1<x.1):=by
 have e:levelF lv (t+1)=List.merge lv (pairsF (levelF lv t)) (leB Prod.fst):=b9P Prod.fst lv _ hs (a9S _ (a9B lv t))
 have hl:(levelF lv (t+1)).length=lv.length+(pairsF (levelF lv t)).length:=by rw[levelF,a1p,c1n]
 rw[hl] at ha
 rw[e]
 obtain⟨i,j,h1,h2,h3,h4,h5⟩:=b1i Prod.fst _ lv (pairsF (levelF lv t)) (c1r _) hs (a9S _ (a9B lv t)) a ha
 rw[a1G] at h2
 exact⟨i,j,h1,h2,h3,h4,h5⟩
theorem a6i{lv:List PP}(hs:Srt Prod.fst lv)(hp:posP lv):∀ t a,a<=(levelF lv t).length->∃ cs:List Nat,cs.length=t/\cs.Pairwise (fun x y=>y<=x)/\(∀ c∈cs,c<=lv.length) /\
  (((levelF lv t).take a).flatMap Prod.snd).Perm (cs.flatMap fun c=>(lv.take c).flatMap Prod.snd)/\2*wid cs=a*2^t/\(∀ x∈lv.take (cs.headD 0),x∈(levelF lv t).take a) /\
  (t≠0->∀ x∈lv.drop (cs.headD 0),∀ y∈(pairsF (levelF lv (t-1))).take (a-cs.headD 0),y.1<x.1)/\(t≠0->a-cs.headD 0<=(levelF lv (t-1)).length/2)
 | 0,a,ha=>by
  obtain rfl:a=0:=by simpa [levelF] using ha
  exact⟨[],rfl,List.Pairwise.nil,by simp,by simp,by simp[wid],by simp,fun h=>absurd rfl h,fun h=>absurd rfl h⟩
 | t+1,a,ha=>by
  obtain⟨i,j,h1,h2,h3,h4,h5⟩:=b5m hs hp t a ha
  obtain⟨r,r1,r2,r3,r4,r5,r6,_,_⟩:=a6i hs hp t (2*j) (by omega)
  have hhead:∀ c∈r,c<=r.headD 0:=by
   intro c hc
   match r,r2,hc with
   | d::r,r2,hc=>
    rcases c1w.1 hc with rfl|hc
    ·exact c1r _
    ·exact (c1q.1 r2).1 c hc
  have hnest:r.headD 0<=i:=by
   rcases c1H i (r.headD 0) with hlt|hge
   ·exfalso
    have hle:r.headD 0<=lv.length:=by
     match r,r3 with
     | [],_=>exact c1F _
     | d::r,r3=>exact r3 d (by simp)
    have hi:i<lv.length:=by omega
    have m1:lv[i]∈lv.take (r.headD 0):=by
     rw[List.mem_take_iff_getElem]
     exact⟨i,by omega,rfl⟩
    have m2:lv[i]∈lv.drop i:=by
     rw[List.drop_eq_getElem_cons hi];exact c1s ..
    obtain⟨y,hy,hlt2⟩:=b1u _ (a9A hp t) j h2 _ (r6 _ m1)
    have:=h5 _ m2 y hy
    omega
   ·exact hge
  refine⟨i::r,by rw[c1o,r1],c1q.2 ⟨fun c hc=>Nat.le_trans (hhead c hc) hnest,r2⟩,?_,?_,?_,?_,?_,?_⟩
  ·intro c hc
   rcases c1w.1 hc with rfl|hc
   ·exact h1
   ·exact r3 c hc
  ·rw[c1t]
   refine (h4.flatMap_right _).trans ?_
   rw[c1S,b3R _ j h2]
   exact r4.append_left _
  ·rw[wid,r1,Nat.mul_add,r5,<-h3,Nat.pow_succ,Nat.add_mul,Nat.mul_comm 2 (i*2^t),Nat.mul_assoc i,Nat.mul_comm 2 j,Nat.mul_assoc j,Nat.mul_comm 2 (2^t)]
  ·intro x hx
   exact h4.mem_iff.2 (List.mem_append_left _ hx)
  ·intro _ x hx y hy
   simp only[List.headD_cons,Nat.add_sub_cancel] at hx hy
   rw[show a-i=j by omega] at hy
   exact h5 x hx y hy
  ·intro _
   simp only[List.headD_cons,Nat.add_sub_cancel]
   omega
theorem a9m{lv:List PP}(hp:posP lv)(M:Int)(h2:2<=lv.length)(hM:∃ x∈lv,M<=x.1):∀ t,(pairsF (levelF lv t)).countP (fun p=>decide (p.1<M))<=lv.length-2
 | 0=>by simp[levelF,pairsF]
 | t+1=>by
  have ih:=a9m hp M h2 hM t
  have h:=b5N M (levelF lv (t+1)) (a9A hp (t+1))
  have e:(levelF lv (t+1)).countP (fun p=>decide (p.1<M))=lv.countP (fun p=>decide (p.1<M))+(pairsF (levelF lv t)).countP (fun p=>decide (p.1<M)):=by
   rw[levelF,(a0D _).countP_eq,List.countP_append]
  have hl:lv.countP (fun p=>decide (p.1<M))<lv.length:=by
   obtain⟨x,hx,hMx⟩:=hM
   refine Nat.lt_of_le_of_ne List.countP_le_length (fun he=>?_)
   have:=List.countP_eq_length.1 he x hx
   simp at this;omega
  omega
theorem b9X {lv:List PP} (hs:Srt Prod.fst lv) (hp:posP lv) (t:Nat) (h2:2<=lv.length) {c j:Nat} (hc:c<=lv.length) (hj:c+j=2*lv.length-2) (hjl:j<=(levelF lv t).length/2)
  (hx:∀ x∈lv.drop c,∀ y∈(pairsF (levelF lv t)).take j,y.1<x.1):c=lv.length:=by
 rcases c1H c lv.length with hlt|hge
 ·exfalso
  have m2:lv[c]∈lv.drop c:=by rw[List.drop_eq_getElem_cons hlt];exact c1s ..
  have hn:=a9m hp (lv[lv.length-1].1) h2 ⟨_,List.getElem_mem _,Int.le_refl _⟩ t
  have hle:lv[c].1<=lv[lv.length-1].1:=by
   rcases c1H c (lv.length-1) with h|h
   ·exact (List.pairwise_iff_getElem.1 hs) c (lv.length-1) hlt (by omega) h
   ·have:c=lv.length-1:=by omega
    subst this;exact Int.le_refl _
  have hall:((pairsF (levelF lv t)).take j).countP (fun p=>decide (p.1<lv[lv.length-1].1))=j:=by
   rw[List.countP_eq_length.2 (fun y hy=>by
    have:=hx _ m2 y hy
    simp only[decide_eq_true_eq];omega),c1x,a1G]
   omega
  have:=(List.take_sublist j (pairsF (levelF lv t))).countP_le (p:=fun p=>decide (p.1<lv[lv.length-1].1))
  omega
 ·omega
def sumR:Nat->(Nat->Nat)->Nat
 | 0,_=>0
 | n+1,g=>sumR n g+g n
theorem a2a{g h:Nat->Nat}:∀ n,(∀ q,q<n->g q=h q)->sumR n g=sumR n h
 | 0,_=>rfl
 | n+1,e=>by rw[sumR,sumR,a2a n (fun q hq=>e q (by omega)),e n (by omega)]
theorem b2U(g h:Nat->Nat):∀ n,sumR n (fun q=>g q+h q)=sumR n g+sumR n h
 | 0=>rfl
 | n+1=>by rw[sumR,sumR,sumR,b2U g h n];omega
theorem b2V(K:Nat)(g:Nat->Nat):∀ n,sumR n (fun q=>K*g q)=K*sumR n g
 | 0=>rfl
 | n+1=>by rw[sumR,sumR,b2V K g n,Nat.mul_add]
theorem a4O(K:Nat):∀ n,sumR n (fun _=>K)=n*K
 | 0=>by simp[sumR]
 | n+1=>by rw[sumR,a4O K n,Nat.succ_mul]
theorem b0a(K c:Nat):∀ n,c<=n->sumR n (fun q=>if q<c then 0 else K)=(n-c)*K
 | 0,_=>by simp[sumR]
 | n+1,h=>by
  rw[sumR]
  by_cases hc:c<=n
  ·rw[b0a K c n hc,if_neg (by omega),show n+1-c=(n-c)+1 by omega,Nat.succ_mul]
  ·obtain rfl:c=n+1:=by omega
   rw[a2a n (h:=fun _=>0) (fun q hq=>by simp;omega),a4O,if_pos (by omega)];simp
def ell(cs:List Nat)(q:Nat):Nat:=cs.countP fun c=>decide (q<c)
theorem b8D(cs:List Nat)(q:Nat):ell cs q<=cs.length:=List.countP_le_length
theorem a8b(c:Nat)(r:List Nat)(q:Nat):ell (c::r) q=ell r q+if q<c then 1 else 0:=by
 unfold ell;rw[List.countP_cons];simp
theorem b6w(n:Nat):∀ cs:List Nat,cs.Pairwise (fun x y=>y<=x)->(∀ c∈cs,c<=n)->wid cs+sumR n (fun q=>2^(cs.length-ell cs q))=n*2^cs.length
 | [],_,_=>by
  rw[wid,a2a n (h:=fun _=>1) (fun q _=>by simp),a4O];simp
 | c::r,hp,hc=>by
  have hp':=c1q.1 hp
  have ih:=b6w n r hp'.2 (fun d hd=>hc d (by simp[hd]))
  have e:sumR n (fun q=>2^((c::r).length-ell (c::r) q))=sumR n (fun q=>2^(r.length-ell r q)+if q<c then 0 else 2^r.length):=by
   refine a2a n fun q hq=>?_
   rw[a8b,c1o]
   by_cases h:q<c
   ·rw[if_pos h,if_pos h,show r.length+1-(ell r q+1)=r.length-ell r q by omega];rfl
   ·rw[if_neg h,if_neg h]
    have h0:ell r q=0:=by
     unfold ell
     rw[List.countP_eq_zero]
     intro d hd
     have:=hp'.1 d hd
     simp;omega
    rw[h0,c1M,Nat.sub_zero,Nat.sub_zero,Nat.pow_succ];omega
  rw[e,b2U,b0a _ c n (hc c (by simp)),wid,c1o,Nat.pow_succ]
  have h3:c*2^r.length+(n-c)*2^r.length=n*2^r.length:=by
   rw[<-Nat.add_mul];congr 1;have:=hc c (by simp);omega
  have h4:n*(2^r.length*2)=n*2^r.length+n*2^r.length:=by rw[<-Nat.mul_assoc];omega
  omega
def One(lv:List PP):Prop:=∀ p∈lv,∃ s:Nat,p.2=[(s:Int)]
theorem b5a(lv:List PP)(h:One lv):∀ c,(lv.take c).flatMap Prod.snd=(lv.flatMap Prod.snd).take c:=by
 induction lv with
 | nil=>intro c;simp
 | cons p r ih=>
  intro c
  match c with
  | 0=>simp
  | c+1=>
   obtain⟨s,hs⟩:=h p (by simp)
   rw[c1p,c1t,c1t,hs,ih (fun x hx=>h x (by simp[hx]))];rfl
theorem a9p(lv:List PP)(h:One lv):∀ q (hq:q<lv.length) (s:Nat),lv[q].2=[(s:Int)]->(lv.flatMap Prod.snd)[q]? =some (s:Int):=by
 induction lv with
 | nil=>intro q hq;simp at hq
 | cons p r ih=>
  intro q hq s hs
  obtain⟨s0,hs0⟩:=h p (by simp)
  rw[c1t,hs0]
  match q with
  | 0=>
   simp only[List.getElem_cons_zero] at hs
   rw[hs0] at hs;injection hs with hs;rw[<-hs];rfl
  | q+1=>
   simp only[List.getElem_cons_succ] at hs
   exact ih (fun x hx=>h x (by simp[hx])) q (by simpa using hq) s hs
theorem b3p(sy:List Int)(hn:sy.Pairwise (fun a b=>a≠b)):∀ q s,sy[q]? =some s->∀ c,(sy.take c).count s=if q<c then 1 else 0:=by
 induction sy with
 | nil=>intro q s h;simp at h
 | cons x xs ih=>
  intro q s h c
  have hn':=c1q.1 hn
  match c with
  | 0=>simp
  | c+1=>
   rw[c1p,List.count_cons]
   match q with
   | 0=>
    obtain rfl:x=s:=by simpa using h
    have:List.count x (xs.take c)=0:=List.count_eq_zero.2 fun hm=>hn'.1 x (List.mem_of_mem_take hm) rfl
    rw[this];simp
   | q+1=>
    have h':xs[q]? =some s:=by simpa using h
    rw[ih hn'.2 q s h' c]
    have:x≠s:=hn'.1 s (List.mem_of_getElem? h')
    rw[show (x==s)=false by simpa using this]
    simp
theorem b3o(sy:List Int)(hn:sy.Pairwise (fun a b=>a≠b))(q:Nat)(s:Int)(h:sy[q]? =some s)(cs:List Nat):(cs.flatMap fun c=>sy.take c).count s=ell cs q:=by
 induction cs with
 | nil=>rfl
 | cons c r ih=>
  rw[c1t,List.count_append,ih,a8b,b3p sy hn q s h c];omega
theorem a8n(cs:List Int):∀ k,k<=cs.length->∀ p:PP,p∈leavesF (cs.take k) 0↔∃ i,i<k/\0<nth cs i/\p=(nth cs i,[(i:Int)])
 | 0,_,p=>by simp[leavesF]
 | k+1,h,p=>by
  rw[a0E cs k (by omega),a2n,c1P,a8n cs k (by omega) p,c1x,Nat.min_eq_left (by omega),c1V]
  constructor
  ·rintro (⟨i,h1,h2,h3⟩|h1)
   ·exact⟨i,by omega,h2,h3⟩
   ·split at h1
    ·next h0=>exact⟨k,by omega,h0,by simpa using h1⟩
    ·simp at h1
  ·rintro ⟨i,h1,h2,h3⟩
   by_cases hi:i=k
   ·subst hi;rw[if_pos h2];exact .inr (by simpa using h3)
   ·exact .inl ⟨i,by omega,h2,h3⟩
theorem b2z(cs:List Int)(g:PP->Nat):∀ k,k<=cs.length->((leavesF (cs.take k) 0).map g).sum=sumR k (fun i=>if 0<nth cs i then g (nth cs i,[(i:Int)]) else 0)
 | 0,_=>by simp[leavesF,sumR]
 | k+1,h=>by
  rw[a0E cs k (by omega),a2n,List.map_append,List.sum_append,b2z cs g k (by omega),c1x,Nat.min_eq_left (by omega),c1V,sumR]
  by_cases h0:0<nth cs k
  ·rw[if_pos h0,if_pos h0];simp
  ·rw[if_neg h0,if_neg h0];simp
theorem a9x(cs:List Int):∀ k,k<=cs.length->((leavesF (cs.take k) 0).flatMap Prod.snd).Pairwise (fun a b=>a≠b)/\∀ s∈(leavesF (cs.take k) 0).flatMap Prod.snd,s<k
 | 0,_=>by simp[leavesF]
 | k+1,h=>by
  obtain⟨h1,h2⟩:=a9x cs k (by omega)
  rw[a0E cs k (by omega),a2n,c1S,c1x,Nat.min_eq_left (by omega),c1V]
  by_cases h0:0<nth cs k
  ·rw[if_pos h0]
   simp only[c1t,c1R,c1I]
   refine⟨List.pairwise_append.2 ⟨h1,List.pairwise_singleton _ _,fun a ha b hb=>?_⟩,fun s hs=>?_⟩
   ·have:=h2 a ha
    rw[c1T.1 hb];omega
   ·rcases c1P.1 hs with hs|hs
    ·have:=h2 s hs;push_cast;omega
    ·rw[c1T.1 hs];push_cast;omega
  ·rw[if_neg h0]
   simp only[c1R,c1I]
   exact⟨h1,fun s hs=>by have:=h2 s hs;push_cast;omega⟩
theorem a9C{α:Type}(g:α->Nat)(d:α):∀ l:List α,(l.map g).sum=sumR l.length (fun q=>g (l.getD q d)):=by
 intro l
 have key:∀ k,k<=l.length->((l.take k).map g).sum=sumR k (fun q=>g (l.getD q d)):=by
  intro k
  induction k with
  | zero=>intro _;simp[sumR]
  | succ k ih=>
   intro h
   rw[List.take_succ_eq_append_getElem (by omega),List.map_append,List.sum_append,ih (by omega),sumR]
   simp[List.getD,show k<l.length by omega]
 have:=key l.length (c1r _)
 rwa [c1D] at this
theorem b8L(cs:List Int)(t:Nat)(hp:posP (leavesF cs 0))(h2:2<=(leavesF cs 0).length)(ht:(leavesF cs 0).length<=2^t) :
  ∃ E:List Nat,E.length=t/\(∀ q,q<(leavesF cs 0).length->1<=ell E q)/\sumR (leavesF cs 0).length (fun q=>2^(t-ell E q))=2^t /\
   (∀ i,i<cs.length->¬0<nth cs i->nth (limLens cs t) i=0) /\
   (∀ q (hq:q<(sortP (leavesF cs 0)).length) (i:Nat),(sortP (leavesF cs 0))[q]=(nth cs i,[(i:Int)])->i<cs.length->nth (limLens cs t) i=(ell E q:Nat)):=by
 obtain⟨lv,hlv⟩:∃ lv,lv=sortP (leavesF cs 0):=⟨_,rfl⟩
 have hperm:lv.Perm (leavesF cs 0):=by rw[hlv];exact a0D _
 have hlen:lv.length=(leavesF cs 0).length:=hperm.length_eq
 have hsrt:Srt Prod.fst lv:=by rw[hlv];exact a6J _ _
 have hpos:posP lv:=a6z hperm hp
 have htk:cs.take cs.length=cs:=c1D
 have hmem:=a8n cs cs.length (c1r _)
 rw[htk] at hmem
 have hone:One lv:=fun p hpm=>by
  obtain⟨i,_,_,e⟩:=(hmem p).1 (hperm.mem_iff.1 hpm)
  exact⟨i,by rw[e]⟩
 have hsy0:=(a9x cs cs.length (c1r _)).1
 rw[htk] at hsy0
 have hsy:(lv.flatMap Prod.snd).Pairwise (fun a b=>a≠b):=(hperm.symm.flatMap_right Prod.snd).pairwise hsy0 (fun h=>h.symm)
 have hcut:=a9z (leavesF cs 0) t h2 ht
 rw[<-hlv] at hcut
 have ht1:t≠0:=by rintro rfl;simp at ht;omega
 obtain⟨E,e1,e2,e3,e4,e5,e6,e7,e8⟩:=a6i hsrt hpos t (2*(leavesF cs 0).length-2) hcut
 have hhd:E.headD 0<=lv.length:=by
  match E,e3 with
  | [],_=>exact c1F _
  | d::r,e3=>exact e3 d (by simp)
 have hhle:E.headD 0<=2*(leavesF cs 0).length-2:=by omega
 have htop:=b9X hsrt hpos (t-1) (by omega) hhd (j:=2*(leavesF cs 0).length-2-E.headD 0) (by omega) (e8 ht1) (e7 ht1)
 have hS:limLens cs t=cntF cs.length (((levelF lv t).take (2*(leavesF cs 0).length-2)).flatMap Prod.snd):=by
  unfold limLens;rw[if_neg (by omega),<-hlv]
 have e4':(((levelF lv t).take (2*(leavesF cs 0).length-2)).flatMap Prod.snd).Perm (E.flatMap fun c=>(lv.flatMap Prod.snd).take c):=by
  refine e4.trans (List.Perm.of_eq ?_)
  have:(fun c=>(lv.take c).flatMap Prod.snd)=fun c=>(lv.flatMap Prod.snd).take c:=funext (b5a lv hone)
  rw[this]
 refine⟨E,e1,fun q hq=>?_,?_,fun i hi h0=>?_,fun q hq i hi hil=>?_⟩
 ·match E,htop with
  | [],htop=>simp at htop;omega
  | d::r,htop=>
   simp only[List.headD_cons] at htop
   rw[a8b,if_pos (by omega)];omega
 ·have hw:=b6w lv.length E e2 e3
  rw[e1,hlen] at hw
  have h5:wid E=((leavesF cs 0).length-1)*2^t:=by
   have:2*wid E=2*(((leavesF cs 0).length-1)*2^t):=by
    rw[e5,<-Nat.mul_assoc];congr 1;omega
   omega
  rw[h5] at hw
  have h6:(leavesF cs 0).length*2^t=((leavesF cs 0).length-1)*2^t+2^t:=by
   rw[<-Nat.succ_mul];congr 1;omega
  omega
 ·rw[hS,a0y _ _ _ hi,e4'.count_eq]
  have:List.count (i:Int) (E.flatMap fun c=>(lv.flatMap Prod.snd).take c)=0:=by
   refine List.count_eq_zero.2 fun hm=>?_
   obtain⟨c,_,hc⟩:=List.mem_flatMap.1 hm
   obtain⟨p,hp1,hp2⟩:=List.mem_flatMap.1 (List.mem_of_mem_take hc)
   obtain⟨k,hk1,hk2,rfl⟩:=(hmem p).1 (hperm.mem_iff.1 hp1)
   have:(i:Int)=k:=by simpa using hp2
   obtain rfl:i=k:=by omega
   exact h0 hk2
  rw[this];rfl
 ·subst hlv
  rw[hS,a0y _ _ _ hil,e4'.count_eq,b3o _ hsy q (i:Int) (a9p _ hone q hq i (by rw[hi])) E]
theorem a2H(cs:List Int)(t:Nat):(limLens cs t).length=cs.length:=by unfold limLens;rw[a0Y]
theorem b8M(cs:List Int)(t i:Nat)(h:i<cs.length):0<=nth (limLens cs t) i:=by
 unfold limLens;exact (a5b _ _ _ h).1
theorem a2Y(cs:List Int)(p:PP):p∈leavesF cs 0↔∃ i,i<cs.length/\0<nth cs i/\p=(nth cs i,[(i:Int)]):=by
 have h:=a8n cs cs.length (c1r _) p
 rwa [c1D] at h
theorem b3B(cs:List Int)(i:Nat)(h:i<cs.length)(h0:0<nth cs i):∃ q,∃ hq:q<(sortP (leavesF cs 0)).length,(sortP (leavesF cs 0))[q]=(nth cs i,[(i:Int)]):=by
 have hm:=(a0D _).mem_iff.2 ((a2Y cs (nth cs i,[(i:Int)])).2 ⟨i,h,h0,rfl⟩)
 obtain⟨q,hq,e⟩:=List.getElem_of_mem hm
 exact⟨q,hq,e⟩
theorem b7y(cs:List Int)(t:Nat)(ht15:t<=15)(hp:posP (leavesF cs 0))(h2:2<=(leavesF cs 0).length)(ht:(leavesF cs 0).length<=2^t):measF (limLens cs t)=32768:=by
 obtain⟨E,e1,e2,e3,e4,e5⟩:=b8L cs t hp h2 ht
 unfold measF
 rw[a9C part 0,a2H]
 have a1:sumR cs.length (fun q=>part ((limLens cs t).getD q 0))=sumR cs.length (fun i=>if 0<nth cs i then (fun p:PP=>part (nth (limLens cs t) (p.2.headD 0).toNat)) (nth cs i,[(i:Int)]) else 0):=by
  refine a2a _ fun q hq=>?_
  show part (nth (limLens cs t) q)=_
  by_cases h0:0<nth cs q
  ·rw[if_pos h0];simp
  ·rw[if_neg h0,e4 q hq h0];rfl
 have a2:=b2z cs (fun p:PP=>part (nth (limLens cs t) (p.2.headD 0).toNat)) cs.length (c1r _)
 rw[c1D] at a2
 rw[a1,<-a2,<-((a0D (leavesF cs 0)).map _).sum_nat,a9C _ (0,[])]
 have a3:sumR (sortP (leavesF cs 0)).length (fun q=>part (nth (limLens cs t) (((sortP (leavesF cs 0)).getD q (0,[])).2.headD 0).toNat))=sumR (sortP (leavesF cs 0)).length (fun q=>2^(15-t)*2^(t-ell E q)):=by
  refine a2a _ fun q hq=>?_
  have hm:(sortP (leavesF cs 0))[q]∈leavesF cs 0:=(a0D _).mem_iff.1 (List.getElem_mem hq)
  obtain⟨i,h1,h3,h4⟩:=(a2Y cs _).1 hm
  have hd:(sortP (leavesF cs 0)).getD q (0,[])=(nth cs i,[(i:Int)]):=by rw[<-h4];simp[List.getD,hq]
  rw[hd]
  simp only[List.headD_cons,c1C]
  rw[e5 q hq i h4 h1]
  have hl:=b8D E q
  have hge:=e2 q (by rwa [a1p] at hq)
  unfold part
  rw[if_pos (by omega),<-Nat.pow_add]
  congr 1;omega
 rw[a3,b2V,a1p,e3,<-Nat.pow_add,show 15-t+t=15 by omega]
theorem b8N(cs:List Int)(t:Nat)(ht15:t<=15)(hp:posP (leavesF cs 0))(h2:2<=(leavesF cs 0).length)(ht:(leavesF cs 0).length<=2^t)(i:Nat)(hi:i<cs.length) :
  (0<nth (limLens cs t) i↔0<nth cs i)/\nth (limLens cs t) i<=t:=by
 obtain⟨E,e1,e2,e3,e4,e5⟩:=b8L cs t hp h2 ht
 by_cases h0:0<nth cs i
 ·obtain⟨q,hq,e⟩:=b3B cs i hi h0
  have hl:=b8D E q
  have hge:=e2 q (by rwa [a1p] at hq)
  rw[e5 q hq i e hi]
  exact⟨⟨fun _=>h0,fun _=>by omega⟩,by omega⟩
 ·rw[e4 i hi h0]
  exact⟨⟨fun h=>by omega,fun h=>absurd h h0⟩,by omega⟩
theorem b4B(l:List Int)(h:∀ i,i<l.length->okLen (nth l i)=true):l.all okLen=true:=by
 rw[List.all_eq_true]
 intro x hx
 obtain⟨i,hi,rfl⟩:=List.getElem_of_mem hx
 have:=h i hi
 rwa [a0q hi] at this
theorem b5n(cs:List Int)(t:Nat)(ht15:t<=15)(h1:1<=cs.length)(h288:cs.length<=288)(hp:posP (leavesF cs 0))(h2:2<=(leavesF cs 0).length)(ht:(leavesF cs 0).length<=2^t):a0f (limLens cs t)=0:=by
 unfold a0f
 rw[a2H,if_neg (by omega),b4B (limLens cs t) (fun i hi=>by
  rw[a2H] at hi
  have a:=b8M cs t i hi
  have b:=(b8N cs t ht15 hp h2 ht i hi).2
  unfold okLen
  simp only[Bool.and_eq_true,decide_eq_true_eq]
  omega),if_neg (by simp),b7y cs t ht15 hp h2 ht]
 rfl
theorem b5o(cs:List Int)(t:Nat)(h:(leavesF cs 0).length=1):∃ s,s<cs.length/\0<nth cs s/\(∀ i,i<cs.length->0<nth cs i->i=s)/\∀ i,i<cs.length->nth (limLens cs t) i=if i=s then 1 else 0:=by
 obtain⟨p,hp⟩:=List.length_eq_one_iff.1 h
 obtain⟨s,h1,h2,h3⟩:=(a2Y cs p).1 (by rw[hp];simp)
 refine⟨s,h1,h2,fun i hi h0=>?_,fun i hi=>?_⟩
 ·have:=(a2Y cs _).2 ⟨i,hi,h0,rfl⟩
  rw[hp,c1T,h3] at this
  have:=congrArg Prod.snd this
  simp at this;omega
 ·unfold limLens
  rw[if_pos (by omega),hp,a0y _ _ _ hi,h3]
  simp only[c1t,c1R,c1I,List.count_cons,List.count_nil]
  by_cases e:i=s
  ·subst e;simp
  ·rw[if_neg e,if_neg (by simp;omega)];rfl
theorem b7z(cs:List Int)(t:Nat)(h:(leavesF cs 0).length=0)(i:Nat)(hi:i<cs.length):nth (limLens cs t) i=0/\¬0<nth cs i:=by
 have he:=List.length_eq_zero_iff.1 h
 constructor
 ·unfold limLens
  rw[if_pos (by omega),he,a0y _ _ _ hi];rfl
 ·intro h0
  have:=(a2Y cs _).2 ⟨i,hi,h0,rfl⟩
  rw[he] at this;simp at this
theorem b3E(cs:List Int)(t:Nat)(h1:1<=cs.length)(h288:cs.length<=288)(h:(leavesF cs 0).length=1):a0f (limLens cs t)=0:=by
 obtain⟨s,a,b,c,d⟩:=b5o cs t h
 have hl:=a2H cs t
 generalize limLens cs t=l at *
 have key:∀ k,k<=l.length->usedF (l.take k)=(if s<k then 1 else 0)/\measF (l.take k)=(if s<k then 16384 else 0):=by
  intro k
  induction k with
  | zero=>intro _;simp[usedF,measF]
  | succ k ih=>
   intro hk
   obtain⟨i1,i2⟩:=ih (by omega)
   rw[a7H l k (by omega),a7u l k (by omega),i1,i2,d k (by omega)]
   have p1:part 1=16384:=rfl
   have p0:part 0=0:=rfl
   by_cases e:k=s
   ·subst e;simp[p1]
   ·rw[if_neg e]
    by_cases e2:s<k
    ·simp[p0,e2,show s<k+1 by omega]
    ·simp[p0,e2,show ¬s<k+1 by omega]
 obtain⟨k1,k2⟩:=key l.length (c1r _)
 rw[c1D,if_pos (by omega)] at k1 k2
 unfold a0f
 rw[hl,if_neg (by omega),b4B l (fun i hi=>by
  rw[d i (by omega)]
  split<;>decide),if_neg (by simp),k1,k2]
 rfl
def posL(cs:List Int):List Int:=cs.filter fun x=>decide (0<x)
theorem b3C(cs:List Int):∀ i,(leavesF cs i).map Prod.fst=posL cs:=by
 induction cs with
 | nil=>intro i;rfl
 | cons x r ih=>
  intro i
  rw[leavesF]
  unfold posL at *
  by_cases h:0<x
  ·rw[if_pos h,c1B (by simpa using h),List.map_cons,ih]
  ·rw[if_neg h,c1A (by simpa using h),ih]
def cw(cs:List Int)(s:Int):Int:=nth cs s.toNat
theorem b1U(cs:List Int):(leavesF cs 0).length=usedF cs:=by
 rw[<-List.length_map (f:=Prod.fst),b3C];rfl
theorem a8X(cs:List Int)(t:Nat)(h15:t<=15)(h1:1<=cs.length)(h288:cs.length<=288)(hb:cs.any a0w=false)(ht:(leavesF cs 0).length<=2^t)(hu:usedF cs≠0):a0f (limLens cs t)=0:=by
 rw[<-b1U] at hu
 have hp:=(a2Z cs hb 0).1
 by_cases h2:2<=(leavesF cs 0).length
 ·exact b5n cs t h15 h1 h288 hp h2 ht
 ·exact b3E cs t h1 h288 (by omega)
theorem b2B(cs:List Int)(t:Nat)(h1:1<=t)(h15:t<=15)(hb:cs.any a0w=false)(ht:(leavesF cs 0).length<=2^t)(i:Nat)(hi:i<cs.length) :
  (0<nth (limLens cs t) i↔0<nth cs i)/\0<=nth (limLens cs t) i/\nth (limLens cs t) i<=t:=by
 have hp:=(a2Z cs hb 0).1
 have hnn:=b8M cs t i hi
 by_cases h2:2<=(leavesF cs 0).length
 ·have:=b8N cs t h15 hp h2 ht i hi
  exact⟨this.1,hnn,this.2⟩
 ·by_cases h3:(leavesF cs 0).length=1
  ·obtain⟨s,_,b,c,d⟩:=b5o cs t h3
   rw[d i hi]
   by_cases e:i=s
   ·subst e;rw[if_pos rfl];exact⟨⟨fun _=>b,fun _=>by omega⟩,by omega,by omega⟩
   ·rw[if_neg e];exact⟨⟨fun h=>by omega,fun h=>absurd (c i hi h) e⟩,by omega,by omega⟩
  ·have:=b7z cs t (by omega) i hi
   rw[this.1];exact⟨⟨fun h=>by omega,fun h=>absurd h this.2⟩,by omega,by omega⟩
theorem b2y(l:List Int)(v:Int)(k:Nat)(h:1<=k):(l++List.replicate k v).getD ((l++List.replicate k v).length-1) 0=v:=by
 rw[List.getD_eq_getElem?_getD,c1K (by simp;omega),List.getElem?_replicate]
 rw[if_pos (by simp;omega)];rfl
def more(l:List Int)(k:Nat)(v:Int)(r:List (Int×Int))(m:Int):Option (List Int):=
 if ((l.length+k:Nat):Int)<=m then unpackTo (l++List.replicate k v) r m else none
theorem a9G(l:List Int)(v:Int)(r:List (Int×Int))(m:Int)(h:(l.length:Int)<=m):more l 0 v r m=unpackTo l r m:=by
 rw[more,if_pos (by simpa using h)];simp
theorem a3j{l:List Int}{s e v m:Int}{k:Nat}{r:List (Int×Int)}(h:sayF l s e=some (v,k)):unpackTo l ((s,e)::r) m=more l k v r m:=by
 rw[more]
 by_cases hm:((l.length+k:Nat):Int)<=m
 ·rw[if_pos hm];exact a2M (a8K h hm)
 ·rw[if_neg hm];exact a2N (a8J h (by omega))
theorem a4f{l:List Int}{j k:Nat}{v m:Int}{r:List (Int×Int)}:(if ((l.length+j:Nat):Int)<=m then more (l++List.replicate j v) k v r m else none)=more l (j+k) v r m:=by
 simp only[more,c1n,c1u,c1v,List.replicate_append_replicate]
 by_cases h:((l.length+(j+k):Nat):Int)<=m
 ·rw[if_pos (by omega),if_pos (by omega),if_pos h]
 ·rw[if_neg h]
  split
  ·rw[if_neg (by omega)]
  ·rfl
theorem a3N (fr sym top:Nat) (v:Int) (P:List Int->Prop) (h0:0<fr) (h1:fr<=top) (hP:∀ l k,P l->P (l++List.replicate k v))
  (hs:∀ l k,P l->fr<=k->k<=top->sayF l sym ((k:Int)-fr)=some (v,k)) (n:Nat) :
  ∀ l r m,P l->(l.length:Int)<=m->unpackTo l (reps fr sym top n++r) m=more l (n-left fr top n) v r m:=by
 induction n using Nat.strongRecOn with
 | _ n ih=>
  intro l r m hp hm
  have hle:=a1A fr sym top n h0 (by omega)
  by_cases h:fr<=n
  ·rw[b1B h0 (by omega) h,b1b h0 (by omega) h,c1L]
   have hsy:=hs l (min n top) hp (by omega) (by omega)
   rw[a3j hsy,more]
   have hle2:=a1A fr sym top (n-min n top) h0 (by omega)
   rw[show n-left fr top (n-min n top)=min n top+(n-min n top-left fr top (n-min n top)) by omega,<-a4f]
   by_cases hm2:((l.length+min n top:Nat):Int)<=m
   ·rw[if_pos hm2,if_pos hm2]
    exact ih _ (by omega) _ r m (hP _ _ hp) (by rw[c1n,c1u];exact hm2)
   ·rw[if_neg hm2,if_neg hm2]
  ·rw[b1C (by omega),b1c (by omega),Nat.sub_self,a9G _ _ _ _ hm];rfl
theorem a6T(v:Int)(h0:0<=v)(h15:v<=15)(n:Nat):∀ l r m,(l.length:Int)<=m->unpackTo l (List.replicate n (v,(0:Int))++r) m=more l n v r m:=by
 induction n with
 | zero=>intro l r m hm;rw[a9G _ _ _ _ hm];rfl
 | succ n ih=>
  intro l r m hm
  rw[List.replicate_succ,c1L,a3j (a8w h0 h15),more,Nat.add_comm n 1,<-a4f]
  by_cases hm2:((l.length+1:Nat):Int)<=m
  ·rw[if_pos hm2,if_pos hm2]
   exact ih _ r m (by rw[c1n,c1u];exact hm2)
  ·rw[if_neg hm2,if_neg hm2]
theorem a6m{l:List Int}{j k:Nat}{v m:Int}{r:List (Int×Int)}{X:List Int->Option (List Int)}(hX:∀ l',(l'.length:Int)<=m->X l'=more l' k v r m) :
  (if ((l.length+j:Nat):Int)<=m then X (l++List.replicate j v) else none)=more l (j+k) v r m:=by
 rw[<-a4f]
 by_cases h:((l.length+j:Nat):Int)<=m
 ·rw[if_pos h,if_pos h];exact hX _ (by rw[c1n,c1u];exact h)
 ·rw[if_neg h,if_neg h]
theorem b8m(n:Nat)(l:List Int)(r:List (Int×Int))(m:Int)(hm:(l.length:Int)<=m):unpackTo l (b0A n++r) m=more l n 0 r m:=by
 have h18:=a3N 11 18 138 0 (fun _=>True) (by omega) (by omega) (fun _ _ _=>trivial) (fun l k _ h1 h2=>by
  rw[show ((18:Nat):Int)=18 from rfl,b6b (by omega) (by omega)];congr 2;omega) n
 have h17:=fun n'=>a3N 3 17 10 0 (fun _=>True) (by omega) (by omega) (fun _ _ _=>trivial) (fun l k _ h1 h2=>by
  rw[show ((17:Nat):Int)=17 from rfl,b6a (by omega) (by omega)];congr 2;omega) n'
 have l1:=a1A 11 18 138 n (by omega) (by omega)
 have l2:=a1A 3 17 10 (left 11 138 n) (by omega) (by omega)
 rw[b0A,c1v,c1v,h18 l _ m trivial hm,more]
 rw[a6m (k:=left 11 138 n) (r:=r) (X:=fun l'=>unpackTo l' (reps 3 17 10 (left 11 138 n)++(List.replicate (left 3 10 (left 11 138 n)) (0,0)++r)) m)]
 ·rw[show n-left 11 138 n+left 11 138 n=n by omega]
 ·intro l' hl'
  show unpackTo l' _ m=_
  rw[h17 _ l' _ m trivial hl',more]
  rw[a6m (k:=left 3 10 (left 11 138 n)) (r:=r) (X:=fun l'=>unpackTo l' (List.replicate (left 3 10 (left 11 138 n)) (0,0)++r) m) (fun l'' h=>a6T 0 (by omega) (by omega) _ l'' r m h)]
  rw[show left 11 138 n-left 3 10 (left 11 138 n)+left 3 10 (left 11 138 n)=left 11 138 n by omega]
theorem b8l(v:Int)(h0:0<=v)(h15:v<=15)(n:Nat)(hn:1<=n)(l:List Int)(r:List (Int×Int))(m:Int)(hm:(l.length:Int)<=m):unpackTo l (b0m v n++r) m=more l n v r m:=by
 have h16:=a3N 3 16 6 v (fun l=>l≠[]/\l.getD (l.length-1) 0=v) (by omega) (by omega) (fun l k hp=>by
   rcases Nat.eq_zero_or_pos k with rfl|hk
   ·simpa using hp
   ·exact⟨by simp[hp.1],b2y l v k hk⟩)
  (fun l k hp h1 h2=>by
   rw[show ((16:Nat):Int)=16 from rfl,b5Z (by omega) (by omega) hp.1,hp.2];congr 2;omega) (n-1)
 have l1:=a1A 3 16 6 (n-1) (by omega) (by omega)
 rw[b0m,c1L,a3j (a8w h0 h15),more]
 by_cases hm2:((l.length+1:Nat):Int)<=m
 ·rw[if_pos hm2,c1v]
  rw[h16 (l++List.replicate 1 v) _ m ⟨by simp,b2y l v 1 (by omega)⟩ (by rw[c1n,c1u];exact hm2),more]
  rw[a6m (k:=left 3 6 (n-1)) (r:=r) (X:=fun l'=>unpackTo l' (List.replicate (left 3 6 (n-1)) (v,0)++r) m) (fun l'' h=>a6T v h0 h15 _ l'' r m h)]
  rw[show n-1-left 3 6 (n-1)+left 3 6 (n-1)=n-1 by omega]
  have:=a4f (l:=l) (j:=1) (k:=n-1) (v:=v) (m:=m) (r:=r)
  rw[if_pos hm2] at this
  rw[this,show 1+(n-1)=n by omega]
 ·rw[if_neg hm2,more,if_neg (by omega)]
theorem b8k(v:Int)(h0:0<=v)(h15:v<=15)(n:Nat)(hn:1<=n)(l:List Int)(r:List (Int×Int))(m:Int)(hm:(l.length:Int)<=m):unpackTo l (a3h v n++r) m=more l n v r m:=by
 unfold a3h
 split
 ·rename_i h;subst h;exact b8m n l r m hm
 ·exact b8l v h0 h15 n hn l r m hm
theorem b5W(v:Int)(r:List Int):v::r=List.replicate (runN v (v::r)) v++(v::r).drop (runN v (v::r)):=by
 have h:=b7Z v (v::r)
 have hl:=b1E v (v::r)
 have e:(v::r).take (runN v (v::r))=List.replicate (runN v (v::r)) v:=by
  refine List.ext_getElem (by rw[c1x,c1u];omega) fun i h1 h2=>?_
  have hi:i<runN v (v::r):=by simpa using h2
  have:=h i hi
  rw[List.getD_eq_getElem?_getD,List.getElem?_eq_getElem (by omega)] at this
  simpa using this
 rw[<-e,List.take_append_drop]
theorem b1T(xs:List Int):∀ (l:List Int) (m:Int),(∀ x∈xs,0<=x/\x<=15)->(l.length:Int)<=m ->
  unpackTo l (packF xs) m=if ((l.length+xs.length:Nat):Int)<=m then some (l++xs) else none:=by
 induction h:xs.length using Nat.strongRecOn generalizing xs with
 | _ n ih=>
  intro l m hx hm
  match xs,h with
  | [],h=>
   simp at h;subst h
   rw[a6v,unpackTo,if_pos (by simpa using hm)];simp
  | v::r,h=>
   have h1:=a6E v r
   have h2:=b1E v (v::r)
   have hv:=hx v (by simp)
   have hsp:=b5W v r
   have hlen:((v::r).drop (runN v (v::r))).length=n-runN v (v::r):=by rw[List.length_drop,h]
   rw[packF,b8k v hv.1 hv.2 _ h1 l _ m hm,more]
   by_cases hm2:((l.length+runN v (v::r):Nat):Int)<=m
   ·rw[if_pos hm2,ih _ (by omega) _ hlen _ m (fun x hx'=>hx x (List.mem_of_mem_drop hx')) (by rw[c1n,c1u];exact hm2)]
    rw[c1n,c1u,c1v,<-hsp]
    by_cases hm3:((l.length+n:Nat):Int)<=m
    ·rw[if_pos (by omega),if_pos hm3]
    ·rw[if_neg (by omega),if_neg hm3]
   ·rw[if_neg hm2,if_neg (by omega)]
def At(xs:List Int)(p:Nat)(bl:List Int):Prop:=∀ t,t<bl.length->bitAt xs (p+t)=nth bl t
theorem a1K{xs:List Int}{p:Nat}{a b:List Int}:At xs p (a++b)↔At xs p a/\At xs (p+a.length) b:=by
 constructor
 ·intro h
  refine⟨fun t ht=>?_,fun t ht=>?_⟩
  ·rw[h t (by rw[c1n];omega),a1d _ _ _ ht]
  ·have:=h (a.length+t) (by rw[c1n];omega)
   rw[<-c1E] at this
   rw[this,a0v]
 ·intro ⟨h1,h2⟩ t ht
  rw[c1n] at ht
  by_cases hlt:t<a.length
  ·rw[h1 t hlt,a1d _ _ _ hlt]
  ·obtain⟨s,rfl⟩:∃ s,t=a.length+s:=⟨t-a.length,by omega⟩
   rw[a0v,<-c1E]
   exact h2 s (by omega)
theorem a7v(xs:List Int)(p:Nat)(v:Int):∀ n,At xs p (vbits v n)->numB xs p n=v%2^n
 | 0,_=>by simp[numB,Int.emod_one]
 | n+1,h=>by
  have e:vbits v (n+1)=vbits v n++vbits (v/2^n) 1:=b0k v n 1
  rw[e] at h
  obtain⟨h1,h2⟩:=a1K.1 h
  rw[a0h] at h2
  have h3:=h2 0 (by rw[a0h];omega)
  rw[c1M,b0l _ _ _ (by omega),Int.pow_zero,Int.ediv_one] at h3
  rw[numB,a7v xs p v n h1,h3,a5c]
theorem a3f{xs:List Int}{p n:Nat}{v:Int}(h:At xs p (vbits v n))(h0:0<=v)(h1:v<2^n):numB xs p n=v:=by
 rw[a7v xs p v n h,Int.emod_eq_of_lt h0 h1]
theorem b8C{l:List Int}(hc:a0f l=0){xs:List Int}{p s m:Nat}(hs:s<l.length)(h1:1<=m)(h15:m<=15)(hm:nth l s=m)(hT:p+m<=8*xs.length)(h:At xs p (msbF (a1D l s) m)):decF l xs p=((s:Int),0,m):=by
 have hbd:=b2q l m s (by omega) h1 hs hm
 have hkr:=b7s hc m h15
 have hl0:=(a2y l (a5r hc).1 m (by omega)).1
 have hx:xv xs p m=a1D l s:=by
  have h2:=(b5Q (a1D l s) m (by omega) (by omega) xs p m (c1r _)).1 (fun t ht=>(h t (by rw[a4g];exact ht)).symm)
  rw[Nat.sub_self,Int.pow_zero,Int.ediv_one] at h2
  exact h2.symm
 have hsp:=a5t l xs p (longN l 16) 0 (by omega) (by omega) (fun k hk=>by
  obtain rfl:k=0:=by omega
  simp[xv,lowF,a2G])
 rw[show decGo l xs p (longN l 16) 0 (xv xs p 0)=decF l xs p from rfl] at hsp
 rcases hsp with⟨j,mt,hj,a1,a15,hjm,hcode,hend,hpre,hr⟩|⟨k,hk,hend,hpre,hr⟩|⟨hend,hpre,hr⟩
 ·rw[hr]
  have hbj:=b2q l mt j (by omega) a1 hj hjm
  rcases Nat.lt_trichotomy mt m with h|h|h
  ·have:=c0m l xs p mt (by omega) (m-mt-1)
   rw[show mt+(m-mt-1+1)=m by omega] at this
   omega
  ·subst h
   rcases Nat.lt_trichotomy j s with h2|h2|h2
   ·have:=b2r l mt j s (by omega) a1 h2 hs hjm hm;omega
   ·subst h2;rfl
   ·have:=b2r l mt s j (by omega) a1 h2 hj hm hjm;omega
  ·have:=hpre m h;omega
 ·exfalso
  have:=hpre m (by omega);omega
 ·exfalso
  have hmL:m<=longN l 16:=by
   rcases c1H (longN l 16) m with h|h
   ·have:=a9D l 16 m h (by omega);omega
   ·exact h
  have:=hpre m hmL;omega
def placeL:List Nat:=[3,17,15,13,11,9,7,5,4,6,8,10,12,14,16,18,0,1,2]
theorem b1w:∀ i,i<19->placeL.getD (nth orderL i).toNat 0=i:=by decide
theorem a6q:∀ j,j<19->(nth orderL (placeL.getD j 0)).toNat=j/\placeL.getD j 0<19:=by decide
def codeBits(codes:List Int)(many:Nat):List Int:=(List.range many).flatMap fun i=>vbits (nth codes (nth orderL i).toNat) 3
theorem a2D(codes:List Int)(k:Nat):codeBits codes (k+1)=codeBits codes k++vbits (nth codes (nth orderL k).toNat) 3:=by
 unfold codeBits;rw[List.range_succ,c1S];simp
theorem a1a(codes:List Int):∀ k,(codeBits codes k).length=3*k
 | 0=>rfl
 | k+1=>by rw[a2D,c1n,a1a codes k,a0h];omega
theorem b4O{xs codes:List Int}{p:Nat}(hb:∀ j,j<19->0<=nth codes j/\nth codes j<=7):∀ k,k<=19->At xs p (codeBits codes k)->∀ j,j<19->nth (cL xs p k) j=if placeL.getD j 0<k then nth codes j else 0
 | 0,_,_,j,hj=>by
  rw[if_neg (by omega),cL]
  simp only[nth,List.getD,List.getElem?_replicate]
  split<;>rfl
 | k+1,hk,h,j,hj=>by
  rw[a2D] at h
  obtain⟨h1,h2⟩:=a1K.1 h
  rw[a1a] at h2
  have ih:=b4O hb k (by omega) h1 j hj
  obtain⟨o0,o1⟩:=a5y k (by omega)
  have hbo:=hb (nth orderL k).toNat (by omega)
  have e8:(2:Int)^3=8:=rfl
  have hnum:=a3f h2 hbo.1 (by rw[e8];omega)
  have hpo:=b1w k (by omega)
  have hop:=a6q j hj
  rw[cL,hnum]
  by_cases hjo:j=(nth orderL k).toNat
  ·subst hjo
   rw[a1F _ _ _ (by rw[a7k];exact hj),if_pos (by rw[hpo];omega)]
  ·rw[a2z _ _ _ _ hjo,ih]
   have hne:placeL.getD j 0≠k:=fun e=>hjo (by rw[<-e];exact hop.1.symm)
   by_cases hlt:placeL.getD j 0<k
   ·rw[if_pos hlt,if_pos (by omega)]
   ·rw[if_neg hlt,if_neg (by omega)]
def manyGo(codes:List Int):Nat->Nat
 | 0=>0
 | n+1=>if 4<=n/\nth codes (nth orderL n).toNat=0 then manyGo codes n else n+1
theorem a4e(codes:List Int):∀ n,manyGo codes n<=n
 | 0=>c1r _
 | n+1=>by
  unfold manyGo
  split
  ·have:=a4e codes n;omega
  ·exact c1r _
theorem a9E(codes:List Int):∀ n,4<=n->4<=manyGo codes n
 | 0,h=>by omega
 | n+1,h=>by
  unfold manyGo
  split
  ·next hc=>exact a9E codes n hc.1
  ·exact h
theorem a6j(codes:List Int):∀ n i,manyGo codes n<=i->i<n->nth codes (nth orderL i).toNat=0
 | 0,i,_,h=>by omega
 | n+1,i,h1,h2=>by
  unfold manyGo at h1
  split at h1
  ·next hc=>
   by_cases hi:i=n
   ·subst hi;exact hc.2
   ·exact a6j codes n i h1 (by omega)
  ·omega
theorem a5f{a b:List Int}(h1:a.length=b.length)(h:∀ j,j<a.length->nth a j=nth b j):a=b:=by
 refine List.ext_getElem h1 fun j h2 h3=>?_
 have:=h j h2
 rwa [a0q h2,a0q h3] at this
theorem b6V{xs codes:List Int}{p:Nat}(hl:codes.length=19)(hb:∀ j,j<19->0<=nth codes j/\nth codes j<=7)(h:At xs p (codeBits codes (manyGo codes 19))):cL xs p (manyGo codes 19)=codes:=by
 refine a5f (by rw[a7k,hl]) fun j hj=>?_
 rw[a7k] at hj
 rw[b4O hb _ (a4e codes 19) h j hj]
 split
 ·rfl
 ·next hn=>
  obtain⟨h1,h2⟩:=a6q j hj
  have:=a6j codes 19 (placeL.getD j 0) (by omega) h2
  rw[h1] at this
  exact this.symm
theorem b6c{l:List Int}{s e v:Int}{k:Nat}(h:sayF l s e=some (v,k)):0<=s/\s<=18/\0<=e/\e<2^wN s:=by
 unfold sayF at h
 split at h
 ·next hc=>
  refine⟨by omega,by omega,by omega,?_⟩
  rw[hc.2.2];exact a0k _
 split at h
 ·next hc=>
  obtain⟨rfl,h0,h3,_⟩:=hc
  exact⟨by omega,by omega,h0,by show e<4;omega⟩
 split at h
 ·next hc=>
  obtain⟨rfl,h0,h3⟩:=hc
  exact⟨by omega,by omega,h0,by show e<8;omega⟩
 split at h
 ·next hc=>
  obtain⟨rfl,h0,h3⟩:=hc
  exact⟨by omega,by omega,h0,by show e<128;omega⟩
 ·cases h
theorem a8L{l l':List Int}{s e n:Int}(h:addF l s e n=some l'):0<=s/\s<=18/\0<=e/\e<2^wN s:=by
 unfold addF at h
 cases hs:sayF l s e with
 | none=>rw[hs] at h;cases h
 | some q=>obtain⟨v,k⟩:=q;exact b6c hs
def b4b(codes:List Int)(s:Int×Int):List Int:=msbF (a1D codes s.1.toNat) (nth codes s.1.toNat).toNat++vbits s.2 (wN s.1)
def stepsB(codes:List Int)(st:List (Int×Int)):List Int:=st.flatMap (b4b codes)
theorem a2J(codes:List Int)(s:Int×Int)(r:List (Int×Int)):stepsB codes (s::r)=b4b codes s++stepsB codes r:=by simp[stepsB]
theorem a9V(codes:List Int)(s:Int×Int):(b4b codes s).length=(nth codes s.1.toNat).toNat+wN s.1:=by
 rw[b4b,c1n,a4g,a0h]
theorem b2S{codes xs:List Int}(hc:a0f codes=0)(hcl:codes.length=19){N:Int}:∀ (st:List (Int×Int)) (f:Nat) (l:List Int) (q:Nat) (L:List Int),(∀ s∈st,1<=nth codes s.1.toNat/\nth codes s.1.toNat<=15)->unpackTo l st N=some L->(L.length:Int)=N->N<=((l.length+f:Nat):Int)->q+(stepsB codes st).length<=8*xs.length->At xs q (stepsB codes st) ->
  stepsF codes xs N f l q=(L,q+(stepsB codes st).length,0)
 | [],f,l,q,L,_,hu,hL,hf,hT,hat=>by
  obtain rfl:=Option.some.inj hu
  rw[a6N _ _ _ _ _ _ (by omega)];rfl
 | s::r,f,l,q,L,hs,hu,hL,hf,hT,hat=>by
  rw[a2J,c1n] at hT
  rw[a2J] at hat
  obtain⟨ha,hr⟩:=a1K.1 hat
  rw[b4b] at ha
  obtain⟨ha1,ha2⟩:=a1K.1 ha
  rw[a4g] at ha2
  cases hadd:addF l s.1 s.2 N with
  | none=>rw[a2N hadd] at hu;cases hu
  | some l'=>
   rw[a2M hadd] at hu
   obtain⟨r0,r1,r2,r3⟩:=a8L hadd
   obtain⟨g1,g2⟩:=b6J hadd
   obtain⟨c1,c2⟩:=hs s (c1s ..)
   obtain⟨f',rfl⟩:∃ f',f=f'+1:=⟨f-1,by omega⟩
   have e1:((s.1.toNat:Nat):Int)=s.1:=by omega
   have hlen:=a9V codes s
   have hd:decF codes xs q=(s.1,0,(nth codes s.1.toNat).toNat):=by
    have:=b8C hc (xs:=xs) (p:=q) (s:=s.1.toNat) (m:=(nth codes s.1.toNat).toNat) (by omega) (by omega) (by omega) (by omega) (by omega) ha1
    rw[this,e1]
   have hnum:=a3f ha2 r2 r3
   have ih:=b2S (xs:=xs) hc hcl r f' l' (q+(nth codes s.1.toNat).toNat+wN s.1) L (fun x hx=>hs x (c1y _ hx)) hu hL (by omega) (by omega) (by rw[c1E,<-hlen];exact hr)
   rw[stepsF,if_neg (by omega)]
   simp only[hd,hnum,hadd,ih]
   rw[if_neg (by simp),if_neg (by omega),a2J,c1n,hlen]
   simp only[c1E]
def b1P(lit dist:List Int):List Int:=(packF (lit++dist)).map Prod.fst
def a0M(lit dist:List Int):List Int:=cntF 19 (b1P lit dist)
def codesW(lit dist:List Int):List Int:=limLens (a0M lit dist) 7
def a1U(lit dist:List Int):List Int:=
 vbits ((lit.length:Int)-257) 5++(vbits ((dist.length:Int)-1) 5++(vbits ((manyGo (codesW lit dist) 19:Int)-4) 4++(codeBits (codesW lit dist) (manyGo (codesW lit dist) 19)++stepsB (codesW lit dist) (packF (lit++dist)))))
structure MayW (lit dist:List Int):Prop where
 lit0:257<=lit.length
 lit1:lit.length<=286
 dist0:1<=dist.length
 dist1:dist.length<=30
 litB:∀ x∈lit,0<=x/\x<=15
 distB:∀ x∈dist,0<=x/\x<=15
theorem MayW.all{lit dist:List Int}(h:MayW lit dist):∀ x∈lit++dist,0<=x/\x<=15:=fun x hx=>by
 rcases c1P.1 hx with h1|h1
 ·exact h.litB x h1
 ·exact h.distB x h1
theorem a5n{m:Int}:∀ (st:List (Int×Int)) (l L:List Int),unpackTo l st m=some L->∀ s∈st,0<=s.1/\s.1<=18/\0<=s.2/\s.2<2^wN s.1
 | [],_,_,_,s,hs=>by cases hs
 | a::r,l,L,hu,s,hs=>by
  cases hadd:addF l a.1 a.2 m with
  | none=>rw[a2N hadd] at hu;cases hu
  | some l'=>
   rw[a2M hadd] at hu
   rcases c1w.1 hs with rfl|h
   ·exact a8L hadd
   ·exact a5n r l' L hu s h
theorem MayW.unpack{lit dist:List Int}(h:MayW lit dist):unpackTo [] (packF (lit++dist)) ((lit++dist).length:Nat)=some (lit++dist):=by
 have:=b1T (lit++dist) [] (((lit++dist).length:Nat):Int) h.all (by show ((0:Nat):Int)<=_;omega)
 simpa using this
theorem MayW.sym{lit dist:List Int}(h:MayW lit dist):∀ s∈packF (lit++dist),0<=s.1/\s.1<=18/\0<=s.2/\s.2<2^wN s.1:=a5n _ _ _ h.unpack
theorem a0T(lit dist:List Int):(a0M lit dist).length=19:=a0Y _ _
theorem b3q(lit dist:List Int)(i:Nat)(hi:i<19):0<=nth (a0M lit dist) i/\nth (a0M lit dist) i<=(lit++dist).length:=by
 have:=a5b 19 (b1P lit dist) i hi
 have hl:=a6u (lit++dist)
 refine⟨this.1,Int.le_trans this.2 ?_⟩
 rw[b1P,List.length_map];omega
theorem MayW.counts{lit dist:List Int}(h:MayW lit dist):(a0M lit dist).any a0w=false/\(leavesF (a0M lit dist) 0).length<=2^7/\usedF (a0M lit dist)≠0:=by
 have hb:(a0M lit dist).any a0w=false:=by
  rw[List.any_eq_false]
  intro x hx
  obtain⟨i,hi,rfl⟩:=List.mem_iff_getElem.1 hx
  have:=b3q lit dist i (by rw[a0T] at hi;exact hi)
  rw[a0q hi] at this
  have h1:=h.lit1;have h2:=h.dist1
  rw[c1n] at this
  unfold a0w
  simp only[Bool.or_eq_true,decide_eq_true_eq];omega
 refine⟨hb,?_,?_⟩
 ·have:=(a2Z (a0M lit dist) hb 0).2.2.2.1
  rw[a0T] at this;omega
 ·intro hu
  have hne:packF (lit++dist)≠[]:=by
   intro e
   have:=h.unpack
   rw[e] at this
   have:=Option.some.inj this
   have h1:=h.lit0
   have h2:=congrArg List.length this
   rw[c1n] at h2
   simp at h2;omega
  obtain⟨s,r,e⟩:∃ s r,packF (lit++dist)=s::r:=by
   cases he:packF (lit++dist) with
   | nil=>exact absurd he hne
   | cons s r=>exact⟨s,r,rfl⟩
  have hs:=h.sym s (by rw[e];exact c1s ..)
  have hn:0<nth (a0M lit dist) s.1.toNat:=by
   rw[a0M,a0y 19 _ _ (by omega)]
   have:0<(b1P lit dist).count ((s.1.toNat:Nat):Int):=by
    rw[List.count_pos_iff,b1P,e]
    refine List.mem_map.2 ⟨s,c1s ..,by omega⟩
   omega
  have hm:nth (a0M lit dist) s.1.toNat∈(a0M lit dist).filter (fun x=>decide (0<x)):=by
   refine List.mem_filter.2 ⟨?_,by simpa using hn⟩
   rw[a0q (by rw[a0T];omega)]
   exact List.getElem_mem _
  have:0<usedF (a0M lit dist):=by
   unfold usedF
   exact List.length_pos_of_mem hm
  omega
theorem MayW.lim{lit dist:List Int}(h:MayW lit dist):limF (a0M lit dist) 7=(codesW lit dist,0):=by
 obtain⟨hb,ht,_⟩:=h.counts
 unfold limF
 rw[if_neg (by rw[a0T];omega),if_neg (by simp[hb]),if_neg (by show ¬2^7<_;omega)];rfl
theorem a3p(lit dist:List Int):(codesW lit dist).length=19:=by
 rw[codesW,limLens,a0Y,a0T]
theorem MayW.codes{lit dist:List Int}(h:MayW lit dist)(i:Nat)(hi:i<19):(0<nth (codesW lit dist) i↔0<nth (a0M lit dist) i)/\0<=nth (codesW lit dist) i/\nth (codesW lit dist) i<=7:=by
 obtain⟨hb,ht,_⟩:=h.counts
 exact b2B _ 7 (by omega) (by omega) hb ht i (by rw[a0T];exact hi)
theorem MayW.check{lit dist:List Int}(h:MayW lit dist):a0f (codesW lit dist)=0:=by
 obtain⟨hb,ht,hu⟩:=h.counts
 exact a8X _ 7 (by omega) (by rw[a0T];omega) (by rw[a0T];omega) hb ht hu
theorem MayW.code{lit dist:List Int}(h:MayW lit dist):∀ s∈packF (lit++dist),1<=nth (codesW lit dist) s.1.toNat/\nth (codesW lit dist) s.1.toNat<=7:=fun s hs=>by
 obtain⟨r0,r1,_⟩:=h.sym s hs
 have hc:=h.codes s.1.toNat (by omega)
 have hn:0<nth (a0M lit dist) s.1.toNat:=by
  rw[a0M,a0y 19 _ _ (by omega)]
  have:0<(b1P lit dist).count ((s.1.toNat:Nat):Int):=by
   rw[List.count_pos_iff,b1P]
   exact List.mem_map.2 ⟨s,hs,by omega⟩
  omega
 have:=hc.1.2 hn
 omega
theorem a4N{codes:List Int}:∀ (st:List (Int×Int)),(∀ s∈st,nth codes s.1.toNat<=7)->(stepsB codes st).length<=14*st.length
 | [],_=>by simp[stepsB]
 | s::r,h=>by
  have ih:=a4N r (fun x hx=>h x (c1y _ hx))
  have:=h s (c1s ..)
  have hw:=b9Y s.1
  rw[a2J,c1n,a9V,c1o];omega
theorem MayW.len{lit dist:List Int}(h:MayW lit dist):(a1U lit dist).length<=71+14*(lit.length+dist.length):=by
 have h1:=a4N (codes:=codesW lit dist) (packF (lit++dist)) (fun s hs=>(h.code s hs).2)
 have h2:=a6u (lit++dist)
 have h3:=a4e (codesW lit dist) 19
 rw[c1n] at h2
 simp only[a1U,c1n,a0h,a1a];omega
theorem MayW.read{lit dist xs:List Int}{p:Nat}(h:MayW lit dist)(hT:p+(a1U lit dist).length<=8*xs.length)(hat:At xs p (a1U lit dist)):headF xs p=(lit,dist,(a1U lit dist).length,0):=by
 have hlen:(a1U lit dist).length=14+3*manyGo (codesW lit dist) 19+(stepsB (codesW lit dist) (packF (lit++dist))).length:=by
  simp only[a1U,c1n,a0h,a1a];omega
 rw[a1U] at hat
 obtain⟨a1,hat⟩:=a1K.1 hat
 obtain⟨a2,hat⟩:=a1K.1 hat
 obtain⟨a3,hat⟩:=a1K.1 hat
 obtain⟨a4,a5⟩:=a1K.1 hat
 simp only[a0h,a1a] at a2 a3 a4 a5
 have hm0:=a9E (codesW lit dist) 19 (by omega)
 have hm1:=a4e (codesW lit dist) 19
 have l0:=h.lit0;have l1:=h.lit1;have d0:=h.dist0;have d1:=h.dist1
 have e32:(2:Int)^5=32:=rfl
 have e16:(2:Int)^4=16:=rfl
 have n1:=a3f a1 (by omega) (by omega)
 have n2:=a3f a2 (by omega) (by omega)
 have n3:=a3f a3 (by omega) (by omega)
 have hlit:litF xs p=lit.length:=by unfold litF;omega
 have hdist:distF xs p=dist.length:=by unfold distF;omega
 have hmany:a3x xs p=manyGo (codesW lit dist) 19:=by
  unfold a3x
  rw[show p+10=p+5+5 by omega,n3];omega
 have hcodes:codesH xs p=codesW lit dist:=by
  unfold codesH
  rw[hmany]
  refine b6V (a3p lit dist) (fun j hj=>(h.codes j hj).2) ?_
  rw[show p+14=p+5+5+4 by omega];exact a4
 have hst:=b2S h.check (a3p lit dist) (xs:=xs) (N:=((lit++dist).length:Nat)) (packF (lit++dist)) (lit.length+dist.length) [] (p+14+3*manyGo (codesW lit dist) 19) (lit++dist) (fun s hs=>⟨(h.code s hs).1,by have:=(h.code s hs).2;omega⟩) h.unpack rfl (by simp) (by omega) (by
  rw[show p+14+3*manyGo (codesW lit dist) 19=p+5+5+4+3*manyGo (codesW lit dist) 19 by omega];exact a5)
 have hr:readR xs p=(lit++dist,p+(a1U lit dist).length,0):=by
  unfold readR
  rw[hcodes,hlit,hdist,hmany,<-c1n]
  rw[c1n] at hst ⊢
  rw[hst,hlen]
  simp only[c1E]
 rw[b5e (by omega) (by omega) (by rw[hmany];omega) (by rw[hcodes];exact h.check) hr,hlit,List.take_left,List.drop_left,show p+(a1U lit dist).length-p=(a1U lit dist).length by omega]
abbrev Tok:=Int×Int×Int
def mayT(t:Tok)(said:Nat):Bool:=if t.2.1=0 then decide (t.2.2=0) else decide (t.1=0/\3<=t.2.1/\t.2.1<=258/\1<=t.2.2/\t.2.2<=32768/\t.2.2<=said)
def copyT(far:Nat):Nat->List Int->List Int
 | 0,out=>out
 | n+1,out=>copyT far n (out++[nth out (out.length-far)])
def tokT(t:Tok)(out:List Int):List Int:=if t.2.1=0 then out++[t.1] else copyT t.2.2.toNat t.2.1.toNat out
def expandF(most:Nat):List Tok->List Int->List Int×Int
 | [],out=>(out,0)
 | t::ts,out=>if mayT t out.length=false then ([],60) else if most<out.length+max 1 t.2.1.toNat then ([],2) else expandF most ts (tokT t out)
theorem a9e(far:Nat):∀ n out,(copyT far n out).length=out.length+n
 | 0,out=>rfl
 | n+1,out=>by rw[copyT,a9e far n,c1n,c1J];omega
theorem a9v(far most:Nat):∀ n out,out.length+n<=most->layN far most n out=(copyT far n out,0)
 | 0,out,h=>rfl
 | n+1,out,h=>by rw[layN,if_neg (by omega),a9v far most n _ (by rw[c1n,c1J];omega),copyT]
theorem a5D(t:Tok)(out:List Int)(h:0<=t.2.1):(tokT t out).length=out.length+max 1 t.2.1.toNat:=by
 unfold tokT
 split
 ·rw[c1n,c1J];omega
 ·rw[a9e];omega
def lk(n:Nat):Nat:=if n=258∨n<11 then 0 else Nat.log2 (n-3)-2
def lsym(n:Nat):Nat:=if n=258 then 285 else if n<11 then n+254 else 261+4*lk n+(n-3)/2^lk n-4
def a4c(n:Nat):Nat:=if n=258∨n<11 then 0 else (n-3)%2^lk n
def dk(d:Nat):Nat:=if d<5 then 0 else Nat.log2 (d-1)-1
def dsym(d:Nat):Nat:=if d<5 then d-1 else 2+2*dk d+(d-1)/2^dk d-2
def a2T(d:Nat):Nat:=if d<5 then 0 else (d-1)%2^dk d
theorem a3a:∀ n,n<259->3<=n->257<=lsym n/\lsym n<=285/\lenK (lsym n)=lk n/\a2f (lsym n)+a4c n=n/\a4c n<2^lk n/\lk n<=5:=by decide +kernel
theorem b1e{n:Nat}(h:n≠0):2^Nat.log2 n<=n/\n<2^(Nat.log2 n+1):=⟨Nat.log2_self_le h,Nat.lt_log2_self⟩
theorem a3q(d:Nat)(h1:1<=d)(h2:d<=32768):dsym d<=29/\a1M (dsym d)=dk d/\a0I (dsym d)+a2T d=d/\a2T d<2^dk d/\dk d<=13:=by
 by_cases h:d<5
 ·have e:dk d=0:=if_pos h
  have e2:dsym d=d-1:=if_pos h
  have e3:a2T d=0:=if_pos h
  rw[e,e2,e3]
  unfold a1M a0I
  rw[if_pos (by omega),if_pos (by omega)]
  omega
 ·obtain⟨a,b⟩:=b1e (n:=d-1) (by omega)
  have hL:2<=Nat.log2 (d-1):=by
   rcases c1H (Nat.log2 (d-1)) 2 with hh|hh
   ·have:2^(Nat.log2 (d-1)+1)<=2^2:=Nat.pow_le_pow_right (by omega) (by omega)
    omega
   ·exact hh
  have hL2:Nat.log2 (d-1)<=14:=by
   rcases c1H 14 (Nat.log2 (d-1)) with hh|hh
   ·have:2^15<=2^Nat.log2 (d-1):=Nat.pow_le_pow_right (by omega) (by omega)
    omega
   ·exact hh
  obtain⟨k,hk⟩:∃ k,Nat.log2 (d-1)=k+1:=⟨Nat.log2 (d-1)-1,by omega⟩
  rw[hk] at a b
  have e:dk d=k:=by unfold dk;rw[if_neg h,hk];rfl
  have e2:dsym d=2+2*k+(d-1)/2^k-2:=by unfold dsym;rw[if_neg h,e]
  have e3:a2T d=(d-1)%2^k:=by unfold a2T;rw[if_neg h,e]
  have hp:0<2^k:=Nat.two_pow_pos k
  have c1:2<=(d-1)/2^k:=by rw[Nat.le_div_iff_mul_le hp];rw[Nat.pow_succ] at a;omega
  have c2:(d-1)/2^k<4:=by rw[Nat.div_lt_iff_lt_mul hp];rw[Nat.pow_succ,Nat.pow_succ] at b;omega
  have c3:=Nat.div_add_mod (d-1) (2^k)
  have c4:=Nat.mod_lt (d-1) hp
  generalize hq:(d-1)/2^k=q at *
  generalize hr:(d-1)%2^k=r at *
  have es:dsym d=2*k+q:=by rw[e2];omega
  have ek:a1M (dsym d)=k:=by unfold a1M;rw[es,if_neg (by omega)];omega
  refine⟨by omega,by rw[ek,e],?_,by rw[e3,e];exact c4,by omega⟩
  unfold a0I
  rw[ek,es,if_neg (by omega),e3,show (2+(2*k+q)%2)=q by omega,Nat.mul_comm q]
  omega
def cbit(l:List Int)(s:Nat):List Int:=msbF (a1D l s) (nth l s).toNat
theorem b2o(l:List Int)(s:Nat):(cbit l s).length=(nth l s).toNat:=a4g _ _
def behB(dist:List Int)(t:Tok):List Int:=vbits (a4c t.2.1.toNat) (lk t.2.1.toNat)++(cbit dist (dsym t.2.2.toNat)++vbits (a2T t.2.2.toNat) (dk t.2.2.toNat))
def tokB(lit dist:List Int)(t:Tok):List Int:=if t.2.1=0 then cbit lit t.1.toNat else cbit lit (lsym t.2.1.toNat)++behB dist t
def toksB(lit dist:List Int)(ts:List Tok):List Int:=ts.flatMap (tokB lit dist)
def Tells(l:List Int)(s:Nat):Prop:=s<l.length/\1<=nth l s/\nth l s<=15
theorem a4t{l xs:List Int}{s p:Nat}(hc:a0f l=0)(h:Tells l s)(hT:p+(cbit l s).length<=8*xs.length)(hat:At xs p (cbit l s)):decF l xs p=((s:Int),0,(cbit l s).length):=by
 obtain⟨h1,h2,h3⟩:=h
 rw[b2o] at hT ⊢
 exact b8C hc h1 (by omega) (by omega) (by omega) hT hat
theorem b4l{l:List Int}{s:Nat}(h:Tells l s):a0X l=true:=by
 obtain⟨h1,h2,h3⟩:=h
 unfold a0X
 rw[List.any_eq_true]
 exact⟨nth l s,by simp[nth,List.getD,h1],by simpa using Int.lt_of_lt_of_le Int.zero_lt_one h2⟩
theorem b9p {dist xs:List Int} {most p:Nat} {t:Tok} {out:List Int} (hc:a0f dist=0) (hm:mayT t out.length=true) (h0:t.2.1≠0) (hd:Tells dist (dsym t.2.2.toNat)) (hmost:out.length+t.2.1.toNat<=most)
  (hT:p+(behB dist t).length<=8*xs.length) (hat:At xs p (behB dist t)) :
  a1j dist xs most (lsym t.2.1.toNat) out p=(tokT t out,p+(behB dist t).length,0):=by
 unfold mayT at hm
 rw[if_neg h0] at hm
 obtain⟨-,a1,a2,a3,a4,a5⟩:=c1G hm
 obtain⟨n,hn⟩:=c1z (show 0<=t.2.1 by omega)
 obtain⟨d,hdd⟩:=c1z (show 0<=t.2.2 by omega)
 unfold behB at hT hat ⊢
 unfold tokT
 rw[if_neg h0]
 rw[hdd] at hd
 rw[hn,hdd] at hT hat ⊢
 rw[hn] at hmost
 rw[hn] at a1 a2
 rw[hdd] at a3 a4 a5
 simp only[c1C] at hT hat hmost hd ⊢
 obtain⟨b1,b2,b3,b4,b5,b6⟩:=a3a n (by omega) (by omega)
 obtain⟨c1,c2,c3,c4,c5⟩:=a3q d (by omega) (by omega)
 obtain⟨t1,t2⟩:=a1K.1 hat
 obtain⟨t3,t4⟩:=a1K.1 t2
 simp only[c1n,a0h] at hT t2 t3 t4 ⊢
 have hdec:=a4t hc hd (by omega) t3
 have n1:numB xs p (lk n)=(a4c n:Int):=a3f t1 (by omega) (by exact_mod_cast b5)
 have n2:numB xs (p+lk n+(cbit dist (dsym d)).length) (dk d)=(a2T d:Int):=a3f t4 (by omega) (by exact_mod_cast c4)
 have hus:=b4l hd
 unfold a1j
 rw[b3,hdec]
 simp only[c1C]
 rw[c2,n2,n1]
 have hfar:((a0I (dsym d):Int)+(a2T d:Int)).toNat=d:=by omega
 have hln:a2f (lsym n)+((a4c n:Int)).toNat=n:=by omega
 rw[hfar,hln]
 have hlay:=a9v d most n out hmost
 rw[if_neg (by omega),if_neg (by omega),if_neg (by rw[hus];decide),if_neg (by simp),if_neg (by omega),if_neg (by omega),if_neg (by omega),hlay,if_neg (by simp)]
 simp only[Prod.mk.injEq,and_true,true_and]
 omega
def TokOk(lit dist:List Int)(t:Tok):Prop:=(t.2.1=0->0<=t.1/\t.1<=255/\Tells lit t.1.toNat)/\(t.2.1≠0->Tells lit (lsym t.2.1.toNat)/\Tells dist (dsym t.2.2.toNat)/\a0f dist=0)
theorem b8T{lit dist xs:List Int}{most:Nat}(hc:a0f lit=0):∀ (ts:List Tok) (f p:Nat) (out:List Int),(∀ t∈ts,TokOk lit dist t)->Tells lit 256->(expandF most ts out).2=0->ts.length<f->p+(toksB lit dist ts++cbit lit 256).length<=8*xs.length->At xs p (toksB lit dist ts++cbit lit 256) ->
  symF lit dist xs most f out p=((expandF most ts out).1,p+(toksB lit dist ts++cbit lit 256).length,0)
 | [],0,p,out,_,_,_,hf,_,_=>by simp at hf
 | [],f+1,p,out,_,h256,_,_,hT,hat=>by
  simp only[toksB,c1R,List.nil_append] at hT hat ⊢
  rw[symF,a4t hc h256 hT hat]
  rw[if_neg (by simp),if_pos (by simp)]
  simp[expandF]
 | t::ts,0,p,out,_,_,_,hf,_,_=>by simp at hf
 | t::ts,f+1,p,out,htk,h256,hex,hf,hT,hat=>by
  have e:toksB lit dist (t::ts)=tokB lit dist t++toksB lit dist ts:=by simp[toksB]
  rw[e,c1v] at hT hat ⊢
  obtain⟨q1,q2⟩:=htk t c1s
  obtain⟨s1,s2⟩:=a1K.1 hat
  rw[c1n] at hT ⊢
  have hml:mayT t out.length=true:=by
   rw[expandF] at hex
   by_cases h:mayT t out.length=false
   ·rw[if_pos h] at hex;simp at hex
   ·simpa using h
  have hmo:¬most<out.length+max 1 t.2.1.toNat:=by
   intro h
   rw[expandF,if_neg (by rw[hml];decide),if_pos h] at hex;simp at hex
  have hex':expandF most (t::ts) out=expandF most ts (tokT t out):=by rw[expandF,if_neg (by rw[hml];decide),if_neg hmo]
  rw[hex'] at hex ⊢
  have ih:∀ q,q=p+(tokB lit dist t).length->symF lit dist xs most f (tokT t out) q=((expandF most ts (tokT t out)).1,q+(toksB lit dist ts++cbit lit 256).length,0):=fun q h=>b8T hc ts f q (tokT t out) (fun u hu=>htk u (c1y _ hu)) h256 hex (by simp at hf;omega) (by rw[h];omega) (by rw[h];exact s2)
  by_cases h0:t.2.1=0
  ·obtain⟨l0,l1,l2⟩:=q1 h0
   have eb:tokB lit dist t=cbit lit t.1.toNat:=if_pos h0
   rw[eb] at hT s1 ih ⊢
   have hdec:=a4t hc l2 (by omega) s1
   rw[symF,hdec]
   simp only[]
   have hn:((t.1.toNat:Nat):Int)=t.1:=Int.toNat_of_nonneg l0
   rw[if_neg (by simp),if_neg (by omega),if_pos (by omega),if_neg (by omega),hn]
   have et:tokT t out=out++[t.1]:=if_pos h0
   rw[et] at ih ⊢
   rw[ih _ rfl]
   simp only[Prod.mk.injEq,and_true,true_and]
   omega
  ·obtain⟨l0,l1,l2⟩:=q2 h0
   have eb:tokB lit dist t=cbit lit (lsym t.2.1.toNat)++behB dist t:=if_neg h0
   rw[eb,c1n] at hT ih
   rw[eb] at s1 ⊢
   rw[c1n]
   obtain⟨s3,s4⟩:=a1K.1 s1
   have hdec:=a4t hc l0 (by omega) s3
   have hlen:3<=t.2.1/\t.2.1<=258:=by
    have:=hml
    unfold mayT at this
    rw[if_neg h0] at this
    have:=c1G this
    omega
   obtain⟨b1,b2,-⟩:=a3a t.2.1.toNat (by omega) (by omega)
   have hcp:=b9p (most:=most) l2 hml h0 l1 (by omega) (by omega) s4
   rw[symF,hdec]
   simp only[c1C]
   rw[if_neg (by simp),if_neg (by omega),if_neg (by omega),hcp]
   simp only[]
   rw[if_neg (by simp),ih _ (by omega)]
   simp only[Prod.mk.injEq,and_true,true_and]
   omega
theorem a8Q(pre xs:List Int)(i:Nat):bitAt (pre++xs) (8*pre.length+i)=bitAt xs i:=by
 unfold bitAt
 rw[show (8*pre.length+i)/8=pre.length+i/8 by omega,show (8*pre.length+i)%8=i%8 by omega,a0v]
theorem a8O{pre xs bl:List Int}{p:Nat}(h:At xs p bl):At (pre++xs) (8*pre.length+p) bl:=fun t ht=>by
 rw[c1E,a8Q];exact h t ht
theorem c0R{xs bl:List Int}(h:WB xs bl):At xs 0 bl:=fun t ht=>by rw[c1V];exact h.bit t ht
def FinalOf(xs data:List Int):Prop:=∀ (pre out:List Int) (most f:Nat),out.length+data.length<=most->∃ q,blksF (pre++xs) most (f+1) out (8*pre.length)=(out++data,q,0)/\(q+7)/8=pre.length+xs.length
theorem FinalOf.infl{xs data:List Int}(h:FinalOf xs data){most:Int}(h0:(data.length:Int)<=most)(h1:most<=16384):a0O xs most=(data,xs.length,0):=by
 obtain⟨q,hq,h8⟩:=h [] [] most.toNat (8*xs.length) (by simp;omega)
 have e:inflF xs most.toNat=(data,q,0):=by unfold inflF;simpa using hq
 rw[b7j (by omega) h1 (by rw[e]),e]
 simp only[List.length_nil,c1V] at h8
 rw[h8]
theorem b7G{t:Tok}{a b:Nat}(h:mayT t a=true)(hab:a<=b):mayT t b=true:=by
 unfold mayT at h ⊢
 split at h
 ·next h0=>rw[if_pos h0];exact h
 ·next h0=>
  rw[if_neg h0]
  have:=c1G h
  exact decide_eq_true (by omega)
theorem a9f(pre:List Int)(far:Nat):∀ n o,far<=o.length->1<=far->copyT far n (pre++o)=pre++copyT far n o
 | 0,o,_,_=>rfl
 | n+1,o,h,h1=>by
  have e:nth (pre++o) ((pre++o).length-far)=nth o (o.length-far):=by
   rw[c1n,show pre.length+o.length-far=pre.length+(o.length-far) by omega,a0v]
  rw[copyT,copyT,e,c1v,a9f pre far n _ (by rw[c1n];omega) h1]
theorem a9F{t:Tok}{a:Nat}(h:mayT t a=true):0<=t.2.1:=by
 unfold mayT at h
 split at h
 ·omega
 ·have:=c1G h;omega
theorem b8i(pre:List Int){t:Tok}{o:List Int}(h:mayT t o.length=true):tokT t (pre++o)=pre++tokT t o:=by
 unfold tokT
 unfold mayT at h
 split
 ·rw[c1v]
 ·next h0=>
  rw[if_neg h0] at h
  have:=c1G h
  exact a9f pre _ _ o (by omega) (by omega)
theorem a3D{most:Nat}{t:Tok}{ts:List Tok}{out:List Int}(h:(expandF most (t::ts) out).2=0):mayT t out.length=true/\out.length+max 1 t.2.1.toNat<=most/\expandF most (t::ts) out=expandF most ts (tokT t out):=by
 have hml:mayT t out.length=true:=by
  rw[expandF] at h
  by_cases hm:mayT t out.length=false
  ·rw[if_pos hm] at h;simp at h
  ·simpa using hm
 have hmo:¬most<out.length+max 1 t.2.1.toNat:=by
  intro hm
  rw[expandF,if_neg (by rw[hml];decide),if_pos hm] at h;simp at h
 exact⟨hml,by omega,by rw[expandF,if_neg (by rw[hml];decide),if_neg hmo]⟩
theorem a3C{most:Nat}:∀ (ts:List Tok) (out:List Int),(expandF most ts out).2=0->out.length+ts.length<=(expandF most ts out).1.length
 | [],out,_=>by simp[expandF]
 | t::ts,out,h=>by
  obtain⟨h1,h2,h3⟩:=a3D h
  rw[h3] at h ⊢
  have:=a3C ts (tokT t out) h
  rw[a5D t out (a9F h1)] at this
  rw[c1o];omega
theorem a7p(pre:List Int){M most:Nat}:∀ (ts:List Tok) (o:List Int),(expandF M ts o).2=0->pre.length+(expandF M ts o).1.length<=most->expandF most ts (pre++o)=(pre++(expandF M ts o).1,0)
 | [],o,_,_=>rfl
 | t::ts,o,h,hm=>by
  obtain⟨h1,h2,h3⟩:=a3D h
  rw[h3] at h hm ⊢
  have hg:=a3C ts (tokT t o) h
  rw[a5D t o (a9F h1)] at hg
  have ih:=a7p pre ts (tokT t o) h hm
  rw[expandF,if_neg (by rw[b7G h1 (by rw[c1n];omega)];decide),if_neg (by rw[c1n];omega),b8i pre h1,ih]
theorem a1I{l:List Int}{s:Nat}(h:Tells l s):1<=(cbit l s).length/\(cbit l s).length<=15:=by
 rw[b2o];obtain⟨a,b,c⟩:=h;omega
theorem b3a{lit dist:List Int}:∀ (ts:List Tok),(∀ t∈ts,TokOk lit dist t)->ts.length<=(toksB lit dist ts).length
 | [],_=>c1r _
 | t::ts,h=>by
  have ih:=b3a ts (fun u hu=>h u (c1y _ hu))
  obtain⟨a,b⟩:=h t c1s
  have e:toksB lit dist (t::ts)=tokB lit dist t++toksB lit dist ts:=by simp[toksB]
  rw[e,c1n,c1o]
  have:1<=(tokB lit dist t).length:=by
   unfold tokB
   split
   ·next h0=>exact (a1I (a h0).2.2).1
   ·next h0=>rw[c1n];have:=(a1I (b h0).1).1;omega
  omega
theorem a5L{bs:List Int}{most f:Nat}{out:List Int}{p:Nat}(h3:p+3<=8*bs.length)(hb:numB bs p 1=1):blksF bs most (f+1) out p=a1m bs most (numB bs (p+1) 2) out (p+3):=by
 rw[blksF,if_neg (by omega),if_neg (by omega)]
 split
 ·rfl
 ·rw[if_neg (by omega)]
theorem b3c{xs bl:List Int}(h:WB xs bl):bl.length<=8*xs.length/\(bl.length+7)/8=xs.length:=by have:=h.len;omega
theorem b0g {lit dist xs:List Int} {pre out data:List Int} {most p q:Nat} {ts:List Tok} (hc:a0f lit=0) (htk:∀ t∈ts,TokOk lit dist t) (h256:Tells lit 256) {M:Nat} (hex:expandF M ts []=(data,0))
  (hm:out.length+data.length<=most) (hat:At xs p (toksB lit dist ts++cbit lit 256)) (hT:p+(toksB lit dist ts++cbit lit 256).length<=8*xs.length) :
  symF lit dist xs most (8*xs.length+1) out p=(out++data,p+(toksB lit dist ts++cbit lit 256).length,0):=by
 have e:=a7p out (most:=most) ts [] (by rw[hex]) (by rw[hex];exact hm)
 rw[c1I,hex] at e
 have hge:=b3a ts htk
 rw[c1n] at hT
 have:=b8T (most:=most) hc ts (8*xs.length+1) p out htk h256 (by rw[e]) (by omega) (by rw[c1n];exact hT) hat
 rw[this,e]
def fixB(ts:List Tok):List Int:=[1,1,0]++(toksB fixLit fixDist ts++cbit fixLit 256)
def dynB(lit dist:List Int)(ts:List Tok):List Int:=[1,0,1]++(a1U lit dist++(toksB lit dist ts++cbit lit 256))
theorem b4Y:a0f fixLit=0:=by decide +kernel
theorem b7d:a0f fixDist=0:=by decide +kernel
theorem a2W(s:Nat)(h:s<288):Tells fixLit s:=by
 have:∀ s,s<288->s<fixLit.length/\1<=nth fixLit s/\nth fixLit s<=15:=by decide +kernel
 exact this s h
theorem b3u(s:Nat)(h:s<32):Tells fixDist s:=by
 have:∀ s,s<32->s<fixDist.length/\1<=nth fixDist s/\nth fixDist s<=15:=by decide +kernel
 exact this s h
def LitOk(ts:List Tok):Prop:=∀ t∈ts,0<=t.1/\t.1<=255
theorem a1b{M:Nat}:∀ (ts:List Tok) (out:List Int),(expandF M ts out).2=0->∀ t∈ts,t.2.1≠0->3<=t.2.1/\t.2.1<=258/\1<=t.2.2/\t.2.2<=32768
 | [],_,_,t,ht,_=>by cases ht
 | u::ts,out,h,t,ht,h0=>by
  obtain⟨h1,h2,h3⟩:=a3D h
  rw[h3] at h
  rcases c1w.1 ht with rfl|ht
  ·unfold mayT at h1
   rw[if_neg h0] at h1
   have:=c1G h1
   omega
  ·exact a1b ts _ h t ht h0
theorem a8e{M:Nat}{ts:List Tok}{out:List Int}(hl:LitOk ts)(h:(expandF M ts out).2=0):∀ t∈ts,TokOk fixLit fixDist t:=fun t ht=>by
 obtain⟨a,b⟩:=hl t ht
 refine⟨fun h0=>⟨a,b,a2W _ (by omega)⟩,fun h0=>?_⟩
 obtain⟨c1,c2,c3,c4⟩:=a1b ts out h t ht h0
 obtain⟨d1,d2,-⟩:=a3a t.2.1.toNat (by omega) (by omega)
 obtain⟨e1,-⟩:=a3q t.2.2.toNat (by omega) (by omega)
 exact⟨a2W _ (by omega),b3u _ (by omega),b7d⟩
theorem a4i{xs:List Int}{p:Nat}{bl:List Int}{n:Nat}{v:Int}(h:At xs p bl)(hb:vbits v n=bl)(h0:0<=v)(h1:v<2^n):numB xs p n=v:=a3f (by rw[hb];exact h) h0 h1
theorem b0R{xs data:List Int}{ts:List Tok}{M:Nat}(hw:WB xs (fixB ts))(hl:LitOk ts)(hex:expandF M ts []=(data,0)):FinalOf xs data:=fun pre out most f hm=>by
 obtain⟨w1,w2⟩:=b3c hw
 have hat:=a8O (pre:=pre) (c0R hw)
 rw[c1M] at hat
 have hxl:(pre++xs).length=pre.length+xs.length:=c1n
 have hl3:(fixB ts).length=3+(toksB fixLit fixDist ts++cbit fixLit 256).length:=by unfold fixB;rw[c1n];rfl
 obtain⟨a1,a2⟩:=a1K.1 hat
 rw[show ([1,1,0]:List Int)=[1]++[1,0] from rfl] at a1
 obtain⟨b1,b2⟩:=a1K.1 a1
 have n1:numB (pre++xs) (8*pre.length) 1=1:=a4i b1 (by decide) (by decide) (by decide)
 have n2:numB (pre++xs) (8*pre.length+1) 2=1:=a4i b2 (by decide) (by decide) (by decide)
 have hs:=b0g (xs:=pre++xs) (pre:=pre) (out:=out) (data:=data) (most:=most) (p:=8*pre.length+3) (q:=0) b4Y (a8e hl (by rw[hex])) (a2W 256 (by decide)) hex hm a2 (by omega)
 refine⟨8*pre.length+3+(toksB fixLit fixDist ts++cbit fixLit 256).length,?_,?_⟩
 ·rw[a5L (by omega) n1,n2,a1m,if_neg (by decide),if_pos rfl,hs]
 ·omega
structure Codable (lit dist:List Int):Prop where
 may:MayW lit dist
 litC:a0f lit=0
 distC:a0X dist=true->a0f dist=0
 stop:Tells lit 256
theorem b4W{xs data lit dist:List Int}{ts:List Tok}{M:Nat}(hw:WB xs (dynB lit dist ts))(hc:Codable lit dist)(htk:∀ t∈ts,TokOk lit dist t)(hex:expandF M ts []=(data,0)):FinalOf xs data:=fun pre out most f hm=>by
 obtain⟨w1,w2⟩:=b3c hw
 have hat:=a8O (pre:=pre) (c0R hw)
 rw[c1M] at hat
 have hxl:(pre++xs).length=pre.length+xs.length:=c1n
 have hl3:(dynB lit dist ts).length=3+((a1U lit dist).length+(toksB lit dist ts++cbit lit 256).length):=by unfold dynB;rw[c1n,c1n];rfl
 obtain⟨a1,a2⟩:=a1K.1 hat
 obtain⟨a3,a4⟩:=a1K.1 a2
 rw[show ([1,0,1]:List Int)=[1]++[0,1] from rfl] at a1
 obtain⟨b1,b2⟩:=a1K.1 a1
 have n1:numB (pre++xs) (8*pre.length) 1=1:=a4i b1 (by decide) (by decide) (by decide)
 have n2:numB (pre++xs) (8*pre.length+1) 2=2:=a4i b2 (by decide) (by decide) (by decide)
 have hh:headF (pre++xs) (8*pre.length+3)=(lit,dist,(a1U lit dist).length,0):=hc.may.read (p:=8*pre.length+3) (by omega) a3
 have hce:a0N (headF (pre++xs) (8*pre.length+3))=0:=by
  rw[hh];unfold a0N
  have:=hc.stop.2.1
  rw[if_neg (by simp),if_neg (by simp only[];omega),if_neg (by simp only[];rw[hc.litC];decide),if_neg]
  rintro ⟨h1,h2⟩;exact h2 (hc.distC h1)
 have hs:=b0g (xs:=pre++xs) (pre:=pre) (out:=out) (data:=data) (most:=most) (p:=8*pre.length+3+(a1U lit dist).length) (q:=0) hc.litC htk hc.stop hex hm a4 (by omega)
 refine⟨8*pre.length+3+(a1U lit dist).length+(toksB lit dist ts++cbit lit 256).length,?_,?_⟩
 ·rw[a5L (by omega) n1,n2,a1m,if_neg (by decide),if_neg (by decide),if_pos rfl,if_neg (by rw[hce];decide),hh]
  exact hs
 ·omega
def storB(b:Int)(data:List Int):List Int:=[b,(data.length:Int)%256,(data.length:Int)/256,255-(data.length:Int)%256,255-(data.length:Int)/256]++data
theorem a2h(b:Int)(data:List Int):(storB b data).length=5+data.length:=by unfold storB;rw[c1n];rfl
theorem a4h(bs:List Int)(j:Nat)(hb:0<=nth bs j/\nth bs j<=255):numB bs (8*j) 8=nth bs j:=by
 rw[a3e bs (8*j) 8 (by omega),show 8*j/8=j by omega,show 8*j%8=0 by omega]
 omega
theorem b6j(bs:List Int)(most:Nat):∀ (data out:List Int) (j:Nat),(∀ i,i<data.length->nth bs (j+i)=nth data i)->(∀ x∈data,0<=x/\x<=255)->j+data.length<=bs.length->out.length+data.length<=most ->
  storF bs most data.length out (8*j)=(out++data,8*(j+data.length),0)
 | [],out,j,_,_,_,_=>by simp[storF]
 | x::data,out,j,h,hb,hl,hm=>by
  rw[c1o] at *
  have h0:nth bs j=x:=by simpa [nth] using h 0 (by omega)
  have hx:=hb x c1s
  rw[storF,if_neg (by omega),if_neg (by omega),a4h bs j (by rw[h0];exact hx),h0,show 8*j+8=8*(j+1) by omega,
   b6j bs most data (out++[x]) (j+1) (fun i hi=>by
    have:=h (i+1) (by omega)
    rw[show j+1+i=j+(i+1) by omega,this];simp[nth]) (fun y hy=>hb y (c1y _ hy)) (by omega) (by rw[c1n,c1J];omega)]
  rw[c1v]
  simp only[List.singleton_append,Prod.mk.injEq,and_true,true_and]
  omega
theorem b6k(pre post data out:List Int)(b:Int)(most:Nat)(hb:b=0∨b=1)(hd:∀ x∈data,0<=x/\x<=255)(hl:data.length<=65535)(hm:out.length+data.length<=most) :
  numB (pre++(storB b data++post)) (8*pre.length) 1=b/\numB (pre++(storB b data++post)) (8*pre.length+1) 2=0 /\
  a0G (pre++(storB b data++post)) most out (8*pre.length+3)=(out++data,8*(pre.length+5+data.length),0):=by
 obtain⟨bs,hbs⟩:∃ bs,bs=pre++(storB b data++post):=⟨_,rfl⟩
 have hlen:bs.length=pre.length+5+data.length+post.length:=by rw[hbs,c1n,c1n,a2h];omega
 have hat:∀ i,i<5+data.length->nth bs (pre.length+i)=nth (storB b data) i:=fun i hi=>by
  rw[hbs,a0v,a1d _ _ _ (by rw[a2h];exact hi)]
 have e0:nth bs pre.length=b:=by simpa [storB,nth] using hat 0 (by omega)
 have e1:nth bs (pre.length+1)=(data.length:Int)%256:=by simpa [storB,nth] using hat 1 (by omega)
 have e2:nth bs (pre.length+2)=(data.length:Int)/256:=by simpa [storB,nth] using hat 2 (by omega)
 have e3:nth bs (pre.length+3)=255-(data.length:Int)%256:=by simpa [storB,nth] using hat 3 (by omega)
 have e4:nth bs (pre.length+4)=255-(data.length:Int)/256:=by simpa [storB,nth] using hat 4 (by omega)
 have ed:∀ i,i<data.length->nth bs (pre.length+5+i)=nth data i:=fun i hi=>by
  rw[c1E,hat (5+i) (by omega)]
  have:=a0v [b,(data.length:Int)%256,(data.length:Int)/256,255-(data.length:Int)%256,255-(data.length:Int)/256] data i
  exact this
 rw[<-hbs]
 have n1:numB bs (8*pre.length) 1=b:=by
  rw[a3e bs _ 1 (by omega),show 8*pre.length/8=pre.length by omega,show 8*pre.length%8=0 by omega,e0]
  rcases hb with rfl|rfl<;>decide
 have n2:numB bs (8*pre.length+1) 2=0:=by
  rw[a3e bs _ 2 (by omega),show (8*pre.length+1)/8=pre.length by omega,show (8*pre.length+1)%8=1 by omega,e0]
  rcases hb with rfl|rfl<;>decide
 refine⟨n1,n2,?_⟩
 have hal:a1T (8*pre.length+3)=8*(pre.length+1):=by unfold a1T;omega
 have m1:=a4h bs (pre.length+1) (by rw[e1];omega)
 have m2:=a4h bs (pre.length+2) (by rw[e2];omega)
 have m3:=a4h bs (pre.length+3) (by rw[e3];omega)
 have m4:=a4h bs (pre.length+4) (by rw[e4];omega)
 have p1:numB bs (8*(pre.length+1)) 16=data.length:=by
  rw[show (16:Nat)=8+8 from rfl,a5x,m1,show 8*(pre.length+1)+8=8*(pre.length+2) by omega,m2,e1,e2]
  show (data.length:Int)%256+(data.length:Int)/256*256=_
  omega
 have p2:numB bs (8*(pre.length+1)+16) 16=65535-data.length:=by
  rw[show 8*(pre.length+1)+16=8*(pre.length+3) by omega,show (16:Nat)=8+8 from rfl,a5x,m3,show 8*(pre.length+3)+8=8*(pre.length+4) by omega,m4,e3,e4]
  show 255-(data.length:Int)%256+(255-(data.length:Int)/256)*256=_
  omega
 unfold a0G
 rw[hal,p1,p2,if_neg (by omega),if_neg (by omega),if_neg (by omega),c1C,show 8*(pre.length+1)+32=8*(pre.length+5) by omega,
  b6j bs most data out (pre.length+5) ed hd (by omega) hm]
theorem a9n{data:List Int}(hd:∀ x∈data,0<=x/\x<=255)(hl:data.length<=65535):FinalOf (storB 1 data) data:=fun pre out most f hm=>by
 obtain⟨a1,a2,a3⟩:=b6k pre [] data out 1 most (.inr rfl) hd hl hm
 rw[c1I] at a1 a2 a3
 refine⟨8*(pre.length+5+data.length),?_,?_⟩
 ·rw[a5L (by rw[c1n,a2h];omega) a1,a2,a1m,if_pos rfl,a3]
 ·rw[a2h];omega
def cl(xs:List Int)(i d:Nat):Nat->Nat->Nat
 | 0,n=>n
 | f+1,n=>if i+n<xs.length/\nth xs (i+n)=nth xs (i+n-d) then cl xs i d f (n+1) else n
theorem a7W(xs:List Int)(i d:Nat):∀ f n,n<=cl xs i d f n/\cl xs i d f n<=n+f/\(∀ k,n<=k->k<cl xs i d f n->i+k<xs.length/\nth xs (i+k)=nth xs (i+k-d)) /\
  (cl xs i d f n<n+f->¬(i+cl xs i d f n<xs.length/\nth xs (i+cl xs i d f n)=nth xs (i+cl xs i d f n-d)))
 | 0,n=>⟨c1r _,c1r _,fun k h1 h2=>by rw[cl] at h2;omega,fun h=>by rw[cl] at h;omega⟩
 | f+1,n=>by
  rw[cl]
  split
  ·next h=>
   obtain⟨a1,a2,a3,a4⟩:=a7W xs i d f (n+1)
   refine⟨by omega,by omega,fun k h1 h2=>?_,fun h2=>a4 (by omega)⟩
   rcases c1H n k with h3|h3
   ·exact a3 k h3 h2
   ·obtain rfl:k=n:=by omega
    exact h
  ·next h=>exact⟨c1r _,by omega,fun k h1 h2=>by omega,fun _=>h⟩
def clF(xs:List Int)(i d:Nat):Nat:=cl xs i d 258 0
theorem b4R(xs:List Int)(i d:Nat):clF xs i d<=258:=by have:=(a7W xs i d 258 0).2.1;unfold clF;omega
theorem b4Q(xs:List Int)(i d k:Nat)(h:k<clF xs i d):i+k<xs.length/\nth xs (i+k)=nth xs (i+k-d):=(a7W xs i d 258 0).2.2.1 k (c1F _) h
theorem a5O(xs:List Int)(i d:Nat)(hi:i<=xs.length):i+clF xs i d<=xs.length:=by
 rcases Nat.eq_zero_or_pos (clF xs i d) with h|h
 ·omega
 ·have:=(b4Q xs i d (clF xs i d-1) (by omega)).1;omega
theorem b8A(xs:List Int)(i d n:Nat)(h:∀ k,k<n->i+k<xs.length/\nth xs (i+k)=nth xs (i+k-d))(hn:n<=258)(hend:n=258∨i+n≥xs.length∨nth xs (i+n)≠nth xs (i+n-d)):clF xs i d=n:=by
 obtain⟨a1,a2,a3,a4⟩:=a7W xs i d 258 0
 rw[show cl xs i d 258 0=clF xs i d from rfl] at *
 rcases Nat.lt_trichotomy (clF xs i d) n with h1|h1|h1
 ·exact absurd (h _ h1) (a4 (by omega))
 ·exact h1
 ·have:=a3 n (c1F _) h1
  rcases hend with h2|h2|h2
  ·omega
  ·omega
  ·exact absurd this.2 h2
def updF(b:Nat×Nat)(n d:Nat):Nat×Nat:=if 3<=n/\b.1<n then (n,d) else b
def bestF(xs:List Int)(i:Nat):Nat->Nat×Nat
 | 0=>(0,0)
 | d+1=>updF (bestF xs i d) (clF xs i (d+1)) (d+1)
theorem a5J(xs:List Int)(i:Nat):∀ d,bestF xs i d=(0,0)∨(3<=(bestF xs i d).1/\1<=(bestF xs i d).2/\(bestF xs i d).2<=d/\clF xs i (bestF xs i d).2=(bestF xs i d).1)
 | 0=>.inl rfl
 | d+1=>by
  rw[bestF,updF]
  split
  ·next h=>exact .inr ⟨h.1,by simp,by simp,rfl⟩
  ·rcases a5J xs i d with h|⟨h1,h2,h3,h4⟩
   ·exact .inl h
   ·exact .inr ⟨h1,h2,by omega,h4⟩
theorem a5I(xs:List Int)(i a:Nat):∀ b,a<=b->(∀ e,a<e->e<=b->clF xs i e<3∨clF xs i e<=(bestF xs i a).1)->bestF xs i b=bestF xs i a
 | 0,h,_=>by obtain rfl:a=0:=(by omega);rfl
 | b+1,h,hs=>by
  rcases Nat.eq_or_lt_of_le h with h1|h1
  ·rw[h1]
  ·have ih:=a5I xs i a b (by omega) (fun e h2 h3=>hs e h2 (by omega))
   rw[bestF,ih,updF,if_neg]
   have:=hs (b+1) (by omega) (c1r _)
   omega
def mF(xs:List Int)(i:Nat):Nat×Nat:=bestF xs i i
theorem b1f(xs:List Int)(i:Nat):mF xs i=(0,0)∨(3<=(mF xs i).1/\1<=(mF xs i).2/\(mF xs i).2<=i/\clF xs i (mF xs i).2=(mF xs i).1):=a5J xs i i
theorem b7B(xs:List Int)(i:Nat)(hi:i<=xs.length)(h:xs.length<i+3):mF xs i=(0,0):=by
 rcases b1f xs i with h1|⟨h1,h2,h3,h4⟩
 ·exact h1
 ·have:=a5O xs i (mF xs i).2 hi;omega
theorem b5w(xs:List Int)(i d:Nat)(hi:i<=xs.length)(hd:d<=i)(h:(bestF xs i d).1=min 258 (xs.length-i)):mF xs i=bestF xs i d:=
 a5I xs i d i hd (fun e _ _=>.inr (by have:=b4R xs i e;have:=a5O xs i e hi;omega))
def lastF(h:Nat->Nat)(v:Nat):Nat->Nat
 | 0=>0
 | k+1=>if h k=v then k+1 else lastF h v k
theorem a1Z(h:Nat->Nat)(v:Nat):∀ k,lastF h v k<=k/\(∀ j,lastF h v k<=j->j<k->h j≠v)/\(lastF h v k≠0->h (lastF h v k-1)=v)
 | 0=>⟨c1r _,fun j _ h2=>by omega,fun h2=>absurd rfl h2⟩
 | k+1=>by
  rw[lastF]
  split
  ·next h1=>exact⟨c1r _,fun j h2 h3=>by omega,fun _=>by simpa using h1⟩
  ·next h1=>
   obtain⟨a1,a2,a3⟩:=a1Z h v k
   refine⟨by omega,fun j h2 h3=>?_,a3⟩
   rcases c1H j k with h4|h4
   ·exact a2 j h2 h4
   ·obtain rfl:j=k:=by omega
    exact h1
def c0h(xs:List Int)(h:Nat->Nat):Prop:=∀ i j,(∀ k,k<3->nth xs (i+k)=nth xs (j+k))->h i=h j
theorem a7h{xs:List Int}{h:Nat->Nat}(hm:c0h xs h)(i at_:Nat)(ha:at_<=i):bestF xs i (i-lastF h (h i) at_)=bestF xs i (i-at_):=by
 obtain⟨a1,a2,-⟩:=a1Z h (h i) at_
 refine a5I xs i (i-at_) _ (by omega) (fun e h1 h2=>.inl ?_)
 rcases c1H (clF xs i e) 3 with h3|h3
 ·exact h3
 ·exfalso
  refine a2 (i-e) (by omega) (by omega) (hm _ _ (fun k hk=>?_))
  have:=(b4Q xs i e k (by omega)).2
  rw[this,show i+k-e=i-e+k by omega]
def findF(xs:List Int):Nat->Nat->List Tok
 | 0,_=>[]
 | f+1,i=>if i<xs.length then (if (mF xs i).1=0∨(mF xs i).1<(mF xs (i+1)).1 then (nth xs i,0,0)::findF xs f (i+1) else (0,((mF xs i).1:Int),((mF xs i).2:Int))::findF xs f (i+(mF xs i).1)) else []
def tokensF(xs:List Int):List Tok:=findF xs xs.length 0
theorem a4s{xs:List Int}{i:Nat}(h:i<xs.length):xs.take (i+1)=xs.take i++[nth xs i]:=by
 rw[List.take_add_one,List.getElem?_eq_getElem h]
 simp[nth,List.getD,h]
theorem a9g{xs:List Int}{d:Nat}(h1:1<=d):∀ n i,d<=i->(∀ k,k<n->i+k<xs.length/\nth xs (i+k)=nth xs (i+k-d))->copyT d n (xs.take i)=xs.take (i+n)
 | 0,i,_,_=>rfl
 | n+1,i,hd,h=>by
  obtain⟨a1,a2⟩:=h 0 (by omega)
  rw[c1M] at a1 a2
  have hl:(xs.take i).length=i:=by rw[c1x];omega
  have e:nth (xs.take i) ((xs.take i).length-d)=nth xs i:=by
   rw[hl,a2]
   simp[nth,List.getD,List.getElem?_take,show i-d<i by omega]
  rw[copyT,e,<-a4s a1,a9g h1 n (i+1) (by omega) (fun k hk=>by
   have:=h (k+1) (by omega)
   rw[show i+1+k=i+(k+1) by omega];exact this)]
  rw[show i+1+n=i+(n+1) by omega]
theorem a3E{xs:List Int}{most:Nat}(hm:xs.length<=most)(h16:xs.length<=16384):∀ f i,i<=xs.length->xs.length<=i+f->expandF most (findF xs f i) (xs.take i)=(xs,0)
 | 0,i,h,hf=>by
  obtain rfl:i=xs.length:=by omega
  rw[findF,expandF,c1D]
 | f+1,i,h,hf=>by
  rw[findF]
  by_cases hi:i<xs.length
  ·have hl:(xs.take i).length=i:=by rw[c1x];omega
   rw[if_pos hi]
   by_cases hc:(mF xs i).1=0∨(mF xs i).1<(mF xs (i+1)).1
   ·have e:tokT (nth xs i,0,0) (xs.take i)=xs.take (i+1):=by rw[a4s hi];rfl
    rw[if_pos hc,expandF,if_neg (by simp[mayT]),if_neg (by rw[hl];simp;omega),e]
    exact a3E hm h16 f (i+1) (by omega) (by omega)
   ·rcases b1f xs i with h0|⟨h1,h2,h3,h4⟩
    ·exact absurd (.inl (by rw[h0])) hc
    have hc2:=b4R xs i (mF xs i).2
    have hc3:=a5O xs i (mF xs i).2 h
    have e:tokT (0,((mF xs i).1:Int),((mF xs i).2:Int)) (xs.take i)=xs.take (i+(mF xs i).1):=by
     unfold tokT
     have hne:¬(((mF xs i).1:Int)=0):=by omega
     rw[if_neg hne]
     simp only[c1C]
     exact a9g h2 _ i h3 (fun k hk=>b4Q xs i _ k (by omega))
    have hmay:mayT (0,((mF xs i).1:Int),((mF xs i).2:Int)) (xs.take i).length=true:=by
     unfold mayT
     have hne:¬(((mF xs i).1:Int)=0):=by omega
     rw[if_neg hne,hl]
     exact decide_eq_true (by refine⟨rfl,?_,?_,?_,?_,?_⟩<;>simp only[]<;>omega)
    rw[if_neg hc,expandF,if_neg (by rw[hmay];decide),if_neg (by show ¬most<(xs.take i).length+max 1 (((mF xs i).1:Int)).toNat;rw[hl,c1C];omega),e]
    exact a3E hm h16 f _ (by omega) (by omega)
  ·obtain rfl:i=xs.length:=by omega
   rw[if_neg hi,expandF,c1D]
theorem a4u{xs:List Int}{most:Nat}(hm:xs.length<=most)(h16:xs.length<=16384):expandF most (tokensF xs) []=(xs,0):=a3E hm h16 xs.length 0 (c1F _) (by omega)
theorem a3T{xs:List Int}(hb:∀ j,0<=nth xs j/\nth xs j<=255):∀ f i,LitOk (findF xs f i)
 | 0,i=>fun t ht=>by cases ht
 | f+1,i=>by
  rw[findF]
  split
  ·split
   ·intro t ht
    rcases c1w.1 ht with rfl|ht
    ·exact hb i
    ·exact a3T hb f _ t ht
   ·intro t ht
    rcases c1w.1 ht with rfl|ht
    ·exact⟨by simp,by simp⟩
    ·exact a3T hb f _ t ht
  ·intro t ht;cases ht
theorem a3U(xs:List Int):∀ f f' i,xs.length<=i+f->xs.length<=i+f'->findF xs f i=findF xs f' i
 | 0,0,i,_,_=>rfl
 | 0,f'+1,i,h,_=>by rw[findF,findF,if_neg (by omega)]
 | f+1,0,i,_,h=>by rw[findF,findF,if_neg (by omega)]
 | f+1,f'+1,i,h,h'=>by
  rw[findF,findF]
  by_cases hi:i<xs.length
  ·rw[if_pos hi,if_pos hi]
   by_cases hc:(mF xs i).1=0∨(mF xs i).1<(mF xs (i+1)).1
   ·rw[if_pos hc,if_pos hc,a3U xs f f' (i+1) (by omega) (by omega)]
   ·rw[if_neg hc,if_neg hc,a3U xs f f' _ (by omega) (by omega)]
  ·rw[if_neg hi,if_neg hi]
theorem a8c(xs:List Int):∀ f i,(findF xs f i).length<=f
 | 0,i=>c1r _
 | f+1,i=>by
  rw[findF]
  split
  ·split<;>rw[c1o]<;>have h1:=a8c xs f (i+1)<;>have h2:=a8c xs f (i+(mF xs i).1)<;>omega
  ·simp
def hN(a b c:Nat):Nat:=((a*256 ^^^ b*16) ^^^ c)%4096
theorem c1c(a b c:Nat):hN a b c<4096:=Nat.mod_lt _ (by decide)
theorem b6z(a b:Nat)(ha:a<2^62)(hb:b<2^62):Go.bits .xor .i64 (a:Int) (b:Int)=((a ^^^ b:Nat):Int):=by
 have h:=Nat.xor_lt_two_pow ha hb
 simp only[Go.bits,BitVec.ofInt_natCast,BitVec.toNat_xor,BitVec.toNat_ofNat,show a%2^IntKind.i64.bits=a from Nat.mod_eq_of_lt (c1U ha (by decide)),show b%2^IntKind.i64.bits=b from Nat.mod_eq_of_lt (c1U hb (by decide))]
 exact c1Q _ (by omega)
theorem b6N(a:Nat)(ha:a<2^62):Go.bits .and .i64 (a:Int) 4095=((a%4096:Nat):Int):=by
 have e:Go.bits .and .i64 (a:Int) ((4095:Nat):Int)=((a &&& 4095:Nat):Int):=by
  have h:a &&& 4095<=a:=Nat.and_le_left
  simp only[Go.bits,BitVec.ofInt_natCast,BitVec.toNat_and,BitVec.toNat_ofNat,show a%2^IntKind.i64.bits=a from Nat.mod_eq_of_lt (c1U ha (by decide)),show 4095%2^IntKind.i64.bits=4095 from rfl]
  exact c1Q _ (by omega)
 rw[show (4095:Int)=((4095:Nat):Int) from rfl,e,show (4095:Nat)=2^12-1 from rfl,Nat.and_two_pow_sub_one_eq_mod]
theorem b7g(a b c:Int)(ha:0<=a/\a<=255)(hb:0<=b/\b<=255)(hc:0<=c/\c<=255) :
  Go.bits .and .i64 (Go.bits .xor .i64 (Go.bits .xor .i64 (a*256) (b*16)) c) 4095=(hN a.toNat b.toNat c.toNat:Int):=by
 obtain⟨x,rfl⟩:=c1z ha.1
 obtain⟨y,rfl⟩:=c1z hb.1
 obtain⟨z,rfl⟩:=c1z hc.1
 rw[show ((x:Int)*256)=((x*256:Nat):Int) by omega,show ((y:Int)*16)=((y*16:Nat):Int) by omega]
 have h1:x*256 ^^^ y*16<2^62:=Nat.xor_lt_two_pow (by omega) (by omega)
 rw[b6z _ _ (by omega) (by omega),b6z _ _ h1 (by omega),b6N _ (Nat.xor_lt_two_pow h1 (by omega))]
 rfl
def hashF(xs:List Int)(j:Nat):Nat:=hN (nth xs j).toNat (nth xs (j+1)).toNat (nth xs (j+2)).toNat
theorem a8g(xs:List Int)(j:Nat):hashF xs j<4096:=c1c _ _ _
theorem a5X(xs:List Int):c0h xs (hashF xs):=fun i j h=>by
 unfold hashF
 rw[show nth xs i=nth xs j by simpa using h 0 (by omega),h 1 (by omega),h 2 (by omega)]
open Go.RowKit
def cutA(A:Option Addr)(l c:Nat):Option Addr:=if c=l then A else A.map (·.add l)
theorem b6Y{A:Option Addr}{l c n:Nat}(h:A=none->n=0/\c=0):cutA A l c=none->n-l=0/\c-l=0:=by
 unfold cutA
 intro e
 have:A=none:=by
  split at e
  ·exact e
  ·simpa using e
 have:=h this
 omega
theorem RI.cut{k:IntKind}{w:World}{A:Option Addr}{n c:Nat}{xs:List Int}(h:RI k w A n xs)(hpl:∀ ad,A=some ad->∃ b o,ad=⟨b,o,none⟩){l:Nat}(hl:l<=n)(hc:n<=c):RI k w (cutA A l c) (n-l) (xs.drop l):=by
 have hlen:=h.len
 refine⟨by rw[List.length_drop,hlen],fun hp=>?_,fun b o ha j hj=>?_⟩
 ·obtain⟨b,o,rfl⟩:=h.hd (by omega)
  unfold cutA
  rw[if_neg (by omega)]
  exact⟨b,o+l,by simp[a0t]⟩
 ·unfold cutA at ha
  rw[if_neg (by omega)] at ha
  obtain⟨b',o',rfl⟩:=h.hd (by omega)
  simp[a0t] at ha
  obtain⟨rfl,rfl⟩:=ha
  rw[c1E,h.cell b' o' rfl (l+j) (by omega)]
  simp[nth,List.getD]
open Go.RowKit
def CapOk(A:Option Addr)(n c:Nat):Prop:=n<=c/\c<=maxLen/\(0<c->∃ b o,A=some ⟨b,o,none⟩)
theorem a3v(w:World)(A:Option Addr)(n c l h:Nat)(li hi:Int)(hli:li=l)(hhi:hi=h)(hl:l<=h)(hh:h<=n)(hc:CapOk A n c) :
  (Instr.slice 26 (.slice A n c) (some (.int .i64 li)) (some (.int .i64 hi)) none).run Tryz.prog w=.ok (.slice (cutA A l c) (h-l) (c-l)) w:=by
 obtain⟨h1,-,h3⟩:=hc
 subst hli
 subst hhi
 rw[run_slice_lh w 26 A n c (by kernel_rfl) .i64 .i64 l h (by omega) (by omega) (by omega)]
 have hs:(sizeOf (Tryz.prog.elem 26)).run Tryz.prog w=.ok 1 w:=by kernel_rfl
 rw[hs]
 simp[Result.andThen,sliced,cutA]
theorem RI.mid{k:IntKind}{w:World}{A:Option Addr}{n c:Nat}{xs:List Int}(h:RI k w A n xs)(hc:CapOk A n c){l m:Nat}(hl:l<=m)(hm:m<=n):RI k w (cutA A l c) (m-l) ((xs.take m).drop l):=by
 obtain⟨h1,-,h3⟩:=hc
 have hlen:=h.len
 refine⟨by rw[List.length_drop,c1x,hlen];omega,fun hp=>?_,fun b o ha j hj=>?_⟩
 ·obtain⟨b,o,rfl⟩:=h3 (by omega)
  unfold cutA
  rw[if_neg (by omega)]
  exact⟨b,o+l,by simp[a0t]⟩
 ·unfold cutA at ha
  rw[if_neg (by omega)] at ha
  obtain⟨b',o',rfl⟩:=h3 (by omega)
  simp[a0t] at ha
  obtain⟨rfl,rfl⟩:=ha
  rw[c1E,h.cell b' o' rfl (l+j) (by omega)]
  have e:nth ((xs.take m).drop l) j=nth xs (l+j):=by
   rw[<-b2F xs m (l+j) (by omega)]
   simp[nth,List.getD]
  rw[e]
theorem b0O{A:Option Addr}{n c l m:Nat}(hc:CapOk A n c)(hnil:A=none->n=0/\c=0)(hl:l<=m)(hm:m<=n):cutA A l c=none->m-l=0/\c-l=0:=by
 intro e
 have:=b6Y (l:=l) hnil e
 omega
theorem CapOk.mid{A:Option Addr}{n c l m:Nat}(hc:CapOk A n c)(hl:l<=m)(hm:m<=n):CapOk (cutA A l c) (m-l) (c-l):=by
 obtain⟨h1,h2,h3⟩:=hc
 refine⟨by omega,by omega,fun hp=>?_⟩
 obtain⟨b,o,rfl⟩:=h3 (by omega)
 unfold cutA
 rw[if_neg (by omega)]
 exact⟨b,o+l,by simp[a0t]⟩
theorem CapOk.to{A:Option Addr}{n c l:Nat}(hc:CapOk A n c)(hl:l<=n):CapOk A l c:=⟨Nat.le_trans hl hc.1,hc.2⟩
theorem b1o{w:World}{base:Nat}{e:TypeId}{A:Option Addr}{n c:Nat}{k:IntKind}{xs:List Int}(h:w.ownsRow base e 1 (.slice A n c) n (ints k xs)):CapOk A n c:=by
 rcases h.2 with⟨hv,rfl⟩|⟨g,cap,cur,hv,hb,hh,hc,hm,_⟩
 ·injection hv with h1 h2 h3;subst h1;subst h3
  exact⟨c1r _,c1F _,fun h=>by omega⟩
 ·injection hv with h1 h2 h3;subst h1;subst h3
  exact⟨hc,hm,fun _=>⟨g,0,rfl⟩⟩
open Go.RowKit
def a2V(A:Option Addr)(n c:Nat)(last:List Int)(b:Nat)(done:Int):List Value:=.slice A n c::(ints .i64 last++[.slice (some ⟨b,0,none⟩) n n,.int .i64 done])
structure FRaw (w:World) (g b:Nat) (A:Option Addr) (n c:Nat) (pr last:List Int) (done:Int):Prop where
 blk:Blk w g 139 (a2V A n c last b done)
 row:Blk w b 3 (ints .i64 pr)
 lenP:pr.length=n
 lenL:last.length=4096
 ne:g≠b
theorem FRaw.cells{w:World}{g b:Nat}{A:Option Addr}{n c:Nat}{pr last:List Int}{done:Int}(h:FRaw w g b A n c pr last done) :
  w.cell? ⟨g,0,none⟩=some (.slice A n c)/\w.cell? ⟨g,4097,none⟩=some (.slice (some ⟨b,0,none⟩) n n)/\w.cell? ⟨g,4098,none⟩=some (.int .i64 done) /\
  (∀ v,v<4096->w.cell? ⟨g,1+v,none⟩=some (.int .i64 (nth last v)))/\(∀ v,v<n->w.cell? ⟨b,v,none⟩=some (.int .i64 (nth pr v)))/\(∀ v,w.frozen? ⟨g,v,none⟩=false)/\(∀ v,w.frozen? ⟨b,v,none⟩=false):=by
 have e:(ints .i64 last).length=4096:=by simp[ints,h.lenL]
 refine⟨h.blk.cell 0,?_,?_,fun v hv=>?_,fun v hv=>h.row.cellI (by rw[h.lenP];exact hv),h.blk.frozen,h.row.frozen⟩
 ·rw[h.blk.cell];unfold a2V;rw[c1O,c1K (by omega),e];rfl
 ·rw[h.blk.cell];unfold a2V;rw[c1O,c1K (by omega),e];rfl
 ·rw[h.blk.cell,Nat.add_comm];unfold a2V;rw[c1O,List.getElem?_append_left (by omega),a0e]
  simp[nth,List.getD,show v<last.length by rw[h.lenL];exact hv]
theorem FRaw.keeps{w w':World}{g b:Nat}{A:Option Addr}{n c:Nat}{pr last:List Int}{done:Int}{S:List Nat}(h:FRaw w g b A n c pr last done)(hk:Keeps S w w')(hg:g∉S)(hb:b∉S):FRaw w' g b A n c pr last done:=
 ⟨h.blk.keeps hk hg,h.row.keeps hk hb,h.lenP,h.lenL,h.ne⟩
theorem FRaw.setP{w:World}{g b:Nat}{A:Option Addr}{n c:Nat}{pr last:List Int}{done:Int}(h:FRaw w g b A n c pr last done)(j:Nat)(x:Int):FRaw (w.setCell ⟨b,j,none⟩ (.int .i64 x)) g b A n c (pr.set j x) last done:=
 ⟨h.blk.set_other (by exact h.ne) _,by have:=h.row.set j (.int .i64 x);simpa [ints,List.map_set] using this,by rw[List.length_set,h.lenP],h.lenL,h.ne⟩
theorem FRaw.setL{w:World}{g b:Nat}{A:Option Addr}{n c:Nat}{pr last:List Int}{done:Int}(h:FRaw w g b A n c pr last done)(v:Nat)(hv:v<4096)(x:Int):FRaw (w.setCell ⟨g,1+v,none⟩ (.int .i64 x)) g b A n c pr (last.set v x) done:=by
 have e:(ints .i64 last).length=4096:=by simp[ints,h.lenL]
 refine⟨?_,h.row.set_other (by exact h.ne.symm) _,h.lenP,by rw[List.length_set,h.lenL],h.ne⟩
 have:=h.blk.set (1+v) (.int .i64 x)
 unfold a2V at this ⊢
 rw[Nat.add_comm 1 v] at this ⊢
 rw[List.set_cons_succ,List.set_append_left _ _ (by omega)] at this
 simpa [ints,List.map_set] using this
theorem FRaw.setD{w:World}{g b:Nat}{A:Option Addr}{n c:Nat}{pr last:List Int}{done:Int}(h:FRaw w g b A n c pr last done)(x:Int):FRaw (w.setCell ⟨g,4098,none⟩ (.int .i64 x)) g b A n c pr last x:=by
 have e:(ints .i64 last).length=4096:=by simp[ints,h.lenL]
 refine⟨?_,h.row.set_other (by exact h.ne.symm) _,h.lenP,h.lenL,h.ne⟩
 have:=h.blk.set 4098 (.int .i64 x)
 unfold a2V at this ⊢
 rw[List.set_cons_succ,List.set_append_right _ _ (by omega),e] at this
 exact this
structure FB (w:World) (g b:Nat) (A:Option Addr) (n c:Nat) (xs:List Int) (k:Nat):Prop where
 raw:∃ pr last:List Int,FRaw w g b A n c pr last k/\(∀ v,v<4096->nth last v=(lastF (hashF xs) v k:Int))/\(∀ j,j<k->nth pr j=(lastF (hashF xs) (hashF xs j) j:Int))
 ri:RI .u8 w A n xs
 cap:CapOk A n c
 off:Off [g,b] A
 byte:∀ j,0<=nth xs j/\nth xs j<=255
 bound:n<=16384
 known:k<=n
theorem FB.keeps{w w':World}{g b:Nat}{A:Option Addr}{n c:Nat}{xs:List Int}{k:Nat}{S:List Nat}(h:FB w g b A n c xs k)(hk:Keeps S w w')(hg:g∉S)(hb:b∉S)(hS:Off S A):FB w' g b A n c xs k:=by
 obtain⟨pr,last,p1,p2,p3⟩:=h.raw
 exact⟨⟨pr,last,p1.keeps hk hg hb,p2,p3⟩,h.ri.keeps hk hS,h.cap,h.off,h.byte,h.bound,h.known⟩
theorem b1n(xs:List Int)(i m j:Nat)(hj:j<m)(h:i+m<=xs.length):nth ((xs.take (i+m)).drop i) j=nth xs (i+j):=by
 simp[nth,List.getD,List.getElem?_drop,List.getElem?_take,show i+j<i+m by omega]
theorem a7r(w:World)(g b:Nat)(A:Option Addr)(n c:Nat)(xs:List Int)(k i:Nat)(h:FB w g b A n c xs k)(hi:i+3<=n) :
  Calls Tryz.prog 114 #[.pointer (some ⟨g,0,none⟩),.int .i64 i] w fun e w'=>e=.returned (.int .i64 (hashF xs i))/\Dr w w':=by
 have hB:=h.bound
 obtain⟨pr,last,hraw,-,-⟩:=h.raw
 have c0:=hraw.cells.1
 have hsm:=fun w=>a3v w A n c i (i+3) (i:Int) ((i:Int)+3) rfl (by omega) (by omega) hi h.cap
 have hm:=h.ri.mid h.cap (show i<=i+3 by omega) hi
 have hlen:xs.length=n:=h.ri.len
 obtain⟨bb,o,hA⟩:=hm.hd (show 0<i+3-i by omega)
 have k0:=hm.cell bb o hA 0 (by omega)
 have k1:=hm.cell bb o hA 1 (by omega)
 have k2:=hm.cell bb o hA 2 (by omega)
 rw[b1n xs i 3 0 (by omega) (by omega)] at k0
 rw[b1n xs i 3 1 (by omega) (by omega)] at k1
 rw[b1n xs i 3 2 (by omega) (by omega)] at k2
 rw[c1M] at k0
 rw[c1M] at k0
 rw[hA,Nat.add_sub_cancel_left] at hsm
 have hv:=b7g (nth xs i) (nth xs (i+1)) (nth xs (i+2)) (h.byte _) (h.byte _) (h.byte _)
 obtain⟨x,hx⟩:∃ x,x=nth xs i:=⟨_,rfl⟩
 obtain⟨y,hy⟩:∃ y,y=nth xs (i+1):=⟨_,rfl⟩
 obtain⟨z,hz⟩:∃ z,z=nth xs (i+2):=⟨_,rfl⟩
 have bx:=h.byte i
 have by':=h.byte (i+1)
 have bz:=h.byte (i+2)
 have hF:hashF xs i=hN x.toNat y.toNat z.toNat:=by rw[hx,hy,hz];rfl
 rw[<-hx] at k0 hv bx
 rw[<-hy] at k1 hv by'
 rw[<-hz] at k2 hv bz
 rw[hF]
 have HV:=Lib.hid hv
 have wi:IntKind.i64.wrap ((i:Int)+3)=(i:Int)+3:=c1Q _ (by omega)
 have wx:IntKind.i64.wrap (x*256)=x*256:=c1Q _ (by omega)
 have wy:IntKind.i64.wrap (y*16)=y*16:=c1Q _ (by omega)
 clear h hraw hm hA hv hx hy hz hF hB
 go_enter Tryz.func114,Tryz.ntmps114
 go_upto_region 2 with (fail)
 go_quiet (fail)
 go_wp2_with fail
 rw[HV.out]
 go_ret
 exact⟨rfl,_,rfl⟩
end Go.Proofs.YtghjlpechjggjaaGreatDoor
