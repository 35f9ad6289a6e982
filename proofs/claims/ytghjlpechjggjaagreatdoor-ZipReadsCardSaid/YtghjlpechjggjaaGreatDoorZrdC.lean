import Derived.Test.YtghjlpechjggjaaGreatDoorZrdB
import Derived.Test.YtghjlpechjggjaaGreatDoorZrdA
import Derived.RegionTactic
import Derived.BigQuiet
import Derived.WalkMore
import Derived.BigRegion
import Derived.Laws.Tables
import Derived.TacticsInMore
import Derived.OwnWalkIn
set_option linter.defProp false
set_option linter.unnecessarySimpa false
set_option linter.unusedVariables false
set_option linter.unusedSimpArgs false
set_option linter.constructorNameAsVariable false
set_option maxRecDepth 100000
set_option maxHeartbeats 60000000
namespace Go.Proofs.YtghjlpechjggjaaGreatDoor
open Go.RowKit
private def c3o := @List.length_append
private def c3p := @Lib.hid
private def c3q := @IntWalk.i64_in
private def c3r := @Nat.le_refl
private def c3s := @List.length_replicate
private def c3t := @List.append_assoc
private def c3u := @List.getElem?_append_right
private def c3v := @List.flatMap_cons
private def c3w := @List.mem_cons_self
private def c3x := @List.length_cons
private def c3y := @Int.eq_ofNat_of_zero_le
private def c3z := @Int.toNat_natCast
private def c3A := @List.length_take
private def c3B := @List.take_length
private def c3C := @Nat.add_assoc
private def c3D := @List.mem_cons_of_mem
private def c3E := @List.append_nil
private def c3F := @of_decide_eq_true
private def c3G := @List.length_singleton
private def c3H := @Nat.lt_or_ge
private def c3I := @Nat.add_zero
private def c3J := @Nat.le_trans
private def c3K := @List.getElem?_cons_succ
private def c3L := @List.getElem?_replicate
private def c3M := @Array.getElem?_toList
private def c3N := @Nat.zero_add
private def c3O := @List.flatMap_nil
private def c3P := @Exit.noGoto_ret
private def c3Q := @Nat.zero_le
private def c3R := @List.getElem?_take
private def c3S := @List.mem_singleton
private def c3T := @Nat.lt_of_lt_of_le
private def c3U := @List.mem_cons
def sumR:Nat->(Nat->Nat)->Nat
 | 0,_=>0
 | n+1,g=>sumR n g+g n
theorem a2w{g h:Nat->Nat}:∀ n,(∀ q,q<n->g q=h q)->sumR n g=sumR n h
 | 0,_=>rfl
 | n+1,e=>by rw[sumR,sumR,a2w n (fun q hq=>e q (by omega)),e n (by omega)]
theorem b4C(g h:Nat->Nat):∀ n,sumR n (fun q=>g q+h q)=sumR n g+sumR n h
 | 0=>rfl
 | n+1=>by rw[sumR,sumR,sumR,b4C g h n];omega
theorem b4D(K:Nat)(g:Nat->Nat):∀ n,sumR n (fun q=>K*g q)=K*sumR n g
 | 0=>rfl
 | n+1=>by rw[sumR,sumR,b4D K g n,Nat.mul_add]
theorem a5J(K:Nat):∀ n,sumR n (fun _=>K)=n*K
 | 0=>by simp[sumR]
 | n+1=>by rw[sumR,a5J K n,Nat.succ_mul]
theorem b1B(K c:Nat):∀ n,c<=n->sumR n (fun q=>if q<c then 0 else K)=(n-c)*K
 | 0,_=>by simp[sumR]
 | n+1,h=>by
  rw[sumR]
  by_cases hc:c<=n
  ·rw[b1B K c n hc,if_neg (by omega),show n+1-c=(n-c)+1 by omega,Nat.succ_mul]
  ·obtain rfl:c=n+1:=by omega
   rw[a2w n (h:=fun _=>0) (fun q hq=>by simp;omega),a5J,if_pos (by omega)];simp
def ell(cs:List Nat)(q:Nat):Nat:=cs.countP fun c=>decide (q<c)
theorem c0E(cs:List Nat)(q:Nat):ell cs q<=cs.length:=List.countP_le_length
theorem a9k(c:Nat)(r:List Nat)(q:Nat):ell (c::r) q=ell r q+if q<c then 1 else 0:=by
 unfold ell;rw[List.countP_cons];simp
theorem b8p(n:Nat):∀ cs:List Nat,cs.Pairwise (fun x y=>y<=x)->(∀ c∈cs,c<=n)->wid cs+sumR n (fun q=>2^(cs.length-ell cs q))=n*2^cs.length
 | [],_,_=>by
  rw[wid,a2w n (h:=fun _=>1) (fun q _=>by simp),a5J];simp
 | c::r,hp,hc=>by
  have hp':=List.pairwise_cons.1 hp
  have ih:=b8p n r hp'.2 (fun d hd=>hc d (by simp[hd]))
  have e:sumR n (fun q=>2^((c::r).length-ell (c::r) q))=sumR n (fun q=>2^(r.length-ell r q)+if q<c then 0 else 2^r.length):=by
   refine a2w n fun q hq=>?_
   rw[a9k,c3x]
   by_cases h:q<c
   ·rw[if_pos h,if_pos h,show r.length+1-(ell r q+1)=r.length-ell r q by omega];rfl
   ·rw[if_neg h,if_neg h]
    have h0:ell r q=0:=by
     unfold ell
     rw[List.countP_eq_zero]
     intro d hd
     have:=hp'.1 d hd
     simp;omega
    rw[h0,c3I,Nat.sub_zero,Nat.sub_zero,Nat.pow_succ];omega
  rw[e,b4C,b1B _ c n (hc c (by simp)),wid,c3x,Nat.pow_succ]
  have h3:c*2^r.length+(n-c)*2^r.length=n*2^r.length:=by
   rw[<-Nat.add_mul];congr 1;have:=hc c (by simp);omega
  have h4:n*(2^r.length*2)=n*2^r.length+n*2^r.length:=by rw[<-Nat.mul_assoc];omega
  omega
def One(lv:List PP):Prop:=∀ p∈lv,∃ s:Nat,p.2=[(s:Int)]
theorem b6K(lv:List PP)(h:One lv):∀ c,(lv.take c).flatMap Prod.snd=(lv.flatMap Prod.snd).take c:=by
 induction lv with
 | nil=>intro c;simp
 | cons p r ih=>
  intro c
  match c with
  | 0=>simp
  | c+1=>
   obtain⟨s,hs⟩:=h p (by simp)
   rw[List.take_succ_cons,c3v,c3v,hs,ih (fun x hx=>h x (by simp[hx]))];rfl
theorem b0K(lv:List PP)(h:One lv):∀ q (hq:q<lv.length) (s:Nat),lv[q].2=[(s:Int)]->(lv.flatMap Prod.snd)[q]? =some (s:Int):=by
 induction lv with
 | nil=>intro q hq;simp at hq
 | cons p r ih=>
  intro q hq s hs
  obtain⟨s0,hs0⟩:=h p (by simp)
  rw[c3v,hs0]
  match q with
  | 0=>
   simp only[List.getElem_cons_zero] at hs
   rw[hs0] at hs;injection hs with hs;rw[<-hs];rfl
  | q+1=>
   simp only[List.getElem_cons_succ] at hs
   exact ih (fun x hx=>h x (by simp[hx])) q (by simpa using hq) s hs
theorem b5a(sy:List Int)(hn:sy.Pairwise (fun a b=>a≠b)):∀ q s,sy[q]? =some s->∀ c,(sy.take c).count s=if q<c then 1 else 0:=by
 induction sy with
 | nil=>intro q s h;simp at h
 | cons x xs ih=>
  intro q s h c
  have hn':=List.pairwise_cons.1 hn
  match c with
  | 0=>simp
  | c+1=>
   rw[List.take_succ_cons,List.count_cons]
   match q with
   | 0=>
    obtain rfl:x=s:=by simpa using h
    have:List.count x (xs.take c)=0:=List.count_eq_zero.2 fun hm=>hn'.1 x (List.mem_of_mem_take hm) rfl
    rw[this];simp
   | q+1=>
    have h':xs[q]? =some s:=by simpa using h
    rw[ih hn'.2 q s h' c]
    have:x≠s:=hn'.1 s (List.mem_of_getElem? h')
    rw[show (x==s)=false by simpa using this]
    simp
theorem b4Z(sy:List Int)(hn:sy.Pairwise (fun a b=>a≠b))(q:Nat)(s:Int)(h:sy[q]? =some s)(cs:List Nat):(cs.flatMap fun c=>sy.take c).count s=ell cs q:=by
 induction cs with
 | nil=>rfl
 | cons c r ih=>
  rw[c3v,List.count_append,ih,a9k,b5a sy hn q s h c];omega
theorem a9v(cs:List Int):∀ k,k<=cs.length->∀ p:PP,p∈leavesF (cs.take k) 0↔∃ i,i<k/\0<nth cs i/\p=(nth cs i,[(i:Int)])
 | 0,_,p=>by simp[leavesF]
 | k+1,h,p=>by
  rw[a0N cs k (by omega),a2I,List.mem_append,a9v cs k (by omega) p,c3A,Nat.min_eq_left (by omega),c3N]
  constructor
  ·rintro (⟨i,h1,h2,h3⟩|h1)
   ·exact⟨i,by omega,h2,h3⟩
   ·split at h1
    ·next h0=>exact⟨k,by omega,h0,by simpa using h1⟩
    ·simp at h1
  ·rintro ⟨i,h1,h2,h3⟩
   by_cases hi:i=k
   ·subst hi;rw[if_pos h2];exact .inr (by simpa using h3)
   ·exact .inl ⟨i,by omega,h2,h3⟩
theorem b4g(cs:List Int)(g:PP->Nat):∀ k,k<=cs.length->((leavesF (cs.take k) 0).map g).sum=sumR k (fun i=>if 0<nth cs i then g (nth cs i,[(i:Int)]) else 0)
 | 0,_=>by simp[leavesF,sumR]
 | k+1,h=>by
  rw[a0N cs k (by omega),a2I,List.map_append,List.sum_append,b4g cs g k (by omega),c3A,Nat.min_eq_left (by omega),c3N,sumR]
  by_cases h0:0<nth cs k
  ·rw[if_pos h0,if_pos h0];simp
  ·rw[if_neg h0,if_neg h0];simp
theorem b0U(cs:List Int):∀ k,k<=cs.length->((leavesF (cs.take k) 0).flatMap Prod.snd).Pairwise (fun a b=>a≠b)/\∀ s∈(leavesF (cs.take k) 0).flatMap Prod.snd,s<k
 | 0,_=>by simp[leavesF]
 | k+1,h=>by
  obtain⟨h1,h2⟩:=b0U cs k (by omega)
  rw[a0N cs k (by omega),a2I,List.flatMap_append,c3A,Nat.min_eq_left (by omega),c3N]
  by_cases h0:0<nth cs k
  ·rw[if_pos h0]
   simp only[c3v,c3O,c3E]
   refine⟨List.pairwise_append.2 ⟨h1,List.pairwise_singleton _ _,fun a ha b hb=>?_⟩,fun s hs=>?_⟩
   ·have:=h2 a ha
    rw[c3S.1 hb];omega
   ·rcases List.mem_append.1 hs with hs|hs
    ·have:=h2 s hs;push_cast;omega
    ·rw[c3S.1 hs];push_cast;omega
  ·rw[if_neg h0]
   simp only[c3O,c3E]
   exact⟨h1,fun s hs=>by have:=h2 s hs;push_cast;omega⟩
theorem b0Z{α:Type}(g:α->Nat)(d:α):∀ l:List α,(l.map g).sum=sumR l.length (fun q=>g (l.getD q d)):=by
 intro l
 have key:∀ k,k<=l.length->((l.take k).map g).sum=sumR k (fun q=>g (l.getD q d)):=by
  intro k
  induction k with
  | zero=>intro _;simp[sumR]
  | succ k ih=>
   intro h
   rw[List.take_succ_eq_append_getElem (by omega),List.map_append,List.sum_append,ih (by omega),sumR]
   simp[List.getD,show k<l.length by omega]
 have:=key l.length (c3r _)
 rwa [c3B] at this
theorem c0I(cs:List Int)(t:Nat)(hp:posP (leavesF cs 0))(h2:2<=(leavesF cs 0).length)(ht:(leavesF cs 0).length<=2^t) :
  ∃ E:List Nat,E.length=t/\(∀ q,q<(leavesF cs 0).length->1<=ell E q)/\sumR (leavesF cs 0).length (fun q=>2^(t-ell E q))=2^t /\
   (∀ i,i<cs.length->¬0<nth cs i->nth (limLens cs t) i=0) /\
   (∀ q (hq:q<(sortP (leavesF cs 0)).length) (i:Nat),(sortP (leavesF cs 0))[q]=(nth cs i,[(i:Int)])->i<cs.length->nth (limLens cs t) i=(ell E q:Nat)):=by
 obtain⟨lv,hlv⟩:∃ lv,lv=sortP (leavesF cs 0):=⟨_,rfl⟩
 have hperm:lv.Perm (leavesF cs 0):=by rw[hlv];exact a0M _
 have hlen:lv.length=(leavesF cs 0).length:=hperm.length_eq
 have hsrt:Srt Prod.fst lv:=by rw[hlv];exact a7L _ _
 have hpos:posP lv:=a7z hperm hp
 have htk:cs.take cs.length=cs:=c3B
 have hmem:=a9v cs cs.length (c3r _)
 rw[htk] at hmem
 have hone:One lv:=fun p hpm=>by
  obtain⟨i,_,_,e⟩:=(hmem p).1 (hperm.mem_iff.1 hpm)
  exact⟨i,by rw[e]⟩
 have hsy0:=(b0U cs cs.length (c3r _)).1
 rw[htk] at hsy0
 have hsy:(lv.flatMap Prod.snd).Pairwise (fun a b=>a≠b):=(hperm.symm.flatMap_right Prod.snd).pairwise hsy0 (fun h=>h.symm)
 have hcut:=b0W (leavesF cs 0) t h2 ht
 rw[<-hlv] at hcut
 have ht1:t≠0:=by rintro rfl;simp at ht;omega
 obtain⟨E,e1,e2,e3,e4,e5,e6,e7,e8⟩:=a7j hsrt hpos t (2*(leavesF cs 0).length-2) hcut
 have hhd:E.headD 0<=lv.length:=by
  match E,e3 with
  | [],_=>exact c3Q _
  | d::r,e3=>exact e3 d (by simp)
 have hhle:E.headD 0<=2*(leavesF cs 0).length-2:=by omega
 have htop:=c1S hsrt hpos (t-1) (by omega) hhd (j:=2*(leavesF cs 0).length-2-E.headD 0) (by omega) (e8 ht1) (e7 ht1)
 have hS:limLens cs t=cntF cs.length (((levelF lv t).take (2*(leavesF cs 0).length-2)).flatMap Prod.snd):=by
  unfold limLens;rw[if_neg (by omega),<-hlv]
 have e4':(((levelF lv t).take (2*(leavesF cs 0).length-2)).flatMap Prod.snd).Perm (E.flatMap fun c=>(lv.flatMap Prod.snd).take c):=by
  refine e4.trans (List.Perm.of_eq ?_)
  have:(fun c=>(lv.take c).flatMap Prod.snd)=fun c=>(lv.flatMap Prod.snd).take c:=funext (b6K lv hone)
  rw[this]
 refine⟨E,e1,fun q hq=>?_,?_,fun i hi h0=>?_,fun q hq i hi hil=>?_⟩
 ·match E,htop with
  | [],htop=>simp at htop;omega
  | d::r,htop=>
   simp only[List.headD_cons] at htop
   rw[a9k,if_pos (by omega)];omega
 ·have hw:=b8p lv.length E e2 e3
  rw[e1,hlen] at hw
  have h5:wid E=((leavesF cs 0).length-1)*2^t:=by
   have:2*wid E=2*(((leavesF cs 0).length-1)*2^t):=by
    rw[e5,<-Nat.mul_assoc];congr 1;omega
   omega
  rw[h5] at hw
  have h6:(leavesF cs 0).length*2^t=((leavesF cs 0).length-1)*2^t+2^t:=by
   rw[<-Nat.succ_mul];congr 1;omega
  omega
 ·rw[hS,a0t _ _ _ hi,e4'.count_eq]
  have:List.count (i:Int) (E.flatMap fun c=>(lv.flatMap Prod.snd).take c)=0:=by
   refine List.count_eq_zero.2 fun hm=>?_
   obtain⟨c,_,hc⟩:=List.mem_flatMap.1 hm
   obtain⟨p,hp1,hp2⟩:=List.mem_flatMap.1 (List.mem_of_mem_take hc)
   obtain⟨k,hk1,hk2,rfl⟩:=(hmem p).1 (hperm.mem_iff.1 hp1)
   have:(i:Int)=k:=by simpa using hp2
   obtain rfl:i=k:=by omega
   exact h0 hk2
  rw[this];rfl
 ·subst hlv
  rw[hS,a0t _ _ _ hil,e4'.count_eq,b4Z _ hsy q (i:Int) (b0K _ hone q hq i (by rw[hi])) E]
theorem a3d(cs:List Int)(t:Nat):(limLens cs t).length=cs.length:=by unfold limLens;rw[a1o]
theorem c0J(cs:List Int)(t i:Nat)(h:i<cs.length):0<=nth (limLens cs t) i:=by
 unfold limLens;exact (a5T _ _ _ h).1
theorem a3z(cs:List Int)(p:PP):p∈leavesF cs 0↔∃ i,i<cs.length/\0<nth cs i/\p=(nth cs i,[(i:Int)]):=by
 have h:=a9v cs cs.length (c3r _) p
 rwa [c3B] at h
theorem b5n(cs:List Int)(i:Nat)(h:i<cs.length)(h0:0<nth cs i):∃ q,∃ hq:q<(sortP (leavesF cs 0)).length,(sortP (leavesF cs 0))[q]=(nth cs i,[(i:Int)]):=by
 have hm:=(a0M _).mem_iff.2 ((a3z cs (nth cs i,[(i:Int)])).2 ⟨i,h,h0,rfl⟩)
 obtain⟨q,hq,e⟩:=List.getElem_of_mem hm
 exact⟨q,hq,e⟩
theorem b9y(cs:List Int)(t:Nat)(ht15:t<=15)(hp:posP (leavesF cs 0))(h2:2<=(leavesF cs 0).length)(ht:(leavesF cs 0).length<=2^t):measF (limLens cs t)=32768:=by
 obtain⟨E,e1,e2,e3,e4,e5⟩:=c0I cs t hp h2 ht
 unfold measF
 rw[b0Z part 0,a3d]
 have a1:sumR cs.length (fun q=>part ((limLens cs t).getD q 0))=sumR cs.length (fun i=>if 0<nth cs i then (fun p:PP=>part (nth (limLens cs t) (p.2.headD 0).toNat)) (nth cs i,[(i:Int)]) else 0):=by
  refine a2w _ fun q hq=>?_
  show part (nth (limLens cs t) q)=_
  by_cases h0:0<nth cs q
  ·rw[if_pos h0];simp
  ·rw[if_neg h0,e4 q hq h0];rfl
 have a2:=b4g cs (fun p:PP=>part (nth (limLens cs t) (p.2.headD 0).toNat)) cs.length (c3r _)
 rw[c3B] at a2
 rw[a1,<-a2,<-((a0M (leavesF cs 0)).map _).sum_nat,b0Z _ (0,[])]
 have a3:sumR (sortP (leavesF cs 0)).length (fun q=>part (nth (limLens cs t) (((sortP (leavesF cs 0)).getD q (0,[])).2.headD 0).toNat))=sumR (sortP (leavesF cs 0)).length (fun q=>2^(15-t)*2^(t-ell E q)):=by
  refine a2w _ fun q hq=>?_
  have hm:(sortP (leavesF cs 0))[q]∈leavesF cs 0:=(a0M _).mem_iff.1 (List.getElem_mem hq)
  obtain⟨i,h1,h3,h4⟩:=(a3z cs _).1 hm
  have hd:(sortP (leavesF cs 0)).getD q (0,[])=(nth cs i,[(i:Int)]):=by rw[<-h4];simp[List.getD,hq]
  rw[hd]
  simp only[List.headD_cons,c3z]
  rw[e5 q hq i h4 h1]
  have hl:=c0E E q
  have hge:=e2 q (by rwa [a1H] at hq)
  unfold part
  rw[if_pos (by omega),<-Nat.pow_add]
  congr 1;omega
 rw[a3,b4D,a1H,e3,<-Nat.pow_add,show 15-t+t=15 by omega]
theorem c0K(cs:List Int)(t:Nat)(ht15:t<=15)(hp:posP (leavesF cs 0))(h2:2<=(leavesF cs 0).length)(ht:(leavesF cs 0).length<=2^t)(i:Nat)(hi:i<cs.length) :
  (0<nth (limLens cs t) i↔0<nth cs i)/\nth (limLens cs t) i<=t:=by
 obtain⟨E,e1,e2,e3,e4,e5⟩:=c0I cs t hp h2 ht
 by_cases h0:0<nth cs i
 ·obtain⟨q,hq,e⟩:=b5n cs i hi h0
  have hl:=c0E E q
  have hge:=e2 q (by rwa [a1H] at hq)
  rw[e5 q hq i e hi]
  exact⟨⟨fun _=>h0,fun _=>by omega⟩,by omega⟩
 ·rw[e4 i hi h0]
  exact⟨⟨fun h=>by omega,fun h=>absurd h h0⟩,by omega⟩
theorem b6m(l:List Int)(h:∀ i,i<l.length->okLen (nth l i)=true):l.all okLen=true:=by
 rw[List.all_eq_true]
 intro x hx
 obtain⟨i,hi,rfl⟩:=List.getElem_of_mem hx
 have:=h i hi
 rwa [a0o hi] at this
theorem b7a(cs:List Int)(t:Nat)(ht15:t<=15)(h1:1<=cs.length)(h288:cs.length<=288)(hp:posP (leavesF cs 0))(h2:2<=(leavesF cs 0).length)(ht:(leavesF cs 0).length<=2^t):a0e (limLens cs t)=0:=by
 unfold a0e
 rw[a3d,if_neg (by omega),b6m (limLens cs t) (fun i hi=>by
  rw[a3d] at hi
  have a:=c0J cs t i hi
  have b:=(c0K cs t ht15 hp h2 ht i hi).2
  unfold okLen
  simp only[Bool.and_eq_true,decide_eq_true_eq]
  omega),if_neg (by simp),b9y cs t ht15 hp h2 ht]
 rfl
theorem b7b(cs:List Int)(t:Nat)(h:(leavesF cs 0).length=1):∃ s,s<cs.length/\0<nth cs s/\(∀ i,i<cs.length->0<nth cs i->i=s)/\∀ i,i<cs.length->nth (limLens cs t) i=if i=s then 1 else 0:=by
 obtain⟨p,hp⟩:=List.length_eq_one_iff.1 h
 obtain⟨s,h1,h2,h3⟩:=(a3z cs p).1 (by rw[hp];simp)
 refine⟨s,h1,h2,fun i hi h0=>?_,fun i hi=>?_⟩
 ·have:=(a3z cs _).2 ⟨i,hi,h0,rfl⟩
  rw[hp,c3S,h3] at this
  have:=congrArg Prod.snd this
  simp at this;omega
 ·unfold limLens
  rw[if_pos (by omega),hp,a0t _ _ _ hi,h3]
  simp only[c3v,c3O,c3E,List.count_cons,List.count_nil]
  by_cases e:i=s
  ·subst e;simp
  ·rw[if_neg e,if_neg (by simp;omega)];rfl
theorem b9z(cs:List Int)(t:Nat)(h:(leavesF cs 0).length=0)(i:Nat)(hi:i<cs.length):nth (limLens cs t) i=0/\¬0<nth cs i:=by
 have he:=List.length_eq_zero_iff.1 h
 constructor
 ·unfold limLens
  rw[if_pos (by omega),he,a0t _ _ _ hi];rfl
 ·intro h0
  have:=(a3z cs _).2 ⟨i,hi,h0,rfl⟩
  rw[he] at this;simp at this
theorem b5q(cs:List Int)(t:Nat)(h1:1<=cs.length)(h288:cs.length<=288)(h:(leavesF cs 0).length=1):a0e (limLens cs t)=0:=by
 obtain⟨s,a,b,c,d⟩:=b7b cs t h
 have hl:=a3d cs t
 generalize limLens cs t=l at *
 have key:∀ k,k<=l.length->usedF (l.take k)=(if s<k then 1 else 0)/\measF (l.take k)=(if s<k then 16384 else 0):=by
  intro k
  induction k with
  | zero=>intro _;simp[usedF,measF]
  | succ k ih=>
   intro hk
   obtain⟨i1,i2⟩:=ih (by omega)
   rw[a5P l k (by omega),a5A l k (by omega),i1,i2,d k (by omega)]
   have p1:part 1=16384:=rfl
   have p0:part 0=0:=rfl
   by_cases e:k=s
   ·subst e;simp[p1]
   ·rw[if_neg e]
    by_cases e2:s<k
    ·simp[p0,e2,show s<k+1 by omega]
    ·simp[p0,e2,show ¬s<k+1 by omega]
 obtain⟨k1,k2⟩:=key l.length (c3r _)
 rw[c3B,if_pos (by omega)] at k1 k2
 unfold a0e
 rw[hl,if_neg (by omega),b6m l (fun i hi=>by
  rw[d i (by omega)]
  split<;>decide),if_neg (by simp),k1,k2]
 rfl
def posL(cs:List Int):List Int:=cs.filter fun x=>decide (0<x)
theorem b5o(cs:List Int):∀ i,(leavesF cs i).map Prod.fst=posL cs:=by
 induction cs with
 | nil=>intro i;rfl
 | cons x r ih=>
  intro i
  rw[leavesF]
  unfold posL at *
  by_cases h:0<x
  ·rw[if_pos h,List.filter_cons_of_pos (by simpa using h),List.map_cons,ih]
  ·rw[if_neg h,List.filter_cons_of_neg (by simpa using h),ih]
theorem b3C(cs:List Int):(leavesF cs 0).length=usedF cs:=by
 rw[<-List.length_map (f:=Prod.fst),b5o];rfl
theorem b0u(cs:List Int)(t:Nat)(h15:t<=15)(h1:1<=cs.length)(h288:cs.length<=288)(hb:cs.any a0C=false)(ht:(leavesF cs 0).length<=2^t)(hu:usedF cs≠0):a0e (limLens cs t)=0:=by
 rw[<-b3C] at hu
 have hp:=(a3A cs hb 0).1
 by_cases h2:2<=(leavesF cs 0).length
 ·exact b7a cs t h15 h1 h288 hp h2 ht
 ·exact b5q cs t h1 h288 (by omega)
theorem b4i(cs:List Int)(t:Nat)(h1:1<=t)(h15:t<=15)(hb:cs.any a0C=false)(ht:(leavesF cs 0).length<=2^t)(i:Nat)(hi:i<cs.length) :
  (0<nth (limLens cs t) i↔0<nth cs i)/\0<=nth (limLens cs t) i/\nth (limLens cs t) i<=t:=by
 have hp:=(a3A cs hb 0).1
 have hnn:=c0J cs t i hi
 by_cases h2:2<=(leavesF cs 0).length
 ·have:=c0K cs t h15 hp h2 ht i hi
  exact⟨this.1,hnn,this.2⟩
 ·by_cases h3:(leavesF cs 0).length=1
  ·obtain⟨s,_,b,c,d⟩:=b7b cs t h3
   rw[d i hi]
   by_cases e:i=s
   ·subst e;rw[if_pos rfl];exact⟨⟨fun _=>b,fun _=>by omega⟩,by omega,by omega⟩
   ·rw[if_neg e];exact⟨⟨fun h=>by omega,fun h=>absurd (c i hi h) e⟩,by omega,by omega⟩
  ·have:=b9z cs t (by omega) i hi
   rw[this.1];exact⟨⟨fun h=>by omega,fun h=>absurd h this.2⟩,by omega,by omega⟩
theorem b4f(l:List Int)(v:Int)(k:Nat)(h:1<=k):(l++List.replicate k v).getD ((l++List.replicate k v).length-1) 0=v:=by
 rw[List.getD_eq_getElem?_getD,c3u (by simp;omega),c3L]
 rw[if_pos (by simp;omega)];rfl
def more(l:List Int)(k:Nat)(v:Int)(r:List (Int×Int))(m:Int):Option (List Int):=
 if ((l.length+k:Nat):Int)<=m then unpackTo (l++List.replicate k v) r m else none
theorem b1d(l:List Int)(v:Int)(r:List (Int×Int))(m:Int)(h:(l.length:Int)<=m):more l 0 v r m=unpackTo l r m:=by
 rw[more,if_pos (by simpa using h)];simp
theorem a3M{l:List Int}{s e v m:Int}{k:Nat}{r:List (Int×Int)}(h:sayF l s e=some (v,k)):unpackTo l ((s,e)::r) m=more l k v r m:=by
 rw[more]
 by_cases hm:((l.length+k:Nat):Int)<=m
 ·rw[if_pos hm];exact a3l (a2O h hm)
 ·rw[if_neg hm];exact a3m (a3q h (by omega))
theorem a4T{l:List Int}{j k:Nat}{v m:Int}{r:List (Int×Int)}:(if ((l.length+j:Nat):Int)<=m then more (l++List.replicate j v) k v r m else none)=more l (j+k) v r m:=by
 simp only[more,c3o,c3s,c3t,List.replicate_append_replicate]
 by_cases h:((l.length+(j+k):Nat):Int)<=m
 ·rw[if_pos (by omega),if_pos (by omega),if_pos h]
 ·rw[if_neg h]
  split
  ·rw[if_neg (by omega)]
  ·rfl
theorem a4x (fr sym top:Nat) (v:Int) (P:List Int->Prop) (h0:0<fr) (h1:fr<=top) (hP:∀ l k,P l->P (l++List.replicate k v))
  (hs:∀ l k,P l->fr<=k->k<=top->sayF l sym ((k:Int)-fr)=some (v,k)) (n:Nat) :
  ∀ l r m,P l->(l.length:Int)<=m->unpackTo l (reps fr sym top n++r) m=more l (n-left fr top n) v r m:=by
 induction n using Nat.strongRecOn with
 | _ n ih=>
  intro l r m hp hm
  have hle:=a1T fr sym top n h0 (by omega)
  by_cases h:fr<=n
  ·rw[a9J h0 (by omega) h,a7e h0 (by omega) h,List.cons_append]
   have hsy:=hs l (min n top) hp (by omega) (by omega)
   rw[a3M hsy,more]
   have hle2:=a1T fr sym top (n-min n top) h0 (by omega)
   rw[show n-left fr top (n-min n top)=min n top+(n-min n top-left fr top (n-min n top)) by omega,<-a4T]
   by_cases hm2:((l.length+min n top:Nat):Int)<=m
   ·rw[if_pos hm2,if_pos hm2]
    exact ih _ (by omega) _ r m (hP _ _ hp) (by rw[c3o,c3s];exact hm2)
   ·rw[if_neg hm2,if_neg hm2]
  ·rw[a9K (by omega),a7f (by omega),Nat.sub_self,b1d _ _ _ _ hm];rfl
theorem a7T(v:Int)(h0:0<=v)(h15:v<=15)(n:Nat):∀ l r m,(l.length:Int)<=m->unpackTo l (List.replicate n (v,(0:Int))++r) m=more l n v r m:=by
 induction n with
 | zero=>intro l r m hm;rw[b1d _ _ _ _ hm];rfl
 | succ n ih=>
  intro l r m hm
  rw[List.replicate_succ,List.cons_append,a3M (a6u h0 h15),more,Nat.add_comm n 1,<-a4T]
  by_cases hm2:((l.length+1:Nat):Int)<=m
  ·rw[if_pos hm2,if_pos hm2]
   exact ih _ r m (by rw[c3o,c3s];exact hm2)
  ·rw[if_neg hm2,if_neg hm2]
theorem a7n{l:List Int}{j k:Nat}{v m:Int}{r:List (Int×Int)}{X:List Int->Option (List Int)}(hX:∀ l',(l'.length:Int)<=m->X l'=more l' k v r m) :
  (if ((l.length+j:Nat):Int)<=m then X (l++List.replicate j v) else none)=more l (j+k) v r m:=by
 rw[<-a4T]
 by_cases h:((l.length+j:Nat):Int)<=m
 ·rw[if_pos h,if_pos h];exact hX _ (by rw[c3o,c3s];exact h)
 ·rw[if_neg h,if_neg h]
theorem c0n(n:Nat)(l:List Int)(r:List (Int×Int))(m:Int)(hm:(l.length:Int)<=m):unpackTo l (b1X n++r) m=more l n 0 r m:=by
 have h18:=a4x 11 18 138 0 (fun _=>True) (by omega) (by omega) (fun _ _ _=>trivial) (fun l k _ h1 h2=>by
  rw[show ((18:Nat):Int)=18 from rfl,b3p (by omega) (by omega)];congr 2;omega) n
 have h17:=fun n'=>a4x 3 17 10 0 (fun _=>True) (by omega) (by omega) (fun _ _ _=>trivial) (fun l k _ h1 h2=>by
  rw[show ((17:Nat):Int)=17 from rfl,b3o (by omega) (by omega)];congr 2;omega) n'
 have l1:=a1T 11 18 138 n (by omega) (by omega)
 have l2:=a1T 3 17 10 (left 11 138 n) (by omega) (by omega)
 rw[b1X,c3t,c3t,h18 l _ m trivial hm,more]
 rw[a7n (k:=left 11 138 n) (r:=r) (X:=fun l'=>unpackTo l' (reps 3 17 10 (left 11 138 n)++(List.replicate (left 3 10 (left 11 138 n)) (0,0)++r)) m)]
 ·rw[show n-left 11 138 n+left 11 138 n=n by omega]
 ·intro l' hl'
  show unpackTo l' _ m=_
  rw[h17 _ l' _ m trivial hl',more]
  rw[a7n (k:=left 3 10 (left 11 138 n)) (r:=r) (X:=fun l'=>unpackTo l' (List.replicate (left 3 10 (left 11 138 n)) (0,0)++r) m) (fun l'' h=>a7T 0 (by omega) (by omega) _ l'' r m h)]
  rw[show left 11 138 n-left 3 10 (left 11 138 n)+left 3 10 (left 11 138 n)=left 11 138 n by omega]
theorem c0m(v:Int)(h0:0<=v)(h15:v<=15)(n:Nat)(hn:1<=n)(l:List Int)(r:List (Int×Int))(m:Int)(hm:(l.length:Int)<=m):unpackTo l (b1O v n++r) m=more l n v r m:=by
 have h16:=a4x 3 16 6 v (fun l=>l≠[]/\l.getD (l.length-1) 0=v) (by omega) (by omega) (fun l k hp=>by
   rcases Nat.eq_zero_or_pos k with rfl|hk
   ·simpa using hp
   ·exact⟨by simp[hp.1],b4f l v k hk⟩)
  (fun l k hp h1 h2=>by
   rw[show ((16:Nat):Int)=16 from rfl,b3n (by omega) (by omega) hp.1,hp.2];congr 2;omega) (n-1)
 have l1:=a1T 3 16 6 (n-1) (by omega) (by omega)
 rw[b1O,List.cons_append,a3M (a6u h0 h15),more]
 by_cases hm2:((l.length+1:Nat):Int)<=m
 ·rw[if_pos hm2,c3t]
  rw[h16 (l++List.replicate 1 v) _ m ⟨by simp,b4f l v 1 (by omega)⟩ (by rw[c3o,c3s];exact hm2),more]
  rw[a7n (k:=left 3 6 (n-1)) (r:=r) (X:=fun l'=>unpackTo l' (List.replicate (left 3 6 (n-1)) (v,0)++r) m) (fun l'' h=>a7T v h0 h15 _ l'' r m h)]
  rw[show n-1-left 3 6 (n-1)+left 3 6 (n-1)=n-1 by omega]
  have:=a4T (l:=l) (j:=1) (k:=n-1) (v:=v) (m:=m) (r:=r)
  rw[if_pos hm2] at this
  rw[this,show 1+(n-1)=n by omega]
 ·rw[if_neg hm2,more,if_neg (by omega)]
theorem c0l(v:Int)(h0:0<=v)(h15:v<=15)(n:Nat)(hn:1<=n)(l:List Int)(r:List (Int×Int))(m:Int)(hm:(l.length:Int)<=m):unpackTo l (a3K v n++r) m=more l n v r m:=by
 unfold a3K
 split
 ·rename_i h;subst h;exact c0n n l r m hm
 ·exact c0m v h0 h15 n hn l r m hm
theorem b7Q(v:Int)(r:List Int):v::r=List.replicate (runN v (v::r)) v++(v::r).drop (runN v (v::r)):=by
 have h:=b9Z v (v::r)
 have hl:=b3j v (v::r)
 have e:(v::r).take (runN v (v::r))=List.replicate (runN v (v::r)) v:=by
  refine List.ext_getElem (by rw[c3A,c3s];omega) fun i h1 h2=>?_
  have hi:i<runN v (v::r):=by simpa using h2
  have:=h i hi
  rw[List.getD_eq_getElem?_getD,List.getElem?_eq_getElem (by omega)] at this
  simpa using this
 rw[<-e,List.take_append_drop]
theorem b3B(xs:List Int):∀ (l:List Int) (m:Int),(∀ x∈xs,0<=x/\x<=15)->(l.length:Int)<=m ->
  unpackTo l (packF xs) m=if ((l.length+xs.length:Nat):Int)<=m then some (l++xs) else none:=by
 induction h:xs.length using Nat.strongRecOn generalizing xs with
 | _ n ih=>
  intro l m hx hm
  match xs,h with
  | [],h=>
   simp at h;subst h
   rw[a7v,unpackTo,if_pos (by simpa using hm)];simp
  | v::r,h=>
   have h1:=a7E v r
   have h2:=b3j v (v::r)
   have hv:=hx v (by simp)
   have hsp:=b7Q v r
   have hlen:((v::r).drop (runN v (v::r))).length=n-runN v (v::r):=by rw[List.length_drop,h]
   rw[packF,c0l v hv.1 hv.2 _ h1 l _ m hm,more]
   by_cases hm2:((l.length+runN v (v::r):Nat):Int)<=m
   ·rw[if_pos hm2,ih _ (by omega) _ hlen _ m (fun x hx'=>hx x (List.mem_of_mem_drop hx')) (by rw[c3o,c3s];exact hm2)]
    rw[c3o,c3s,c3t,<-hsp]
    by_cases hm3:((l.length+n:Nat):Int)<=m
    ·rw[if_pos (by omega),if_pos hm3]
    ·rw[if_neg (by omega),if_neg hm3]
   ·rw[if_neg hm2,if_neg (by omega)]
def At(xs:List Int)(p:Nat)(bl:List Int):Prop:=∀ t,t<bl.length->bitAt xs (p+t)=nth bl t
theorem a2h{xs:List Int}{p:Nat}{a b:List Int}:At xs p (a++b)↔At xs p a/\At xs (p+a.length) b:=by
 constructor
 ·intro h
  refine⟨fun t ht=>?_,fun t ht=>?_⟩
  ·rw[h t (by rw[c3o];omega),a1t _ _ _ ht]
  ·have:=h (a.length+t) (by rw[c3o];omega)
   rw[<-c3C] at this
   rw[this,a0x]
 ·intro ⟨h1,h2⟩ t ht
  rw[c3o] at ht
  by_cases hlt:t<a.length
  ·rw[h1 t hlt,a1t _ _ _ hlt]
  ·obtain⟨s,rfl⟩:∃ s,t=a.length+s:=⟨t-a.length,by omega⟩
   rw[a0x,<-c3C]
   exact h2 s (by omega)
theorem a8x(xs:List Int)(p:Nat)(v:Int):∀ n,At xs p (vbits v n)->numB xs p n=v%2^n
 | 0,_=>by simp[numB,Int.emod_one]
 | n+1,h=>by
  have e:vbits v (n+1)=vbits v n++vbits (v/2^n) 1:=b1M v n 1
  rw[e] at h
  obtain⟨h1,h2⟩:=a2h.1 h
  rw[a0k] at h2
  have h3:=h2 0 (by rw[a0k];omega)
  rw[c3I,b1N _ _ _ (by omega),Int.pow_zero,Int.ediv_one] at h3
  rw[numB,a8x xs p v n h1,h3,a5U]
theorem a3G{xs:List Int}{p n:Nat}{v:Int}(h:At xs p (vbits v n))(h0:0<=v)(h1:v<2^n):numB xs p n=v:=by
 rw[a8x xs p v n h,Int.emod_eq_of_lt h0 h1]
theorem c0D{l:List Int}(hc:a0e l=0){xs:List Int}{p s m:Nat}(hs:s<l.length)(h1:1<=m)(h15:m<=15)(hm:nth l s=m)(hT:p+m<=8*xs.length)(h:At xs p (msbF (a0P l s) m)):decF l xs p=((s:Int),0,m):=by
 have hbd:=a2F l m s (by omega) h1 hs hm
 have hkr:=a9u hc m h15
 have hl0:=(a1N l (a1P hc).1 m (by omega)).1
 have hx:xv xs p m=a0P l s:=by
  have h2:=(a9G (a0P l s) m (by omega) (by omega) xs p m (c3r _)).1 (fun t ht=>(h t (by rw[a0X];exact ht)).symm)
  rw[Nat.sub_self,Int.pow_zero,Int.ediv_one] at h2
  exact h2.symm
 have hsp:=a3T l xs p (longN l 16) 0 (by omega) (by omega) (fun k hk=>by
  obtain rfl:k=0:=by omega
  simp[xv,lowF,a1s])
 rw[show decGo l xs p (longN l 16) 0 (xv xs p 0)=decF l xs p from rfl] at hsp
 rcases hsp with⟨j,mt,hj,a1,a15,hjm,hcode,hend,hpre,hr⟩|⟨k,hk,hend,hpre,hr⟩|⟨hend,hpre,hr⟩
 ·rw[hr]
  have hbj:=a2F l mt j (by omega) a1 hj hjm
  rcases Nat.lt_trichotomy mt m with h|h|h
  ·have:=c0Y l xs p mt (by omega) (m-mt-1)
   rw[show mt+(m-mt-1+1)=m by omega] at this
   omega
  ·subst h
   rcases Nat.lt_trichotomy j s with h2|h2|h2
   ·have:=a9e l mt j s (by omega) a1 h2 hs hjm hm;omega
   ·subst h2;rfl
   ·have:=a9e l mt s j (by omega) a1 h2 hj hm hjm;omega
  ·have:=hpre m h;omega
 ·exfalso
  have:=hpre m (by omega);omega
 ·exfalso
  have hmL:m<=longN l 16:=by
   rcases c3H (longN l 16) m with h|h
   ·have:=a4Q l 16 m h (by omega);omega
   ·exact h
  have:=hpre m hmL;omega
def placeL:List Nat:=[3,17,15,13,11,9,7,5,4,6,8,10,12,14,16,18,0,1,2]
theorem b2U:∀ i,i<19->placeL.getD (nth orderL i).toNat 0=i:=by decide
theorem a7s:∀ j,j<19->(nth orderL (placeL.getD j 0)).toNat=j/\placeL.getD j 0<19:=by decide
def codeBits(codes:List Int)(many:Nat):List Int:=(List.range many).flatMap fun i=>vbits (nth codes (nth orderL i).toNat) 3
theorem a3a(codes:List Int)(k:Nat):codeBits codes (k+1)=codeBits codes k++vbits (nth codes (nth orderL k).toNat) 3:=by
 unfold codeBits;rw[List.range_succ,List.flatMap_append];simp
theorem a1q(codes:List Int):∀ k,(codeBits codes k).length=3*k
 | 0=>rfl
 | k+1=>by rw[a3a,c3o,a1q codes k,a0k];omega
theorem b6w{xs codes:List Int}{p:Nat}(hb:∀ j,j<19->0<=nth codes j/\nth codes j<=7):∀ k,k<=19->At xs p (codeBits codes k)->∀ j,j<19->nth (cL xs p k) j=if placeL.getD j 0<k then nth codes j else 0
 | 0,_,_,j,hj=>by
  rw[if_neg (by omega),cL]
  simp only[nth,List.getD,c3L]
  split<;>rfl
 | k+1,hk,h,j,hj=>by
  rw[a3a] at h
  obtain⟨h1,h2⟩:=a2h.1 h
  rw[a1q] at h2
  have ih:=b6w hb k (by omega) h1 j hj
  obtain⟨o0,o1⟩:=a4Y k (by omega)
  have hbo:=hb (nth orderL k).toNat (by omega)
  have e8:(2:Int)^3=8:=rfl
  have hnum:=a3G h2 hbo.1 (by rw[e8];omega)
  have hpo:=b2U k (by omega)
  have hop:=a7s j hj
  rw[cL,hnum]
  by_cases hjo:j=(nth orderL k).toNat
  ·subst hjo
   rw[a1Z _ _ _ (by rw[a6I];exact hj),if_pos (by rw[hpo];omega)]
  ·rw[a2R _ _ _ _ hjo,ih]
   have hne:placeL.getD j 0≠k:=fun e=>hjo (by rw[<-e];exact hop.1.symm)
   by_cases hlt:placeL.getD j 0<k
   ·rw[if_pos hlt,if_pos (by omega)]
   ·rw[if_neg hlt,if_neg (by omega)]
def manyGo(codes:List Int):Nat->Nat
 | 0=>0
 | n+1=>if 4<=n/\nth codes (nth orderL n).toNat=0 then manyGo codes n else n+1
theorem a4S(codes:List Int):∀ n,manyGo codes n<=n
 | 0=>c3r _
 | n+1=>by
  unfold manyGo
  split
  ·have:=a4S codes n;omega
  ·exact c3r _
theorem b1b(codes:List Int):∀ n,4<=n->4<=manyGo codes n
 | 0,h=>by omega
 | n+1,h=>by
  unfold manyGo
  split
  ·next hc=>exact b1b codes n hc.1
  ·exact h
theorem a7k(codes:List Int):∀ n i,manyGo codes n<=i->i<n->nth codes (nth orderL i).toNat=0
 | 0,i,_,h=>by omega
 | n+1,i,h1,h2=>by
  unfold manyGo at h1
  split at h1
  ·next hc=>
   by_cases hi:i=n
   ·subst hi;exact hc.2
   ·exact a7k codes n i h1 (by omega)
  ·omega
theorem a5X{a b:List Int}(h1:a.length=b.length)(h:∀ j,j<a.length->nth a j=nth b j):a=b:=by
 refine List.ext_getElem h1 fun j h2 h3=>?_
 have:=h j h2
 rwa [a0o h2,a0o h3] at this
theorem b8Q{xs codes:List Int}{p:Nat}(hl:codes.length=19)(hb:∀ j,j<19->0<=nth codes j/\nth codes j<=7)(h:At xs p (codeBits codes (manyGo codes 19))):cL xs p (manyGo codes 19)=codes:=by
 refine a5X (by rw[a6I,hl]) fun j hj=>?_
 rw[a6I] at hj
 rw[b6w hb _ (a4S codes 19) h j hj]
 split
 ·rfl
 ·next hn=>
  obtain⟨h1,h2⟩:=a7s j hj
  have:=a7k codes 19 (placeL.getD j 0) (by omega) h2
  rw[h1] at this
  exact this.symm
theorem b7T{l:List Int}{s e v:Int}{k:Nat}(h:sayF l s e=some (v,k)):0<=s/\s<=18/\0<=e/\e<2^wN s:=by
 unfold sayF at h
 split at h
 ·next hc=>
  refine⟨by omega,by omega,by omega,?_⟩
  rw[hc.2.2];exact a0i _
 split at h
 ·next hc=>
  obtain⟨rfl,h0,h3,_⟩:=hc
  exact⟨by omega,by omega,h0,by show e<4;omega⟩
 split at h
 ·next hc=>
  obtain⟨rfl,h0,h3⟩:=hc
  exact⟨by omega,by omega,h0,by show e<8;omega⟩
 split at h
 ·next hc=>
  obtain⟨rfl,h0,h3⟩:=hc
  exact⟨by omega,by omega,h0,by show e<128;omega⟩
 ·cases h
theorem b0h{l l':List Int}{s e n:Int}(h:addF l s e n=some l'):0<=s/\s<=18/\0<=e/\e<2^wN s:=by
 unfold addF at h
 cases hs:sayF l s e with
 | none=>rw[hs] at h;cases h
 | some q=>obtain⟨v,k⟩:=q;exact b7T hs
def b5M(codes:List Int)(s:Int×Int):List Int:=msbF (a0P codes s.1.toNat) (nth codes s.1.toNat).toNat++vbits s.2 (wN s.1)
def stepsB(codes:List Int)(st:List (Int×Int)):List Int:=st.flatMap (b5M codes)
theorem a3i(codes:List Int)(s:Int×Int)(r:List (Int×Int)):stepsB codes (s::r)=b5M codes s++stepsB codes r:=by simp[stepsB]
theorem b1v(codes:List Int)(s:Int×Int):(b5M codes s).length=(nth codes s.1.toNat).toNat+wN s.1:=by
 rw[b5M,c3o,a0X,a0k]
theorem b4A{codes xs:List Int}(hc:a0e codes=0)(hcl:codes.length=19){N:Int}:∀ (st:List (Int×Int)) (f:Nat) (l:List Int) (q:Nat) (L:List Int),(∀ s∈st,1<=nth codes s.1.toNat/\nth codes s.1.toNat<=15)->unpackTo l st N=some L->(L.length:Int)=N->N<=((l.length+f:Nat):Int)->q+(stepsB codes st).length<=8*xs.length->At xs q (stepsB codes st) ->
  stepsF codes xs N f l q=(L,q+(stepsB codes st).length,0)
 | [],f,l,q,L,_,hu,hL,hf,hT,hat=>by
  obtain rfl:=Option.some.inj hu
  rw[a4r _ _ _ _ _ _ (by omega)];rfl
 | s::r,f,l,q,L,hs,hu,hL,hf,hT,hat=>by
  rw[a3i,c3o] at hT
  rw[a3i] at hat
  obtain⟨ha,hr⟩:=a2h.1 hat
  rw[b5M] at ha
  obtain⟨ha1,ha2⟩:=a2h.1 ha
  rw[a0X] at ha2
  cases hadd:addF l s.1 s.2 N with
  | none=>rw[a3m hadd] at hu;cases hu
  | some l'=>
   rw[a3l hadd] at hu
   obtain⟨r0,r1,r2,r3⟩:=b0h hadd
   obtain⟨g1,g2⟩:=b8F hadd
   obtain⟨c1,c2⟩:=hs s (c3w ..)
   obtain⟨f',rfl⟩:∃ f',f=f'+1:=⟨f-1,by omega⟩
   have e1:((s.1.toNat:Nat):Int)=s.1:=by omega
   have hlen:=b1v codes s
   have hd:decF codes xs q=(s.1,0,(nth codes s.1.toNat).toNat):=by
    have:=c0D hc (xs:=xs) (p:=q) (s:=s.1.toNat) (m:=(nth codes s.1.toNat).toNat) (by omega) (by omega) (by omega) (by omega) (by omega) ha1
    rw[this,e1]
   have hnum:=a3G ha2 r2 r3
   have ih:=b4A (xs:=xs) hc hcl r f' l' (q+(nth codes s.1.toNat).toNat+wN s.1) L (fun x hx=>hs x (c3D _ hx)) hu hL (by omega) (by omega) (by rw[c3C,<-hlen];exact hr)
   rw[stepsF,if_neg (by omega)]
   simp only[hd,hnum,hadd,ih]
   rw[if_neg (by simp),if_neg (by omega),a3i,c3o,hlen]
   simp only[c3C]
def b3y(lit dist:List Int):List Int:=(packF (lit++dist)).map Prod.fst
def a0W(lit dist:List Int):List Int:=cntF 19 (b3y lit dist)
def codesW(lit dist:List Int):List Int:=limLens (a0W lit dist) 7
def a2p(lit dist:List Int):List Int:=
 vbits ((lit.length:Int)-257) 5++(vbits ((dist.length:Int)-1) 5++(vbits ((manyGo (codesW lit dist) 19:Int)-4) 4++(codeBits (codesW lit dist) (manyGo (codesW lit dist) 19)++stepsB (codesW lit dist) (packF (lit++dist)))))
structure MayW (lit dist:List Int):Prop where
 lit0:257<=lit.length
 lit1:lit.length<=286
 dist0:1<=dist.length
 dist1:dist.length<=30
 litB:∀ x∈lit,0<=x/\x<=15
 distB:∀ x∈dist,0<=x/\x<=15
theorem MayW.all{lit dist:List Int}(h:MayW lit dist):∀ x∈lit++dist,0<=x/\x<=15:=fun x hx=>by
 rcases List.mem_append.1 hx with h1|h1
 ·exact h.litB x h1
 ·exact h.distB x h1
theorem a6h{m:Int}:∀ (st:List (Int×Int)) (l L:List Int),unpackTo l st m=some L->∀ s∈st,0<=s.1/\s.1<=18/\0<=s.2/\s.2<2^wN s.1
 | [],_,_,_,s,hs=>by cases hs
 | a::r,l,L,hu,s,hs=>by
  cases hadd:addF l a.1 a.2 m with
  | none=>rw[a3m hadd] at hu;cases hu
  | some l'=>
   rw[a3l hadd] at hu
   rcases c3U.1 hs with rfl|h
   ·exact b0h hadd
   ·exact a6h r l' L hu s h
theorem MayW.unpack{lit dist:List Int}(h:MayW lit dist):unpackTo [] (packF (lit++dist)) ((lit++dist).length:Nat)=some (lit++dist):=by
 have:=b3B (lit++dist) [] (((lit++dist).length:Nat):Int) h.all (by show ((0:Nat):Int)<=_;omega)
 simpa using this
theorem MayW.sym{lit dist:List Int}(h:MayW lit dist):∀ s∈packF (lit++dist),0<=s.1/\s.1<=18/\0<=s.2/\s.2<2^wN s.1:=a6h _ _ _ h.unpack
theorem a1e(lit dist:List Int):(a0W lit dist).length=19:=a1o _ _
theorem b5b(lit dist:List Int)(i:Nat)(hi:i<19):0<=nth (a0W lit dist) i/\nth (a0W lit dist) i<=(lit++dist).length:=by
 have:=a5T 19 (b3y lit dist) i hi
 have hl:=a7u (lit++dist)
 refine⟨this.1,Int.le_trans this.2 ?_⟩
 rw[b3y,List.length_map];omega
theorem MayW.counts{lit dist:List Int}(h:MayW lit dist):(a0W lit dist).any a0C=false/\(leavesF (a0W lit dist) 0).length<=2^7/\usedF (a0W lit dist)≠0:=by
 have hb:(a0W lit dist).any a0C=false:=by
  rw[List.any_eq_false]
  intro x hx
  obtain⟨i,hi,rfl⟩:=List.mem_iff_getElem.1 hx
  have:=b5b lit dist i (by rw[a1e] at hi;exact hi)
  rw[a0o hi] at this
  have h1:=h.lit1;have h2:=h.dist1
  rw[c3o] at this
  unfold a0C
  simp only[Bool.or_eq_true,decide_eq_true_eq];omega
 refine⟨hb,?_,?_⟩
 ·have:=(a3A (a0W lit dist) hb 0).2.2.2.1
  rw[a1e] at this;omega
 ·intro hu
  have hne:packF (lit++dist)≠[]:=by
   intro e
   have:=h.unpack
   rw[e] at this
   have:=Option.some.inj this
   have h1:=h.lit0
   have h2:=congrArg List.length this
   rw[c3o] at h2
   simp at h2;omega
  obtain⟨s,r,e⟩:∃ s r,packF (lit++dist)=s::r:=by
   cases he:packF (lit++dist) with
   | nil=>exact absurd he hne
   | cons s r=>exact⟨s,r,rfl⟩
  have hs:=h.sym s (by rw[e];exact c3w ..)
  have hn:0<nth (a0W lit dist) s.1.toNat:=by
   rw[a0W,a0t 19 _ _ (by omega)]
   have:0<(b3y lit dist).count ((s.1.toNat:Nat):Int):=by
    rw[List.count_pos_iff,b3y,e]
    refine List.mem_map.2 ⟨s,c3w ..,by omega⟩
   omega
  have hm:nth (a0W lit dist) s.1.toNat∈(a0W lit dist).filter (fun x=>decide (0<x)):=by
   refine List.mem_filter.2 ⟨?_,by simpa using hn⟩
   rw[a0o (by rw[a1e];omega)]
   exact List.getElem_mem _
  have:0<usedF (a0W lit dist):=by
   unfold usedF
   exact List.length_pos_of_mem hm
  omega
theorem MayW.lim{lit dist:List Int}(h:MayW lit dist):limF (a0W lit dist) 7=(codesW lit dist,0):=by
 obtain⟨hb,ht,_⟩:=h.counts
 unfold limF
 rw[if_neg (by rw[a1e];omega),if_neg (by simp[hb]),if_neg (by show ¬2^7<_;omega)];rfl
theorem a3S(lit dist:List Int):(codesW lit dist).length=19:=by
 rw[codesW,limLens,a1o,a1e]
theorem MayW.codes{lit dist:List Int}(h:MayW lit dist)(i:Nat)(hi:i<19):(0<nth (codesW lit dist) i↔0<nth (a0W lit dist) i)/\0<=nth (codesW lit dist) i/\nth (codesW lit dist) i<=7:=by
 obtain⟨hb,ht,_⟩:=h.counts
 exact b4i _ 7 (by omega) (by omega) hb ht i (by rw[a1e];exact hi)
theorem MayW.check{lit dist:List Int}(h:MayW lit dist):a0e (codesW lit dist)=0:=by
 obtain⟨hb,ht,hu⟩:=h.counts
 exact b0u _ 7 (by omega) (by rw[a1e];omega) (by rw[a1e];omega) hb ht hu
theorem MayW.code{lit dist:List Int}(h:MayW lit dist):∀ s∈packF (lit++dist),1<=nth (codesW lit dist) s.1.toNat/\nth (codesW lit dist) s.1.toNat<=7:=fun s hs=>by
 obtain⟨r0,r1,_⟩:=h.sym s hs
 have hc:=h.codes s.1.toNat (by omega)
 have hn:0<nth (a0W lit dist) s.1.toNat:=by
  rw[a0W,a0t 19 _ _ (by omega)]
  have:0<(b3y lit dist).count ((s.1.toNat:Nat):Int):=by
   rw[List.count_pos_iff,b3y]
   exact List.mem_map.2 ⟨s,hs,by omega⟩
  omega
 have:=hc.1.2 hn
 omega
theorem a5I{codes:List Int}:∀ (st:List (Int×Int)),(∀ s∈st,nth codes s.1.toNat<=7)->(stepsB codes st).length<=14*st.length
 | [],_=>by simp[stepsB]
 | s::r,h=>by
  have ih:=a5I r (fun x hx=>h x (c3D _ hx))
  have:=h s (c3w ..)
  have hw:=c1T s.1
  rw[a3i,c3o,b1v,c3x];omega
theorem MayW.len{lit dist:List Int}(h:MayW lit dist):(a2p lit dist).length<=71+14*(lit.length+dist.length):=by
 have h1:=a5I (codes:=codesW lit dist) (packF (lit++dist)) (fun s hs=>(h.code s hs).2)
 have h2:=a7u (lit++dist)
 have h3:=a4S (codesW lit dist) 19
 rw[c3o] at h2
 simp only[a2p,c3o,a0k,a1q];omega
theorem MayW.read{lit dist xs:List Int}{p:Nat}(h:MayW lit dist)(hT:p+(a2p lit dist).length<=8*xs.length)(hat:At xs p (a2p lit dist)):headF xs p=(lit,dist,(a2p lit dist).length,0):=by
 have hlen:(a2p lit dist).length=14+3*manyGo (codesW lit dist) 19+(stepsB (codesW lit dist) (packF (lit++dist))).length:=by
  simp only[a2p,c3o,a0k,a1q];omega
 rw[a2p] at hat
 obtain⟨a1,hat⟩:=a2h.1 hat
 obtain⟨a2,hat⟩:=a2h.1 hat
 obtain⟨a3,hat⟩:=a2h.1 hat
 obtain⟨a4,a5⟩:=a2h.1 hat
 simp only[a0k,a1q] at a2 a3 a4 a5
 have hm0:=b1b (codesW lit dist) 19 (by omega)
 have hm1:=a4S (codesW lit dist) 19
 have l0:=h.lit0;have l1:=h.lit1;have d0:=h.dist0;have d1:=h.dist1
 have e32:(2:Int)^5=32:=rfl
 have e16:(2:Int)^4=16:=rfl
 have n1:=a3G a1 (by omega) (by omega)
 have n2:=a3G a2 (by omega) (by omega)
 have n3:=a3G a3 (by omega) (by omega)
 have hlit:litF xs p=lit.length:=by unfold litF;omega
 have hdist:distF xs p=dist.length:=by unfold distF;omega
 have hmany:a2i xs p=manyGo (codesW lit dist) 19:=by
  unfold a2i
  rw[show p+10=p+5+5 by omega,n3];omega
 have hcodes:codesH xs p=codesW lit dist:=by
  unfold codesH
  rw[hmany]
  refine b8Q (a3S lit dist) (fun j hj=>(h.codes j hj).2) ?_
  rw[show p+14=p+5+5+4 by omega];exact a4
 have hst:=b4A h.check (a3S lit dist) (xs:=xs) (N:=((lit++dist).length:Nat)) (packF (lit++dist)) (lit.length+dist.length) [] (p+14+3*manyGo (codesW lit dist) 19) (lit++dist) (fun s hs=>⟨(h.code s hs).1,by have:=(h.code s hs).2;omega⟩) h.unpack rfl (by simp) (by omega) (by
  rw[show p+14+3*manyGo (codesW lit dist) 19=p+5+5+4+3*manyGo (codesW lit dist) 19 by omega];exact a5)
 have hr:readR xs p=(lit++dist,p+(a2p lit dist).length,0):=by
  unfold readR
  rw[hcodes,hlit,hdist,hmany,<-c3o]
  rw[c3o] at hst ⊢
  rw[hst,hlen]
  simp only[c3C]
 rw[b2u (by omega) (by omega) (by rw[hmany];omega) (by rw[hcodes];exact h.check) hr,hlit,List.take_left,List.drop_left,show p+(a2p lit dist).length-p=(a2p lit dist).length by omega]
abbrev Tok:=Int×Int×Int
def mayT(t:Tok)(said:Nat):Bool:=if t.2.1=0 then decide (t.2.2=0) else decide (t.1=0/\3<=t.2.1/\t.2.1<=258/\1<=t.2.2/\t.2.2<=32768/\t.2.2<=said)
def copyT(far:Nat):Nat->List Int->List Int
 | 0,out=>out
 | n+1,out=>copyT far n (out++[nth out (out.length-far)])
def tokT(t:Tok)(out:List Int):List Int:=if t.2.1=0 then out++[t.1] else copyT t.2.2.toNat t.2.1.toNat out
def expandF(most:Nat):List Tok->List Int->List Int×Int
 | [],out=>(out,0)
 | t::ts,out=>if mayT t out.length=false then ([],60) else if most<out.length+max 1 t.2.1.toNat then ([],2) else expandF most ts (tokT t out)
theorem b0B(far:Nat):∀ n out,(copyT far n out).length=out.length+n
 | 0,out=>rfl
 | n+1,out=>by rw[copyT,b0B far n,c3o,c3G];omega
theorem b0T(far most:Nat):∀ n out,out.length+n<=most->layN far most n out=(copyT far n out,0)
 | 0,out,h=>rfl
 | n+1,out,h=>by rw[layN,if_neg (by omega),b0T far most n _ (by rw[c3o,c3G];omega),copyT]
theorem a6y(t:Tok)(out:List Int)(h:0<=t.2.1):(tokT t out).length=out.length+max 1 t.2.1.toNat:=by
 unfold tokT
 split
 ·rw[c3o,c3G];omega
 ·rw[b0B];omega
def lk(n:Nat):Nat:=if n=258∨n<11 then 0 else Nat.log2 (n-3)-2
def lsym(n:Nat):Nat:=if n=258 then 285 else if n<11 then n+254 else 261+4*lk n+(n-3)/2^lk n-4
def a4P(n:Nat):Nat:=if n=258∨n<11 then 0 else (n-3)%2^lk n
def dk(d:Nat):Nat:=if d<5 then 0 else Nat.log2 (d-1)-1
def dsym(d:Nat):Nat:=if d<5 then d-1 else 2+2*dk d+(d-1)/2^dk d-2
def a3u(d:Nat):Nat:=if d<5 then 0 else (d-1)%2^dk d
theorem a3B:∀ n,n<259->3<=n->257<=lsym n/\lsym n<=285/\lenK (lsym n)=lk n/\a1m (lsym n)+a4P n=n/\a4P n<2^lk n/\lk n<=5:=by decide +kernel
theorem b2C{n:Nat}(h:n≠0):2^Nat.log2 n<=n/\n<2^(Nat.log2 n+1):=⟨Nat.log2_self_le h,Nat.lt_log2_self⟩
theorem a3U(d:Nat)(h1:1<=d)(h2:d<=32768):dsym d<=29/\a0J (dsym d)=dk d/\a0r (dsym d)+a3u d=d/\a3u d<2^dk d/\dk d<=13:=by
 by_cases h:d<5
 ·have e:dk d=0:=if_pos h
  have e2:dsym d=d-1:=if_pos h
  have e3:a3u d=0:=if_pos h
  rw[e,e2,e3]
  unfold a0J a0r
  rw[if_pos (by omega),if_pos (by omega)]
  omega
 ·obtain⟨a,b⟩:=b2C (n:=d-1) (by omega)
  have hL:2<=Nat.log2 (d-1):=by
   rcases c3H (Nat.log2 (d-1)) 2 with hh|hh
   ·have:2^(Nat.log2 (d-1)+1)<=2^2:=Nat.pow_le_pow_right (by omega) (by omega)
    omega
   ·exact hh
  have hL2:Nat.log2 (d-1)<=14:=by
   rcases c3H 14 (Nat.log2 (d-1)) with hh|hh
   ·have:2^15<=2^Nat.log2 (d-1):=Nat.pow_le_pow_right (by omega) (by omega)
    omega
   ·exact hh
  obtain⟨k,hk⟩:∃ k,Nat.log2 (d-1)=k+1:=⟨Nat.log2 (d-1)-1,by omega⟩
  rw[hk] at a b
  have e:dk d=k:=by unfold dk;rw[if_neg h,hk];rfl
  have e2:dsym d=2+2*k+(d-1)/2^k-2:=by unfold dsym;rw[if_neg h,e]
  have e3:a3u d=(d-1)%2^k:=by unfold a3u;rw[if_neg h,e]
  have hp:0<2^k:=Nat.two_pow_pos k
  have c1:2<=(d-1)/2^k:=by rw[Nat.le_div_iff_mul_le hp];rw[Nat.pow_succ] at a;omega
  have c2:(d-1)/2^k<4:=by rw[Nat.div_lt_iff_lt_mul hp];rw[Nat.pow_succ,Nat.pow_succ] at b;omega
  have c3:=Nat.div_add_mod (d-1) (2^k)
  have c4:=Nat.mod_lt (d-1) hp
  generalize hq:(d-1)/2^k=q at *
  generalize hr:(d-1)%2^k=r at *
  have es:dsym d=2*k+q:=by rw[e2];omega
  have ek:a0J (dsym d)=k:=by unfold a0J;rw[es,if_neg (by omega)];omega
  refine⟨by omega,by rw[ek,e],?_,by rw[e3,e];exact c4,by omega⟩
  unfold a0r
  rw[ek,es,if_neg (by omega),e3,show (2+(2*k+q)%2)=q by omega,Nat.mul_comm q]
  omega
def cbit(l:List Int)(s:Nat):List Int:=msbF (a0P l s) (nth l s).toNat
theorem b3W(l:List Int)(s:Nat):(cbit l s).length=(nth l s).toNat:=a0X _ _
def behB(dist:List Int)(t:Tok):List Int:=vbits (a4P t.2.1.toNat) (lk t.2.1.toNat)++(cbit dist (dsym t.2.2.toNat)++vbits (a3u t.2.2.toNat) (dk t.2.2.toNat))
def tokB(lit dist:List Int)(t:Tok):List Int:=if t.2.1=0 then cbit lit t.1.toNat else cbit lit (lsym t.2.1.toNat)++behB dist t
def toksB(lit dist:List Int)(ts:List Tok):List Int:=ts.flatMap (tokB lit dist)
def Tells(l:List Int)(s:Nat):Prop:=s<l.length/\1<=nth l s/\nth l s<=15
theorem a5m{l xs:List Int}{s p:Nat}(hc:a0e l=0)(h:Tells l s)(hT:p+(cbit l s).length<=8*xs.length)(hat:At xs p (cbit l s)):decF l xs p=((s:Int),0,(cbit l s).length):=by
 obtain⟨h1,h2,h3⟩:=h
 rw[b3W] at hT ⊢
 exact c0D hc h1 (by omega) (by omega) (by omega) hT hat
theorem b5V{l:List Int}{s:Nat}(h:Tells l s):a0z l=true:=by
 obtain⟨h1,h2,h3⟩:=h
 unfold a0z
 rw[List.any_eq_true]
 exact⟨nth l s,by simp[nth,List.getD,h1],by simpa using Int.lt_of_lt_of_le Int.zero_lt_one h2⟩
theorem c1n {dist xs:List Int} {most p:Nat} {t:Tok} {out:List Int} (hc:a0e dist=0) (hm:mayT t out.length=true) (h0:t.2.1≠0) (hd:Tells dist (dsym t.2.2.toNat)) (hmost:out.length+t.2.1.toNat<=most)
  (hT:p+(behB dist t).length<=8*xs.length) (hat:At xs p (behB dist t)) :
  a0I dist xs most (lsym t.2.1.toNat) out p=(tokT t out,p+(behB dist t).length,0):=by
 unfold mayT at hm
 rw[if_neg h0] at hm
 obtain⟨-,a1,a2,a3,a4,a5⟩:=c3F hm
 obtain⟨n,hn⟩:=c3y (show 0<=t.2.1 by omega)
 obtain⟨d,hdd⟩:=c3y (show 0<=t.2.2 by omega)
 unfold behB at hT hat ⊢
 unfold tokT
 rw[if_neg h0]
 rw[hdd] at hd
 rw[hn,hdd] at hT hat ⊢
 rw[hn] at hmost
 rw[hn] at a1 a2
 rw[hdd] at a3 a4 a5
 simp only[c3z] at hT hat hmost hd ⊢
 obtain⟨b1,b2,b3,b4,b5,b6⟩:=a3B n (by omega) (by omega)
 obtain⟨c1,c2,c3,c4,c5⟩:=a3U d (by omega) (by omega)
 obtain⟨t1,t2⟩:=a2h.1 hat
 obtain⟨t3,t4⟩:=a2h.1 t2
 simp only[c3o,a0k] at hT t2 t3 t4 ⊢
 have hdec:=a5m hc hd (by omega) t3
 have n1:numB xs p (lk n)=(a4P n:Int):=a3G t1 (by omega) (by exact_mod_cast b5)
 have n2:numB xs (p+lk n+(cbit dist (dsym d)).length) (dk d)=(a3u d:Int):=a3G t4 (by omega) (by exact_mod_cast c4)
 have hus:=b5V hd
 unfold a0I
 rw[b3,hdec]
 simp only[c3z]
 rw[c2,n2,n1]
 have hfar:((a0r (dsym d):Int)+(a3u d:Int)).toNat=d:=by omega
 have hln:a1m (lsym n)+((a4P n:Int)).toNat=n:=by omega
 rw[hfar,hln]
 have hlay:=b0T d most n out hmost
 rw[if_neg (by omega),if_neg (by omega),if_neg (by rw[hus];decide),if_neg (by simp),if_neg (by omega),if_neg (by omega),if_neg (by omega),hlay,if_neg (by simp)]
 simp only[Prod.mk.injEq,and_true,true_and]
 omega
def TokOk(lit dist:List Int)(t:Tok):Prop:=(t.2.1=0->0<=t.1/\t.1<=255/\Tells lit t.1.toNat)/\(t.2.1≠0->Tells lit (lsym t.2.1.toNat)/\Tells dist (dsym t.2.2.toNat)/\a0e dist=0)
theorem c0Q{lit dist xs:List Int}{most:Nat}(hc:a0e lit=0):∀ (ts:List Tok) (f p:Nat) (out:List Int),(∀ t∈ts,TokOk lit dist t)->Tells lit 256->(expandF most ts out).2=0->ts.length<f->p+(toksB lit dist ts++cbit lit 256).length<=8*xs.length->At xs p (toksB lit dist ts++cbit lit 256) ->
  symF lit dist xs most f out p=((expandF most ts out).1,p+(toksB lit dist ts++cbit lit 256).length,0)
 | [],0,p,out,_,_,_,hf,_,_=>by simp at hf
 | [],f+1,p,out,_,h256,_,_,hT,hat=>by
  simp only[toksB,c3O,List.nil_append] at hT hat ⊢
  rw[symF,a5m hc h256 hT hat]
  rw[if_neg (by simp),if_pos (by simp)]
  simp[expandF]
 | t::ts,0,p,out,_,_,_,hf,_,_=>by simp at hf
 | t::ts,f+1,p,out,htk,h256,hex,hf,hT,hat=>by
  have e:toksB lit dist (t::ts)=tokB lit dist t++toksB lit dist ts:=by simp[toksB]
  rw[e,c3t] at hT hat ⊢
  obtain⟨q1,q2⟩:=htk t c3w
  obtain⟨s1,s2⟩:=a2h.1 hat
  rw[c3o] at hT ⊢
  have hml:mayT t out.length=true:=by
   rw[expandF] at hex
   by_cases h:mayT t out.length=false
   ·rw[if_pos h] at hex;simp at hex
   ·simpa using h
  have hmo:¬most<out.length+max 1 t.2.1.toNat:=by
   intro h
   rw[expandF,if_neg (by rw[hml];decide),if_pos h] at hex;simp at hex
  have hex':expandF most (t::ts) out=expandF most ts (tokT t out):=by rw[expandF,if_neg (by rw[hml];decide),if_neg hmo]
  rw[hex'] at hex ⊢
  have ih:∀ q,q=p+(tokB lit dist t).length->symF lit dist xs most f (tokT t out) q=((expandF most ts (tokT t out)).1,q+(toksB lit dist ts++cbit lit 256).length,0):=fun q h=>c0Q hc ts f q (tokT t out) (fun u hu=>htk u (c3D _ hu)) h256 hex (by simp at hf;omega) (by rw[h];omega) (by rw[h];exact s2)
  by_cases h0:t.2.1=0
  ·obtain⟨l0,l1,l2⟩:=q1 h0
   have eb:tokB lit dist t=cbit lit t.1.toNat:=if_pos h0
   rw[eb] at hT s1 ih ⊢
   have hdec:=a5m hc l2 (by omega) s1
   rw[symF,hdec]
   simp only[]
   have hn:((t.1.toNat:Nat):Int)=t.1:=Int.toNat_of_nonneg l0
   rw[if_neg (by simp),if_neg (by omega),if_pos (by omega),if_neg (by omega),hn]
   have et:tokT t out=out++[t.1]:=if_pos h0
   rw[et] at ih ⊢
   rw[ih _ rfl]
   simp only[Prod.mk.injEq,and_true,true_and]
   omega
  ·obtain⟨l0,l1,l2⟩:=q2 h0
   have eb:tokB lit dist t=cbit lit (lsym t.2.1.toNat)++behB dist t:=if_neg h0
   rw[eb,c3o] at hT ih
   rw[eb] at s1 ⊢
   rw[c3o]
   obtain⟨s3,s4⟩:=a2h.1 s1
   have hdec:=a5m hc l0 (by omega) s3
   have hlen:3<=t.2.1/\t.2.1<=258:=by
    have:=hml
    unfold mayT at this
    rw[if_neg h0] at this
    have:=c3F this
    omega
   obtain⟨b1,b2,-⟩:=a3B t.2.1.toNat (by omega) (by omega)
   have hcp:=c1n (most:=most) l2 hml h0 l1 (by omega) (by omega) s4
   rw[symF,hdec]
   simp only[c3z]
   rw[if_neg (by simp),if_neg (by omega),if_neg (by omega),hcp]
   simp only[]
   rw[if_neg (by simp),ih _ (by omega)]
   simp only[Prod.mk.injEq,and_true,true_and]
   omega
theorem b0o(pre xs:List Int)(i:Nat):bitAt (pre++xs) (8*pre.length+i)=bitAt xs i:=by
 unfold bitAt
 rw[show (8*pre.length+i)/8=pre.length+i/8 by omega,show (8*pre.length+i)%8=i%8 by omega,a0x]
theorem b0l{pre xs bl:List Int}{p:Nat}(h:At xs p bl):At (pre++xs) (8*pre.length+p) bl:=fun t ht=>by
 rw[c3C,b0o];exact h t ht
theorem c2R{xs bl:List Int}(h:WB xs bl):At xs 0 bl:=fun t ht=>by rw[c3N];exact h.bit t ht
def FinalOf(xs data:List Int):Prop:=∀ (pre out:List Int) (most f:Nat),out.length+data.length<=most->∃ q,blksF (pre++xs) most (f+1) out (8*pre.length)=(out++data,q,0)/\(q+7)/8=pre.length+xs.length
theorem FinalOf.infl{xs data:List Int}(h:FinalOf xs data){most:Int}(h0:(data.length:Int)<=most)(h1:most<=16384):a0B xs most=(data,xs.length,0):=by
 obtain⟨q,hq,h8⟩:=h [] [] most.toNat (8*xs.length) (by simp;omega)
 have e:inflF xs most.toNat=(data,q,0):=by unfold inflF;simpa using hq
 rw[b9j (by omega) h1 (by rw[e]),e]
 simp only[List.length_nil,c3N] at h8
 rw[h8]
theorem b9F{t:Tok}{a b:Nat}(h:mayT t a=true)(hab:a<=b):mayT t b=true:=by
 unfold mayT at h ⊢
 split at h
 ·next h0=>rw[if_pos h0];exact h
 ·next h0=>
  rw[if_neg h0]
  have:=c3F h
  exact decide_eq_true (by omega)
theorem b0C(pre:List Int)(far:Nat):∀ n o,far<=o.length->1<=far->copyT far n (pre++o)=pre++copyT far n o
 | 0,o,_,_=>rfl
 | n+1,o,h,h1=>by
  have e:nth (pre++o) ((pre++o).length-far)=nth o (o.length-far):=by
   rw[c3o,show pre.length+o.length-far=pre.length+(o.length-far) by omega,a0x]
  rw[copyT,copyT,e,c3t,b0C pre far n _ (by rw[c3o];omega) h1]
theorem b1c{t:Tok}{a:Nat}(h:mayT t a=true):0<=t.2.1:=by
 unfold mayT at h
 split at h
 ·omega
 ·have:=c3F h;omega
theorem c0j(pre:List Int){t:Tok}{o:List Int}(h:mayT t o.length=true):tokT t (pre++o)=pre++tokT t o:=by
 unfold tokT
 unfold mayT at h
 split
 ·rw[c3t]
 ·next h0=>
  rw[if_neg h0] at h
  have:=c3F h
  exact b0C pre _ _ o (by omega) (by omega)
theorem a4h{most:Nat}{t:Tok}{ts:List Tok}{out:List Int}(h:(expandF most (t::ts) out).2=0):mayT t out.length=true/\out.length+max 1 t.2.1.toNat<=most/\expandF most (t::ts) out=expandF most ts (tokT t out):=by
 have hml:mayT t out.length=true:=by
  rw[expandF] at h
  by_cases hm:mayT t out.length=false
  ·rw[if_pos hm] at h;simp at h
  ·simpa using hm
 have hmo:¬most<out.length+max 1 t.2.1.toNat:=by
  intro hm
  rw[expandF,if_neg (by rw[hml];decide),if_pos hm] at h;simp at h
 exact⟨hml,by omega,by rw[expandF,if_neg (by rw[hml];decide),if_neg hmo]⟩
theorem a4g{most:Nat}:∀ (ts:List Tok) (out:List Int),(expandF most ts out).2=0->out.length+ts.length<=(expandF most ts out).1.length
 | [],out,_=>by simp[expandF]
 | t::ts,out,h=>by
  obtain⟨h1,h2,h3⟩:=a4h h
  rw[h3] at h ⊢
  have:=a4g ts (tokT t out) h
  rw[a6y t out (b1c h1)] at this
  rw[c3x];omega
theorem a8p(pre:List Int){M most:Nat}:∀ (ts:List Tok) (o:List Int),(expandF M ts o).2=0->pre.length+(expandF M ts o).1.length<=most->expandF most ts (pre++o)=(pre++(expandF M ts o).1,0)
 | [],o,_,_=>rfl
 | t::ts,o,h,hm=>by
  obtain⟨h1,h2,h3⟩:=a4h h
  rw[h3] at h hm ⊢
  have hg:=a4g ts (tokT t o) h
  rw[a6y t o (b1c h1)] at hg
  have ih:=a8p pre ts (tokT t o) h hm
  rw[expandF,if_neg (by rw[b9F h1 (by rw[c3o];omega)];decide),if_neg (by rw[c3o];omega),c0j pre h1,ih]
theorem a2d{l:List Int}{s:Nat}(h:Tells l s):1<=(cbit l s).length/\(cbit l s).length<=15:=by
 rw[b3W];obtain⟨a,b,c⟩:=h;omega
theorem b4H{lit dist:List Int}:∀ (ts:List Tok),(∀ t∈ts,TokOk lit dist t)->ts.length<=(toksB lit dist ts).length
 | [],_=>c3r _
 | t::ts,h=>by
  have ih:=b4H ts (fun u hu=>h u (c3D _ hu))
  obtain⟨a,b⟩:=h t c3w
  have e:toksB lit dist (t::ts)=tokB lit dist t++toksB lit dist ts:=by simp[toksB]
  rw[e,c3o,c3x]
  have:1<=(tokB lit dist t).length:=by
   unfold tokB
   split
   ·next h0=>exact (a2d (a h0).2.2).1
   ·next h0=>rw[c3o];have:=(a2d (b h0).1).1;omega
  omega
theorem a6F{bs:List Int}{most f:Nat}{out:List Int}{p:Nat}(h3:p+3<=8*bs.length)(hb:numB bs p 1=1):blksF bs most (f+1) out p=a0S bs most (numB bs (p+1) 2) out (p+3):=by
 rw[blksF,if_neg (by omega),if_neg (by omega)]
 split
 ·rfl
 ·rw[if_neg (by omega)]
theorem b4K{xs bl:List Int}(h:WB xs bl):bl.length<=8*xs.length/\(bl.length+7)/8=xs.length:=by have:=h.len;omega
theorem b1H {lit dist xs:List Int} {pre out data:List Int} {most p q:Nat} {ts:List Tok} (hc:a0e lit=0) (htk:∀ t∈ts,TokOk lit dist t) (h256:Tells lit 256) {M:Nat} (hex:expandF M ts []=(data,0))
  (hm:out.length+data.length<=most) (hat:At xs p (toksB lit dist ts++cbit lit 256)) (hT:p+(toksB lit dist ts++cbit lit 256).length<=8*xs.length) :
  symF lit dist xs most (8*xs.length+1) out p=(out++data,p+(toksB lit dist ts++cbit lit 256).length,0):=by
 have e:=a8p out (most:=most) ts [] (by rw[hex]) (by rw[hex];exact hm)
 rw[c3E,hex] at e
 have hge:=b4H ts htk
 rw[c3o] at hT
 have:=c0Q (most:=most) hc ts (8*xs.length+1) p out htk h256 (by rw[e]) (by omega) (by rw[c3o];exact hT) hat
 rw[this,e]
def fixB(ts:List Tok):List Int:=[1,1,0]++(toksB fixLit fixDist ts++cbit fixLit 256)
def dynB(lit dist:List Int)(ts:List Tok):List Int:=[1,0,1]++(a2p lit dist++(toksB lit dist ts++cbit lit 256))
theorem b6J:a0e fixLit=0:=by decide +kernel
theorem b9e:a0e fixDist=0:=by decide +kernel
theorem a3x(s:Nat)(h:s<288):Tells fixLit s:=by
 have:∀ s,s<288->s<fixLit.length/\1<=nth fixLit s/\nth fixLit s<=15:=by decide +kernel
 exact this s h
theorem b5e(s:Nat)(h:s<32):Tells fixDist s:=by
 have:∀ s,s<32->s<fixDist.length/\1<=nth fixDist s/\nth fixDist s<=15:=by decide +kernel
 exact this s h
def LitOk(ts:List Tok):Prop:=∀ t∈ts,0<=t.1/\t.1<=255
theorem a1r{M:Nat}:∀ (ts:List Tok) (out:List Int),(expandF M ts out).2=0->∀ t∈ts,t.2.1≠0->3<=t.2.1/\t.2.1<=258/\1<=t.2.2/\t.2.2<=32768
 | [],_,_,t,ht,_=>by cases ht
 | u::ts,out,h,t,ht,h0=>by
  obtain⟨h1,h2,h3⟩:=a4h h
  rw[h3] at h
  rcases c3U.1 ht with rfl|ht
  ·unfold mayT at h1
   rw[if_neg h0] at h1
   have:=c3F h1
   omega
  ·exact a1r ts _ h t ht h0
theorem a9m{M:Nat}{ts:List Tok}{out:List Int}(hl:LitOk ts)(h:(expandF M ts out).2=0):∀ t∈ts,TokOk fixLit fixDist t:=fun t ht=>by
 obtain⟨a,b⟩:=hl t ht
 refine⟨fun h0=>⟨a,b,a3x _ (by omega)⟩,fun h0=>?_⟩
 obtain⟨c1,c2,c3,c4⟩:=a1r ts out h t ht h0
 obtain⟨d1,d2,-⟩:=a3B t.2.1.toNat (by omega) (by omega)
 obtain⟨e1,-⟩:=a3U t.2.2.toNat (by omega) (by omega)
 exact⟨a3x _ (by omega),b5e _ (by omega),b9e⟩
theorem a4X{xs:List Int}{p:Nat}{bl:List Int}{n:Nat}{v:Int}(h:At xs p bl)(hb:vbits v n=bl)(h0:0<=v)(h1:v<2^n):numB xs p n=v:=a3G (by rw[hb];exact h) h0 h1
theorem b2o{xs data:List Int}{ts:List Tok}{M:Nat}(hw:WB xs (fixB ts))(hl:LitOk ts)(hex:expandF M ts []=(data,0)):FinalOf xs data:=fun pre out most f hm=>by
 obtain⟨w1,w2⟩:=b4K hw
 have hat:=b0l (pre:=pre) (c2R hw)
 rw[c3I] at hat
 have hxl:(pre++xs).length=pre.length+xs.length:=c3o
 have hl3:(fixB ts).length=3+(toksB fixLit fixDist ts++cbit fixLit 256).length:=by unfold fixB;rw[c3o];rfl
 obtain⟨a1,a2⟩:=a2h.1 hat
 rw[show ([1,1,0]:List Int)=[1]++[1,0] from rfl] at a1
 obtain⟨b1,b2⟩:=a2h.1 a1
 have n1:numB (pre++xs) (8*pre.length) 1=1:=a4X b1 (by decide) (by decide) (by decide)
 have n2:numB (pre++xs) (8*pre.length+1) 2=1:=a4X b2 (by decide) (by decide) (by decide)
 have hs:=b1H (xs:=pre++xs) (pre:=pre) (out:=out) (data:=data) (most:=most) (p:=8*pre.length+3) (q:=0) b6J (a9m hl (by rw[hex])) (a3x 256 (by decide)) hex hm a2 (by omega)
 refine⟨8*pre.length+3+(toksB fixLit fixDist ts++cbit fixLit 256).length,?_,?_⟩
 ·rw[a6F (by omega) n1,n2,a0S,if_neg (by decide),if_pos rfl,hs]
 ·omega
structure Codable (lit dist:List Int):Prop where
 may:MayW lit dist
 litC:a0e lit=0
 distC:a0z dist=true->a0e dist=0
 stop:Tells lit 256
theorem b6G{xs data lit dist:List Int}{ts:List Tok}{M:Nat}(hw:WB xs (dynB lit dist ts))(hc:Codable lit dist)(htk:∀ t∈ts,TokOk lit dist t)(hex:expandF M ts []=(data,0)):FinalOf xs data:=fun pre out most f hm=>by
 obtain⟨w1,w2⟩:=b4K hw
 have hat:=b0l (pre:=pre) (c2R hw)
 rw[c3I] at hat
 have hxl:(pre++xs).length=pre.length+xs.length:=c3o
 have hl3:(dynB lit dist ts).length=3+((a2p lit dist).length+(toksB lit dist ts++cbit lit 256).length):=by unfold dynB;rw[c3o,c3o];rfl
 obtain⟨a1,a2⟩:=a2h.1 hat
 obtain⟨a3,a4⟩:=a2h.1 a2
 rw[show ([1,0,1]:List Int)=[1]++[0,1] from rfl] at a1
 obtain⟨b1,b2⟩:=a2h.1 a1
 have n1:numB (pre++xs) (8*pre.length) 1=1:=a4X b1 (by decide) (by decide) (by decide)
 have n2:numB (pre++xs) (8*pre.length+1) 2=2:=a4X b2 (by decide) (by decide) (by decide)
 have hh:headF (pre++xs) (8*pre.length+3)=(lit,dist,(a2p lit dist).length,0):=hc.may.read (p:=8*pre.length+3) (by omega) a3
 have hce:codesE (headF (pre++xs) (8*pre.length+3))=0:=by
  rw[hh];unfold codesE
  have:=hc.stop.2.1
  rw[if_neg (by simp),if_neg (by simp only[];omega),if_neg (by simp only[];rw[hc.litC];decide),if_neg]
  rintro ⟨h1,h2⟩;exact h2 (hc.distC h1)
 have hs:=b1H (xs:=pre++xs) (pre:=pre) (out:=out) (data:=data) (most:=most) (p:=8*pre.length+3+(a2p lit dist).length) (q:=0) hc.litC htk hc.stop hex hm a4 (by omega)
 refine⟨8*pre.length+3+(a2p lit dist).length+(toksB lit dist ts++cbit lit 256).length,?_,?_⟩
 ·rw[a6F (by omega) n1,n2,a0S,if_neg (by decide),if_neg (by decide),if_pos rfl,if_neg (by rw[hce];decide),hh]
  exact hs
 ·omega
def storB(b:Int)(data:List Int):List Int:=[b,(data.length:Int)%256,(data.length:Int)/256,255-(data.length:Int)%256,255-(data.length:Int)/256]++data
theorem a2W(b:Int)(data:List Int):(storB b data).length=5+data.length:=by unfold storB;rw[c3o];rfl
theorem a4W(bs:List Int)(j:Nat)(hb:0<=nth bs j/\nth bs j<=255):numB bs (8*j) 8=nth bs j:=by
 rw[a3F bs (8*j) 8 (by omega),show 8*j/8=j by omega,show 8*j%8=0 by omega]
 omega
theorem b8c(bs:List Int)(most:Nat):∀ (data out:List Int) (j:Nat),(∀ i,i<data.length->nth bs (j+i)=nth data i)->(∀ x∈data,0<=x/\x<=255)->j+data.length<=bs.length->out.length+data.length<=most ->
  storF bs most data.length out (8*j)=(out++data,8*(j+data.length),0)
 | [],out,j,_,_,_,_=>by simp[storF]
 | x::data,out,j,h,hb,hl,hm=>by
  rw[c3x] at *
  have h0:nth bs j=x:=by simpa [nth] using h 0 (by omega)
  have hx:=hb x c3w
  rw[storF,if_neg (by omega),if_neg (by omega),a4W bs j (by rw[h0];exact hx),h0,show 8*j+8=8*(j+1) by omega,
   b8c bs most data (out++[x]) (j+1) (fun i hi=>by
    have:=h (i+1) (by omega)
    rw[show j+1+i=j+(i+1) by omega,this];simp[nth]) (fun y hy=>hb y (c3D _ hy)) (by omega) (by rw[c3o,c3G];omega)]
  rw[c3t]
  simp only[List.singleton_append,Prod.mk.injEq,and_true,true_and]
  omega
theorem b8d(pre post data out:List Int)(b:Int)(most:Nat)(hb:b=0∨b=1)(hd:∀ x∈data,0<=x/\x<=255)(hl:data.length<=65535)(hm:out.length+data.length<=most) :
  numB (pre++(storB b data++post)) (8*pre.length) 1=b/\numB (pre++(storB b data++post)) (8*pre.length+1) 2=0 /\
  a0m (pre++(storB b data++post)) most out (8*pre.length+3)=(out++data,8*(pre.length+5+data.length),0):=by
 obtain⟨bs,hbs⟩:∃ bs,bs=pre++(storB b data++post):=⟨_,rfl⟩
 have hlen:bs.length=pre.length+5+data.length+post.length:=by rw[hbs,c3o,c3o,a2W];omega
 have hat:∀ i,i<5+data.length->nth bs (pre.length+i)=nth (storB b data) i:=fun i hi=>by
  rw[hbs,a0x,a1t _ _ _ (by rw[a2W];exact hi)]
 have e0:nth bs pre.length=b:=by simpa [storB,nth] using hat 0 (by omega)
 have e1:nth bs (pre.length+1)=(data.length:Int)%256:=by simpa [storB,nth] using hat 1 (by omega)
 have e2:nth bs (pre.length+2)=(data.length:Int)/256:=by simpa [storB,nth] using hat 2 (by omega)
 have e3:nth bs (pre.length+3)=255-(data.length:Int)%256:=by simpa [storB,nth] using hat 3 (by omega)
 have e4:nth bs (pre.length+4)=255-(data.length:Int)/256:=by simpa [storB,nth] using hat 4 (by omega)
 have ed:∀ i,i<data.length->nth bs (pre.length+5+i)=nth data i:=fun i hi=>by
  rw[c3C,hat (5+i) (by omega)]
  have:=a0x [b,(data.length:Int)%256,(data.length:Int)/256,255-(data.length:Int)%256,255-(data.length:Int)/256] data i
  exact this
 rw[<-hbs]
 have n1:numB bs (8*pre.length) 1=b:=by
  rw[a3F bs _ 1 (by omega),show 8*pre.length/8=pre.length by omega,show 8*pre.length%8=0 by omega,e0]
  rcases hb with rfl|rfl<;>decide
 have n2:numB bs (8*pre.length+1) 2=0:=by
  rw[a3F bs _ 2 (by omega),show (8*pre.length+1)/8=pre.length by omega,show (8*pre.length+1)%8=1 by omega,e0]
  rcases hb with rfl|rfl<;>decide
 refine⟨n1,n2,?_⟩
 have hal:a1p (8*pre.length+3)=8*(pre.length+1):=by unfold a1p;omega
 have m1:=a4W bs (pre.length+1) (by rw[e1];omega)
 have m2:=a4W bs (pre.length+2) (by rw[e2];omega)
 have m3:=a4W bs (pre.length+3) (by rw[e3];omega)
 have m4:=a4W bs (pre.length+4) (by rw[e4];omega)
 have p1:numB bs (8*(pre.length+1)) 16=data.length:=by
  rw[show (16:Nat)=8+8 from rfl,a4V,m1,show 8*(pre.length+1)+8=8*(pre.length+2) by omega,m2,e1,e2]
  show (data.length:Int)%256+(data.length:Int)/256*256=_
  omega
 have p2:numB bs (8*(pre.length+1)+16) 16=65535-data.length:=by
  rw[show 8*(pre.length+1)+16=8*(pre.length+3) by omega,show (16:Nat)=8+8 from rfl,a4V,m3,show 8*(pre.length+3)+8=8*(pre.length+4) by omega,m4,e3,e4]
  show 255-(data.length:Int)%256+(255-(data.length:Int)/256)*256=_
  omega
 unfold a0m
 rw[hal,p1,p2,if_neg (by omega),if_neg (by omega),if_neg (by omega),c3z,show 8*(pre.length+1)+32=8*(pre.length+5) by omega,
  b8c bs most data out (pre.length+5) ed hd (by omega) hm]
theorem b0J{data:List Int}(hd:∀ x∈data,0<=x/\x<=255)(hl:data.length<=65535):FinalOf (storB 1 data) data:=fun pre out most f hm=>by
 obtain⟨a1,a2,a3⟩:=b8d pre [] data out 1 most (.inr rfl) hd hl hm
 rw[c3E] at a1 a2 a3
 refine⟨8*(pre.length+5+data.length),?_,?_⟩
 ·rw[a6F (by rw[c3o,a2W];omega) a1,a2,a0S,if_pos rfl,a3]
 ·rw[a2W];omega
def cl(xs:List Int)(i d:Nat):Nat->Nat->Nat
 | 0,n=>n
 | f+1,n=>if i+n<xs.length/\nth xs (i+n)=nth xs (i+n-d) then cl xs i d f (n+1) else n
theorem a9d(xs:List Int)(i d:Nat):∀ f n,n<=cl xs i d f n/\cl xs i d f n<=n+f/\(∀ k,n<=k->k<cl xs i d f n->i+k<xs.length/\nth xs (i+k)=nth xs (i+k-d)) /\
  (cl xs i d f n<n+f->¬(i+cl xs i d f n<xs.length/\nth xs (i+cl xs i d f n)=nth xs (i+cl xs i d f n-d)))
 | 0,n=>⟨c3r _,c3r _,fun k h1 h2=>by rw[cl] at h2;omega,fun h=>by rw[cl] at h;omega⟩
 | f+1,n=>by
  rw[cl]
  split
  ·next h=>
   obtain⟨a1,a2,a3,a4⟩:=a9d xs i d f (n+1)
   refine⟨by omega,by omega,fun k h1 h2=>?_,fun h2=>a4 (by omega)⟩
   rcases c3H n k with h3|h3
   ·exact a3 k h3 h2
   ·obtain rfl:k=n:=by omega
    exact h
  ·next h=>exact⟨c3r _,by omega,fun k h1 h2=>by omega,fun _=>h⟩
def clF(xs:List Int)(i d:Nat):Nat:=cl xs i d 258 0
theorem b6z(xs:List Int)(i d:Nat):clF xs i d<=258:=by have:=(a9d xs i d 258 0).2.1;unfold clF;omega
theorem b6y(xs:List Int)(i d k:Nat)(h:k<clF xs i d):i+k<xs.length/\nth xs (i+k)=nth xs (i+k-d):=(a9d xs i d 258 0).2.2.1 k (c3Q _) h
theorem a6J(xs:List Int)(i d:Nat)(hi:i<=xs.length):i+clF xs i d<=xs.length:=by
 rcases Nat.eq_zero_or_pos (clF xs i d) with h|h
 ·omega
 ·have:=(b6y xs i d (clF xs i d-1) (by omega)).1;omega
theorem c0B(xs:List Int)(i d n:Nat)(h:∀ k,k<n->i+k<xs.length/\nth xs (i+k)=nth xs (i+k-d))(hn:n<=258)(hend:n=258∨i+n≥xs.length∨nth xs (i+n)≠nth xs (i+n-d)):clF xs i d=n:=by
 obtain⟨a1,a2,a3,a4⟩:=a9d xs i d 258 0
 rw[show cl xs i d 258 0=clF xs i d from rfl] at *
 rcases Nat.lt_trichotomy (clF xs i d) n with h1|h1|h1
 ·exact absurd (h _ h1) (a4 (by omega))
 ·exact h1
 ·have:=a3 n (c3Q _) h1
  rcases hend with h2|h2|h2
  ·omega
  ·omega
  ·exact absurd this.2 h2
def updF(b:Nat×Nat)(n d:Nat):Nat×Nat:=if 3<=n/\b.1<n then (n,d) else b
def bestF(xs:List Int)(i:Nat):Nat->Nat×Nat
 | 0=>(0,0)
 | d+1=>updF (bestF xs i d) (clF xs i (d+1)) (d+1)
theorem a6D(xs:List Int)(i:Nat):∀ d,bestF xs i d=(0,0)∨(3<=(bestF xs i d).1/\1<=(bestF xs i d).2/\(bestF xs i d).2<=d/\clF xs i (bestF xs i d).2=(bestF xs i d).1)
 | 0=>.inl rfl
 | d+1=>by
  rw[bestF,updF]
  split
  ·next h=>exact .inr ⟨h.1,by simp,by simp,rfl⟩
  ·rcases a6D xs i d with h|⟨h1,h2,h3,h4⟩
   ·exact .inl h
   ·exact .inr ⟨h1,h2,by omega,h4⟩
theorem a6C(xs:List Int)(i a:Nat):∀ b,a<=b->(∀ e,a<e->e<=b->clF xs i e<3∨clF xs i e<=(bestF xs i a).1)->bestF xs i b=bestF xs i a
 | 0,h,_=>by obtain rfl:a=0:=(by omega);rfl
 | b+1,h,hs=>by
  rcases Nat.eq_or_lt_of_le h with h1|h1
  ·rw[h1]
  ·have ih:=a6C xs i a b (by omega) (fun e h2 h3=>hs e h2 (by omega))
   rw[bestF,ih,updF,if_neg]
   have:=hs (b+1) (by omega) (c3r _)
   omega
def mF(xs:List Int)(i:Nat):Nat×Nat:=bestF xs i i
theorem b2D(xs:List Int)(i:Nat):mF xs i=(0,0)∨(3<=(mF xs i).1/\1<=(mF xs i).2/\(mF xs i).2<=i/\clF xs i (mF xs i).2=(mF xs i).1):=a6D xs i i
theorem b9A(xs:List Int)(i:Nat)(hi:i<=xs.length)(h:xs.length<i+3):mF xs i=(0,0):=by
 rcases b2D xs i with h1|⟨h1,h2,h3,h4⟩
 ·exact h1
 ·have:=a6J xs i (mF xs i).2 hi;omega
theorem b7i(xs:List Int)(i d:Nat)(hi:i<=xs.length)(hd:d<=i)(h:(bestF xs i d).1=min 258 (xs.length-i)):mF xs i=bestF xs i d:=
 a6C xs i d i hd (fun e _ _=>.inr (by have:=b6z xs i e;have:=a6J xs i e hi;omega))
def lastF(h:Nat->Nat)(v:Nat):Nat->Nat
 | 0=>0
 | k+1=>if h k=v then k+1 else lastF h v k
theorem a2v(h:Nat->Nat)(v:Nat):∀ k,lastF h v k<=k/\(∀ j,lastF h v k<=j->j<k->h j≠v)/\(lastF h v k≠0->h (lastF h v k-1)=v)
 | 0=>⟨c3r _,fun j _ h2=>by omega,fun h2=>absurd rfl h2⟩
 | k+1=>by
  rw[lastF]
  split
  ·next h1=>exact⟨c3r _,fun j h2 h3=>by omega,fun _=>by simpa using h1⟩
  ·next h1=>
   obtain⟨a1,a2,a3⟩:=a2v h v k
   refine⟨by omega,fun j h2 h3=>?_,a3⟩
   rcases c3H j k with h4|h4
   ·exact a2 j h2 h4
   ·obtain rfl:j=k:=by omega
    exact h1
def c2f(xs:List Int)(h:Nat->Nat):Prop:=∀ i j,(∀ k,k<3->nth xs (i+k)=nth xs (j+k))->h i=h j
theorem a8i{xs:List Int}{h:Nat->Nat}(hm:c2f xs h)(i at_:Nat)(ha:at_<=i):bestF xs i (i-lastF h (h i) at_)=bestF xs i (i-at_):=by
 obtain⟨a1,a2,-⟩:=a2v h (h i) at_
 refine a6C xs i (i-at_) _ (by omega) (fun e h1 h2=>.inl ?_)
 rcases c3H (clF xs i e) 3 with h3|h3
 ·exact h3
 ·exfalso
  refine a2 (i-e) (by omega) (by omega) (hm _ _ (fun k hk=>?_))
  have:=(b6y xs i e k (by omega)).2
  rw[this,show i+k-e=i-e+k by omega]
def findF(xs:List Int):Nat->Nat->List Tok
 | 0,_=>[]
 | f+1,i=>if i<xs.length then (if (mF xs i).1=0∨(mF xs i).1<(mF xs (i+1)).1 then (nth xs i,0,0)::findF xs f (i+1) else (0,((mF xs i).1:Int),((mF xs i).2:Int))::findF xs f (i+(mF xs i).1)) else []
def tokensF(xs:List Int):List Tok:=findF xs xs.length 0
theorem a5k{xs:List Int}{i:Nat}(h:i<xs.length):xs.take (i+1)=xs.take i++[nth xs i]:=by
 rw[List.take_add_one,List.getElem?_eq_getElem h]
 simp[nth,List.getD,h]
theorem b0D{xs:List Int}{d:Nat}(h1:1<=d):∀ n i,d<=i->(∀ k,k<n->i+k<xs.length/\nth xs (i+k)=nth xs (i+k-d))->copyT d n (xs.take i)=xs.take (i+n)
 | 0,i,_,_=>rfl
 | n+1,i,hd,h=>by
  obtain⟨a1,a2⟩:=h 0 (by omega)
  rw[c3I] at a1 a2
  have hl:(xs.take i).length=i:=by rw[c3A];omega
  have e:nth (xs.take i) ((xs.take i).length-d)=nth xs i:=by
   rw[hl,a2]
   simp[nth,List.getD,c3R,show i-d<i by omega]
  rw[copyT,e,<-a5k a1,b0D h1 n (i+1) (by omega) (fun k hk=>by
   have:=h (k+1) (by omega)
   rw[show i+1+k=i+(k+1) by omega];exact this)]
  rw[show i+1+n=i+(n+1) by omega]
theorem a4i{xs:List Int}{most:Nat}(hm:xs.length<=most)(h16:xs.length<=16384):∀ f i,i<=xs.length->xs.length<=i+f->expandF most (findF xs f i) (xs.take i)=(xs,0)
 | 0,i,h,hf=>by
  obtain rfl:i=xs.length:=by omega
  rw[findF,expandF,c3B]
 | f+1,i,h,hf=>by
  rw[findF]
  by_cases hi:i<xs.length
  ·have hl:(xs.take i).length=i:=by rw[c3A];omega
   rw[if_pos hi]
   by_cases hc:(mF xs i).1=0∨(mF xs i).1<(mF xs (i+1)).1
   ·have e:tokT (nth xs i,0,0) (xs.take i)=xs.take (i+1):=by rw[a5k hi];rfl
    rw[if_pos hc,expandF,if_neg (by simp[mayT]),if_neg (by rw[hl];simp;omega),e]
    exact a4i hm h16 f (i+1) (by omega) (by omega)
   ·rcases b2D xs i with h0|⟨h1,h2,h3,h4⟩
    ·exact absurd (.inl (by rw[h0])) hc
    have hc2:=b6z xs i (mF xs i).2
    have hc3:=a6J xs i (mF xs i).2 h
    have e:tokT (0,((mF xs i).1:Int),((mF xs i).2:Int)) (xs.take i)=xs.take (i+(mF xs i).1):=by
     unfold tokT
     have hne:¬(((mF xs i).1:Int)=0):=by omega
     rw[if_neg hne]
     simp only[c3z]
     exact b0D h2 _ i h3 (fun k hk=>b6y xs i _ k (by omega))
    have hmay:mayT (0,((mF xs i).1:Int),((mF xs i).2:Int)) (xs.take i).length=true:=by
     unfold mayT
     have hne:¬(((mF xs i).1:Int)=0):=by omega
     rw[if_neg hne,hl]
     exact decide_eq_true (by refine⟨rfl,?_,?_,?_,?_,?_⟩<;>simp only[]<;>omega)
    rw[if_neg hc,expandF,if_neg (by rw[hmay];decide),if_neg (by show ¬most<(xs.take i).length+max 1 (((mF xs i).1:Int)).toNat;rw[hl,c3z];omega),e]
    exact a4i hm h16 f _ (by omega) (by omega)
  ·obtain rfl:i=xs.length:=by omega
   rw[if_neg hi,expandF,c3B]
theorem a5n{xs:List Int}{most:Nat}(hm:xs.length<=most)(h16:xs.length<=16384):expandF most (tokensF xs) []=(xs,0):=a4i hm h16 xs.length 0 (c3Q _) (by omega)
theorem a4G{xs:List Int}(hb:∀ j,0<=nth xs j/\nth xs j<=255):∀ f i,LitOk (findF xs f i)
 | 0,i=>fun t ht=>by cases ht
 | f+1,i=>by
  rw[findF]
  split
  ·split
   ·intro t ht
    rcases c3U.1 ht with rfl|ht
    ·exact hb i
    ·exact a4G hb f _ t ht
   ·intro t ht
    rcases c3U.1 ht with rfl|ht
    ·exact⟨by simp,by simp⟩
    ·exact a4G hb f _ t ht
  ·intro t ht;cases ht
theorem a4H(xs:List Int):∀ f f' i,xs.length<=i+f->xs.length<=i+f'->findF xs f i=findF xs f' i
 | 0,0,i,_,_=>rfl
 | 0,f'+1,i,h,_=>by rw[findF,findF,if_neg (by omega)]
 | f+1,0,i,_,h=>by rw[findF,findF,if_neg (by omega)]
 | f+1,f'+1,i,h,h'=>by
  rw[findF,findF]
  by_cases hi:i<xs.length
  ·rw[if_pos hi,if_pos hi]
   by_cases hc:(mF xs i).1=0∨(mF xs i).1<(mF xs (i+1)).1
   ·rw[if_pos hc,if_pos hc,a4H xs f f' (i+1) (by omega) (by omega)]
   ·rw[if_neg hc,if_neg hc,a4H xs f f' _ (by omega) (by omega)]
  ·rw[if_neg hi,if_neg hi]
theorem a9l(xs:List Int):∀ f i,(findF xs f i).length<=f
 | 0,i=>c3r _
 | f+1,i=>by
  rw[findF]
  split
  ·split<;>rw[c3x]<;>have h1:=a9l xs f (i+1)<;>have h2:=a9l xs f (i+(mF xs i).1)<;>omega
  ·simp
def hN(a b c:Nat):Nat:=((a*256 ^^^ b*16) ^^^ c)%4096
theorem c3f(a b c:Nat):hN a b c<4096:=Nat.mod_lt _ (by decide)
theorem b8t(a b:Nat)(ha:a<2^62)(hb:b<2^62):Go.bits .xor .i64 (a:Int) (b:Int)=((a ^^^ b:Nat):Int):=by
 have h:=Nat.xor_lt_two_pow ha hb
 simp only[Go.bits,BitVec.ofInt_natCast,BitVec.toNat_xor,BitVec.toNat_ofNat,show a%2^IntKind.i64.bits=a from Nat.mod_eq_of_lt (c3T ha (by decide)),show b%2^IntKind.i64.bits=b from Nat.mod_eq_of_lt (c3T hb (by decide))]
 exact c3q _ (by omega)
theorem b8I(a:Nat)(ha:a<2^62):Go.bits .and .i64 (a:Int) 4095=((a%4096:Nat):Int):=by
 have e:Go.bits .and .i64 (a:Int) ((4095:Nat):Int)=((a &&& 4095:Nat):Int):=by
  have h:a &&& 4095<=a:=Nat.and_le_left
  simp only[Go.bits,BitVec.ofInt_natCast,BitVec.toNat_and,BitVec.toNat_ofNat,show a%2^IntKind.i64.bits=a from Nat.mod_eq_of_lt (c3T ha (by decide)),show 4095%2^IntKind.i64.bits=4095 from rfl]
  exact c3q _ (by omega)
 rw[show (4095:Int)=((4095:Nat):Int) from rfl,e,show (4095:Nat)=2^12-1 from rfl,Nat.and_two_pow_sub_one_eq_mod]
theorem b9h(a b c:Int)(ha:0<=a/\a<=255)(hb:0<=b/\b<=255)(hc:0<=c/\c<=255) :
  Go.bits .and .i64 (Go.bits .xor .i64 (Go.bits .xor .i64 (a*256) (b*16)) c) 4095=(hN a.toNat b.toNat c.toNat:Int):=by
 obtain⟨x,rfl⟩:=c3y ha.1
 obtain⟨y,rfl⟩:=c3y hb.1
 obtain⟨z,rfl⟩:=c3y hc.1
 rw[show ((x:Int)*256)=((x*256:Nat):Int) by omega,show ((y:Int)*16)=((y*16:Nat):Int) by omega]
 have h1:x*256 ^^^ y*16<2^62:=Nat.xor_lt_two_pow (by omega) (by omega)
 rw[b8t _ _ (by omega) (by omega),b8t _ _ h1 (by omega),b8I _ (Nat.xor_lt_two_pow h1 (by omega))]
 rfl
def hashF(xs:List Int)(j:Nat):Nat:=hN (nth xs j).toNat (nth xs (j+1)).toNat (nth xs (j+2)).toNat
theorem a9o(xs:List Int)(j:Nat):hashF xs j<4096:=c3f _ _ _
theorem a6V(xs:List Int):c2f xs (hashF xs):=fun i j h=>by
 unfold hashF
 rw[show nth xs i=nth xs j by simpa using h 0 (by omega),h 1 (by omega),h 2 (by omega)]
open Go.RowKit
def cutA(A:Option Addr)(l c:Nat):Option Addr:=if c=l then A else A.map (·.add l)
theorem b8Z{A:Option Addr}{l c n:Nat}(h:A=none->n=0/\c=0):cutA A l c=none->n-l=0/\c-l=0:=by
 unfold cutA
 intro e
 have:A=none:=by
  split at e
  ·exact e
  ·simpa using e
 have:=h this
 omega
theorem b8Y{A:Option Addr}{l c:Nat}(h:∀ ad,A=some ad->∃ b o,ad=⟨b,o,none⟩):∀ ad,cutA A l c=some ad->∃ a,A=some a/\ad.block=a.block:=by
 intro ad e
 unfold cutA at e
 split at e
 ·exact⟨ad,e,rfl⟩
 ·obtain⟨a,ha,rfl⟩:=Option.map_eq_some_iff.1 e
  obtain⟨b,o,rfl⟩:=h a ha
  exact⟨_,ha,by rw[a0w]⟩
theorem RI.cut{k:IntKind}{w:World}{A:Option Addr}{n c:Nat}{xs:List Int}(h:RI k w A n xs)(hpl:∀ ad,A=some ad->∃ b o,ad=⟨b,o,none⟩){l:Nat}(hl:l<=n)(hc:n<=c):RI k w (cutA A l c) (n-l) (xs.drop l):=by
 have hlen:=h.len
 refine⟨by rw[List.length_drop,hlen],fun hp=>?_,fun b o ha j hj=>?_⟩
 ·obtain⟨b,o,rfl⟩:=h.hd (by omega)
  unfold cutA
  rw[if_neg (by omega)]
  exact⟨b,o+l,by simp[a0w]⟩
 ·unfold cutA at ha
  rw[if_neg (by omega)] at ha
  obtain⟨b',o',rfl⟩:=h.hd (by omega)
  simp[a0w] at ha
  obtain⟨rfl,rfl⟩:=ha
  rw[c3C,h.cell b' o' rfl (l+j) (by omega)]
  simp[nth,List.getD]
open Go.RowKit
def a4d(A:Option Addr)(n c:Nat):Prop:=n<=c/\c<=maxLen/\(0<c->∃ b o,A=some ⟨b,o,none⟩)
theorem a2c(w:World)(A:Option Addr)(n c l h:Nat)(li hi:Int)(hli:li=l)(hhi:hi=h)(hl:l<=h)(hh:h<=n)(hc:a4d A n c) :
  (Instr.slice 26 (.slice A n c) (some (.int .i64 li)) (some (.int .i64 hi)) none).run Tryz.prog w=.ok (.slice (cutA A l c) (h-l) (c-l)) w:=by
 obtain⟨h1,-,h3⟩:=hc
 subst hli
 subst hhi
 rw[run_slice_lh w 26 A n c (by kernel_rfl) .i64 .i64 l h (by omega) (by omega) (by omega)]
 have hs:(sizeOf (Tryz.prog.elem 26)).run Tryz.prog w=.ok 1 w:=by kernel_rfl
 rw[hs]
 simp[Result.andThen,sliced,cutA]
theorem RI.mid{k:IntKind}{w:World}{A:Option Addr}{n c:Nat}{xs:List Int}(h:RI k w A n xs)(hc:a4d A n c){l m:Nat}(hl:l<=m)(hm:m<=n):RI k w (cutA A l c) (m-l) ((xs.take m).drop l):=by
 obtain⟨h1,-,h3⟩:=hc
 have hlen:=h.len
 refine⟨by rw[List.length_drop,c3A,hlen];omega,fun hp=>?_,fun b o ha j hj=>?_⟩
 ·obtain⟨b,o,rfl⟩:=h3 (by omega)
  unfold cutA
  rw[if_neg (by omega)]
  exact⟨b,o+l,by simp[a0w]⟩
 ·unfold cutA at ha
  rw[if_neg (by omega)] at ha
  obtain⟨b',o',rfl⟩:=h3 (by omega)
  simp[a0w] at ha
  obtain⟨rfl,rfl⟩:=ha
  rw[c3C,h.cell b' o' rfl (l+j) (by omega)]
  have e:nth ((xs.take m).drop l) j=nth xs (l+j):=by
   rw[<-a9B xs m (l+j) (by omega)]
   simp[nth,List.getD]
  rw[e]
theorem b2l{A:Option Addr}{n c l m:Nat}(hc:a4d A n c)(hnil:A=none->n=0/\c=0)(hl:l<=m)(hm:m<=n):cutA A l c=none->m-l=0/\c-l=0:=by
 intro e
 have:=b8Z (l:=l) hnil e
 omega
theorem a9D{w:World}{base:Nat}{e:TypeId}{A:Option Addr}{n c:Nat}{k:IntKind}{xs:List Int}(h:w.ownsRow base e 1 (.slice A n c) n (ints k xs)):a4d A n c:=by
 rcases h.2 with⟨hv,rfl⟩|⟨g,cap,cur,hv,hb,hh,hc,hm,_⟩
 ·injection hv with h1 h2 h3;subst h1;subst h3
  exact⟨c3r _,c3Q _,fun h=>by omega⟩
 ·injection hv with h1 h2 h3;subst h1;subst h3
  exact⟨hc,hm,fun _=>⟨g,0,rfl⟩⟩
open Go.RowKit
def a3w(A:Option Addr)(n c:Nat)(last:List Int)(b:Nat)(done:Int):List Value:=.slice A n c::(ints .i64 last++[.slice (some ⟨b,0,none⟩) n n,.int .i64 done])
structure FRaw (w:World) (g b:Nat) (A:Option Addr) (n c:Nat) (pr last:List Int) (done:Int):Prop where
 blk:Blk w g 139 (a3w A n c last b done)
 row:Blk w b 3 (ints .i64 pr)
 lenP:pr.length=n
 lenL:last.length=4096
 ne:g≠b
theorem FRaw.cells{w:World}{g b:Nat}{A:Option Addr}{n c:Nat}{pr last:List Int}{done:Int}(h:FRaw w g b A n c pr last done) :
  w.cell? ⟨g,0,none⟩=some (.slice A n c)/\w.cell? ⟨g,4097,none⟩=some (.slice (some ⟨b,0,none⟩) n n)/\w.cell? ⟨g,4098,none⟩=some (.int .i64 done) /\
  (∀ v,v<4096->w.cell? ⟨g,1+v,none⟩=some (.int .i64 (nth last v)))/\(∀ v,v<n->w.cell? ⟨b,v,none⟩=some (.int .i64 (nth pr v)))/\(∀ v,w.frozen? ⟨g,v,none⟩=false)/\(∀ v,w.frozen? ⟨b,v,none⟩=false):=by
 have e:(ints .i64 last).length=4096:=by simp[ints,h.lenL]
 refine⟨h.blk.cell 0,?_,?_,fun v hv=>?_,fun v hv=>h.row.cellI (by rw[h.lenP];exact hv),h.blk.frozen,h.row.frozen⟩
 ·rw[h.blk.cell];unfold a3w;rw[c3K,c3u (by omega),e];rfl
 ·rw[h.blk.cell];unfold a3w;rw[c3K,c3u (by omega),e];rfl
 ·rw[h.blk.cell,Nat.add_comm];unfold a3w;rw[c3K,List.getElem?_append_left (by omega),a0f]
  simp[nth,List.getD,show v<last.length by rw[h.lenL];exact hv]
theorem FRaw.keeps{w w':World}{g b:Nat}{A:Option Addr}{n c:Nat}{pr last:List Int}{done:Int}{S:List Nat}(h:FRaw w g b A n c pr last done)(hk:Keeps S w w')(hg:g∉S)(hb:b∉S):FRaw w' g b A n c pr last done:=
 ⟨h.blk.keeps hk hg,h.row.keeps hk hb,h.lenP,h.lenL,h.ne⟩
theorem FRaw.setP{w:World}{g b:Nat}{A:Option Addr}{n c:Nat}{pr last:List Int}{done:Int}(h:FRaw w g b A n c pr last done)(j:Nat)(x:Int):FRaw (w.setCell ⟨b,j,none⟩ (.int .i64 x)) g b A n c (pr.set j x) last done:=
 ⟨h.blk.set_other (by exact h.ne) _,by have:=h.row.set j (.int .i64 x);simpa [ints,List.map_set] using this,by rw[List.length_set,h.lenP],h.lenL,h.ne⟩
theorem FRaw.setL{w:World}{g b:Nat}{A:Option Addr}{n c:Nat}{pr last:List Int}{done:Int}(h:FRaw w g b A n c pr last done)(v:Nat)(hv:v<4096)(x:Int):FRaw (w.setCell ⟨g,1+v,none⟩ (.int .i64 x)) g b A n c pr (last.set v x) done:=by
 have e:(ints .i64 last).length=4096:=by simp[ints,h.lenL]
 refine⟨?_,h.row.set_other (by exact h.ne.symm) _,h.lenP,by rw[List.length_set,h.lenL],h.ne⟩
 have:=h.blk.set (1+v) (.int .i64 x)
 unfold a3w at this ⊢
 rw[Nat.add_comm 1 v] at this ⊢
 rw[List.set_cons_succ,List.set_append_left _ _ (by omega)] at this
 simpa [ints,List.map_set] using this
theorem FRaw.setD{w:World}{g b:Nat}{A:Option Addr}{n c:Nat}{pr last:List Int}{done:Int}(h:FRaw w g b A n c pr last done)(x:Int):FRaw (w.setCell ⟨g,4098,none⟩ (.int .i64 x)) g b A n c pr last x:=by
 have e:(ints .i64 last).length=4096:=by simp[ints,h.lenL]
 refine⟨?_,h.row.set_other (by exact h.ne.symm) _,h.lenP,h.lenL,h.ne⟩
 have:=h.blk.set 4098 (.int .i64 x)
 unfold a3w at this ⊢
 rw[List.set_cons_succ,List.set_append_right _ _ (by omega),e] at this
 exact this
structure FB (w:World) (g b:Nat) (A:Option Addr) (n c:Nat) (xs:List Int) (k:Nat):Prop where
 raw:∃ pr last:List Int,FRaw w g b A n c pr last k/\(∀ v,v<4096->nth last v=(lastF (hashF xs) v k:Int))/\(∀ j,j<k->nth pr j=(lastF (hashF xs) (hashF xs j) j:Int))
 ri:RI .u8 w A n xs
 cap:a4d A n c
 off:Off [g,b] A
 byte:∀ j,0<=nth xs j/\nth xs j<=255
 bound:n<=16384
 known:k<=n
theorem FB.keeps{w w':World}{g b:Nat}{A:Option Addr}{n c:Nat}{xs:List Int}{k:Nat}{S:List Nat}(h:FB w g b A n c xs k)(hk:Keeps S w w')(hg:g∉S)(hb:b∉S)(hS:Off S A):FB w' g b A n c xs k:=by
 obtain⟨pr,last,p1,p2,p3⟩:=h.raw
 exact⟨⟨pr,last,p1.keeps hk hg hb,p2,p3⟩,h.ri.keeps hk hS,h.cap,h.off,h.byte,h.bound,h.known⟩
theorem b2L(xs:List Int)(i m j:Nat)(hj:j<m)(h:i+m<=xs.length):nth ((xs.take (i+m)).drop i) j=nth xs (i+j):=by
 simp[nth,List.getD,List.getElem?_drop,c3R,show i+j<i+m by omega]
theorem a8s(w:World)(g b:Nat)(A:Option Addr)(n c:Nat)(xs:List Int)(k i:Nat)(h:FB w g b A n c xs k)(hi:i+3<=n) :
  Calls Tryz.prog 114 #[.pointer (some ⟨g,0,none⟩),.int .i64 i] w fun e w'=>e=.returned (.int .i64 (hashF xs i))/\Dr w w':=by
 have hB:=h.bound
 obtain⟨pr,last,hraw,-,-⟩:=h.raw
 have c0:=hraw.cells.1
 have hsm:=fun w=>a2c w A n c i (i+3) (i:Int) ((i:Int)+3) rfl (by omega) (by omega) hi h.cap
 have hm:=h.ri.mid h.cap (show i<=i+3 by omega) hi
 have hlen:xs.length=n:=h.ri.len
 obtain⟨bb,o,hA⟩:=hm.hd (show 0<i+3-i by omega)
 have k0:=hm.cell bb o hA 0 (by omega)
 have k1:=hm.cell bb o hA 1 (by omega)
 have k2:=hm.cell bb o hA 2 (by omega)
 rw[b2L xs i 3 0 (by omega) (by omega)] at k0
 rw[b2L xs i 3 1 (by omega) (by omega)] at k1
 rw[b2L xs i 3 2 (by omega) (by omega)] at k2
 rw[c3I] at k0
 rw[c3I] at k0
 rw[hA,Nat.add_sub_cancel_left] at hsm
 have hv:=b9h (nth xs i) (nth xs (i+1)) (nth xs (i+2)) (h.byte _) (h.byte _) (h.byte _)
 obtain⟨x,hx⟩:∃ x,x=nth xs i:=⟨_,rfl⟩
 obtain⟨y,hy⟩:∃ y,y=nth xs (i+1):=⟨_,rfl⟩
 obtain⟨z,hz⟩:∃ z,z=nth xs (i+2):=⟨_,rfl⟩
 have bx:=h.byte i
 have by':=h.byte (i+1)
 have bz:=h.byte (i+2)
 have hF:hashF xs i=hN x.toNat y.toNat z.toNat:=by rw[hx,hy,hz];rfl
 rw[<-hx] at k0 hv bx
 rw[<-hy] at k1 hv by'
 rw[<-hz] at k2 hv bz
 rw[hF]
 have HV:=c3p hv
 have wi:IntKind.i64.wrap ((i:Int)+3)=(i:Int)+3:=c3q _ (by omega)
 have wx:IntKind.i64.wrap (x*256)=x*256:=c3q _ (by omega)
 have wy:IntKind.i64.wrap (y*16)=y*16:=c3q _ (by omega)
 clear h hraw hm hA hv hx hy hz hF hB
 go_enter Tryz.func114,Tryz.ntmps114
 go_upto_region 2 with (fail)
 go_quiet (fail)
 go_wp2_with fail
 rw[HV.out]
 go_ret
 exact⟨rfl,_,rfl⟩
open Go.RowKit
def doneOf(w:World)(g:Nat):Nat:=match w.cell? ⟨g,4098,none⟩ with|some v=>(intOf v).toNat|none=>0
theorem FB.doneOf{w:World}{g b:Nat}{A:Option Addr}{n c:Nat}{xs:List Int}{k:Nat}(h:FB w g b A n c xs k):doneOf w g=k:=by
 obtain⟨pr,last,p1,-,-⟩:=h.raw
 unfold Proofs.YtghjlpechjggjaaGreatDoor.doneOf
 rw[p1.cells.2.2.1];simp[intOf]
theorem FRaw.cast{w:World}{g b:Nat}{A:Option Addr}{n c:Nat}{pr last:List Int}{x y:Int}(h:FRaw w g b A n c pr last x)(e:x=y):FRaw w g b A n c pr last y:=e ▸ h
theorem b6P{w:World}{g b:Nat}{A:Option Addr}{n c:Nat}{xs pr last:List Int}{d:Nat}(h:FRaw w g b A n c pr last d)(hl:∀ v,v<4096->nth last v=(lastF (hashF xs) v d:Int))(hp:∀ j,j<d->nth pr j=(lastF (hashF xs) (hashF xs j) j:Int))(hd:d<n) :
  (∀ v,v<4096->nth (last.set (hashF xs d) ((d:Int)+1)) v=(lastF (hashF xs) v (d+1):Int))/\(∀ j,j<d+1->nth (pr.set d (nth last (hashF xs d))) j=(lastF (hashF xs) (hashF xs j) j:Int)):=by
 have hh:=a9o xs d
 refine⟨fun v hv=>?_,fun j hj=>?_⟩
 ·rw[lastF]
  by_cases e:hashF xs d=v
  ·subst e;rw[if_pos rfl,a1Z _ _ _ (by rw[h.lenL];exact hv)];omega
  ·rw[if_neg e,a2R _ _ _ _ (fun e2=>e e2.symm),hl v hv]
 ·by_cases e:j=d
  ·subst e;rw[a1Z _ _ _ (by rw[h.lenP];omega),hl _ hh]
  ·rw[a2R _ _ _ _ e,hp j (by omega)]
theorem b5k(w:World)(g b:Nat)(A:Option Addr)(n c:Nat)(xs:List Int)(k m:Nat)(h:FB w g b A n c xs k)(hk:k<=m)(hto:m+3<=n) :
  Calls Tryz.prog 113 #[.pointer (some ⟨g,0,none⟩),.int .i64 m] w fun e w'=>e=.returned (.tuple #[])/\FB w' g b A n c xs m/\Keeps [g,b] w w':=by
 have hB:=h.bound
 have H:=c3p h
 clear h
 go_enter Tryz.func113,Tryz.ntmps113
 go_wp2_with fail
 go_loopw [4] (fun hv wr=>∃ d:Nat,k<=d/\d<=m/\Hid (FB wr g b A n c xs d)/\Hid (Keeps [g,b] w wr)) (fun _ wr=>m-doneOf wr g)
 case atStart=>exact⟨k,by omega,by omega,H,c3p (Keeps.refl _ _)⟩
 case round=>
  clear H
  obtain⟨d,hd,hdt,HF,HK⟩:=hrel
  have hm0:=HF.out.doneOf
  have HM:=c3p hm0
  obtain⟨pr,last,hraw,hl,hp⟩:=HF.out.raw
  have HR:=c3p hraw
  have HL:=c3p hl
  have HP:=c3p hp
  obtain⟨c0,c1,c2,c3,c4,f1,f2⟩:=hraw.cells
  clear hm0 hraw hl hp
  have w3:IntKind.i64.wrap ((d:Int)+3)=(d:Int)+3:=c3q _ (by omega)
  have w1:IntKind.i64.wrap ((d:Int)+1)=(d:Int)+1:=c3q _ (by omega)
  by_cases hlt:d<m
  ·have x1:decide ((d:Int)<(m:Int))=true:=by simp;omega
   have x2:decide ((d:Int)+3<=(n:Int))=true:=by simp;omega
   have d4:=c4 d (by omega)
   have HC3:=c3p c3
   clear c3 c4
   go_upto_region 0 with (fail)
   go_quiet (fail)
   go_wp2_with fail
   refine (a8s _ g b A n c xs d d (HF.out.keeps (S:=[]) (by repeat (first|exact Keeps.refl _ _|apply Keeps.drewN|apply Keeps.drew)) (by simp) (by simp) (a0a _)) (by omega)).mono ?_
   rintro _ w4 ⟨rfl,hd4⟩
   have hk4:=((Keeps.refl [] wr).drewN _).trans (hd4.keeps (S:=[]))
   have HR4:=c3p (HR.out.keeps hk4 (by simp) (by simp))
   have HK4:=c3p hk4
   have hst:=b6P HR.out HL.out HP.out (show d<n by omega)
   have hlt4:=a9o xs d
   obtain⟨q,hq⟩:∃ q,q=hashF xs d:=⟨_,rfl⟩
   rw[<-hq] at hst hlt4 ⊢
   have HST:=c3p hst
   have c3:=HC3.out q hlt4
   clear hd4 hk4 hst hq c0 c1 c2 d4 c3 f1 f2
   obtain⟨c0,c1,c2,c3,c4,f1,f2⟩:=HR4.out.cells
   have d4:=c4 d (by omega)
   have c3:=c3 q hlt4
   clear c4
   go_upto_region 3 with (fail)
   go_region
   obtain⟨w5,hw5⟩:∃ w5,w5=(w4.setCell ⟨b,d,none⟩ (.int .i64 (nth last q))).drew:=⟨_,rfl⟩
   rw[<-hw5]
   have hr5:FRaw w5 g b A n c (pr.set d (nth last q)) last d:=by rw[hw5];exact (HR4.out.setP d _).keeps (S:=[]) ((Keeps.refl [] _).drew) (by simp) (by simp)
   have hk5:Keeps [g,b] wr w5:=by rw[hw5];exact ((HK4.out.mono (S':=[g,b]) (fun x hx=>by cases hx)).setCell (p:=⟨b,d,none⟩) (.inl (by simp)) _).drew
   have HR5:=c3p hr5
   have HK5:=c3p hk5
   clear hr5 hk5 hw5 HR4 HK4 c0 c1 c2 c3 d4 f1 f2
   obtain⟨c0,c1,c2,c3,c4,f1,f2⟩:=HR5.out.cells
   have c3:=c3 q hlt4
   clear c4
   go_upto_region 4 with (fail)
   go_region
   obtain⟨w6,hw6⟩:∃ w6,w6=(w5.setCell ⟨g,1+q,none⟩ (.int .i64 ((d:Int)+1))).drew:=⟨_,rfl⟩
   rw[<-hw6]
   have hr6:FRaw w6 g b A n c (pr.set d (nth last q)) (last.set q ((d:Int)+1)) d:=by rw[hw6];exact (HR5.out.setL q hlt4 _).keeps (S:=[]) ((Keeps.refl [] _).drew) (by simp) (by simp)
   have hk6:Keeps [g,b] wr w6:=by rw[hw6];exact (HK5.out.setCell (p:=⟨g,1+q,none⟩) (.inl (by simp)) _).drew
   have HR6:=c3p hr6
   have HK6:=c3p hk6
   clear hr6 hk6 hw6 HR5 HK5 c0 c1 c2 c3 f1 f2
   obtain⟨c0,c1,c2,c3,c4,f1,f2⟩:=HR6.out.cells
   clear c3 c4
   go_wp2_with fail
   have hfb:FB (w6.setCell ⟨g,4098,none⟩ (.int .i64 ((d:Int)+1))) g b A n c xs (d+1):=
    ⟨⟨_,_,(HR6.out.setD ((d:Int)+1)).cast (by omega),HST.out.1,HST.out.2⟩,HF.out.ri.keeps (HK6.out.setCell (p:=⟨g,4098,none⟩) (.inl (by simp)) _) HF.out.off,HF.out.cap,HF.out.off,HF.out.byte,HF.out.bound,by have:=HF.out.known;omega⟩
   have HFB:=c3p hfb
   have hdn:=hfb.doneOf
   clear hfb
   go_roundw
   case rel=>exact⟨d+1,by omega,by omega,HFB,c3p (HK.out.trans (HK6.out.setCell (p:=⟨g,4098,none⟩) (.inl (by simp)) _))⟩
   case measure=>rw[hdn,HM.out];omega
  ·obtain rfl:d=m:=by omega
   have x1:decide ((d:Int)<(d:Int))=false:=by simp
   go_upto_region 0 with (fail)
   go_quiet (fail)
   go_wp2_with fail
   go_end0
   exact⟨rfl,HF.out.keeps (S:=[]) (by repeat (first|exact Keeps.refl _ _|apply Keeps.drewN|apply Keeps.drew)) (by simp) (by simp) (a0a _),HK.out.trans (by repeat (first|exact Keeps.refl _ _|apply Keeps.drewN|apply Keeps.drew))⟩
open Go.RowKit
theorem a7l(w:World)(g b:Nat)(A:Option Addr)(n c:Nat)(xs:List Int)(k i:Nat)(h:FB w g b A n c xs k)(hk:k<=i)(hi:i<=n) :
  Calls Tryz.prog 91 #[.pointer (some ⟨g,0,none⟩),.int .i64 i] w fun e w'=>e=.returned (.tuple #[.int .i64 (mF xs i).1,.int .i64 (mF xs i).2])/\∃ k',k<=k'/\k'<=i/\FB w' g b A n c xs k'/\Keeps [g,b] w w':=by
 have hB:=h.bound
 have H:=c3p h
 have hlen:xs.length=n:=h.ri.len
 obtain⟨pr,last,hraw,-,-⟩:=h.raw
 have c0:=hraw.cells.1
 clear hraw h
 have w3:IntKind.i64.wrap ((i:Int)+3)=(i:Int)+3:=c3q _ (by omega)
 by_cases hs:i+3<=n
 rotate_left
 ·have x1:decide ((n:Int)<(i:Int)+3)=true:=by simp;omega
  rw[b9A xs i (by omega) (by omega)]
  go_enter Tryz.func91,Tryz.ntmps91
  go_wp2_with fail
  go_step3
  go_wp2_with fail
  rw[c3P]
  go_ret2
  exact⟨rfl,k,c3r _,hk,H.out,Keeps.refl _ _⟩
 have x1:decide ((n:Int)<(i:Int)+3)=false:=by simp;omega
 go_enter Tryz.func91,Tryz.ntmps91
 go_wp2_with fail
 go_step3
 go_wp2_with fail
 refine (b5k w g b A n c xs k i H.out hk hs).mono ?_
 rintro _ w1 ⟨rfl,h1,hk1⟩
 have H1:=c3p h1
 have HK1:=c3p hk1
 obtain⟨pr1,last1,hr1,hl1,hp1⟩:=h1.raw
 have HR1:=c3p hr1
 have HL1:=c3p hl1
 have HP1:=c3p hp1
 clear h1 hk1 hr1 hl1 hp1 c0 H x1
 obtain⟨E,hE⟩:∃ E:Nat,(if (n:Int)-(i:Int)<258 then (n:Int)-(i:Int) else 258)=(E:Int):=⟨min 258 (n-i),by split<;>omega⟩
 have hE2:E=min 258 (n-i):=by split at hE<;>omega
 have HE:=c3p hE2
 have hq:=fun m=>a8s (w1.drewN m) g b A n c xs i i (H1.out.keeps (S:=[]) ((Keeps.refl [] w1).drewN m) (by simp) (by simp) (a0a _)) hs
 have hlt:=a9o xs i
 obtain⟨q,hqq⟩:∃ q,q=hashF xs i:=⟨_,rfl⟩
 rw[<-hqq] at hq hlt
 have HQ:=c3p hq
 have HQQ:=c3p hqq
 obtain⟨c0,c1,c2,c3,c4,f1,f2⟩:=HR1.out.cells
 replace c3:=c3 q hlt
 rw[HL1.out q hlt] at c3
 obtain⟨p0,hp0⟩:∃ p0,p0=lastF (hashF xs) q i:=⟨_,rfl⟩
 rw[<-hp0] at c3
 have HP0:=c3p hp0
 have hp0i:p0<=i:=by rw[hp0];exact (a2v _ _ _).1
 clear hE2 hq hqq c4 hp0
 have wp:IntKind.i64.wrap ((p0:Int)-1)=(p0:Int)-1:=c3q _ (by omega)
 go_wp2_with fail
 go_step3
 go_upto_region 5 with (fail)
 clear hE
 go_quiet (first|(go_at_call 114;exact Calls.quiet_of (HQ.out _)))
 go_wp2_with fail
 have hb0:bestF xs i (i-p0)=(0,0):=by
  rw[HP0.out,HQQ.out,a8i (a6V xs) i i (c3r _),Nat.sub_self];rfl
 have hh0:p0≠0->hashF xs (p0-1)=q:=by rw[HP0.out];exact (a2v (hashF xs) q i).2.2
 have HB0:=c3p hb0
 have HH0:=c3p hh0
 clear hb0 hh0 c0 c1 c2 c3 f1 f2 wp
 go_loopw [4,5,7] (fun lv dv av wr=>∃ p l d:Nat,p<=i/\av=.int .i64 ((p:Int)-1)/\lv=.int .i64 l/\dv=.int .i64 d/\Hid (bestF xs i (i-p)=(l,d))/\Hid (p≠0->hashF xs (p-1)=q)/\Hid (Keeps [] w1 wr)) (fun _ _ av _=>(intOf av+1).toNat)
 case atStart=>exact⟨p0,0,0,hp0i,rfl,rfl,rfl,HB0,HH0,c3p (by repeat (first|exact Keeps.refl _ _|apply Keeps.drewN|apply Keeps.drew))⟩
 case round=>
  clear HB0 HH0 HP0 hp0i
  obtain⟨p,l,d,hp,rfl,rfl,rfl,HBF,HH,HK⟩:=hrel
  by_cases hp1:p=0
  ·subst hp1
   have x2:decide ((0:Int)<=((0:Nat):Int)-1)=false:=by decide
   have HM:Hid (mF xs i=(l,d)):=c3p HBF.out
   go_wp2_with fail
   rw[c3P]
   go_ret2
   exact⟨by rw[HM.out];rfl,i,hk,c3r _,H1.out.keeps HK.out (by simp) (by simp) (a0a _),HK1.out.trans (HK.out.mono (fun x hx=>by cases hx))⟩
  ·obtain⟨t,rfl⟩:∃ t,p=t+1:=⟨p-1,by omega⟩
   have ht:(((t+1:Nat):Int)-1)=(t:Int):=by omega
   rw[ht]
   have x3:decide ((32768:Int)<(i:Int)-t)=false:=by simp;omega
   obtain⟨c0,c1,c2,-,c4,f1,f2⟩:=(HR1.out.keeps HK.out (by simp) (by simp)).cells
   have hHK0:Hid (∀ j,j<0->i+j<xs.length/\nth xs (i+j)=nth xs (i+j-(i-t))):=c3p (fun j hj=>by omega)
   go_wp2_with fail
   go_loopw [4,5,8,52] (fun lv dv _ kv wi=>∃ kk:Nat,kk<=E/\kv=.int .i64 kk/\lv=.int .i64 l/\dv=.int .i64 d/\Hid (∀ j,j<kk->i+j<xs.length/\nth xs (i+j)=nth xs (i+j-(i-t)))/\Hid (Keeps [] w1 wi)) (fun _ _ _ kv _=>E-(intOf kv).toNat)
   case atStart=>exact⟨0,by omega,rfl,rfl,rfl,hHK0,HK⟩
   case round=>
    clear hHK0 HK c0 c1 c2 c4 f1 f2
    obtain⟨kk,hkk,rfl,rfl,rfl,HEQ,HK⟩:=hrel
    obtain⟨c0,c1,c2,-,c4,f1,f2⟩:=(HR1.out.keeps HK.out (by simp) (by simp)).cells
    by_cases hlt2:kk<E
    ·have he:=HE.out
     have hri:=H1.out.ri.keeps HK.out (a0a _)
     obtain⟨bb,o,hA,k1⟩:=hri.at (show i+kk<n by omega)
     have k2:=hri.cell bb o hA (t+kk) (by omega)
     have s1:((i:Int)+kk).toNat=i+kk:=by omega
     have s2:((t:Int)+kk).toNat=t+kk:=by omega
     have s3:(0:Int)<=(i:Int)+kk:=by omega
     have s4:(0:Int)<=(t:Int)+kk:=by omega
     have s5:(i:Int)+kk<(n:Int):=by omega
     have s6:(t:Int)+kk<(n:Int):=by omega
     have w4:IntKind.i64.wrap ((i:Int)+kk)=(i:Int)+kk:=c3q _ (by omega)
     have w5:IntKind.i64.wrap ((t:Int)+kk)=(t:Int)+kk:=c3q _ (by omega)
     have x4:decide ((kk:Int)<(E:Int))=true:=by simp;omega
     obtain⟨x,hx⟩:∃ x,x=nth xs (i+kk):=⟨_,rfl⟩
     obtain⟨y,hy⟩:∃ y,y=nth xs (t+kk):=⟨_,rfl⟩
     rw[<-hx] at k1
     rw[<-hy] at k2
     have HX:=c3p hx
     have HY:=c3p hy
     subst hA
     have k3:=c4 t (by omega)
     rw[HP1.out t (by omega)] at k3
     have hht:hashF xs t=q:=HH.out (by omega)
     rw[hht] at k3
     obtain⟨p2,hp2⟩:∃ p2,p2=lastF (hashF xs) q t:=⟨_,rfl⟩
     rw[<-hp2] at k3
     have hp2t:p2<=t:=by rw[hp2];exact (a2v _ _ _).1
     have HP2:=c3p hp2
     have HHT:=c3p hht
     have wp2:IntKind.i64.wrap ((p2:Int)-1)=(p2:Int)-1:=c3q _ (by omega)
     have wk:IntKind.i64.wrap ((kk:Int)+1)=(kk:Int)+1:=c3q _ (by omega)
     have wd:IntKind.i64.wrap ((i:Int)-t)=(i:Int)-t:=c3q _ (by omega)
     have hnext:Hid (bestF xs i (i-p2)=bestF xs i (i-t)):=c3p (by rw[HP2.out,HQQ.out];exact a8i (a6V xs) i t (by omega))
     have hprev:Hid (p2≠0->hashF xs (p2-1)=q):=c3p (by rw[HP2.out];exact (a2v (hashF xs) q t).2.2)
     have hstep:Hid (bestF xs i (i-t)=updF (l,d) (clF xs i (i-t)) (i-t)):=c3p (by
      rw[show i-t=(i-(t+1))+1 by omega,bestF,HBF.out])
     clear he hri hx hy c4 hp2 hht
     by_cases hxy:y=x
     ·have x5:(y !=x)=false:=by simpa using hxy
      go_upto_region 12 with (fail)
      go_quiet (fail)
      go_wp2_with fail
      go_roundw
      case rel=>
       refine⟨kk+1,by omega,by go_num,rfl,rfl,c3p (fun j hj=>?_),c3p (HK.out.trans (by repeat (first|exact Keeps.refl _ _|apply Keeps.drewN|apply Keeps.drew)))⟩
       rcases c3H j kk with h1|h1
       ·exact HEQ.out j h1
       ·obtain rfl:j=kk:=by omega
        exact⟨by omega,by rw[show i+j-(i-t)=t+j by omega,<-HX.out,<-HY.out,hxy]⟩
      case measure=>simp[intOf];omega
     ·have x5:(y !=x)=true:=by simpa using hxy
      have hcl:clF xs i (i-t)=kk:=c0B xs i (i-t) kk HEQ.out (by have:=HE.out;omega) (.inr (.inr (by rw[show i+kk-(i-t)=t+kk by omega,<-HX.out,<-HY.out];exact fun e=>hxy e.symm)))
      rw[hcl] at hstep
      have HCL:=c3p hcl
      clear hcl
      by_cases h3:3<=kk
      ·have x6:decide ((3:Int)<=(kk:Int))=true:=by simp;omega
       by_cases hlk:l<kk
       ·have x7:decide ((l:Int)<(kk:Int))=true:=by simp;omega
        go_upto_region 12 with (fail)
        go_quiet (fail)
        go_wp2_with fail
        go_roundw
        case rel=>exact⟨p2,kk,i-t,by omega,rfl,rfl,by go_num,c3p (by rw[hnext.out,hstep.out,updF,if_pos ⟨h3,hlk⟩]),hprev,c3p (HK.out.trans (by repeat (first|exact Keeps.refl _ _|apply Keeps.drewN|apply Keeps.drew)))⟩
        case measure=>simp[intOf];omega
       ·have x7:decide ((l:Int)<(kk:Int))=false:=by simp;omega
        go_upto_region 12 with (fail)
        go_quiet (fail)
        go_wp2_with fail
        go_roundw
        case rel=>exact⟨p2,l,d,by omega,rfl,rfl,rfl,c3p (by rw[hnext.out,hstep.out,updF,if_neg (by rintro ⟨a1,a2⟩;omega)]),hprev,c3p (HK.out.trans (by repeat (first|exact Keeps.refl _ _|apply Keeps.drewN|apply Keeps.drew)))⟩
        case measure=>simp[intOf];omega
      ·have x6:decide ((3:Int)<=(kk:Int))=false:=by simp;omega
       go_upto_region 12 with (fail)
       go_quiet (fail)
       go_wp2_with fail
       go_roundw
       case rel=>exact⟨p2,l,d,by omega,rfl,rfl,rfl,c3p (by rw[hnext.out,hstep.out,updF,if_neg (by rintro ⟨a1,a2⟩;omega)]),hprev,c3p (HK.out.trans (by repeat (first|exact Keeps.refl _ _|apply Keeps.drewN|apply Keeps.drew)))⟩
       case measure=>simp[intOf];omega
    ·obtain rfl:kk=E:=by omega
     have x4:decide ((kk:Int)<(kk:Int))=false:=by simp
     have wd:IntKind.i64.wrap ((i:Int)-t)=(i:Int)-t:=c3q _ (by omega)
     have he:=HE.out
     have hcl:clF xs i (i-t)=kk:=c0B xs i (i-t) kk HEQ.out (by omega) (by omega)
     have hstep:bestF xs i (i-t)=updF (l,d) kk (i-t):=by rw[show i-t=(i-(t+1))+1 by omega,bestF,HBF.out,<-show i-t=(i-(t+1))+1 by omega,hcl]
     by_cases hlk:l<kk
     ·have x7:decide ((l:Int)<(kk:Int))=true:=by simp;omega
      have hb:bestF xs i (i-t)=(kk,i-t):=by rw[hstep,updF,if_pos ⟨by omega,hlk⟩]
      have hm:mF xs i=(kk,i-t):=by rw[<-hb];exact b7i xs i (i-t) (by omega) (by omega) (by rw[hb,hlen];exact he)
      have HM:=c3p hm
      clear c4 he hcl hstep hb hm
      go_wp2_with fail
      rw[c3P]
      go_ret2
      exact⟨by rw[HM.out,show ((i:Int)-t)=((i-t:Nat):Int) by omega];rfl,i,hk,c3r _,H1.out.keeps HK.out (by simp) (by simp) (a0a _),HK1.out.trans (HK.out.mono (fun x hx=>by cases hx))⟩
     ·have x7:decide ((l:Int)<(kk:Int))=false:=by simp;omega
      have hb:bestF xs i (i-t)=(l,d):=by rw[hstep,updF,if_neg (by rintro ⟨a1,a2⟩;omega)]
      have hl2:l=kk:=by
       rcases a6D xs i (i-(t+1)) with h1|⟨h1,h2,h3,h4⟩
       ·rw[HBF.out] at h1;injection h1 with h1 _;omega
       ·rw[HBF.out] at h4
        have:=b6z xs i d
        have:=a6J xs i d (by omega)
        simp only[] at h4
        omega
      have hm:mF xs i=(l,d):=by rw[<-hb];exact b7i xs i (i-t) (by omega) (by omega) (by rw[hb,hlen,<-he];exact hl2)
      have HM:=c3p hm
      have HL2:=c3p hl2
      clear c4 he hcl hstep hb hm hl2
      go_wp2_with fail
      rw[c3P]
      go_ret2
      exact⟨by rw[HM.out];rfl,i,hk,c3r _,H1.out.keeps HK.out (by simp) (by simp) (a0a _),HK1.out.trans (HK.out.mono (fun x hx=>by cases hx))⟩
open Go.RowKit
theorem b0s(A:Option Addr)(n c b:Nat):Tryz.prog.built 139 [(0,.slice A n c),(2,.slice (some ⟨b,0,none⟩) n n)]=some (a3w A n c (List.replicate 4096 0) b 0).toArray:=by kernel_rfl
theorem b3G(A:Option Addr)(n c b:Nat):(Tryz.zeroCells139.setIfInBounds 0 (.slice A n c)).setIfInBounds 4097 (.slice (some ⟨b,0,none⟩) n n)=(a3w A n c (List.replicate 4096 0) b 0).toArray:=by kernel_rfl
theorem b9K(m v:Nat)(h:v<m):nth (List.replicate m (0:Int)) v=0:=by
 simp[nth,List.getD,c3L,h]
theorem FB.start{w:World}{g b:Nat}{A:Option Addr}{n c:Nat}{xs:List Int}(h1:Blk w g 139 (a3w A n c (List.replicate 4096 0) b 0))(h2:Blk w b 3 (ints .i64 (List.replicate n 0)))(hr:RI .u8 w A n xs)(hc:a4d A n c)(ho:Off [g,b] A)(hne:g≠b)(hb:∀ j,0<=nth xs j/\nth xs j<=255)(hn:n<=16384):FB w g b A n c xs 0:=
 ⟨⟨List.replicate n 0,List.replicate 4096 0,⟨h1,h2,c3s,c3s,hne⟩,fun v hv=>by rw[b9K _ _ hv];rfl,fun j hj=>by omega⟩,hr,hc,ho,hb,hn,c3Q _⟩
theorem KeepsOn.heap{C:Nat->Prop}{W W':World}(h:KeepsOn C W W'){g:Nat}{o:Obj}(hg:W.heap[g]? =some o)(hc:C g):W'.heap[g]? =some o:=(h.block g (Array.getElem?_eq_some_iff.1 hg).1 hc).trans hg
theorem KeepsOn.cell{C:Nat->Prop}{W W':World}(h:KeepsOn C W W'){p:Addr}{v:Value}(hv:W.cell? p=some v)(hc:C p.block):W'.cell? p=some v:=by
 have hlt:p.block<W.heap.size:=by
  rcases c3H p.block W.heap.size with h1|h1
  ·exact h1
  ·exfalso
   have:W.heap[p.block]? =none:=Array.getElem?_eq_none h1
   simp[World.cell?,this] at hv
 have e:=h.block _ hlt hc
 rw[<-hv]
 simp only[World.cell?,e]
theorem FB.keepsOn{w w':World}{g b:Nat}{A:Option Addr}{n c:Nat}{xs:List Int}{k:Nat}{C:Nat->Prop}(h:FB w g b A n c xs k)(hk:KeepsOn C w w')(hg:C g)(hb:C b)(hA:∀ a,A=some a->C a.block):FB w' g b A n c xs k:=by
 obtain⟨pr,last,p1,p2,p3⟩:=h.raw
 exact⟨⟨pr,last,⟨hk.heap p1.blk hg,hk.heap p1.row hb,p1.lenP,p1.lenL,p1.ne⟩,p2,p3⟩,⟨h.ri.len,h.ri.hd,fun bb o ha j hj=>hk.cell (h.ri.cell bb o ha j hj) (show C bb from hA _ ha)⟩,h.cap,h.off,h.byte,h.bound,h.known⟩
theorem b6H{xs:List Int}{i:Nat}(h:i<xs.length):findF xs xs.length i=if (mF xs i).1=0∨(mF xs i).1<(mF xs (i+1)).1 then (nth xs i,0,0)::findF xs xs.length (i+1) else (0,((mF xs i).1:Int),((mF xs i).2:Int))::findF xs xs.length (i+(mF xs i).1):=by
 obtain⟨f,hf⟩:∃ f,xs.length=f+1:=⟨xs.length-1,by omega⟩
 have e:findF xs xs.length i=findF xs (f+1) i:=by rw[hf]
 rw[e,findF,if_pos h]
 split
 ·rw[a4H xs f xs.length (i+1) (by omega) (by omega)]
 ·next hc=>
  have:1<=(mF xs i).1:=by omega
  rw[a4H xs f xs.length (i+(mF xs i).1) (by omega) (by omega)]
open Go.RowKit
def bkT(xs:List Int):Nat->List (Nat×Int)
 | 0=>[]
 | k+1=>(k,nth xs k)::bkT xs k
def bkE(p:Nat×Int):Array Value:=#[.int .i64 p.1,.int .u8 p.2]
theorem b6p(w0:World)(Bo:Nat)(A:Option Addr)(n c:Nat)(xs:List Int)(hr:RI .u8 w0 A n xs)(hB:w0.cell? ⟨Bo,0,none⟩=some (.slice A n c))(hn:n<=1000000000) :
  c0W Tryz.prog 159 #[.pointer (some ⟨Bo,0,none⟩)] bkE (bkT xs n) [] (fun k=>k=Bo∨∃ a,A=some a/\k=a.block) w0:=by
 intro l J Jx W hW hJ hY h0
 refine callsIn_wide.2 ?_
 have c0:=hW.cell (p:=⟨Bo,0,none⟩) (by simp) hB
 have HR:=c3p (hr.keeps hW (a0a _))
 have HL:Hid (xs.length=n):=c3p hr.len
 have HJ:=c3p hJ
 have HY:=c3p hY
 have H0:=c3p h0
 have s1:IntKind.i64.wrap ((n:Int)-1)=(n:Int)-1:=c3q _ (by omega)
 clear hr hJ hY h0 hB
 go_enter Tryz.func159,Tryz.ntmps159
 go_wp2_with fail
 go_loopw [3] (fun iv wr=>∃ (k:Nat) (pre:List (Nat×Int)),k<=n/\iv=.int .i64 ((k:Int)-1)/\wr.cell? ⟨Bo,0,none⟩=some (.slice A n c)/\Hid (pre++bkT xs k=bkT xs n)/\Hid (J pre wr)/\Hid (RI .u8 wr A n xs)) (fun iv _=>(intOf iv+1).toNat)
 case atStart=>exact⟨n,[],by omega,rfl,c0,c3p rfl,H0,HR⟩
 case round=>
  clear c0 H0 HR
  obtain⟨k,pre,hk,rfl,c1,HT,HJP,HX⟩:=hrel
  match k with
  | 0=>
   have x1:decide ((0:Int)<=((0:Nat):Int)-1)=false:=by decide
   have e:pre=bkT xs n:=by have:=HT.out;rwa [bkT,c3E] at this
   go_wp2_with fail
   go_end0
   exact⟨⟨_,rfl⟩,.inl (by rw[<-e];exact HJP.out)⟩
  | j+1=>
   have e1:((j+1:Nat):Int)-1=(j:Int):=by omega
   rw[e1]
   have x1:decide ((0:Int)<=(j:Int))=true:=by simp
   have hjn:j<n:=by omega
   have hjn':(j:Int)<(n:Int):=by omega
   obtain⟨b,o,rfl,hc⟩:=HX.out.at hjn
   have s2:IntKind.i64.wrap ((j:Int)-1)=(j:Int)-1:=c3q _ (by omega)
   have hpre:pre++[(j,nth xs j)] <+: bkT xs n:=⟨bkT xs j,by rw[<-HT.out,bkT];simp⟩
   have HT2:Hid ((pre++[(j,nth xs j)])++bkT xs j=bkT xs n):=c3p (by rw[<-HT.out,bkT];simp)
   obtain⟨fn,tmps,assign,body,hy,hR⟩:=HY.out pre (j,nth xs j) wr HJP.out hpre
   have HRR:=c3p hR
   dsimp only[bkE] at hy
   generalize nth xs j=v at *
   clear hR HT hpre
   go_upto_region 3 with (fail)
   refine (wpIn_wide (n:=0)).1 ?_
   gi_wp2
   refine⟨rfl,HRR.out.mono ?_⟩
   rintro _ W7 (⟨rfl,hJ7,hk7⟩|⟨rfl,hx7⟩)
   ·have c7:=hk7.cell (p:=⟨Bo,0,none⟩) c1 (.inl rfl)
    have HJ7:=c3p hJ7
    have HX7:Hid (RI .u8 W7 (some ⟨b,o,none⟩) n xs):=c3p ⟨HX.out.len,HX.out.hd,fun b' o' ha i hi=>hk7.cell (p:=⟨b',o'+i,none⟩) (HX.out.cell b' o' ha i hi) (.inr ⟨_,ha,rfl⟩)⟩
    clear hJ7 hk7 hy HRR c1 HX HJP hc
    gi_wp2
    go_wp2_with fail
    go_roundw
    case rel=>exact⟨j,pre++[(j,v)],by omega,by go_num,c7,HT2,HJ7,HX7⟩
    case measure=>simp[intOf]
   ·have HX7:=c3p hx7
    clear hy HRR hx7
    gi_wp2
    go_wp2_with fail
    exact bodyPost_ret (v:=.tuple #[]) (results_none rfl _ _ _) rfl ⟨⟨_,rfl⟩,.inr ⟨_,⟨_,HT2.out⟩,HX7.out⟩⟩
open Go.RowKit
def tokV(t:Tok):Value:=.agg #[.int .u8 t.1,.int .i64 t.2.1,.int .i64 t.2.2]
def tcells(t:Tok):List Value:=[.int .u8 t.1,.int .i64 t.2.1,.int .i64 t.2.2]
def tth(ts:List Tok)(j:Nat):Tok:=ts.getD j (0,0,0)
theorem b8l{ts:List Tok}{j:Nat}(h:j<ts.length):tth ts j=ts[j]:=by simp[tth,List.getD,h]
theorem b0b{ts:List Tok}{j:Nat}(h:j<ts.length):tth ts j∈ts:=by rw[b8l h];exact List.getElem_mem _
theorem b0a{ts:List Tok}{j:Nat}(h:j<ts.length):ts.take (j+1)=ts.take j++[tth ts j]:=by
 rw[List.take_succ_eq_append_getElem h,b8l h]
theorem b9b{ts:List Tok}{j:Nat}(h:j<ts.length):ts.drop j=tth ts j::ts.drop (j+1):=by
 rw[List.drop_eq_getElem_cons h,b8l h]
structure RT (w:World) (A:Option Addr) (n:Nat) (ts:List Tok):Prop where
 len:ts.length=n
 hd:0<n->∃ b o,A=some ⟨b,o,none⟩
 cell:∀ b o,A=some ⟨b,o,none⟩->∀ j,j<n->w.cell? ⟨b,o+j*3,none⟩=some (.int .u8 (tth ts j).1)/\w.cell? ⟨b,o+j*3+1,none⟩=some (.int .i64 (tth ts j).2.1)/\w.cell? ⟨b,o+j*3+2,none⟩=some (.int .i64 (tth ts j).2.2)
theorem RT.keeps{S:List Nat}{w w':World}{A:Option Addr}{n:Nat}{ts:List Tok}(h:RT w A n ts)(hk:Keeps S w w')(ho:Off S A):RT w' A n ts:=
 ⟨h.len,h.hd,fun b o ha j hj=>⟨hk.cell (p:=⟨b,o+j*3,none⟩) (ho ⟨b,o,none⟩ ha) (h.cell b o ha j hj).1,hk.cell (p:=⟨b,o+j*3+1,none⟩) (ho ⟨b,o,none⟩ ha) (h.cell b o ha j hj).2.1,hk.cell (p:=⟨b,o+j*3+2,none⟩) (ho ⟨b,o,none⟩ ha) (h.cell b o ha j hj).2.2⟩⟩
theorem b5T(ts:List Tok):(ts.flatMap tcells).length=ts.length*3:=by
 induction ts with
 | nil=>rfl
 | cons t ts ih=>rw[c3v,c3o,ih,c3x];simp[tcells];omega
theorem a8L:∀ (ts:List Tok) (j:Nat),j<ts.length->(ts.flatMap tcells)[j*3]? =some (.int .u8 (tth ts j).1)/\(ts.flatMap tcells)[j*3+1]? =some (.int .i64 (tth ts j).2.1)/\(ts.flatMap tcells)[j*3+2]? =some (.int .i64 (tth ts j).2.2)
 | [],j,h=>by simp at h
 | t::ts,0,h=>by rw[c3v];simp[tcells,tth]
 | t::ts,j+1,h=>by
  have ih:=a8L ts j (by simpa using h)
  rw[c3v]
  have hl:(tcells t).length=3:=rfl
  rw[show (j+1)*3=(tcells t).length+j*3 by rw[hl];omega,c3u (by omega),c3u (by omega),c3u (by omega)]
  rw[show (tcells t).length+j*3-(tcells t).length=j*3 by omega,show (tcells t).length+j*3+1-(tcells t).length=j*3+1 by omega,show (tcells t).length+j*3+2-(tcells t).length=j*3+2 by omega]
  simpa [tth] using ih
theorem c2G{w:World}{base:Nat}{e:TypeId}{v:Value}{n:Nat}{ts:List Tok}(h:w.ownsRow base e 3 v n (ts.flatMap tcells)) :
  ∃ A c,v=.slice A n c/\RT w A n ts/\n<=c/\(∀ a,A=some a->base<=a.block/\a.block<w.heap.size):=by
 obtain⟨h1,h2⟩:=h
 have hl:ts.length=n:=by rw[b5T] at h1;omega
 rcases h2 with⟨rfl,rfl⟩|⟨g,cap,cur,rfl,hb,hh,hc,hm,hs,ht⟩
 ·exact⟨none,0,rfl,⟨hl,by omega,by simp⟩,by omega,by simp⟩
 ·refine⟨_,_,rfl,⟨hl,fun _=>⟨_,_,rfl⟩,fun b o ha j hj=>?_⟩,hc,fun a ha=>?_⟩
  ·injection ha with ha;injection ha with h1 h2 h3;subst h1;subst h2
   have hp:=a8L ts j (by omega)
   have e1:∀ i,i<n*3->cur.toList[i]? =(ts.flatMap tcells)[i]? :=fun i hi=>by rw[<-ht,c3R,if_pos hi]
   rw[c3N]
   unfold World.cell?
   simp only[hh]
   rw[<-c3M,<-c3M,<-c3M,e1 _ (by omega),e1 _ (by omega),e1 _ (by omega)]
   exact hp
  ·obtain rfl:=Option.some.inj ha
   exact⟨hb,(Array.getElem?_eq_some_iff.1 hh).1⟩
open Go.RowKit
theorem b6k(w0:World)(Bo:Nat)(A:Option Addr)(n c:Nat)(xs:List Int)(hr:RI .u8 w0 A n xs)(hc:a4d A n c)(hb:∀ j,0<=nth xs j/\nth xs j<=255)(hn:n<=16384)(hB:w0.cell? ⟨Bo,0,none⟩=some (.slice A n c))(hA:∀ a,A=some a->a.block<w0.heap.size)(hBo:Bo<w0.heap.size) :
  Iter Tryz.prog 90 #[.pointer (some ⟨Bo,0,none⟩)] (fun t=>#[tokV t]) (tokensF xs) (fun k=>k=w0.heap.size+2∨k=w0.heap.size+3∨k=Bo∨∃ a,A=some a/\k=a.block) w0:=by
 intro l J W hW hWs hJ hY h0
 refine callsIn_wide.2 ?_
 have hlen:xs.length=n:=hr.len
 have c0:=hW.cell (p:=⟨Bo,0,none⟩) (by simp) hB
 have HR:=c3p (hr.keeps hW (a0a _))
 have HJ:=c3p hJ
 have HY:=c3p hY
 have H0:=c3p h0
 have x1:decide ((16384:Int)<(n:Int))=false:=by simp;omega
 clear hr hJ hY h0 hB
 go_enter Tryz.func90,Tryz.ntmps90
 go_wp2_with fail
 have hmk:=fun w=>a1h (P:=Tryz.prog) w 90 3 .i64 8 Tryz.underlying90 a1y (n:Int) n rfl (by omega) (by omega)
 have hbd:=fun (w:World) (b:Nat)=>run_build (P:=Tryz.prog) w 139 #[(0,.slice A n c),(2,.slice (some ⟨b,0,none⟩) n n)] _ (b0s A n c b)
 have c0a:(W.alloc (.cells (ints .i64 (List.replicate n 0)).toArray 3)).cell? ⟨Bo,0,none⟩=some (.slice A n c):=((Keeps.refl [] W).alloc _).cell (by simp) c0
 go_region
 clear hmk hbd c0a
 obtain⟨m,hm⟩:∃ m,m=w0.heap.size+2:=⟨_,rfl⟩
 rw[<-hm]
 obtain⟨W2,hW2⟩:∃ W2,W2=(((W.alloc (.cells (ints .i64 (List.replicate n 0)).toArray 3)).alloc (.cells ((Tryz.zeroCells139.setIfInBounds 0 (.slice A n c)).setIfInBounds 4097 (.slice (some ⟨m,0,none⟩) n n)) 139)).drew):=⟨_,rfl⟩
 rw[<-hW2]
 have hk2:Keeps [] W W2:=by rw[hW2];exact (((Keeps.refl [] W).alloc _).alloc _).drew
 have hs2:W2.heap.size=m+2:=by rw[hW2];simp[hWs,hm]
 have hbb:Blk W2 m 3 (ints .i64 (List.replicate n 0)):=by
  have h1:=a0d W 3 (ints .i64 (List.replicate n 0))
  rw[hWs,<-hm] at h1
  rw[hW2]
  exact h1.keeps (S:=[]) (((Keeps.refl [] _).alloc _).drew) (by simp)
 have hgg:Blk W2 (m+1) 139 (a3w A n c (List.replicate 4096 0) m 0):=by
  have h1:=a0d (W.alloc (.cells (ints .i64 (List.replicate n 0)).toArray 3)) 139 (a3w A n c (List.replicate 4096 0) m 0)
  rw[World.size_alloc,hWs,<-hm] at h1
  rw[hW2,b3G]
  exact h1.keeps (S:=[]) ((Keeps.refl [] _).drew) (by simp)
 have hfb:FB W2 (m+1) m A n c xs 0:=FB.start hgg hbb (HR.out.keeps hk2 (a0a _)) hc (fun a ha hx=>by have:=hA a ha;simp at hx;omega) (by omega) hb hn
 have c2:=hk2.cell (p:=⟨Bo,0,none⟩) (by simp) c0
 have hj2:=HJ.out [] W W2 H0.out (hk2.mono (fun x hx=>by cases hx))
 rw[<-hm,show w0.heap.size+3=m+1 by omega] at HJ
 rw[show w0.heap.size+4=m+2 by omega] at HY
 have hfind:[]++findF xs xs.length 0=tokensF xs:=rfl
 have HF0:=c3p hfb
 have HJ0:=c3p hj2
 have HT0:=c3p hfind
 have HSZ0:Hid (m+2<=W2.heap.size):=c3p (by omega)
 have HM0:=c3p hm
 clear hm hW2 hk2 hs2 hbb hgg hfb hj2 hfind c0 HR H0 hW hWs x1
 go_wp2_with fail
 go_loopw [4] (fun iv wr=>∃ (i k:Nat) (pre:List Tok),i<=n/\k<=i/\iv=.int .i64 i/\wr.cell? ⟨Bo,0,none⟩=some (.slice A n c)/\Hid (pre++findF xs xs.length i=tokensF xs)/\Hid (J pre wr)/\Hid (FB wr (m+1) m A n c xs k)/\Hid (m+2<=wr.heap.size)) (fun iv _=>n-(intOf iv).toNat)
 case atStart=>exact⟨0,0,[],by omega,by omega,rfl,c2,HT0,HJ0,HF0,HSZ0⟩
 case round=>
  clear HT0 HJ0 HF0 HSZ0 c2
  obtain⟨i,k,pre,hi,hk,rfl,c2,HT,HJP,HF,HSZ⟩:=hrel
  by_cases hlt:i<n
  ·have x2:decide ((i:Int)<(n:Int))=true:=by simp;omega
   obtain⟨bb,o,hAA,k1⟩:=HF.out.ri.at (show i<n by omega)
   subst hAA
   have s1:((i:Int)).toNat=i:=by omega
   have hBm:Bo<m:=by have:=HM0.out;omega
   have hbbm:bb<m:=by have:=HM0.out;have:=hA _ rfl;simp at this;omega
   go_wp2_with fail
   obtain⟨x,hx⟩:∃ x,x=nth xs i:=⟨_,rfl⟩
   rw[<-hx]
   obtain⟨tb,htb⟩:∃ tb,tb=wr.heap.size:=⟨_,rfl⟩
   rw[<-htb]
   obtain⟨w3,hw3⟩:∃ w3,w3=wr.alloc (.cells #[.int .u8 x,.int .i64 0,.int .i64 0] 98):=⟨_,rfl⟩
   rw[<-hw3]
   have hk3:Keeps [] wr w3:=by rw[hw3];exact (Keeps.refl [] wr).alloc _
   have hb3:Blk w3 tb 98 (tcells (x,0,0)):=by rw[hw3,htb];exact a0d wr _ (tcells (x,0,0))
   have hs3:m+2<=w3.heap.size:=c3J HSZ.out hk3.size
   have htm:m+2<=tb:=by rw[htb];exact HSZ.out
   have HF3:=c3p (HF.out.keeps hk3 (by simp) (by simp) (a0a _))
   have HTB:Hid (wr.heap.size<=tb):=c3p (by omega)
   have HX:=c3p hx
   have HK3:=c3p hk3
   have HB3:=c3p hb3
   clear hx hw3 hk3 hb3 HF k1 htb
   refine (a7l w3 (m+1) m _ n c xs k i HF3.out hk (by omega)).mono ?_
   rintro _ w4 ⟨rfl,k',hk1,hk2,h4,hkp4⟩
   have c4:=hkp4.cell (p:=⟨Bo,0,none⟩) (by simp;omega) (HK3.out.cell (p:=⟨Bo,0,none⟩) (by simp) c2)
   have HB4:=c3p (HB3.out.keeps hkp4 (by simp;omega))
   have HJ4:=c3p (HJ.out pre wr w4 HJP.out ((HK3.out.mono (fun x hx=>by cases hx)).trans (hkp4.mono (fun x hx=>by simp at hx ⊢;omega))))
   have HKR4:=c3p ((HK3.out.mono (S':=[m,m+1]) (fun x hx=>by cases hx)).trans (hkp4.mono (S':=[m,m+1]) (fun x hx=>by simp at hx ⊢;omega)))
   have HF4:=c3p h4
   have HS4:Hid (m+2<=w4.heap.size):=c3p (c3J hs3 hkp4.size)
   have HFA:=c3p (b6H (xs:=xs) (i:=i) (by omega))
   have HTS:=c3p HT.out
   have HPL:Hid (pre.length<(tokensF xs).length):=c3p (by rw[<-HTS.out,c3o,b6H (xs:=xs) (i:=i) (by omega)];split<;>simp)
   clear h4 hkp4 HF3 HB3 HK3 c2 hs3 HSZ HT
   have hsp:=b2D xs i
   generalize hmm:mF xs i=mm at *
   obtain⟨ln,ds⟩:=mm
   simp only[] at HFA hsp ⊢
   have HMM:=c3p hmm
   have HSP:=c3p hsp
   clear hmm hsp
   by_cases hz:ln=0
   ·subst hz
    have x3:decide ((0:Int)<((0:Nat):Int))=false:=by decide
    obtain⟨fn,tmps,assign,body,hy,hR⟩:=HY.out pre (x,0,0) w4 HJ4.out HPL.out HS4.out
    have HRR:=c3p hR
    clear hR
    obtain⟨t0,t1,t2⟩:w4.cell? ⟨tb,0,none⟩=some (.int .u8 x)/\w4.cell? ⟨tb,1,none⟩=some (.int .i64 0)/\w4.cell? ⟨tb,2,none⟩=some (.int .i64 0):=⟨HB4.out.cell 0,HB4.out.cell 1,HB4.out.cell 2⟩
    go_upto_region 11 with (fail)
    dsimp only[tokV] at hy
    refine (wpIn_wide (n:=0)).1 ?_
    gi_wp2
    refine⟨rfl,HRR.out.mono ?_⟩
    rintro _ W5 ⟨rfl,hJ5,hk5⟩
    have c5:=hk5.cell (p:=⟨Bo,0,none⟩) c4 (.inr (.inr (.inl rfl)))
    have HJ5:=c3p hJ5
    have HF5:=c3p (HF4.out.keepsOn hk5 (.inr (.inl (by have:=HM0.out;omega))) (.inl HM0.out) (fun a ha=>.inr (.inr (.inr ⟨a,ha,rfl⟩))))
    have HS5:Hid (m+2<=W5.heap.size):=c3p (c3J HS4.out hk5.size)
    clear hJ5 hk5 hy HRR c4 HB4 HF4 HS4 HJ4
    have w1:IntKind.i64.wrap ((i:Int)+1)=(i:Int)+1:=c3q _ (by omega)
    gi_wp2
    go_wp2_with fail
    go_roundw
    case rel=>
     refine⟨i+1,k',pre++[(x,0,0)],by omega,by omega,by go_num,c5,c3p ?_,HJ5,HF5,HS5⟩
     rw[if_pos (.inl (by simp)),<-HX.out] at HFA
     rw[<-HTS.out,HFA.out,c3t];rfl
    case measure=>simp[intOf];omega
   ·have x3:decide ((0:Int)<(ln:Int))=true:=by simp;omega
    obtain⟨q1,q2,q3,q4⟩:=HSP.out.resolve_left (fun e=>hz (congrArg Prod.fst e))
    have hend:=a6J xs i ds (by omega)
    rw[q4,hlen] at hend
    have HQ4:=c3p q4
    clear q4
    have w1:IntKind.i64.wrap ((i:Int)+1)=(i:Int)+1:=c3q _ (by omega)
    have wl:IntKind.i64.wrap ((i:Int)+ln)=(i:Int)+ln:=c3q _ (by omega)
    go_wp2_with fail
    have hcall:=a7l w4 (m+1) m _ n c xs k' (i+1) HF4.out (by omega) (by omega)
    rw[show (((i+1:Nat):Int))=(i:Int)+1 by omega] at hcall
    refine hcall.mono ?_
    clear hcall
    rintro _ w6 ⟨rfl,k6,hk61,hk62,h6,hkp6⟩
    have c6:=hkp6.cell (p:=⟨Bo,0,none⟩) (by simp;omega) c4
    have hB6:=HB4.out.keeps hkp6 (by simp;omega)
    have HJ6a:=c3p (HJ.out pre w4 w6 HJ4.out (hkp6.mono (fun x hx=>by simp at hx ⊢;omega)))
    have HKR6:=c3p (HKR4.out.trans (hkp6.mono (S':=[m,m+1]) (fun x hx=>by simp at hx ⊢;omega)))
    have HF6a:=c3p h6
    have HS6a:Hid (m+2<=w6.heap.size):=c3p (c3J HS4.out hkp6.size)
    have HB6a:=c3p hB6
    clear h6 hkp6 hB6 c4 HF4 HB4 HS4 HJ4
    generalize (mF xs (i+1)).1=l2 at *
    generalize (mF xs (i+1)).2=d2 at *
    by_cases hl2:l2<=ln
    ·have x4:decide ((l2:Int)<=(ln:Int))=true:=by simp;omega
     obtain⟨t0,t1,t2⟩:w6.cell? ⟨tb,0,none⟩=some (.int .u8 x)/\w6.cell? ⟨tb,1,none⟩=some (.int .i64 0)/\w6.cell? ⟨tb,2,none⟩=some (.int .i64 0):=⟨HB6a.out.cell 0,HB6a.out.cell 1,HB6a.out.cell 2⟩
     have fz:=HB6a.out.frozen
     go_upto_region 11 with (fail)
     obtain⟨W6,hW6⟩:∃ W6,W6=(((w6.setCell ⟨tb,0,none⟩ (.int .u8 0)).setCell ⟨tb,1,none⟩ (.int .i64 ln)).setCell ⟨tb,2,none⟩ (.int .i64 ds)):=⟨_,rfl⟩
     rw[<-hW6]
     have hk6:Keeps [tb] w6 W6:=by rw[hW6];exact (((Keeps.refl [tb] w6).setCell (p:=⟨tb,0,none⟩) (.inl (by simp)) _).setCell (p:=⟨tb,1,none⟩) (.inl (by simp)) _).setCell (p:=⟨tb,2,none⟩) (.inl (by simp)) _
     have hkr:Keeps [m,m+1] wr W6:=by rw[hW6];exact (((HKR6.out).setCell (p:=⟨tb,0,none⟩) (.inr HTB.out) _).setCell (p:=⟨tb,1,none⟩) (.inr HTB.out) _).setCell (p:=⟨tb,2,none⟩) (.inr HTB.out) _
     have hb6:Blk W6 tb 98 (tcells (0,ln,ds)):=by rw[hW6];exact ((HB6a.out.set 0 _).set 1 _).set 2 _
     have HB6:=c3p hb6
     have HJ6:=c3p (HJ.out pre wr W6 HJP.out hkr)
     have HF6:=c3p (HF6a.out.keeps hk6 (by simp;omega) (by simp;omega) (fun a ha=>by injection ha with ha;subst ha;simp;omega))
     have HS6:Hid (m+2<=W6.heap.size):=c3p (c3J HS6a.out hk6.size)
     replace c6:=hk6.cell (p:=⟨Bo,0,none⟩) (by simp;omega) c6
     clear hW6 hk6 hkr hb6 HB6a HJ6a HF6a HS6a t0 t1 t2 fz HKR6 HJP
     obtain⟨fn,tmps,assign,body,hy,hR⟩:=HY.out pre (0,(ln:Int),(ds:Int)) W6 HJ6.out HPL.out HS6.out
     have HRR:=c3p hR
     clear hR
     obtain⟨t0,t1,t2⟩:W6.cell? ⟨tb,0,none⟩=some (.int .u8 0)/\W6.cell? ⟨tb,1,none⟩=some (.int .i64 ln)/\W6.cell? ⟨tb,2,none⟩=some (.int .i64 ds):=⟨HB6.out.cell 0,HB6.out.cell 1,HB6.out.cell 2⟩
     dsimp only[tokV] at hy
     refine (wpIn_wide (n:=0)).1 ?_
     gi_wp2
     refine⟨rfl,HRR.out.mono ?_⟩
     rintro _ W7 ⟨rfl,hJ7,hk7⟩
     have c7:=hk7.cell (p:=⟨Bo,0,none⟩) c6 (.inr (.inr (.inl rfl)))
     have HJ7:=c3p hJ7
     have HF7:=c3p (HF6.out.keepsOn hk7 (.inr (.inl (by have:=HM0.out;omega))) (.inl HM0.out) (fun a ha=>.inr (.inr (.inr ⟨a,ha,rfl⟩))))
     have HS7:Hid (m+2<=W7.heap.size):=c3p (c3J HS6.out hk7.size)
     clear hJ7 hk7 hy HRR c6 HB6 HF6 HS6 HJ6
     gi_wp2
     go_wp2_with fail
     go_roundw
     case rel=>
      refine⟨i+ln,k6,pre++[(0,(ln:Int),(ds:Int))],by omega,by omega,by go_num,c7,c3p ?_,HJ7,HF7,HS7⟩
      have hfa:=HFA.out
      rw[if_neg (by rintro (h1|h1)<;>omega)] at hfa
      rw[<-HTS.out,hfa,c3t];rfl
     case measure=>simp[intOf];omega
    ·have x4:decide ((l2:Int)<=(ln:Int))=false:=by simp;omega
     have HB6:=HB6a
     have HF6:=HF6a
     have HJ6:=HJ6a
     have HS6:=HS6a
     clear HB6a HF6a HJ6a HS6a
     obtain⟨fn,tmps,assign,body,hy,hR⟩:=HY.out pre (x,0,0) w6 HJ6.out HPL.out HS6.out
     have HRR:=c3p hR
     clear hR
     obtain⟨t0,t1,t2⟩:w6.cell? ⟨tb,0,none⟩=some (.int .u8 x)/\w6.cell? ⟨tb,1,none⟩=some (.int .i64 0)/\w6.cell? ⟨tb,2,none⟩=some (.int .i64 0):=⟨HB6.out.cell 0,HB6.out.cell 1,HB6.out.cell 2⟩
     go_upto_region 11 with (fail)
     dsimp only[tokV] at hy
     refine (wpIn_wide (n:=0)).1 ?_
     gi_wp2
     refine⟨rfl,HRR.out.mono ?_⟩
     rintro _ W7 ⟨rfl,hJ7,hk7⟩
     have c7:=hk7.cell (p:=⟨Bo,0,none⟩) c6 (.inr (.inr (.inl rfl)))
     have HJ7:=c3p hJ7
     have HF7:=c3p (HF6.out.keepsOn hk7 (.inr (.inl (by have:=HM0.out;omega))) (.inl HM0.out) (fun a ha=>.inr (.inr (.inr ⟨a,ha,rfl⟩))))
     have HS7:Hid (m+2<=W7.heap.size):=c3p (c3J HS6.out hk7.size)
     clear hJ7 hk7 hy HRR c6 HB6 HF6 HS6 HJ6
     gi_wp2
     go_wp2_with fail
     go_roundw
     case rel=>
      refine⟨i+1,k6,pre++[(x,0,0)],by omega,by omega,by go_num,c7,c3p ?_,HJ7,HF7,HS7⟩
      have hfa:=HFA.out
      rw[if_pos (.inr (by omega)),<-HX.out] at hfa
      rw[<-HTS.out,hfa,c3t];rfl
     case measure=>simp[intOf];omega
  ·obtain rfl:i=n:=by omega
   have x2:decide ((i:Int)<(i:Int))=false:=by simp
   go_wp2_with fail
   go_end0
   refine⟨⟨_,rfl⟩,?_⟩
   have:=HT.out
   have e:findF xs xs.length i=[]:=by
    cases hxl:xs.length with
    | zero=>rfl
    | succ f=>rw[findF,if_neg (by omega)]
   rw[e,c3E] at this
   rw[<-this];exact HJP.out
end Go.Proofs.YtghjlpechjggjaaGreatDoor
