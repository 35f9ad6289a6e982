import Derived.Test.YtghjlpechjggjaaGreatDoorZshA
import Derived.Deep.Onto
import Derived.RegionTactic
import Derived.BigRegion
import Derived.ChangeAlike
import Derived.StillTailTactics
import Derived.Outline
import Derived.Lib.SliceRun
import Derived.Deep.AppendLies
import Derived.Deep.RegionHeld3
set_option linter.defProp false
set_option linter.unnecessarySimpa false
set_option linter.unusedVariables false
set_option linter.unusedSimpArgs false
set_option linter.constructorNameAsVariable false
set_option maxRecDepth 100000
set_option maxHeartbeats 60000000
namespace Go.Proofs.YtghjlpechjggjaaGreatDoor
open Go.RowKit
private def c1n := @List.length_append
private def c1o := @Lib.hid
private def c1p := @List.append_assoc
private def c1q := @List.take_append_drop
private def c1r := @List.eq_nil_of_length_eq_zero
private def c1s := @List.length_drop
private def c1t := @Nat.eq_zero_or_pos
private def c1u := @IntWalk.i64_in
private def c1v := @List.length_take
private def c1w := @List.cons_append
private def c1x := @List.drop_eq_getElem_cons
private def c1y := @Nat.le_refl
private def c1z := @List.append_nil
private def c1A := @List.length_cons
private def c1B := @Nat.sub_self
private def c1C := @List.take_succ_eq_append_getElem
private def c1D := @List.drop_eq_nil_of_le
private def c1E := @List.take_of_length_le
private def c1F := @List.set_append_right
private def c1G := @List.mem_of_mem_take
private def c1H := @List.mem_append
private def c1I := @List.nil_append
private def c1J := @rounds_succ
private def c1K := @List.mem_singleton
private def c1L := @List.mem_cons
private def c1M := @Nat.add_mul
open Go.RowKit
theorem a9b (w:World) (gb:Nat) (A1 A2:Option Addr) (n1 n2 c1 c2:Nat) (xs ys:List Int) (h0:w.cell? ⟨gb,0,none⟩=some (.slice A1 n1 c1)) (h1:w.cell? ⟨gb,1,none⟩=some (.slice A2 n2 c2))
  (hx:RI .i64 w A1 n1 xs) (hy:RI .i64 w A2 n2 ys) (hnx:A1=none->n1=0/\c1=0) (hny:A2=none->n2=0/\c2=0) (hpx:∀ ad,A1=some ad->∃ b o,ad=⟨b,o,none⟩) (hpy:∀ ad,A2=some ad->∃ b o,ad=⟨b,o,none⟩)
  (hn1:n1<=1000000000) (hn2:n2<=1000000000) :
  Calls Tryz.prog 60 #[.slice (some ⟨gb,0,none⟩) 2 2] w fun e w'=>∃ v,e=.returned v/\w'.ownsRow w.heap.size 3 1 v (n1+n2) (ints .i64 (xs++ys))/\Below w.heap.size w w':=by
 have HX:=c1o hx
 have HY:=c1o hy
 have NX:=c1o hnx
 have NY:=c1o hny
 have PX:=c1o hpx
 have PY:=c1o hpy
 have H0:=c1o h0
 have H1:=c1o h1
 have e1:decide ((n1:Int)<0)=false:=by simp
 have e2:decide ((n1:Int)+n2<0)=false:=by simp;omega
 clear hx hy hnx hny hpx hpy
 go_enter Tryz.func60,Tryz.ntmps60
 go_wp2_with fail
 refine wp_loop_rounds 3 ?_
 rw[c1J]
 go_wp2_with fail
 rw[c1J]
 go_wp2_with fail
 rw[c1J]
 go_wp2_with fail
 rw[show ((n1:Int)+n2)=((n1+n2:Nat):Int) by omega]
 refine (a7q _ (n1+n2) (by omega)).mono ?_
 rintro _ w1 ⟨v,rfl,ho,hb⟩
 have HO:=c1o (ho w.heap.size (c1y _))
 have HB:=c1o hb
 have hz:=hb.size
 have h0:=(Keeps.of_below (S:=[]) hb).cell (by simp) H0.out
 have h1:=(Keeps.of_below (S:=[]) hb).cell (by simp) H1.out
 clear ho hb e1 e2
 go_wp2_with fail
 refine wp_loop_rounds 3 ?_
 rw[c1J]
 go_wp2_with (at_builtin;refine a0Z rfl (.tmp 31) (.tmp 32) rfl w.heap.size _ _ [] rfl HO.out A1 n1 c1 xs rfl (HX.out.keeps (Keeps.of_below (S:=[]) HB.out) (a0a _)) NX.out PX.out (by omega) hz ?_)
 intro v2 w2 ho hg
 have HO2:=c1o ho
 have hb2:=HB.out.grown hg (Nat.le_trans (c1y _) hz) (fun k hk=>a0m HO.out k hk)
 have HB2:=c1o hb2
 have hz2:=hb2.size
 have h0:=(Keeps.of_below (S:=[]) hb2).cell (by simp) H0.out
 have h1:=(Keeps.of_below (S:=[]) hb2).cell (by simp) H1.out
 clear ho hg hb2
 go_wp2_with fail
 rw[c1J]
 go_wp2_with (at_builtin;refine a0Z rfl (.tmp 31) (.tmp 32) rfl w.heap.size _ _ _ rfl HO2.out A2 n2 c2 ys rfl (HY.out.keeps (Keeps.of_below (S:=[]) HB2.out) (a0a _)) NY.out PY.out (by omega) hz2 ?_)
 intro v3 w3 ho hg
 have HO3:=c1o ho
 have hb3:=HB2.out.grown hg hz2 (fun k hk=>a0m HO2.out k hk)
 have HB3:=c1o hb3
 clear ho hg hb3 h0 h1
 go_wp2_with fail
 rw[c1J]
 go_wp2_with fail
 go_ret
 exact⟨_,rfl,HO3.out,HB3.out⟩
theorem a5Q (w0 w:World) (gb:Nat) (A1 A2:Option Addr) (n1 n2 c1 c2:Nat) (xs ys:List Int) (hk:Keeps [] w0 w) (h0:w.cell? ⟨gb,0,none⟩=some (.slice A1 n1 c1)) (h1:w.cell? ⟨gb,1,none⟩=some (.slice A2 n2 c2))
  (hx:RI .i64 w0 A1 n1 xs) (hy:RI .i64 w0 A2 n2 ys) (hnx:A1=none->n1=0/\c1=0) (hny:A2=none->n2=0/\c2=0) (hpx:∀ ad,A1=some ad->∃ b o,ad=⟨b,o,none⟩) (hpy:∀ ad,A2=some ad->∃ b o,ad=⟨b,o,none⟩)
  (hn1:n1<=1000000000) (hn2:n2<=1000000000) :
  Calls Tryz.prog 60 #[.slice (some ⟨gb,0,none⟩) 2 2] w fun e w'=>∃ A c,e=.returned (.slice A (n1+n2) c)/\w'.ownsRow w0.heap.size 3 1 (.slice A (n1+n2) c) (n1+n2) (ints .i64 (xs++ys))/\Keeps [] w0 w':=by
 refine (a9b w gb A1 A2 n1 n2 c1 c2 xs ys h0 h1 (hx.keeps hk (a0a _)) (hy.keeps hk (a0a _)) hnx hny hpx hpy hn1 hn2).mono ?_
 rintro e w' ⟨v,rfl,ho,hb⟩
 have ho2:=ho.mono hk.size
 have hf:∃ A c,v=.slice A (n1+n2) c:=by
  rcases ho.2 with⟨rfl,h0⟩|⟨g,cap,cur,rfl,_⟩
  ·exact⟨none,0,by rw[h0]⟩
  ·exact⟨_,_,rfl⟩
 obtain⟨A,c,rfl⟩:=hf
 exact⟨A,c,rfl,ho2,hk.trans (Keeps.of_below hb)⟩
open Go.RowKit
structure Pk where
 w:Int
 a:Option Addr
 n:Nat
 c:Nat
instance:Inhabited Pk:=⟨⟨0,none,0,0⟩⟩
def kcells:List Pk->List Value
 | []=>[]
 | p::r=>.int .i64 p.w::.slice p.a p.n p.c::kcells r
theorem a3Y(xs ys:List Pk):kcells (xs++ys)=kcells xs++kcells ys:=by
 induction xs with
 | nil=>rfl
 | cons p r ih=>simp[kcells,ih]
theorem a1V(xs:List Pk):(kcells xs).length=xs.length*2:=by
 induction xs with
 | nil=>rfl
 | cons p r ih=>simp[kcells,ih];omega
theorem a4I(xs:List Pk):∀ v∈kcells xs,v.oneCell'=true:=by
 induction xs with
 | nil=>simp[kcells]
 | cons p r ih=>
  intro v hv
  simp only[kcells,c1L] at hv
  rcases hv with rfl|rfl|h
  ·rfl
  ·rfl
  ·exact ih v h
def kth(xs:List Pk)(j:Nat):Pk:=xs.getD j default
theorem a3Z{xs:List Pk}{j:Nat}(h:j<xs.length):kth xs j=xs[j]:=by simp[kth,List.getD,h]
theorem a7s(xs:List Pk)(R:List Value):∀ j,j<xs.length->(kcells xs++R)[j*2]? =some (.int .i64 (kth xs j).w)/\(kcells xs++R)[j*2+1]? =some (.slice (kth xs j).a (kth xs j).n (kth xs j).c):=by
 induction xs with
 | nil=>intro j hj;simp at hj
 | cons p r ih=>
  intro j hj
  match j with
  | 0=>exact⟨rfl,rfl⟩
  | j+1=>
   have:=ih j (by simpa using hj)
   rw[show (j+1)*2=j*2+1+1 by omega]
   exact this
theorem b3y(xs:List Pk)(R:List Value)(p:Pk):∀ j,j<xs.length->((kcells xs++R).set (j*2) (.int .i64 p.w)).set (j*2+1) (.slice p.a p.n p.c)=kcells (xs.set j p)++R:=by
 induction xs with
 | nil=>intro j hj;simp at hj
 | cons q r ih=>
  intro j hj
  match j with
  | 0=>rfl
  | j+1=>
   have:=ih j (by simpa using hj)
   rw[show (j+1)*2=j*2+1+1 by omega]
   simp only[kcells,c1w,List.set_cons_succ,this]
def PB(w:World)(g:Nat)(L:List Pk)(R:List Value):Prop:=Blk w g 154 (kcells L++R)
theorem PB.lt{w:World}{g:Nat}{L:List Pk}{R:List Value}(h:PB w g L R):g<w.heap.size:=Blk.lt h
theorem PB.keeps{S:List Nat}{w w':World}{g:Nat}{L:List Pk}{R:List Value}(h:PB w g L R)(hk:Keeps S w w')(hn:g∉S):PB w' g L R:=Blk.keeps h hk hn
theorem PB.cell{w:World}{g:Nat}{L:List Pk}{R:List Value}(h:PB w g L R){j:Nat}(hj:j<L.length) :
  w.cell? ⟨g,j*2,none⟩=some (.int .i64 (kth L j).w)/\w.cell? ⟨g,j*2+1,none⟩=some (.slice (kth L j).a (kth L j).n (kth L j).c):=by
 have:=a7s L R j hj
 exact⟨(Blk.cell h _).trans this.1,(Blk.cell h _).trans this.2⟩
theorem PB.free{w:World}{g:Nat}{L:List Pk}{R:List Value}(h:PB w g L R)(j:Nat):w.frozen? ⟨g,j,none⟩=false:=Blk.frozen h j
theorem PB.set{w:World}{g:Nat}{L:List Pk}{R:List Value}(h:PB w g L R){j:Nat}(hj:j<L.length)(p:Pk) :
  PB ((w.setCell ⟨g,j*2,none⟩ (.int .i64 p.w)).setCell ⟨g,j*2+1,none⟩ (.slice p.a p.n p.c)) g (L.set j p) R:=by
 have h1:=Blk.set h (j*2) (.int .i64 p.w)
 have h2:=Blk.set h1 (j*2+1) (.slice p.a p.n p.c)
 rw[b3y L R p j hj] at h2
 exact h2
theorem PB.dr{w w':World}{g:Nat}{L:List Pk}{R:List Value}(h:PB w g L R)(hd:Dr w w'):PB w' g L R:=h.keeps (hd.keeps (S:=[])) (by simp)
theorem Keeps.put{w w':World}{g j:Nat}(h:Keeps [g] w w')(u:Value):Keeps [g] w (w'.setCell ⟨g,j,none⟩ u):=h.setCell (Or.inl (by simp)) u
def pv(p:Pk):Value:=.agg #[.int .i64 p.w,.slice p.a p.n p.c]
theorem a1W(w:World)(x y:Int)(xa ya:Option Addr)(xn xc yn yc:Nat)(hx0:0<=x)(hx:x<=100000000000000000)(hy0:0<=y)(hy:y<=100000000000000000) :
  Calls Tryz.prog 97 #[.agg #[.int .i64 x,.slice xa xn xc],.agg #[.int .i64 y,.slice ya yn yc]] w fun e w'=>e=.returned (.int .i64 (x-y))/\Keeps [] w w':=by
 go_enter Tryz.func97,Tryz.ntmps97
 go_wp2
 go_ret
 exact⟨rfl,by repeat (first|exact Keeps.refl _ _|apply Keeps.drewN|apply Keeps.drew|apply Keeps.alloc)⟩
open Go.RowKit
def swp(L:List Pk)(i j:Nat):List Pk:=(L.set i (kth L j)).set j (kth L i)
theorem b4h(L:List Pk)(i j:Nat):(swp L i j).length=L.length:=by simp[swp]
def swpN(L:List Pk)(a b:Nat):Nat->List Pk
 | 0=>L
 | n+1=>swp (swpN L a b n) (a+n) (b+n)
theorem a2K(L:List Pk)(a b n:Nat):(swpN L a b n).length=L.length:=by
 induction n with
 | zero=>rfl
 | succ n ih=>rw[swpN,b4h,ih]
theorem a8z(L:List Pk)(i j:Nat)(hi:i<L.length)(hj:j<L.length)(w:World)(g:Nat)(R:List Value)(h:PB w g L R)(hij:i≠j) :
  PB ((((w.setCell ⟨g,i*2,none⟩ (.int .i64 (kth L j).w)).setCell ⟨g,i*2+1,none⟩ (.slice (kth L j).a (kth L j).n (kth L j).c)).setCell ⟨g,j*2,none⟩ (.int .i64 (kth L i).w)).setCell ⟨g,j*2+1,none⟩ (.slice (kth L i).a (kth L i).n (kth L i).c)) g (swp L i j) R:=
 (h.set hi (kth L j)).set (by simpa using hj) (kth L i)
theorem a6P(w:World)(g:Nat)(L:List Pk)(R:List Value)(m c a b n:Nat)(fv:Value)(h:PB w g L R)(hm:m=L.length)(hab:a+n<=b)(hb:b+n<=m)(hsz:m<=1000000) :
  Calls Tryz.prog 175 #[.slice (some ⟨g,0,none⟩) m c,.int .i64 a,.int .i64 b,.int .i64 n,fv] w fun e w'=>e=.returned (.tuple #[])/\PB w' g (swpN L a b n) R/\Keeps [g] w w':=by
 have H:=c1o h
 have HM:=c1o hm
 clear h hm
 go_enter Tryz.func175,Tryz.ntmps175
 go_wp2_with fail
 go_loopw [10] (fun i wr=>∃ k:Nat,k<=n/\i=.int .i64 k/\Hid (PB wr g (swpN L a b k) R)/\Hid (Keeps [g] w wr)) (fun i _=>n-(intOf i).toNat)
 case atStart=>exact⟨0,by omega,rfl,H,c1o (Keeps.refl _ _)⟩
 case round=>
  obtain⟨k,hk,rfl,HB,HK⟩:=hrel
  by_cases hlt:k<n
  ·have hl:=a2K L a b k
   have HL:=c1o hl
   have HS:Hid (swpN L a b (k+1)=swp (swpN L a b k) (a+k) (b+k)):=rfl
   clear hl
   generalize swpN L a b k=M at *
   obtain⟨p1,p2⟩:=HB.out.cell (j:=a+k) (by have:=HL.out;have:=HM.out;omega)
   obtain⟨q1,q2⟩:=HB.out.cell (j:=b+k) (by have:=HL.out;have:=HM.out;omega)
   have f1:=HB.out.free ((a+k)*2)
   have f2:=HB.out.free ((a+k)*2+1)
   have f3:=HB.out.free ((b+k)*2)
   have f4:=HB.out.free ((b+k)*2+1)
   have s1:((a:Int)+k).toNat=a+k:=by omega
   have s2:((b:Int)+k).toNat=b+k:=by omega
   have s3:(0:Int)<=(a:Int)+k:=by omega
   have s4:(0:Int)<=(b:Int)+k:=by omega
   have s5:(a:Int)+k<(m:Int):=by omega
   have s6:(b:Int)+k<(m:Int):=by omega
   go_wp2_with fail
   go_region
   go_wp2_with fail
   go_roundw
   case rel=>
    refine⟨k+1,by omega,by go_num,c1o ?_,c1o ?_⟩
    ·rw[HS.out]
     exact (a8z M (a+k) (b+k) (by have:=HL.out;have:=HM.out;omega) (by have:=HL.out;have:=HM.out;omega) _ g R HB.out (by omega)).dr (Dr.refl _).drew
    ·exact ((((HK.out.put _).put _).put _).put _).drew
   case measure=>simp[intOf];omega
  ·obtain rfl:k=n:=by omega
   go_wp2_with fail
   go_end0
   exact⟨rfl,HB.out,HK.out⟩
theorem kext{xs ys:List Pk}(hl:xs.length=ys.length)(h:∀ j,j<xs.length->kth xs j=kth ys j):xs=ys:=by
 refine List.ext_getElem hl fun j h1 h2=>?_
 have:=h j h1
 rwa [a3Z h1,a3Z h2] at this
theorem a0i(xs ys:List Pk)(j:Nat):kth (xs++ys) j=if j<xs.length then kth xs j else kth ys (j-xs.length):=by
 simp only[kth,List.getD_eq_getElem?_getD,List.getElem?_append]
 split<;>rfl
theorem b5j(xs:List Pk)(i j:Nat)(p:Pk)(hi:i<xs.length):kth (xs.set i p) j=if j=i then p else kth xs j:=by
 simp only[kth,List.getD_eq_getElem?_getD,List.getElem?_set]
 by_cases h:i=j
 ·subst h;simp[hi]
 ·rw[if_neg h,if_neg (fun e=>h e.symm)]
theorem b9z(L:List Pk)(i j k:Nat)(hi:i<L.length)(hj:j<L.length):kth (swp L i j) k=if k=j then kth L i else if k=i then kth L j else kth L k:=by
 rw[swp,b5j _ _ _ _ (by simpa using hj),b5j _ _ _ _ hi]
theorem b7u(L:List Pk)(a b:Nat)(n:Nat)(hab:a+n<=b)(hb:b+n<=L.length)(k:Nat) :
  kth (swpN L a b n) k=if a<=k/\k<a+n then kth L (k-a+b) else if b<=k/\k<b+n then kth L (k-b+a) else kth L k:=by
 induction n generalizing k with
 | zero=>rw[if_neg (by omega),if_neg (by omega)];rfl
 | succ n ih=>
  have h1:=ih (by omega) (by omega)
  have ha:kth (swpN L a b n) (a+n)=kth L (a+n):=by rw[h1,if_neg (by omega),if_neg (by omega)]
  have hb':kth (swpN L a b n) (b+n)=kth L (b+n):=by rw[h1,if_neg (by omega),if_neg (by omega)]
  rw[swpN,b9z _ _ _ _ (by rw[a2K];omega) (by rw[a2K];omega),ha,hb',h1 k]
  repeat' split
  all_goals first|(exfalso;omega)|rfl|(congr 1;omega)
theorem b4g(x u z v y:List Pk)(h:u.length=v.length):swpN (x++(u++(z++(v++y)))) x.length (x.length+u.length+z.length) u.length=x++(v++(z++(u++y))):=by
 have hb:x.length+u.length+z.length+u.length<=(x++(u++(z++(v++y)))).length:=by simp only[c1n];omega
 refine kext (by rw[a2K];simp only[c1n];omega) fun j hj=>?_
 rw[b7u _ _ _ _ (by omega) hb]
 simp only[a0i]
 by_cases c1:j<x.length
 ·rw[if_neg (by omega),if_neg (by omega),if_pos c1,if_pos c1]
 ·by_cases c2:j<x.length+u.length
  ·rw[if_pos (by omega),if_neg (by omega),if_neg (by omega),if_neg (by omega),if_pos (by omega),if_neg c1,if_pos (by omega)]
   congr 1;omega
  ·by_cases c3:j<x.length+u.length+z.length
   ·rw[if_neg (by omega),if_neg (by omega),if_neg c1,if_neg (by omega),if_pos (by omega),if_neg c1,if_neg (by omega),if_pos (by omega)]
    congr 1;omega
   ·by_cases c4:j<x.length+u.length+z.length+u.length
    ·rw[if_neg (by omega),if_pos (by omega),if_neg (by omega),if_pos (by omega),if_neg c1,if_neg (by omega),if_neg (by omega),if_pos (by omega)]
     congr 1;omega
    ·rw[if_neg (by omega),if_neg (by omega),if_neg c1,if_neg (by omega),if_neg (by omega),if_neg (by omega),if_neg c1,if_neg (by omega),if_neg (by omega),if_neg (by omega)]
     congr 1;omega
def srt(l:List Pk):Prop:=l.Pairwise (fun p q=>p.w<=q.w)
def ofW(v:Int)(l:List Pk):List Pk:=l.filter (fun p=>decide (p.w=v))
def same(r l:List Pk):Prop:=r.Perm l/\∀ v,ofW v r=ofW v l
theorem same.refl(l:List Pk):same l l:=⟨List.Perm.refl _,fun _=>rfl⟩
theorem same.trans{a b c:List Pk}(h:same a b)(k:same b c):same a c:=⟨h.1.trans k.1,fun v=>(h.2 v).trans (k.2 v)⟩
theorem same.symm{a b:List Pk}(h:same a b):same b a:=⟨h.1.symm,fun v=>(h.2 v).symm⟩
theorem a8r(v:Int)(a b:List Pk):ofW v (a++b)=ofW v a++ofW v b:=List.filter_append ..
theorem same.app{a b c d:List Pk}(h:same a b)(k:same c d):same (a++c) (b++d):=⟨h.1.append k.1,fun v=>by rw[a8r,a8r,h.2,k.2]⟩
theorem same.len{a b:List Pk}(h:same a b):a.length=b.length:=h.1.length_eq
theorem a7w{v:Int}{l:List Pk}(h:∀ p∈l,p.w≠v):ofW v l=[]:=by
 unfold ofW
 rw[List.filter_eq_nil_iff]
 intro p hp
 simpa using h p hp
theorem a6G(u v:List Pk)(h:∀ p∈u,∀ q∈v,p.w≠q.w):same (v++u) (u++v):=by
 refine⟨List.perm_append_comm,fun x=>?_⟩
 rw[a8r,a8r]
 by_cases hx:∃ p∈u,p.w=x
 ·obtain⟨p,hp,rfl⟩:=hx
  rw[a7w (l:=v) (fun q hq=>fun e=>h p hp q hq e.symm)];simp
 ·rw[a7w (l:=u) (fun p hp e=>hx ⟨p,hp,e⟩)];simp
def SS(r l:List Pk):Prop:=srt r/\same r l
theorem b1L{a b:List Pk}(ha:srt a)(hb:srt b)(h:∀ p∈a,∀ q∈b,p.w<=q.w):srt (a++b):=List.pairwise_append.2 ⟨ha,hb,fun p hp q hq=>h p hp q hq⟩
theorem a1l{a b:List Pk}(h:srt (a++b)):srt a:=(List.pairwise_append.1 h).1
theorem a0W{a b:List Pk}(h:srt (a++b)):srt b:=(List.pairwise_append.1 h).2.1
theorem a9R{a b:List Pk}(h:srt (a++b)):∀ p∈a,∀ q∈b,p.w<=q.w:=fun p hp q hq=>(List.pairwise_append.1 h).2.2 p hp q hq
theorem b6g:srt []:=List.Pairwise.nil
theorem b9Q(p:Pk):srt [p]:=List.pairwise_singleton _ _
theorem SS.len{r l:List Pk}(h:SS r l):r.length=l.length:=h.2.len
theorem SS.mem{r l:List Pk}(h:SS r l){p:Pk}:p∈r↔p∈l:=h.2.1.mem_iff
theorem SS.of_same{r l l':List Pk}(h:SS r l)(k:same l l'):SS r l':=⟨h.1,h.2.trans k⟩
theorem a6K{t1 t2 l:List Pk}{e:Pk}(h:SS (t1++t2) l)(h1:∀ p∈t1,p.w<=e.w)(h2:∀ p∈t2,e.w<p.w):SS (t1++e::t2) (l++[e]):=by
 refine⟨b1L (a1l h.1) ?_ ?_,?_⟩
 ·exact List.pairwise_cons.2 ⟨fun p hp=>Int.le_of_lt (h2 p hp),a0W h.1⟩
 ·intro p hp q hq
  rcases c1L.1 hq with rfl|hq
  ·exact h1 p hp
  ·exact a9R h.1 p hp q hq
 ·refine same.trans ?_ (h.2.app (same.refl [e]))
  rw[c1p]
  refine (same.refl t1).app ?_
  exact a6G t2 [e] (fun p hp q hq=>by rw[c1K.1 hq];have:=h2 p hp;omega)
theorem b9S(A B:List Pk)(p q:Pk):swp (A++p::q::B) A.length (A.length+1)=A++q::p::B:=by
 have h1:kth (A++p::q::B) A.length=p:=by rw[a0i,if_neg (by omega),c1B];rfl
 have h2:kth (A++p::q::B) (A.length+1)=q:=by rw[a0i,if_neg (by omega),show A.length+1-A.length=1 by omega];rfl
 rw[swp,h1,h2,c1F _ _ (by omega),c1B,c1F _ _ (by omega),show A.length+1-A.length=1 by omega]
 rfl
theorem b2W(A B:List Pk)(p q:Pk):swp (A++p::q::B) (A.length+1) A.length=A++q::p::B:=by
 have h1:kth (A++p::q::B) A.length=p:=by rw[a0i,if_neg (by omega),c1B];rfl
 have h2:kth (A++p::q::B) (A.length+1)=q:=by rw[a0i,if_neg (by omega),show A.length+1-A.length=1 by omega];rfl
 rw[swp,h1,h2,c1F _ _ (by omega),show A.length+1-A.length=1 by omega,c1F _ _ (by omega),c1B]
 rfl
open Go.RowKit
theorem a6b:(Tryz.prog.info? 154).map (fun i=>(i.zero,i.size,i.bytes))=some (some (.agg #[.int .i64 0,.slice none 0 0]),2,32):=by kernel_rfl
theorem b6Q {ops:Array Oper} {rest:List Oper} {o:Oper} {a:Act} {Q:Exit->Act->World->Prop} {w:World} (hgd:o.guard=none) (s x:Operand)
  (ho:o.op=.call { callee:=.builtin .append,args:=#[s,x],argTypes:=#[152,152] })
  (base:Nat) (v:Value) (n:Nat) (L:List Pk) (hs:a.eval s=v) (hown:w.ownsRow base 154 2 v n (kcells L))
  (b:Nat) (p:Pk) (hx:a.eval x=.slice (some ⟨b,0,none⟩) 1 1) (h0:w.cell? ⟨b,0,none⟩=some (.int .i64 p.w)) (h1:w.cell? ⟨b,1,none⟩=some (.slice p.a p.n p.c))
  (hn:n<=1000000000) (hbase:base<=w.heap.size)
  (h:∀ v' w',w'.ownsRow base 154 2 v' (n+1) (kcells (L++[p]))->w.grownBy w' v.ownBlock->wpList Tryz.prog ops Q rest (a.put o.dst v') w'):wpList Tryz.prog ops Q (o::rest) a w:=by
 obtain⟨i0,hi,hz0,hz1,hz2⟩:=info_parts a6b
 refine wpList_append_own _ hgd s x 152 ho base 154 i0 (.agg #[.int .i64 0,.slice none 0 0]) 2 32 Tryz.underlying152 hi hz0 hz1 hz2 rfl (by decide) v n (kcells L) hs hown ⟨b,0,none⟩ 1 1 (kcells [p]) hx rfl ?_ (a4I _) (by unfold maxLen;omega) (by omega) hbase ?_
 ·intro j u hu
  match j,hu with
  | 0,hu=>simp[kcells] at hu;subst hu;rw[a0H];exact h0
  | 1,hu=>simp[kcells] at hu;subst hu;rw[a0H];exact h1
  | j+2,hu=>simp[kcells] at hu
 ·intro v' w' h2 h3 _
  rw[a3Y] at h
  exact h v' w' h2 h3
theorem b6i {ops:Array Oper} {o:Oper} {a:Act} {K:Act->World->Prop} {Q:Exit->Act->World->Prop} {E:Prop} {w:World} (hgd:o.guard=none) (s x:Operand)
  (ho:o.op=.call { callee:=.builtin .append,args:=#[s,x],argTypes:=#[152,152] })
  (base:Nat) (v:Value) (n:Nat) (L:List Pk) (hs:a.eval s=v) (hown:w.ownsRow base 154 2 v n (kcells L))
  (b:Nat) (p:Pk) (hx:a.eval x=.slice (some ⟨b,0,none⟩) 1 1) (h0:w.cell? ⟨b,0,none⟩=some (.int .i64 p.w)) (h1:w.cell? ⟨b,1,none⟩=some (.slice p.a p.n p.c))
  (hn:n<=1000000000) (hbase:base<=w.heap.size)
  (h:∀ g' c' w',w'.ownsRow base 154 2 (.slice (some ⟨g',0,none⟩) (n+1) c') (n+1) (kcells (L++[p]))->w.grownBy w' v.ownBlock->K (a.put o.dst (.slice (some ⟨g',0,none⟩) (n+1) c')) w') :
  if Region.wanted o (yielded ops a.tmps)=true then Oper.wp Tryz.prog o a w K Q else E:=by
 obtain⟨i0,hi,hz0,hz1,hz2⟩:=info_parts a6b
 refine step_append_lies _ hgd s x 152 ho base 154 i0 (.agg #[.int .i64 0,.slice none 0 0]) 2 32 Tryz.underlying152 hi hz0 hz1 hz2 rfl (by decide) v n (kcells L) hs hown ⟨b,0,none⟩ 1 1 (kcells [p]) hx rfl ?_ (a4I _) (by omega) (by unfold maxLen;omega) (by omega) hbase _ rfl ?_
 ·intro j u hu
  match j,hu with
  | 0,hu=>simp[kcells] at hu;subst hu;rw[a0H];exact h0
  | 1,hu=>simp[kcells] at hu;subst hu;rw[a0H];exact h1
  | j+2,hu=>simp[kcells] at hu
 ·intro g' cap w' h2 h3 _ _
  rw[a3Y] at h
  exact h g' cap w' h2 h3
theorem a6r{w:World}{base:Nat}{e:TypeId}{size n:Nat}{v:Value}{xs:List Value}(h:w.ownsRow base e size v n xs)(hp:0<n)(hsz:0<size) :
  ∃ g c,v=.slice (some ⟨g,0,none⟩) n c/\g<w.heap.size/\base<=g/\∀ j u,xs[j]? =some u->w.cell? ⟨g,j,none⟩=some u:=by
 rcases h.2 with⟨rfl,h2⟩|⟨g,cap,cur,rfl,hb,hh,hc,hm,hs,ht⟩
 ·omega
 ·refine⟨g,cap,rfl,(Array.getElem?_eq_some_iff.1 hh).1,hb,fun j u hu=>?_⟩
  have hj:=(List.getElem?_eq_some_iff.1 hu).1
  have hl:=h.1
  have e1:cur.toList[j]? =xs[j]? :=by rw[<-ht,List.getElem?_take,if_pos (by omega)]
  unfold World.cell?
  simp only[hh]
  rw[<-Array.getElem?_toList,e1,hu];rfl
theorem c0F{w:World}{base n:Nat}{v:Value}{L:List Pk}(h:w.ownsRow base 154 2 v n (kcells L))(hp:0<n) :
  ∃ g c R,v=.slice (some ⟨g,0,none⟩) n c/\L.length=n/\base<=g/\PB w g L R/\∀ w' L',PB w' g L' R->L'.length=L.length->w'.ownsRow base 154 2 v n (kcells L'):=by
 have hl:=h.1
 rw[a1V] at hl
 rcases h.2 with⟨rfl,h2⟩|⟨g,cap,cur,rfl,hb,hh,hc,hm,hs,ht⟩
 ·omega
 ·refine⟨g,cap,cur.toList.drop (n*2),rfl,by omega,hb,?_,fun w' L' h' hl'=>?_⟩
  ·show w.heap[g]? =some (.cells (kcells L++cur.toList.drop (n*2)).toArray _ (0,0))
   rw[<-ht,c1q,Array.toArray_toList];exact hh
  ·refine⟨by rw[a1V,hl'];omega,.inr ⟨g,cap,_,rfl,hb,h',hc,hm,?_,?_⟩⟩
   ·have e1:L'.length=n:=by omega
    simp only[List.size_toArray,c1n,a1V,c1s,Array.length_toList];omega
   ·rw[List.toList_toArray,List.take_left' (by rw[a1V];omega)]
theorem b0J(w:World)(base:Nat)(v:Value)(n:Nat)(L:List Pk)(ho:w.ownsRow base 154 2 v n (kcells L))(hp:0<n)(hn:n<=1000000000) :
  Calls Tryz.prog 99 #[v] w fun e w'=>∃ v',e=.returned v'/\w'.ownsRow w.heap.size 154 2 v' n (kcells L)/\Below w.heap.size w w':=by
 obtain⟨g,c,rfl,hg,hbg,hcells⟩:=a6r ho hp (by decide)
 have hl:(kcells L).length=n*2:=ho.1
 have HC:=c1o hcells
 have HL:=c1o hl
 clear ho hcells hl
 obtain⟨i0,hi,hz0,hz1,hz2⟩:=info_parts a6b
 have HI:=c1o hi
 have HZ0:=c1o hz0
 have HZ1:=c1o hz1
 have HZ2:=c1o hz2
 clear hi hz0 hz1 hz2
 have o0:Hid (∀ w':World,w'.heap[w.heap.size]? =some (.cells #[] 154 (0,0))->w'.ownsRow w.heap.size 154 2 (.slice (some ⟨w.heap.size,0,none⟩) 0 0) 0 []):=fun w' h=>⟨rfl,.inr ⟨_,0,#[],rfl,c1y _,h,c1y _,by unfold maxLen;omega,rfl,rfl⟩⟩
 have hq:=fun w=>Lib.run_eql_slice_nil (P:=Tryz.prog) w 152 154 (some ⟨g,0,none⟩) n c 0 0 Tryz.underlying152
 go_enter Tryz.func99,Tryz.ntmps99
 go_wp2_with (at_builtin;refine wpList_append_own _ rfl (.tmp 5) (.tmp 6) 152 rfl w.heap.size 154 i0 (.agg #[.int .i64 0,.slice none 0 0]) 2 32 Tryz.underlying152 HI.out HZ0.out HZ1.out HZ2.out rfl (by decide) _ 0 [] rfl (o0.out _ ?c1) ⟨g,0,none⟩ n c (kcells L) rfl HL.out ?c2 (a4I _) (by unfold maxLen;omega) (by omega) (by simp) ?_)
 case c1=>exact a0d w _ []
 case c2=>
  intro j u hu
  rw[a0H]
  exact ((Keeps.refl [] w).alloc _).cell (by simp) (HC.out j u hu)
 intro v' w' h2 h3 _
 have H2:=c1o h2
 have H3:=c1o h3
 clear h2 h3
 go_wp2_with fail
 go_ret
 refine⟨_,rfl,H2.out,?_⟩
 exact ((Below.refl _ _).alloc (c1y _) _).grown H3.out (by simp) (fun k hk=>by simp[Value.ownBlock] at hk;omega)
open Go.RowKit
def okW(L:List Pk):Prop:=∀ j,j<L.length->0<=(kth L j).w/\(kth L j).w<=100000000000000000
theorem a1z{L:List Pk}:okW L↔∀ p∈L,0<=p.w/\p.w<=100000000000000000:=by
 constructor
 ·intro h p hp
  obtain⟨j,hj,rfl⟩:=List.mem_iff_getElem.1 hp
  have:=h j hj
  rwa [a3Z hj] at this
 ·intro h j hj
  rw[a3Z hj]
  exact h _ (List.getElem_mem hj)
theorem a3u{a b:List Pk}(h:a.Perm b)(k:okW b):okW a:=a1z.2 fun p hp=>a1z.1 k p (h.mem_iff.1 hp)
abbrev theCmp:Value:=.func (.func 97) #[] #[]
theorem in_e{x s y:List Pk}{k:Nat}{e:Pk}(h:s.take (k+1)=s.take k++[e]):e∈x++(s++y):=by
 have:e∈s.take (k+1):=by rw[h];simp
 exact List.mem_append_right _ (List.mem_append_left _ (c1G this))
theorem in_p{x s y t A t2:List Pk}{k:Nat}{p:Pk}(h:SS t (s.take k))(ht:t=A++[p]++t2):p∈x++(s++y):=by
 have:p∈t:=by rw[ht];simp
 exact List.mem_append_right _ (List.mem_append_left _ (c1G (h.mem.1 this)))
theorem a3X (w:World) (g:Nat) (x s y:List Pk) (R:List Value) (n c a b:Nat) (h:PB w g (x++(s++y)) R) (hn:n=(x++(s++y)).length) (hw:okW (x++(s++y)))
  (h1:a=x.length) (h2:b=x.length+s.length) (hsz:n<=1000000) :
  Calls Tryz.prog 137 #[.slice (some ⟨g,0,none⟩) n c,.int .i64 a,.int .i64 b,theCmp] w fun e w'=>e=.returned (.tuple #[])/\∃ r,SS r s/\PB w' g (x++(r++y)) R/\Keeps [g] w w':=by
 have H:=c1o h
 have hl:n=x.length+(s.length+y.length):=by rw[hn];simp only[c1n]
 have HL:=c1o hl
 have H1:=c1o h1
 have H2:=c1o h2
 have HW:=c1o hw
 have b2:a<=b:=by omega
 have b3:b<=n:=by omega
 clear h hl h1 h2 hn hw
 go_enter Tryz.func137,Tryz.ntmps137
 go_wp2_with fail
 go_loopw [8] (fun iv wr=>∃ (I k:Nat) (t r:List Pk),1<=k/\I<=n+1/\iv=.int .i64 I/\Hid (I=a+k)/\Hid (r=s.drop k)/\Hid (SS t (s.take k))/\Hid (PB wr g (x++(t++(r++y))) R)/\Hid (Keeps [g] w wr)) (fun iv _=>(b-intOf iv).toNat)
 case atStart=>
  refine⟨a+1,1,s.take 1,s.drop 1,by omega,by omega,by go_num,c1o rfl,c1o rfl,c1o ⟨?_,same.refl _⟩,c1o ?_,c1o (Keeps.refl _ _)⟩
  ·match s with
   | []=>exact b6g
   | p::s=>exact b9Q p
  ·have:=H.out
   rw[<-c1q 1 s,c1p] at this;exact this
 case round=>
  clear H
  obtain⟨I,k,t,r,hk,hkn,rfl,HI,HR,HS,HB,HK⟩:=hrel
  by_cases hlt:I<b
  ·have hks:k<s.length:=by have:=H1.out;have:=H2.out;have:=HI.out;omega
   obtain⟨e,r',hr'⟩:∃ e r',s.drop k=e::r':=⟨s[k],s.drop (k+1),(c1x hks)⟩
   have htk:Hid (s.take (k+1)=s.take k++[e]):=by
    have:=c1x hks
    rw[hr'] at this
    injection this with e1 e2
    show _=_
    rw[c1C hks,e1]
   have hr2:Hid (r'=s.drop (k+1)):=by
    have:=c1x hks
    rw[hr'] at this
    injection this with e1 e2
   have HB1:Hid (PB wr g (x++(t++([]++(e::([]++(r'++y)))))) R):=by
    have:=HB.out;rw[HR.out,hr'] at this;exact this
   have ht:Hid (t.length=k):=by have:=HS.out.len;rw[c1v] at this;show _=_;omega
   clear HB HR hr' hks
   obtain⟨wo,rfl⟩:∃ wo:World,wo=wr:=⟨_,rfl⟩
   have e0:decide (I<b)=true:=by simpa using hlt
   go_wp2_with fail
   have hkn2:I<n:=by omega
   have haI:a<=I:=by have:=HI.out;omega
   go_loopw [9] (fun jv wr=>∃ (J m:Nat) (t1 t2:List Pk),a<=J/\J<n/\jv=.int .i64 J/\Hid (J=a+m)/\Hid (t1.length=m)/\Hid (t=t1++t2)/\Hid (∀ p∈t2,e.w<p.w)/\Hid (PB wr g (x++(t1++(e::(t2++(r'++y))))) R)/\Hid (Keeps [g] w wr)) (fun jv _=>(intOf jv).toNat)
   case atStart=>exact⟨I,k,t,[],haI,hkn2,rfl,HI,ht,c1o (by simp),c1o (by simp),HB1,HK⟩
   case round=>
    clear HB1 HK ht
    obtain⟨J,m,t1,t2,hJ1,hJ2,rfl,HJ,HM,HT,HG,HB,HK⟩:=hrel
    by_cases hJ:a<J
    ·obtain⟨i,rfl⟩:∃ i,J=i+1:=⟨J-1,by omega⟩
     obtain⟨A,p,rfl⟩:∃ A p,t1=A++[p]:=by
      have:=HM.out;have:=HJ.out
      exact⟨t1.dropLast,t1.getLast (by rintro rfl;simp at *;omega),(List.dropLast_concat_getLast _).symm⟩
     have hA:Hid (i=(x++A).length):=by
      have:=HM.out;have:=HJ.out;have:=H1.out;show _=_;rw[c1n] at *;simp at *;omega
     have HB2:Hid (PB wr g ((x++A)++p::e::(t2++(r'++y))) R):=by
      have:=HB.out;simp only[c1p,List.singleton_append,c1w] at *;exact this
     have k1:kth ((x++A)++p::e::(t2++(r'++y))) i=p:=by rw[hA.out,a0i,if_neg (by omega),c1B];rfl
     have k2:kth ((x++A)++p::e::(t2++(r'++y))) (i+1)=e:=by rw[hA.out,a0i,if_neg (by omega),show (x++A).length+1-(x++A).length=1 by omega];rfl
     have hlen:i+1<((x++A)++p::e::(t2++(r'++y))).length:=by rw[hA.out];simp only[c1n,c1A];omega
     obtain⟨p1,p2⟩:=HB2.out.cell (j:=i) (by omega)
     obtain⟨q1,q2⟩:=HB2.out.cell (j:=i+1) (by omega)
     rw[k1] at p1 p2
     rw[k2] at q1 q2
     have HLN:=c1o hlen
     clear k1 k2 hlen
     have e1:decide ((a:Int)<(i:Int)+1)=true:=by simp;omega
     have s1:((i:Int)+1).toNat=i+1:=by omega
     have s2:(0:Int)<=(i:Int)+1:=by omega
     have s3:(i:Int)+1<(n:Int):=by omega
     have s4:(i:Int)<(n:Int):=by omega
     have s5:IntKind.i64.wrap (i:Int)=i:=c1u _ (by omega)
     go_wp2_with fail
     go_still_tail 14,(by kernel_rfl)
     change wpList _ _ _ _ _ wr.drew
     obtain⟨we,we1⟩:0<=e.w/\e.w<=100000000000000000:=a1z.1 HW.out e (in_e htk.out)
     obtain⟨wp,wp1⟩:0<=p.w/\p.w<=100000000000000000:=a1z.1 HW.out p (in_p HS.out HT.out)
     go_wp2_with fail
     refine (a1W _ _ _ _ _ _ _ _ _ we we1 wp wp1).mono ?_
     rintro _ w1 ⟨rfl,hk⟩
     have HK1:=c1o (HK.out.trans ((Keeps.refl [g] wr).drew.trans (hk.mono (by simp))))
     have HB3:=c1o (HB2.out.keeps ((Keeps.refl [] wr).drew.trans hk) (by simp))
     clear hk HB HB2 p1 p2 q1 q2 HK
     by_cases hlt:e.w<p.w
     ·have e2:decide (e.w-p.w<0)=true:=by simp;omega
      obtain⟨p1,p2⟩:=HB3.out.cell (j:=i) (by have:=HLN.out;omega)
      obtain⟨q1,q2⟩:=HB3.out.cell (j:=i+1) HLN.out
      have k1:kth ((x++A)++p::e::(t2++(r'++y))) i=p:=by rw[hA.out,a0i,if_neg (by omega),c1B];rfl
      have k2:kth ((x++A)++p::e::(t2++(r'++y))) (i+1)=e:=by rw[hA.out,a0i,if_neg (by omega),show (x++A).length+1-(x++A).length=1 by omega];rfl
      rw[k1] at p1 p2
      rw[k2] at q1 q2
      have K1:=c1o k1
      have K2:=c1o k2
      clear k1 k2
      have f1:=HB3.out.free (i*2)
      have f2:=HB3.out.free (i*2+1)
      have f3:=HB3.out.free ((i+1)*2)
      have f4:=HB3.out.free ((i+1)*2+1)
      go_wp2_with fail
      go_region
      go_wp2_with fail
      go_roundw
      case rel=>
       refine⟨i,A.length,A,p::t2,by omega,by omega,by go_num,c1o ?_,c1o rfl,c1o ?_,c1o ?_,c1o ?_,c1o ((((((HK1.out.put _).put _).put _).put _)).drew)⟩
       ·have:=hA.out;have:=H1.out;rw[c1n] at *;omega
       ·rw[HT.out];simp
       ·intro q hq
        rcases c1L.1 hq with rfl|hq
        ·exact hlt
        ·exact HG.out q hq
       ·have hs:=a8z _ (i+1) i HLN.out (by have:=HLN.out;omega) w1 g R HB3.out (by omega)
        rw[K1.out,K2.out] at hs
        have hz:=b2W (x++A) (t2++(r'++y)) p e
        rw[<-hA.out] at hz
        rw[hz] at hs
        have:=hs.dr (Dr.refl _).drew
        simp only[c1p,c1w] at this ⊢
        exact this
      case measure=>simp[intOf]
     ·have e2:decide (e.w-p.w<0)=false:=by simp;omega
      go_wp2_with fail
      refine⟨⟨I+1,k+1,A++p::e::t2,r',by omega,by omega,by go_num,c1o (by have:=HI.out;omega),hr2,c1o ?_,c1o ?_,HK1⟩,by simp[intOf];omega⟩
      ·rw[htk.out,show A++p::e::t2=(A++[p])++e::t2 by simp]
       have hs:=HS.out
       rw[HT.out] at hs
       refine a6K hs (fun q hq=>?_) HG.out
       rcases c1H.1 hq with hq|hq
       ·have:=a9R (a1l hs.1) q hq p (by simp);omega
       ·rw[c1K.1 hq];omega
      ·have:=HB3.out
       simp only[c1p,c1w] at this ⊢
       exact this
    ·have e1:decide (a<J)=false:=by simpa using hJ
     go_wp2_with fail
     go_quiet (fail)
     go_wp2_with fail
     have h0:t1=[]:=by have:=HM.out;have:=HJ.out;exact c1r (by omega)
     subst h0
     refine⟨⟨I+1,k+1,e::t2,r',by omega,by omega,by go_num,c1o (by have:=HI.out;omega),hr2,c1o ?_,c1o ?_,c1o (HK.out.drewN _)⟩,by simp[intOf];omega⟩
     ·rw[htk.out]
      have hs:=HS.out
      rw[HT.out] at hs
      exact a6K (t1:=[]) hs (by simp) HG.out
     ·exact HB.out.dr ⟨_,rfl⟩
  ·go_wp2_with fail
   go_end0
   have hs:s.length<=k:=by have:=H1.out;have:=H2.out;have:=HI.out;omega
   have e1:r=[]:=by rw[HR.out,c1D hs]
   subst e1
   refine⟨rfl,t,?_,HB.out,HK.out⟩
   have:=HS.out
   rwa [c1E hs] at this
open Go.RowKit
structure Turn (P:Nat->Prop) (lo i j hi:Nat):Prop where
 a:lo<=i
 b:i<=j
 c:j<=hi
 yes:∀ k,lo<=k->k<i->P k
 no:∀ k,j<=k->k<hi->¬P k
theorem Turn.start(P:Nat->Prop){lo hi:Nat}(h:lo<=hi):Turn P lo lo hi hi:=⟨c1y _,h,c1y _,fun k a b=>by omega,fun k a b=>by omega⟩
theorem Turn.up{P:Nat->Prop}{lo i j hi m:Nat}(h:Turn P lo i j hi)(h1:i<=m)(h2:m<j)(hm:∀ k,lo<=k->k<=m->P m->P k)(hp:P m):Turn P lo (m+1) j hi:=
 ⟨by have:=h.a;omega,by omega,h.c,fun k a b=>hm k a (by omega) hp,h.no⟩
theorem Turn.down{P:Nat->Prop}{lo i j hi m:Nat}(h:Turn P lo i j hi)(h1:i<=m)(h2:m<j)(hm:∀ k,m<=k->k<hi->P k->P m)(hp:¬P m):Turn P lo i m hi:=
 ⟨h.a,h1,by have:=h.c;omega,h.yes,fun k a b hk=>hp (hm k a b hk)⟩
theorem a2m{t:List Pk}(h:srt t){i j:Nat}(hij:i<=j)(hj:j<t.length):(kth t i).w<=(kth t j).w:=by
 rcases Nat.eq_or_lt_of_le hij with rfl|hlt
 ·exact Int.le_refl _
 ·rw[a3Z hj,a3Z (by omega)]
  exact List.pairwise_iff_getElem.1 h i j (by omega) hj hlt
theorem a2X{t:List Pk}{i:Nat}(h:i<t.length):kth t i∈t:=by rw[a3Z h];exact List.getElem_mem h
theorem a3b{t:List Pk}{p:Pk}(h:p∈t):∃ i,i<t.length/\kth t i=p:=by
 obtain⟨i,hi,rfl⟩:=List.mem_iff_getElem.1 h
 exact⟨i,hi,a3Z hi⟩
theorem a5w{t:List Pk}{i k:Nat}(h:i<k):kth (t.take k) i=kth t i:=by simp[kth,List.getD,List.getElem?_take,h]
theorem a5v{t:List Pk}{i k:Nat}:kth (t.drop k) i=kth t (k+i):=by simp[kth,List.getD]
theorem b1M{p:Pk}{t1 t2:List Pk}(h:srt (t1++t2))(h1:∀ q∈t1,q.w<p.w)(h2:∀ q∈t2,p.w<=q.w):SS (t1++p::t2) (p::(t1++t2)):=by
 refine⟨b1L (a1l h) (List.pairwise_cons.2 ⟨fun q hq=>h2 q hq,a0W h⟩) ?_,?_⟩
 ·intro q hq r hr
  rcases c1L.1 hr with rfl|hr
  ·exact Int.le_of_lt (h1 q hq)
  ·exact a9R h q hq r hr
 ·have:=(a6G [p] t1 (fun r hr q hq=>by rw[c1K.1 hr];have:=h1 q hq;omega)).app (same.refl t2)
  simpa using this
theorem a8C (w:World) (g:Nat) (x t y:List Pk) (p:Pk) (R:List Value) (n c a m b:Nat) (h:PB w g (x++(p::(t++y))) R) (hn:n=(x++(p::(t++y))).length) (hw:okW (x++(p::(t++y))))
  (h1:a=x.length) (h2:m=x.length+1) (h3:b=x.length+1+t.length) (ht:srt t) (hsz:n<=1000000) :
  Calls Tryz.prog 138 #[.slice (some ⟨g,0,none⟩) n c,.int .i64 a,.int .i64 m,.int .i64 b,theCmp] w fun e w'=>e=.returned (.tuple #[])/\∃ r,SS r (p::t)/\PB w' g (x++(r++y)) R/\Keeps [g] w w':=by
 have H:=c1o h
 have hl:n=x.length+(1+(t.length+y.length)):=by rw[hn];simp only[c1n,c1A];omega
 have HL:=c1o hl
 have H1:=c1o h1
 have H2:=c1o h2
 have H3:=c1o h3
 have HW:=c1o hw
 have HT:=c1o ht
 have ham:Hid (m=a+1):=by show _=_;omega
 have b2:m<=b:=by omega
 have b3:b<=n:=by omega
 have b4:a<n:=by omega
 have b5:m<=n:=by omega
 have e1:IntKind.i64.wrap ((m:Int)-a)=(m:Int)-a:=c1u _ (by omega)
 have e2:((m:Int)-a==1)=true:=by simp;omega
 clear h hl h1 h2 h3 hn hw ht
 go_enter Tryz.func138,Tryz.ntmps138
 go_wp2_with fail
 go_loopw [10,11] (fun iv jv wr=>∃ (i j:Nat),iv=.int .i64 i/\jv=.int .i64 j/\i<=j/\j<=b/\m<=i/\Hid (Turn (fun k=>(kth (x++(p::(t++y))) k).w<p.w) m i j b)/\Hid (PB wr g (x++(p::(t++y))) R)/\Hid (Keeps [g] w wr)) (fun iv jv _=>(intOf jv-intOf iv).toNat)
 case atStart=>exact⟨m,b,rfl,rfl,b2,by omega,by omega,c1o (Turn.start _ b2),H,c1o (Keeps.refl _ _)⟩
 case round=>
  clear H
  obtain⟨i,j,rfl,rfl,hij,hjb,hmi,HTN,HB,HK⟩:=hrel
  obtain⟨wo,rfl⟩:∃ wo:World,wo=wr:=⟨_,rfl⟩
  by_cases hlt:i<j
  ·have e0:decide (i<j)=true:=by simpa using hlt
   obtain⟨h,hh⟩:∃ h:Nat,h=(i+j)/2:=⟨_,rfl⟩
   have s0:((i:Int)+j)/2=(h:Int):=by omega
   have hih:i<=h:=by omega
   have hhj:h<j:=by omega
   have s1:(h:Int)<n:=by omega
   have hln:Hid ((x++(p::(t++y))).length=n):=by have:=HL.out;show _=_;simp only[c1n,c1A];omega
   obtain⟨p1,p2⟩:=HB.out.cell (j:=h) (by have:=hln.out;omega)
   obtain⟨q1,q2⟩:=HB.out.cell (j:=a) (by have:=hln.out;omega)
   have k1:kth (x++(p::(t++y))) a=p:=by rw[H1.out,a0i,if_neg (by omega),c1B];rfl
   rw[k1] at q1 q2
   obtain⟨we,we1⟩:=a1z.1 HW.out _ (a2X (t:=x++(p::(t++y))) (i:=h) (by have:=hln.out;omega))
   obtain⟨wp,wp1⟩:=a1z.1 HW.out p (by simp)
   have hu:Hid (∃ u,u=kth (x++(p::(t++y))) h):=⟨_,rfl⟩
   obtain⟨u,hu⟩:=hu.out
   rw[<-hu] at p1 p2 we we1
   have HU:=c1o hu
   have HH:=c1o hh
   clear hu k1 hh
   go_wp2_with fail
   go_still_tail 9,(by kernel_rfl)
   change wpList _ _ _ _ _ wo.drew
   go_wp2_with fail
   refine (a1W _ _ _ _ _ _ _ _ _ we we1 wp wp1).mono ?_
   rintro _ w1 ⟨rfl,hk⟩
   have HK1:=c1o (HK.out.trans ((Keeps.refl [g] wo).drew.trans (hk.mono (by simp))))
   have HB3:=c1o (HB.out.keeps ((Keeps.refl [] wo).drew.trans hk) (by simp))
   clear hk HB HK p1 p2 q1 q2
   have hmono:Hid (∀ k1 k2,m<=k1->k1<=k2->k2<b->(kth (x++(p::(t++y))) k1).w<=(kth (x++(p::(t++y))) k2).w):=by
    intro k1 k2 g1 g2 g3
    have d1:=H2.out;have d3:=H3.out
    have e:∀ k,m<=k->k<b->kth (x++(p::(t++y))) k=kth t (k-m):=by
     intro k f1 f2
     rw[a0i,if_neg (by omega),show p::(t++y)=[p]++(t++y) from rfl,a0i,if_neg (by simp;omega),a0i,if_pos (by simp;omega)]
     congr 1;simp;omega
    rw[e k1 g1 (by omega),e k2 (by omega) g3]
    exact a2m HT.out (by omega) (by omega)
   by_cases hlt:u.w<p.w
   ·have e2:decide (u.w-p.w<0)=true:=by simp;omega
    go_wp2_with fail
    refine⟨⟨h+1,j,by go_num,rfl,by omega,by omega,by omega,c1o (HTN.out.up hih hhj (fun k g1 g2 g3=>?_) ?_),HB3,HK1⟩,by simp[intOf];omega⟩
    ·exact Int.lt_of_le_of_lt (hmono.out k h g1 g2 (by omega)) g3
    ·show (kth _ h).w<p.w;rw[<-HU.out];exact hlt
   ·have e2:decide (u.w-p.w<0)=false:=by simp;omega
    go_wp2_with fail
    refine⟨⟨i,h,rfl,rfl,by omega,by omega,by omega,c1o (HTN.out.down hih hhj (fun k g1 g2 g3=>?_) ?_),HB3,HK1⟩,by simp[intOf];omega⟩
    ·exact Int.lt_of_le_of_lt (hmono.out h k (by omega) g1 g2) g3
    ·show ¬(kth _ h).w<p.w;rw[<-HU.out];omega
  ·have e0:decide (i<j)=false:=by simpa using hlt
   obtain rfl:i=j:=by omega
   have e3:IntKind.i64.wrap ((i:Int)-1)=(i:Int)-1:=c1u _ (by omega)
   have HB0:Hid (PB wo g (x++(t.take 0++(p::(t.drop 0++y)))) R):=HB
   have hi0:1<=i:=by have:=ham.out;omega
   clear HB
   go_wp2_with fail
   go_loopw [13] (fun kv wr=>∃ (K q:Nat),kv=.int .i64 K/\K<i/\Hid (K=a+q)/\Hid (PB wr g (x++(t.take q++(p::(t.drop q++y)))) R)/\Hid (Keeps [g] w wr)) (fun kv _=>(i-intOf kv).toNat)
   case atStart=>exact⟨a,0,rfl,by have:=ham.out;omega,c1o rfl,HB0,HK⟩
   case round=>
    clear HB0 HK
    obtain⟨K,q,rfl,hKi,HKq,HB,HK⟩:=hrel
    by_cases hlt2:K+1<i
    ·have e4:decide ((K:Int)<(i:Int)-1)=true:=by simp;omega
     have hq:q<t.length:=by have:=HKq.out;have:=H1.out;have:=H3.out;omega
     have HKA:Hid (K=(x++t.take q).length):=by have:=HKq.out;have:=H1.out;show _=_;rw[c1n,c1v];omega
     have HB2:Hid (PB wr g ((x++t.take q)++p::t[q]::(t.drop (q+1)++y)) R):=by
      have:=HB.out;rw[c1x hq] at this;simp only[c1p,c1w] at *;exact this
     have HE:Hid (t.take (q+1)=t.take q++[t[q]]):=c1C hq
     have HLN:Hid (K+1<((x++t.take q)++p::t[q]::(t.drop (q+1)++y)).length):=by rw[HKA.out];show _<_;simp only[c1n,c1A];omega
     generalize t[q]=e at *
     obtain⟨p1,p2⟩:=HB2.out.cell (j:=K) (by have:=HLN.out;omega)
     obtain⟨q1,q2⟩:=HB2.out.cell (j:=K+1) HLN.out
     have k1:kth ((x++t.take q)++p::e::(t.drop (q+1)++y)) K=p:=by rw[HKA.out,a0i,if_neg (by omega),c1B];rfl
     have k2:kth ((x++t.take q)++p::e::(t.drop (q+1)++y)) (K+1)=e:=by rw[HKA.out,a0i,if_neg (by omega),show (x++t.take q).length+1-(x++t.take q).length=1 by omega];rfl
     rw[k1] at p1 p2
     rw[k2] at q1 q2
     have K1:=c1o k1
     have K2:=c1o k2
     have f1:=HB2.out.free (K*2)
     have f2:=HB2.out.free (K*2+1)
     have f3:=HB2.out.free ((K+1)*2)
     have f4:=HB2.out.free ((K+1)*2+1)
     have s1:((K:Int)+1).toNat=K+1:=by omega
     have s2:(0:Int)<=(K:Int)+1:=by omega
     have s3:(K:Int)+1<(n:Int):=by omega
     have s4:(K:Int)<(n:Int):=by omega
     clear k1 k2 HB hq
     go_wp2_with fail
     go_region
     go_wp2_with fail
     go_roundw
     case rel=>
      refine⟨K+1,q+1,by go_num,by omega,c1o (by have:=HKq.out;omega),c1o ?_,c1o ((((((HK.out.put _).put _).put _).put _)).drew)⟩
      have hs:=a8z _ K (K+1) (by have:=HLN.out;omega) HLN.out wr g R HB2.out (by omega)
      rw[K1.out,K2.out] at hs
      have hz:=b9S (x++t.take q) (t.drop (q+1)++y) p e
      rw[<-HKA.out] at hz
      rw[hz] at hs
      have:=hs.dr (Dr.refl _).drew
      rw[HE.out]
      simp only[c1p,c1w,c1I] at this ⊢
      exact this
     case measure=>simp[intOf];omega
    ·have e4:decide ((K:Int)<(i:Int)-1)=false:=by simp;omega
     go_wp2_with fail
     refine bodyPost_ret (results_none rfl _ _ _) rfl ?_
     refine⟨rfl,t.take q++p::t.drop q,?_,?_,HK.out⟩
     ·have hs:=b1M (p:=p) (t1:=t.take q) (t2:=t.drop q) (by rw[c1q];exact HT.out) ?_ ?_
      ·rwa [c1q] at hs
      ·intro r hr
       obtain⟨d,hd,rfl⟩:=a3b hr
       rw[c1v] at hd
       have:=HTN.out.yes (m+d) (by omega) (by have:=HKq.out;have:=ham.out;omega)
       have d2:=H2.out
       rw[a0i,if_neg (by omega),show p::(t++y)=[p]++(t++y) from rfl,a0i,if_neg (by simp;omega),a0i,if_pos (by simp;omega)] at this
       rw[a5w (by omega)]
       rwa [show m+d-x.length-[p].length=d by simp;omega] at this
      ·intro r hr
       obtain⟨d,hd,rfl⟩:=a3b hr
       rw[c1s] at hd
       have d2:=H2.out
       have d3:=H3.out
       have:=HTN.out.no (m+(q+d)) (by have:=HKq.out;have:=ham.out;omega) (by omega)
       rw[a0i,if_neg (by omega),show p::(t++y)=[p]++(t++y) from rfl,a0i,if_neg (by simp;omega),a0i,if_pos (by simp;omega)] at this
       rw[a5v]
       rw[show m+(q+d)-x.length-[p].length=q+d by simp;omega] at this
       omega
     ·have:=HB.out
      simp only[c1p,c1w] at this ⊢
      exact this
open Go.RowKit
theorem a7f (w:World) (g:Nat) (x s y:List Pk) (q:Pk) (R:List Value) (n c a m b:Nat) (h:PB w g (x++(s++(q::y))) R) (hn:n=(x++(s++(q::y))).length) (hw:okW (x++(s++(q::y))))
  (h1:a=x.length) (h2:m=x.length+s.length) (h3:b=x.length+s.length+1) (hs2:s.length≠1) (ht:srt s) (hsz:n<=1000000) :
  Calls Tryz.prog 138 #[.slice (some ⟨g,0,none⟩) n c,.int .i64 a,.int .i64 m,.int .i64 b,theCmp] w fun e w'=>e=.returned (.tuple #[])/\∃ r,SS r (s++[q])/\PB w' g (x++(r++y)) R/\Keeps [g] w w':=by
 have H:=c1o h
 have hl:n=x.length+(s.length+(1+y.length)):=by rw[hn];simp only[c1n,c1A];omega
 have HL:=c1o hl
 have H1:=c1o h1
 have H2:=c1o h2
 have H3:=c1o h3
 have HW:=c1o hw
 have HT:=c1o ht
 have b2:a<=m:=by omega
 have b3:m<n:=by omega
 have e1:IntKind.i64.wrap ((m:Int)-a)=(m:Int)-a:=c1u _ (by omega)
 have e2:((m:Int)-a==1)=false:=by simp;omega
 have e3:IntKind.i64.wrap ((b:Int)-m)=(b:Int)-m:=c1u _ (by omega)
 have e4:((b:Int)-m==1)=true:=by simp;omega
 clear h hl h1 h2 h3 hn hw ht
 go_enter Tryz.func138,Tryz.ntmps138
 go_wp2_with fail
 go_loopw [14,15] (fun iv jv wr=>∃ (i j:Nat),iv=.int .i64 i/\jv=.int .i64 j/\i<=j/\j<=m/\a<=i/\Hid (Turn (fun k=>(kth (x++(s++(q::y))) k).w<=q.w) a i j m)/\Hid (PB wr g (x++(s++(q::y))) R)/\Hid (Keeps [g] w wr)) (fun iv jv _=>(intOf jv-intOf iv).toNat)
 case atStart=>exact⟨a,m,rfl,rfl,b2,by omega,by omega,c1o (Turn.start _ b2),H,c1o (Keeps.refl _ _)⟩
 case round=>
  clear H
  obtain⟨i,j,rfl,rfl,hij,hjb,hmi,HTN,HB,HK⟩:=hrel
  obtain⟨wo,rfl⟩:∃ wo:World,wo=wr:=⟨_,rfl⟩
  by_cases hlt:i<j
  ·have e0:decide (i<j)=true:=by simpa using hlt
   obtain⟨h,hh⟩:∃ h:Nat,h=(i+j)/2:=⟨_,rfl⟩
   have s0:((i:Int)+j)/2=(h:Int):=by omega
   have hih:i<=h:=by omega
   have hhj:h<j:=by omega
   have s1:(h:Int)<n:=by omega
   have hln:Hid ((x++(s++(q::y))).length=n):=by have:=HL.out;show _=_;simp only[c1n,c1A];omega
   obtain⟨p1,p2⟩:=HB.out.cell (j:=h) (by have:=hln.out;omega)
   obtain⟨q1,q2⟩:=HB.out.cell (j:=m) (by have:=hln.out;omega)
   have k1:kth (x++(s++(q::y))) m=q:=by rw[H2.out,a0i,if_neg (by omega),a0i,if_neg (by omega),show x.length+s.length-x.length-s.length=0 by omega];rfl
   rw[k1] at q1 q2
   obtain⟨we,we1⟩:=a1z.1 HW.out _ (a2X (t:=x++(s++(q::y))) (i:=h) (by have:=hln.out;omega))
   obtain⟨wp,wp1⟩:=a1z.1 HW.out q (by simp)
   have hu:Hid (∃ u,u=kth (x++(s++(q::y))) h):=⟨_,rfl⟩
   obtain⟨u,hu⟩:=hu.out
   rw[<-hu] at p1 p2 we we1
   have HU:=c1o hu
   have HH:=c1o hh
   clear hu k1 hh
   go_wp2_with fail
   go_still_tail 9,(by kernel_rfl)
   change wpList _ _ _ _ _ wo.drew
   go_wp2_with fail
   refine (a1W _ _ _ _ _ _ _ _ _ wp wp1 we we1).mono ?_
   rintro _ w1 ⟨rfl,hk⟩
   have HK1:=c1o (HK.out.trans ((Keeps.refl [g] wo).drew.trans (hk.mono (by simp))))
   have HB3:=c1o (HB.out.keeps ((Keeps.refl [] wo).drew.trans hk) (by simp))
   clear hk HB HK p1 p2 q1 q2
   have hmono:Hid (∀ k1 k2,a<=k1->k1<=k2->k2<m->(kth (x++(s++(q::y))) k1).w<=(kth (x++(s++(q::y))) k2).w):=by
    intro k1 k2 g1 g2 g3
    have d1:=H1.out;have d3:=H2.out
    have e:∀ k,a<=k->k<m->kth (x++(s++(q::y))) k=kth s (k-a):=by
     intro k f1 f2
     rw[a0i,if_neg (by omega),a0i,if_pos (by omega)]
     congr 1;omega
    rw[e k1 g1 (by omega),e k2 (by omega) g3]
    exact a2m HT.out (by omega) (by omega)
   by_cases hlt:q.w<u.w
   ·have e2:decide (q.w-u.w<0)=true:=by simp;omega
    go_wp2_with fail
    refine⟨⟨i,h,rfl,rfl,by omega,by omega,by omega,c1o (HTN.out.down hih hhj (fun k g1 g2 g3=>?_) ?_),HB3,HK1⟩,by simp[intOf];omega⟩
    ·exact Int.le_trans (hmono.out h k (by omega) g1 g2) g3
    ·show ¬(kth _ h).w<=q.w;rw[<-HU.out];omega
   ·have e2:decide (q.w-u.w<0)=false:=by simp;omega
    go_wp2_with fail
    refine⟨⟨h+1,j,by go_num,rfl,by omega,by omega,by omega,c1o (HTN.out.up hih hhj (fun k g1 g2 g3=>?_) ?_),HB3,HK1⟩,by simp[intOf];omega⟩
    ·exact Int.le_trans (hmono.out k h g1 g2 (by omega)) g3
    ·show (kth _ h).w<=q.w;rw[<-HU.out];omega
  ·have e0:decide (i<j)=false:=by simpa using hlt
   obtain rfl:i=j:=by omega
   have HB0:Hid (PB wo g (x++(s.take s.length++(q::(s.drop s.length++y)))) R):=by
    have:=HB.out;rw[List.take_length,List.drop_length];exact this
   clear HB
   go_wp2_with fail
   go_loopw [17] (fun kv wr=>∃ (K r:Nat),kv=.int .i64 K/\i<=K/\K<=m/\Hid (K=a+r)/\Hid (PB wr g (x++(s.take r++(q::(s.drop r++y)))) R)/\Hid (Keeps [g] w wr)) (fun kv _=>(intOf kv).toNat)
   case atStart=>exact⟨m,s.length,rfl,hjb,by omega,c1o (by have:=H1.out;have:=H2.out;omega),HB0,HK⟩
   case round=>
    clear HB0 HK
    obtain⟨K,r,rfl,hKi,hKm,HKq,HB,HK⟩:=hrel
    by_cases hlt2:i<K
    ·obtain⟨D,rfl⟩:∃ D,K=D+1:=⟨K-1,by omega⟩
     obtain⟨r',rfl⟩:∃ r',r=r'+1:=⟨r-1,by have:=HKq.out;omega⟩
     have e4:decide ((i:Int)<(D:Int)+1)=true:=by simp;omega
     have hq:r'<s.length:=by have:=HKq.out;have:=H1.out;have:=H2.out;omega
     have HKA:Hid (D=(x++s.take r').length):=by have:=HKq.out;have:=H1.out;show _=_;rw[c1n,c1v];omega
     have HB2:Hid (PB wr g ((x++s.take r')++s[r']::q::(s.drop (r'+1)++y)) R):=by
      have:=HB.out;rw[c1C hq] at this;simp only[c1p,c1w,c1I] at *;exact this
     have HE:Hid (s.drop r'=s[r']::s.drop (r'+1)):=c1x hq
     have HLN:Hid (D+1<((x++s.take r')++s[r']::q::(s.drop (r'+1)++y)).length):=by rw[HKA.out];show _<_;simp only[c1n,c1A];omega
     generalize s[r']=e at *
     obtain⟨p1,p2⟩:=HB2.out.cell (j:=D) (by have:=HLN.out;omega)
     obtain⟨q1,q2⟩:=HB2.out.cell (j:=D+1) HLN.out
     have k1:kth ((x++s.take r')++e::q::(s.drop (r'+1)++y)) D=e:=by rw[HKA.out,a0i,if_neg (by omega),c1B];rfl
     have k2:kth ((x++s.take r')++e::q::(s.drop (r'+1)++y)) (D+1)=q:=by rw[HKA.out,a0i,if_neg (by omega),show (x++s.take r').length+1-(x++s.take r').length=1 by omega];rfl
     rw[k1] at p1 p2
     rw[k2] at q1 q2
     have K1:=c1o k1
     have K2:=c1o k2
     have f1:=HB2.out.free (D*2)
     have f2:=HB2.out.free (D*2+1)
     have f3:=HB2.out.free ((D+1)*2)
     have f4:=HB2.out.free ((D+1)*2+1)
     have s1:((D:Int)+1).toNat=D+1:=by omega
     have s2:(0:Int)<=(D:Int)+1:=by omega
     have s3:(D:Int)+1<(n:Int):=by omega
     have s4:(D:Int)<(n:Int):=by omega
     have s5:IntKind.i64.wrap (D:Int)=D:=c1u _ (by omega)
     clear k1 k2 HB hq
     go_wp2_with fail
     go_region
     go_wp2_with fail
     go_roundw
     case rel=>
      refine⟨D,r',by go_num,by omega,by omega,c1o (by have:=HKq.out;omega),c1o ?_,c1o ((((((HK.out.put _).put _).put _).put _)).drew)⟩
      have hs:=a8z _ (D+1) D HLN.out (by have:=HLN.out;omega) wr g R HB2.out (by omega)
      rw[K1.out,K2.out] at hs
      have hz:=b2W (x++s.take r') (s.drop (r'+1)++y) e q
      rw[<-HKA.out] at hz
      rw[hz] at hs
      have:=hs.dr (Dr.refl _).drew
      rw[HE.out]
      simp only[c1p,c1w,c1I] at this ⊢
      exact this
     case measure=>simp[intOf]
    ·have e4:decide (i<K)=false:=by simpa using hlt2
     go_wp2_with fail
     refine bodyPost_ret (results_none rfl _ _ _) rfl ?_
     refine⟨rfl,s.take r++q::s.drop r,?_,?_,HK.out⟩
     ·have hs:=a6K (e:=q) (t1:=s.take r) (t2:=s.drop r) (l:=s) (by rw[c1q];exact⟨HT.out,same.refl _⟩) ?_ ?_
      ·exact hs
      ·intro z hz
       obtain⟨d,hd,rfl⟩:=a3b hz
       rw[c1v] at hd
       have:=HTN.out.yes (a+d) (by omega) (by have:=HKq.out;omega)
       have d2:=H1.out
       rw[a0i,if_neg (by omega),a0i,if_pos (by omega)] at this
       rw[a5w (by omega)]
       rw[show a+d-x.length=d by omega] at this
       omega
      ·intro z hz
       obtain⟨d,hd,rfl⟩:=a3b hz
       rw[c1s] at hd
       have d2:=H1.out
       have d3:=H2.out
       have:=HTN.out.no (a+(r+d)) (by have:=HKq.out;omega) (by omega)
       rw[a0i,if_neg (by omega),a0i,if_pos (by omega)] at this
       rw[a5v]
       rw[show a+(r+d)-x.length=r+d by omega] at this
       omega
     ·have:=HB.out
      simp only[c1p,c1w] at this ⊢
      exact this
theorem b7t{x s t y:List Pk}{a m k:Nat}(h1:a=x.length)(h2:m=x.length+s.length)(g1:a<=k)(g2:k<m):kth (x++(s++(t++y))) k=kth s (k-a):=by
 rw[a0i,if_neg (by omega),a0i,if_pos (by omega)]
 congr 1;omega
theorem b7v{x s t y:List Pk}{m b k:Nat}(h2:m=x.length+s.length)(h3:b=x.length+s.length+t.length)(g1:m<=k)(g2:k<b):kth (x++(s++(t++y))) k=kth t (k-m):=by
 rw[a0i,if_neg (by omega),a0i,if_neg (by omega),a0i,if_pos (by omega)]
 congr 1;omega
def symC(a m b M st0 r0:Nat):Prop:=(M<m/\st0+b=M+m/\r0=M)∨(m<=M/\st0=a/\r0=m)
theorem b1O{a m b M st0 r0:Nat}(h:symC a m b M st0 r0)(hM:M=(a+b)/2)(h1:a<m)(h2:m<b):a<=st0/\st0<=r0/\r0<=m/\r0<=M/\M<b/\(∀ c,st0<=c->c<r0->m<=M+m-1-c/\M+m-1-c<b):=by
 rcases h with⟨h,h3,h4⟩|⟨h,h3,h4⟩
 ·exact⟨by omega,by omega,by omega,by omega,by omega,fun c g1 g2=>by omega⟩
 ·exact⟨by omega,by omega,by omega,by omega,by omega,fun c g1 g2=>by omega⟩
theorem b2X {x s t y:List Pk} {a m b M st0 r0:Nat} (h1:a=x.length) (h2:m=x.length+s.length) (h3:b=x.length+s.length+t.length) (hs:srt s) (ht:srt t) (hM:M=(a+b)/2) (ha:a<m) (hb:m<b) (hc:symC a m b M st0 r0)
  {k h:Nat} (g1:st0<=k) (g2:k<=h) (g3:h<r0) (hp:(kth (x++(s++(t++y))) h).w<=(kth (x++(s++(t++y))) (M+m-1-h)).w):(kth (x++(s++(t++y))) k).w<=(kth (x++(s++(t++y))) (M+m-1-k)).w:=by
 obtain⟨c1,c2,c3,c4,c5,c6⟩:=b1O hc hM ha hb
 have d1:=c6 k g1 (by omega)
 have d2:=c6 h (by omega) g3
 rw[b7t h1 h2 (by omega) (by omega),b7v h2 h3 d1.1 d1.2]
 rw[b7t h1 h2 (by omega) (by omega),b7v h2 h3 d2.1 d2.2] at hp
 have e1:=a2m hs (i:=k-a) (j:=h-a) (by omega) (by omega)
 have e2:=a2m ht (i:=M+m-1-h-m) (j:=M+m-1-k-m) (by omega) (by omega)
 omega
theorem b6m {x s t y:List Pk} {a m b M st0 st r0:Nat} (h1:a=x.length) (h2:m=x.length+s.length) (h3:b=x.length+s.length+t.length) (hs:srt s) (ht:srt t) (hM:M=(a+b)/2) (ha:a<m) (hb:m<b) (hc:symC a m b M st0 r0)
  (hT:Turn (fun c=>(kth (x++(s++(t++y))) c).w<=(kth (x++(s++(t++y))) (M+m-1-c)).w) st0 st st r0) :
  ∃ s1 s2 t1 t2,s=s1++s2/\t=t1++t2/\a+s1.length=st/\st+t1.length=M/\(∀ p∈t1,∀ q∈s2,p.w<q.w)/\(∀ p∈s1,∀ q∈t2,p.w<=q.w):=by
 obtain⟨c1,c2,c3,c4,c5,c6⟩:=b1O hc hM ha hb
 have T1:=hT.a
 have T3:=hT.c
 refine⟨s.take (st-a),s.drop (st-a),t.take (M-st),t.drop (M-st),(c1q _ _).symm,(c1q _ _).symm,by rw[c1v];omega,?_,?_,?_⟩
 ·rw[c1v]
  rcases hc with⟨h,h4,h5⟩|⟨h,h4,h5⟩<;>omega
 ·intro p hp q hq
  obtain⟨i,hi,rfl⟩:=a3b hp
  obtain⟨j,hj,rfl⟩:=a3b hq
  rw[c1v] at hi
  rw[c1s] at hj
  rw[a5w (by omega),a5v]
  have hst:st<r0:=by rcases hc with⟨h,h4,h5⟩|⟨h,h4,h5⟩<;>omega
  have d:=c6 st (by omega) hst
  have:=hT.no st (c1y _) hst
  rw[b7t h1 h2 (by omega) (by omega),b7v h2 h3 d.1 d.2] at this
  have e1:=a2m hs (i:=st-a) (j:=st-a+j) (by omega) (by omega)
  have e2:=a2m ht (i:=i) (j:=M+m-1-st-m) (by omega) (by omega)
  omega
 ·intro p hp q hq
  obtain⟨i,hi,rfl⟩:=a3b hp
  obtain⟨j,hj,rfl⟩:=a3b hq
  rw[c1v] at hi
  rw[c1s] at hj
  rw[a5w (by omega),a5v]
  have hst:st0<st:=by rcases hc with⟨h,h4,h5⟩|⟨h,h4,h5⟩<;>omega
  have d:=c6 (st-1) (by omega) (by omega)
  have:=hT.yes (st-1) (by omega) (by omega)
  rw[b7t h1 h2 (by omega) (by omega),b7v h2 h3 d.1 d.2] at this
  have e1:=a2m hs (i:=i) (j:=st-1-a) (by omega) (by omega)
  have e2:=a2m ht (i:=M+m-1-(st-1)-m) (j:=M-st+j) (by omega) (by omega)
  omega
theorem a2L{s1 s2 t1 t2 r1 r2:List Pk}(hs:srt (s1++s2))(ht:srt (t1++t2))(f1:∀ p∈t1,∀ q∈s2,p.w<q.w)(f2:∀ p∈s1,∀ q∈t2,p.w<=q.w)(h1:SS r1 (s1++t1))(h2:SS r2 (s2++t2)):SS (r1++r2) (s1++s2++(t1++t2)):=by
 refine⟨b1L h1.1 h2.1 ?_,?_⟩
 ·intro p hp q hq
  rcases c1H.1 (h1.mem.1 hp) with hp|hp<;>rcases c1H.1 (h2.mem.1 hq) with hq|hq
  ·exact a9R hs p hp q hq
  ·exact f2 p hp q hq
  ·exact Int.le_of_lt (f1 p hp q hq)
  ·exact a9R ht p hp q hq
 ·refine (h1.2.app h2.2).trans ?_
  have e1:s1++t1++(s2++t2)=s1++((t1++s2)++t2):=by simp
  have e2:s1++s2++(t1++t2)=s1++((s2++t1)++t2):=by simp
  rw[e1,e2]
  refine (same.refl s1).app (same.app ?_ (same.refl t2))
  exact a6G s2 t1 (fun p hp q hq=>by have:=f1 q hq p hp;omega)
def pc(l:List Pk)(k b:Nat):List Pk:=(l.drop k).take b
def Ch(b:Nat)(r l:List Pk):Prop:=r.length=l.length/\∀ k,SS (pc r (k*b) b) (pc l (k*b) b)
theorem b8S:SS [] []:=⟨b6g,same.refl _⟩
theorem a6x{x r:List Pk}{k b:Nat}(h:k+b<=x.length):pc (x++r) k b=pc x k b:=by
 unfold pc
 rw[List.drop_append_of_le_length (by omega),List.take_append_of_le_length (by rw[c1s];omega)]
theorem a2o{x r:List Pk}{k b:Nat}(h:x.length<=k):pc (x++r) k b=pc r (k-x.length) b:=by
 unfold pc
 rw[List.drop_append,c1D h,c1I]
theorem b2K{r:List Pk}{b:Nat}(h:r.length<=b):pc r 0 b=r:=by
 unfold pc;rw[List.drop_zero,c1E h]
theorem b1v{r:List Pk}{k b:Nat}(h:r.length<=k):pc r k b=[]:=by
 unfold pc;rw[c1D h,List.take_nil]
theorem b8y(b:Nat):Ch b [] []:=⟨rfl,fun k=>by rw[b1v (by simp)];exact b8S⟩
theorem a8W{b k:Nat}{x y r s:List Pk}(h:Ch b x y)(hk:x.length=k*b)(hs:SS r s)(hl:s.length<=b):Ch b (x++r) (y++s):=by
 have hxy:=h.1
 refine⟨by rw[c1n,c1n,hxy,hs.len],fun j=>?_⟩
 rcases Nat.lt_trichotomy j k with hj|rfl|hj
 ·have:(j+1)*b<=k*b:=Nat.mul_le_mul_right b hj
  rw[c1M,Nat.one_mul] at this
  rw[a6x (by omega),a6x (by omega)]
  exact h.2 j
 ·rw[a2o (by omega),a2o (by omega),hk,<-hxy,hk,c1B,b2K (by rw[hs.len];exact hl),b2K hl]
  exact hs
 ·have:(k+1)*b<=j*b:=Nat.mul_le_mul_right b hj
  rw[c1M,Nat.one_mul] at this
  have e1:r.length<=j*b-x.length:=by rw[hs.len];omega
  have e2:s.length<=j*b-y.length:=by omega
  rw[a2o (by omega),a2o (by omega),b1v e1,b1v e2]
  exact b8S
theorem b9o{b:Nat}{r l:List Pk}(h:Ch b r l)(hb:l.length<=b):SS r l:=by
 have:=h.2 0
 rwa [Nat.zero_mul,b2K (by rw[h.1];exact hb),b2K hb] at this
theorem a5l{c s t s0 t0:List Pk}(h:SS c (s++t))(hs:SS s s0)(ht:SS t t0):SS c (s0++t0):=h.of_same (hs.2.app ht.2)
theorem b8Q(l:List Pk)(k b:Nat):pc l k (2*b)=pc l k b++pc l (k+b) b:=by
 unfold pc
 rw[show 2*b=b+b by omega,List.take_add,List.drop_drop]
theorem a5S(l:List Pk)(k b:Nat):l.drop k=pc l k b++l.drop (k+b):=by
 unfold pc
 rw[<-List.drop_drop,c1q]
theorem a7x(l:List Pk)(k b:Nat):(pc l k b).length=min b (l.length-k):=by unfold pc;rw[c1v,c1s]
theorem c0s{b k a:Nat}{r l:List Pk}(h:Ch b r l)(ha:a=k*b):SS (pc r a b) (pc l a b):=by subst ha;exact h.2 k
theorem b6r(l:List Pk)(k b:Nat):l.take (k+b)=l.take k++pc l k b:=by unfold pc;rw[List.take_add]
open Go.RowKit
theorem a2i (w:World) (g:Nat) (x u z v y:List Pk) (R:List Value) (m c a b n:Nat) (ai bi ni:Int) (fv:Value) (h:PB w g (x++(u++(z++(v++y)))) R) (hm:m=(x++(u++(z++(v++y)))).length)
  (h1:a=x.length) (h2:b=x.length+u.length+z.length) (h3:n=u.length) (h4:n=v.length) (ea:ai=a) (eb:bi=b) (en:ni=n) (hsz:m<=1000000) :
  Calls Tryz.prog 175 #[.slice (some ⟨g,0,none⟩) m c,.int .i64 ai,.int .i64 bi,.int .i64 ni,fv] w fun e w'=>e=.returned (.tuple #[])/\PB w' g (x++(v++(z++(u++y)))) R/\Keeps [g] w w':=by
 subst ea eb en
 have hl:m=x.length+(u.length+(z.length+(v.length+y.length))):=by rw[hm];simp only[c1n]
 have:=a6P w g _ R m c a b n fv h hm (by omega) (by omega) hsz
 rw[h1,h2,h3,b4g x u z v y (by omega)] at this
 rw[h1,h2,h3];exact this
theorem a2p (w:World) (g:Nat) (x u v y:List Pk) (R:List Value) (n c a m b:Nat) (fv:Value) (h:PB w g (x++(u++(v++y))) R) (hn:n=(x++(u++(v++y))).length)
  (h1:a=x.length) (h2:m=x.length+u.length) (h3:b=x.length+u.length+v.length) (hu:0<u.length) (hv:0<v.length) (hsz:n<=1000000) :
  Calls Tryz.prog 158 #[.slice (some ⟨g,0,none⟩) n c,.int .i64 a,.int .i64 m,.int .i64 b,fv] w fun e w'=>e=.returned (.tuple #[])/\PB w' g (x++(v++(u++y))) R/\Keeps [g] w w':=by
 have H:=c1o h
 have hl:n=x.length+(u.length+(v.length+y.length)):=by rw[hn];simp only[c1n]
 have HL:=c1o hl
 have H1:=c1o h1
 have H2:=c1o h2
 have H3:=c1o h3
 have b1:a<=m:=by omega
 have b2:m<=b:=by omega
 have b3:b<=n:=by omega
 have e1:IntKind.i64.wrap ((m:Int)-a)=(m:Int)-a:=c1u _ (by omega)
 have e2:IntKind.i64.wrap ((b:Int)-m)=(b:Int)-m:=c1u _ (by omega)
 clear h hl h1 h2 h3 hn
 go_enter Tryz.func158,Tryz.ntmps158
 go_wp2_with fail
 go_loopw [10,11] (fun iv jv wr=>∃ (i j:Nat) (P U V S:List Pk),0<i/\0<j/\i<=m/\j<=n/\m+j<=n/\iv=.int .i64 i/\jv=.int .i64 j/\Hid (U.length=i)/\Hid (V.length=j)/\Hid (P.length+i=m)/\Hid (P.length+(i+(j+S.length))=n)/\Hid (P++(V++(U++S))=x++(v++(u++y)))/\Hid (PB wr g (P++(U++(V++S))) R)/\Hid (Keeps [g] w wr)) (fun iv jv _=>(intOf iv+intOf jv).toNat)
 case atStart=>
  have q1:=H1.out;have q2:=H2.out;have q3:=H3.out;have q4:=HL.out
  exact⟨m-a,b-m,x,u,v,y,by omega,by omega,by omega,by omega,by omega,by congr 1;omega,by congr 1;omega,c1o (by omega),c1o (by omega),c1o (by omega),c1o (by omega),c1o rfl,H,c1o (Keeps.refl _ _)⟩
 case round=>
  obtain⟨i,j,P,U,V,S,hi,hj,him,hjn,hmj,rfl,rfl,HU,HV,HP,HN,HT,HB,HK⟩:=hrel
  clear e1 e2 b1 b2 b3 H
  by_cases hne:i=j
  ·subst hne
   have e3:((i:Int) !=(i:Int))=false:=by simp
   have e4:IntKind.i64.wrap ((m:Int)-i)=(m:Int)-i:=c1u _ (by omega)
   go_wp2_with fail
   have HB2:Hid (PB wr g (P++(U++([]++(V++S)))) R):=HB
   refine (a2i _ _ P U [] V S R _ _ (m-i) m i _ _ _ _ HB2.out (by have:=HN.out;have:=HU.out;have:=HV.out;simp only[c1n,List.length_nil];omega) (by have:=HP.out;omega) (by have:=HP.out;have:=HU.out;simp only[List.length_nil];omega) (by have:=HU.out;omega) (by have:=HV.out;omega) (by omega) rfl rfl hsz).mono ?_
   rintro e w' ⟨rfl,hb,hk⟩
   have HB3:=c1o hb
   have HK3:=c1o (HK.out.trans hk)
   clear hb hk
   go_wp2_with fail
   go_end0
   refine⟨rfl,?_,HK3.out⟩
   rw[<-HT.out];exact HB3.out
  ·have e3:((i:Int) !=(j:Int))=true:=by simp;omega
   by_cases hgt:j<i
   ·have e4:IntKind.i64.wrap ((m:Int)-i)=(m:Int)-i:=c1u _ (by omega)
    have e5:IntKind.i64.wrap ((i:Int)-j)=(i:Int)-j:=c1u _ (by omega)
    have HB2:Hid (PB wr g (P++(U.take j++(U.drop j++(V++S)))) R):=by
     have:=HB.out;rw[<-c1q j U,c1p] at this;exact this
    have l1:Hid ((U.take j).length=j):=by have:=HU.out;show _=_;rw[c1v];omega
    have l2:Hid ((U.drop j).length=i-j):=by have:=HU.out;show _=_;rw[c1s];omega
    have HT2:Hid (P++(V++(U.take j++(U.drop j++S)))=x++(v++(u++y))):=by
     have:=HT.out;rw[<-c1q j U,c1p] at this;exact this
    generalize U.take j=U1 at *
    generalize U.drop j=U2 at *
    clear hne HB HT
    go_wp2_with fail
    refine (a2i _ _ P U1 U2 V S R _ _ (m-i) m j _ _ _ _ HB2.out (by have:=HN.out;have:=l1.out;have:=l2.out;have:=HV.out;simp only[c1n];omega) (by have:=HP.out;omega) (by have:=HP.out;have:=l1.out;have:=l2.out;omega) (by have:=l1.out;omega) (by have:=HV.out;omega) (by omega) rfl rfl hsz).mono ?_
    rintro e w' ⟨rfl,hb,hk⟩
    have HB3:=c1o hb
    have HK3:=c1o (HK.out.trans hk)
    clear hb hk
    go_wp2_with fail
    go_roundw
    case rel=>exact⟨i-j,j,P++V,U2,U1,S,by omega,by omega,by omega,by omega,by omega,by congr 1;omega,rfl,l2,l1,c1o (by have:=HP.out;have:=HV.out;rw[c1n];omega),c1o (by have:=HN.out;have:=HV.out;rw[c1n];omega),c1o (by rw[c1p];exact HT2.out),c1o (by rw[c1p];exact HB3.out),HK3⟩
    case measure=>simp[intOf];omega
   ·have hij:i<j:=by omega
    have e4:IntKind.i64.wrap ((m:Int)-i)=(m:Int)-i:=c1u _ (by omega)
    have e5:IntKind.i64.wrap ((j:Int)-i)=(j:Int)-i:=c1u _ (by omega)
    have e6:IntKind.i64.wrap ((m:Int)+j)=(m:Int)+j:=c1u _ (by omega)
    have e7:IntKind.i64.wrap ((m:Int)+j-i)=(m:Int)+j-i:=c1u _ (by omega)
    have HB2:Hid (PB wr g (P++(U++(V.take (j-i)++(V.drop (j-i)++S)))) R):=by
     have:=HB.out;rw[<-c1q (j-i) V,c1p] at this;exact this
    have l1:Hid ((V.take (j-i)).length=j-i):=by have:=HV.out;show _=_;rw[c1v];omega
    have l2:Hid ((V.drop (j-i)).length=i):=by have:=HV.out;show _=_;rw[c1s];omega
    have HT2:Hid (P++(V.take (j-i)++(V.drop (j-i)++(U++S)))=x++(v++(u++y))):=by
     have:=HT.out;rw[<-c1q (j-i) V,c1p] at this;exact this
    generalize V.take (j-i)=V1 at *
    generalize V.drop (j-i)=V2 at *
    clear hne HB HT
    go_wp2_with fail
    refine (a2i _ _ P U V1 V2 S R _ _ (m-i) (m+j-i) i _ _ _ _ HB2.out (by have:=HN.out;have:=l1.out;have:=l2.out;have:=HU.out;simp only[c1n];omega) (by have:=HP.out;omega) (by have:=HP.out;have:=l1.out;have:=HU.out;omega) (by have:=HU.out;omega) (by have:=l2.out;omega) (by omega) (by omega) rfl hsz).mono ?_
    rintro e w' ⟨rfl,hb,hk⟩
    have HB3:=c1o hb
    have HK3:=c1o (HK.out.trans hk)
    clear hb hk
    go_wp2_with fail
    go_roundw
    case rel=>exact⟨i,j-i,P,V2,V1,U++S,by omega,by omega,by omega,by omega,by omega,rfl,by congr 1;omega,l2,l1,HP,c1o (by have:=HN.out;have:=HU.out;rw[c1n];omega),HT2,HB3,HK3⟩
    case measure=>simp[intOf];omega
open Go.RowKit
theorem b6l(x S1 S2 T1 T2 y:List Pk):(x++(S1++(T1++(S2++(T2++y))))).Perm (x++((S1++S2)++((T1++T2)++y))):=by
 refine List.Perm.append_left x ?_
 rw[c1p]
 refine List.Perm.append_left S1 ?_
 rw[c1p,<-c1p T1,<-c1p S2]
 exact List.Perm.append_right _ List.perm_append_comm
theorem a8D{x S1 T1 z r1:List Pk}(h:r1.Perm (S1++T1)):((x++r1)++z).Perm (x++(S1++(T1++z))):=by
 rw[c1p,<-c1p S1]
 exact List.Perm.append_left x (List.Perm.append_right z h)
def SymC(N:Nat):Prop:=∀ (w:World) (g:Nat) (x s t y:List Pk) (R:List Value) (n c a m b:Nat),PB w g (x++(s++(t++y))) R->n=(x++(s++(t++y))).length->okW (x++(s++(t++y))) ->
  a=x.length->m=x.length+s.length->b=x.length+s.length+t.length->srt s->srt t->0<s.length->0<t.length->s.length+t.length<=N->n<=1000000 ->
  Calls Tryz.prog 138 #[.slice (some ⟨g,0,none⟩) n c,.int .i64 a,.int .i64 m,.int .i64 b,theCmp] w fun e w'=>e=.returned (.tuple #[])/\∃ r,SS r (s++t)/\PB w' g (x++(r++y)) R/\Keeps [g] w w'
theorem b0e (N:Nat) (ih:SymC N) (w:World) (g:Nat) (x s t y:List Pk) (R:List Value) (n c a m b:Nat) (h:PB w g (x++(s++(t++y))) R) (hn:n=(x++(s++(t++y))).length) (hw:okW (x++(s++(t++y))))
  (h1:a=x.length) (h2:m=x.length+s.length) (h3:b=x.length+s.length+t.length) (hs:srt s) (ht:srt t) (ls:2<=s.length) (lt:2<=t.length) (hN:s.length+t.length<=N+1) (hsz:n<=1000000) :
  Calls Tryz.prog 138 #[.slice (some ⟨g,0,none⟩) n c,.int .i64 a,.int .i64 m,.int .i64 b,theCmp] w fun e w'=>e=.returned (.tuple #[])/\∃ r,SS r (s++t)/\PB w' g (x++(r++y)) R/\Keeps [g] w w':=by
 have H:=c1o h
 have hl:n=x.length+(s.length+(t.length+y.length)):=by rw[hn];simp only[c1n]
 have HL:=c1o hl
 have HLN:=c1o hn
 have H1:=c1o h1
 have H2:=c1o h2
 have H3:=c1o h3
 have HW:=c1o hw
 have HS:=c1o hs
 have HT:=c1o ht
 have IH:=c1o ih
 have HN:=c1o hN
 have b1:a+2<=m:=by omega
 have b2:m+2<=b:=by omega
 have b3:b<=n:=by omega
 have e1:IntKind.i64.wrap ((m:Int)-a)=(m:Int)-a:=c1u _ (by omega)
 have e2:((m:Int)-a==1)=false:=by simp;omega
 have e3:IntKind.i64.wrap ((b:Int)-m)=(b:Int)-m:=c1u _ (by omega)
 have e4:((b:Int)-m==1)=false:=by simp;omega
 obtain⟨M,hM⟩:∃ M:Nat,M=(a+b)/2:=⟨_,rfl⟩
 have s0:((a:Int)+b)/2=(M:Int):=by omega
 have m1:a<M:=by omega
 have m2:M<b:=by omega
 have HM:=c1o hM
 have hcase:∃ st0 r0:Nat,symC a m b M st0 r0:=by
  by_cases hmm:M<m
  ·exact⟨M+m-b,M,Or.inl ⟨hmm,by omega,rfl⟩⟩
  ·exact⟨a,m,Or.inr ⟨by omega,rfl,rfl⟩⟩
 obtain⟨st0,r0,hC⟩:=hcase
 obtain⟨c1,c2,c3,c4,c5,c6⟩:=b1O hC hM (by omega) (by omega)
 have HC:=c1o hC
 have C6:=c1o c6
 clear h hl h1 h2 h3 hn hw hs ht ih hN hM hC c6
 have key:∀ wq:World,Hid (PB wq g (x++(s++(t++y))) R)->True:=fun _ _=>trivial
 clear key
 rcases (by have:=HC.out;unfold symC at this;omega:(M<m/\st0+b=M+m/\r0=M)∨(m<=M/\st0=a/\r0=m)) with⟨hmm,q1,q2⟩|⟨hmm,q1,q2⟩
 case' inl=>
  have e5:decide (M<m)=true:=by simpa using hmm
  have q3:Hid ((M:Int)+m-b=(st0:Int)):=c1o (by omega)
  have q4:Hid ((M:Int)=(r0:Int)):=c1o (by omega)
 case' inr=>
  have e5:decide (M<m)=false:=by simp;omega
  have q3:Hid ((a:Int)=(st0:Int)):=c1o (by omega)
  have q4:Hid ((m:Int)=(r0:Int)):=c1o (by omega)
 all_goals
  clear q1 q2
  go_enter Tryz.func138,Tryz.ntmps138
  go_wp2_with fail
  go_loopw [20,21] (fun iv jv wr=>∃ (i j:Nat),iv=.int .i64 i/\jv=.int .i64 j/\i<=j/\j<=r0/\st0<=i/\Hid (Turn (fun c=>(kth (x++(s++(t++y))) c).w<=(kth (x++(s++(t++y))) (M+m-1-c)).w) st0 i j r0)/\Hid (PB wr g (x++(s++(t++y))) R)/\Hid (Keeps [g] w wr)) (fun iv jv _=>(intOf jv-intOf iv).toNat)
  case atStart=>exact⟨st0,r0,by rw[q3.out],by rw[q4.out],c2,by omega,by omega,c1o (Turn.start _ c2),H,c1o (Keeps.refl _ _)⟩
 all_goals
  clear H
  obtain⟨i,j,rfl,rfl,hij,hjb,hmi,HTN,HB,HK⟩:=hrel
  obtain⟨wo,rfl⟩:∃ wo:World,wo=wr:=⟨_,rfl⟩
  by_cases hlt:i<j
  ·have e0:decide (i<j)=true:=by simpa using hlt
   obtain⟨h,hh⟩:∃ h:Nat,h=(i+j)/2:=⟨_,rfl⟩
   have s1:((i:Int)+j)/2=(h:Int):=by omega
   have hih:i<=h:=by omega
   have hhj:h<j:=by omega
   obtain⟨z1,z2⟩:=C6.out h (by omega) (by omega)
   obtain⟨Z,hZ⟩:∃ Z:Nat,Z=M+m-1-h:=⟨_,rfl⟩
   rw[<-hZ] at z1 z2
   have s2:(M:Int)+m-1-h=(Z:Int):=by omega
   have s5:IntKind.i64.wrap (Z:Int)=(Z:Int):=c1u _ (by omega)
   have s3:(h:Int)<n:=by omega
   have s4:(Z:Int)<n:=by omega
   obtain⟨p1,p2⟩:=HB.out.cell (j:=h) (by have:=HLN.out;omega)
   obtain⟨q1,q2⟩:=HB.out.cell (j:=Z) (by have:=HLN.out;omega)
   obtain⟨we,we1⟩:=a1z.1 HW.out _ (a2X (t:=x++(s++(t++y))) (i:=h) (by have:=HLN.out;omega))
   obtain⟨wp,wp1⟩:=a1z.1 HW.out _ (a2X (t:=x++(s++(t++y))) (i:=Z) (by have:=HLN.out;omega))
   obtain⟨u,hu⟩:∃ u,u=kth (x++(s++(t++y))) h:=⟨_,rfl⟩
   obtain⟨v,hv⟩:∃ v,v=kth (x++(s++(t++y))) Z:=⟨_,rfl⟩
   rw[<-hu] at p1 p2 we we1
   rw[<-hv] at q1 q2 wp wp1
   have HU:=c1o hu
   have HV:=c1o hv
   have HH:=c1o hh
   have HZ:=c1o hZ
   clear hu hv hh hZ
   go_wp2_with fail
   go_still_tail 11,(by kernel_rfl)
   change wpList _ _ _ _ _ wo.drew
   go_wp2_with fail
   refine (a1W _ _ _ _ _ _ _ _ _ wp wp1 we we1).mono ?_
   rintro _ w1 ⟨rfl,hk⟩
   have HK1:=c1o (HK.out.trans ((Keeps.refl [g] wo).drew.trans (hk.mono (by simp))))
   have HB3:=c1o (HB.out.keeps ((Keeps.refl [] wo).drew.trans hk) (by simp))
   clear hk HB HK p1 p2 q1 q2 s5 s2
   by_cases hlt:v.w<u.w
   ·have e2:decide (v.w-u.w<0)=true:=by simp;omega
    go_wp2_with fail
    refine⟨⟨i,h,rfl,rfl,by omega,by omega,by omega,c1o (HTN.out.down hih hhj (fun k g1 g2 g3=>?_) ?_),HB3,HK1⟩,by simp[intOf];omega⟩
    ·exact b2X H1.out H2.out H3.out HS.out HT.out HM.out (by omega) (by omega) HC.out (by omega) g1 g2 g3
    ·show ¬(kth _ h).w<=(kth _ (M+m-1-h)).w;rw[<-HZ.out,<-HU.out,<-HV.out];omega
   ·have e2:decide (v.w-u.w<0)=false:=by simp;omega
    go_wp2_with fail
    refine⟨⟨h+1,j,by go_num,rfl,by omega,by omega,by omega,c1o (HTN.out.up hih hhj (fun k g1 g2 g3=>?_) ?_),HB3,HK1⟩,by simp[intOf];omega⟩
    ·exact b2X H1.out H2.out H3.out HS.out HT.out HM.out (by omega) (by omega) HC.out g1 g2 (by omega) g3
    ·show (kth _ h).w<=(kth _ (M+m-1-h)).w;rw[<-HZ.out,<-HU.out,<-HV.out];omega
  ·have e0:decide (i<j)=false:=by simpa using hlt
   obtain rfl:i=j:=by omega
   obtain⟨S1,S2,T1,T2,es,et,l1,l2,F1,F2⟩:=b6m H1.out H2.out H3.out HS.out HT.out HM.out (by omega) (by omega) HC.out HTN.out
   obtain⟨E,hE⟩:∃ E:Nat,E+i=M+m:=⟨M+m-i,by omega⟩
   have s1:(M:Int)+m-i=(E:Int):=by omega
   have s2:IntKind.i64.wrap ((M:Int)+m-i)=(E:Int):=by rw[c1u _ (by omega)];exact s1
   have ls':s.length=S1.length+S2.length:=by rw[es,c1n]
   have lt':t.length=T1.length+T2.length:=by rw[et,c1n]
   have a1:E=m+T1.length:=by omega
   have a2:a<=i:=by omega
   have a3:i<=M:=by omega
   have a4:M<=E:=by omega
   have a5:E<=b:=by have:=H2.out;have:=H3.out;omega
   have a6:i<=m:=by omega
   have a7:m<=E:=by omega
   have F:Hid (a=x.length/\i=x.length+S1.length/\m=i+S2.length/\M=i+T1.length/\E=m+T1.length/\b=E+T2.length/\n=b+y.length/\S1.length+S2.length+(T1.length+T2.length)<=N+1/\2<=S1.length+S2.length/\2<=T1.length+T2.length):=by
    have:=H1.out;have:=H2.out;have:=H3.out;have:=HL.out;have:=HN.out
    exact⟨by omega,by omega,by omega,by omega,by omega,by omega,by omega,by omega,by omega,by omega⟩
   have HF1:=c1o F1
   have HF2:=c1o F2
   have ES:=c1o es
   have ET:=c1o et
   have HS2:Hid (srt (S1++S2)):=by have:=HS.out;rwa [es] at this
   have HT2:Hid (srt (T1++T2)):=by have:=HT.out;rwa [et] at this
   have HB2:Hid (PB wo g (x++S1++(S2++(T1++(T2++y)))) R):=by
    have:=HB.out;rw[es,et] at this;simp only[c1p] at this ⊢;exact this
   have OK4:Hid (okW (x++(S1++(T1++(S2++(T2++y)))))):=by
    have:=HW.out;rw[es,et] at this;exact a3u (b6l x S1 S2 T1 T2 y) this
   clear hE l1 l2 ls' lt' a1 F1 F2 es et HB HTN e1 e2 e3 e4
   rcases c1t S1.length with z10|z10
   ·rcases c1t S2.length with z20|z20
    ·rcases c1t T1.length with z30|z30
     ·rcases c1t T2.length with z40|z40
      ·exfalso;have f:=F.out;omega
      ·exfalso;have f:=F.out;omega
     ·rcases c1t T2.length with z40|z40
      ·exfalso;have f:=F.out;omega
      ·exfalso;have f:=F.out;omega
    ·rcases c1t T1.length with z30|z30
     ·rcases c1t T2.length with z40|z40
      ·exfalso;have f:=F.out;omega
      ·exfalso;have f:=F.out;omega
     ·rcases c1t T2.length with z40|z40
      ·have z1:=c1r z10
       have z4:=c1r z40
       have d0:decide (i<m)=true:=by have f:=F.out;simp;omega
       have d1:decide (m<E)=true:=by have f:=F.out;simp;omega
       have d2:decide (a<i)=false:=by have f:=F.out;simp;omega
       have d3:decide (i<M)=true:=by have f:=F.out;simp;omega
       have d4:decide (M<E)=true:=by have f:=F.out;simp;omega
       have d5:decide (E<b)=false:=by have f:=F.out;simp;omega
       go_wp2_with fail
       refine (a2p _ _ (x++S1) S2 T1 (T2++y) R _ _ i m E _ HB2.out (by have f:=F.out;(try simp only[c1n]);omega) (by have f:=F.out;(try simp only[c1n]);omega) (by have f:=F.out;(try simp only[c1n]);omega) (by have f:=F.out;(try simp only[c1n]);omega) (by omega) (by omega) hsz).mono ?_
       rintro _ w2 ⟨rfl,hb,hk⟩
       have HB3:=c1o hb
       have HK3:=c1o (HK.out.trans hk)
       clear hb hk
       have HB4:Hid (PB w2 g (x++(S1++(T1++(S2++(T2++y))))) R):=by
        have:=HB3.out;rw[c1p] at this;exact this
       have HR1:Hid (SS (S1++T1) (S1++T1)):=c1o ⟨by rw[z1];exact a1l HT2.out,same.refl _⟩
       have HB5:Hid (PB w2 g (x++((S1++T1)++(S2++(T2++y)))) R):=by
        have:=HB4.out;rw[c1p S1];exact this
       have HK4:=HK3
       have HB6:Hid (PB w2 g ((x++(S1++T1))++(S2++(T2++y))) R):=by
        have:=HB5.out;rw[c1p x];exact this
       have LR:Hid ((S1++T1).length=S1.length+T1.length):=c1o (HR1.out.len.trans (c1n ..))
       have HR2:Hid (SS (S2++T2) (S2++T2)):=c1o ⟨by rw[z4];rw[c1z];exact a0W HS2.out,same.refl _⟩
       have HB7:Hid (PB w2 g ((x++(S1++T1))++((S2++T2)++y)) R):=by
        have:=HB6.out;rw[c1p S2];exact this
       have HK5:=HK4
       go_wp2_with fail
       go_end0
       refine⟨rfl,(S1++T1)++(S2++T2),?_,?_,HK5.out⟩
       ·rw[ES.out,ET.out];exact a2L HS2.out HT2.out HF1.out HF2.out HR1.out HR2.out
       ·have:=HB7.out;simp only[c1p] at this ⊢;exact this
      ·have z1:=c1r z10
       have d0:decide (i<m)=true:=by have f:=F.out;simp;omega
       have d1:decide (m<E)=true:=by have f:=F.out;simp;omega
       have d2:decide (a<i)=false:=by have f:=F.out;simp;omega
       have d3:decide (i<M)=true:=by have f:=F.out;simp;omega
       have d4:decide (M<E)=true:=by have f:=F.out;simp;omega
       have d5:decide (E<b)=true:=by have f:=F.out;simp;omega
       go_wp2_with fail
       refine (a2p _ _ (x++S1) S2 T1 (T2++y) R _ _ i m E _ HB2.out (by have f:=F.out;(try simp only[c1n]);omega) (by have f:=F.out;(try simp only[c1n]);omega) (by have f:=F.out;(try simp only[c1n]);omega) (by have f:=F.out;(try simp only[c1n]);omega) (by omega) (by omega) hsz).mono ?_
       rintro _ w2 ⟨rfl,hb,hk⟩
       have HB3:=c1o hb
       have HK3:=c1o (HK.out.trans hk)
       clear hb hk
       have HB4:Hid (PB w2 g (x++(S1++(T1++(S2++(T2++y))))) R):=by
        have:=HB3.out;rw[c1p] at this;exact this
       have HR1:Hid (SS (S1++T1) (S1++T1)):=c1o ⟨by rw[z1];exact a1l HT2.out,same.refl _⟩
       have HB5:Hid (PB w2 g (x++((S1++T1)++(S2++(T2++y)))) R):=by
        have:=HB4.out;rw[c1p S1];exact this
       have HK4:=HK3
       have HB6:Hid (PB w2 g ((x++(S1++T1))++(S2++(T2++y))) R):=by
        have:=HB5.out;rw[c1p x];exact this
       have LR:Hid ((S1++T1).length=S1.length+T1.length):=c1o (HR1.out.len.trans (c1n ..))
       go_wp2_with fail
       refine (IH.out _ _ (x++(S1++T1)) S2 T2 y R _ _ M E b HB6.out (by have f:=F.out;have:=LR.out;(try simp only[c1n] at *);omega) (a3u (a8D HR1.out.2.1) OK4.out) (by have f:=F.out;have:=LR.out;(try simp only[c1n] at *);omega) (by have f:=F.out;have:=LR.out;(try simp only[c1n] at *);omega) (by have f:=F.out;have:=LR.out;(try simp only[c1n] at *);omega) (a0W HS2.out) (a0W HT2.out) (by omega) (by omega) (by have f:=F.out;(try simp only[c1n]);omega) hsz).mono ?_
       rintro _ w4 ⟨rfl,r2,hr2,hb,hk⟩
       have HR2:=c1o hr2
       have HB7:=c1o hb
       have HK5:=c1o (HK4.out.trans hk)
       clear hb hk hr2
       go_wp2_with fail
       go_end0
       refine⟨rfl,(S1++T1)++r2,?_,?_,HK5.out⟩
       ·rw[ES.out,ET.out];exact a2L HS2.out HT2.out HF1.out HF2.out HR1.out HR2.out
       ·have:=HB7.out;simp only[c1p] at this ⊢;exact this
   ·rcases c1t S2.length with z20|z20
    ·rcases c1t T1.length with z30|z30
     ·rcases c1t T2.length with z40|z40
      ·exfalso;have f:=F.out;omega
      ·have z2:=c1r z20
       have z3:=c1r z30
       have d0:decide (i<m)=false:=by have f:=F.out;simp;omega
       have d1:decide (m<E)=false:=by have f:=F.out;simp;omega
       have d2:decide (a<i)=true:=by have f:=F.out;simp;omega
       have d3:decide (i<M)=false:=by have f:=F.out;simp;omega
       have d4:decide (M<E)=false:=by have f:=F.out;simp;omega
       have d5:decide (E<b)=true:=by have f:=F.out;simp;omega
       have HB3:Hid (PB wo g (x++S1++(T1++(S2++(T2++y)))) R):=by
        have:=HB2.out;rw[z2] at this ⊢;exact this
       have HK3:=HK
       have HB4:Hid (PB wo g (x++(S1++(T1++(S2++(T2++y))))) R):=by
        have:=HB3.out;rw[c1p] at this;exact this
       have HR1:Hid (SS (S1++T1) (S1++T1)):=c1o ⟨by rw[z3];rw[c1z];exact a1l HS2.out,same.refl _⟩
       have HB5:Hid (PB wo g (x++((S1++T1)++(S2++(T2++y)))) R):=by
        have:=HB4.out;rw[c1p S1];exact this
       have HK4:=HK3
       have HB6:Hid (PB wo g ((x++(S1++T1))++(S2++(T2++y))) R):=by
        have:=HB5.out;rw[c1p x];exact this
       have LR:Hid ((S1++T1).length=S1.length+T1.length):=c1o (HR1.out.len.trans (c1n ..))
       have HR2:Hid (SS (S2++T2) (S2++T2)):=c1o ⟨by rw[z2];exact a0W HT2.out,same.refl _⟩
       have HB7:Hid (PB wo g ((x++(S1++T1))++((S2++T2)++y)) R):=by
        have:=HB6.out;rw[c1p S2];exact this
       have HK5:=HK4
       go_wp2_with fail
       go_end0
       refine⟨rfl,(S1++T1)++(S2++T2),?_,?_,HK5.out⟩
       ·rw[ES.out,ET.out];exact a2L HS2.out HT2.out HF1.out HF2.out HR1.out HR2.out
       ·have:=HB7.out;simp only[c1p] at this ⊢;exact this
     ·rcases c1t T2.length with z40|z40
      ·exfalso;have f:=F.out;omega
      ·have z2:=c1r z20
       have d0:decide (i<m)=false:=by have f:=F.out;simp;omega
       have d1:decide (m<E)=true:=by have f:=F.out;simp;omega
       have d2:decide (a<i)=true:=by have f:=F.out;simp;omega
       have d3:decide (i<M)=true:=by have f:=F.out;simp;omega
       have d4:decide (M<E)=false:=by have f:=F.out;simp;omega
       have d5:decide (E<b)=true:=by have f:=F.out;simp;omega
       have HB3:Hid (PB wo g (x++S1++(T1++(S2++(T2++y)))) R):=by
        have:=HB2.out;rw[z2] at this ⊢;exact this
       have HK3:=HK
       have HB4:Hid (PB wo g (x++(S1++(T1++(S2++(T2++y))))) R):=by
        have:=HB3.out;rw[c1p] at this;exact this
       go_wp2_with fail
       refine (IH.out _ _ x S1 T1 (S2++(T2++y)) R _ _ a i M HB4.out (by have f:=F.out;(try simp only[c1n]);omega) OK4.out (by have f:=F.out;(try simp only[c1n]);omega) (by have f:=F.out;(try simp only[c1n]);omega) (by have f:=F.out;(try simp only[c1n]);omega) (a1l HS2.out) (a1l HT2.out) (by omega) (by omega) (by have f:=F.out;(try simp only[c1n]);omega) hsz).mono ?_
       rintro _ w3 ⟨rfl,r1,hr1,hb,hk⟩
       have HR1:=c1o hr1
       have HB5:=c1o hb
       have HK4:=c1o (HK3.out.trans hk)
       clear hb hk hr1
       have HB6:Hid (PB w3 g ((x++r1)++(S2++(T2++y))) R):=by
        have:=HB5.out;rw[c1p x];exact this
       have LR:Hid (r1.length=S1.length+T1.length):=c1o (HR1.out.len.trans (c1n ..))
       have HR2:Hid (SS (S2++T2) (S2++T2)):=c1o ⟨by rw[z2];exact a0W HT2.out,same.refl _⟩
       have HB7:Hid (PB w3 g ((x++r1)++((S2++T2)++y)) R):=by
        have:=HB6.out;rw[c1p S2];exact this
       have HK5:=HK4
       go_wp2_with fail
       go_end0
       refine⟨rfl,r1++(S2++T2),?_,?_,HK5.out⟩
       ·rw[ES.out,ET.out];exact a2L HS2.out HT2.out HF1.out HF2.out HR1.out HR2.out
       ·have:=HB7.out;simp only[c1p] at this ⊢;exact this
    ·rcases c1t T1.length with z30|z30
     ·rcases c1t T2.length with z40|z40
      ·exfalso;have f:=F.out;omega
      ·have z3:=c1r z30
       have d0:decide (i<m)=true:=by have f:=F.out;simp;omega
       have d1:decide (m<E)=false:=by have f:=F.out;simp;omega
       have d2:decide (a<i)=true:=by have f:=F.out;simp;omega
       have d3:decide (i<M)=false:=by have f:=F.out;simp;omega
       have d4:decide (M<E)=true:=by have f:=F.out;simp;omega
       have d5:decide (E<b)=true:=by have f:=F.out;simp;omega
       have HB3:Hid (PB wo g (x++S1++(T1++(S2++(T2++y)))) R):=by
        have:=HB2.out;rw[z3] at this ⊢;exact this
       have HK3:=HK
       have HB4:Hid (PB wo g (x++(S1++(T1++(S2++(T2++y))))) R):=by
        have:=HB3.out;rw[c1p] at this;exact this
       have HR1:Hid (SS (S1++T1) (S1++T1)):=c1o ⟨by rw[z3];rw[c1z];exact a1l HS2.out,same.refl _⟩
       have HB5:Hid (PB wo g (x++((S1++T1)++(S2++(T2++y)))) R):=by
        have:=HB4.out;rw[c1p S1];exact this
       have HK4:=HK3
       have HB6:Hid (PB wo g ((x++(S1++T1))++(S2++(T2++y))) R):=by
        have:=HB5.out;rw[c1p x];exact this
       have LR:Hid ((S1++T1).length=S1.length+T1.length):=c1o (HR1.out.len.trans (c1n ..))
       go_wp2_with fail
       refine (IH.out _ _ (x++(S1++T1)) S2 T2 y R _ _ M E b HB6.out (by have f:=F.out;have:=LR.out;(try simp only[c1n] at *);omega) (a3u (a8D HR1.out.2.1) OK4.out) (by have f:=F.out;have:=LR.out;(try simp only[c1n] at *);omega) (by have f:=F.out;have:=LR.out;(try simp only[c1n] at *);omega) (by have f:=F.out;have:=LR.out;(try simp only[c1n] at *);omega) (a0W HS2.out) (a0W HT2.out) (by omega) (by omega) (by have f:=F.out;(try simp only[c1n]);omega) hsz).mono ?_
       rintro _ w4 ⟨rfl,r2,hr2,hb,hk⟩
       have HR2:=c1o hr2
       have HB7:=c1o hb
       have HK5:=c1o (HK4.out.trans hk)
       clear hb hk hr2
       go_wp2_with fail
       go_end0
       refine⟨rfl,(S1++T1)++r2,?_,?_,HK5.out⟩
       ·rw[ES.out,ET.out];exact a2L HS2.out HT2.out HF1.out HF2.out HR1.out HR2.out
       ·have:=HB7.out;simp only[c1p] at this ⊢;exact this
     ·rcases c1t T2.length with z40|z40
      ·have z4:=c1r z40
       have d0:decide (i<m)=true:=by have f:=F.out;simp;omega
       have d1:decide (m<E)=true:=by have f:=F.out;simp;omega
       have d2:decide (a<i)=true:=by have f:=F.out;simp;omega
       have d3:decide (i<M)=true:=by have f:=F.out;simp;omega
       have d4:decide (M<E)=true:=by have f:=F.out;simp;omega
       have d5:decide (E<b)=false:=by have f:=F.out;simp;omega
       go_wp2_with fail
       refine (a2p _ _ (x++S1) S2 T1 (T2++y) R _ _ i m E _ HB2.out (by have f:=F.out;(try simp only[c1n]);omega) (by have f:=F.out;(try simp only[c1n]);omega) (by have f:=F.out;(try simp only[c1n]);omega) (by have f:=F.out;(try simp only[c1n]);omega) (by omega) (by omega) hsz).mono ?_
       rintro _ w2 ⟨rfl,hb,hk⟩
       have HB3:=c1o hb
       have HK3:=c1o (HK.out.trans hk)
       clear hb hk
       have HB4:Hid (PB w2 g (x++(S1++(T1++(S2++(T2++y))))) R):=by
        have:=HB3.out;rw[c1p] at this;exact this
       go_wp2_with fail
       refine (IH.out _ _ x S1 T1 (S2++(T2++y)) R _ _ a i M HB4.out (by have f:=F.out;(try simp only[c1n]);omega) OK4.out (by have f:=F.out;(try simp only[c1n]);omega) (by have f:=F.out;(try simp only[c1n]);omega) (by have f:=F.out;(try simp only[c1n]);omega) (a1l HS2.out) (a1l HT2.out) (by omega) (by omega) (by have f:=F.out;(try simp only[c1n]);omega) hsz).mono ?_
       rintro _ w3 ⟨rfl,r1,hr1,hb,hk⟩
       have HR1:=c1o hr1
       have HB5:=c1o hb
       have HK4:=c1o (HK3.out.trans hk)
       clear hb hk hr1
       have HB6:Hid (PB w3 g ((x++r1)++(S2++(T2++y))) R):=by
        have:=HB5.out;rw[c1p x];exact this
       have LR:Hid (r1.length=S1.length+T1.length):=c1o (HR1.out.len.trans (c1n ..))
       have HR2:Hid (SS (S2++T2) (S2++T2)):=c1o ⟨by rw[z4];rw[c1z];exact a0W HS2.out,same.refl _⟩
       have HB7:Hid (PB w3 g ((x++r1)++((S2++T2)++y)) R):=by
        have:=HB6.out;rw[c1p S2];exact this
       have HK5:=HK4
       go_wp2_with fail
       go_end0
       refine⟨rfl,r1++(S2++T2),?_,?_,HK5.out⟩
       ·rw[ES.out,ET.out];exact a2L HS2.out HT2.out HF1.out HF2.out HR1.out HR2.out
       ·have:=HB7.out;simp only[c1p] at this ⊢;exact this
      ·have d0:decide (i<m)=true:=by have f:=F.out;simp;omega
       have d1:decide (m<E)=true:=by have f:=F.out;simp;omega
       have d2:decide (a<i)=true:=by have f:=F.out;simp;omega
       have d3:decide (i<M)=true:=by have f:=F.out;simp;omega
       have d4:decide (M<E)=true:=by have f:=F.out;simp;omega
       have d5:decide (E<b)=true:=by have f:=F.out;simp;omega
       go_wp2_with fail
       refine (a2p _ _ (x++S1) S2 T1 (T2++y) R _ _ i m E _ HB2.out (by have f:=F.out;(try simp only[c1n]);omega) (by have f:=F.out;(try simp only[c1n]);omega) (by have f:=F.out;(try simp only[c1n]);omega) (by have f:=F.out;(try simp only[c1n]);omega) (by omega) (by omega) hsz).mono ?_
       rintro _ w2 ⟨rfl,hb,hk⟩
       have HB3:=c1o hb
       have HK3:=c1o (HK.out.trans hk)
       clear hb hk
       have HB4:Hid (PB w2 g (x++(S1++(T1++(S2++(T2++y))))) R):=by
        have:=HB3.out;rw[c1p] at this;exact this
       go_wp2_with fail
       refine (IH.out _ _ x S1 T1 (S2++(T2++y)) R _ _ a i M HB4.out (by have f:=F.out;(try simp only[c1n]);omega) OK4.out (by have f:=F.out;(try simp only[c1n]);omega) (by have f:=F.out;(try simp only[c1n]);omega) (by have f:=F.out;(try simp only[c1n]);omega) (a1l HS2.out) (a1l HT2.out) (by omega) (by omega) (by have f:=F.out;(try simp only[c1n]);omega) hsz).mono ?_
       rintro _ w3 ⟨rfl,r1,hr1,hb,hk⟩
       have HR1:=c1o hr1
       have HB5:=c1o hb
       have HK4:=c1o (HK3.out.trans hk)
       clear hb hk hr1
       have HB6:Hid (PB w3 g ((x++r1)++(S2++(T2++y))) R):=by
        have:=HB5.out;rw[c1p x];exact this
       have LR:Hid (r1.length=S1.length+T1.length):=c1o (HR1.out.len.trans (c1n ..))
       go_wp2_with fail
       refine (IH.out _ _ (x++r1) S2 T2 y R _ _ M E b HB6.out (by have f:=F.out;have:=LR.out;(try simp only[c1n] at *);omega) (a3u (a8D HR1.out.2.1) OK4.out) (by have f:=F.out;have:=LR.out;(try simp only[c1n] at *);omega) (by have f:=F.out;have:=LR.out;(try simp only[c1n] at *);omega) (by have f:=F.out;have:=LR.out;(try simp only[c1n] at *);omega) (a0W HS2.out) (a0W HT2.out) (by omega) (by omega) (by have f:=F.out;(try simp only[c1n]);omega) hsz).mono ?_
       rintro _ w4 ⟨rfl,r2,hr2,hb,hk⟩
       have HR2:=c1o hr2
       have HB7:=c1o hb
       have HK5:=c1o (HK4.out.trans hk)
       clear hb hk hr2
       go_wp2_with fail
       go_end0
       refine⟨rfl,r1++r2,?_,?_,HK5.out⟩
       ·rw[ES.out,ET.out];exact a2L HS2.out HT2.out HF1.out HF2.out HR1.out HR2.out
       ·have:=HB7.out;simp only[c1p] at this ⊢;exact this
open Go.RowKit
theorem b9U:∀ N,SymC N:=by
 intro N
 induction N with
 | zero=>intro w g x s t y R n c a m b h hn hw h1 h2 h3 hs ht ls lt hN hsz;omega
 | succ N ih=>
  intro w g x s t y R n c a m b h hn hw h1 h2 h3 hs ht ls lt hN hsz
  by_cases e1:s.length=1
  ·obtain⟨p,rfl⟩:=List.length_eq_one_iff.1 e1
   exact a8C w g x t y p R n c a m b h hn hw h1 (by simpa using h2) (by simpa using h3) ht hsz
  ·by_cases e2:t.length=1
   ·obtain⟨q,rfl⟩:=List.length_eq_one_iff.1 e2
    exact a7f w g x s y q R n c a m b h hn hw h1 h2 (by simpa using h3) e1 hs hsz
   ·exact b0e N ih w g x s t y R n c a m b h hn hw h1 h2 h3 hs ht (by omega) (by omega) hN hsz
theorem b0f (w:World) (g:Nat) (x s t y:List Pk) (R:List Value) (n c a m b:Nat) (h:PB w g (x++(s++(t++y))) R) (hn:n=(x++(s++(t++y))).length) (hw:okW (x++(s++(t++y))))
  (h1:a=x.length) (h2:m=x.length+s.length) (h3:b=x.length+s.length+t.length) (hs:srt s) (ht:srt t) (ls:0<s.length) (lt:0<t.length) (hsz:n<=1000000) :
  Calls Tryz.prog 138 #[.slice (some ⟨g,0,none⟩) n c,.int .i64 a,.int .i64 m,.int .i64 b,theCmp] w fun e w'=>e=.returned (.tuple #[])/\∃ r,SS r (s++t)/\PB w' g (x++(r++y)) R/\Keeps [g] w w':=
 b9U _ w g x s t y R n c a m b h hn hw h1 h2 h3 hs ht ls lt (c1y _) hsz
theorem b7L{b:Nat}{x y z l:List Pk}(h:same x y)(hl:l=y++z)(k:okW l):okW (x++z):=a3u (List.Perm.append_right z h.1) (hl ▸ k)
theorem b0I{b:Nat}:∀ {n:Nat} {r l:List Pk},r.length<=n->0<b->Ch b r l->same r l:=by
 intro n
 induction n with
 | zero=>
  intro r l hn hb h
  have e1:r=[]:=c1r (by omega)
  have e2:l=[]:=c1r (by have:=h.1;omega)
  subst e1 e2
  exact same.refl _
 | succ n ih=>
  intro r l hn hb h
  rw[<-c1q b r,<-c1q b l]
  refine same.app ?_ ?_
  ·have:=h.2 0
   rw[Nat.zero_mul] at this
   exact this.2
  ·by_cases hr:r=[]
   ·subst hr
    have e2:l=[]:=c1r (by have:=h.1;simpa using this.symm)
    subst e2
    exact same.refl _
   ·refine ih (by rw[c1s];have:=List.length_pos_iff.2 hr;omega) hb ⟨by rw[c1s,c1s,h.1],fun k=>?_⟩
    have:=h.2 (k+1)
    unfold pc at *
    rw[List.drop_drop,List.drop_drop]
    rwa [c1M,Nat.one_mul,Nat.add_comm] at this
theorem a9U(w:World)(g:Nat)(L:List Pk)(R:List Value)(n c:Nat)(h:PB w g L R)(hn:n=L.length)(hw:okW L)(hsz:n<=1000000) :
  Calls Tryz.prog 122 #[.slice (some ⟨g,0,none⟩) n c,.int .i64 n,theCmp] w fun e w'=>e=.returned (.tuple #[])/\∃ r,SS r L/\PB w' g r R/\Keeps [g] w w':=by
 have H:=c1o h
 have HN:=c1o hn
 have HW:=c1o hw
 clear h hn hw
 go_enter Tryz.func122,Tryz.ntmps122
 go_wp2_with fail
 go_loopw [7,8] (fun av bv wr=>∃ (A B k:Nat) (x:List Pk),A<=n/\B=A+20/\av=.int .i64 A/\bv=.int .i64 B/\Hid (A=k*20)/\Hid (Ch 20 x (L.take A))/\Hid (PB wr g (x++L.drop A) R)/\Hid (Keeps [g] w wr)) (fun _ bv _=>(n+20-intOf bv).toNat)
 case atStart=>exact⟨0,20,0,[],by omega,rfl,rfl,rfl,c1o rfl,c1o (by rw[List.take_zero];exact b8y _),H,c1o (Keeps.refl _ _)⟩
 case round=>
  clear H
  obtain⟨A,B,k,x,hA,hB',rfl,rfl,HA,HC,HB,HK⟩:=hrel
  have hx:Hid (x.length=A):=by have:=HC.out.1;rw[c1v] at this;have:=HN.out;show _=_;omega
  have OKx:Hid (okW (x++L.drop A)):=b7L (b:=0) (b0I (c1y _) (by decide) HC.out) (c1q A L).symm HW.out
  have HB2:=c1o hB'
  by_cases hlt:B<=n
  ·have e0:decide (B<=n)=true:=by simpa using hlt
   have es:Hid (L.drop A=pc L A 20++L.drop B):=by rw[hB'];exact a5S L A 20
   have lp:Hid ((pc L A 20).length=20):=by show _=_;rw[a7x];have:=HN.out;omega
   have HB3:Hid (PB wr g (x++(pc L A 20++L.drop B)) R):=by have:=HB.out;rwa [es.out] at this
   have OK3:Hid (okW (x++(pc L A 20++L.drop B))):=by have:=OKx.out;rwa [es.out] at this
   have LN:Hid (n=(x++(pc L A 20++L.drop B)).length):=by show _=_;rw[<-es.out,c1n,c1s,hx.out];have:=HN.out;omega
   clear hB' HB
   go_wp2_with fail
   refine (a3X _ _ x (pc L A 20) (L.drop B) R _ _ A B HB3.out LN.out OK3.out hx.out.symm (by have:=hx.out;have:=lp.out;have:=HB2.out;omega) hsz).mono ?_
   rintro e w1 ⟨rfl,r,hr,hb,hk⟩
   have HR:=c1o hr
   have HB4:=c1o hb
   have HK1:=c1o (HK.out.trans hk)
   clear hr hb hk
   go_wp2_with fail
   go_roundw
   case rel=>
    refine⟨B,B+20,k+1,x++r,hlt,rfl,rfl,by go_num,c1o (by have:=HA.out;have:=HB2.out;omega),c1o ?_,c1o ?_,HK1⟩
    ·rw[HB2.out,b6r]
     exact a8W HC.out (hx.out.trans HA.out) HR.out (by rw[lp.out];exact c1y _)
    ·rw[c1p];exact HB4.out
   case measure=>simp[intOf];omega
  ·have e0:decide (B<=n)=false:=by simpa using hlt
   have HB3:Hid (PB wr g (x++(L.drop A++[])) R):=by have:=HB.out;rwa [<-c1z (L.drop A)] at this
   have OK3:Hid (okW (x++(L.drop A++[]))):=by have:=OKx.out;rwa [<-c1z (L.drop A)] at this
   have lp:Hid ((L.drop A).length=n-A):=by show _=_;rw[c1s];have:=HN.out;omega
   clear hB' HB
   go_wp2_with fail
   refine (a3X _ _ x (L.drop A) [] R _ _ A n HB3.out (by have:=hx.out;have:=lp.out;rw[c1n,c1n,List.length_nil];omega) OK3.out hx.out.symm (by have:=hx.out;have:=lp.out;omega) hsz).mono ?_
   rintro e w1 ⟨rfl,r,hr,hb,hk⟩
   have HCh:Hid (Ch 20 (x++r) L):=by
    have:=a8W HC.out (hx.out.trans HA.out) hr (by rw[lp.out];have:=HB2.out;omega)
    rwa [c1q] at this
   have HB4:Hid (PB w1 g (x++r) R):=by rw[c1z] at hb;exact hb
   have HK1:=c1o (HK.out.trans hk)
   generalize x++r=r0 at *
   clear hr hb hk HK HB3 OK3 HC OKx hx HA e0 lp HB2
   obtain⟨wo,rfl⟩:∃ wo:World,wo=w1:=⟨_,rfl⟩
   go_wp2_with fail
   go_loopw [6] (fun bv wr=>∃ (bs:Nat) (r:List Pk),20<=bs/\bs<=2000000/\bv=.int .i64 bs/\Hid (Ch bs r L)/\Hid (PB wr g r R)/\Hid (Keeps [g] w wr)) (fun bv _=>(n-intOf bv).toNat)
   case atStart=>exact⟨20,r0,by omega,by omega,rfl,HCh,HB4,HK1⟩
   case round=>
    clear HCh HB4 HK1
    obtain⟨bs,r,hb1,hb2,rfl,HC,HB,HK⟩:=hrel
    obtain⟨wq,rfl⟩:∃ wq:World,wq=wr:=⟨_,rfl⟩
    have lr:Hid (r.length=n):=by have:=HC.out.1;have:=HN.out;show _=_;omega
    have HS:Hid (same r L):=b0I (c1y _) (by omega) HC.out
    by_cases hlt:bs<n
    ·have e0:decide (bs<n)=true:=by simpa using hlt
     go_wp2_with fail
     go_loopw [7,8] (fun av bv wr=>∃ (A B k:Nat) (x:List Pk),A<=n/\B=A+2*bs/\av=.int .i64 A/\bv=.int .i64 B/\Hid (A=k*(2*bs))/\Hid (Ch (2*bs) x (L.take A))/\Hid (PB wr g (x++r.drop A) R)/\Hid (Keeps [g] w wr)) (fun _ bv _=>(n+2*bs-intOf bv).toNat)
     case atStart=>exact⟨0,2*bs,0,[],by omega,by omega,rfl,by go_num,c1o (by omega),c1o (by rw[List.take_zero];exact b8y _),HB,HK⟩
     case round=>
      clear HB HK
      obtain⟨A,B,k,x,hA,hB',rfl,rfl,HA,HCx,HB,HK⟩:=hrel
      have hx:Hid (x.length=A):=by have:=HCx.out.1;rw[c1v] at this;have:=HN.out;show _=_;omega
      have HD:Hid (okW r):=a3u HS.out.1 HW.out
      have OKx:Hid (okW (x++r.drop A)):=by
       have s1:=b0I (c1y _) (by omega) HCx.out
       refine a1z.2 fun p hp=>?_
       rcases c1H.1 hp with hp|hp
       ·exact a1z.1 HW.out p (c1G (s1.1.mem_iff.1 hp))
       ·exact a1z.1 HD.out p (List.mem_of_mem_drop hp)
      have hA2:Hid (A=(2*k)*bs):=by show _=_;rw[HA.out,Nat.mul_comm 2 bs,<-Nat.mul_assoc,Nat.mul_comm 2 k,Nat.mul_assoc,Nat.mul_assoc,Nat.mul_comm bs 2]
      have S1:Hid (SS (pc r A bs) (pc L A bs)):=c0s HC.out hA2.out
      have S2:Hid (SS (pc r (A+bs) bs) (pc L (A+bs) bs)):=c0s (k:=2*k+1) HC.out (by rw[hA2.out];simp only[c1M,Nat.one_mul])
      have HB2:=c1o hB'
      by_cases hlt:B<=n
      ·have e0:decide (B<=n)=true:=by simpa using hlt
       have l1:Hid ((pc r A bs).length=bs):=by show _=_;rw[a7x];have:=lr.out;omega
       have l2:Hid ((pc r (A+bs) bs).length=bs):=by show _=_;rw[a7x];have:=lr.out;omega
       have es:Hid (r.drop A=pc r A bs++(pc r (A+bs) bs++r.drop B)):=by
        show _=_
        rw[a5S r A bs,a5S r (A+bs) bs,hB',show A+bs+bs=A+2*bs by omega]
       have HB3:Hid (PB wr g (x++(pc r A bs++(pc r (A+bs) bs++r.drop B))) R):=by have:=HB.out;rwa [es.out] at this
       have OK3:Hid (okW (x++(pc r A bs++(pc r (A+bs) bs++r.drop B)))):=by have:=OKx.out;rwa [es.out] at this
       have LN:Hid (n=(x++(pc r A bs++(pc r (A+bs) bs++r.drop B))).length):=by show _=_;rw[<-es.out,c1n,c1s,hx.out];have:=lr.out;omega
       clear hB' HB
       go_wp2_with fail
       rw[show ((A:Int)+bs)=((A+bs:Nat):Int) by omega]
       refine (b0f _ _ x (pc r A bs) (pc r (A+bs) bs) (r.drop B) R _ _ A (A+bs) B HB3.out LN.out OK3.out hx.out.symm (by have:=hx.out;have:=l1.out;omega) (by have:=hx.out;have:=l1.out;have:=l2.out;have:=HB2.out;omega) S1.out.1 S2.out.1 (by have:=l1.out;omega) (by have:=l2.out;omega) hsz).mono ?_
       rintro e w1 ⟨rfl,q,hr,hb,hk⟩
       have HR:Hid (SS q (pc L A (2*bs))):=by show SS _ _;rw[b8Q];exact a5l hr S1.out S2.out
       have HB4:=c1o hb
       have HK1:=c1o (HK.out.trans hk)
       clear hr hb hk
       go_wp2_with fail
       go_roundw
       case rel=>
        refine⟨B,B+2*bs,k+1,x++q,hlt,rfl,rfl,by go_num,c1o (by rw[c1M,Nat.one_mul,<-HA.out];exact HB2.out),c1o ?_,c1o ?_,HK1⟩
        ·rw[HB2.out,b6r]
         exact a8W HCx.out (hx.out.trans HA.out) HR.out (by rw[a7x];omega)
        ·rw[c1p];exact HB4.out
       case measure=>simp[intOf];omega
      ·have e0:decide (B<=n)=false:=by simpa using hlt
       by_cases hm:A+bs<n
       ·have e5:decide ((A:Int)+bs<n)=true:=by simp;omega
        have l1:Hid ((pc r A bs).length=bs):=by show _=_;rw[a7x];have:=lr.out;omega
        have l2:Hid ((pc r (A+bs) bs).length=n-(A+bs)):=by show _=_;rw[a7x];have:=lr.out;omega
        have es:Hid (r.drop A=pc r A bs++(pc r (A+bs) bs++[])):=by
         show _=_
         rw[a5S r A bs,a5S r (A+bs) bs,c1D (show r.length<=A+bs+bs by have:=lr.out;omega)]
        have HB3:Hid (PB wr g (x++(pc r A bs++(pc r (A+bs) bs++[]))) R):=by have:=HB.out;rwa [es.out] at this
        have OK3:Hid (okW (x++(pc r A bs++(pc r (A+bs) bs++[])))):=by have:=OKx.out;rwa [es.out] at this
        have LN:Hid (n=(x++(pc r A bs++(pc r (A+bs) bs++[]))).length):=by show _=_;rw[<-es.out,c1n,c1s,hx.out];have:=lr.out;omega
        clear hB' HB
        go_wp2_with fail
        rw[show ((A:Int)+bs)=((A+bs:Nat):Int) by omega]
        refine (b0f _ _ x (pc r A bs) (pc r (A+bs) bs) [] R _ _ A (A+bs) n HB3.out LN.out OK3.out hx.out.symm (by have:=hx.out;have:=l1.out;omega) (by have:=hx.out;have:=l1.out;have:=l2.out;omega) S1.out.1 S2.out.1 (by have:=l1.out;omega) (by have:=l2.out;omega) hsz).mono ?_
        rintro e w1 ⟨rfl,q,hr,hb,hk⟩
        have HCh:Hid (Ch (2*bs) (x++q) L):=by
         have hq:SS q (pc L A (2*bs)):=by rw[b8Q];exact a5l hr S1.out S2.out
         have hd:pc L A (2*bs)=L.drop A:=by unfold pc;rw[c1E (by rw[c1s];have:=HN.out;have:=HB2.out;omega)]
         rw[hd] at hq
         have:=a8W HCx.out (hx.out.trans HA.out) hq (by rw[c1s];have:=HN.out;have:=HB2.out;omega)
         rwa [c1q] at this
        have HB4:Hid (PB w1 g (x++q) R):=by rw[c1z] at hb;exact hb
        have HK1:=c1o (HK.out.trans hk)
        clear hr hb hk
        go_wp2_with fail
        refine⟨⟨2*bs,x++q,by omega,by omega,by go_num,HCh,HB4,HK1⟩,by simp[intOf];omega⟩
       ·have e5:decide ((A:Int)+bs<n)=false:=by simp;omega
        have HCh:Hid (Ch (2*bs) (x++r.drop A) L):=by
         have hd:∀ z:List Pk,z.length=n->pc z A bs=z.drop A:=fun z hz=>by unfold pc;rw[c1E (by rw[c1s];omega)]
         have hq:=S1.out
         rw[hd r lr.out,hd L HN.out.symm] at hq
         have:=a8W HCx.out (hx.out.trans HA.out) hq (by rw[c1s];have:=HN.out;have:=HB2.out;omega)
         rwa [c1q] at this
        clear hB'
        go_wp2_with fail
        refine⟨⟨2*bs,x++r.drop A,by omega,by omega,by go_num,HCh,HB,HK⟩,by simp[intOf];omega⟩
    ·have e0:decide (bs<n)=false:=by simpa using hlt
     go_wp2_with fail
     go_end0
     exact⟨rfl,r,b9o HC.out (by have:=HN.out;omega),HB.out,HK.out⟩
theorem b3Z(w:World)(g:Nat)(L:List Pk)(R:List Value)(n c:Nat)(h:PB w g L R)(hn:n=L.length)(hw:okW L)(hsz:n<=1000000) :
  Calls Tryz.prog 98 #[.slice (some ⟨g,0,none⟩) n c,theCmp] w fun e w'=>e=.returned (.tuple #[])/\∃ r,SS r L/\PB w' g r R/\Keeps [g] w w':=by
 have H:=c1o h
 have HN:=c1o hn
 have HW:=c1o hw
 clear h hn hw
 go_enter Tryz.func98,Tryz.ntmps98
 go_wp2_with fail
 refine (a9U _ _ L R _ _ H.out HN.out HW.out hsz).mono ?_
 rintro e w1 ⟨rfl,r,hr,hb,hk⟩
 have HR:=c1o hr
 have HB4:=c1o hb
 have HK1:=c1o hk
 clear hr hb hk
 go_wp2_with fail
 go_end0
 exact⟨rfl,r,HR.out,HB4.out,HK1.out⟩
end Go.Proofs.YtghjlpechjggjaaGreatDoor
