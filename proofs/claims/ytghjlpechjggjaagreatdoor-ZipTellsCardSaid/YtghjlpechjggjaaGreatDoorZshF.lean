import Derived.Test.YtghjlpechjggjaaGreatDoorZshE
import Derived.Test.YtghjlpechjggjaaGreatDoorZshA
import Derived.Deep.Onto
import Derived.Test.YtghjlpechjggjaaGreatDoorZshC
import Derived.Test.YtghjlpechjggjaaGreatDoorZshB
import Derived.Test.YtghjlpechjggjaaGreatDoorZshD
import Derived.StillTailTactics
import Derived.WalkMore
import Derived.BigQuiet
import Derived.Deep.RegionLaw
import Derived.Maps.OwnSet
set_option linter.defProp false
set_option linter.unnecessarySimpa false
set_option linter.unusedVariables false
set_option linter.unusedSimpArgs false
set_option linter.constructorNameAsVariable false
set_option maxRecDepth 100000
set_option maxHeartbeats 60000000
namespace Go.Proofs.YtghjlpechjggjaaGreatDoor
open Go.RowKit
private def c1n := @Lib.hid
private def c1o := @List.length_append
private def c1p := @List.getElem?_cons_succ
private def c1q := @List.getElem?_cons_zero
private def c1r := @IntWalk.i64_in
private def c1s := @Option.some.inj
private def c1t := @List.getElem?_eq_getElem
private def c1u := @List.getD_eq_getElem?_getD
private def c1v := @Int.ediv_eq_zero_of_lt
private def c1w := @Nat.le_refl
private def c1x := @Int.toNat_natCast
private def c1y := @List.append_assoc
private def c1z := @List.append_nil
private def c1A := @Int.eq_ofNat_of_zero_le
private def c1B := @rounds_succ
private def c1C := @List.getElem_mem
private def c1D := @List.length_take
private def c1E := @Below.refl
private def c1F := @List.mem_singleton
private def c1G := @Nat.zero_add
private def c1H := @Tryz.underlying90
private def c1I := @Array.getElem?_eq_some_iff
private def c1J := @List.take_of_length_le
private def c1K := @List.take_zero
private def c1L := @Array.getElem?_toList
private def c1M := @Nat.lt_succ_self
private def c1N := @List.map_append
private def c1O := @Nat.le_of_lt
private def c1P := @Nat.lt_of_lt_of_le
open Go.RowKit
def rdS(w:World)(p:Pk):List Int:=(List.range p.n).map fun j=>match p.a with
 | some a=>match w.cell? ⟨a.block,a.off+j,none⟩ with
  | some (.int _ x)=>x
  | _=>0
 | none=>0
def absW(w:World)(p:Pk):PP:=(p.w,rdS w p)
def sv(p:Pk):Value:=.slice p.a p.n p.c
def Sy(w:World)(base:Nat)(ok:Nat->Prop)(p:Pk):Prop:=0<p.n/\∃ xs,w.ownsRow base 3 1 (sv p) p.n (ints .i64 xs)/\∀ g,(sv p).ownBlock=some g->ok g
theorem a6B{w:World}{base:Nat}{p:Pk}{xs:List Int}(h:w.ownsRow base 3 1 (sv p) p.n (ints .i64 xs)):rdS w p=xs:=by
 obtain⟨A,c,hv,hr,-,-⟩:=a0B h
 unfold sv at hv
 injection hv with h1 h2 h3
 have hl:=hr.len
 refine List.ext_getElem (by simp[rdS,hl]) fun j h4 h5=>?_
 have hj:j<p.n:=by omega
 obtain⟨b,o,ha,hc⟩:=hr.at hj
 rw[<-h1] at ha
 simp only[rdS,List.getElem_map,List.getElem_range,ha,hc]
 exact a0q h5
theorem Sy.own{w:World}{base:Nat}{ok:Nat->Prop}{p:Pk}(h:Sy w base ok p):w.ownsRow base 3 1 (sv p) p.n (ints .i64 (rdS w p)):=by
 obtain⟨_,xs,h1,_⟩:=h
 rw[a6B h1];exact h1
theorem a1X{w:World}{base:Nat}{e:TypeId}{size n:Nat}{v:Value}{xs:List Value}(h:w.ownsRow base e size v n xs){g:Nat}(hg:v.ownBlock=some g):∃ cs,w.heap[g]? =some (.cells cs e (0,0)):=by
 rcases h.2 with⟨rfl,_⟩|⟨g',cap,cur,rfl,hb,hh,_⟩
 ·simp[Value.ownBlock] at hg
 ·have:g'=g:=by simpa [Value.ownBlock] using hg
  subst this
  exact⟨_,hh⟩
theorem Sy.keeps{w w':World}{base:Nat}{ok:Nat->Prop}{p:Pk}{S:List Nat}(h:Sy w base ok p)(hk:Keeps S w w')(hS:∀ g∈S,¬(ok g/\∃ cs,w.heap[g]? =some (.cells cs 3 (0,0)))):Sy w' base ok p/\rdS w' p=rdS w p:=by
 obtain⟨hp,xs,ho,hok⟩:=h
 have ho2:=a0b ho hk (fun g hg hm=>hS g hm ⟨hok g hg,a1X ho hg⟩)
 exact⟨⟨hp,xs,ho2,hok⟩,by rw[a6B ho2,a6B ho]⟩
theorem Sy.mono{w:World}{base base':Nat}{ok ok':Nat->Prop}{p:Pk}(h:Sy w base ok p)(hb:base'<=base)(ho:∀ g,base<=g->g<w.heap.size->ok g->ok' g):Sy w base' ok' p:=by
 obtain⟨hp,xs,h1,h2⟩:=h
 exact⟨hp,xs,h1.mono hb,fun g hg=>ho g (a0m h1 g hg) (a3g h1 g hg) (h2 g hg)⟩
theorem a8s{w:World}{base:Nat}{e:TypeId}{size n:Nat}{v:Value}{xs:List Value}(h:w.ownsRow base e size v n xs):∃ A c,v=.slice A n c:=by
 rcases h.2 with⟨rfl,rfl⟩|⟨g,cap,cur,rfl,_⟩
 ·exact⟨_,_,rfl⟩
 ·exact⟨_,_,rfl⟩
theorem b5I{w:World}{base:Nat}{e:TypeId}{size n:Nat}{v:Value}{xs:List Value}(h:w.ownsRow base e size v n xs):∃ A c,v=.slice A n c/\n<=c:=by
 rcases h.2 with⟨rfl,rfl⟩|⟨g,cap,cur,rfl,_,_,hc,_⟩
 ·exact⟨_,_,rfl,c1w _⟩
 ·exact⟨_,_,rfl,hc⟩
structure PR (w:World) (base:Nat) (ok:Nat->Prop) (b2:Nat) (v:Value) (L:List Pk) (X:List PP):Prop where
 own:w.ownsRow b2 154 2 v L.length (kcells L)
 sy:∀ p∈L,Sy w base ok p
 ab:L.map (absW w)=X
theorem PR.nil(w:World)(base:Nat)(ok:Nat->Prop)(b2:Nat):PR w base ok b2 (.slice none 0 0) [] []:=⟨World.ownsRow_nil _ _ _ _,by simp,rfl⟩
theorem PR.len{w:World}{base b2:Nat}{ok:Nat->Prop}{v:Value}{L:List Pk}{X:List PP}(h:PR w base ok b2 v L X):X.length=L.length:=by rw[<-h.ab,List.length_map]
theorem b9T{w w':World}{base:Nat}{ok:Nat->Prop}{L:List Pk}(h:∀ p∈L,Sy w' base ok p/\rdS w' p=rdS w p):L.map (absW w')=L.map (absW w):=
 List.map_congr_left fun p hp=>by unfold absW;rw[(h p hp).2]
theorem PR.keeps{w w':World}{base b2:Nat}{ok:Nat->Prop}{v:Value}{L:List Pk}{X:List PP}{S:List Nat}(h:PR w base ok b2 v L X)(hk:Keeps S w w')(hv:∀ g,v.ownBlock=some g->g∉S)(hS:∀ g∈S,¬(ok g/\∃ cs,w.heap[g]? =some (.cells cs 3 (0,0)))):PR w' base ok b2 v L X:=
 ⟨a0b h.own hk hv,fun p hp=>((h.sy p hp).keeps hk hS).1,by rw[b9T (fun p hp=>(h.sy p hp).keeps hk hS)];exact h.ab⟩
theorem PR.dr{w w':World}{base b2:Nat}{ok:Nat->Prop}{v:Value}{L:List Pk}{X:List PP}(h:PR w base ok b2 v L X)(hk:Keeps [] w w'):PR w' base ok b2 v L X:=h.keeps hk (by simp) (by simp)
theorem PR.mono{w:World}{base b2:Nat}{ok ok':Nat->Prop}{v:Value}{L:List Pk}{X:List PP}(h:PR w base ok b2 v L X)(ho:∀ g,base<=g->g<w.heap.size->ok g->ok' g):PR w base ok' b2 v L X:=
 ⟨h.own,fun p hp=>(h.sy p hp).mono (c1w _) ho,h.ab⟩
theorem c0N{w:World}{r L:List Pk}(h:SS r L):r.map (absW w)=sortP (L.map (absW w)):=by
 refine b2Q Prod.fst ?_ ⟨h.2.1.map _,fun v=>?_⟩
 ·unfold Srt
  rw[List.pairwise_map]
  exact h.1
 ·have:=h.2.2 v
  unfold ofW at this
  rw[List.filter_map,List.filter_map]
  exact congrArg (List.map (absW w)) this
theorem c0B{w:World}{L:List Pk}(h:∀ x∈L.map (absW w),0<=x.1/\x.1<=100000000000000000):okW L:=a1z.2 fun p hp=>h (absW w p) (List.mem_map_of_mem hp)
theorem PR.sort{w:World}{base b2:Nat}{ok:Nat->Prop}{v:Value}{L:List Pk}{X:List PP}(h:PR w base ok b2 v L X)(hp:0<L.length)(hn:L.length<=1000000)(hw:∀ x∈X,0<=x.1/\x.1<=100000000000000000) :
  Calls Tryz.prog 98 #[v,theCmp] w fun e w'=>e=.returned (.tuple #[])/\∃ g r,v.ownBlock=some g/\b2<=g/\PR w' base ok b2 v r (sortP X)/\Keeps [g] w w'/\r.length=L.length/\∃ cs,w.heap[g]? =some (.cells cs 154 (0,0)):=by
 obtain⟨g,c,R,rfl,hl,hg,hb,hback⟩:=c0F h.own hp
 refine (b3Z w g L R _ c hb hl.symm (c0B (w:=w) (by rw[h.ab];exact hw)) (by omega)).mono ?_
 rintro e w' ⟨rfl,r,hr,hb',hk⟩
 have hS:∀ x∈[g],¬(ok x/\∃ cs,w.heap[x]? =some (.cells cs 3 (0,0))):=by
  intro x hx
  rw[c1F.1 hx]
  rintro ⟨_,cs,hc⟩
  rw[show w.heap[g]? =some (.cells (kcells L++R).toArray 154 (0,0)) from hb] at hc
  injection hc with hc
  injection hc with _ h2
  exact absurd h2 (by decide)
 have hsy:∀ p∈r,Sy w' base ok p/\rdS w' p=rdS w p:=fun p hp'=>(h.sy p (hr.mem.1 hp')).keeps hk hS
 refine⟨rfl,g,r,rfl,hg,⟨?_,fun p hp'=>(hsy p hp').1,?_⟩,hk,hr.len,_,hb⟩
 ·have:=hback w' r hb' hr.len
  rw[hr.len];exact this
 ·rw[b9T hsy,c0N hr,h.ab]
def ob(v:Value):List Nat:=v.ownBlock.toList
theorem a6l{v:Value}{g:Nat}:g∈ob v↔v.ownBlock=some g:=by unfold ob;cases v.ownBlock<;>simp[eq_comm]
theorem a5W{w w':World}{v:Value}(h:w.grownBy w' v.ownBlock):Keeps (ob v) w w':=
 (Keeps.refl (ob v) w).grown h (fun k hk=>Or.inl (a6l.2 hk))
theorem Sy.grown{w w':World}{base b2 n:Nat}{ok:Nat->Prop}{p:Pk}{v:Value}{L:List Pk}(h:Sy w base ok p)(hv:w.ownsRow b2 154 2 v n (kcells L))(hg:w.grownBy w' v.ownBlock):Sy w' base ok p/\rdS w' p=rdS w p:=by
 refine h.keeps (a5W hg) fun g hgm=>?_
 rintro ⟨_,cs,hc⟩
 obtain⟨cs',hc'⟩:=a1X hv (a6l.1 hgm)
 rw[hc'] at hc
 injection hc with hc
 injection hc with _ h2
 exact absurd h2 (by decide)
theorem PR.cells{w:World}{base b2:Nat}{ok:Nat->Prop}{v:Value}{L:List Pk}{X:List PP}(h:PR w base ok b2 v L X)(hp:0<L.length) :
  ∃ g c,v=.slice (some ⟨g,0,none⟩) L.length c/\b2<=g/\g<w.heap.size/\v.ownBlock=some g/\∀ j,j<L.length->w.cell? ⟨g,j*2,none⟩=some (.int .i64 (kth L j).w)/\w.cell? ⟨g,j*2+1,none⟩=some (.slice (kth L j).a (kth L j).n (kth L j).c):=by
 obtain⟨g,c,rfl,hg,hb,hc⟩:=a6r h.own hp (by decide)
 refine⟨g,c,rfl,hb,hg,rfl,fun j hj=>?_⟩
 have:=a7s L [] j hj
 rw[c1z] at this
 exact⟨hc _ _ this.1,hc _ _ this.2⟩
theorem PR.ath{w:World}{base b2:Nat}{ok:Nat->Prop}{v:Value}{L:List Pk}{X:List PP}(h:PR w base ok b2 v L X){j:Nat}(hj:j<L.length):(X.getD j (0,[]))=absW w (kth L j):=by
 rw[<-h.ab,c1u,List.getElem?_map,c1t hj,a3Z hj];rfl
theorem Sy.reads{w:World}{base:Nat}{ok:Nat->Prop}{p:Pk}(h:Sy w base ok p):RI .i64 w p.a p.n (rdS w p)/\∃ g,p.a=some ⟨g,0,none⟩/\base<=g/\g<w.heap.size/\ok g:=by
 have ho:=h.own
 obtain⟨g,c,hv,hg,hb,hc⟩:=a6r ho h.1 (by decide)
 obtain⟨A,c',hv',hr,-,-⟩:=a0B ho
 unfold sv at hv hv'
 injection hv with h1 h2 h3
 injection hv' with h4 h5 h6
 subst h4
 obtain⟨_,xs,ho2,hok⟩:=h
 exact⟨hr,g,h1,hb,hg,hok g (by unfold sv;rw[h1];rfl)⟩
theorem b1r{w:World}{base b2:Nat}{ok:Nat->Prop}{v:Value}{L:List Pk}{X:List PP}(h:PR w base ok b2 v L X):∀ g∈ob v,¬(ok g/\∃ cs,w.heap[g]? =some (.cells cs 3 (0,0))):=by
 rintro g hg ⟨_,cs,hc⟩
 obtain⟨cs',hc'⟩:=a1X h.own (a6l.1 hg)
 rw[hc'] at hc
 injection hc with hc
 injection hc with _ h2
 exact absurd h2 (by decide)
theorem PR.other{w w':World}{base b2 b3:Nat}{ok:Nat->Prop}{v v':Value}{L L':List Pk}{X X':List PP}(h:PR w base ok b2 v L X)(h':PR w base ok b3 v' L' X')(hk:Keeps (ob v') w w')(hne:∀ g,v.ownBlock=some g->g<b3):PR w' base ok b2 v L X:=
 h.keeps hk (fun g hg hm=>by have:=a0m h'.own g (a6l.1 hm);have:=hne g hg;omega) (b1r h')
theorem PR.snoc {w w2 w3:World} {base b2:Nat} {ok:Nat->Prop} {v v':Value} {L:List Pk} {X:List PP} {p:Pk} (h:PR w base ok b2 v L X) (hk:Keeps [] w w2) (hp:Sy w2 base ok p)
  (ho:w3.ownsRow b2 154 2 v' (L.length+1) (kcells (L++[p]))) (hg:w2.grownBy w3 v.ownBlock):PR w3 base ok b2 v' (L++[p]) (X++[absW w2 p]):=by
 have h2:=h.dr hk
 refine⟨by rw[c1o];exact ho,fun q hq=>?_,?_⟩
 ·rcases List.mem_append.1 hq with hq|hq
  ·exact ((h2.sy q hq).grown h2.own hg).1
  ·rw[c1F.1 hq];exact (hp.grown h2.own hg).1
 ·rw[c1N,<-h2.ab,b9T (fun q hq=>(h2.sy q hq).grown h2.own hg)]
  congr 1
  show [absW w3 p]=[absW w2 p]
  unfold absW;rw[(hp.grown h2.own hg).2]
theorem a4L{w:World}{base g n:Nat}{xs:List Int}(h:Blk w g 3 (ints .i64 xs))(hl:xs.length=n)(hb:base<=g)(hn:n<=1000000000):w.ownsRow base 3 1 (.slice (some ⟨g,0,none⟩) n n) n (ints .i64 xs):=
 ⟨by simp[ints,hl],.inr ⟨g,n,_,rfl,hb,h,c1w _,by unfold maxLen;omega,by simp[ints,hl],by rw[List.toList_toArray,c1J (by simp[ints,hl])]⟩⟩
theorem c0O{w:World}{base b:Nat}{ok:Nat->Prop}{x k:Int}(hb:base<=b)(h:w.heap[b]? =some (.cells #[.int .i64 k] 3 (0,0)))(ho:ok b):Sy w base ok ⟨x,some ⟨b,0,none⟩,1,1⟩/\absW w ⟨x,some ⟨b,0,none⟩,1,1⟩=(x,[k]):=by
 have o:w.ownsRow base 3 1 (sv ⟨x,some ⟨b,0,none⟩,1,1⟩) 1 (ints .i64 [k]):=⟨rfl,.inr ⟨b,1,#[.int .i64 k],rfl,hb,h,c1w _,by unfold maxLen;omega,rfl,rfl⟩⟩
 exact⟨⟨Nat.one_pos,[k],o,fun g hg=>by have:b=g:=(by simpa [sv,Value.ownBlock] using hg);subst this;exact ho⟩,by unfold absW;rw[a6B o]⟩
end Go.Proofs.YtghjlpechjggjaaGreatDoor
namespace Go.Proofs.YtghjlpechjggjaaGreatDoor
open Go.RowKit
def a5F(w:World)(r:List Int×Int)(e:Ending)(w':World):Prop:=
 ∃ v,e=.returned (.tuple #[v,.int .i64 r.2])/\w'.ownsRow w.heap.size 3 1 v r.1.length (ints .i64 r.1)/\Below w.heap.size w w'
theorem a1t(w w':World)(r:List Int×Int)(e:Int)(hr:r=([],e))(h:Below w.heap.size w w'):a5F w r (.returned (.tuple #[.slice none 0 0,.int .i64 e])) w':=by
 subst hr
 exact⟨_,rfl,World.ownsRow_nil _ _ _ _,h⟩
theorem a4J{w w':World}{r:List Int×Int}{v:Value}{n:Nat}{ls:List Int}(hr:r=(ls,0))(hl:ls.length=n)(ho:w'.ownsRow w.heap.size 3 1 v n (ints .i64 ls))(h:Below w.heap.size w w'):a5F w r (.returned (.tuple #[v,.int .i64 0])) w':=by
 subst hr hl
 exact⟨_,rfl,ho,h⟩
theorem b5p(w:World)(A:Option Addr)(n c:Nat)(l:List Int)(most:Int)(hl:l.length=n)(hb:n=0∨288<n∨most<1∨15<most) :
  Calls Tryz.prog 68 #[.slice A n c,.int .i64 most] w (a5F w (limF l most)):=by
 have HR:Hid (limF l most=([],1)):=by show _=_;rw[limF,if_pos (by omega)]
 by_cases h0:n=0
 ·subst h0
  clear hb hl
  go_enter Tryz.func68,Tryz.ntmps68
  go_wp2_with fail
  go_ret2
  exact a1t _ _ _ _ HR.out (c1E _ _)
 ·have e0:((n:Int)==0)=false:=by simp;omega
  by_cases h1:288<n
  ·have e1:decide (288<n)=true:=by simpa using h1
   clear hb hl
   go_enter Tryz.func68,Tryz.ntmps68
   go_wp2_with fail
   go_ret2
   exact a1t _ _ _ _ HR.out (c1E _ _)
  ·have e1:decide (288<n)=false:=by simpa using h1
   by_cases h2:most<1
   ·have e2:decide (most<1)=true:=by simpa using h2
    clear hb hl
    go_enter Tryz.func68,Tryz.ntmps68
    go_wp2_with fail
    go_ret2
    exact a1t _ _ _ _ HR.out (c1E _ _)
   ·have e2:decide (most<1)=false:=by simpa using h2
    have e3:decide (15<most)=true:=by simp;omega
    clear hb hl
    go_enter Tryz.func68,Tryz.ntmps68
    go_wp2_with fail
    go_ret2
    exact a1t _ _ _ _ HR.out (c1E _ _)
theorem b4C(l:List Int)(k:Nat)(h:k<l.length):(l.take (k+1)).any a0w=((l.take k).any a0w||a0w (nth l k)):=by
 rw[a0E l k h,List.any_append];simp
theorem b1a(l:List Int)(k:Nat)(h:k<l.length):leavesF (l.take (k+1)) 0=leavesF (l.take k) 0++if 0<nth l k then [(nth l k,[(k:Int)])] else []:=by
 rw[a0E l k h,a2n]
 simp[c1D,Nat.min_eq_left (c1O h)]
theorem b2h(l:List Int)(k:Nat)(h:k<l.length)(hb:a0w (nth l k)=true):l.any a0w=true:=by
 rw[List.any_eq_true]
 rw[a0q h] at hb
 exact⟨_,c1C h,hb⟩
theorem b3F(w:World)(A:Option Addr)(n c:Nat)(l:List Int)(m:Nat)(hl:RI .i64 w A n l)(h0:0<n)(h1:n<=288)(h2:1<=m)(h3:m<=15) :
  Calls Tryz.prog 68 #[.slice A n c,.int .i64 m] w (a5F w (limF l m)):=by
 have hll:=hl.len
 have HL:=c1n hl
 have HLL:=c1n hll
 have HR:Hid (limF l m=if l.any a0w then ([],1) else if 2^m<(leavesF l 0).length then ([],30) else (limLens l m,0)):=by
  show _=_;rw[limF,if_neg (by omega)];simp
 clear hl hll
 have e0:((n:Int)==0)=false:=by simp;omega
 have e1:decide (288<n)=false:=by simp;omega
 have e2:decide ((m:Int)<1)=false:=by simp;omega
 have e3:decide ((15:Int)<m)=false:=by simp;omega
 go_enter Tryz.func68,Tryz.ntmps68
 go_wp2_with fail
 clear e0 e1 e2 e3
 go_loopw [6,36] (fun v i wr=>∃ (k:Nat) (L:List Pk),k<=n/\i=.int .i64 k/\L.length<=k/\Hid ((l.take k).any a0w=false)/\Hid (PR wr w.heap.size (fun _=>True) w.heap.size v L (leavesF (l.take k) 0))/\Hid (Below w.heap.size w wr)) (fun _ i _=>n-(intOf i).toNat)
 case atStart=>exact⟨0,[],by omega,rfl,by simp,c1n (by simp),c1n (PR.nil _ _ _ _),c1n (c1E _ _)⟩
 case round=>
  obtain⟨k,L,hk,rfl,hLk,HA,HP,HW⟩:=hrel
  by_cases hlt:k<n
  ·obtain⟨b,o,rfl,hc⟩:=HL.out.at hlt
   have hc:=(Keeps.of_below (S:=[]) HW.out).cell (by simp) hc
   have as1:=b4C l k (by have:=HLL.out;omega)
   have ls:=b1a l k (by have:=HLL.out;omega)
   rw[HA.out] at as1
   have AS:=c1n as1
   have LS:=c1n ls
   clear as1 ls
   by_cases hneg:nth l k<0
   ·have e1:decide (nth l k<0)=true:=by simpa using hneg
    have HR2:Hid (limF l m=([],1)):=by show _=_;rw[HR.out,if_pos (b2h l k (by have:=HLL.out;omega) (by simp[a0w];omega))]
    go_wp2_with fail
    go_ret2
    exact a1t _ _ _ _ HR2.out HW.out
   ·have e1:decide (nth l k<0)=false:=by simpa using hneg
    by_cases hbig:1000000000000<nth l k
    ·have e2:decide (1000000000000<nth l k)=true:=by simpa using hbig
     have HR2:Hid (limF l m=([],1)):=by show _=_;rw[HR.out,if_pos (b2h l k (by have:=HLL.out;omega) (by simp[a0w];omega))]
     go_wp2_with fail
     go_ret2
     exact a1t _ _ _ _ HR2.out HW.out
    ·have e2:decide (1000000000000<nth l k)=false:=by simpa using hbig
     have HB:Hid ((l.take (k+1)).any a0w=false):=by show _=_;rw[AS.out];simp[a0w];omega
     by_cases hz:0<nth l k
     ·have e3:decide (0<nth l k)=true:=by simpa using hz
      have hsz:=HW.out.size
      have HO:=c1n HP.out.own
      obtain⟨vA,vc,rfl⟩:=a8s HO.out
      go_wp2_with (at_builtin;refine b6Q rfl (.tmp 49) (.tmp 54) rfl w.heap.size _ L.length L rfl ?c0 (wr.heap.size+1) ⟨nth l k,some ⟨wr.heap.size,0,none⟩,1,1⟩ ?c5 ?c1 ?c2 ?c3 ?c4 ?_)
      case c0=>exact a0b HO.out (((Keeps.refl [] wr).alloc _).alloc _) (by simp)
      case c3=>omega
      case c4=>omega
      intro v' w1 h1 hg
      have hk2:Keeps [] wr ((wr.alloc (.cells #[.int .i64 k] 3)).alloc (.cells #[.int .i64 (nth l k),.slice (some ⟨wr.heap.size,0,none⟩) 1 1] 154)):=((Keeps.refl [] wr).alloc _).alloc _
      obtain⟨hs1,hs2⟩:=c0O (w:=(wr.alloc (.cells #[.int .i64 k] 3)).alloc (.cells #[.int .i64 (nth l k),.slice (some ⟨wr.heap.size,0,none⟩) 1 1] 154)) (x:=nth l k) (k:=(k:Int)) (ok:=fun _=>True) hsz (Blk.alloc (a0d wr 3 [.int .i64 k]) _) trivial
      have hp2:=HP.out.snoc hk2 hs1 h1 hg
      rw[hs2] at hp2
      have HP2:Hid (PR w1 w.heap.size (fun _=>True) w.heap.size v' (L++[⟨nth l k,some ⟨wr.heap.size,0,none⟩,1,1⟩]) (leavesF (l.take (k+1)) 0)):=by
       show PR _ _ _ _ _ _ _;rw[LS.out,if_pos hz];exact hp2
      have HW2:=c1n (((HW.out.alloc hsz _).alloc (by simp;omega) _).grown hg (by simp;omega) (fun g hg=>a0m HO.out g hg))
      clear h1 hg hk2 hs1 hs2 hp2
      go_wp2_with fail
      go_roundw
      case rel=>exact⟨k+1,_,by omega,by go_num,by rw[c1o];simp;omega,HB,HP2,HW2⟩
      case measure=>simp[intOf];omega
     ·have e3:decide (0<nth l k)=false:=by simpa using hz
      go_wp2_with fail
      go_roundw
      case rel=>exact⟨k+1,L,by omega,by go_num,by omega,HB,by rw[LS.out,if_neg hz,c1z];exact HP,HW⟩
      case measure=>simp[intOf];omega
  ·obtain rfl:k=n:=by omega
   have htk:l.take k=l:=c1J (by have:=HLL.out;omega)
   rw[htk] at HA HP
   obtain⟨b1,b2,b3,b4,b5⟩:=a2Z l HA.out 0
   have HR2:Hid (limF l m=if 2^m<(leavesF l 0).length then ([],30) else (limLens l m,0)):=by show _=_;rw[HR.out,if_neg (by rw[HA.out];simp)]
   have hlen:=HP.out.len
   obtain⟨P,hP⟩:∃ P:Nat,P=2^m:=⟨_,rfl⟩
   have hP2:(2:Int)^m=(P:Int):=by rw[hP];simp
   have hPb:P<=32768:=by rw[hP];exact Nat.pow_le_pow_right (by decide) h3
   have HPP:=c1n hP
   have HLEN:=c1n hlen
   have B1:=c1n b1
   have B2:=c1n b2
   have B3:=c1n b3
   have B5:=c1n b5
   clear hP hlen b1 b2 b3 b5 htk HR
   obtain⟨vA,vc,rfl⟩:=a8s HP.out.own
   by_cases hov:P<L.length
   ·have e1:decide (P<L.length)=true:=by simpa using hov
    have HR3:Hid (limF l m=([],30)):=by show _=_;rw[HR2.out,if_pos (by rw[HLEN.out,<-HPP.out];exact hov)]
    go_wp2_with fail
    go_ret2
    exact a1t _ _ _ _ HR3.out HW.out
   ·have e1:decide (P<L.length)=false:=by simpa using hov
    have HR3:Hid (limF l m=(limLens l m,0)):=by show _=_;rw[HR2.out,if_neg (by rw[HLEN.out,<-HPP.out];exact hov)]
    have hmk:=fun w=>a1c (P:=Tryz.prog) w 90 3 .i64 8 c1H a1r (k:Int) k rfl (by omega) (by omega)
    clear HR2
    by_cases hl1:L.length=1
    ·have e2:((L.length:Int)==1)=true:=by simp;omega
     have e3:decide (L.length<2)=true:=by simp;omega
     obtain⟨g,c',hv,hg,hg2,hob,hcell⟩:=HP.out.cells (by omega)
     injection hv with hv1 hv2 hv3
     subst hv1
     obtain⟨p1,p2⟩:=hcell 0 (by omega)
     have hx:=HP.out.ath (j:=0) (by omega)
     have hsy:=HP.out.sy (kth L 0) (a2X (by omega))
     obtain⟨hri,gs,hpa,hgs,hgs2,-⟩:=hsy.reads
     have hpn:=hsy.1
     generalize kth L 0=p at *
     obtain⟨pw,pa,pn,pcap⟩:=p
     dsimp only at hpa hpn p1 p2 hri
     subst hpa
     have hs0:=hri.cell gs 0 rfl 0 hpn
     have hsl:leavesF l 0=[((pw,rdS wr ⟨pw,some ⟨gs,0,none⟩,pn,pcap⟩):PP)]:=by
      have hlen:=HLEN.out
      match hLL:leavesF l 0,hlen with
      | [x],_=>rw[hLL] at hx;rw[show x=_ from hx];rfl
      | [],h=>simp at h;omega
      | x::y::r,h=>simp at h;omega
     have hB3:=B3.out
     have hB5:=B5.out
     rw[hsl] at hB3 hB5
     have hrl:(rdS wr ⟨pw,some ⟨gs,0,none⟩,pn,pcap⟩).length=1:=by simpa [sumS] using hB3
     have hrd:rdS wr ⟨pw,some ⟨gs,0,none⟩,pn,pcap⟩=[nth (rdS wr ⟨pw,some ⟨gs,0,none⟩,pn,pcap⟩) 0]:=by
      match hm:rdS wr ⟨pw,some ⟨gs,0,none⟩,pn,pcap⟩,hrl with
      | [s],_=>rfl
     have hsr:=hB5 _ (c1F.2 rfl) (nth (rdS wr ⟨pw,some ⟨gs,0,none⟩,pn,pcap⟩) 0) (by rw[hrd];simp[nth])
     obtain⟨s,hs⟩:=c1A (show 0<=nth (rdS wr ⟨pw,some ⟨gs,0,none⟩,pn,pcap⟩) 0 by omega)
     rw[hs] at hrd hsr hs0
     have hsk:s<k:=by have:=HLL.out;omega
     have HRES:Hid (limLens l m=cntF k ([]++[(s:Int)])):=by
      show _=_
      unfold limLens
      rw[hsl,hrd,HLL.out]
      rfl
     have p2':=((Keeps.refl [] wr).alloc (.cells (ints .i64 (List.replicate k 0)).toArray 3)).cell (by simp) p2
     have hs0':=((Keeps.refl [] wr).alloc (.cells (ints .i64 (List.replicate k 0)).toArray 3)).cell (by simp) hs0
     have hbz:=a0d wr 3 (ints .i64 (List.replicate k 0))
     have c0:(wr.alloc (.cells (ints .i64 (List.replicate k 0)).toArray 3)).cell? ⟨wr.heap.size,s,none⟩=some (.int .i64 0):=by rw[hbz.cell,a0e];simp[hsk]
     have f0:=hbz.frozen s
     have HBS:=c1n (a0d wr 3 ((ints .i64 (List.replicate k 0)).set s (.int .i64 1)))
     clear hcell p1 p2 hx hsy hri hs0 hsl hB3 hB5 hrl hrd hsr hs hbz
     have HBW:=c1n (HW.out.alloc HW.out.size (.cells ((ints .i64 (List.replicate k 0)).set s (.int .i64 1)).toArray 3))
     have hwz:=HW.out.size
     go_wp2_with fail
     go_ret2
     refine a4J (v:=.slice (some ⟨wr.heap.size,0,none⟩) k k) HR3.out (by rw[HRES.out,a0Y]) ?_ HBW.out
     have hz:cntF k ([]++[(s:Int)])=(List.replicate k 0).set s 1:=by
      rw[a2w k [] s hsk,a3o]
      congr 1
      simp[nth,hsk]
     rw[HRES.out,hz]
     refine a4L ?_ (by simp) hwz (by omega)
     rw[<-show (ints .i64 (List.replicate k 0)).set s (.int .i64 1)=ints .i64 ((List.replicate k 0).set s 1) by simp[ints,List.map_set]]
     exact HBS.out
    ·have e2:((L.length:Int)==1)=false:=by simp;omega
     by_cases hl2:L.length<2
     ·have e3:decide (L.length<2)=true:=by simpa using hl2
      have hz:Hid (limLens l m=List.replicate k 0):=by
       show _=_
       have h0:leavesF l 0=[]:=List.eq_nil_of_length_eq_zero (by rw[HLEN.out];omega)
       unfold limLens
       rw[h0,HLL.out]
       exact a3o k
      have HBW:=c1n (HW.out.alloc HW.out.size (.cells (ints .i64 (List.replicate k 0)).toArray 3))
      have HBS:=c1n (a0d wr 3 (ints .i64 (List.replicate k 0)))
      have hwz:=HW.out.size
      go_wp2_with fail
      go_ret2
      refine a4J (v:=.slice (some ⟨wr.heap.size,0,none⟩) k k) HR3.out (by rw[hz.out,List.length_replicate]) ?_ HBW.out
      rw[hz.out]
      exact a4L HBS.out (by simp) hwz (by omega)
     ·have e3:decide (L.length<2)=false:=by simpa using hl2
      have hwz:=HW.out.size
      have HP1:=c1n ((HP.out.mono (ok':=fun g=>g≠wr.heap.size) (fun g _ hg _=>Nat.ne_of_lt hg)).dr ((Keeps.refl [] wr).alloc (.cells (ints .i64 (List.replicate k 0)).toArray 3)))
      have HBZ:=c1n (a0d wr 3 (ints .i64 (List.replicate k 0)))
      have HBW:=c1n (HW.out.alloc HW.out.size (.cells (ints .i64 (List.replicate k 0)).toArray 3))
      have hvlt:=c1n (fun g (h:(Value.slice vA L.length vc).ownBlock=some g)=>a3g HP.out.own g h)
      have B2':Hid (sumW (leavesF l 0)<=288000000000000):=by have:=B2.out;have:=HLL.out;show _<=_;omega
      have B3':Hid (sumS (leavesF l 0)<=288):=by have:=B3.out;have:=HLL.out;show _<=_;omega
      have HKP:Hid (L.length<=2^m):=by show _<=_;rw[<-HPP.out];omega
      go_wp2_with fail
      refine (HP1.out.sort (by omega) (by omega) (b9B B1.out B2'.out)).mono ?_
      rintro _ w2 ⟨rfl,g,r,hvg,hbg,hpr,hkp,hrl,-⟩
      have hgk:g<wr.heap.size:=hvlt.out g hvg
      have HP2:=c1n hpr
      have HBZ2:=c1n (HBZ.out.keeps hkp (by simp;omega))
      have HBW2:Hid (Below w.heap.size w w2):=c1n (((Keeps.of_below HBW.out).then hkp (fun x hx=>Or.inr (by simp at hx;omega)):Keeps [] w w2).below)
      have hz2:wr.heap.size<w2.heap.size:=HBZ2.out.lt
      have HGK:=c1n hgk
      have HVG:=c1n hvg
      have HRL:=c1n hrl
      clear hpr hkp HP HP1 HBZ HBW hrl hvg hbg hvlt HW HA
      generalize hgo:wr.heap.size=go at *
      obtain⟨wo,rfl⟩:∃ wo:World,wo=w2:=⟨_,rfl⟩
      go_wp2_with fail
      go_loopw [11,84] (fun v i wx=>∃ (t:Nat) (Ll:List Pk),t<=m/\i=.int .i64 t/\Hid (PR wx w.heap.size (fun x=>x≠go) w.heap.size v Ll (levelF (sortP (leavesF l 0)) t))/\Hid (PR wx w.heap.size (fun x=>x≠go) w.heap.size (.slice vA L.length vc) r (sortP (leavesF l 0)))/\Hid (Blk wx go 3 (ints .i64 (List.replicate k 0)))/\Hid (Below w.heap.size w wx)/\Hid (wo.heap.size<=wx.heap.size)) (fun _ i _=>m-(intOf i).toNat)
      case atStart=>exact⟨0,[],by omega,rfl,c1n (PR.nil _ _ _ _),HP2,HBZ2,HBW2,c1n (c1w _)⟩
      case round=>
       obtain⟨t,Ll,ht,rfl,HPl,HPv,HBZ,HBW,HWO⟩:=hrel
       obtain⟨wu,rfl⟩:∃ wu:World,wu=wr:=⟨_,rfl⟩
       obtain⟨lA,lc,rfl,hlc⟩:=b5I HPl.out.own
       have hlvl:=HPl.out.len
       by_cases hlt:t<m
       ·have hlb:Ll.length<=576:=by
         have:=(a8o (sortP (leavesF l 0)) (a9Q B1.out) t).2.2.2
         rw[a1p,HLEN.out] at this
         omega
        have HLVL:=c1n hlvl
        clear hlvl
        go_wp2_with fail
        refine (b0J _ _ _ _ r (by have:=HPv.out.own;rwa [HRL.out] at this) (by omega) (by omega)).mono ?_
        rintro _ w3 ⟨v3,rfl,ho3,hb3⟩
        have K3:=c1n (Keeps.of_below (S:=[]) hb3)
        have hz3:=hb3.size
        have HPl3:=c1n (HPl.out.dr K3.out)
        have HPv3:=c1n (HPv.out.dr K3.out)
        have HBZ3:=c1n (HBZ.out.keeps K3.out (by simp))
        have HBW3:=c1n (HBW.out.trans (hb3.mono HBW.out.size))
        have HPn:Hid (PR w3 w.heap.size (fun x=>x≠go) wu.heap.size v3 r (sortP (leavesF l 0)++(pairsF (levelF (sortP (leavesF l 0)) t)).take 0)):=by
         rw[c1K,c1z]
         exact⟨by rw[HRL.out];exact ho3,HPv3.out.sy,HPv3.out.ab⟩
        have HLO:=c1n (fun x (h:(Value.slice lA Ll.length lc).ownBlock=some x)=>a3g HPl.out.own x h)
        have HLV:=c1n (fun x (h:(Value.slice vA L.length vc).ownBlock=some x)=>a3g HPv.out.own x h)
        have HGO:=c1n HBZ.out.lt
        have hbu:=HBW.out.size
        have HWQ:Hid (wo.heap.size<=w3.heap.size):=c1n (Nat.le_trans HWO.out hz3)
        clear ho3 hb3 HPl HPv HBZ HBW
        obtain⟨wq,rfl⟩:∃ wq:World,wq=w3:=⟨_,rfl⟩
        go_wp2_with fail
        go_loopw [12,13] (fun v i wx=>∃ (I j:Nat) (Lc:List Pk),i=.int .i64 I/\I<=600/\Lc.length<=1000/\Hid (I=2*j)/\Hid (PR wx w.heap.size (fun x=>x≠go) wu.heap.size v Lc (sortP (leavesF l 0)++(pairsF (levelF (sortP (leavesF l 0)) t)).take j))/\Hid (PR wx w.heap.size (fun x=>x≠go) w.heap.size (.slice lA Ll.length lc) Ll (levelF (sortP (leavesF l 0)) t))/\Hid (PR wx w.heap.size (fun x=>x≠go) w.heap.size (.slice vA L.length vc) r (sortP (leavesF l 0)))/\Hid (Blk wx go 3 (ints .i64 (List.replicate k 0)))/\Hid (Below w.heap.size w wx)/\Hid (wq.heap.size<=wx.heap.size)) (fun _ i _=>(1000-intOf i).toNat)
        case atStart=>exact⟨0,0,r,rfl,by omega,by rw[HRL.out];omega,c1n rfl,HPn,HPl3,HPv3,HBZ3,HBW3,c1n (c1w _)⟩
        case round=>
         clear HPn HPl3 HPv3 HBZ3 HBW3
         obtain⟨I,j,Lc,rfl,hI,hLc,HI,HPc,HPl,HPv,HBZ,HBW,HWX⟩:=hrel
         obtain⟨cA,cc,rfl⟩:=a8s HPc.out.own
         by_cases hlt2:I+1<Ll.length
         ·have e5:decide ((I:Int)+1<(Ll.length:Int))=true:=by simp;omega
          obtain⟨gl,c',hv,hgl,hgl2,hob,hcell⟩:=HPl.out.cells (by omega)
          injection hv with hv1 hv2 hv3
          subst hv1
          subst hv3
          obtain⟨p1,p2⟩:=hcell I (by omega)
          obtain⟨q1,q2⟩:=hcell (I+1) hlt2
          have hxp:=HPl.out.ath (j:=I) (by omega)
          have hxq:=HPl.out.ath (j:=I+1) hlt2
          have hsp:=HPl.out.sy (kth Ll I) (a2X (by omega))
          have hsq:=HPl.out.sy (kth Ll (I+1)) (a2X hlt2)
          have hxl:=HPl.out.len
          have hpn:=hsp.1
          have okp:=a4a B1.out B2'.out B3'.out (t:=t) (by omega) (absW wr (kth Ll I)) (by rw[<-hxp,c1u,c1t (by omega)];exact c1C _)
          have okq:=a4a B1.out B2'.out B3'.out (t:=t) (by omega) (absW wr (kth Ll (I+1))) (by rw[<-hxq,c1u,c1t (by omega)];exact c1C _)
          have HTK:Hid ((pairsF (levelF (sortP (leavesF l 0)) t)).take (j+1)=(pairsF (levelF (sortP (leavesF l 0)) t)).take j++[((absW wr (kth Ll I)).1+(absW wr (kth Ll (I+1))).1,(absW wr (kth Ll I)).2++(absW wr (kth Ll (I+1))).2)]):=by
           have:=b1t (levelF (sortP (leavesF l 0)) t) j (by have:=HI.out;omega)
           unfold pth2 at this
           rw[<-HI.out,hxp,hxq] at this
           exact this
          generalize kth Ll I=p at *
          generalize kth Ll (I+1)=q at *
          obtain⟨pw,pa,pn,pcap⟩:=p
          obtain⟨qw,qa,qn,qcap⟩:=q
          obtain⟨hrp,gp,hpa,hgp,hgp2,-⟩:=hsp.reads
          obtain⟨hrq,gq,hqa,hgq,hgq2,-⟩:=hsq.reads
          dsimp only at hpa hqa p1 p2 q1 q2 hrp hrq hpn
          subst hpa
          subst hqa
          have lp:=hrp.len
          have lq:=hrq.len
          have okp1:0<pw:=okp.1
          have okp2:pw<=100000000000000000:=okp.2.1
          have okq1:0<qw:=okq.1
          have okq2:qw<=100000000000000000:=okq.2.1
          have okp3:pn<=4320:=by rw[<-lp];exact okp.2.2
          have okq3:qn<=4320:=by rw[<-lq];exact okq.2.2
          have e6:IntKind.i64.wrap (pw+qw)=pw+qw:=c1r _ (by omega)
          have e7:IntKind.i64.wrap ((I:Int)+1)=(I:Int)+1:=c1r _ (by omega)
          have e8:((I:Int)+1).toNat=I+1:=by omega
          have e9:(0:Int)<=(I:Int)+1:=by omega
          have e10:(I:Int)+1<(Ll.length:Int):=by omega
          have e11:(I:Int)<(Ll.length:Int):=by omega
          have HRP:=c1n hrp
          have HRQ:=c1n hrq
          have hwq:=HWX.out
          have hbz:=HBW.out.size
          have HGZ:=c1n HBZ.out.lt
          have NOB:Hid (gl∉ob (.slice cA Lc.length cc)):=fun hm=>by have q1:=a0m HPc.out.own gl (a6l.1 hm);have q2:=HLO.out gl rfl;omega
          clear okp okq hrp hrq lp lq hsp hsq hxp hxq hcell hxl
          go_wp2_with fail
          go_region_held3 (fun w'=>w'.cell? ⟨gl,I*2,none⟩=some (.int .i64 pw)/\w'.cell? ⟨gl,I*2+1,none⟩=some (.slice (some ⟨gp,0,none⟩) pn pcap)/\w'.cell? ⟨gl,(I+1)*2,none⟩=some (.int .i64 qw)/\w'.cell? ⟨gl,(I+1)*2+1,none⟩=some (.slice (some ⟨gq,0,none⟩) qn qcap))
           (first|go_keep|(exact⟨by assumption,by assumption,by assumption,by assumption⟩))
           (first
            | (go_at_call 60;refine (a5Q wr _ wr.heap.size (some ⟨gp,0,none⟩) (some ⟨gq,0,none⟩) pn qn pcap qcap _ _ (by repeat (first|exact Keeps.refl _ _|apply Keeps.drewN|apply Keeps.drew|apply Keeps.alloc)) (by simp) (by simp) HRP.out HRQ.out nofun nofun (fun ad h=>⟨gp,0,(c1s h).symm⟩) (fun ad h=>⟨gq,0,(c1s h).symm⟩) (by omega) (by omega)).mono ?_;rintro _ w1 ⟨A5,c5,rfl,ho5,hk5⟩;have hz5:=hk5.size;have r1:=hk5.cell (by simp) p1;have r2:=hk5.cell (by simp) p2;have r3:=hk5.cell (by simp) q1;have r4:=hk5.cell (by simp) q2)
            | (refine b6i rfl (.tmp 95) (.tmp 122) rfl wu.heap.size _ Lc.length Lc rfl (a0b HPc.out.own (hk5.alloc _) (by simp)) w1.heap.size ⟨pw+qw,A5,pn+qn,c5⟩ rfl (by simp) (by simp) (by omega) (by simp;omega) ?_;intro g6 c6 w6 ho6 hg6;have hk6:Keeps (ob (.slice cA Lc.length cc)) wr w6:=((hk5.alloc _).mono (by simp)).trans (a5W hg6);have t1:=hk6.cell NOB.out p1;have t2:=hk6.cell NOB.out p2;have t3:=hk6.cell NOB.out q1;have t4:=hk6.cell NOB.out q2))
          have hK7:Keeps [] wr (w1.alloc (.cells #[.int .i64 (pw+qw),.slice A5 (pn+qn) c5] 154)):=hk5.alloc _
          have hsn:Sy w1 w.heap.size (fun x=>x≠go) ⟨pw+qw,A5,pn+qn,c5⟩:=
           ⟨by show 0<pn+qn;omega,_,ho5.mono hbz,fun x hx=>by have q1:=a0m ho5 x hx;have q2:=HGZ.out;show x≠go;omega⟩
          have hrd:=a6B (p:=⟨pw+qw,A5,pn+qn,c5⟩) ho5
          have hsn2:=hsn.keeps ((Keeps.refl [] w1).alloc (.cells #[.int .i64 (pw+qw),.slice A5 (pn+qn) c5] 154)) (by simp)
          have hsnoc:=HPc.out.snoc hK7 hsn2.1 ho6 hg6
          have hab:absW (w1.alloc (.cells #[.int .i64 (pw+qw),.slice A5 (pn+qn) c5] 154)) ⟨pw+qw,A5,pn+qn,c5⟩=((absW wr ⟨pw,some ⟨gp,0,none⟩,pn,pcap⟩).1+(absW wr ⟨qw,some ⟨gq,0,none⟩,qn,qcap⟩).1,(absW wr ⟨pw,some ⟨gp,0,none⟩,pn,pcap⟩).2++(absW wr ⟨qw,some ⟨gq,0,none⟩,qn,qcap⟩).2):=by
           unfold absW;rw[hsn2.2,hrd]
          rw[hab,c1y,<-HTK.out] at hsnoc
          have HPc6:=c1n hsnoc
          have HPl6:=c1n (HPl.out.other HPc.out hk6 HLO.out)
          have HPv6:=c1n (HPv.out.other HPc.out hk6 HLV.out)
          have HBZ6:=c1n (HBZ.out.keeps hk6 (fun hm=>by have q1:=a0m HPc.out.own go (a6l.1 hm);have q2:=HGO.out;omega))
          have HBW6:Hid (Below w.heap.size w w6):=c1n (((Keeps.of_below HBW.out).then hk6 (fun x hm=>Or.inr (by have q1:=a0m HPc.out.own x (a6l.1 hm);omega)):Keeps [] w w6).below)
          have HWX6:Hid (wq.heap.size<=w6.heap.size):=c1n (Nat.le_trans HWX.out hk6.size)
          clear hK7 hsn hrd hsn2 hsnoc hab hk6 hg6 ho6 t1 t2 t3 t4 HPc HPl HPv HBZ HBW HWX
          go_wp2_with fail
          go_roundw
          case rel=>exact⟨I+2,j+1,Lc++[⟨pw+qw,A5,pn+qn,c5⟩],by go_num,by omega,by have hq:=HPc6.out.len;rw[c1o,a1p,HLEN.out,c1D] at hq;have:=HI.out;omega,c1n (by have:=HI.out;omega),HPc6,HPl6,HPv6,HBZ6,HBW6,HWX6⟩
          case measure=>simp[intOf];omega
         ·have e5:decide ((I:Int)+1<(Ll.length:Int))=false:=by simp;omega
          have HDN:Hid (sortP (leavesF l 0)++(pairsF (levelF (sortP (leavesF l 0)) t)).take j=sortP (leavesF l 0)++pairsF (levelF (sortP (leavesF l 0)) t)):=by
           show _=_;rw[b1s _ j (by rw[HLVL.out];have:=HI.out;omega)]
          have HPc2:Hid (PR wr w.heap.size (fun x=>x≠go) wu.heap.size (.slice cA Lc.length cc) Lc (sortP (leavesF l 0)++pairsF (levelF (sortP (leavesF l 0)) t))):=by have:=HPc.out;rwa [HDN.out] at this
          have hlc0:0<Lc.length:=by have hq:=HPc2.out.len;rw[c1o,a1p,HLEN.out] at hq;omega
          have hwq:=HWX.out
          go_wp2_with fail
          refine (HPc2.out.sort hlc0 (by omega) (a8p B1.out B2'.out B3'.out (by omega))).mono ?_
          rintro _ w7 ⟨rfl,g7,r7,hg7,hb7,hpr7,hk7,hl7,-⟩
          have hobv:ob (Value.slice cA Lc.length cc)=[g7]:=by unfold ob;rw[hg7];rfl
          have hk8:Keeps (ob (Value.slice cA Lc.length cc)) wr w7:=by rw[hobv];exact hk7
          have HPv7:=c1n (HPv.out.other HPc2.out hk8 HLV.out)
          have HBZ7:=c1n (HBZ.out.keeps hk7 (by have:=HGO.out;simp;omega))
          have HBW7:Hid (Below w.heap.size w w7):=c1n (((Keeps.of_below HBW.out).then hk7 (fun x hm=>Or.inr (by simp at hm;omega)):Keeps [] w w7).below)
          have HWO7:Hid (wo.heap.size<=w7.heap.size):=c1n (Nat.le_trans HWQ.out (Nat.le_trans hwq hk7.size))
          have HPl7:Hid (PR w7 w.heap.size (fun x=>x≠go) w.heap.size (.slice cA Lc.length cc) r7 (levelF (sortP (leavesF l 0)) (t+1))):=c1n ⟨hpr7.own.mono hbu,hpr7.sy,hpr7.ab⟩
          clear hpr7 hk7 hk8 hobv hl7 hg7 hb7 HPc HPl HPv HBZ HBW
          go_wp2_with fail
          refine⟨⟨t+1,r7,by omega,by go_num,HPl7,HPv7,HBZ7,HBW7,HWO7⟩,by simp[intOf];omega⟩
       ·obtain rfl:t=m:=by omega
        have hlen2:=a9z (leavesF l 0) t (by rw[HLEN.out];omega) (by rw[HLEN.out];exact HKP.out)
        rw[HLEN.out,hlvl] at hlen2
        obtain⟨Q,hQ⟩:∃ Q:Nat,Q=2*L.length-2:=⟨_,rfl⟩
        have s1:2*(L.length:Int)-2=(Q:Int):=by omega
        have s2:Q<=lc:=by omega
        have s3:Q<=Ll.length:=by omega
        have s4:0<Q:=by omega
        have HQ:=c1n hQ
        have HINR:Hid (inR k (levelF (sortP (leavesF l 0)) t)):=by
         refine a9y _ (fun p hp s hs=>?_) t
         have:=B5.out p ((a0D _).mem_iff.1 hp) s hs
         have h5:=HLL.out
         omega
        have HLVL:=c1n hlvl
        have HBZ0:Hid (Blk wu go 3 (ints .i64 (cntF k (((levelF (sortP (leavesF l 0)) t).take 0).flatMap Prod.snd)))):=by
         rw[c1K,List.flatMap_nil,a3o];exact HBZ
        clear hQ hlen2 hlvl HBZ
        go_wp2_with fail
        go_loopw [136] (fun i wx=>∃ q:Nat,q<=Q/\i=.int .i64 q/\Hid (PR wx w.heap.size (fun x=>x≠go) w.heap.size (.slice lA Ll.length lc) Ll (levelF (sortP (leavesF l 0)) t))/\Hid (Blk wx go 3 (ints .i64 (cntF k (((levelF (sortP (leavesF l 0)) t).take q).flatMap Prod.snd))))/\Hid (Below w.heap.size w wx)) (fun i _=>Q-(intOf i).toNat)
        case atStart=>exact⟨0,by omega,rfl,HPl,HBZ0,HBW⟩
        case round=>
         clear HPl HBZ0 HBW
         obtain⟨q,hq,rfl,HPl,HBZ,HBW⟩:=hrel
         by_cases hlt3:q<Q
         ·obtain⟨gl,c',hv,hgl,hgl2,hob,hcell⟩:=HPl.out.cells (by omega)
          injection hv with hv1 hv2 hv3
          subst hv1
          subst hv3
          obtain⟨p1,p2⟩:=hcell q (by omega)
          have hxp:=HPl.out.ath (j:=q) (by omega)
          have hsp:=HPl.out.sy (kth Ll q) (a2X (by omega))
          have hpn:=hsp.1
          have hxl:=HPl.out.len
          have hmem:absW wr (kth Ll q)∈levelF (sortP (leavesF l 0)) t:=by rw[<-hxp,c1u,c1t (by omega)];exact c1C _
          have HTK:Hid (((levelF (sortP (leavesF l 0)) t).take (q+1)).flatMap Prod.snd=((levelF (sortP (leavesF l 0)) t).take q).flatMap Prod.snd++(absW wr (kth Ll q)).2):=by
           show _=_
           rw[List.take_succ_eq_append_getElem (by omega),List.flatMap_append,<-hxp,c1u,c1t (by omega)]
           simp
          have hin:=HINR.out _ hmem
          have okp:=(a4a B1.out B2'.out B3'.out (t:=t) (by omega) _ hmem).2.2
          generalize kth Ll q=p at *
          obtain⟨pw,pa,pn,pcap⟩:=p
          obtain⟨hrp,gp,hpa,hgp,hgp2,hgo2⟩:=hsp.reads
          dsimp only at hpa p1 p2 hrp hpn hgo2
          subst hpa
          have HSY:Hid (∃ xs,xs=rdS wr ⟨pw,some ⟨gp,0,none⟩,pn,pcap⟩):=⟨_,rfl⟩
          obtain⟨xs,hxs⟩:=HSY.out
          have hxs2:(absW wr ⟨pw,some ⟨gp,0,none⟩,pn,pcap⟩).2=xs:=hxs.symm
          rw[<-hxs] at hrp
          rw[hxs2] at hin okp
          have HTK2:Hid (((levelF (sortP (leavesF l 0)) t).take (q+1)).flatMap Prod.snd=((levelF (sortP (leavesF l 0)) t).take q).flatMap Prod.snd++xs):=by show _=_;rw[HTK.out,hxs2]
          have HRP:=c1n hrp
          have HIN:=c1n hin
          have hpn2:pn<=4320:=by rw[<-hrp.len];exact okp
          have HPA:=c1n (HPl.out.dr ((Keeps.refl [] wr).alloc (.cells #[.int .i64 pw,.slice (some ⟨gp,0,none⟩) pn pcap] 154)))
          have HRPA:=c1n (hrp.keeps ((Keeps.refl [] wr).alloc (.cells #[.int .i64 pw,.slice (some ⟨gp,0,none⟩) pn pcap] 154)) (a0a _))
          have HBZA:Hid (Blk (wr.alloc (.cells #[.int .i64 pw,.slice (some ⟨gp,0,none⟩) pn pcap] 154)) go 3 (ints .i64 (cntF k (((levelF (sortP (leavesF l 0)) t).take q).flatMap Prod.snd++xs.take 0)))):=by
           rw[c1K,c1z];exact HBZ.out.alloc _
          have HOKL:Hid (¬(Value.slice (some ⟨gl,0,none⟩) Ll.length lc).ownBlock=some go):=fun h=>by
           obtain⟨cs,hcs⟩:=a1X HPl.out.own h
           rw[show wr.heap[go]? =some (.cells _ 3 (0,0)) from HBZ.out] at hcs
           injection hcs with hcs
           injection hcs with _ h2
           exact absurd h2 (by decide)
          have HBWA:=c1n (HBW.out.alloc HBW.out.size (.cells #[.int .i64 pw,.slice (some ⟨gp,0,none⟩) pn pcap] 154))
          clear hcell hxp hsp hxl hmem hin okp hxs2 HTK hrp HSY hxs HPl HBZ HBW
          go_wp2_with fail
          go_loopw [143] (fun i wx=>∃ j:Nat,j<=pn/\i=.int .i64 j/\Hid (PR wx w.heap.size (fun x=>x≠go) w.heap.size (.slice (some ⟨gl,0,none⟩) Ll.length lc) Ll (levelF (sortP (leavesF l 0)) t))/\Hid (RI .i64 wx (some ⟨gp,0,none⟩) pn xs)/\Hid (Blk wx go 3 (ints .i64 (cntF k (((levelF (sortP (leavesF l 0)) t).take q).flatMap Prod.snd++xs.take j))))/\Hid (Below w.heap.size w wx)) (fun i _=>pn-(intOf i).toNat)
          case atStart=>exact⟨0,by omega,rfl,HPA,HRPA,HBZA,HBWA⟩
          case round=>
           clear HPA HRPA HBZA HBWA
           obtain⟨j,hj,rfl,HPl,HRP2,HBZ,HBW⟩:=hrel
           by_cases hlt4:j<pn
           ·have hc:=HRP2.out.cell gp 0 rfl j hlt4
            rw[c1G] at hc
            have hs:=HIN.out (nth xs j) (by have:=HRP.out.len;rw[a0q (by omega)];exact c1C _)
            have HT1:Hid (xs.take (j+1)=xs.take j++[nth xs j]):=a0E xs j (by have:=HRP.out.len;omega)
            obtain⟨s,hs0⟩:=c1A hs.1
            rw[hs0] at hc
            have hsk:s<k:=by have:=hs.2;rw[hs0] at this;omega
            have HT2:Hid (xs.take (j+1)=xs.take j++[(s:Int)]):=by have:=HT1.out;rwa [hs0] at this
            clear hs hs0 HT1
            have hbd:(((levelF (sortP (leavesF l 0)) t).take q).flatMap Prod.snd++xs.take j).length<=10000000:=by
             have h1:=b7e (X:=(levelF (sortP (leavesF l 0)) t).take q) (fun x hx=>(a4a B1.out B2'.out B3'.out (t:=t) (by omega) x (List.mem_of_mem_take hx)).2.2)
             rw[c1D] at h1
             rw[c1o,c1D]
             have:=HQ.out
             omega
            have HTJ:Hid (((levelF (sortP (leavesF l 0)) t).take q).flatMap Prod.snd++xs.take (j+1)=(((levelF (sortP (leavesF l 0)) t).take q).flatMap Prod.snd++xs.take j)++[(s:Int)]):=by show _=_;rw[HT2.out,c1y]
            generalize ((levelF (sortP (leavesF l 0)) t).take q).flatMap Prod.snd++xs.take j=S0 at *
            obtain⟨x0,x1⟩:=a5b k S0 s hsk
            have HC2:=c1n (a2w k S0 s hsk)
            have hc0:wr.cell? ⟨go,s,none⟩=some (.int .i64 (nth (cntF k S0) s)):=by
             rw[HBZ.out.cell,a0e]
             have:=a0Y k S0
             simp[nth,List.getD,show s<(cntF k S0).length by omega]
            have hf0:=HBZ.out.frozen s
            generalize nth (cntF k S0) s=x at *
            have HKG:Hid (Keeps [go] wr (wr.setCell ⟨go,s,none⟩ (.int .i64 (x+1)))):=c1n ((Keeps.refl _ _).setCell (Or.inl (by simp)) _)
            have HPlK:=c1n (HPl.out.keeps HKG.out (fun g hg hm=>by rw[c1F.1 hm] at hg;exact HOKL.out hg) (fun g hg h=>by rw[c1F.1 hg] at h;exact h.1 rfl))
            have HRPK:=c1n (HRP2.out.keeps HKG.out (fun ad h=>by obtain rfl:=c1s h;simpa using hgo2))
            have HBZK:=c1n (HBZ.out.set s (.int .i64 (x+1)))
            have HBWK:=c1n (HBW.out.setCell (p:=⟨go,s,none⟩) hwz (.int .i64 (x+1)))
            have x2:x<=10000000:=by omega
            clear hbd HPl HRP2 HBZ HBW x1
            go_wp2_with fail
            refine⟨⟨j+1,by omega,by go_num,HPlK,HRPK,c1n ?_,HBWK⟩,by simp[intOf];omega⟩
            rw[HTJ.out,HC2.out]
            have:=HBZK.out
            rw[show (ints .i64 (cntF k S0)).set s (.int .i64 (x+1))=ints .i64 ((cntF k S0).set s (x+1)) by simp[ints,List.map_set]] at this
            exact this
           ·obtain rfl:j=pn:=by omega
            have hxt:xs.take j=xs:=c1J (by have:=HRP.out.len;omega)
            have HBZ2:Hid (Blk wr go 3 (ints .i64 (cntF k (((levelF (sortP (leavesF l 0)) t).take (q+1)).flatMap Prod.snd)))):=by
             have:=HBZ.out;rw[hxt,<-HTK2.out] at this;exact this
            clear hxt HBZ
            go_wp2_with fail
            refine⟨⟨q+1,by omega,by go_num,HPl,HBZ2,HBW⟩,by simp[intOf];omega⟩
         ·obtain rfl:q=Q:=by omega
          have HRES:Hid (limLens l t=cntF k (((levelF (sortP (leavesF l 0)) t).take q).flatMap Prod.snd)):=by
           show _=_
           unfold limLens
           rw[if_neg (by rw[HLEN.out];omega),HLL.out,HLEN.out,HQ.out]
          go_wp2_with fail
          go_ret2
          refine a4J (v:=.slice (some ⟨go,0,none⟩) k k) HR3.out (by rw[HRES.out,a0Y]) ?_ HBW.out
          rw[HRES.out]
          exact a4L HBZ.out (a0Y _ _) hwz (by omega)
theorem a3F(w:World)(A:Option Addr)(n c:Nat)(l:List Int)(most:Int)(hl:RI .i64 w A n l) :
  Calls Tryz.prog 68 #[.slice A n c,.int .i64 most] w (a5F w (limF l most)):=by
 by_cases h:n=0∨288<n∨most<1∨15<most
 ·exact b5p w A n c l most hl.len h
 ·obtain⟨m,rfl⟩:=c1A (show 0<=most by omega)
  exact b3F w A n c l m hl (by omega) (by omega) (by omega) (by omega)
end Go.Proofs.YtghjlpechjggjaaGreatDoor
namespace Go.Proofs.YtghjlpechjggjaaGreatDoor
open Go.RowKit
theorem c1a:Tryz.prog.underlying 164=some (.array (Tryz.prog.arrayLen 164) (Tryz.prog.elem 164)):=by kernel_rfl
theorem c0z:Tryz.prog.arrayLen 164=19:=by kernel_rfl
theorem c0u:Tryz.prog.elem 164=3:=by kernel_rfl
theorem a9P(w:World)(b mn:Nat)(h:mn<=19):(Instr.sliceAt 164 (.pointer (some ⟨b,0,none⟩)) none (some (.int .i64 mn)) none).run Tryz.prog w=.ok (.slice (some ⟨b,0,none⟩) mn 19) w:=by
 rw[run_sliceAt_array_h w 164 ⟨b,0,none⟩ c1a .i64 (mn:Int) (by omega) (by rw[c0z];omega),c0u,c0z]
 obtain⟨i0,hi,hz0,hz1,hz2⟩:=info_parts a1r
 simp[sizeOf,typeInfo,hi,hz1,slicedAt,go_sem]
end Go.Proofs.YtghjlpechjggjaaGreatDoor
namespace Go.Proofs.YtghjlpechjggjaaGreatDoor
open Go.RowKit
theorem RP.keeps{S:List Nat}{w w':World}{A:Option Addr}{n:Nat}{xs:List (Int×Int)}(h:RP w A n xs)(hk:Keeps S w w')(ho:Off S A):RP w' A n xs:=
 ⟨h.len,h.hd,fun b o ha j hj=>⟨hk.cell (p:=⟨b,o+j*2,none⟩) (ho ⟨b,o,none⟩ ha) (h.cell b o ha j hj).1,hk.cell (p:=⟨b,o+j*2+1,none⟩) (ho ⟨b,o,none⟩ ha) (h.cell b o ha j hj).2⟩⟩
theorem b8P{w:World}{base:Nat}{e:TypeId}{v:Value}{n:Nat}{xs:List (Int×Int)}(h:w.ownsRow base e 2 v n (pcells xs)) :
  ∃ A c,v=.slice A n c/\RP w A n xs/\n<=c/\(∀ a,A=some a->base<=a.block/\a.block<w.heap.size):=by
 obtain⟨h1,h2⟩:=h
 have hl:xs.length=n:=by rw[a4l] at h1;omega
 rcases h2 with⟨rfl,rfl⟩|⟨g,cap,cur,rfl,hb,hh,hc,hm,hs,ht⟩
 ·exact⟨none,0,rfl,⟨hl,by omega,by simp⟩,by omega,by simp⟩
 ·refine⟨_,_,rfl,⟨hl,fun _=>⟨_,_,rfl⟩,fun b o ha j hj=>?_⟩,hc,fun a ha=>?_⟩
  ·injection ha with ha;injection ha with h1 h2 h3;subst h1;subst h2
   have hp:=b3S xs j (by omega)
   have e1:∀ i,i<n*2->cur.toList[i]? =(pcells xs)[i]? :=fun i hi=>by rw[<-ht,List.getElem?_take,if_pos hi]
   rw[c1G]
   unfold World.cell?
   simp only[hh]
   rw[<-c1L,<-c1L,e1 _ (by omega),e1 _ (by omega)]
   exact hp
  ·obtain rfl:=c1s ha
   exact⟨hb,(c1I.1 hh).1⟩
end Go.Proofs.YtghjlpechjggjaaGreatDoor
namespace Go.Proofs.YtghjlpechjggjaaGreatDoor
open Go.RowKit
theorem b5K{w w':World}{g base n size:Nat}{t:TypeId}{v:Value}{xs:List Value}(ht:t≠5)(hb:g<base)(h:w.ownsRow base t size v n xs)(hp:PT g w w'):w'.ownsRow base t size v n xs:=by
 obtain⟨h1,h2⟩:=h
 refine⟨h1,?_⟩
 rcases h2 with h2|⟨b,cap,cur,hv,hb2,hh,r⟩
 ·exact Or.inl h2
 ·refine Or.inr ⟨b,cap,cur,hv,hb2,?_,r⟩
  rw[hp.same b (c1I.1 hh).1 (by omega) (fun ⟨c,f,hc⟩=>?_),hh]
  rw[hh] at hc
  injection hc with hc
  injection hc with _ h2 _
  exact ht h2
theorem b5V{w w':World}{g base n c:Nat}{t:TypeId}{A:Option Addr}{k:IntKind}{xs:List Int}(ht:t≠5)(hb:g<base)(h:w.ownsRow base t 1 (.slice A n c) n (ints k xs))(hp:PT g w w'):RI k w' A n xs:=by
 obtain⟨A',c',hv,hr,_⟩:=a0B (b5K ht hb h hp)
 injection hv with h1 h2 h3
 rw[h1];exact hr
theorem c1g{w w':World}{g base n c:Nat}{t:TypeId}{A:Option Addr}{xs:List (Int×Int)}(ht:t≠5)(hb:g<base)(h:w.ownsRow base t 2 (.slice A n c) n (pcells xs))(hp:PT g w w'):RP w' A n xs:=by
 obtain⟨A',c',hv,hr,_⟩:=b8P (b5K ht hb h hp)
 injection hv with h1 h2 h3
 rw[h1];exact hr
theorem a5G{xs:List Int}(h:∀ x∈xs,0<=x/\x<=15):a1J xs=false:=by
 unfold a1J
 rw[List.any_eq_false]
 intro x hx
 have:=h x hx
 simp[a2l];omega
theorem a9M(c:Int):∀ n t,t<n->revF c n/2^t%2=c/2^(n-1-t)%2
 | 0,t,h=>by omega
 | n+1,t,h=>by
  rw[revF]
  match t with
  | 0=>rw[Int.pow_zero,Int.ediv_one,show n+1-1-0=n by omega];omega
  | t+1=>
   have ih:=a9M c n t (by omega)
   rw[Int.pow_succ,Int.mul_comm (2^t) 2,<-a3B _ _ _ (by omega),show (2*revF c n+c/2^n%2)/2=revF c n by omega,ih,show n+1-1-(t+1)=n-1-t by omega]
theorem a7I(c:Int)(n:Nat):vbits (revF c n) n=msbF c n:=by
 unfold vbits msbF
 refine List.map_congr_left fun t ht=>?_
 exact a9M c n t (List.mem_range.1 ht)
theorem a3R{l:List Int}(hc:a0f l=0):(codesF l).1.length=l.length/\∀ k m:Nat,k<l.length->nth l k=m->1<=m->nth (codesF l).1 k=revF (a1D l k) m:=by
 have e:(codesF l).1=outL l l.length:=by unfold codesF;rw[if_pos hc]
 rw[e]
 refine⟨a5z l _,fun k m hk hm h1=>?_⟩
 unfold outL
 rw[a1k _ _ _ hk,if_pos ⟨hk,by omega⟩,hm];rfl
theorem b1y{xs:List (Int×Int)}{i:Nat}(h:i<xs.length):pth xs i∈xs:=by
 have:pth xs i=xs[i]:=by simp[pth,List.getD,h]
 rw[this];exact c1C _
theorem b2Z{xs:List (Int×Int)}{i:Nat}(h:i<xs.length):xs.take (i+1)=xs.take i++[pth xs i]:=by
 rw[List.take_succ_eq_append_getElem h];simp[pth,List.getD,h]
theorem PT.of_keeps{g:Nat}{w w':World}(h:Keeps [] w w'):PT g w w':=⟨h.size,fun k hk _ _=>h.block k hk (by simp)⟩
theorem a0l{B C:Nat}{w w':World}(h:Below B w w')(hle:C<=B):Below C w w':=⟨h.os,h.tape,h.output,h.size,fun k hk=>h.block k (c1P hk hle)⟩
theorem b1g(codes:List Int)(m:Nat)(h4:4<m)(h0:nth codes (nth orderL (m-1)).toNat=0):manyGo codes m=manyGo codes (m-1):=by
 obtain⟨k,rfl⟩:∃ k,m=k+1:=⟨m-1,by omega⟩
 rw[manyGo,if_pos ⟨by omega,h0⟩];rfl
theorem b1h(codes:List Int)(m:Nat)(h4:4<=m)(h0:m=4∨nth codes (nth orderL (m-1)).toNat≠0):manyGo codes m=m:=by
 obtain⟨k,rfl⟩:∃ k,m=k+1:=⟨m-1,by omega⟩
 rw[manyGo,if_neg]
 rintro ⟨h1,h2⟩
 rcases h0 with h|h
 ·omega
 ·exact h h2
def b9c(w:World)(g:Nat)(bl lit dist:List Int)(e:Ending)(w':World):Prop:=
 (MayW lit dist/\e=.returned (.int .i64 0)/\Wtr w' g (bl++a1U lit dist)/\Below g w w'/\PT g w w')∨(¬MayW lit dist/\e=.returned (.int .i64 1)/\Below w.heap.size w w')
theorem b4q (w:World) (g:Nat) (bl:List Int) (A1 A2:Option Addr) (n1 n2 c1 c2:Nat) (lit dist:List Int) (hT:Tabs w) (hg:gtop<=g) (hw:Wtr w g bl) (hb:bl.length<=50000000)
  (hx:RI .i64 w A1 n1 lit) (hy:RI .i64 w A2 n2 dist) (hm:MayW lit dist) :
  Calls Tryz.prog 69 #[.pointer (some ⟨g,0,none⟩),.slice A1 n1 c1,.slice A2 n2 c2] w (b9c w g bl lit dist):=by
 have hl0:=hx.len
 have hl1:=hy.len
 have b0:=hm.lit0
 have b1:=hm.lit1
 have b2:=hm.dist0
 have b3:=hm.dist1
 have e1:decide (n1<257)=false:=by simp;omega
 have e1':decide ((n1:Int)<257)=false:=by simp;omega
 have e2:decide (286<n1)=false:=by simp;omega
 have e2':decide ((286:Int)<(n1:Int))=false:=by simp;omega
 have e3:decide (n2<1)=false:=by simp;omega
 have e3':decide ((n2:Int)<1)=false:=by simp;omega
 have e4:decide (30<n2)=false:=by simp;omega
 have e4':decide ((30:Int)<(n2:Int))=false:=by simp;omega
 have hg0:n1<=286:=by omega
 have hg1:n2<=30:=by omega
 obtain⟨ba,oa,rfl⟩:=hx.hd (by omega)
 obtain⟨bb,ob,rfl⟩:=hy.hd (by omega)
 have HL1:Hid (lit.length=n1):=c1n hl0
 have HL2:Hid (dist.length=n2):=c1n hl1
 have HX:=c1n hx
 have HY:=c1n hy
 have HT:=c1n hT
 have HW:=c1n hw
 have HM:=c1n hm
 have hgt:=hw.lt
 have HA1:Hid (a1J lit=false):=c1n (a5G hm.litB)
 have HA2:Hid (a1J dist=false):=c1n (a5G hm.distB)
 have HA3:Hid (a1J (lit++dist)=false):=c1n (a5G hm.all)
 clear hx hy hT hw hm hl0 hl1 b0 b1 b2 b3
 go_enter Tryz.func69,Tryz.ntmps69
 go_wp2_with fail
 refine (a1y _ _ _ _ lit HX.out (by omega)).mono ?_
 rintro _ wa ⟨rfl,hd1⟩
 rw[HA1.out]
 have K1:=c1n (hd1.keeps (S:=[]))
 clear hd1
 go_wp2_with fail
 refine (a1y _ _ _ _ dist (HY.out.keeps K1.out (a0a _)) (by omega)).mono ?_
 rintro _ wb ⟨rfl,hd1⟩
 rw[HA2.out]
 have K2:=c1n (K1.out.trans (hd1.keeps (S:=[])))
 clear hd1 K1 e1 e2 e3 e4 e1' e2' e3' e4'
 go_wp2_with fail
 refine (a5Q w _ wb.heap.size _ _ n1 n2 c1 c2 lit dist (K2.out.alloc _) (by simp) (by simp) HX.out HY.out nofun nofun (fun ad h=>⟨ba,oa,(c1s h).symm⟩) (fun ad h=>⟨bb,ob,(c1s h).symm⟩) (by omega) (by omega)).mono ?_
 rintro _ wc ⟨AC,cc,rfl,hoc,hkc⟩
 obtain⟨A',c',hv',hric,-⟩:=a0B hoc
 injection hv' with q1 q2 q3
 subst q1
 subst q3
 have HRC:=c1n hric
 have KC:=c1n hkc
 have HTC:=c1n (HT.out.keeps hkc (by simp))
 clear hoc hric hkc HX HY K2
 go_wp2_with fail
 refine (a7b wc _ _ _ (lit++dist) HTC.out HRC.out (by omega)).mono ?_
 rintro e wd hpk
 obtain⟨vs,rfl,hos,hbd⟩:∃ v,e=.returned (.tuple #[v,.int .i64 0])/\wd.ownsRow wc.heap.size 163 2 v (packF (lit++dist)).length (pcells (packF (lit++dist)))/\Below wc.heap.size wc wd:=by
  rcases hpk with⟨_,_,h⟩|⟨h,_⟩
  ·exact h
  ·exfalso
   rw[HA3.out,c1o,HL1.out,HL2.out] at h
   rcases h with h|h
   ·omega
   ·cases h
 obtain⟨st,hst⟩:∃ st,st=packF (lit++dist):=⟨_,rfl⟩
 rw[<-hst] at hos
 have HST:=c1n hst
 have HSL:Hid (st.length<=316):=c1n (by have:=a6u (lit++dist);rw[c1o,HL1.out,HL2.out] at this;rw[hst];omega)
 have HSY:Hid (∀ s∈st,0<=s.1/\s.1<=18/\0<=s.2/\s.2<2^wN s.1):=c1n (by rw[hst];exact HM.out.sym)
 obtain⟨AS,cs,rfl,hrp,-⟩:=b8P hos
 have hk1:=Keeps.of_below hbd (S:=[])
 have hgc:g<wc.heap.size:=c1P hgt KC.out.size
 have KD:=c1n (KC.out.trans hk1)
 have HOS:=c1n (hos.mono (Nat.le_of_lt_succ (Nat.succ_lt_succ hgc)):wd.ownsRow (g+1) 163 2 _ _ _)
 have HRP:=c1n hrp
 clear hos hrp hbd hk1 hst HRC HTC HA1 HA2 HA3 hpk
 have HKL:=c1n (rfl:st.length=st.length)
 generalize hk:st.length=k at HOS HRP HSL HKL ⊢
 have hk316:k<=316:=HSL.out
 have HKK:Hid (st.length=k):=c1n hk
 clear hk HKL HSL
 have hmk:=fun w=>a1c (P:=Tryz.prog) w 90 3 .i64 8 c1H a1r 19 19 rfl (by omega) (by omega)
 obtain⟨cb,hcb⟩:∃ x,x=wd.heap.size:=⟨_,rfl⟩
 obtain⟨w4,hw4⟩:∃ x,x=wd.alloc (.cells (ints .i64 (List.replicate 19 0)).toArray 3):=⟨_,rfl⟩
 have hk4:Keeps [] wd w4:=by rw[hw4];exact (Keeps.refl [] wd).alloc _
 have HC4:Hid (Blk w4 cb 3 (ints .i64 (cntF 19 ((st.take 0).map Prod.fst)))):=by rw[hw4,hcb];exact c1n (by rw[c1K];exact a0d wd _ _)
 have HK4:=c1n hk4
 have hcb2:wd.heap.size<=cb:=by omega
 clear hk4
 go_upto_region 7 with (fail)
 change Code.wp _ _ _ _ (wd.alloc (.cells (ints .i64 (List.replicate 19 0)).toArray 3))
 rw[<-hw4,<-hcb]
 clear hw4 hcb hmk
 go_wp2_with fail
 go_loopw [64] (fun iv wr=>∃ (i:Nat),i<=k/\iv=.int .i64 i/\Hid (Blk wr cb 3 (ints .i64 (cntF 19 ((st.take i).map Prod.fst))))/\Hid (Keeps [] wd wr)) (fun iv _=>k-(intOf iv).toNat)
 case atStart=>exact⟨0,by omega,rfl,HC4,HK4⟩
 case round=>
  clear HC4 HK4
  obtain⟨i,hi,rfl,HC,HK⟩:=hrel
  by_cases hlt:i<k
  ·have e0:decide (i<k)=true:=by simpa using hlt
   obtain⟨b,o,rfl⟩:=HRP.out.hd (by omega)
   obtain⟨p1,p2⟩:=(HRP.out.keeps HK.out (a0a _)).cell b o rfl i hlt
   obtain⟨s0,s1,-,-⟩:=HSY.out _ (b1y (show i<st.length by have:=HKK.out;omega))
   obtain⟨j,hj⟩:∃ j:Nat,(pth st i).1=j:=⟨(pth st i).1.toNat,by omega⟩
   have hj19:j<19:=by omega
   have HCN:Hid (cntF 19 ((st.take (i+1)).map Prod.fst)=(cntF 19 ((st.take i).map Prod.fst)).set j (nth (cntF 19 ((st.take i).map Prod.fst)) j+1)):=c1n (by
    rw[b2Z (show i<st.length by have:=HKK.out;omega),c1N,List.map_singleton,hj,a2w _ _ _ hj19])
   have hbd:=a5b 19 ((st.take i).map Prod.fst) j hj19
   have hcl:(cntF 19 ((st.take i).map Prod.fst)).length=19:=a0Y _ _
   have hbl:((st.take i).map Prod.fst).length<=316:=by rw[List.length_map,c1D];omega
   rw[hj] at p1
   generalize (pth st i).2=x at *
   generalize cntF 19 ((st.take i).map Prod.fst)=cs0 at *
   obtain⟨v,hv⟩:∃ v,v=nth cs0 j:=⟨_,rfl⟩
   have hcl2:=(HC.out).cell j
   rw[show (ints .i64 cs0)[j]? =some (.int .i64 v) by rw[a0e,hv];simp[nth,List.getD,show j<cs0.length by omega]] at hcl2
   have hfr:=(HC.out).frozen j
   have hclt:=HC.out.lt
   have s2:IntKind.i64.wrap (v+1)=v+1:=c1r _ (by omega)
   go_wp2_with fail
   go_roundw
   case rel=>
    refine⟨i+1,by omega,by go_num,?_,c1n ((HK.out.setCell (p:=⟨cb,j,none⟩) (Or.inr hcb2) _).alloc _)⟩
    rw[HCN.out]
    have:=(HC.out.set j (.int .i64 (nth cs0 j+1))).keeps ((Keeps.refl [] _).alloc (.cells #[.int .i64 (j:Int),.int .i64 x] 163)) (by simp)
    rw[show (ints .i64 cs0).set j (.int .i64 (nth cs0 j+1))=ints .i64 (cs0.set j (nth cs0 j+1)) by simp[ints,List.map_set]] at this
    exact c1n this
   case measure=>simp[intOf];omega
  ·obtain rfl:i=k:=by omega
   have e0:decide (i<i)=false:=by simp
   have HCR:Hid (RI .i64 wr (some ⟨cb,0,none⟩) 19 (a0M lit dist)):=c1n (by
    have h:=HC.out
    rw[<-HKK.out,List.take_length,HST.out] at h
    have:=Blk.ri (xs:=a0M lit dist) (ys:=[]) (by rw[c1z];exact h)
    rwa [a0T] at this)
   obtain⟨w5,hw5⟩:∃ x:World,x=wr:=⟨_,rfl⟩
   rw[<-hw5] at HK HCR ⊢
   clear HC hw5
   go_wp2_with fail
   refine (a3F w5 _ _ _ (a0M lit dist) 7 HCR.out).mono ?_
   rw[HM.out.lim]
   rintro e w6 ⟨vl,rfl,ho6,hb6⟩
   rw[a3p] at ho6
   obtain⟨AL,cl,rfl,hrl,-⟩:=a0B ho6
   have hk6:=Keeps.of_below hb6 (S:=[])
   have hg5:g+1<=w5.heap.size:=by have:=KD.out.size;have:=HK.out.size;omega
   have HO6:Hid (w6.ownsRow (g+1) 3 1 (.slice AL 19 cl) 19 (ints .i64 (codesW lit dist))):=c1n (ho6.mono hg5)
   have HRL:=c1n hrl
   have K6:=c1n (HK.out.trans hk6)
   have hg6:g+1<=w6.heap.size:=by have:=hk6.size;omega
   have HCB:Hid (∀ i,i<19->0<=nth (codesW lit dist) i/\nth (codesW lit dist) i<=7):=c1n (fun i hi=>(HM.out.codes i hi).2)
   have HCS:Hid (∀ s∈st,1<=nth (codesW lit dist) s.1.toNat):=c1n (by rw[HST.out];exact fun s hs=>(HM.out.code s hs).1)
   have HCK:Hid (a0f (codesW lit dist)=0):=c1n HM.out.check
   have HCL:Hid ((codesW lit dist).length=19):=c1n (a3p lit dist)
   have HHB:Hid (a1U lit dist=vbits ((n1:Int)-257) 5++(vbits ((n2:Int)-1) 5++(vbits ((manyGo (codesW lit dist) 19:Int)-4) 4++(codeBits (codesW lit dist) (manyGo (codesW lit dist) 19)++stepsB (codesW lit dist) st)))):=c1n (by rw[HST.out];unfold a1U;rw[HL1.out,HL2.out])
   have hn1:257<=n1:=by rw[<-HL1.out];exact HM.out.lit0
   have hn2:1<=n2:=by rw[<-HL2.out];exact HM.out.dist0
   clear ho6 hrl hb6 hk6 HCR HK
   generalize codesW lit dist=cd at *
   go_wp2_with fail
   refine (a3A w6 _ _ _ cd HRL.out (by omega)).mono ?_
   rintro e w7 ⟨vr,rfl,ho7,hb7⟩
   obtain⟨hcl7,hcat⟩:=a3R HCK.out
   rw[hcl7,HCL.out] at ho7
   obtain⟨AR,cr,rfl,hrr,-⟩:=a0B ho7
   have hk7:=Keeps.of_below hb7 (S:=[])
   have HCA:=c1n hcat
   have HO7:Hid (w7.ownsRow (g+1) 49 1 (.slice AR 19 cr) 19 (ints .u32 (codesF cd).1)):=c1n (ho7.mono hg6)
   have HO6':=c1n (a0b HO6.out hk7 (by simp))
   have K7:=c1n (KD.out.trans (K6.out.trans hk7))
   have HOS':=c1n (a0b HOS.out (K6.out.trans hk7) (by simp))
   have HRL':=c1n (HRL.out.keeps hk7 (a0a _))
   have HT7:=c1n (HT.out.keeps K7.out (by simp))
   have HW7:=c1n (HW.out.keeps K7.out (by simp))
   clear ho7 hrr hb7 hk7 hcl7 hcat HO6 K6 HOS HRL HRP HT HW
   generalize (codesF cd).1=rw at *
   generalize (codesF cd).2=er at *
   go_upto_block 3 with (fail)
   go_cut [16] (fun mv wc=>∃ m:Nat,4<=m/\m<=19/\mv=.int .i64 m/\Hid (manyGo cd 19=m)/\Hid (Keeps [] w7 wc))
   case first=>
    go_wp2_with fail
    go_loopw [16] (fun mv wr=>∃ (m:Nat),4<=m/\m<=19/\mv=.int .i64 m/\Hid (manyGo cd 19=manyGo cd m)/\Hid (Keeps [] w7 wr)) (fun mv _=>(intOf mv).toNat)
    case atStart=>exact⟨19,by omega,by omega,rfl,c1n rfl,c1n (Keeps.refl _ _)⟩
    case round=>
     obtain⟨m,hm4,hm19,rfl,HMG,HK⟩:=hrel
     obtain⟨ol0,ol1⟩:=a5y (m-1) (by omega)
     have ho:=(HT7.out.keeps HK.out (by simp)).ord.cell _ _ rfl (m-1) (by omega)
     rw[c1G] at ho
     have HDN:Hid (4<m->nth cd (nth orderL (m-1)).toNat=0->manyGo cd m=manyGo cd (m-1)):=c1n (b1g cd m)
     have HSP:Hid (m=4∨nth cd (nth orderL (m-1)).toNat≠0->manyGo cd m=m):=c1n (b1h cd m hm4)
     obtain⟨oj,hoo⟩:∃ o:Nat,nth orderL (m-1)=o:=⟨(nth orderL (m-1)).toNat,by omega⟩
     rw[hoo] at ho ol1 HDN HSP
     rw[c1x] at HDN HSP
     have ho19:oj<19:=by omega
     obtain⟨lb,lo,rfl,hlc⟩:=(HRL'.out.keeps HK.out (a0a _)).at ho19
     clear hoo ol0 ol1
     have s1:IntKind.i64.wrap ((m:Int)-1)=((m-1:Nat):Int):=by rw[c1r _ (by omega)];omega
     have s2:(m:Int)-1=((m-1:Nat):Int):=by omega
     by_cases h4:4<m
     ·have e1:decide (4<m)=true:=by simpa using h4
      have e2:decide ((4:Int)<(m:Int))=true:=by simp;omega
      by_cases h0:nth cd oj=0
      ·rw[h0] at hlc
       go_wp2_with fail
       go_roundw
       case rel=>exact⟨m-1,by omega,by omega,by go_num,c1n (by rw[HMG.out];exact HDN.out h4 h0),HK⟩
       case measure=>simp[intOf];omega
      ·have e3:(nth cd oj==0)=false:=by simpa using h0
       have e4:decide (nth cd oj=0)=false:=by simpa using h0
       go_wp2_with fail
       go_meet
       exact⟨m,by omega,by omega,rfl,c1n (by rw[HMG.out];exact HSP.out (.inr h0)),HK⟩
     ·have e1:decide (4<m)=false:=by simpa using h4
      have e2:decide ((4:Int)<(m:Int))=false:=by simp;omega
      go_wp2_with fail
      go_meet
      exact⟨m,by omega,by omega,rfl,c1n (by rw[HMG.out];exact HSP.out (.inl (by omega))),HK⟩
   case rest=>
    obtain⟨m,hm4,hm19,rfl,HMG,hkw⟩:=hcut
    have HOSp:=c1n (a0b HOS'.out hkw.out (by simp))
    have HO6p:=c1n (a0b HO6'.out hkw.out (by simp))
    have HO7p:=c1n (a0b HO7.out hkw.out (by simp))
    have HTp:=c1n (HT7.out.keeps hkw.out (by simp))
    have HWp:=c1n (HW7.out.keeps hkw.out (by simp))
    have KP:=c1n (K7.out.trans hkw.out)
    have HBL:=c1n hb
    clear HOS' HO6' HO7 HT7 HW7 K7 hkw HRL' KC KD e0 hb
    obtain⟨x1,hx1⟩:∃ x:Int,x=(n1:Int)-257:=⟨_,rfl⟩
    obtain⟨x2,hx2⟩:∃ x:Int,x=(n2:Int)-1:=⟨_,rfl⟩
    obtain⟨x3,hx3⟩:∃ x:Int,x=(m:Int)-4:=⟨_,rfl⟩
    have hx10:0<=x1:=by omega
    have hx11:x1<32:=by omega
    have hx20:0<=x2:=by omega
    have hx21:x2<32:=by omega
    have hx30:0<=x3:=by omega
    have hx31:x3<16:=by omega
    have HHC:Hid (a1U lit dist=vbits x1 5++(vbits x2 5++(vbits x3 4++(codeBits cd m++stepsB cd st)))):=c1n (by rw[HHB.out,HMG.out,<-hx1,<-hx2,<-hx3])
    have f1:(n1:Int)-257=x1:=hx1.symm
    have f2:(n2:Int)-1=x2:=hx2.symm
    have f3:(m:Int)-4=x3:=hx3.symm
    have g1:IntKind.i64.wrap x1=x1:=c1r _ (by omega)
    have g2:IntKind.i64.wrap x2=x2:=c1r _ (by omega)
    have g3:IntKind.i64.wrap x3=x3:=c1r _ (by omega)
    have k1:IntKind.u32.wrap x1=x1:=IntWalk.u32_in _ (by omega)
    have k2:IntKind.u32.wrap x2=x2:=IntWalk.u32_in _ (by omega)
    have k3:IntKind.u32.wrap x3=x3:=IntWalk.u32_in _ (by omega)
    clear hx1 hx2 hx3 HHB HMG
    go_wp2_with fail
    refine (a0C _ g bl x1 5 HWp.out hx10 (by omega) (by omega) (c1v hx10 hx11) (by have:=HBL.out;omega)).mono ?_
    rintro _ w8 ⟨rfl,hw8,hb8,hp8⟩
    have HW8:=c1n hw8
    have HB8:=c1n hb8
    have HP8:=c1n hp8
    clear hw8 hb8 hp8 HWp
    go_wp2_with fail
    refine (a0C _ g _ x2 5 HW8.out hx20 (by omega) (by omega) (c1v hx20 hx21) (by have:=HBL.out;simp only[c1o,a0h];omega)).mono ?_
    rintro _ w9 ⟨rfl,hw9,hb9,hp9⟩
    have HW9:=c1n hw9
    have HB9:=c1n (HB8.out.trans hb9)
    have HP9:=c1n (HP8.out.trans hp9)
    clear hw9 hb9 hp9 HW8 HB8 HP8
    go_wp2_with fail
    refine (a0C _ g _ x3 4 HW9.out hx30 (by omega) (by omega) (c1v hx30 hx31) (by have:=HBL.out;simp only[c1o,a0h];omega)).mono ?_
    rintro _ w10 ⟨rfl,hw10,hb10,hp10⟩
    have HW10:=c1n hw10
    have HB10:=c1n (HB9.out.trans hb10)
    have HP10:=c1n (HP9.out.trans hp10)
    obtain⟨bl3,hbl3⟩:∃ x,x=bl++vbits x1 5++vbits x2 5++vbits x3 4:=⟨_,rfl⟩
    rw[<-hbl3] at HW10
    have HHD:Hid (bl++a1U lit dist=bl3++codeBits cd m++stepsB cd st):=c1n (by rw[HHC.out,hbl3];simp only[c1y])
    have HBL3:Hid (bl3.length<=50000014):=c1n (by have:=HBL.out;rw[hbl3];simp only[c1o,a0h];omega)
    have hsl:=fun w=>a9P w 1 m hm19
    clear hw10 hb10 hp10 HW9 HB9 HP9 hbl3 f1 f2 f3 g1 g2 g3 k1 k2 k3 hx10 hx11 hx20 hx21 hx30 hx31 HHC
    go_wp2_with fail
    go_loopw [120] (fun iv wr=>∃ (q:Nat),q<=m/\iv=.int .i64 q/\Hid (Wtr wr g (bl3++codeBits cd q))/\Hid (Below g wc wr)/\Hid (PT g wc wr)) (fun iv _=>m-(intOf iv).toNat)
    case atStart=>exact⟨0,by omega,rfl,c1n (by rw[show codeBits cd 0=[] from rfl,c1z];exact HW10.out),HB10,HP10⟩
    case round=>
     clear HW10 HB10 HP10 hsl
     obtain⟨q,hq,rfl,HWq,HBq,HPq⟩:=hrel
     by_cases hlt:q<m
     ·have e0:decide (q<m)=true:=by simpa using hlt
      obtain⟨ol0,ol1⟩:=a5y q (by omega)
      have ho:=(HTp.out.below HBq.out hg).ord.cell _ _ rfl q (by omega)
      rw[c1G] at ho
      have HCN:Hid (codeBits cd (q+1)=codeBits cd q++vbits (nth cd (nth orderL q).toNat) 3):=c1n (a2D cd q)
      obtain⟨oj,hoo⟩:∃ o:Nat,nth orderL q=o:=⟨(nth orderL q).toNat,by omega⟩
      rw[hoo] at ho ol1 HCN
      rw[c1x] at HCN
      have ho19:oj<19:=by omega
      obtain⟨lb,lo,hAL,hlc⟩:=(b5V (by decide) (c1M g) HO6p.out HPq.out).at ho19
      subst hAL
      obtain⟨c0,c1⟩:=HCB.out oj ho19
      have HLQ:Hid ((codeBits cd q).length=3*q):=c1n (a1a cd q)
      clear hoo ol0 ol1
      generalize nth cd oj=y at *
      have k1:IntKind.u32.wrap y=y:=IntWalk.u32_in _ (by omega)
      go_wp2_with fail
      refine (a0C _ g _ y 3 HWq.out c0 (by omega) (by omega) (c1v c0 (Int.lt_of_le_of_lt c1 (by decide))) (by have:=HBL3.out;have:=HLQ.out;simp only[c1o];omega)).mono ?_
      rintro _ w11 ⟨rfl,hw11,hb11,hp11⟩
      have HW11:Hid (Wtr w11 g (bl3++codeBits cd (q+1))):=c1n (by rw[HCN.out,<-c1y];exact hw11)
      have HB11:=c1n (HBq.out.trans hb11)
      have HP11:=c1n (HPq.out.trans hp11)
      clear hw11 hb11 hp11 HWq HBq HPq
      go_wp2_with fail
      go_roundw
      case rel=>exact⟨q+1,by omega,by go_num,HW11,HB11,HP11⟩
      case measure=>simp[intOf];omega
     ·obtain rfl:q=m:=by omega
      have e0:decide (q<q)=false:=by simp
      obtain⟨bl4,hbl4⟩:∃ x,x=bl3++codeBits cd q:=⟨_,rfl⟩
      have HHE:Hid (bl++a1U lit dist=bl4++stepsB cd st):=c1n (by rw[HHD.out,hbl4])
      have HBL4:Hid (bl4.length<=50000100):=c1n (by have:=HBL3.out;rw[hbl4,c1o,a1a];omega)
      rw[<-hbl4] at HWq
      clear hbl4 HHD HBL3
      go_wp2_with fail
      go_loopw [134] (fun iv wr=>∃ (p:Nat),p<=i/\iv=.int .i64 p/\Hid (Wtr wr g (bl4++stepsB cd (st.take p)))/\Hid (Below g wc wr)/\Hid (PT g wc wr)) (fun iv _=>i-(intOf iv).toNat)
      case atStart=>exact⟨0,by omega,rfl,c1n (by rw[c1K,show stepsB cd []=[] from rfl,c1z];exact HWq.out),HBq,HPq⟩
      case round=>
       clear HWq HBq HPq
       obtain⟨p,hp,rfl,HWl,HBl,HPl⟩:=hrel
       by_cases hlt2:p<i
       ·have e5:decide (p<i)=true:=by simpa using hlt2
        have HRPl:=c1g (by decide) (c1M g) HOSp.out HPl.out
        obtain⟨sb,so,rfl⟩:=HRPl.hd (by omega)
        obtain⟨p1,p2⟩:=HRPl.cell sb so rfl p hlt2
        have hps:p<st.length:=by have:=HKK.out;omega
        obtain⟨s0,s1,s2,s3⟩:=HSY.out _ (b1y hps)
        have hcs:=HCS.out _ (b1y hps)
        obtain⟨j,hj⟩:∃ j:Nat,(pth st p).1=j:=⟨(pth st p).1.toNat,by omega⟩
        obtain⟨x,hx⟩:∃ x:Int,x=(pth st p).2:=⟨_,rfl⟩
        have HST2:Hid (stepsB cd (st.take (p+1))=stepsB cd (st.take p)++(msbF (a1D cd j) (nth cd j).toNat++vbits x (wN (j:Int)))):=c1n (by
         rw[b2Z hps]
         unfold stepsB
         rw[List.flatMap_append,List.flatMap_singleton,b4b,hj,<-hx,c1x])
        have HSL2:Hid ((stepsB cd (st.take p)).length<=14*316):=c1n (by
         have h1:=a4N (codes:=cd) (st.take p) (fun s hs=>by
          have:=HSY.out s (List.mem_of_mem_take hs)
          exact (HCB.out _ (by omega)).2)
         have h2:(st.take p).length<=316:=by rw[c1D];omega
         omega)
        rw[hj] at p1 s0 s1 s3 hcs
        rw[<-hx] at p2 s2 s3
        rw[c1x] at hcs
        have hj19:j<19:=by omega
        obtain⟨cb1,co1,hAL,hlc⟩:=(b5V (by decide) (c1M g) HO6p.out HPl.out).at hj19
        subst hAL
        obtain⟨c0,c1⟩:=HCB.out j hj19
        obtain⟨rb1,ro1,hAR,hrc⟩:=(b5V (by decide) (c1M g) HO7p.out HPl.out).at hj19
        subst hAR
        obtain⟨M,hM⟩:∃ M:Nat,nth cd j=M:=⟨(nth cd j).toNat,by omega⟩
        rw[HCA.out j M (by have:=HCL.out;omega) hM (by omega)] at hrc
        rw[hM] at hlc hcs c0 c1 HST2
        rw[c1x] at HST2
        have hrb:=a8u (a1D cd j) M
        have hp16:=b7T M (by omega)
        have HVB:Hid (vbits (revF (a1D cd j) M) M=msbF (a1D cd j) M):=c1n (a7I _ _)
        have HX0:Hid (revF (a1D cd j) M/2^M=0):=c1n (c1v hrb.1 hrb.2)
        have hy0:=hrb.1
        have hy1:revF (a1D cd j) M<4294967296:=by omega
        have hwn:=b9Y (j:Int)
        have hw8:=a2s (wN (j:Int)) (by omega)
        have HX1:Hid (x/2^wN (j:Int)=0):=c1n (c1v s2 s3)
        have hwt:=(HTp.out.below HBl.out hg).wid.cell _ _ rfl j (by omega)
        rw[c1G,b6v j hj19] at hwt
        have hM7:M<=7:=by omega
        clear hrb hp16 hcs c0 c1 HRPl hj hx hps
        generalize revF (a1D cd j) M=y at *
        have hx256:x<256:=by omega
        generalize hwN:wN (j:Int)=W at *
        have HWN:=c1n hwN
        clear hwN s3 hw8
        have t1:IntKind.i64.wrap (j:Int)=(j:Int):=c1r _ (by omega)
        have t2:(0:Int)<=(j:Int):=by omega
        have t3:(j:Int)<19:=by omega
        have t4:IntKind.u32.wrap x=x:=IntWalk.u32_in _ (by omega)
        obtain⟨gs,hgs⟩:∃ z,z=wr.heap.size:=⟨_,rfl⟩
        obtain⟨w20,hw20⟩:∃ z,z=wr.alloc (.cells #[.int .i64 (j:Int),.int .i64 x] 163):=⟨_,rfl⟩
        have HB20:Hid (Blk w20 gs 163 [.int .i64 (j:Int),.int .i64 x]):=by rw[hw20,hgs];exact c1n (a0d wr _ [.int .i64 (j:Int),.int .i64 x])
        have ka:Keeps [] wr w20:=by rw[hw20];exact (Keeps.refl [] wr).alloc _
        have hgl:=HWl.out.lt
        have HW20:=c1n (HWl.out.keeps ka (by simp))
        have HBl20:Hid (Below g wc w20):=by rw[hw20];exact c1n (HBl.out.alloc (c1O (c1P (by rw[hgs] at *;exact hgl) (c1w _))) _)
        have HPl20:Hid (PT g wc w20):=by rw[hw20];exact c1n (HPl.out.alloc _)
        have hggs:gs≠g:=by omega
        go_upto_region 28 with (fail)
        change Code.wp _ _ _ _ (wr.alloc (.cells #[.int .i64 (j:Int),.int .i64 x] 163))
        rw[<-hw20,<-hgs]
        have hlc':=ka.cell (by simp) hlc
        have hrc':=ka.cell (by simp) hrc
        have hwt':=ka.cell (by simp) hwt
        have b1:=HB20.out.cell 0
        have b2:=HB20.out.cell 1
        simp only[c1q,c1p] at b1 b2
        clear hlc hrc hwt ka hgl HWl HBl HPl p1 p2 hw20 hgs e5
        go_wp2_with fail
        go_still_tail 11,(by kernel_rfl)
        change wpList _ _ _ _ _ w20.drew
        have hdr:=(Keeps.refl [] w20).drew
        have HWd:=c1n (HW20.out.keeps hdr (by simp))
        have HBd:=c1n (HBl20.out.trans (a0l hdr.below (c1O HW20.out.lt)))
        have HPd:=c1n HPl20.out.drew
        have HB2:=c1n (HB20.out.keeps hdr (by simp))
        clear hdr HW20 HBl20 HPl20 HB20 b1 b2 hlc' hrc' hwt'
        go_wp2_with fail
        refine (a0C _ g _ y M HWd.out hy0 hy1 (by omega) HX0.out (by have:=HBL4.out;have:=HSL2.out;simp only[c1o];omega)).mono ?_
        rintro _ w21 ⟨rfl,hw21,hb21,hp21⟩
        rw[HVB.out] at hw21
        have HW21:=c1n hw21
        have HB21:=c1n (HBd.out.trans hb21)
        have HP21:=c1n (HPd.out.trans hp21)
        have HB22:Hid (Blk w21 gs 163 [.int .i64 (j:Int),.int .i64 x]):=c1n (by
         have h:=HB2.out
         refine (hp21.same gs h.lt hggs (fun ⟨c,f,hc⟩=>?_)).trans h
         have h2:w20.drew.heap[gs]? =_:=h
         rw[h2] at hc
         injection hc with hc
         injection hc with _ h2 _
         exact absurd h2 (by decide))
        have hwt2:=(HTp.out.below HB21.out hg).wid.cell _ _ rfl j (by omega)
        rw[c1G,b6v j hj19,HWN.out] at hwt2
        have b1:=HB22.out.cell 0
        have b2:=HB22.out.cell 1
        simp only[c1q,c1p] at b1 b2
        clear hw21 hb21 hp21 HWd HBd HPd HB2 HB22
        go_wp2_with fail
        go_still_tail 8,(by kernel_rfl)
        change wpList _ _ _ _ _ w21.drew
        have hdr:=(Keeps.refl [] w21).drew
        have HWd:=c1n (HW21.out.keeps hdr (by simp))
        have HBd:=c1n (HB21.out.trans (a0l hdr.below (c1O HW21.out.lt)))
        have HPd:=c1n HP21.out.drew
        clear hdr HW21 HB21 HP21 b1 b2 hwt2
        go_wp2_with fail
        refine (a0C _ g _ x W HWd.out s2 (by omega) (by omega) HX1.out (by have:=HBL4.out;have:=HSL2.out;simp only[c1o,a4g];omega)).mono ?_
        rintro _ w22 ⟨rfl,hw22,hb22,hp22⟩
        have HW22:Hid (Wtr w22 g (bl4++stepsB cd (st.take (p+1)))):=c1n (by rw[HST2.out];simpa only[c1y] using hw22)
        have HB22:=c1n (HBd.out.trans hb22)
        have HP22:=c1n (HPd.out.trans hp22)
        clear hw22 hb22 hp22 HWd HBd HPd
        go_wp2_with fail
        go_roundw
        case rel=>exact⟨p+1,by omega,by go_num,HW22,HB22,HP22⟩
        case measure=>simp[intOf];omega
       ·obtain rfl:p=i:=by omega
        have e5:decide (p<p)=false:=by simp
        go_wp2_with fail
        go_ret
        have h:=HWl.out
        rw[<-HKK.out,List.take_length,<-HHE.out] at h
        exact .inl ⟨HM.out,rfl,h,(a0l KP.out.below (c1O hgt)).trans HBl.out,(PT.of_keeps KP.out).trans HPl.out⟩
theorem a8M{xs:List Int}(h:a1J xs=false):∀ x∈xs,0<=x/\x<=15:=by
 intro x hx
 have:=List.any_eq_false.1 h x hx
 simp[a2l] at this
 omega
theorem b6y (w:World) (g:Nat) (bl:List Int) (A1 A2:Option Addr) (n1 n2 c1 c2:Nat) (lit dist:List Int)
  (hx:RI .i64 w A1 n1 lit) (hy:RI .i64 w A2 n2 dist) (hm:¬MayW lit dist) :
  Calls Tryz.prog 69 #[.pointer (some ⟨g,0,none⟩),.slice A1 n1 c1,.slice A2 n2 c2] w (b9c w g bl lit dist):=by
 have HM:=c1n hm
 have HX:=c1n hx
 have HY:=c1n hy
 have HL1:Hid (lit.length=n1):=c1n hx.len
 have HL2:Hid (dist.length=n2):=c1n hy.len
 clear hx hy hm
 go_enter Tryz.func69,Tryz.ntmps69
 by_cases h1:n1<257
 ·have e1:decide (n1<257)=true:=by simpa using h1
  have e1':decide ((n1:Int)<257)=true:=by simp;omega
  go_wp2_with fail
  go_ret
  exact .inr ⟨HM.out,rfl,c1E _ _⟩
 have e1:decide (n1<257)=false:=by simpa using h1
 have e1':decide ((n1:Int)<257)=false:=by simp;omega
 by_cases h2:286<n1
 ·have e2:decide (286<n1)=true:=by simpa using h2
  have e2':decide ((286:Int)<(n1:Int))=true:=by simp;omega
  go_wp2_with fail
  go_ret
  exact .inr ⟨HM.out,rfl,c1E _ _⟩
 have e2:decide (286<n1)=false:=by simpa using h2
 have e2':decide ((286:Int)<(n1:Int))=false:=by simp;omega
 by_cases h3:n2<1
 ·have e3:decide (n2<1)=true:=by simpa using h3
  have e3':decide ((n2:Int)<1)=true:=by simp;omega
  have e3'':n2=0:=by omega
  go_wp2_with fail
  go_ret
  exact .inr ⟨HM.out,rfl,c1E _ _⟩
 have e3:decide (n2<1)=false:=by simpa using h3
 have e3':decide ((n2:Int)<1)=false:=by simp;omega
 by_cases h4:30<n2
 ·have e4:decide (30<n2)=true:=by simpa using h4
  have e4':decide ((30:Int)<(n2:Int))=true:=by simp;omega
  go_wp2_with fail
  go_ret
  exact .inr ⟨HM.out,rfl,c1E _ _⟩
 have e4:decide (30<n2)=false:=by simpa using h4
 have e4':decide ((30:Int)<(n2:Int))=false:=by simp;omega
 go_wp2_with fail
 refine (a1y _ _ _ _ lit HX.out (by omega)).mono ?_
 rintro _ wa ⟨rfl,hd1⟩
 have K1:=c1n (hd1.keeps (S:=[]))
 clear hd1
 cases hb1:a1J lit with
 | true=>
  have HB1:=c1n hb1
  clear hb1
  go_wp2_with fail
  go_ret
  exact .inr ⟨HM.out,rfl,K1.out.below⟩
 | false=>
  have HB1:=c1n hb1
  clear hb1
  go_wp2_with fail
  refine (a1y _ _ _ _ dist (HY.out.keeps K1.out (a0a _)) (by omega)).mono ?_
  rintro _ wb ⟨rfl,hd1⟩
  have K2:=c1n (K1.out.trans (hd1.keeps (S:=[])))
  clear hd1 K1
  cases hb2:a1J dist with
  | true=>
   have HB2:=c1n hb2
   clear hb2
   go_wp2_with fail
   go_ret
   exact .inr ⟨HM.out,rfl,K2.out.below⟩
  | false=>
   exfalso
   have:=HL1.out
   have:=HL2.out
   exact HM.out ⟨by omega,by omega,by omega,by omega,a8M HB1.out,a8M hb2⟩
theorem b1V (w:World) (g:Nat) (bl:List Int) (A1 A2:Option Addr) (n1 n2 c1 c2:Nat) (lit dist:List Int) (hT:Tabs w) (hg:gtop<=g) (hw:Wtr w g bl) (hb:bl.length<=50000000)
  (hx:RI .i64 w A1 n1 lit) (hy:RI .i64 w A2 n2 dist) :
  Calls Tryz.prog 69 #[.pointer (some ⟨g,0,none⟩),.slice A1 n1 c1,.slice A2 n2 c2] w (b9c w g bl lit dist):=by
 by_cases hm:MayW lit dist
 ·exact b4q w g bl A1 A2 n1 n2 c1 c2 lit dist hT hg hw hb hx hy hm
 ·exact b6y w g bl A1 A2 n1 n2 c1 c2 lit dist hx hy hm
end Go.Proofs.YtghjlpechjggjaaGreatDoor
namespace Go.Proofs.YtghjlpechjggjaaGreatDoor
open Go.RowKit
theorem c0A{a b c:Int}{said:Nat}(h0:¬b=0)(h:¬(a=0/\3<=b/\b<=258/\1<=c/\c<=32768/\c<=said)):mayT (a,b,c) said=false:=by
 unfold mayT
 rw[if_neg h0]
 exact decide_eq_false h
theorem b1D(w:World)(t:Tok)(said:Nat)(hs:said<=1000000) :
  Calls Tryz.prog 92 #[tokV t,.int .i64 said] w fun e w'=>e=.returned (.bool (mayT t said))/\Keeps [] w w':=by
 obtain⟨a,b,c⟩:=t
 have ha:Keeps [] w (w.alloc (.cells #[.int .u8 a,.int .i64 b,.int .i64 c] 98)):=(Keeps.refl [] w).alloc _
 unfold tokV
 by_cases h0:b=0
 ·have HR:Hid (mayT (a,b,c) said=(c==0)):=by
   show _=_
   unfold mayT;rw[if_pos h0]
   by_cases h:c=0<;>simp[h]
  have x0:decide (b=0)=true:=by simpa using h0
  have x0':(b==0)=true:=by simpa using h0
  clear h0
  go_enter Tryz.func92,Tryz.ntmps92
  go_wp2_with fail
  go_ret
  exact⟨by rw[HR.out];rfl,ha⟩
 ·have x0:decide (b=0)=false:=by simpa using h0
  have x0':(b==0)=false:=by simpa using h0
  have NO:Hid (¬(a=0/\3<=b/\b<=258/\1<=c/\c<=32768/\c<=said)->mayT (a,b,c) said=false):=c1n (c0A h0)
  have H0:=c1n h0
  clear h0
  by_cases h1:a=0
  ·have x1:decide (a=0)=true:=by simpa using h1
   have x1':(a==0)=true:=by simpa using h1
   have H1:=c1n h1
   clear h1
   by_cases h2:3<=b
   ·have x2:decide (3<=b)=true:=by simpa using h2
    have H2:=c1n h2
    clear h2
    by_cases h3:b<=258
    ·have x3:decide (b<=258)=true:=by simpa using h3
     have H3:=c1n h3
     clear h3
     by_cases h4:1<=c
     ·have x4:decide (1<=c)=true:=by simpa using h4
      have H4:=c1n h4
      clear h4
      obtain⟨K,hK⟩:∃ K:Nat,(if (said:Int)<32768 then (said:Int) else 32768)=(K:Int):=⟨min said 32768,by split<;>omega⟩
      have HK:Hid (K=min said 32768):=c1n (by split at hK<;>omega)
      go_enter Tryz.func92,Tryz.ntmps92
      go_wp2_with fail
      go_ret
      refine⟨?_,ha⟩
      have e:mayT (a,b,c) said=decide (c<=(K:Int)):=by
       have:=H0.out;have:=H1.out;have:=H2.out;have:=H3.out;have:=H4.out;have hKK:=HK.out
       unfold mayT
       rw[if_neg H0.out]
       exact decide_eq_decide.2 (by dsimp only;omega)
      rw[e];rfl
     ·have x4:decide (1<=c)=false:=by simpa using h4
      have HR:=c1n (NO.out (by omega))
      clear h4
      go_enter Tryz.func92,Tryz.ntmps92
      go_wp2_with fail
      go_ret
      exact⟨by rw[HR.out];rfl,ha⟩
    ·have x3:decide (b<=258)=false:=by simpa using h3
     have HR:=c1n (NO.out (by omega))
     clear h3
     go_enter Tryz.func92,Tryz.ntmps92
     go_wp2_with fail
     go_ret
     exact⟨by rw[HR.out];rfl,ha⟩
   ·have x2:decide (3<=b)=false:=by simpa using h2
    have HR:=c1n (NO.out (by omega))
    clear h2
    go_enter Tryz.func92,Tryz.ntmps92
    go_wp2_with fail
    go_ret
    exact⟨by rw[HR.out];rfl,ha⟩
  ·have x1:decide (a=0)=false:=by simpa using h1
   have x1':(a==0)=false:=by simpa using h1
   have HR:=c1n (NO.out (by omega))
   clear h1
   go_enter Tryz.func92,Tryz.ntmps92
   go_wp2_with fail
   go_ret
   exact⟨by rw[HR.out];rfl,ha⟩
theorem a5m(w:World)(A:Option Addr)(n c:Nat)(ts:List Tok)(h:RT w A n ts)(hn:n<=140737488355328) :
  Calls Tryz.prog 59 #[.slice A n c] w fun e w'=>e=.returned (.int .i64 (a1n ts 0))/\Keeps [] w w':=by
 have H:=c1n h
 have HL:=c1n h.len
 clear h
 go_enter Tryz.func59,Tryz.ntmps59
 go_wp2_with fail
 go_loopw [3,8] (fun sv iv wr=>∃ (p s:Nat),p<=n/\s<=16384/\sv=.int .i64 s/\iv=.int .i64 p/\Hid (a1n ts 0=a1n (ts.drop p) s)/\Hid (Keeps [] w wr)) (fun _ iv _=>n-(intOf iv).toNat)
 case atStart=>exact⟨0,0,by omega,by omega,rfl,rfl,c1n (by simp),c1n (Keeps.refl _ _)⟩
 case round=>
  obtain⟨p,s,hp,hs,rfl,rfl,HC,HK⟩:=hrel
  by_cases hlt:p<n
  ·have e5:decide (p<n)=true:=by simpa using hlt
   obtain⟨tb,to',rfl⟩:=H.out.hd (by omega)
   obtain⟨p0,p1,p2⟩:=(H.out.keeps HK.out (a0a _)).cell tb to' rfl p hlt
   have HD:Hid (ts.drop p=tth ts p::ts.drop (p+1)):=c1n (b7a (by have:=HL.out;omega))
   generalize tth ts p=t at *
   have HRT:=fun w=>b1D w t s (by omega)
   have HX:=c1n HRT
   clear HRT
   obtain⟨a,b,d⟩:=t
   dsimp only at p0 p1 p2
   go_wp2_with fail
   refine (HX.out _).mono ?_
   rintro _ w1 ⟨rfl,hk1⟩
   have hbx:=(a0d wr 98 [.int .u8 a,.int .i64 b,.int .i64 d]).keeps hk1 (by simp)
   have b1:=hbx.cell 1
   simp only[c1q,c1p] at b1
   have HK1:=c1n ((HK.out.alloc (.cells #[.int .u8 a,.int .i64 b,.int .i64 d] 98)).trans hk1)
   clear hbx hk1 HX p0 p1 p2 HK
   have HE:=HC.out
   rw[HD.out,a1n] at HE
   clear HC
   by_cases hm:mayT (a,b,d) s=false
   ·rw[if_pos hm] at HE
    have HE2:=c1n HE
    clear HE
    rw[hm]
    go_wp2_with fail
    go_ret
    exact⟨by rw[HE2.out];rfl,HK1.out⟩
   ·rw[if_neg hm] at HE
    have hm':mayT (a,b,d) s=true:=by simpa using hm
    rw[hm']
    have hb0:=a9F hm'
    obtain⟨m,hm2⟩:=c1A hb0
    dsimp only at hm2
    subst hm2
    have hmx:(m:Int)<=258:=by
     unfold mayT at hm'
     split at hm'
     ·next h=>dsimp only at h;omega
     ·have:=of_decide_eq_true hm';dsimp only at this;omega
    dsimp only at HE
    rw[c1x] at HE
    obtain⟨K,hK⟩:∃ K:Nat,(if 1<(m:Int) then (m:Int) else 1)=(K:Int):=⟨max 1 m,by split<;>omega⟩
    have hK2:max 1 m=K:=by split at hK<;>omega
    rw[hK2] at HE
    have HE2:=c1n HE
    have s1:IntKind.i64.wrap ((s:Int)+(K:Int))=(s:Int)+(K:Int):=c1r _ (by omega)
    clear HE hm hm' hb0 hK2
    by_cases hbig:16384<s+K
    ·have x2:decide ((16384:Int)<(s:Int)+(K:Int))=true:=by simp;omega
     have HE3:=c1n (HE2.out.trans (if_pos hbig))
     clear HE2 hbig
     go_wp2_with fail
     go_ret
     exact⟨by rw[HE3.out];rfl,HK1.out⟩
    ·have x2:decide ((16384:Int)<(s:Int)+(K:Int))=false:=by simp;omega
     have HE3:=c1n (HE2.out.trans (if_neg hbig))
     clear HE2
     go_wp2_with fail
     go_roundw
     case rel=>exact⟨p+1,s+K,by omega,by omega,by go_num,by go_num,HE3,HK1⟩
     case measure=>simp[intOf];omega
  ·obtain rfl:p=n:=by omega
   have e5:decide (p<p)=false:=by simp
   have HE:Hid (a1n ts 0=0):=c1n (by rw[HC.out,List.drop_eq_nil_of_le (by have:=HL.out;omega)];rfl)
   go_wp2_with fail
   go_ret
   exact⟨by rw[HE.out];rfl,HK.out⟩
end Go.Proofs.YtghjlpechjggjaaGreatDoor
namespace Go.Proofs.YtghjlpechjggjaaGreatDoor
open Go.RowKit
theorem a7X (w:World) (gb g1 g2 g3 g4 n1 n2 n3 n4 c1 c2 c3 c4:Nat) (x1 x2 x3 x4:List Int) (h0:w.cell? ⟨gb,0,none⟩=some (.slice (some ⟨g1,0,none⟩) n1 c1)) (h1:w.cell? ⟨gb,1,none⟩=some (.slice (some ⟨g2,0,none⟩) n2 c2)) (h2:w.cell? ⟨gb,2,none⟩=some (.slice (some ⟨g3,0,none⟩) n3 c3)) (h3:w.cell? ⟨gb,3,none⟩=some (.slice (some ⟨g4,0,none⟩) n4 c4))
  (hx1:RI .i64 w (some ⟨g1,0,none⟩) n1 x1) (hx2:RI .i64 w (some ⟨g2,0,none⟩) n2 x2) (hx3:RI .i64 w (some ⟨g3,0,none⟩) n3 x3) (hx4:RI .i64 w (some ⟨g4,0,none⟩) n4 x4)
  (hn1:n1<=1000000) (hn2:n2<=1000000) (hn3:n3<=1000000) (hn4:n4<=1000000) :
  Calls Tryz.prog 60 #[.slice (some ⟨gb,0,none⟩) 4 4] w fun e w'=>∃ v,e=.returned v/\w'.ownsRow w.heap.size 3 1 v (n1+n2+n3+n4) (ints .i64 (x1++(x2++(x3++x4))))/\Below w.heap.size w w':=by
 have HX1:=c1n hx1
 have HX2:=c1n hx2
 have HX3:=c1n hx3
 have HX4:=c1n hx4
 have H0:=c1n h0
 have H1:=c1n h1
 have H2:=c1n h2
 have H3:=c1n h3
 have e1:decide ((n1:Int)<0)=false:=by simp
 have e2:decide ((n1:Int)+n2<0)=false:=by simp;omega
 have e3:decide ((n1:Int)+n2+n3<0)=false:=by simp;omega
 have e4:decide ((n1:Int)+n2+n3+n4<0)=false:=by simp;omega
 clear hx1 hx2 hx3 hx4
 go_enter Tryz.func60,Tryz.ntmps60
 go_wp2_with fail
 refine wp_loop_rounds 5 ?_
 rw[c1B]
 go_wp2_with fail
 rw[c1B]
 go_wp2_with fail
 rw[c1B]
 go_wp2_with fail
 rw[c1B]
 go_wp2_with fail
 rw[c1B]
 go_wp2_with fail
 rw[show ((n1:Int)+n2+n3+n4)=((n1+n2+n3+n4:Nat):Int) by omega]
 refine (a7q _ (n1+n2+n3+n4) (by omega)).mono ?_
 rintro _ w1 ⟨v,rfl,ho,hb⟩
 have HO:=c1n (ho w.heap.size (c1w _))
 have HB:=c1n hb
 have hz:=hb.size
 have h0:=(Keeps.of_below (S:=[]) hb).cell (by simp) H0.out
 clear h1 h2 h3
 clear ho hb e1 e2 e3 e4
 go_wp2_with fail
 refine wp_loop_rounds 5 ?_
 rw[c1B]
 go_wp2_with (at_builtin;refine a0Z rfl (.tmp 31) (.tmp 32) rfl w.heap.size _ _ [] rfl HO.out (some ⟨g1,0,none⟩) n1 c1 x1 rfl (HX1.out.keeps (Keeps.of_below (S:=[]) HB.out) (a0a _)) nofun (fun ad h=>⟨_,_,(c1s h).symm⟩) (by omega) hz ?_)
 intro v2 w2 ho hg
 have HO2:=c1n ho
 have hb2:=HB.out.grown hg hz (fun k hk=>a0m HO.out k hk)
 have HB2:=c1n hb2
 replace hz:=hb2.size
 clear h0
 have h1:=(Keeps.of_below (S:=[]) hb2).cell (by simp) H1.out
 clear ho hg hb2
 go_wp2_with fail
 rw[c1B]
 go_wp2_with (at_builtin;refine a0Z rfl (.tmp 31) (.tmp 32) rfl w.heap.size _ _ _ rfl HO2.out (some ⟨g2,0,none⟩) n2 c2 x2 rfl (HX2.out.keeps (Keeps.of_below (S:=[]) HB2.out) (a0a _)) nofun (fun ad h=>⟨_,_,(c1s h).symm⟩) (by omega) hz ?_)
 intro v3 w3 ho hg
 have HO3:=c1n ho
 have hb2:=HB2.out.grown hg hz (fun k hk=>a0m HO2.out k hk)
 have HB3:=c1n hb2
 replace hz:=hb2.size
 clear h1
 have h2:=(Keeps.of_below (S:=[]) hb2).cell (by simp) H2.out
 clear ho hg hb2
 go_wp2_with fail
 rw[c1B]
 go_wp2_with (at_builtin;refine a0Z rfl (.tmp 31) (.tmp 32) rfl w.heap.size _ _ _ rfl HO3.out (some ⟨g3,0,none⟩) n3 c3 x3 rfl (HX3.out.keeps (Keeps.of_below (S:=[]) HB3.out) (a0a _)) nofun (fun ad h=>⟨_,_,(c1s h).symm⟩) (by omega) hz ?_)
 intro v4 w4 ho hg
 have HO4:=c1n ho
 have hb2:=HB3.out.grown hg hz (fun k hk=>a0m HO3.out k hk)
 have HB4:=c1n hb2
 replace hz:=hb2.size
 clear h2
 have h3:=(Keeps.of_below (S:=[]) hb2).cell (by simp) H3.out
 clear ho hg hb2
 go_wp2_with fail
 rw[c1B]
 go_wp2_with (at_builtin;refine a0Z rfl (.tmp 31) (.tmp 32) rfl w.heap.size _ _ _ rfl HO4.out (some ⟨g4,0,none⟩) n4 c4 x4 rfl (HX4.out.keeps (Keeps.of_below (S:=[]) HB4.out) (a0a _)) nofun (fun ad h=>⟨_,_,(c1s h).symm⟩) (by omega) hz ?_)
 intro v5 w5 ho hg
 have HO5:=c1n ho
 have hb2:=HB4.out.grown hg hz (fun k hk=>a0m HO4.out k hk)
 have HB5:=c1n hb2
 replace hz:=hb2.size
 clear h3
 clear ho hg hb2
 go_wp2_with fail
 rw[c1B]
 go_wp2_with fail
 go_ret
 exact⟨_,rfl,HO5.out,HB5.out⟩
end Go.Proofs.YtghjlpechjggjaaGreatDoor
namespace Go.Proofs.YtghjlpechjggjaaGreatDoor
open Go.RowKit
theorem b1l(w:World)(m:Nat)(hm:m<=1000000) :
  Calls Tryz.prog 116 #[.int .u64 1,.int .u64 m] w fun e w'=>e=.returned (.tuple #[.int .u64 0,.int .u64 m])/\w=w':=by
 have e1:Go.bits .and .u64 1 4294967295=1:=by rw[a4T _ (by omega) (by omega)];rfl
 have e2:Go.bits .and .u64 0 4294967295=0:=by rw[a4T _ (by omega) (by omega)];rfl
 have e3:Go.bits .and .u64 (m:Int) 4294967295=m:=by rw[a4T _ (by omega) (by omega)];omega
 have e4:IntKind.u64.wrap (m:Int)=m:=a1g _ (by omega) (by omega)
 have e5:(m:Int)/4294967296=0:=by omega
 have e6:IntKind.u64.wrap 0=0:=rfl
 go_enter Tryz.func116,Tryz.ntmps116
 go_wp2
 go_ret2
 exact⟨rfl,rfl⟩
theorem b5z(w:World)(m:Nat)(hm:m<=1000000) :
  Calls Tryz.prog 94 #[.int .u64 1,.int .u64 m] w fun e w'=>e=.returned (.tuple #[.int .u64 0,.int .u64 m])/\w=w':=by
 go_enter Tryz.func94,Tryz.ntmps94
 go_wp2_with fail
 refine (b1l _ _ hm).mono ?_
 rintro e w' ⟨rfl,rfl⟩
 go_wp2_with fail
 go_ret2
 exact⟨rfl,rfl⟩
end Go.Proofs.YtghjlpechjggjaaGreatDoor
namespace Go.Proofs.YtghjlpechjggjaaGreatDoor
open Go.RowKit
theorem a8k(k:IntKind)(xs:List Int):∀ v∈ints k xs,v.oneCell'=true:=by
 intro u hu;simp only[ints,List.mem_map] at hu;obtain⟨x,_,rfl⟩:=hu;rfl
theorem b9N{w:World}{g t k m:Nat}{v:Int}(h:Blk w g t (ints .i64 (List.replicate k v++List.replicate m 0)))(j:Nat)(hj:j<=k) :
  ∀ i u,(ints .i64 (List.replicate j v))[i]? =some u->w.cell? ((⟨g,0,none⟩:Addr).add i)=some u:=by
 intro i u hu
 have hi:i<j:=by have:=(List.getElem?_eq_some_iff.1 hu).1;simpa [ints] using this
 rw[a0H,h.cell]
 rw[a0e] at hu ⊢
 rw[List.getElem?_append_left (by simp;omega)]
 simpa [hi,show i<k by omega] using hu
theorem b9M{k m q:Nat}{v:Int}(h2:q<=m-k)(h:k<m):k+(ints .i64 (List.replicate q v)).length<=(ints .i64 (List.replicate k v++List.replicate (m-k) 0)).length:=by
 simp[ints];omega
theorem b3V{k m q:Nat}{v:Int}(h2:q<=m-k)(h:k<m):splice (ints .i64 (List.replicate k v++List.replicate (m-k) 0)) k (ints .i64 (List.replicate q v))=ints .i64 (List.replicate (k+q) v++List.replicate (m-(k+q)) 0):=by
 have e1:List.replicate (k+q) v=List.replicate k v++List.replicate q v:=by simp
 rw[e1]
 simp only[splice,ints,c1N,List.map_replicate,List.length_replicate,c1y]
 rw[List.take_append_of_le_length (by simp),List.drop_append]
 simp
 omega
theorem a9K(w:World)(b c m:Nat)(v:Int)(hc:w.cell? ⟨b,0,none⟩=some (.int .i64 v))(hm1:1<=m)(hm:m<=1000000) :
  Calls Tryz.prog 61 #[.slice (some ⟨b,0,none⟩) 1 c,.int .i64 m] w fun e w'=>∃ g,e=.returned (.slice (some ⟨g,0,none⟩) m m)/\Blk w' g 3 (ints .i64 (List.replicate m v))/\w.heap.size<=g/\Below w.heap.size w w':=by
 have hbl:b<w.heap.size:=World.block_lt_of_cell? _ _ hc
 have e0:IntKind.u64.wrap (m:Int)=m:=a1g _ (by omega) (by omega)
 have e1:IntKind.u64.wrap 1=1:=rfl
 have e2:decide ((0:Int)<0)=false:=rfl
 have e4:decide ((m:Int)<0)=false:=by simp
 have hmk:=fun w=>a1c (P:=Tryz.prog) w 90 3 .i64 8 c1H a1r (m:Int) m rfl (by omega) (by omega)
 go_enter Tryz.func61,Tryz.ntmps61
 go_wp2_with fail
 refine (b5z _ _ hm).mono ?_
 rintro e w' ⟨rfl,rfl⟩
 have e3:decide ((9223372036854775807:Int)<(m:Int))=false:=by simp;omega
 go_wp2_with (with_reducible refine wpList_copy_splice rfl (.tmp 31) (.tmp 32) _ _ rfl 3 c1H b2P _ _ _ _ _ _ rfl rfl w.heap.size 0 (ints .i64 (List.replicate m 0)) 3 ?h1 (ints .i64 [v]) ?h2 ?h3 ?h4 ?h5 w.heap.size w ?h6 (c1w _) ?_)
 case h1=>exact a0d w _ _
 case h2=>exact (Nat.min_eq_left hm1).symm
 case h3=>
  intro _ j u hu
  match j,hu with
  | 0,hu=>
   simp[ints] at hu
   subst hu
   exact hc
  | j+1,hu=>simp[ints] at hu
 case h4=>simp[ints];omega
 case h5=>intro u hu;simp only[ints,List.mem_map] at hu;obtain⟨x,_,rfl⟩:=hu;rfl
 case h6=>exact (c1E _ _).alloc (c1w _) _
 intro w1 hg1 hb1
 have hB:Blk w1 w.heap.size 3 (splice (ints .i64 (List.replicate m 0)) 0 (ints .i64 [v])):=hg1.out
 have hsp:splice (ints .i64 (List.replicate m 0)) 0 (ints .i64 [v])=ints .i64 (List.replicate 1 v++List.replicate (m-1) 0):=by
  simp[splice,ints]
 rw[hsp] at hB
 clear hg1 hsp hmk hc
 have HB:=c1n hB
 have HW:=c1n hb1
 clear hB hb1 e0 e1 e2 e3 e4
 go_wp2_with fail
 go_loopw [8] (fun v8 wr=>∃ k:Nat,1<=k/\k<=m/\v8=.int .i64 k/\Hid (Blk wr w.heap.size 3 (ints .i64 (List.replicate k v++List.replicate (m-k) 0)))/\Hid (Below w.heap.size w wr)) (fun v8 _=>m-(intOf v8).toNat)
 case atStart=>exact⟨1,by omega,by omega,by go_num,HB,HW⟩
 case round=>
  clear HB HW
  obtain⟨k,hk1,hk,rfl,HB,HW⟩:=hrel
  by_cases hlt:k<m
  ·go_wp2_with fail
   have HLT:=c1n hlt
   obtain⟨q,hq⟩:∃ q,q=Nat.min k (m-k):=⟨_,rfl⟩
   have hq1:1<=q:=by rw[hq];exact Nat.le_min.2 ⟨hk1,by omega⟩
   have hq2:q<=m-k:=by rw[hq];exact Nat.min_le_right _ _
   have hq3:q<=k:=by rw[hq];exact Nat.min_le_left _ _
   have HQ:=c1n hq
   clear hq
   have hlen:(ints .i64 (List.replicate q v)).length=q:=by simp[ints]
   have HLEN:=c1n hlen
   have e2:IntKind.i64.wrap ((k:Int)+(q:Int))=(k:Int)+(q:Int):=c1r _ (by omega)
   have e9:¬m=k:=by omega
   have HN:=c1n e9
   go_region_law (refine step_copy_splice rfl (.tmp 41) (.tmp 44) _ _ rfl 3 c1H b2P (some ⟨w.heap.size,k,none⟩) (some ⟨w.heap.size,0,none⟩) (m-k) (m-k) k m (by simp[Act.eval,Act.put,HN.out]) (by simp[Act.eval,Act.put]) w.heap.size k (ints .i64 (List.replicate k v++List.replicate (m-k) 0)) 3 (by exact HB.out) (ints .i64 (List.replicate q v)) (by exact HLEN.out.trans HQ.out) (fun _=>⟨rfl,_,rfl,by exact b9N HB.out _ hq3⟩) (by exact b9M hq2 HLT.out) (by exact a8k _ _) w.heap.size w (by exact HW.out.drew) (c1w _) ?_;intro w4 hg4 hb4)
   all_goals
    have hB4:Blk w4 w.heap.size 3 (splice (ints .i64 (List.replicate k v++List.replicate (m-k) 0)) k (ints .i64 (List.replicate q v))):=hg4.out
    rw[b3V hq2 HLT.out] at hB4
    have HB4:=c1n hB4
    have HW4:=c1n hb4
    clear hB4 hb4 hg4 HB HW e9 hlen e2
    go_wp2_with fail
    go_roundw
    case rel=>exact⟨.int .i64 ((k:Int)+q),_,_,_,_,_,_,_,_,_,_,_,_,_,⟨k+q,by omega,by omega,by go_num,HB4,HW4⟩,rfl⟩
    case measure=>
     show m-(intOf (.int .i64 ((k:Int)+q))).toNat<m-(intOf (.int .i64 (k:Int))).toNat
     simp[intOf];omega
  ·go_wp2_with fail
   obtain rfl:k=m:=by omega
   go_ret
   exact⟨_,rfl,by simpa using HB.out,c1w _,HW.out⟩
theorem a0V(w:World)(b c m:Nat)(mi v:Int)(hmi:mi=m)(hc:w.cell? ⟨b,0,none⟩=some (.int .i64 v))(hm1:1<=m)(hm:m<=1000000) :
  Calls Tryz.prog 61 #[.slice (some ⟨b,0,none⟩) 1 c,.int .i64 mi] w fun e w'=>∃ g,e=.returned (.slice (some ⟨g,0,none⟩) m m)/\Blk w' g 3 (ints .i64 (List.replicate m v))/\w.heap.size<=g/\Below w.heap.size w w':=by
 subst hmi
 exact a9K w b c m v hc hm1 hm
end Go.Proofs.YtghjlpechjggjaaGreatDoor
namespace Go.Proofs.YtghjlpechjggjaaGreatDoor
open Go.RowKit Go.Maps Go.WideMaps
structure RW {α:Type} (k:Nat) (enc:α->List Value) (w:World) (A:Option Addr) (n:Nat) (ts:List α):Prop where
 len:ts.length=n
 hd:0<n->∃ b o,A=some ⟨b,o,none⟩
 cell:∀ b o,A=some ⟨b,o,none⟩->∀ (j:Nat) (hj:j<ts.length) (i:Nat),i<k->w.cell? ⟨b,o+j*k+i,none⟩=(enc ts[j])[i]?
theorem RW.keeps{α:Type}{k:Nat}{enc:α->List Value}{S:List Nat}{w w':World}{A:Option Addr}{n:Nat}{ts:List α}(he:∀ t,(enc t).length=k)(h:RW k enc w A n ts)(hk:Keeps S w w')(ho:Off S A):RW k enc w' A n ts:=
 ⟨h.len,h.hd,fun b o ha j hj i hi=>by
  have hc:=h.cell b o ha j hj i hi
  have hl:i<(enc ts[j]).length:=by rw[he];exact hi
  rw[c1t hl] at hc ⊢
  exact hk.cell (p:=⟨b,o+j*k+i,none⟩) (ho ⟨b,o,none⟩ ha) hc⟩
theorem c0K{α:Type}{k:Nat}{enc:α->List Value}(he:∀ t,(enc t).length=k)(ts:List α):(ts.flatMap enc).length=ts.length*k:=by
 induction ts with
 | nil=>simp
 | cons t ts ih=>rw[List.flatMap_cons,c1o,ih,he,List.length_cons,Nat.add_mul];omega
theorem b5Y{α:Type}{k:Nat}{enc:α->List Value}(he:∀ t,(enc t).length=k):∀ (ts:List α) (j:Nat) (hj:j<ts.length) (i:Nat),i<k->(ts.flatMap enc)[j*k+i]? =(enc ts[j])[i]?
 | [],j,hj,_,_=>by simp at hj
 | t::ts,0,hj,i,hi=>by
  rw[List.flatMap_cons,Nat.zero_mul,c1G,List.getElem?_append_left (by rw[he];exact hi)]
  rfl
 | t::ts,j+1,hj,i,hi=>by
  have ih:=b5Y he ts j (by simpa using hj) i hi
  rw[List.flatMap_cons,List.getElem?_append_right (by rw[he,Nat.add_mul];omega),he,show (j+1)*k+i-k=j*k+i by rw[Nat.add_mul];omega,ih]
  rfl
theorem b2H{α:Type}{k:Nat}{enc:α->List Value}(hk0:0<k)(he:∀ t,(enc t).length=k){w:World}{base:Nat}{e:TypeId}{v:Value}{n:Nat}{ts:List α}(h:w.ownsRow base e k v n (ts.flatMap enc)) :
  ∃ A c,v=.slice A n c/\RW k enc w A n ts/\n<=c/\(∀ a,A=some a->base<=a.block/\a.block<w.heap.size):=by
 obtain⟨h1,h2⟩:=h
 have hl:ts.length=n:=by rw[c0K he] at h1;exact Nat.eq_of_mul_eq_mul_right hk0 h1
 rcases h2 with⟨rfl,rfl⟩|⟨g,cap,cur,rfl,hb,hh,hc,hm,hs,ht⟩
 ·exact⟨none,0,rfl,⟨hl,by omega,by simp⟩,by omega,by simp⟩
 ·refine⟨_,_,rfl,⟨hl,fun _=>⟨_,_,rfl⟩,fun b o ha j hj i hi=>?_⟩,hc,fun a ha=>?_⟩
  ·injection ha with ha;injection ha with h1 h2 h3;subst h1;subst h2
   have hp:=b5Y he ts j hj i hi
   have hlt:j*k+i<n*k:=by
    have:(j+1)*k<=n*k:=Nat.mul_le_mul_right k (by omega)
    rw[Nat.add_mul] at this;omega
   have e1:cur.toList[j*k+i]? =(ts.flatMap enc)[j*k+i]? :=by rw[<-ht,List.getElem?_take,if_pos hlt]
   rw[c1G]
   unfold World.cell?
   simp only[hh]
   rw[<-c1L,e1]
   exact hp
  ·obtain rfl:=c1s ha
   exact⟨hb,(c1I.1 hh).1⟩
abbrev EN:=ByteArray×ByteArray
def ecells(e:EN):List Value:=[.string e.1,.string e.2]
theorem a0j(e:EN):(ecells e).length=2:=rfl
def keyL(s:ByteArray):Lit:=.string s.data.toList
theorem b5h(s t:ByteArray):(keyL s).sameKey (keyL t)=decide (s=t):=by
 show (s.data.toList==t.data.toList)=_
 by_cases h:s=t
 ·subst h;simp
 ·rw[decide_eq_false h,beq_eq_false_iff_ne]
  intro e
  apply h
  cases s;cases t
  simpa using e
theorem b9y(s:ByteArray):WideAt.IsKeyLit (keyL s):=by simp[keyL,WideAt.IsKeyLit]
theorem a4K:Keyed Tryz.prog 9:=string_keyed Tryz.underlying9
theorem a8H(w:World):(zeroValue 62).run Tryz.prog w=.ok (.agg #[]) w:=by kernel_rfl
def SetM(w:World)(B:Nat)(l:List ByteArray):Prop:=w.ownsMap (H:=Unit) Tryz.prog 9 unitElem B l.length (setOf (.agg []) (l.map keyL))
def inL(l:List ByteArray)(s:ByteArray):Bool:=l.any fun k=>decide (k=s)
theorem a5Y{l:List ByteArray}{s:ByteArray}:inL l s=true↔s∈l:=by
 unfold inL
 rw[List.any_eq_true]
 constructor
 ·rintro ⟨x,hx,he⟩;exact of_decide_eq_true he ▸ hx
 ·intro h;exact⟨s,h,decide_eq_true rfl⟩
theorem b6e(l:List ByteArray)(s:ByteArray):Maps.has (H:=Unit) (setOf (.agg []) (l.map keyL)) (keyL s)=inL l s:=by
 rw[has_setOf _ _ _ (fun x hx=>by obtain⟨t,-,rfl⟩:=List.mem_map.1 hx;exact b9y t),List.any_map]
 unfold inL
 congr 1
 funext t
 exact b5h t s
theorem SetM.lt{w:World}{B:Nat}{l:List ByteArray}(h:SetM w B l):B<w.heap.size:=World.ownsMap.lt h
theorem SetM.keeps{S:List Nat}{w w':World}{B:Nat}{l:List ByteArray}(h:SetM w B l)(hk:Keeps S w w')(hB:B∉S):SetM w' B l:=by
 obtain⟨es,clock,h1,h2,h3,h4⟩:=h
 exact⟨es,clock,hk.heap h1 hB,h2,h3,h4⟩
theorem b2O(w:World):SetM (w.alloc (.map #[] 0)) w.heap.size []:=World.ownsMap_made _ _ _ _
theorem SetM.snoc{w:World}{B:Nat}{l:List ByteArray}{s:ByteArray}(h:w.ownsMap (H:=Unit) Tryz.prog 9 unitElem B (l.length+1) ((setOf (.agg []) (l.map keyL)).put (keyL s) (.agg []))):SetM w B (l++[s]):=by
 unfold SetM
 rw[c1N,c1o,List.map_singleton,setOf_snoc]
 exact h
theorem b8I{s:ByteArray}(hs:s.size<=1000000000):keyOf Tryz.prog 9 (.string s)=some (keyL s):=keyOf_string_mk Tryz.underlying9 (by unfold maxLen;omega)
end Go.Proofs.YtghjlpechjggjaaGreatDoor
namespace Go.Proofs.YtghjlpechjggjaaGreatDoor
open Go.RowKit
theorem a7z {P:Program} {fn:Func} {p u v:Tmp} {ty:TypeId} (h:fn.results=#[.cell p ty,.tmp u,.tmp v]) (tmps:Array Value) (w:World) (g:Nat) (t:TypeId) (cs:Array Value) (fr:Nat×Nat) (d:TypeDesc)
  (hp:tmps.getD p undef=.pointer (some ⟨g,0,none⟩)) (hg:w.heap[g]? =some (.cells cs t fr))
  (hu:P.underlying ty=some d) (hd:(match d with|.struct _|.array _ _=>true|_=>false)=true) (hi:(P.info? ty).map (·.size)=some cs.size) :
  (results fn tmps).run P w=.ok (.tuple #[.agg cs,tmps.getD u undef,tmps.getD v undef]) w:=by
 have hp':tmps[p]?.getD undef=.pointer (some ⟨g,0,none⟩):=by simpa using hp
 simp[results,h,hp',asAddr,run_loadVar_row w g t ty cs fr d hg hu hd hi]
theorem a9O:(Tryz.prog.info? 51).map (·.size)=some 5:=by kernel_rfl
theorem a3V(w:World)(F o:Nat)(A:Option Addr)(n c:Nat)(xs:List Int)(p:Nat)(hf:FD w F o A n c p)(h:ZB w A n c xs)(hp:p+26<=n) :
  Calls Tryz.prog 104 #[.pointer (some ⟨F,o,none⟩)] w fun e w'=>∃ (b:Bool) (q:Nat),e=.returned (.tuple #[.agg #[.string ⟨#[]⟩,.int .i64 (zget xs (p+18) 4),.int .i64 (zget xs (p+14) 4),.int .u32 (zget xs (p+10) 4),.int .i64 (zget xs (p+4) 2)],.int .i64 (zget xs (p+22) 2),.bool b]) /\
   (b=true↔zget xs (p+2) 2=0/\zget xs (p+24) 2=0)/\(b=true->q=p+26)/\q<=p+26/\FD w' F o A n c q/\OnlyC F (o+1) w w':=by
 have HF:=c1n hf
 have HZ:=c1n h
 have hFw:=hf.lt
 obtain⟨c0,c1,f1,-⟩:=hf
 have s1:∀ q:Nat,q<=n->IntKind.i64.wrap ((q:Int)+2)=(q:Int)+2:=fun q hq=>c1r _ (by have:=h.len;omega)
 have s2:∀ q:Nat,q<=n->IntKind.i64.wrap ((q:Int)+4)=(q:Int)+4:=fun q hq=>c1r _ (by have:=h.len;omega)
 have S1:=c1n s1
 have S2:=c1n s2
 have t1:=s1 p (by omega)
 clear h s1 s2
 go_enter Tryz.func104,Tryz.ntmps104
 go_upto_region 2 with (fail)
 obtain⟨X,hX⟩:∃ X,X=w.heap.size:=⟨_,rfl⟩
 obtain⟨w2,hw2⟩:∃ z,z=(w.setCell ⟨F,o+1,none⟩ (.int .i64 ((p:Int)+2))).alloc (.cells #[.string ⟨#[]⟩,.int .i64 0,.int .i64 0,.int .u32 0,.int .i64 0] 51):=⟨_,rfl⟩
 rw[<-hw2,<-hX]
 have hwX:w.heap.size<=X:=by omega
 have hXF:F≠X:=by omega
 have hss:(w.setCell ⟨F,o+1,none⟩ (.int .i64 ((p:Int)+2))).heap.size=w.heap.size:=by simp[World.setCell]
 have ka:Keeps [] (w.setCell ⟨F,o+1,none⟩ (.int .i64 ((p:Int)+2))) w2:=by rw[hw2];exact (Keeps.refl [] _).alloc _
 have F2:Hid (FD w2 F o A n c (p+2)):=c1n ((HF.out.moved (Keeps.refl [] w) _ (by omega)).keeps ka (by simp))
 have O2:Hid (OnlyC F (o+1) w w2):=c1n (((OnlyC.refl w).set _).past ka hFw (by simp))
 have X2:Hid (Blk w2 X 51 [.string ⟨#[]⟩,.int .i64 0,.int .i64 0,.int .u32 0,.int .i64 0]):=c1n (by
  rw[hw2,hX,<-hss]
  exact a0d _ 51 [.string ⟨#[]⟩,.int .i64 0,.int .i64 0,.int .u32 0,.int .i64 0])
 have hXw:X<w2.heap.size:=X2.out.lt
 have HFO:=c1n HF.out.off
 have g2:=fun q (h:q+2<=xs.length)=>a2P HZ.out.byte (p:=q) h
 have g4:=fun q (h:q+4<=xs.length)=>a2q HZ.out.byte (p:=q) h
 have G2:=c1n g2
 have G4:=c1n g4
 have HLX:=c1n HZ.out.ri.len
 clear c0 c1 f1 t1 ka hw2 hX HF g2 g4 hss
 go_wp2_with fail
 refine (a0P w2 F o A n c xs (p+2) F2.out (HZ.out.keeps O2.out.keeps HFO.out) (by omega)).mono ?_
 rintro _ w3 ⟨rfl,hf3,ho3⟩
 have F3:=c1n hf3
 have O3:=c1n (O2.out.trans ho3)
 have X3:=c1n (X2.out.keeps ho3.keeps (by simp;omega))
 clear hf3 ho3 F2 O2 X2
 obtain⟨v3,hv3⟩:∃ v,v=zget xs (p+2) 2:=⟨_,rfl⟩
 rw[<-hv3]
 have V3:=c1n hv3
 clear hv3
 go_wp2_with fail
 refine (a0P w3 F o A n c xs (p+4) F3.out (HZ.out.keeps O3.out.keeps HFO.out) (by omega)).mono ?_
 rintro _ w4 ⟨rfl,hf4,ho4⟩
 have F4:=c1n hf4
 have O4:=c1n (O3.out.trans ho4)
 have X4:=c1n (X3.out.keeps ho4.keeps (by simp;omega))
 clear hf4 ho4 F3 O3 X3
 obtain⟨v4,hv4⟩:∃ v,v=zget xs (p+4) 2:=⟨_,rfl⟩
 rw[<-hv4]
 have V4:=c1n hv4
 clear hv4
 have cx5:=X4.out.cell 4
 simp only[c1q,c1p] at cx5
 have fx5:=X4.out.frozen 4
 go_upto_region 4 with (fail)
 obtain⟨w5,hw5⟩:∃ z,z=w4.setCell ⟨X,4,none⟩ (.int .i64 v4):=⟨_,rfl⟩
 rw[<-hw5]
 have kx5:Keeps [X] w4 w5:=by rw[hw5];exact (Keeps.refl [X] w4).setCell (p:=⟨X,4,none⟩) (.inl (by simp)) _
 have F5:=c1n (F4.out.keeps kx5 (by simp;omega))
 have O5:=c1n (O4.out.past kx5 hFw (by simp;omega))
 have X5:Hid (Blk w5 X 51 [.string ⟨#[]⟩,.int .i64 0,.int .i64 0,.int .u32 0,.int .i64 v4]):=c1n (by rw[hw5];exact X4.out.set 4 _)
 clear cx5 fx5 hw5 kx5 F4 O4 X4
 obtain⟨P6,hP6⟩:∃ P,P=p+6:=⟨_,rfl⟩
 obtain⟨d0,d1,d2,-⟩:=(show FD w5 F o A n c P6 by rw[hP6];exact F5.out)
 have HP6:=c1n hP6
 clear hP6
 have t6:=S2.out P6 (by have:=HP6.out;omega)
 go_upto_region 5 with (fail)
 obtain⟨w6,hw6⟩:∃ z,z=w5.setCell ⟨F,o+1,none⟩ (.int .i64 ((P6:Int)+4)):=⟨_,rfl⟩
 rw[<-hw6]
 have F6:Hid (FD w6 F o A n c (p+10)):=c1n (by rw[hw6];exact F5.out.moved (Keeps.refl [] _) _ (by have:=HP6.out;omega))
 have O6:Hid (OnlyC F (o+1) w w6):=c1n (by rw[hw6];exact O5.out.set _)
 have X6:Hid (Blk w6 X 51 [.string ⟨#[]⟩,.int .i64 0,.int .i64 0,.int .u32 0,.int .i64 v4]):=c1n (X5.out.keeps (show Keeps [F] w5 w6 by rw[hw6];exact (Keeps.refl [F] _).setCell (p:=⟨F,o+1,none⟩) (.inl (by simp)) _) (by simp;omega))
 clear d0 d1 d2 t6 hw6 F5 O5 X5
 go_wp2_with fail
 refine (a0U w6 F o A n c xs (p+10) F6.out (HZ.out.keeps O6.out.keeps HFO.out) (by omega)).mono ?_
 rintro _ w7 ⟨rfl,hf7,ho7⟩
 have F7:=c1n hf7
 have O7:=c1n (O6.out.trans ho7)
 have X7:=c1n (X6.out.keeps ho7.keeps (by simp;omega))
 clear hf7 ho7 F6 O6 X6
 obtain⟨v7,hv7⟩:∃ v,v=zget xs (p+10) 4:=⟨_,rfl⟩
 rw[<-hv7]
 have V7:=c1n hv7
 clear hv7
 have q7:IntKind.u32.wrap v7=v7:=IntWalk.u32_in _ (by have:=G4.out (p+10) (by rw[HLX.out];omega);have:=V7.out;omega)
 have cx8:=X7.out.cell 3
 simp only[c1q,c1p] at cx8
 have fx8:=X7.out.frozen 3
 go_upto_region 6 with (fail)
 obtain⟨w8,hw8⟩:∃ z,z=w7.setCell ⟨X,3,none⟩ (.int .u32 v7):=⟨_,rfl⟩
 rw[<-hw8]
 have kx8:Keeps [X] w7 w8:=by rw[hw8];exact (Keeps.refl [X] w7).setCell (p:=⟨X,3,none⟩) (.inl (by simp)) _
 have F8:=c1n (F7.out.keeps kx8 (by simp;omega))
 have O8:=c1n (O7.out.past kx8 hFw (by simp;omega))
 have X8:Hid (Blk w8 X 51 [.string ⟨#[]⟩,.int .i64 0,.int .i64 0,.int .u32 v7,.int .i64 v4]):=c1n (by rw[hw8];exact X7.out.set 3 _)
 clear cx8 fx8 hw8 kx8 F7 O7 X7
 go_wp2_with fail
 refine (a0U w8 F o A n c xs (p+14) F8.out (HZ.out.keeps O8.out.keeps HFO.out) (by omega)).mono ?_
 rintro _ w9 ⟨rfl,hf9,ho9⟩
 have F9:=c1n hf9
 have O9:=c1n (O8.out.trans ho9)
 have X9:=c1n (X8.out.keeps ho9.keeps (by simp;omega))
 clear hf9 ho9 F8 O8 X8
 obtain⟨v9,hv9⟩:∃ v,v=zget xs (p+14) 4:=⟨_,rfl⟩
 rw[<-hv9]
 have V9:=c1n hv9
 clear hv9
 have cx10:=X9.out.cell 2
 simp only[c1q,c1p] at cx10
 have fx10:=X9.out.frozen 2
 go_upto_region 7 with (fail)
 obtain⟨w10,hw10⟩:∃ z,z=w9.setCell ⟨X,2,none⟩ (.int .i64 v9):=⟨_,rfl⟩
 rw[<-hw10]
 have kx10:Keeps [X] w9 w10:=by rw[hw10];exact (Keeps.refl [X] w9).setCell (p:=⟨X,2,none⟩) (.inl (by simp)) _
 have F10:=c1n (F9.out.keeps kx10 (by simp;omega))
 have O10:=c1n (O9.out.past kx10 hFw (by simp;omega))
 have X10:Hid (Blk w10 X 51 [.string ⟨#[]⟩,.int .i64 0,.int .i64 v9,.int .u32 v7,.int .i64 v4]):=c1n (by rw[hw10];exact X9.out.set 2 _)
 clear cx10 fx10 hw10 kx10 F9 O9 X9
 go_wp2_with fail
 refine (a0U w10 F o A n c xs (p+18) F10.out (HZ.out.keeps O10.out.keeps HFO.out) (by omega)).mono ?_
 rintro _ w11 ⟨rfl,hf11,ho11⟩
 have F11:=c1n hf11
 have O11:=c1n (O10.out.trans ho11)
 have X11:=c1n (X10.out.keeps ho11.keeps (by simp;omega))
 clear hf11 ho11 F10 O10 X10
 obtain⟨v11,hv11⟩:∃ v,v=zget xs (p+18) 4:=⟨_,rfl⟩
 rw[<-hv11]
 have V11:=c1n hv11
 clear hv11
 have cx12:=X11.out.cell 1
 simp only[c1q,c1p] at cx12
 have fx12:=X11.out.frozen 1
 go_upto_region 8 with (fail)
 obtain⟨w12,hw12⟩:∃ z,z=w11.setCell ⟨X,1,none⟩ (.int .i64 v11):=⟨_,rfl⟩
 rw[<-hw12]
 have kx12:Keeps [X] w11 w12:=by rw[hw12];exact (Keeps.refl [X] w11).setCell (p:=⟨X,1,none⟩) (.inl (by simp)) _
 have F12:=c1n (F11.out.keeps kx12 (by simp;omega))
 have O12:=c1n (O11.out.past kx12 hFw (by simp;omega))
 have X12:Hid (Blk w12 X 51 [.string ⟨#[]⟩,.int .i64 v11,.int .i64 v9,.int .u32 v7,.int .i64 v4]):=c1n (by rw[hw12];exact X11.out.set 1 _)
 clear cx12 fx12 hw12 kx12 F11 O11 X11
 go_wp2_with fail
 refine (a0P w12 F o A n c xs (p+22) F12.out (HZ.out.keeps O12.out.keeps HFO.out) (by omega)).mono ?_
 rintro _ w13 ⟨rfl,hf13,ho13⟩
 have F13:=c1n hf13
 have O13:=c1n (O12.out.trans ho13)
 have X13:=c1n (X12.out.keeps ho13.keeps (by simp;omega))
 clear hf13 ho13 F12 O12 X12
 obtain⟨v13,hv13⟩:∃ v,v=zget xs (p+22) 2:=⟨_,rfl⟩
 rw[<-hv13]
 have V13:=c1n hv13
 clear hv13
 go_upto_region 9 with (fail)
 have x0:=X13.out.cell 0
 have x1:=X13.out.cell 1
 have x2:=X13.out.cell 2
 have x3:=X13.out.cell 3
 have x4:=X13.out.cell 4
 simp only[c1q,c1p] at x0 x1 x2 x3 x4
 have xf:=X13.out.frozen
 by_cases hv:v3=0
 ·have y0:(v3==0)=true:=by simpa using hv
  have HV:=c1n hv
  clear hv
  have HC:Hid (∀ w',Below w13.heap.size w13 w'->Calls Tryz.prog 75 #[.pointer (some ⟨F,o,none⟩)] w' fun e w2=>e=.returned (.int .i64 (zget xs (p+24) 2))/\FD w2 F o A n c (p+24+2)/\OnlyC F (o+1) w13 w2):=
   c1n (fun w' hb=>by
    have hk:=Keeps.of_below hb (S:=[])
    exact (a0P w' F o A n c xs (p+24) (F13.out.keeps hk (by simp)) ((HZ.out.keeps O13.out.keeps HFO.out).keeps hk (a0a _)) (by omega)).mono fun _ _ ⟨e,h1,h2⟩=>⟨e,h1,(OnlyC.of_keeps hk F13.out.lt).trans h2⟩)
  obtain⟨v14,hv14⟩:∃ v,v=zget xs (p+24) 2:=⟨_,rfl⟩
  rw[<-hv14] at HC
  have V14:=c1n hv14
  clear hv14
  go_cut [3,4] (fun u3 u4 wc=>u3=.int .i64 v13/\u4=.bool (v14==0)/\Hid (FD wc F o A n c (p+24+2))/\Hid (OnlyC F (o+1) w wc)/\Hid (Blk wc X 51 [.string ⟨#[]⟩,.int .i64 v11,.int .i64 v9,.int .u32 v7,.int .i64 v4]))
  case first=>
   go_region_with (first|(go_at_call 75;refine (HC.out _ (by repeat (first|exact c1E _ _|refine Below.drew ?_))).mono ?_;rintro _ w14 ⟨rfl,hf14,ho14⟩;have F14:=c1n hf14;have O14:=c1n ho14;have bX:=X13.out.keeps ho14.keeps (by simp;omega);have X14:=c1n bX;have x0':=bX.cell 0;have x1':=bX.cell 1;have x2':=bX.cell 2;have x3':=bX.cell 3;have x4':=bX.cell 4;simp only[c1q,c1p] at x0' x1' x2' x3' x4';have xf':=bX.frozen;clear hf14 ho14 bX))
   all_goals (
    clear HC
    go_wp2_with fail
    go_meet
    have kx:Keeps [X] w14 (((((w14.setCell ⟨X,0,none⟩ (.string ⟨#[]⟩)).setCell ⟨X,1,none⟩ (.int .i64 v11)).setCell ⟨X,2,none⟩ (.int .i64 v9)).setCell ⟨X,3,none⟩ (.int .u32 v7)).setCell ⟨X,4,none⟩ (.int .i64 v4)):=((((((Keeps.refl [X] w14).setCell (p:=⟨X,0,none⟩) (.inl (by simp)) _).setCell (p:=⟨X,1,none⟩) (.inl (by simp)) _).setCell (p:=⟨X,2,none⟩) (.inl (by simp)) _).setCell (p:=⟨X,3,none⟩) (.inl (by simp)) _).setCell (p:=⟨X,4,none⟩) (.inl (by simp)) _)
    exact⟨rfl,rfl,c1n (F14.out.keeps kx (by simp;omega)),c1n ((O13.out.trans O14.out).past kx hFw (by simp;omega)),c1n (((((X14.out.set 0 (.string ⟨#[]⟩)).set 1 (.int .i64 v11)).set 2 (.int .i64 v9)).set 3 (.int .u32 v7)).set 4 (.int .i64 v4))⟩)
  case rest=>
   obtain⟨rfl,rfl,FC,OC,XC⟩:=hcut
   clear HC x0 x1 x2 x3 x4 xf
   go_wp2_with fail
   refine bodyPost_ret (a7z rfl _ _ X 51 _ (0,0) _ rfl XC.out Tryz.underlying51 rfl a9O) rfl ?_
   refine⟨v14==0,p+26,by rw[<-V4.out,<-V7.out,<-V9.out,<-V11.out,<-V13.out];rfl,?_,fun _=>rfl,by omega,FC.out,OC.out⟩
   rw[<-V3.out,<-V14.out]
   have:=HV.out
   simp[this]
 ·have y0:(v3==0)=false:=by simpa using hv
  go_region
  clear hv
  go_wp2_with fail
  obtain⟨w14,hw14⟩:∃ z,z=(((((w13.setCell ⟨X,0,none⟩ (.string ⟨#[]⟩)).setCell ⟨X,1,none⟩ (.int .i64 v11)).setCell ⟨X,2,none⟩ (.int .i64 v9)).setCell ⟨X,3,none⟩ (.int .u32 v7)).setCell ⟨X,4,none⟩ (.int .i64 v4)).drew:=⟨_,rfl⟩
  rw[<-hw14]
  have kx:Keeps [X] w13 w14:=by rw[hw14];exact ((((((Keeps.refl [X] w13).setCell (p:=⟨X,0,none⟩) (.inl (by simp)) _).setCell (p:=⟨X,1,none⟩) (.inl (by simp)) _).setCell (p:=⟨X,2,none⟩) (.inl (by simp)) _).setCell (p:=⟨X,3,none⟩) (.inl (by simp)) _).setCell (p:=⟨X,4,none⟩) (.inl (by simp)) _).drew
  have bx:Blk w14 X 51 [.string ⟨#[]⟩,.int .i64 v11,.int .i64 v9,.int .u32 v7,.int .i64 v4]:=by
   rw[hw14]
   exact (((((X13.out.set 0 (.string ⟨#[]⟩)).set 1 (.int .i64 v11)).set 2 (.int .i64 v9)).set 3 (.int .u32 v7)).set 4 (.int .i64 v4)).keeps (Keeps.refl [] _).drew (by simp)
  refine bodyPost_ret (a7z rfl _ _ X 51 _ (0,0) _ rfl bx Tryz.underlying51 rfl a9O) rfl ?_
  refine⟨false,p+24,by rw[<-V4.out,<-V7.out,<-V9.out,<-V11.out,<-V13.out];rfl,?_,by simp,by omega,F13.out.keeps kx (by simp;omega),O13.out.past kx hFw (by simp;omega)⟩
  constructor
  ·intro h;cases h
  ·rintro ⟨h,-⟩;rw[<-V3.out] at h;simp[h] at y0
end Go.Proofs.YtghjlpechjggjaaGreatDoor
