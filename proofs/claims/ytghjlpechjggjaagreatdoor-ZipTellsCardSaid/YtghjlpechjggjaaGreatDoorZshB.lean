import Derived.Test.YtghjlpechjggjaaGreatDoorZshA
import Derived.OwnWalk
import Derived.Deep.AppendLies
import Derived.Deep.RegionLaw
import Derived.Laws.BitsAllLaws
import Derived.RangeFuncNested
import Derived.RangeFuncLeaves
import Derived.RegionTactic
import Derived.BigRegion
import Derived.ChangeAlike
import Derived.Laws.Rows
import Derived.Outline
set_option linter.defProp false
set_option linter.unnecessarySimpa false
set_option linter.unusedVariables false
set_option linter.unusedSimpArgs false
set_option linter.constructorNameAsVariable false
set_option maxRecDepth 100000
set_option maxHeartbeats 60000000
namespace Go.Proofs.YtghjlpechjggjaaGreatDoor
open Go.RowKit
private def c1n := @Lib.hid
private def c1o := @Array.getElem?_eq_some_iff
private def c1p := @World.putObj_heap_other
private def c1q := @List.length_append
private def c1r := @AllReady.cons
private def c1s := @Tryz.underlying191
private def c1t := @World.block_lt_of_cell?
private def c1u := @Nat.le_refl
private def c1v := @World.putObj_heap_same
private def c1w := @List.ext_getElem
private def c1x := @List.getElem_range
private def c1y := @AllReady.nil
private def c1z := @List.getElem_map
private def c1A := @List.take_of_length_le
private def c1B := @List.length_replicate
private def c1C := @wpAny_ready
private def c1D := @List.length_drop
private def c1E := @List.getElem?_eq_getElem
private def c1F := @List.map_cons
private def c1G := @List.sum_cons
private def c1H := @Nat.lt_of_lt_of_le
private def c1I := @List.length_cons
private def c1J := @Nat.add_assoc
private def c1K := @List.take_zero
open Go.RowKit
def pcells:List (Int×Int)->List Value
 | []=>[]
 | p::r=>.int .i64 p.1::.int .i64 p.2::pcells r
theorem a4k(xs ys:List (Int×Int)):pcells (xs++ys)=pcells xs++pcells ys:=by
 induction xs with
 | nil=>rfl
 | cons p r ih=>simp[pcells,ih]
theorem a4l(xs:List (Int×Int)):(pcells xs).length=xs.length*2:=by
 induction xs with
 | nil=>rfl
 | cons p r ih=>simp[pcells,ih];omega
theorem b3S(xs:List (Int×Int)):∀ j,j<xs.length->(pcells xs)[j*2]? =some (.int .i64 (pth xs j).1)/\(pcells xs)[j*2+1]? =some (.int .i64 (pth xs j).2):=by
 induction xs with
 | nil=>intro j hj;simp at hj
 | cons p r ih=>
  intro j hj
  cases j with
  | zero=>exact⟨rfl,rfl⟩
  | succ j=>
   have:=ih j (by simpa using hj)
   have e:(j+1)*2=j*2+1+1:=by omega
   rw[e]
   simpa [pcells,pth] using this
theorem a9u:(Tryz.prog.info? 163).map (fun i=>(i.zero,i.size,i.bytes))=some (some (.agg #[.int .i64 0,.int .i64 0]),2,16):=by kernel_rfl
theorem b2i {ops:Array Oper} {rest:List Oper} {o:Oper} {a:Act} {Q:Exit->Act->World->Prop} {w:World} (hgd:o.guard=none) (s x:Operand)
  (ho:o.op=.call { callee:=.builtin .append,args:=#[s,x],argTypes:=#[159,159] })
  (base:Nat) (v:Value) (n:Nat) (xs:List (Int×Int)) (hs:a.eval s=v) (hown:w.ownsRow base 163 2 v n (pcells xs))
  (g:Nat) (p q:Int) (hx:a.eval x=.slice (some ⟨g,0,none⟩) 1 1) (h0:w.cell? ⟨g,0,none⟩=some (.int .i64 p)) (h1:w.cell? ⟨g,1,none⟩=some (.int .i64 q))
  (hn:n<=1000000) (hbase:base<=w.heap.size)
  (h:∀ v' w',w'.ownsRow base 163 2 v' (n+1) (pcells (xs++[(p,q)]))->w.grownBy w' v.ownBlock->(∃ g' c',v'=.slice (some ⟨g',0,none⟩) (n+1) c')->wpList Tryz.prog ops Q rest (a.put o.dst v') w'):wpList Tryz.prog ops Q (o::rest) a w:=by
 obtain⟨i0,hi,hz0,hz1,hz2⟩:=info_parts a9u
 refine wpList_append_own _ hgd s x 159 ho base 163 i0 (.agg #[.int .i64 0,.int .i64 0]) 2 16 Tryz.underlying159 hi hz0 hz1 hz2 rfl (by decide) v n (pcells xs) hs hown ⟨g,0,none⟩ 1 1 [.int .i64 p,.int .i64 q] hx rfl ?_ ?_ (by unfold maxLen;omega) (by omega) hbase ?_
 ·intro j u hu
  rw[a0H]
  match j,hu with
  | 0,hu=>simp at hu;subst hu;exact h0
  | 1,hu=>simp at hu;subst hu;exact h1
  | j+2,hu=>simp at hu
 ·intro u hu
  simp at hu
  rcases hu with rfl|rfl<;>rfl
 ·intro v' w' h2 h3 _
  rw[a4k] at h
  refine h v' w' h2 h3 ?_
  rcases h2.2 with⟨_,h⟩|⟨g',c',_,h,_⟩
  ·omega
  ·exact⟨g',c',h⟩
def runN(v:Int):List Int->Nat
 | []=>0
 | x::r=>if x=v then runN v r+1 else 0
theorem b1E(v:Int)(l:List Int):runN v l<=l.length:=by
 induction l with
 | nil=>simp[runN]
 | cons x r ih=>simp only[runN,c1I];split<;>omega
theorem a6E(x:Int)(r:List Int):1<=runN x (x::r):=by simp[runN]
theorem b9O(v:Int)(l:List Int):∀ n,n<=l.length->(∀ j,j<n->l.getD j 0=v)->(n<l.length->l.getD n 0≠v)->runN v l=n:=by
 induction l with
 | nil=>intro n hn _ _;simp at hn;subst hn;rfl
 | cons x r ih=>
  intro n hn h1 h2
  cases n with
  | zero=>
   have:=h2 (by simp)
   simp at this
   simp[runN,this]
  | succ n=>
   have e:x=v:=by simpa using h1 0 (by omega)
   have:=ih n (by simpa using hn) (fun j hj=>by simpa using h1 (j+1) (by omega)) (fun h=>by simpa using h2 (by simpa using h))
   simp[runN,e,this]
theorem b7Z(v:Int)(l:List Int):∀ j,j<runN v l->l.getD j 0=v:=by
 induction l with
 | nil=>intro j hj;simp[runN] at hj
 | cons x r ih=>
  intro j hj
  simp only[runN] at hj
  split at hj
  ·cases j with
   | zero=>simpa
   | succ j=>simpa using ih j (by omega)
  ·omega
def reps(fr sym top n:Nat):List (Int×Int):=
 if h:0<fr/\0<top/\fr<=n then ((sym:Int),((min n top:Nat):Int)-(fr:Int))::reps fr sym top (n-min n top) else []
termination_by n
decreasing_by have:=h.1;have:=h.2;omega
def left(fr top n:Nat):Nat:=
 if h:0<fr/\0<top/\fr<=n then left fr top (n-min n top) else n
termination_by n
decreasing_by have:=h.1;have:=h.2;omega
theorem b1B{fr sym top n:Nat}(h0:0<fr)(h1:0<top)(h:fr<=n):reps fr sym top n=((sym:Int),((min n top:Nat):Int)-(fr:Int))::reps fr sym top (n-min n top):=by
 rw[reps,dif_pos ⟨h0,h1,h⟩]
theorem b1C{fr sym top n:Nat}(h:n<fr):reps fr sym top n=[]:=by
 rw[reps,dif_neg (by omega)]
theorem b1b{fr top n:Nat}(h0:0<fr)(h1:0<top)(h:fr<=n):left fr top n=left fr top (n-min n top):=by
 rw[left,dif_pos ⟨h0,h1,h⟩]
theorem b1c{fr top n:Nat}(h:n<fr):left fr top n=n:=by
 rw[left,dif_neg (by omega)]
theorem a1A(fr sym top n:Nat)(h0:0<fr)(h1:0<top):(reps fr sym top n).length+left fr top n<=n:=by
 induction n using Nat.strongRecOn with
 | _ n ih=>
  by_cases h:fr<=n
  ·rw[b1B h0 h1 h,b1b h0 h1 h]
   have:=ih (n-min n top) (by omega)
   simp only[c1I];omega
  ·rw[b1C (by omega),b1c (by omega)];simp
theorem a9L{fr sym top m r:Nat}{es:List (Int×Int)}(h0:0<fr)(h1:0<top)(h:fr<=r)(hA:reps fr sym top m=es++reps fr sym top r)(hL:left fr top m=left fr top r){q:Int}{r':Nat}(hq:q=((min r top:Nat):Int)-(fr:Int))(hr:r'=r-min r top) :
  reps fr sym top m=(es++[((sym:Int),q)])++reps fr sym top r'/\left fr top m=left fr top r':=by
 subst hq;subst hr
 rw[hA,hL,b1B h0 h1 h,b1b h0 h1 h]
 simp
theorem b5T{fr sym top m r:Nat}{es:List (Int×Int)}(h:r<fr)(hA:reps fr sym top m=es++reps fr sym top r)(hL:left fr top m=left fr top r) :
  reps fr sym top m=es/\left fr top m=r:=by
 rw[hA,hL,b1C h,b1c h];simp
def b0A(n:Nat):List (Int×Int):=reps 11 18 138 n++(reps 3 17 10 (left 11 138 n)++List.replicate (left 3 10 (left 11 138 n)) (0,0))
def b0m(v:Int)(n:Nat):List (Int×Int):=(v,0)::(reps 3 16 6 (n-1)++List.replicate (left 3 6 (n-1)) (v,0))
def a3h(v:Int)(n:Nat):List (Int×Int):=if v=0 then b0A n else b0m v n
theorem a7A(v:Int)(n:Nat)(h:1<=n):(a3h v n).length<=n:=by
 unfold a3h
 split
 ·have h1:=a1A 11 18 138 n (by omega) (by omega)
  have h2:=a1A 3 17 10 (left 11 138 n) (by omega) (by omega)
  simp only[b0A,c1q,c1B];omega
 ·have h1:=a1A 3 16 6 (n-1) (by omega) (by omega)
  simp only[b0m,c1I,c1q,c1B];omega
def packF(l:List Int):List (Int×Int):=
 match l with
 | []=>[]
 | v::r=>a3h v (runN v (v::r))++packF ((v::r).drop (runN v (v::r)))
termination_by l.length
decreasing_by have:=a6E v r;simp only[c1D,c1I];omega
theorem a6v:packF []=[]:=by rw[packF]
theorem a6u(l:List Int):(packF l).length<=l.length:=by
 induction h:l.length using Nat.strongRecOn generalizing l with
 | _ n ih=>
  match l,h with
  | [],_=>rw[a6v];simp
  | v::r,h=>
   have h1:=a6E v r
   have h2:=b1E v (v::r)
   have h3:=a7A v _ h1
   have h4:=ih _ (by rw[<-h,c1D];omega) ((v::r).drop (runN v (v::r))) rfl
   rw[packF,c1q]
   rw[c1D] at h4
   omega
theorem b7P(xs:List Int)(i n:Nat)(hi:i<xs.length)(hn:i+n<=xs.length)(h1:∀ j,j<n->xs.getD (i+j) 0=xs.getD i 0)(h2:i+n<xs.length->xs.getD (i+n) 0≠xs.getD i 0) :
  packF (xs.drop i)=a3h (xs.getD i 0) n++packF (xs.drop (i+n)):=by
 have e:xs.drop i=xs.getD i 0::xs.drop (i+1):=by
  rw[List.drop_eq_getElem_cons hi];simp[List.getD,hi]
 have hr:runN (xs.getD i 0) (xs.drop i)=n:=by
  refine b9O _ _ n (by rw[c1D];omega) (fun j hj=>?_) (fun h=>?_)
  ·have:=h1 j hj
   simpa [List.getD,List.getElem?_drop] using this
  ·have:=h2 (by rw[c1D] at h;omega)
   simpa [List.getD,List.getElem?_drop] using this
 rw[e] at hr ⊢
 rw[packF,hr]
 rw[<-e,List.drop_drop]
open Go.RowKit
def a8f:List Int:=[0,0,0,0,0,0,0,0,0,0,0,0,0,0,0,0,3,3,11]
def a4U:List Int:=[0,0,0,0,0,0,0,0,0,0,0,0,0,0,0,0,2,3,7]
def orderL:List Int:=[16,17,18,0,8,7,9,6,10,5,11,4,12,3,13,2,14,1,15]
structure Tabs (w:World):Prop where
 fro:RI .i64 w (some ⟨4,0,none⟩) 19 a8f
 wid:RI .i64 w (some ⟨2,0,none⟩) 19 a4U
 ord:RI .i64 w (some ⟨1,0,none⟩) 19 orderL
theorem RI.below{k:IntKind}{w w':World}{A:Option Addr}{n:Nat}{xs:List Int}(h:RI k w A n xs){B:Nat}(hb:Below B w w')(ho:∀ a,A=some a->a.block<B):RI k w' A n xs:=
 ⟨h.len,h.hd,fun b o ha j hj=>(hb.cell (p:=⟨b,o+j,none⟩) (ho ⟨b,o,none⟩ ha)).trans (h.cell b o ha j hj)⟩
def gtop:Nat:=max (max 4 2) 1+1
theorem glt:4<gtop/\2<gtop/\1<gtop:=by decide
theorem Tabs.below{w w':World}(h:Tabs w){B:Nat}(hb:Below B w w')(h3:gtop<=B):Tabs w':=
 ⟨h.fro.below hb (by rintro a ⟨⟩;exact c1H glt.1 h3),h.wid.below hb (by rintro a ⟨⟩;exact c1H glt.2.1 h3),h.ord.below hb (by rintro a ⟨⟩;exact c1H glt.2.2 h3)⟩
theorem Tabs.keeps{S:List Nat}{w w':World}(h:Tabs w)(hk:Keeps S w w')(h3:∀ x∈S,gtop<=x):Tabs w':=
 ⟨h.fro.keeps hk (by rintro a ⟨⟩ hx;exact absurd glt.1 (Nat.not_lt.2 (h3 _ hx))),h.wid.keeps hk (by rintro a ⟨⟩ hx;exact absurd glt.2.1 (Nat.not_lt.2 (h3 _ hx))),h.ord.keeps hk (by rintro a ⟨⟩ hx;exact absurd glt.2.2 (Nat.not_lt.2 (h3 _ hx)))⟩
theorem Tabs.size{w:World}(h:Tabs w):gtop<=w.heap.size:=by
 have h1:=c1t _ _ (h.fro.cell _ _ rfl 0 (by omega))
 have h2:=c1t _ _ (h.wid.cell _ _ rfl 0 (by omega))
 have h3:=c1t _ _ (h.ord.cell _ _ rfl 0 (by omega))
 simp only at h1 h2 h3
 simp only[gtop]
 omega
theorem b2R {ops:Array Oper} {o:Oper} {a:Act} {K:Act->World->Prop} {Q:Exit->Act->World->Prop} {E:Prop} {w:World} (hgd:o.guard=none) (s x:Operand)
  (ho:o.op=.call { callee:=.builtin .append,args:=#[s,x],argTypes:=#[159,159] })
  (base:Nat) (v:Value) (n:Nat) (xs:List (Int×Int)) (hs:a.eval s=v) (hown:w.ownsRow base 163 2 v n (pcells xs))
  (g:Nat) (p q:Int) (hx:a.eval x=.slice (some ⟨g,0,none⟩) 1 1) (h0:w.cell? ⟨g,0,none⟩=some (.int .i64 p)) (h1:w.cell? ⟨g,1,none⟩=some (.int .i64 q))
  (hn:n<=1000000) (hbase:base<=w.heap.size)
  (h:∀ g' c' w',w'.ownsRow base 163 2 (.slice (some ⟨g',0,none⟩) (n+1) c') (n+1) (pcells (xs++[(p,q)]))->w.grownBy w' v.ownBlock->K (a.put o.dst (.slice (some ⟨g',0,none⟩) (n+1) c')) w') :
  if Region.wanted o (yielded ops a.tmps)=true then Oper.wp Tryz.prog o a w K Q else E:=by
 obtain⟨i0,hi,hz0,hz1,hz2⟩:=info_parts a9u
 refine step_append_lies _ hgd s x 159 ho base 163 i0 (.agg #[.int .i64 0,.int .i64 0]) 2 16 Tryz.underlying159 hi hz0 hz1 hz2 rfl (by decide) v n (pcells xs) hs hown ⟨g,0,none⟩ 1 1 [.int .i64 p,.int .i64 q] hx rfl ?_ ?_ (by omega) (by unfold maxLen;omega) (by omega) hbase _ rfl ?_
 ·intro j u hu
  rw[a0H]
  match j,hu with
  | 0,hu=>simp at hu;subst hu;exact h0
  | 1,hu=>simp at hu;subst hu;exact h1
  | j+2,hu=>simp at hu
 ·intro u hu
  simp at hu
  rcases hu with rfl|rfl<;>rfl
 ·intro g' cap w' h2 h3 _ _
  rw[a4k] at h
  exact h g' cap w' h2 h3
theorem a3H (w:World) (B n fr sym top:Nat) (v:Value) (len:Nat) (out:List (Int×Int)) (ht:Tabs w) (hB:gtop<=B) (hc:w.cell? ⟨B,0,none⟩=some v) (hf:w.frozen? ⟨B,0,none⟩=false)
  (hown:w.ownsRow (B+1) 163 2 v len (pcells out)) (hs:sym<19) (hfr:nth a8f sym=fr) (h0:0<fr) (h1:0<top) (hft:fr<=top) (hl:len+n<=100000) (ht2:top<=1000) :
  Calls Tryz.prog 125 #[.int .i64 n,.int .i64 sym,.int .i64 top,.pointer (some ⟨B,0,none⟩)] w fun e w'=>∃ v',e=.returned (.int .i64 (left fr top n))/\w'.cell? ⟨B,0,none⟩=some v'/\w'.frozen? ⟨B,0,none⟩=false /\
   w'.ownsRow (B+1) 163 2 v' (len+(reps fr sym top n).length) (pcells (out++reps fr sym top n))/\Below B w w':=by
 have hBw:B<w.heap.size:=c1t _ _ hc
 have HT:=c1n ht
 have HO:=c1n hown
 have HF:=c1n hfr
 clear ht hown hfr
 go_enter Tryz.func125,Tryz.ntmps125
 go_wp2_with fail
 go_loopw [0,8] (fun v0 v8 wr=>∃ (r:Nat) (es:List (Int×Int)) (u:Value),v0=.int .i64 r/\Hid (reps fr sym top n=es++reps fr sym top r)/\Hid (left fr top n=left fr top r)/\len+es.length+r<=len+n/\wr.cell? ⟨B,0,none⟩=some u/\wr.frozen? ⟨B,0,none⟩=false/\Hid (wr.ownsRow (B+1) 163 2 u (len+es.length) (pcells (out++es)))/\Hid (Below B w wr)) (fun v0 _ _=>(intOf v0).toNat)
 case atStart=>exact⟨n,[],v,rfl,c1n rfl,c1n rfl,by simp,hc,hf,c1n (by simpa using HO.out),c1n (Below.refl _ _)⟩
 case round=>
  clear HO hc hf
  obtain⟨r,es,u,rfl,HA,HL2,hlen,hc,hf,HO,HW⟩:=hrel
  have hT:=HT.out.below HW.out hB
  have hfc:=hT.fro.cell _ _ rfl sym hs
  rw[Nat.zero_add,HF.out] at hfc
  have hsz:=HW.out.size
  have HTr:=c1n hT
  clear hT
  have hs2:(sym:Int)<19:=by omega
  have hBr:B<wr.heap.size:=by omega
  have hne:∀ k,u.ownBlock=some k->B<k:=fun k hk=>(HO.out.lt k hk).1
  have cellB:∀ (o:Obj) (w1:World),(wr.alloc o).drew.grownBy w1 u.ownBlock->w1.cell? ⟨B,0,none⟩=some u:=fun o w1 hg=>
   (World.cell?_of_block (w:=(wr.alloc o).drew) (a:=⟨B,0,none⟩) (hg.block B (by simp;omega) (fun e=>by have:=hne B e.symm;omega))).trans (((Keeps.refl [] wr).alloc o).cell (by simp) hc)
  have frozenB:∀ (o:Obj) (w1:World),(wr.alloc o).drew.grownBy w1 u.ownBlock->w1.frozen? ⟨B,0,none⟩=false:=fun o w1 hg=>
   (World.frozen?_of_block (w:=(wr.alloc o).drew) (a:=⟨B,0,none⟩) (hg.block B (by simp;omega) (fun e=>by have:=hne B e.symm;omega))).trans ((((Keeps.refl [] wr).alloc o).frozen (p:=⟨B,0,none⟩) hBr (by simp)).trans hf)
  have CB:=c1n cellB
  have FB:=c1n frozenB
  have NE:=c1n hne
  clear cellB frozenB hne
  by_cases h11:fr<=r
  ·have e1:decide ((fr:Int)<=(r:Int))=true:=by simp;omega
   rcases (by omega:¬((top:Int)<(r:Int))∨(top:Int)<(r:Int)) with h138|h138
   ·go_wp2_with fail
    have e2:IntKind.i64.wrap ((r:Int)-(fr:Int))=(r:Int)-(fr:Int):=IntWalk.i64_in _ (by omega)
    go_region_law (refine b2R rfl (.tmp 17) (.tmp 25) rfl (B+1) _ _ _ rfl (HO.out.alloc _) wr.heap.size sym ((r:Int)-fr) rfl (by simp) (by simp[e2]) (by omega) (by simp;omega) ?_;intro g' c' w1 h1 hg;have hc1:=CB.out _ w1 hg;have hf1:=FB.out _ w1 hg)
    all_goals
     have HO1:=c1n (ownsRow_setCell_below h1 (a:=⟨B,0,none⟩) (Nat.lt_succ_self B) (.slice (some ⟨g',0,none⟩) (len+es.length+1) c'))
     have HB1:=c1n (((((HW.out.alloc (by omega) _).drew).grown hg (by simp;omega) (fun k hk=>Nat.le_of_lt (NE.out k hk)))).setCell (p:=⟨B,0,none⟩) (c1u B) (.slice (some ⟨g',0,none⟩) (len+es.length+1) c'))
     clear HO HW h1 hg CB FB NE
     go_wp2_with fail
     go_roundw
     case rel=>
      have hs:=a9L h0 (by omega) h11 HA.out HL2.out (q:=(r:Int)-fr) (r':=0) (by omega) (by omega)
      exact⟨0,es++[((sym:Int),(r:Int)-fr)],.slice (some ⟨g',0,none⟩) (len+es.length+1) c',by go_num,c1n hs.1,c1n hs.2,by first|(simp;omega)|omega,World.cell?_setCell_same' _ _ _ (by rw[hc1];rfl),by simpa using hf1,c1n (by simpa [c1J] using HO1.out),HB1⟩
     case measure=>simp[intOf];omega
   ·go_wp2_with fail
    have e2:IntKind.i64.wrap ((top:Int)-(fr:Int))=(top:Int)-(fr:Int):=IntWalk.i64_in _ (by omega)
    go_region_law (refine b2R rfl (.tmp 17) (.tmp 25) rfl (B+1) _ _ _ rfl (HO.out.alloc _) wr.heap.size sym ((top:Int)-fr) rfl (by simp) (by simp[e2]) (by omega) (by simp;omega) ?_;intro g' c' w1 h1 hg;have hc1:=CB.out _ w1 hg;have hf1:=FB.out _ w1 hg)
    all_goals
     have HO1:=c1n (ownsRow_setCell_below h1 (a:=⟨B,0,none⟩) (Nat.lt_succ_self B) (.slice (some ⟨g',0,none⟩) (len+es.length+1) c'))
     have HB1:=c1n (((((HW.out.alloc (by omega) _).drew).grown hg (by simp;omega) (fun k hk=>Nat.le_of_lt (NE.out k hk)))).setCell (p:=⟨B,0,none⟩) (c1u B) (.slice (some ⟨g',0,none⟩) (len+es.length+1) c'))
     clear HO HW h1 hg CB FB NE
     go_wp2_with fail
     go_roundw
     case rel=>
      have hs:=a9L h0 (by omega) h11 HA.out HL2.out (q:=(top:Int)-fr) (r':=r-top) (by omega) (by omega)
      exact⟨r-top,es++[((sym:Int),(top:Int)-fr)],.slice (some ⟨g',0,none⟩) (len+es.length+1) c',by go_num,c1n hs.1,c1n hs.2,by first|(simp;omega)|omega,World.cell?_setCell_same' _ _ _ (by rw[hc1];rfl),by simpa using hf1,c1n (by simpa [c1J] using HO1.out),HB1⟩
     case measure=>simp[intOf];omega
  ·have e1:decide ((fr:Int)<=(r:Int))=false:=by simp;omega
   go_wp2_with fail
   go_ret
   have hs:=b5T (by omega) HA.out HL2.out
   rw[hs.1,hs.2]
   exact⟨_,rfl,hc,hf,HO.out,HW.out⟩
open Go.RowKit
theorem a9i(r:Nat):crcGo r []=r:=by cases r<;>rfl
def stepsL:List Int:=crcTab.map fun n:Nat=>(n:Int)
structure Tabz (w:World):Prop where
 lens:Tabs w
 sum:RI .u32 w (some ⟨0,0,none⟩) 16 stepsL
def gtopz:Nat:=max gtop (0+1)
theorem gltz:0<gtopz/\gtop<=gtopz:=by decide
theorem Tabz.keeps{S:List Nat}{w w':World}(h:Tabz w)(hk:Keeps S w w')(h3:∀ x∈S,gtopz<=x):Tabz w':=
 ⟨h.lens.keeps hk (fun x hx=>Nat.le_trans gltz.2 (h3 x hx)),h.sum.keeps hk (by rintro a ⟨⟩ hx;exact absurd gltz.1 (Nat.not_lt.2 (h3 _ hx)))⟩
theorem Tabz.size{w:World}(h:Tabz w):gtopz<=w.heap.size:=by
 have h1:=h.lens.size
 have h2:=c1t _ _ (h.sum.cell _ _ rfl 0 (by omega))
 exact Nat.max_le.2 ⟨h1,h2⟩
theorem a9X{w:World}(h:RI .u32 w (some ⟨0,0,none⟩) 16 stepsL){m:Nat}(hm:m<16):w.cell? ⟨0,m,none⟩=some (.int .u32 ((crcTab.getD m 0:Nat):Int)):=by
 have:=h.cell _ _ rfl m hm
 rw[Nat.zero_add] at this
 rw[this]
 congr 2
 have hl:m<stepsL.length:=hm
 rw[a0q hl]
 simp[stepsL,show m<crcTab.length from hm]
theorem b8U:∀ m,m<16->crcTab.getD m 0<4294967296:=by decide
theorem b2d(w:World)(A:Option Addr)(n c:Nat)(xs:List Int)(hx:RI .u8 w A n xs)(hb:∀ x∈xs,0<=x/\x<=255)(hn:n<=1000000000)(hT:Tabz w) :
  Calls Tryz.prog 51 #[.int .u32 0,.slice A n c] w fun e w'=>e=.returned (.int .u32 ((crcF xs:Nat):Int))/\Dr w w':=by
 have HX:=c1n hx
 have HB:=c1n hb
 have HL:Hid (xs.length=n):=c1n hx.len
 have HS:=c1n hT.sum
 clear hx hb hT
 have n0:bits .xor .u32 IntKind.u32.max 0=4294967295:=by decide +kernel
 go_enter Tryz.func51,Tryz.ntmps51
 go_wp2_with fail
 go_loopw [5,12] (fun rv iv wr=>∃ (i r:Nat),i<=n/\r<4294967296/\rv=.int .u32 (r:Int)/\iv=.int .i64 i/\Hid (r=crcGo 4294967295 (xs.take i))/\Hid (Dr w wr)) (fun _ iv _=>n-(intOf iv).toNat)
 case atStart=>exact⟨0,4294967295,by omega,by omega,by simp,rfl,c1n (by rw[c1K,a9i]),c1n ⟨0,rfl⟩⟩
 case round=>
  obtain⟨i,r,hi,hr,rfl,rfl,HR,HD⟩:=hrel
  by_cases hlt:i<n
  ·have e0:decide (i<n)=true:=by simpa using hlt
   obtain⟨b,o,rfl,hc⟩:=(HX.out.keeps (HD.out.keeps (S:=[])) (a0a _)).at hlt
   have hbx:=HB.out (nth xs i) (by rw[a0q (by rw[HL.out];exact hlt)];exact List.getElem_mem _)
   have HST:=HS.out.keeps (HD.out.keeps (S:=[])) (a0a _)
   obtain⟨x,hxx⟩:∃ x:Nat,nth xs i=(x:Int):=⟨(nth xs i).toNat,by omega⟩
   have hstep:crcGo 4294967295 (xs.take (i+1))=bitN 8 (r ^^^ x):=by
    rw[List.take_succ_eq_append_getElem (by rw[HL.out];exact hlt),a1L,<-HR.out,<-a0q (by rw[HL.out];exact hlt),hxx];rfl
   rw[hxx] at hc hbx
   have hx8:x<256:=by omega
   have c1:bits .xor .u32 (r:Int) (x:Int)=((r ^^^ x:Nat):Int):=u32_xor_nat r x hr (by omega)
   have hr1:r ^^^ x<4294967296:=a2j hr (by omega)
   rw[<-b5D] at hstep
   generalize r ^^^ x=r1 at *
   have hn1:nib r1=r1/16 ^^^ crcTab.getD (r1%16) 0:=rfl
   have a1:bits .and .u32 (r1:Int) 15=((r1%16:Nat):Int):=by
    have:=u32_and_nat r1 15 hr1 (by decide)
    rw[show r1 &&& 15=r1%16 from Nat.and_two_pow_sub_one_eq_mod r1 4] at this
    exact this
   have d1:(r1:Int)/16=((r1/16:Nat):Int):=by omega
   have hm1:r1%16<16:=Nat.mod_lt _ (by decide)
   have t1:=a9X HST hm1
   have ht1:=b8U _ hm1
   generalize crcTab.getD (r1%16) 0=T1 at *
   have x1:bits .xor .u32 ((r1/16:Nat):Int) (T1:Int)=((nib r1:Nat):Int):=by rw[hn1];exact u32_xor_nat _ _ (by omega) ht1
   have hr2:nib r1<4294967296:=by rw[hn1];exact a2j (by omega) ht1
   clear hn1
   generalize hq1:r1/16=q1 at *
   generalize hp1:r1%16=p1 at *
   generalize nib r1=r2 at *
   have hn2:nib r2=r2/16 ^^^ crcTab.getD (r2%16) 0:=rfl
   have a2:bits .and .u32 (r2:Int) 15=((r2%16:Nat):Int):=by
    have:=u32_and_nat r2 15 hr2 (by decide)
    rw[show r2 &&& 15=r2%16 from Nat.and_two_pow_sub_one_eq_mod r2 4] at this
    exact this
   have d2:(r2:Int)/16=((r2/16:Nat):Int):=by omega
   have hm2:r2%16<16:=Nat.mod_lt _ (by decide)
   have t2:=a9X HST hm2
   have ht2:=b8U _ hm2
   generalize crcTab.getD (r2%16) 0=T2 at *
   have x2:bits .xor .u32 ((r2/16:Nat):Int) (T2:Int)=((nib r2:Nat):Int):=by rw[hn2];exact u32_xor_nat _ _ (by omega) ht2
   have hr3:nib r2<4294967296:=by rw[hn2];exact a2j (by omega) ht2
   clear hn2
   generalize hq2:r2/16=q2 at *
   generalize hp2:r2%16=p2 at *
   generalize nib r2=r3 at *
   clear hq1 hp1 hq2 hp2
   have HSTEP:=c1n hstep.symm
   clear hstep HR hbx HST
   go_wp2_with fail
   go_roundw
   case rel=>exact⟨i+1,r3,by omega,hr3,rfl,by go_num,HSTEP,HD⟩
   case measure=>simp[intOf];omega
  ·obtain rfl:i=n:=by omega
   have e0:decide (i<i)=false:=by simp
   have hre:bits .xor .u32 IntKind.u32.max (r:Int)=((crcF xs:Nat):Int):=by
    rw[show IntKind.u32.max=4294967295 from rfl]
    have h1:=u32_xor_nat 4294967295 r (by decide) hr
    have h2:xs.take i=xs:=c1A (by rw[HL.out];omega)
    have h3:=HR.out
    rw[h2] at h3
    unfold crcF
    rw[<-h3]
    exact h1
   go_wp2_with fail
   go_ret
   exact⟨rfl,HD.out⟩
theorem b0d(w:World)(A:Option Addr)(n c:Nat)(xs:List Int)(hx:RI .u8 w A n xs)(hb:∀ x∈xs,0<=x/\x<=255)(hn:n<=1000000000)(hT:Tabz w) :
  Calls Tryz.prog 28 #[.slice A n c] w fun e w'=>e=.returned (.int .u32 ((crcF xs:Nat):Int))/\Dr w w':=by
 have HC:=c1n (b2d w A n c xs hx hb hn hT)
 clear hx hb hT
 go_enter Tryz.func28,Tryz.ntmps28
 go_wp2_with fail
 refine HC.out.mono ?_
 rintro _ w' ⟨rfl,hd⟩
 have HD:=c1n hd
 clear hd
 go_wp2_with fail
 go_ret
 exact⟨rfl,HD.out⟩
open Go.RowKit
structure KeepsOn (C:Nat->Prop) (W W':World):Prop where
 size:W.heap.size<=W'.heap.size
 block:∀ k,k<W.heap.size->C k->W'.heap[k]? =W.heap[k]?
theorem KeepsOn.trans{C:Nat->Prop}{A B D:World}(h:KeepsOn C A B)(k:KeepsOn C B D):KeepsOn C A D:=
 ⟨Nat.le_trans h.size k.size,fun i hi hc=>(k.block i (c1H hi h.size) hc).trans (h.block i hi hc)⟩
theorem KeepsOn.mono{C C':Nat->Prop}{A B:World}(h:KeepsOn C A B)(hc:∀ k,C' k->C k):KeepsOn C' A B:=⟨h.size,fun i hi h'=>h.block i hi (hc i h')⟩
theorem KeepsOn.of{C:Nat->Prop}{S:List Nat}{A B:World}(h:Keeps S A B)(hc:∀ k,C k->k∉S):KeepsOn C A B:=⟨h.size,fun i hi h'=>h.block i hi (hc i h')⟩
theorem a0x(W:World)(l:Nat)(o:Obj):Keeps [l] W (W.putObj l o):=
 ⟨rfl,rfl,rfl,by simp,fun k hk hn=>c1p (by simpa using hn)⟩
def Iter{α:Type}(P:Program)(gf:Nat)(lb:Array Value)(encs:α->Array Value)(toks:List α)(C:Nat->Prop)(w0:World):Prop:=
 ∀ (l:Nat) (J:List α->World->Prop) (W:World),Keeps [] w0 W->W.heap.size=w0.heap.size+2->(∀ s W1 W2,J s W1->Keeps [w0.heap.size+2,w0.heap.size+3] W1 W2->J s W2) ->
  (∀ pre x W1,J pre W1->pre.length<toks.length->w0.heap.size+4<=W1.heap.size->YieldAt Fence.wide 0 P l (encs x) W1 fun e W'=>e=.returned (.bool true)/\J (pre++[x]) W'/\KeepsOn C W1 W') ->
  J [] W->CallsIn Fence.wide 0 P gf (#[.func (.yield l) #[] #[]]++lb) W fun e W'=>(∃ v,e=.returned v)/\J toks W'
def b9s{α:Type}(C:Nat->Prop)(I:List α->World->Prop)(xs:List α)(W:World):Exit->Act->World->Prop
 | .normal,_,W'=>I xs W'/\KeepsOn C W W'
 | _,_,_=>False
theorem b5R {P:Program} {α:Type} {g:Operand} {ps:Array Tmp} {assign body:Code} {Q:Exit->Act->World->Prop} {a:Act} {w:World} {gf:Nat} {lb:Array Value}
  (hg:a.eval g=.func (.func gf) #[] lb) (eg:∀ args w,(callFunc gf args).run P w=.ok (.enter gf args) w)
  {encs:α->Array Value} {toks:List α} {C:Nat->Prop} (hC:∀ k,C k->k≠w.heap.size+1) (hseq:Iter P gf lb encs toks C w) (hps:∀ x,(encs x).size=ps.size)
  (I:List α->World->Prop) (hI:∀ s W1 W2,I s W1->Keeps [w.heap.size,w.heap.size+1,w.heap.size+2,w.heap.size+3] W1 W2->I s W2) (h0:I [] w)
  (Ax:α->World->Act->World->Prop) (hAx:∀ x W a' W1,Ax x W a' W1->Keeps [] W W1)
  (hassign:∀ (l:Nat) (pre:List α) (x:α) (W:World) (K:Act->World->Prop),I pre W->w.heap.size+4<=W.heap.size->(∀ a' W1,Ax x W a' W1->K a' W1) ->
   assign.wpIn (Fence.wide.inRound l) 0 P (Exit.then K (fun _ _ _=>False)) { tmps:=(ps.zip (encs x)).foldl (fun t (p,v)=>t.setIfInBounds p v) a.tmps,defers:=[] } W)
  (hbody:∀ (pre:List α) (x:α) (W:World) (a':Act) (W1 W2:World),I pre W->pre.length<toks.length->w.heap.size+4<=W.heap.size->Ax x W a' W1->Keeps [w.heap.size+1] W1 W2 ->
   body.wpIn (Fence.wide.inRound (w.heap.size+1)) 0 P (b9s (fun k=>C k∨k=w.heap.size∨k=w.heap.size+1) I (pre++[x]) W2) a' W2)
  (hdone:∀ (W:World),I toks W->W.heap[w.heap.size]? =some (.deferred (some []))->Q .normal { a with defers:={ target:=.collected w.heap.size,args:=#[] }::a.defers } W) :
  (Code.rangeFunc g ps assign body).wpIn Fence.wide 0 P Q a w:=by
 refine wpIn_rangeFunc ?_
 intro fn hfn
 obtain⟨D,hD⟩:∃ D,D=w.heap.size:=⟨_,rfl⟩
 obtain⟨rec,hrec⟩:∃ rec:LoopState->Option Code->Loop,rec=fun st pe=>{ state:=st,pending:=pe,fn,tmps:=a.tmps,params:=ps,assign,body,defers:=w.heap.size }:=⟨_,rfl⟩
 obtain⟨W1,hW1⟩:∃ W1,(w.alloc (.deferred (some []))).alloc (.loop (rec .ready none))=W1:=⟨_,rfl⟩
 have hk1:Keeps [] w W1:=by rw[<-hW1];exact ((Keeps.refl [] w).alloc _).alloc _
 have hs1:W1.heap.size=w.heap.size+2:=by rw[<-hW1];simp
 have hL1:W1.heap[w.heap.size+1]? =some (.loop (rec .ready none)):=by
  rw[<-hW1];have:=World.alloc_heap_new (w.alloc (.deferred (some []))) (.loop (rec .ready none));rwa [World.size_alloc] at this
 have hK1:W1.heap[w.heap.size]? =some (.deferred (some [])):=by
  rw[<-hW1];exact (Below.heap_alloc _ _ _ (by simp)).trans (World.alloc_heap_new w _)
 refine⟨w.heap.size+1,[{ target:=.collected w.heap.size,args:=#[] }],W1,{ target:=.fn (.func gf) lb,args:=#[.func (.yield (w.heap.size+1)) #[] #[]] },W1,gf,
  #[.func (.yield (w.heap.size+1)) #[] #[]]++lb,W1,?_,?_,fun _ _=>trivial,?_,fun h=>by simp[Fence.wide] at h,?_⟩
 ·rw[<-hW1,hrec];exact run_enterLoop_outer _ _ _ _ _
 ·simp only[resolve,hg]
  simp[go_sem]
 ·simp[invoke,go_sem,eg]
 refine (hseq (w.heap.size+1)
  (fun pre W=>I pre W/\W.heap[w.heap.size+1]? =some (.loop (rec .ready none))/\W.heap[w.heap.size]? =some (.deferred (some [])))
  W1 hk1 hs1
  (fun s A B hs hk=>⟨hI s A B hs.1 (hk.mono (fun x hx=>by simp at hx ⊢;omega)),hk.heap hs.2.1 (by simp),hk.heap hs.2.2 (by simp)⟩)
  ?_ ⟨hI [] w W1 h0 (hk1.mono (fun x hx=>by cases hx)),hL1,hK1⟩).mono ?_
 ·rintro pre x W ⟨hi,hl,hk⟩ hpl hsz
  have hy:=run_yield (P:=P) (args:=encs x) hl (by rw[hrec];exact hps x)
  rw[hrec] at hy
  refine⟨fn,_,assign,body,hy,roundIn_of_wpIn hfn (hassign _ pre x W _ hi hsz (fun a' W2 hax=>?_))⟩
  have hkx:=hAx x W a' W2 hax
  have hl2:=hkx.heap hl (by simp)
  have hd2:=hkx.heap hk (by simp)
  refine⟨_,run_beginRound hl2 (by rw[hrec]),?_⟩
  obtain⟨W3,hW3⟩:∃ W3,W2.putObj (w.heap.size+1) (.loop { rec .ready none with state:=.busy })=W3:=⟨_,rfl⟩
  rw[hW3]
  have hk3:Keeps [w.heap.size+1] W2 W3:=by rw[<-hW3];exact a0x _ _ _
  have hl3:W3.heap[w.heap.size+1]? =some (.loop { rec .ready none with state:=.busy }):=by rw[<-hW3];exact c1v (c1o.1 hl2).1
  have hd3:=hk3.heap hd2 (by simp)
  refine wpIn_mono (hbody pre x W a' W2 W3 hi hpl hsz hax hk3) ?_
  rintro e a3 W4 hp
  cases e with
  | normal=>
   obtain⟨hi4,hk4⟩:=hp
   have hl4:=(hk4.block _ (c1o.1 hl3).1 (.inr (.inr rfl))).trans hl3
   have hd4:=(hk4.block _ (c1o.1 hd3).1 (.inr (.inl rfl))).trans hd3
   have hr:=run_endRound (P:=P) none hl4
   rw[hrec] at hr
   refine⟨_,_,hr,rfl,⟨hI _ _ _ hi4 ((a0x W4 (w.heap.size+1) _).mono (fun x hx=>by simp at hx ⊢;omega)),?_,?_⟩,?_⟩
   ·rw[c1v (c1o.1 hl4).1,hrec];rfl
   ·exact (c1p (by omega)).trans hd4
   ·refine KeepsOn.trans (KeepsOn.of hkx (fun _ _=>by simp)) (KeepsOn.trans (KeepsOn.of hk3 (fun k hc=>by simpa using hC k hc)) (KeepsOn.trans (hk4.mono (fun k hc=>.inl hc)) (KeepsOn.of (a0x W4 (w.heap.size+1) _) (fun k hc=>by simpa using hC k hc))))
  | _=>exact hp.elim
 ·rintro e W2 ⟨⟨v,rfl⟩,hi,hl,hk⟩
  exact⟨none,_,by have:=run_endLoop (P:=P) hl (by rw[hrec];simp);rw[hrec] at this;exact this,hdone _ (hI _ _ _ hi ((a0x W2 (w.heap.size+1) _).mono (fun x hx=>by simp at hx ⊢;omega))) ((c1p (by omega)).trans hk)⟩
open Go.RowKit
def b9b{α:Type}(P:Program)(gf:Nat)(lb:Array Value)(encs:α->Array Value)(toks:List α)(O:List Nat)(C:Nat->Prop)(w0:World):Prop:=
 ∀ (l:Nat) (J Jx:List α->World->Prop) (W:World),Keeps [] w0 W->(∀ s W1 W2,J s W1->Keeps O W1 W2->J s W2) ->
  (∀ pre x W1,J pre W1->pre++[x] <+: toks->YieldAt Fence.wide 0 P l (encs x) W1 fun e W'=>(e=.returned (.bool true)/\J (pre++[x]) W'/\KeepsOn C W1 W')∨(e=.returned (.bool false)/\Jx (pre++[x]) W')) ->
  J [] W->CallsIn Fence.wide 0 P gf (#[.func (.yield l) #[] #[]]++lb) W fun e W'=>(∃ v,e=.returned v)/\(J toks W'∨∃ pre,pre <+: toks/\Jx pre W')
def b2v{α:Type}(C:Nat->Prop)(h:Nat)(I Ix:List α->World->Prop)(xs:List α)(W:World):Exit->Act->World->Prop
 | .normal,_,W'=>I xs W'/\KeepsOn (fun k=>C k∨k=h∨k=h+1) W W'
 | .ret,_,W'=>Ix xs W'/\KeepsOn (fun k=>k=h∨k=h+1) W W'
 | _,_,_=>False
theorem a7y {P:Program} {α:Type} {g:Operand} {ps:Array Tmp} {assign body:Code} {Q:Exit->Act->World->Prop} {a:Act} {w:World} {gf:Nat} {lb:Array Value}
  (hg:a.eval g=.func (.func gf) #[] lb) (eg:∀ args w,(callFunc gf args).run P w=.ok (.enter gf args) w)
  {encs:α->Array Value} {toks:List α} {O:List Nat} {C:Nat->Prop} (hO:∀ k∈O,k<w.heap.size) (hC:∀ k,C k->k<w.heap.size) (hseq:b9b P gf lb encs toks O C w) (hps:∀ x,(encs x).size=ps.size)
  (I Ix:List α->World->Prop) (hI:∀ s W1 W2,I s W1->Keeps (O++[w.heap.size,w.heap.size+1]) W1 W2->I s W2) (hIx:∀ s W1 W2,Ix s W1->Keeps [w.heap.size,w.heap.size+1] W1 W2->Ix s W2) (h0:I [] w)
  (Ax:α->World->Act->World->Prop) (hAx:∀ x W a' W1,Ax x W a' W1->Keeps [] W W1)
  (hassign:∀ (l:Nat) (pre:List α) (x:α) (W:World) (K:Act->World->Prop),I pre W->w.heap.size+2<=W.heap.size->(∀ a' W1,Ax x W a' W1->K a' W1) ->
   assign.wpIn (Fence.wide.inRound l) 0 P (Exit.then K (fun _ _ _=>False)) { tmps:=(ps.zip (encs x)).foldl (fun t (p,v)=>t.setIfInBounds p v) a.tmps,defers:=[] } W)
  (hbody:∀ (pre:List α) (x:α) (W:World) (a':Act) (W1 W2:World),I pre W->pre++[x] <+: toks->w.heap.size+2<=W.heap.size->Ax x W a' W1->Keeps [w.heap.size+1] W1 W2 ->
   body.wpIn (Fence.wide.inRound (w.heap.size+1)) 0 P (b2v C w.heap.size I Ix (pre++[x]) W2) a' W2)
  (hdone:∀ (W:World),I toks W->W.heap[w.heap.size]? =some (.deferred (some []))->Q .normal { a with defers:={ target:=.collected w.heap.size,args:=#[] }::a.defers } W)
  (hstop:∀ (pre:List α) (W:World),pre <+: toks->Ix pre W->W.heap[w.heap.size]? =some (.deferred (some []))->Code.ret.wpIn Fence.wide 0 P Q { a with defers:={ target:=.collected w.heap.size,args:=#[] }::a.defers } W) :
  (Code.rangeFunc g ps assign body).wpIn Fence.wide 0 P Q a w:=by
 refine wpIn_rangeFunc ?_
 intro fn hfn
 obtain⟨rec,hrec⟩:∃ rec:LoopState->Option Code->Loop,rec=fun st pe=>{ state:=st,pending:=pe,fn,tmps:=a.tmps,params:=ps,assign,body,defers:=w.heap.size }:=⟨_,rfl⟩
 obtain⟨W1,hW1⟩:∃ W1,(w.alloc (.deferred (some []))).alloc (.loop (rec .ready none))=W1:=⟨_,rfl⟩
 have hk1:Keeps [] w W1:=by rw[<-hW1];exact ((Keeps.refl [] w).alloc _).alloc _
 have hs1:W1.heap.size=w.heap.size+2:=by rw[<-hW1];simp
 have hL1:W1.heap[w.heap.size+1]? =some (.loop (rec .ready none)):=by
  rw[<-hW1];have:=World.alloc_heap_new (w.alloc (.deferred (some []))) (.loop (rec .ready none));rwa [World.size_alloc] at this
 have hK1:W1.heap[w.heap.size]? =some (.deferred (some [])):=by
  rw[<-hW1];exact (Below.heap_alloc _ _ _ (by simp)).trans (World.alloc_heap_new w _)
 have hOn:∀ j,w.heap.size<=j->j∉O:=fun j hj hm=>by have:=hO j hm;omega
 refine⟨w.heap.size+1,[{ target:=.collected w.heap.size,args:=#[] }],W1,{ target:=.fn (.func gf) lb,args:=#[.func (.yield (w.heap.size+1)) #[] #[]] },W1,gf,
  #[.func (.yield (w.heap.size+1)) #[] #[]]++lb,W1,?_,?_,fun _ _=>trivial,?_,fun h=>by simp[Fence.wide] at h,?_⟩
 ·rw[<-hW1,hrec];exact run_enterLoop_outer _ _ _ _ _
 ·simp only[resolve,hg]
  simp[go_sem]
 ·simp[invoke,go_sem,eg]
 refine (hseq (w.heap.size+1)
  (fun pre W=>I pre W/\W.heap[w.heap.size+1]? =some (.loop (rec .ready none))/\W.heap[w.heap.size]? =some (.deferred (some [])))
  (fun pre W=>Ix pre W/\W.heap[w.heap.size+1]? =some (.loop (rec .done (some .ret)))/\W.heap[w.heap.size]? =some (.deferred (some [])))
  W1 hk1
  (fun s A B hs hk=>⟨hI s A B hs.1 (hk.mono (fun x hx=>List.mem_append.2 (.inl hx))),hk.heap hs.2.1 (hOn _ (by omega)),hk.heap hs.2.2 (hOn _ (c1u _))⟩)
  ?_ ⟨hI [] w W1 h0 (hk1.mono (fun x hx=>by cases hx)),hL1,hK1⟩).mono ?_
 ·rintro pre x W ⟨hi,hl,hk⟩ hpl
  have hsz:w.heap.size+2<=W.heap.size:=(c1o.1 hl).1
  have hy:=run_yield (P:=P) (args:=encs x) hl (by rw[hrec];exact hps x)
  rw[hrec] at hy
  refine⟨fn,_,assign,body,hy,roundIn_of_wpIn hfn (hassign _ pre x W _ hi hsz (fun a' W2 hax=>?_))⟩
  have hkx:=hAx x W a' W2 hax
  have hl2:=hkx.heap hl (by simp)
  have hd2:=hkx.heap hk (by simp)
  refine⟨_,run_beginRound hl2 (by rw[hrec]),?_⟩
  obtain⟨W3,hW3⟩:∃ W3,W2.putObj (w.heap.size+1) (.loop { rec .ready none with state:=.busy })=W3:=⟨_,rfl⟩
  rw[hW3]
  have hk3:Keeps [w.heap.size+1] W2 W3:=by rw[<-hW3];exact a0x _ _ _
  have hl3:W3.heap[w.heap.size+1]? =some (.loop { rec .ready none with state:=.busy }):=by rw[<-hW3];exact c1v (c1o.1 hl2).1
  have hd3:=hk3.heap hd2 (by simp)
  refine wpIn_mono (hbody pre x W a' W2 W3 hi hpl hsz hax hk3) ?_
  rintro e a3 W4 hp
  cases e with
  | normal=>
   obtain⟨hi4,hk4⟩:=hp
   have hl4:=(hk4.block _ (c1o.1 hl3).1 (.inr (.inr rfl))).trans hl3
   have hd4:=(hk4.block _ (c1o.1 hd3).1 (.inr (.inl rfl))).trans hd3
   have hr:=run_endRound (P:=P) none hl4
   rw[hrec] at hr
   refine⟨_,_,hr,.inl ⟨rfl,⟨hI _ _ _ hi4 ((a0x W4 (w.heap.size+1) _).mono (fun x hx=>by simp at hx ⊢;omega)),?_,?_⟩,?_⟩⟩
   ·rw[c1v (c1o.1 hl4).1,hrec];rfl
   ·exact (c1p (by omega)).trans hd4
   ·refine KeepsOn.trans (KeepsOn.of hkx (fun _ _=>by simp)) (KeepsOn.trans (KeepsOn.of hk3 (fun k hc=>by have:=hC k hc;simp;omega)) (KeepsOn.trans (hk4.mono (fun k hc=>.inl hc)) (KeepsOn.of (a0x W4 (w.heap.size+1) _) (fun k hc=>by have:=hC k hc;simp;omega))))
  | ret=>
   obtain⟨hi4,hk4⟩:=hp
   have hl4:=(hk4.block _ (c1o.1 hl3).1 (.inr rfl)).trans hl3
   have hd4:=(hk4.block _ (c1o.1 hd3).1 (.inl rfl)).trans hd3
   have hr:=run_endRound (P:=P) (some .ret) hl4
   rw[hrec] at hr
   refine⟨_,_,hr,.inr ⟨rfl,hIx _ _ _ hi4 ((a0x W4 (w.heap.size+1) _).mono (fun x hx=>by simp at hx ⊢;omega)),?_,?_⟩⟩
   ·rw[c1v (c1o.1 hl4).1,hrec];rfl
   ·exact (c1p (by omega)).trans hd4
  | _=>exact hp.elim
 ·rintro e W2 ⟨⟨v,rfl⟩,(⟨hi,hl,hk⟩|⟨pre,hpre,hi,hl,hk⟩)⟩
  ·exact⟨none,_,by have:=run_endLoop (P:=P) hl (by rw[hrec];simp);rw[hrec] at this;exact this,hdone _ (hI _ _ _ hi ((a0x W2 (w.heap.size+1) _).mono (fun x hx=>by simp at hx ⊢;omega))) ((c1p (by omega)).trans hk)⟩
  ·exact⟨some .ret,_,by have:=run_endLoop (P:=P) hl (by rw[hrec];simp);rw[hrec] at this;exact this,hstop pre _ hpre (hIx _ _ _ hi ((a0x W2 (w.heap.size+1) _).mono (fun x hx=>by simp at hx ⊢;omega))) ((c1p (by omega)).trans hk)⟩
open Go.RowKit
theorem a5A(k:IntKind)(xs:List Int)(j:Nat)(x:Int):(ints k xs).set j (.int k x)=ints k (xs.set j x):=by simp[ints,List.map_set]
theorem Blk.cellI{w:World}{g:Nat}{t:TypeId}{k:IntKind}{xs:List Int}(h:Blk w g t (ints k xs)){j:Nat}(hj:j<xs.length):w.cell? ⟨g,j,none⟩=some (.int k (nth xs j)):=by
 rw[h.cell,a0e,a0q hj];simp[hj]
theorem a0R{ops:Array Oper}{o:Oper}{a:Act}{K:Act->World->Prop}{Q:Exit->Act->World->Prop}{E:Prop}{w:World}(hgd:o.guard=none)(h:Oper.wp Tryz.prog o a w K Q) :
  if Region.wanted o (yielded ops a.tmps)=true then Oper.wp Tryz.prog o a w K Q else E:=by
 rw[if_pos (by simp[Region.wanted,hgd])];exact h
theorem a1v(xs:List Int):(ints .i64 xs).toArray.all (·.oneCell')=true:=by
 rw[Array.all_eq_true_iff_forall_mem]
 intro v hv
 simp only[ints,List.mem_toArray,List.mem_map] at hv
 obtain⟨x,_,rfl⟩:=hv
 rfl
theorem a1H(w:World)(g:Nat)(cs:Array Value):(w.drew).setRow g cs=(w.setRow g cs).drew:=rfl
theorem a1S {fn:Func} {p q:Tmp} (h:fn.results=#[.cell p 191,.cell q 191]) (tmps:Array Value) (w:World) (g1 g2:Nat) (t1 t2:TypeId) (c1 c2:Array Value)
  (hp:tmps.getD p undef=.pointer (some ⟨g1,0,none⟩)) (hq:tmps.getD q undef=.pointer (some ⟨g2,0,none⟩)) (h1:w.heap[g1]? =some (.cells c1 t1 (0,0))) (h2:w.heap[g2]? =some (.cells c2 t2 (0,0)))
  (hi1:(Tryz.prog.info? 191).map (·.size)=some c1.size) (hi2:(Tryz.prog.info? 191).map (·.size)=some c2.size) :
  (results fn tmps).run Tryz.prog w=.ok (.tuple #[.agg c1,.agg c2]) w:=by
 have hp':tmps[p]?.getD undef=.pointer (some ⟨g1,0,none⟩):=by simpa using hp
 have hq':tmps[q]?.getD undef=.pointer (some ⟨g2,0,none⟩):=by simpa using hq
 simp[results,h,hp',hq',asAddr,run_loadVar_row w g1 t1 191 c1 _ (.array 16 3) h1 c1s rfl hi1,run_loadVar_row w g2 t2 191 c2 _ (.array 16 3) h2 c1s rfl hi2]
theorem a5U(w:World)(A:Option Addr)(n c:Nat)(l:List Int)(hl:RI .i64 w A n l)(hn:n<=288)(hok:l.all okLen=true) :
  Calls Tryz.prog 118 #[.slice A n c] w fun e w'=>e=.returned (.tuple #[.agg (ints .i64 (lowL (lenCnt l) 16)).toArray,.agg (ints .i64 (lenCnt l)).toArray])/\Below w.heap.size w w':=by
 have HL:=c1n hl
 have HLL:=c1n hl.len
 have HOK:=c1n hok
 clear hl hok
 obtain⟨g,hg⟩:∃ g,g=w.heap.size:=⟨_,rfl⟩
 have HG:=c1n hg
 have HB0:Hid (∀ Z:List Value,Z=ints .i64 (List.replicate 16 0)->Blk ((w.alloc (.cells Z.toArray 191)).alloc (.cells Z.toArray 191)) g 191 (ints .i64 (List.replicate 16 0))/\Blk ((w.alloc (.cells Z.toArray 191)).alloc (.cells Z.toArray 191)) (g+1) 191 (ints .i64 (List.replicate 16 0))/\Below w.heap.size w ((w.alloc (.cells Z.toArray 191)).alloc (.cells Z.toArray 191))):=by
  rintro Z rfl
  subst hg
  refine⟨Blk.alloc (a0d w _ _) _,?_,((Below.refl _ _).alloc (c1u _) _).alloc (by simp) _⟩
  have:=a0d (w.alloc (.cells (ints .i64 (List.replicate 16 0)).toArray 191)) 191 (ints .i64 (List.replicate 16 0))
  simpa using this
 clear hg
 go_enter Tryz.func118,Tryz.ntmps118
 go_wp2_with fail
 obtain⟨z0,z1,z2⟩:=HB0.out [.int .i64 0,.int .i64 0,.int .i64 0,.int .i64 0,.int .i64 0,.int .i64 0,.int .i64 0,.int .i64 0,.int .i64 0,.int .i64 0,.int .i64 0,.int .i64 0,.int .i64 0,.int .i64 0,.int .i64 0,.int .i64 0] rfl
 have Z0:=c1n z0
 have Z1:=c1n z1
 have Z2:=c1n z2
 clear z0 z1 z2 HB0
 rw[<-HG.out]
 go_loopw [10] (fun i wr=>∃ k:Nat,k<=n/\i=.int .i64 k/\Hid (Blk wr g 191 (ints .i64 (List.replicate 16 0)))/\Hid (Blk wr (g+1) 191 (ints .i64 (lenCnt (l.take k))))/\Hid (Below w.heap.size w wr)) (fun i _=>n-(intOf i).toNat)
 case atStart=>exact⟨0,by omega,rfl,Z0,by rw[c1K,show lenCnt []=List.replicate 16 0 by unfold lenCnt;rw[List.filter_nil,a3o]];exact Z1,Z2⟩
 case round=>
  clear Z0 Z1 Z2
  obtain⟨k,hk,rfl,HA,HB,HW⟩:=hrel
  by_cases hlt:k<n
  ·obtain⟨b,o,rfl,hc⟩:=HL.out.at hlt
   have hc:=(Keeps.of_below (S:=[]) HW.out).cell (by simp) hc
   have hx:okLen (nth l k)=true:=by rw[a0q (by have:=HLL.out;omega)];exact List.all_eq_true.1 HOK.out _ (List.getElem_mem _)
   have hx1:0<=nth l k/\nth l k<=15:=by simpa [okLen] using hx
   obtain⟨hx2,hx3⟩:=hx1
   clear hx
   by_cases hz:0<nth l k
   ·obtain⟨s,hs,hs16,hsn⟩:=a6h l k (by have:=HLL.out;omega) hz hx3
    have SN:=c1n hsn
    have h0:=HB.out.cellI (j:=s) (by rw[a1w];exact hs16)
    have hf:=HB.out.frozen s
    obtain⟨b0,b1⟩:=a2g (l.take k) s hs16
    have b2:(l.take k).length<=288:=by rw[List.length_take];omega
    have b3:nth (lenCnt (l.take k)) s<=288:=by omega
    have HSET:Hid (Blk (wr.setCell ⟨g+1,s,none⟩ (.int .i64 (nth (lenCnt (l.take k)) s+1))) (g+1) 191 (ints .i64 (lenCnt (l.take (k+1))))):=by
     have:=HB.out.set s (.int .i64 (nth (lenCnt (l.take k)) s+1))
     rw[a5A,<-SN.out] at this;exact this
    have HSET0:Hid (Blk (wr.setCell ⟨g+1,s,none⟩ (.int .i64 (nth (lenCnt (l.take k)) s+1))) g 191 (ints .i64 (List.replicate 16 0))):=c1n (HA.out.set_other (by simp) _)
    have HSW:Hid (Below w.heap.size w (wr.setCell ⟨g+1,s,none⟩ (.int .i64 (nth (lenCnt (l.take k)) s+1)))):=c1n (HW.out.setCell (p:=⟨g+1,s,none⟩) (by have:=HG.out;show _<=g+1;omega) _)
    generalize nth (lenCnt (l.take k)) s=x at *
    rw[hs] at hc hx2 hx3 hz
    have e3:decide (0<s)=true:=by simp;omega
    clear hsn b1 b2 hs HB HA HW
    go_wp2_with fail
    go_roundw
    case rel=>exact⟨k+1,by omega,by go_num,HSET0,HSET,HSW⟩
    case measure=>simp[intOf];omega
   ·have e3:decide (0<nth l k)=false:=by simpa using hz
    have SN:=c1n (a6g l k (by have:=HLL.out;omega) hz)
    go_wp2_with fail
    go_roundw
    case rel=>exact⟨k+1,by omega,by go_num,HA,by rw[SN.out];exact HB,HW⟩
    case measure=>simp[intOf];omega
  ·obtain rfl:k=n:=by omega
   have HB2:Hid (Blk wr (g+1) 191 (ints .i64 (lenCnt l))):=by have:=HB.out;rwa [c1A (by have:=HLL.out;omega)] at this
   have HA2:Hid (Blk wr g 191 (ints .i64 (lowL (lenCnt l) 1))):=by rw[b5v];exact HA
   clear HA HB
   obtain⟨wo,rfl⟩:∃ wo:World,wo=wr:=⟨_,rfl⟩
   go_wp2_with fail
   go_loopw [6,7] (fun cv i wr=>∃ j:Nat,1<=j/\j<=16/\i=.int .i64 j/\cv=.int .i64 (lowF (lenCnt l) (j-1))/\Hid (Blk wr g 191 (ints .i64 (lowL (lenCnt l) j)))/\Hid (Blk wr (g+1) 191 (ints .i64 (lenCnt l)))/\Hid (Below w.heap.size w wr)) (fun _ i _=>16-(intOf i).toNat)
   case atStart=>exact⟨1,by omega,by omega,rfl,rfl,HA2,HB2,HW⟩
   case round=>
    clear HA2 HB2 HW
    obtain⟨j,hj1,hj,rfl,rfl,HA,HB,HW⟩:=hrel
    obtain⟨q,rfl⟩:∃ q,j=q+1:=⟨j-1,by omega⟩
    have LB:=c1n (a2y l (by have:=HLL.out;omega) (q+1) (by omega))
    obtain⟨l0,l1⟩:=a2y l (by have:=HLL.out;omega) q (by omega)
    have hq1:q+1-1=q:=by omega
    rw[hq1]
    clear hq1
    by_cases hlt:q+1<=15
    ·have h0:=HB.out.cellI (j:=q) (by rw[a1w];omega)
     obtain⟨b0,b1⟩:=a2g l q (by omega)
     have b3:nth (lenCnt l) q<=288:=by have:=HLL.out;omega
     have EL:Hid (lowF (lenCnt l) (q+1)=2*(lowF (lenCnt l) q+nth (lenCnt l) q)):=rfl
     have h1:=HA.out.cellI (j:=q+1) (by rw[a4d];omega)
     have hf:=HA.out.frozen (q+1)
     have EL2:Hid ((lowF (lenCnt l) q+nth (lenCnt l) q)*2=lowF (lenCnt l) (q+1)):=by show _=_;rw[EL.out];omega
     have HSA:Hid (Blk (wr.setCell ⟨g,q+1,none⟩ (.int .i64 ((lowF (lenCnt l) q+nth (lenCnt l) q)*2))) g 191 (ints .i64 (lowL (lenCnt l) (q+2)))):=by
      have:=HA.out.set (q+1) (.int .i64 ((lowF (lenCnt l) q+nth (lenCnt l) q)*2))
      rw[a5A,EL2.out,<-b5u _ _ (by omega)] at this
      rw[EL2.out];exact this
     have HSB:Hid (Blk (wr.setCell ⟨g,q+1,none⟩ (.int .i64 ((lowF (lenCnt l) q+nth (lenCnt l) q)*2))) (g+1) 191 (ints .i64 (lenCnt l))):=c1n (HB.out.set_other (by simp) _)
     have HSW:Hid (Below w.heap.size w (wr.setCell ⟨g,q+1,none⟩ (.int .i64 ((lowF (lenCnt l) q+nth (lenCnt l) q)*2)))):=c1n (HW.out.setCell (p:=⟨g,q+1,none⟩) (by have:=HG.out;show _<=g;omega) _)
     generalize lowF (lenCnt l) q=x at *
     generalize nth (lenCnt l) q=y at *
     clear HA HB HW
     go_wp2_with fail
     refine⟨⟨q+2,by omega,by omega,by congr 1,by rw[EL2.out];rfl,HSA,HSB,HSW⟩,by simp[intOf];omega⟩
    ·obtain rfl:q=15:=by omega
     have LX:Hid ((lowL (lenCnt l) 16).length=16):=a4d _ _
     have LY:Hid ((lenCnt l).length=16):=a1w _
     have HA2:Hid (Blk wr g 191 (ints .i64 (lowL (lenCnt l) 16))):=HA
     clear HA
     obtain⟨xs,hxs⟩:∃ xs,xs=lowL (lenCnt l) 16:=⟨_,rfl⟩
     obtain⟨ys,hys⟩:∃ ys,ys=lenCnt l:=⟨_,rfl⟩
     rw[<-hxs] at HA2 LX
     rw[<-hys] at HB LY
     have HXS:=c1n hxs
     have HYS:=c1n hys
     clear hxs hys
     have SX:Hid ((ints .i64 xs).toArray.size=16):=by show _=_;simp[ints,LX.out]
     have SY:Hid ((ints .i64 ys).toArray.size=16):=by show _=_;simp[ints,LY.out]
     have WX:Hid (wr.setRow g (ints .i64 xs).toArray=wr):=setRow_self wr g _ _ _ HA2.out
     have WY:Hid (wr.setRow (g+1) (ints .i64 ys).toArray=wr):=setRow_self wr (g+1) _ _ _ HB.out
     have OX:Hid ((ints .i64 xs).toArray.all (·.oneCell')=true):=a1v xs
     have OY:Hid ((ints .i64 ys).toArray.all (·.oneCell')=true):=a1v ys
     go_wp2_with fail
     refine wp_region_any (by kernel_rfl) ?_
     try (change wpAny _ _ _ _ _ _ _ (World.drew _))
     refine c1C (rs:=[0,1]) (by kernel_rfl) (by simp) ?_
     refine c1r rfl (fun K hK=>?_) (c1r rfl (fun K hK=>?_) c1y)
     ·refine a0R rfl (wp_load_row 191 (.tmp 2) rfl g rfl 191 (ints .i64 xs).toArray (0,0) (.array 16 3) (by exact HA2.out) c1s rfl (by rw[SX.out];kernel_rfl) ?_);refine hK _ _ ?_;clear hK K
      refine c1C (rs:=[1,2]) (by kernel_rfl) (by simp) ?_
      refine c1r rfl (fun K hK=>?_) (c1r rfl (fun K hK=>?_) c1y)
      ·refine a0R rfl (wp_load_row 191 (.tmp 3) rfl (g+1) rfl 191 (ints .i64 ys).toArray (0,0) (.array 16 3) (by exact HB.out) c1s rfl (by rw[SY.out];kernel_rfl) ?_);refine hK _ _ ?_;clear hK K
       refine c1C (rs:=[2]) (by kernel_rfl) (by simp) ?_
       refine c1r rfl (fun K hK=>?_) c1y
       refine a0R rfl (wp_store_row 191 (.tmp 2) (.tmp 36) rfl g (ints .i64 xs).toArray rfl rfl 191 (ints .i64 xs).toArray (by exact HA2.out) (by rw[SX.out];kernel_rfl) rfl OX.out ?_);rw[a1H,WX.out];refine hK _ _ ?_;clear hK K
       refine c1C (rs:=[3]) (by kernel_rfl) (by simp) ?_
       refine c1r rfl (fun K hK=>?_) c1y
       refine a0R rfl (wp_store_row 191 (.tmp 3) (.tmp 37) rfl (g+1) (ints .i64 ys).toArray rfl rfl 191 (ints .i64 ys).toArray (by exact HB.out) (by rw[SY.out];kernel_rfl) rfl OY.out ?_);rw[a1H,WY.out];refine hK _ _ ?_;clear hK K
       refine wpAny_done (by kernel_rfl) ?_ _
       go_wp2_with fail
       exact bodyPost_ret (v:=.tuple #[.agg (ints .i64 xs).toArray,.agg (ints .i64 ys).toArray]) (a1S rfl _ _ g (g+1) 191 191 _ _ rfl rfl HA2.out HB.out (by rw[SX.out];kernel_rfl) (by rw[SY.out];kernel_rfl)) rfl ⟨by rw[HXS.out,HYS.out],HW.out.drew⟩
      ·refine a0R rfl (wp_store_row 191 (.tmp 2) (.tmp 36) rfl g (ints .i64 xs).toArray rfl rfl 191 (ints .i64 xs).toArray (by exact HA2.out) (by rw[SX.out];kernel_rfl) rfl OX.out ?_);rw[a1H,WX.out];refine hK _ _ ?_;clear hK K
       refine c1C (rs:=[1]) (by kernel_rfl) (by simp) ?_
       refine c1r rfl (fun K hK=>?_) c1y
       refine a0R rfl (wp_load_row 191 (.tmp 3) rfl (g+1) rfl 191 (ints .i64 ys).toArray (0,0) (.array 16 3) (by exact HB.out) c1s rfl (by rw[SY.out];kernel_rfl) ?_);refine hK _ _ ?_;clear hK K
       refine c1C (rs:=[3]) (by kernel_rfl) (by simp) ?_
       refine c1r rfl (fun K hK=>?_) c1y
       refine a0R rfl (wp_store_row 191 (.tmp 3) (.tmp 37) rfl (g+1) (ints .i64 ys).toArray rfl rfl 191 (ints .i64 ys).toArray (by exact HB.out) (by rw[SY.out];kernel_rfl) rfl OY.out ?_);rw[a1H,WY.out];refine hK _ _ ?_;clear hK K
       refine wpAny_done (by kernel_rfl) ?_ _
       go_wp2_with fail
       exact bodyPost_ret (v:=.tuple #[.agg (ints .i64 xs).toArray,.agg (ints .i64 ys).toArray]) (a1S rfl _ _ g (g+1) 191 191 _ _ rfl rfl HA2.out HB.out (by rw[SX.out];kernel_rfl) (by rw[SY.out];kernel_rfl)) rfl ⟨by rw[HXS.out,HYS.out],HW.out.drew⟩
     ·refine a0R rfl (wp_load_row 191 (.tmp 3) rfl (g+1) rfl 191 (ints .i64 ys).toArray (0,0) (.array 16 3) (by exact HB.out) c1s rfl (by rw[SY.out];kernel_rfl) ?_);refine hK _ _ ?_;clear hK K
      refine c1C (rs:=[0]) (by kernel_rfl) (by simp) ?_
      refine c1r rfl (fun K hK=>?_) c1y
      refine a0R rfl (wp_load_row 191 (.tmp 2) rfl g rfl 191 (ints .i64 xs).toArray (0,0) (.array 16 3) (by exact HA2.out) c1s rfl (by rw[SX.out];kernel_rfl) ?_);refine hK _ _ ?_;clear hK K
      refine c1C (rs:=[2]) (by kernel_rfl) (by simp) ?_
      refine c1r rfl (fun K hK=>?_) c1y
      refine a0R rfl (wp_store_row 191 (.tmp 2) (.tmp 36) rfl g (ints .i64 xs).toArray rfl rfl 191 (ints .i64 xs).toArray (by exact HA2.out) (by rw[SX.out];kernel_rfl) rfl OX.out ?_);rw[a1H,WX.out];refine hK _ _ ?_;clear hK K
      refine c1C (rs:=[3]) (by kernel_rfl) (by simp) ?_
      refine c1r rfl (fun K hK=>?_) c1y
      refine a0R rfl (wp_store_row 191 (.tmp 3) (.tmp 37) rfl (g+1) (ints .i64 ys).toArray rfl rfl 191 (ints .i64 ys).toArray (by exact HB.out) (by rw[SY.out];kernel_rfl) rfl OY.out ?_);rw[a1H,WY.out];refine hK _ _ ?_;clear hK K
      refine wpAny_done (by kernel_rfl) ?_ _
      go_wp2_with fail
      exact bodyPost_ret (v:=.tuple #[.agg (ints .i64 xs).toArray,.agg (ints .i64 ys).toArray]) (a1S rfl _ _ g (g+1) 191 191 _ _ rfl rfl HA2.out HB.out (by rw[SX.out];kernel_rfl) (by rw[SY.out];kernel_rfl)) rfl ⟨by rw[HXS.out,HYS.out],HW.out.drew⟩
open Go.RowKit
theorem a2C(w:World)(A:Option Addr)(n c:Nat)(l:List Int)(hl:RI .i64 w A n l)(hn:n<=140737488355328) :
  Calls Tryz.prog 117 #[.slice A n c] w fun e w'=>e=.returned (.int .i64 (a0f l))/\Dr w w':=by
 have hll:=hl.len
 have HL:=c1n hl
 have HLL:=c1n hll
 clear hl
 by_cases h0:n=0
 ·subst h0
  have hr:a0f l=1:=by rw[a0f,if_pos (by omega)]
  clear hll
  rw[hr]
  clear hr
  go_enter Tryz.func117,Tryz.ntmps117
  go_wp2_with fail
  go_ret
  exact⟨rfl,0,rfl⟩
 ·have e0:((n:Int)==0)=false:=by simp;omega
  by_cases hb:288<n
  ·have hr:a0f l=1:=by rw[a0f,if_pos (by omega)]
   have e1:decide (288<n)=true:=by simpa using hb
   clear hll
   rw[hr]
   clear hr
   go_enter Tryz.func117,Tryz.ntmps117
   go_wp2_with fail
   go_ret
   exact⟨rfl,0,rfl⟩
  ·have e1:decide (288<n)=false:=by simp;omega
   clear hll
   go_enter Tryz.func117,Tryz.ntmps117
   go_wp2_with fail
   clear e0 e1
   go_loopw [3,4,17] (fun v3 v4 i wr=>∃ k:Nat,k<=n/\i=.int .i64 k/\v3=.int .i64 (usedF (l.take k))/\v4=.int .i64 (measF (l.take k))/\Hid ((l.take k).all okLen=true)/\Hid (Dr w wr)) (fun _ _ i _=>n-(intOf i).toNat)
   case atStart=>exact⟨0,by omega,rfl,rfl,rfl,c1n (by simp),⟨0,rfl⟩⟩
   case round=>
    obtain⟨k,hk,rfl,rfl,rfl,HA,HD⟩:=hrel
    obtain⟨q,rfl⟩:=HD.out
    clear HD
    have hu:=b8n (l.take k)
    have hm:=b7H (l.take k) HA.out
    have htk:(l.take k).length=k:=by rw[List.length_take];have:=HLL.out;omega
    rw[htk] at hu hm
    clear htk
    by_cases hlt:k<n
    ·obtain⟨b,o,rfl,hc⟩:=HL.out.at hlt
     have us:=a7H l k (by have:=HLL.out;omega)
     have ms:=a7u l k (by have:=HLL.out;omega)
     have asn:=b6M l k (by have:=HLL.out;omega)
     rw[HA.out] at asn
     have US:=c1n us
     have MS:=c1n ms
     have AS:=c1n asn
     clear us ms asn
     generalize usedF (l.take k)=U at *
     generalize measF (l.take k)=M at *
     by_cases hneg:nth l k<0
     ·have e1:decide (nth l k<0)=true:=by simpa using hneg
      have hok:okLen (nth l k)=false:=by simp[okLen];omega
      have hr:a0f l=1:=by rw[a0f,if_neg (by have:=HLL.out;omega),if_pos (b4A l k (by have:=HLL.out;omega) hok)]
      have HR:=c1n hr
      clear hr hok
      go_wp2_with fail
      go_ret
      rw[HR.out]
      exact⟨rfl,_,rfl⟩
     ·have e1:decide (nth l k<0)=false:=by simpa using hneg
      by_cases hbig:15<nth l k
      ·have e2:decide (15<nth l k)=true:=by simpa using hbig
       have hok:okLen (nth l k)=false:=by simp[okLen];omega
       have hr:a0f l=1:=by rw[a0f,if_neg (by have:=HLL.out;omega),if_pos (b4A l k (by have:=HLL.out;omega) hok)]
       have HR:=c1n hr
       clear hr hok
       go_wp2_with fail
       go_ret
       rw[HR.out]
       exact⟨rfl,_,rfl⟩
      ·have e2:decide (15<nth l k)=false:=by simpa using hbig
       have hok:okLen (nth l k)=true:=by simp[okLen];omega
       have HOK:=c1n hok
       clear hok
       by_cases hz:0<nth l k
       ·have e3:decide (0<nth l k)=true:=by simpa using hz
        have hp:=b7R (nth l k) hz (by omega)
        have hple:=b5O (nth l k) HOK.out
        have hp':=hp.symm
        clear hp
        have HU:Hid (usedF (l.take (k+1))=U+1):=by have:=US.out;rwa [if_pos hz] at this
        go_wp2_with fail
        clear hp'
        go_roundw
        case rel=>exact⟨k+1,by omega,by go_num,by rw[HU.out];go_num,by rw[MS.out];go_num,c1n (AS.out.trans (by rw[HOK.out];rfl)),⟨_,rfl⟩⟩
        case measure=>simp[intOf];omega
       ·have e3:decide (0<nth l k)=false:=by simpa using hz
        have HU:Hid (usedF (l.take (k+1))=U):=by have:=US.out;rwa [if_neg hz,Nat.add_zero] at this
        have HM:Hid (measF (l.take (k+1))=M):=by have:=MS.out;rwa [b5P _ hz,Nat.add_zero] at this
        go_wp2_with fail
        go_roundw
        case rel=>exact⟨k+1,by omega,by go_num,by rw[HU.out],by rw[HM.out],c1n (AS.out.trans (by rw[HOK.out];rfl)),⟨_,rfl⟩⟩
        case measure=>simp[intOf];omega
    ·obtain rfl:k=n:=by omega
     have htk:l.take k=l:=c1A (by have:=HLL.out;omega)
     rw[htk] at HA hu hm ⊢
     have hlen:=HLL.out
     have HR:Hid (a0f l=if 32768<measF l then 30 else if measF l=32768 then 0 else if usedF l=1/\measF l=16384 then 0 else 31):=by
      show _=_
      rw[a0f,if_neg (by omega),if_neg (by rw[HA.out];simp)]
     clear htk hlen
     generalize measF l=M at *
     generalize usedF l=U at *
     by_cases c1:32768<M
     ·have e1:decide ((32768:Int)<(M:Int))=true:=by simp;omega
      go_wp2_with fail
      go_ret
      rw[HR.out,if_pos c1]
      exact⟨rfl,_,rfl⟩
     ·have e1:decide ((32768:Int)<(M:Int))=false:=by simp;omega
      by_cases c2:M=32768
      ·have e2:decide ((M:Int)<32768)=false:=by simp;omega
       have C2:=c1n c2
       clear c2
       go_wp2_with fail
       go_ret
       rw[HR.out,if_neg c1,if_pos C2.out]
       exact⟨rfl,_,rfl⟩
      ·have e2:decide ((M:Int)<32768)=true:=by simp;omega
       by_cases c3:U=1
       ·have e3:((U:Int) !=1)=false:=by simp;omega
        have C3:=c1n c3
        clear c3
        by_cases c4:M=16384
        ·have e4:((M:Int) !=16384)=false:=by simp;omega
         have C4:=c1n c4
         have C2:=c1n c2
         clear c4 c2
         go_wp2_with fail
         go_ret
         rw[HR.out,if_neg c1,if_neg C2.out,if_pos ⟨C3.out,C4.out⟩]
         exact⟨rfl,_,rfl⟩
        ·have e4:((M:Int) !=16384)=true:=by simp;omega
         go_wp2_with fail
         go_ret
         rw[HR.out,if_neg c1,if_neg c2,if_neg (fun h=>c4 h.2)]
         exact⟨rfl,_,rfl⟩
       ·have e3:((U:Int) !=1)=true:=by simp;omega
        go_wp2_with fail
        go_ret
        rw[HR.out,if_neg c1,if_neg c2,if_neg (fun h=>c3 h.1)]
        exact⟨rfl,_,rfl⟩
open Go.RowKit
theorem b7n:(Tryz.prog.info? 49).map (fun i=>(i.zero,i.size,i.bytes))=some (some (.int .u32 0),1,4):=by kernel_rfl
theorem a6t{w:World}{base g n:Nat}{k:IntKind}{t:TypeId}{xs:List Int}(h:Blk w g t (ints k xs))(hl:xs.length=n)(hb:base<=g)(hn:n<=1000000000):w.ownsRow base t 1 (.slice (some ⟨g,0,none⟩) n n) n (ints k xs):=
 ⟨by simp[ints,hl],.inr ⟨g,n,_,rfl,hb,h,c1u _,by unfold maxLen;omega,by simp[ints,hl],by rw[List.toList_toArray,c1A (by simp[ints,hl])]⟩⟩
theorem a2R {ops:Array Oper} {rest:List Oper} {o:Oper} {a:Act} {w:World} {Q:Exit->Act->World->Prop} (hgd:o.guard=none) (ty:TypeId) (x y:Operand) (ho:o.op=.store ty x y)
  (g:Nat) (cells:Array Value) (hx:a.eval x=.pointer (some ⟨g,0,none⟩)) (hy:a.eval y=.agg cells)
  (t:TypeId) (old:Array Value) (hg:w.heap[g]? =some (.cells old t (0,0))) (hi:(Tryz.prog.info? ty).map (·.size)=some cells.size)
  (hold:old.size=cells.size) (h1:cells.all (·.oneCell')=true)
  (h:wpList Tryz.prog ops Q rest (a.put o.dst undef) (w.setRow g cells)):wpList Tryz.prog ops Q (o::rest) a w:=
 wpList_plain hgd fun _ hK=>wp_store_row ty x y ho g cells hx hy t old hg hi hold h1 (hK _ _ h)
theorem Blk.row{w:World}{g:Nat}{t:TypeId}{old:List Value}(h:Blk w g t old)(cs:List Value):Blk (w.setRow g cs.toArray) g t cs:=setRow_heap w g _ _ t _ h
theorem Blk.row_other{w:World}{g g':Nat}{t:TypeId}{cs:List Value}(h:Blk w g t cs)(hne:g≠g')(ds:Array Value):Blk (w.setRow g' ds) g t cs:=(setRow_other w g' g ds hne).trans h
theorem a8P{B g:Nat}{w0 w:World}(hb:Below B w0 w)(hBg:B<=g)(cs:Array Value):Below B w0 (w.setRow g cs):=
 hb.trans ⟨rfl,rfl,rfl,by simp[World.setRow],fun k hk=>setRow_other w g k cs (by omega)⟩
def a1D(l:List Int)(i:Nat):Int:=lowF (lenCnt l) (nth l i).toNat+nth (lenCnt (l.take i)) (nth l i).toNat
def outL(l:List Int)(k:Nat):List Int:=(List.range l.length).map fun i=>if i<k/\0<nth l i then revF (a1D l i) (nth l i).toNat else 0
def a1R(l:List Int)(k:Nat):List Int:=(List.range 16).map fun n=>lowF (lenCnt l) n+nth (lenCnt (l.take k)) n
def codesF(l:List Int):List Int×Int:=if a0f l=0 then (outL l l.length,0) else ([],a0f l)
theorem a5z(l:List Int)(k:Nat):(outL l k).length=l.length:=by simp[outL]
theorem b5B(l:List Int)(k:Nat):(a1R l k).length=16:=by simp[a1R]
theorem b5H(l:List Int):outL l 0=List.replicate l.length 0:=by
 refine c1w (by simp[outL]) fun j h1 h2=>?_
 simp[outL]
theorem a1k(f:Nat->Int)(n j:Nat)(h:j<n):nth ((List.range n).map f) j=f j:=by simp[nth,List.getD,h]
theorem b3N(l:List Int):a1R l 0=lowL (lenCnt l) 16:=by
 refine c1w (by simp[a1R,lowL]) fun j h1 h2=>?_
 have hj:j<16:=by simpa [a1R] using h1
 simp only[a1R,lowL,c1z,c1x,c1K]
 rw[if_pos hj]
 have:nth (lenCnt []) j=0:=by unfold lenCnt;rw[a0y _ _ _ hj];simp
 omega
theorem b5F(l:List Int)(k:Nat)(h:¬0<nth l k):outL l (k+1)=outL l k:=by
 refine c1w (by simp[outL]) fun j h1 h2=>?_
 simp only[outL,c1z,c1x]
 by_cases e:j=k
 ·subst e;rw[if_neg (fun h'=>h h'.2),if_neg (fun h'=>h h'.2)]
 ·by_cases hj:j<k
  ·by_cases hz:0<nth l j
   ·rw[if_pos ⟨by omega,hz⟩,if_pos ⟨hj,hz⟩]
   ·rw[if_neg (fun h'=>hz h'.2),if_neg (fun h'=>hz h'.2)]
  ·rw[if_neg (by omega),if_neg (by omega)]
theorem b5G(l:List Int)(k:Nat)(hk:k<l.length)(h:0<nth l k):outL l (k+1)=(outL l k).set k (revF (a1D l k) (nth l k).toNat):=by
 refine c1w (by simp[outL]) fun j h1 h2=>?_
 rw[List.getElem_set]
 simp only[outL,c1z,c1x]
 by_cases e:k=j
 ·subst e;rw[if_pos rfl,if_pos ⟨by omega,h⟩]
 ·rw[if_neg e]
  by_cases hj:j<k
  ·by_cases hz:0<nth l j
   ·rw[if_pos ⟨by omega,hz⟩,if_pos ⟨hj,hz⟩]
   ·rw[if_neg (fun h'=>hz h'.2),if_neg (fun h'=>hz h'.2)]
  ·rw[if_neg (by omega),if_neg (by omega)]
theorem b3L(l:List Int)(k:Nat)(hk:k<l.length)(h:¬0<nth l k):a1R l (k+1)=a1R l k:=by
 unfold a1R;rw[a6g l k hk h]
theorem b3M(l:List Int)(k:Nat)(hk:k<l.length)(s:Nat)(hs:s<16)(hsn:lenCnt (l.take (k+1))=(lenCnt (l.take k)).set s (nth (lenCnt (l.take k)) s+1)):a1R l (k+1)=(a1R l k).set s (nth (a1R l k) s+1):=by
 refine c1w (by simp[a1R]) fun j h1 h2=>?_
 have hj:j<16:=by simpa [a1R] using h1
 rw[List.getElem_set]
 simp only[a1R,c1z,c1x]
 rw[hsn,a1k _ _ _ hs]
 by_cases e:s=j
 ·subst e
  rw[if_pos rfl]
  have:nth ((lenCnt (l.take k)).set s (nth (lenCnt (l.take k)) s+1)) s=nth (lenCnt (l.take k)) s+1:=by
   simp[nth,List.getD,a1w,hs]
  omega
 ·rw[if_neg e]
  congr 1
  simp[nth,List.getD,e]
def b9a(w:World)(r:List Int×Int)(e:Ending)(w':World):Prop:=
 ∃ v,e=.returned (.tuple #[v,.int .i64 r.2])/\w'.ownsRow w.heap.size 49 1 v r.1.length (ints .u32 r.1)/\Below w.heap.size w w'
theorem b4T{w w':World}{r:List Int×Int}{e:Int}(hr:r=([],e))(h:Below w.heap.size w w'):b9a w r (.returned (.tuple #[.slice none 0 0,.int .i64 e])) w':=by
 subst hr
 exact⟨_,rfl,World.ownsRow_nil _ _ _ _,h⟩
theorem b6X{w w':World}{r:List Int×Int}{v:Value}{n:Nat}{ls:List Int}(hr:r=(ls,0))(hl:ls.length=n)(ho:w'.ownsRow w.heap.size 49 1 v n (ints .u32 ls))(h:Below w.heap.size w w'):b9a w r (.returned (.tuple #[v,.int .i64 0])) w':=by
 subst hr hl
 exact⟨_,rfl,ho,h⟩
theorem a3A(w:World)(A:Option Addr)(n c:Nat)(l:List Int)(hl:RI .i64 w A n l)(hn:n<=140737488355328) :
  Calls Tryz.prog 95 #[.slice A n c] w (b9a w (codesF l)):=by
 have HL:=c1n hl
 have HLL:=c1n hl.len
 clear hl
 go_enter Tryz.func95,Tryz.ntmps95
 go_wp2_with fail
 refine (a2C _ _ _ _ l HL.out hn).mono ?_
 rintro _ w1 ⟨rfl,hd⟩
 have HD:=c1n hd
 clear hd
 by_cases hc:a0f l=0
 ·have e1:(a0f l !=0)=false:=by simp[hc]
  have HR:Hid (codesF l=(outL l l.length,0)):=if_pos hc
  have HC:=c1n hc
  have hok:=a5r hc
  have HOK:=c1n hok.2
  have hn288:n<=288:=by rw[<-HLL.out];exact hok.1
  have HL1:=c1n (HL.out.keeps (HD.out.keeps (S:=[])) (a0a _))
  clear hc hok
  go_wp2_with fail
  refine (a5U _ _ _ _ l HL1.out hn288 HOK.out).mono ?_
  rintro _ w2 ⟨rfl,hb⟩
  have HB:=c1n ((HD.out.keeps (S:=[])).below.trans (hb.mono (HD.out.keeps (S:=[])).size))
  clear hb
  have Z16:Hid (∀ z:List Value,z=ints .i64 (List.replicate 16 0)->Blk ((w2.alloc (.cells z.toArray 191)).alloc (.cells z.toArray 191)) w2.heap.size 191 (ints .i64 (List.replicate 16 0))/\Blk ((w2.alloc (.cells z.toArray 191)).alloc (.cells z.toArray 191)) (w2.heap.size+1) 191 (ints .i64 (List.replicate 16 0))/\Below w.heap.size w ((w2.alloc (.cells z.toArray 191)).alloc (.cells z.toArray 191))):=by
   rintro z rfl
   refine⟨Blk.alloc (a0d w2 _ _) _,?_,(HB.out.alloc HB.out.size _).alloc (by have:=HB.out.size;simp;omega) _⟩
   have:=a0d (w2.alloc (.cells (ints .i64 (List.replicate 16 0)).toArray 191)) 191 (ints .i64 (List.replicate 16 0))
   simpa using this
  obtain⟨z0,z1,z2⟩:=Z16.out [.int .i64 0,.int .i64 0,.int .i64 0,.int .i64 0,.int .i64 0,.int .i64 0,.int .i64 0,.int .i64 0,.int .i64 0,.int .i64 0,.int .i64 0,.int .i64 0,.int .i64 0,.int .i64 0,.int .i64 0,.int .i64 0] rfl
  have LX:Hid ((ints .i64 (lowL (lenCnt l) 16)).toArray.size=16):=by show _=_;simp[ints,a4d]
  have LY:Hid ((ints .i64 (lenCnt l)).toArray.size=16):=by show _=_;simp[ints,a1w]
  have y0:=z0.row (ints .i64 (lowL (lenCnt l) 16))
  have y1:=(z1.row_other (g':=w2.heap.size) (by simp) (ints .i64 (lowL (lenCnt l) 16)).toArray).row (ints .i64 (lenCnt l))
  have y2:=a8P (a8P z2 HB.out.size (ints .i64 (lowL (lenCnt l) 16)).toArray) (g:=w2.heap.size+1) (by have:=HB.out.size;omega) (ints .i64 (lenCnt l)).toArray
  have y3:=y0.row_other (g':=w2.heap.size+1) (by simp) (ints .i64 (lenCnt l)).toArray
  have Z0:=c1n z0
  have Z1:=c1n (z1.row_other (g':=w2.heap.size) (by simp) (ints .i64 (lowL (lenCnt l) 16)).toArray)
  have Y2:=c1n y2
  have Y3:=c1n y3
  have hbz:=HB.out.size
  clear z0 z1 z2 Z16 y0 y1 y2 y3
  have hmk:=fun w=>a1c (P:=Tryz.prog) w 148 49 .u32 4 Tryz.underlying148 b7n (n:Int) n rfl (by omega) (by omega)
  go_upto_region 5 with (first
   | (refine a2R rfl 191 (.tmp 5) (.tmp 18) rfl w2.heap.size (ints .i64 (lowL (lenCnt l) 16)).toArray rfl rfl 191 (ints .i64 (List.replicate 16 0)).toArray (by exact Z0.out) (by rw[LX.out];kernel_rfl) (by rw[LX.out];rfl) (a1v _) ?_)
   | (refine a2R rfl 191 (.tmp 6) (.tmp 19) rfl (w2.heap.size+1) (ints .i64 (lenCnt l)).toArray rfl rfl 191 (ints .i64 (List.replicate 16 0)).toArray (by exact Z1.out) (by rw[LY.out];kernel_rfl) (by rw[LY.out];rfl) (a1v _) ?_))
  obtain⟨w3,hw3⟩:∃ w3,w3=(((w2.alloc (.cells #[.int .i64 0,.int .i64 0,.int .i64 0,.int .i64 0,.int .i64 0,.int .i64 0,.int .i64 0,.int .i64 0,.int .i64 0,.int .i64 0,.int .i64 0,.int .i64 0,.int .i64 0,.int .i64 0,.int .i64 0,.int .i64 0] 191)).alloc (.cells #[.int .i64 0,.int .i64 0,.int .i64 0,.int .i64 0,.int .i64 0,.int .i64 0,.int .i64 0,.int .i64 0,.int .i64 0,.int .i64 0,.int .i64 0,.int .i64 0,.int .i64 0,.int .i64 0,.int .i64 0,.int .i64 0] 191)).setRow w2.heap.size (ints .i64 (lowL (lenCnt l) 16)).toArray).setRow (w2.heap.size+1) (ints .i64 (lenCnt l)).toArray:=⟨_,rfl⟩
  rw[<-hw3] at Y2 Y3 ⊢
  clear hw3 Z0 Z1
  have HNX:Hid (Blk (w3.alloc (.cells (ints .u32 (List.replicate n 0)).toArray 49)) w2.heap.size 191 (ints .i64 (a1R l 0))):=by rw[b3N];exact Y3.out.alloc _
  have HOUT:Hid (Blk (w3.alloc (.cells (ints .u32 (List.replicate n 0)).toArray 49)) w3.heap.size 49 (ints .u32 (outL l 0))):=by rw[b5H,HLL.out];exact a0d w3 _ _
  have HBW:=c1n (Y2.out.alloc (Y2.out.size) (.cells (ints .u32 (List.replicate n 0)).toArray 49))
  have HLT:=c1n Y3.out.lt
  have hb3:=Y2.out.size
  clear Y2 Y3
  generalize hq:w2.heap.size=q at *
  go_wp2_with fail
  generalize hgo:w3.heap.size=go at *
  go_loopw [25] (fun i wr=>∃ k:Nat,k<=n/\i=.int .i64 k/\Hid (Blk wr q 191 (ints .i64 (a1R l k)))/\Hid (Blk wr go 49 (ints .u32 (outL l k)))/\Hid (Below w.heap.size w wr)) (fun i _=>n-(intOf i).toNat)
  case atStart=>exact⟨0,by omega,rfl,HNX,HOUT,HBW⟩
  case round=>
   clear HNX HOUT HBW
   obtain⟨k,hk,rfl,HNX,HOUT,HBW⟩:=hrel
   by_cases hlt:k<n
   ·obtain⟨b,o,rfl,hc⟩:=HL.out.at hlt
    have hc:=(Keeps.of_below (S:=[]) HBW.out).cell (by simp) hc
    have hx:okLen (nth l k)=true:=by rw[a0q (by have:=HLL.out;omega)];exact List.all_eq_true.1 HOK.out _ (List.getElem_mem _)
    have hx1:0<=nth l k/\nth l k<=15:=by simpa [okLen] using hx
    obtain⟨hx2,hx3⟩:=hx1
    clear hx
    by_cases hz:0<nth l k
    ·obtain⟨s,hs,hs16,hsn⟩:=a6h l k (by have:=HLL.out;omega) hz hx3
     have S1:=c1n (b3M l k (by have:=HLL.out;omega) s hs16 hsn)
     have S2:=c1n (b5G l k (by have:=HLL.out;omega) hz)
     have h0:=HNX.out.cellI (j:=s) (by rw[b5B];exact hs16)
     have hf:=HNX.out.frozen s
     have g0:=HOUT.out.cellI (j:=k) (by rw[a5z,HLL.out];exact hlt)
     have gf:=HOUT.out.frozen k
     have HCI:Hid (a1D l k=nth (a1R l k) s):=by
      show _=_
      unfold a1D a1R
      rw[a1k _ _ _ hs16,hs];simp
     obtain⟨b0,b1⟩:=a2g (l.take k) s hs16
     obtain⟨c0,c1⟩:=a2y l (by have:=HLL.out;omega) s (by omega)
     have hxv:nth (a1R l k) s=lowF (lenCnt l) s+nth (lenCnt (l.take k)) s:=by unfold a1R;rw[a1k _ _ _ hs16]
     have b2:(l.take k).length<=288:=by rw[List.length_take];omega
     have x0:0<=nth (a1R l k) s:=by omega
     have x1:nth (a1R l k) s<=50000000:=by omega
     have hks:Hid ((nth l k).toNat=s):=by show _=_;rw[hs];simp
     rw[hs] at hc hx2 hx3 hz
     have e3:decide (0<s)=true:=by simp;omega
     clear hxv b0 b1 b2 c0 c1 hsn hs
     generalize nth (a1R l k) s=x at *
     go_wp2_with fail
     refine (b0j _ x s x0 (by omega) (by omega)).mono ?_
     rintro _ w4 ⟨rfl,rfl⟩
     have HSET1:Hid (Blk (wr.setCell ⟨go,k,none⟩ (.int .u32 (revF x s))) go 49 (ints .u32 (outL l (k+1)))):=by
      have:=HOUT.out.set k (.int .u32 (revF x s))
      rw[a5A] at this
      rw[S2.out,HCI.out,hks.out];exact this
     have HSET2:=c1n (HNX.out.set_other (a:=⟨go,k,none⟩) (by have:=HLT.out;show q≠go;omega) (.int .u32 (revF x s)))
     have HW4:=c1n (HBW.out.setCell (p:=⟨go,k,none⟩) hb3 (.int .u32 (revF x s)))
     have hne1:¬q=go:=by have:=HLT.out;omega
     have hne2:¬go=q:=by have:=HLT.out;omega
     have HSET3:Hid (Blk ((wr.setCell ⟨go,k,none⟩ (.int .u32 (revF x s))).setCell ⟨q,s,none⟩ (.int .i64 (x+1))) q 191 (ints .i64 (a1R l (k+1)))):=by
      have:=HSET2.out.set s (.int .i64 (x+1))
      rw[a5A,<-S1.out] at this;exact this
     have HSET4:=c1n (HSET1.out.set_other (a:=⟨q,s,none⟩) (by exact hne2) (.int .i64 (x+1)))
     have HW5:=c1n (HW4.out.setCell (p:=⟨q,s,none⟩) hbz (.int .i64 (x+1)))
     clear HNX HOUT HBW HSET1 HSET2 HW4
     go_wp2_with fail
     go_roundw
     case rel=>exact⟨k+1,by omega,by go_num,HSET3,HSET4,HW5⟩
     case measure=>simp[intOf];omega
    ·have e3:decide (0<nth l k)=false:=by simpa using hz
     have S1:=c1n (b3L l k (by have:=HLL.out;omega) hz)
     have S2:=c1n (b5F l k hz)
     go_wp2_with fail
     go_roundw
     case rel=>exact⟨k+1,by omega,by go_num,by rw[S1.out];exact HNX,by rw[S2.out];exact HOUT,HBW⟩
     case measure=>simp[intOf];omega
   ·obtain rfl:k=n:=by omega
    go_wp2_with fail
    go_ret2
    refine b6X (v:=.slice (some ⟨go,0,none⟩) k k) (ls:=outL l k) (by rw[HR.out,HLL.out]) (by rw[a5z,HLL.out]) ?_ HBW.out
    exact a6t HOUT.out (by rw[a5z,HLL.out]) hb3 (by omega)
 ·have e1:(a0f l !=0)=true:=by simpa using hc
  have HR:Hid (codesF l=([],a0f l)):=if_neg hc
  go_wp2_with fail
  go_ret2
  exact b4T HR.out (HD.out.keeps (S:=[])).below
def msbF(c:Int)(n:Nat):List Int:=(List.range n).map fun t=>c/2^(n-1-t)%2
theorem a4g(c:Int)(n:Nat):(msbF c n).length=n:=by simp[msbF]
theorem b7J(c:Int)(n t:Nat)(h:t<n):nth (msbF c n) t=c/2^(n-1-t)%2:=by
 unfold msbF;rw[a1k _ _ _ h]
def posF(l:List Int)(n i:Nat):Int:=lowF (lenCnt l) n+nth (lenCnt (l.take i)) n
theorem a9I(l:List Int)(n i:Nat)(hn:n<16)(hi:i<l.length)(h:nth l i≠n):posF l n (i+1)=posF l n i:=by
 unfold posF
 congr 1
 unfold lenCnt
 rw[a0y _ _ _ hn,a0y _ _ _ hn,a0E l i hi,List.filter_append,List.count_append]
 have:List.count (n:Int) (List.filter (fun x=>decide (0<x)) [nth l i])=0:=List.count_eq_zero_of_not_mem (fun hm=>by
  have:=(List.mem_filter.1 hm).1
  exact h (List.mem_singleton.1 this).symm)
 omega
theorem a4n(l:List Int)(n i:Nat)(hn:n<16)(h1:1<=n)(hi:i<l.length)(h:nth l i=n):posF l n (i+1)=posF l n i+1:=by
 unfold posF
 unfold lenCnt
 rw[a0y _ _ _ hn,a0y _ _ _ hn,a0E l i hi,List.filter_append,List.count_append,h,List.filter_cons_of_pos (by simp;omega)]
 simp;omega
theorem a4m(l:List Int)(n i:Nat)(h:nth l i=n):a1D l i=posF l n i:=by unfold a1D posF;rw[h];simp
def cntN(l:List Int)(n i:Nat):Int:=nth (lenCnt (l.take i)) n
theorem a9a(l:List Int)(n:Nat)(hn:n<16):cntN l n 0=0:=by
 unfold cntN;rw[c1K];unfold lenCnt;rw[a0y _ _ _ hn];simp
theorem b2p(l:List Int)(n:Nat):cntN l n l.length=nth (lenCnt l) n:=by unfold cntN;rw[List.take_length]
theorem a8Y(l:List Int)(n i:Nat)(hn:n<16)(hi:i<l.length)(h:nth l i≠n):cntN l n (i+1)=cntN l n i:=by
 have:=a9I l n i hn hi h
 unfold posF at this
 unfold cntN;omega
theorem a8Z(l:List Int)(n i:Nat)(hn:n<16)(h1:1<=n)(hi:i<l.length)(h:nth l i=n):cntN l n (i+1)=cntN l n i+1:=by
 have:=a4n l n i hn h1 hi h
 unfold posF at this
 unfold cntN;omega
theorem b4S(l:List Int)(n i:Nat)(hn:n<16):0<=cntN l n i:=(a2g (l.take i) n hn).1
def symsOf(l:List Int)(n:Nat):Nat->List Int
 | 0=>[]
 | i+1=>symsOf l n i++(if nth l i=n then [(i:Int)] else [])
theorem a3L(l:List Int)(n i:Nat)(h:nth l i≠n):symsOf l n (i+1)=symsOf l n i:=by simp[symsOf,h]
theorem a3M(l:List Int)(n i:Nat)(h:nth l i=n):symsOf l n (i+1)=symsOf l n i++[(i:Int)]:=by simp[symsOf,h]
theorem a4R(l:List Int)(n:Nat):∀ i,(symsOf l n i).length<=i
 | 0=>by simp[symsOf]
 | i+1=>by
  have:=a4R l n i
  unfold symsOf
  rw[c1q]
  split<;>simp<;>omega
theorem a4Q(l:List Int)(n:Nat)(hn:n<16)(h1:1<=n):∀ i,i<=l.length->((symsOf l n i).length:Int)=cntN l n i
 | 0,_=>by rw[a9a l n hn];rfl
 | i+1,hi=>by
  have:=a4Q l n hn h1 i (by omega)
  by_cases h:nth l i=n
  ·rw[a3M l n i h,a8Z l n i hn h1 (by omega) h,c1q];simp;omega
  ·rw[a3L l n i h,a8Y l n i hn (by omega) h];exact this
theorem a1d(xs ys:List Int)(k:Nat)(h:k<xs.length):nth (xs++ys) k=nth xs k:=by simp[nth,List.getD,List.getElem?_append_left h]
theorem a0v(xs ys:List Int)(k:Nat):nth (xs++ys) (xs.length+k)=nth ys k:=by simp[nth,List.getD,List.getElem?_append_right]
theorem a6R(l:List Int)(n:Nat)(hn:n<16)(h1:1<=n):∀ i k,i<=l.length->k<(symsOf l n i).length->∃ j,j<i/\nth (symsOf l n i) k=(j:Int)/\nth l j=n/\cntN l n j=k
 | 0,k,_,hk=>by simp[symsOf] at hk
 | i+1,k,hi,hk=>by
  by_cases h:nth l i=n
  ·rw[a3M l n i h] at hk ⊢
   by_cases e:k<(symsOf l n i).length
   ·obtain⟨j,a,b,c,d⟩:=a6R l n hn h1 i k (by omega) e
    exact⟨j,by omega,by rw[a1d _ _ _ e];exact b,c,d⟩
   ·have hk':k=(symsOf l n i).length:=by rw[c1q] at hk;simp at hk;omega
    refine⟨i,by omega,?_,h,?_⟩
    ·have:=a0v (symsOf l n i) [(i:Int)] 0
     rw[Nat.add_zero,<-hk'] at this
     rw[this];rfl
    ·rw[hk'];exact (a4Q l n hn h1 i (by omega)).symm
  ·rw[a3L l n i h] at hk ⊢
   obtain⟨j,a,b,c,d⟩:=a6R l n hn h1 i k (by omega) hk
   exact⟨j,by omega,b,c,d⟩
def symsB(l:List Int):Nat->List Int
 | 0=>[]
 | n+1=>symsB l n++(if n=0 then [] else symsOf l n l.length)
theorem b6n(l:List Int):symsB l 1=[]:=by simp[symsB]
theorem a4P(l:List Int)(n:Nat)(h:1<=n):symsB l (n+1)=symsB l n++symsOf l n l.length:=by
 rw[symsB,if_neg (by omega)]
theorem a4r(l:List Int):∀ n,(symsB l n).length<=n*l.length
 | 0=>by simp[symsB]
 | n+1=>by
  have h1:=a4r l n
  have h2:=a4R l n l.length
  rw[symsB,c1q,Nat.add_mul]
  split<;>simp<;>omega
theorem a6Q(l:List Int)(n:Nat)(h:1<=n):∀ d,∃ r,symsB l (n+1+d)=symsB l n++(symsOf l n l.length++r)
 | 0=>⟨[],by rw[Nat.add_zero,a4P l n h,List.append_nil]⟩
 | d+1=>by
  obtain⟨r,hr⟩:=a6Q l n h d
  exact⟨r++symsOf l (n+1+d) l.length,by rw[show n+1+(d+1)=(n+1+d)+1 by omega,a4P l _ (by omega),hr];simp only[List.append_assoc]⟩
theorem b2Y(l:List Int)(n:Nat)(hn:n<16)(h1:1<=n)(k:Nat)(hk:(k:Int)<nth (lenCnt l) n) :
  (symsB l n).length+k<(symsB l 16).length/\∃ j,j<l.length/\nth (symsB l 16) ((symsB l n).length+k)=(j:Int)/\nth l j=n/\a1D l j=lowF (lenCnt l) n+k:=by
 have hc:=a4Q l n hn h1 l.length (c1u _)
 rw[b2p] at hc
 obtain⟨r,hr⟩:=a6Q l n h1 (15-n)
 rw[show n+1+(15-n)=16 by omega] at hr
 have hk2:k<(symsOf l n l.length).length:=by omega
 obtain⟨j,a,b,c,d⟩:=a6R l n hn h1 l.length k (c1u _) hk2
 refine⟨by rw[hr];simp;omega,j,a,?_,c,?_⟩
 ·rw[hr,a0v,a1d _ _ _ hk2];exact b
 ·rw[a4m l n j c];unfold posF;unfold cntN at d;rw[d]
def atL(l:List Int)(n:Nat):List Int:=(List.range 16).map fun m=>if 1<=m/\m<n then ((symsB l m).length:Int) else 0
theorem b9l(l:List Int):atL l 1=List.replicate 16 0:=by
 refine c1w (by simp[atL]) fun j h1 h2=>?_
 simp only[atL,c1z,c1x,List.getElem_replicate]
 rw[if_neg (by omega)]
theorem b6R(l:List Int)(n:Nat)(h1:1<=n)(hn:n<16):atL l (n+1)=(atL l n).set n ((symsB l n).length:Int):=by
 refine c1w (by simp[atL]) fun j h1 h2=>?_
 rw[List.getElem_set]
 simp only[atL,c1z,c1x]
 by_cases e:n=j
 ·subst e;rw[if_pos rfl,if_pos (by omega)]
 ·rw[if_neg e]
  by_cases e2:1<=j/\j<n
  ·rw[if_pos (by omega),if_pos e2]
  ·rw[if_neg (by omega),if_neg e2]
theorem c0n(l:List Int)(n:Nat)(h1:1<=n)(hn:n<16):nth (atL l 16) n=((symsB l n).length:Int):=by
 unfold atL;rw[show nth ((List.range 16).map fun m=>if 1<=m/\m<16 then ((symsB l m).length:Int) else 0) n=(fun m=>if 1<=m/\m<16 then ((symsB l m).length:Int) else 0) n by simp[nth,List.getD,hn]]
 simp only[]
 rw[if_pos ⟨h1,hn⟩]
def longN(l:List Int):Nat->Nat
 | 0=>0
 | n+1=>if 1<=n/\0<nth (lenCnt l) n then n else longN l n
def a5p(l:List Int)(n i:Nat):Nat:=if 0<cntN l n i then n else longN l n
theorem b5t(l:List Int):longN l 1=0:=by simp[longN]
theorem b3J(l:List Int)(n:Nat)(hn:n<16):a5p l n 0=longN l n:=by unfold a5p;rw[a9a l n hn,if_neg (by omega)]
theorem b5s(l:List Int)(n:Nat)(h1:1<=n):a5p l n l.length=longN l (n+1):=by
 unfold a5p
 rw[b2p,longN]
 by_cases h:0<nth (lenCnt l) n
 ·rw[if_pos h,if_pos ⟨h1,h⟩]
 ·rw[if_neg h,if_neg (fun h'=>h h'.2)]
theorem b3H(l:List Int)(n i:Nat)(hn:n<16)(hi:i<l.length)(h:nth l i≠n):a5p l n (i+1)=a5p l n i:=by
 unfold a5p;rw[a8Y l n i hn hi h]
theorem b3I(l:List Int)(n i:Nat)(hn:n<16)(h1:1<=n)(hi:i<l.length)(h:nth l i=n):a5p l n (i+1)=n:=by
 unfold a5p;rw[a8Z l n i hn h1 hi h,if_pos (by have:=b4S l n i hn;omega)]
theorem a8q(l:List Int):∀ n,longN l n<n∨n=0
 | 0=>.inr rfl
 | n+1=>by
  left
  rw[longN]
  split
  ·omega
  ·have:=a8q l n
   rcases this with h|h
   ·omega
   ·subst h;simp[longN]
theorem a9D(l:List Int):∀ n m,longN l n<m->m<n->nth (lenCnt l) m<=0∨m=0
 | 0,m,_,h=>by omega
 | n+1,m,h1,h2=>by
  rw[longN] at h1
  split at h1
  ·omega
  ·rename_i h3
   by_cases e:m=n
   ·subst e
    by_cases h0:m=0
    ·exact .inr h0
    ·left;omega
   ·exact a9D l n m h1 (by omega)
def decGo(l bs:List Int)(p:Nat):Nat->Nat->Int->Int×Int×Nat
 | 0,_,_=>(0,32,0)
 | f+1,n,x=>if p+n+1<=8*bs.length then
   if 0<=2*x+bitAt bs (p+n)-lowF (lenCnt l) (n+1)/\2*x+bitAt bs (p+n)-lowF (lenCnt l) (n+1)<nth (lenCnt l) (n+1) then
    (nth (symsB l 16) ((symsB l (n+1)).length+(2*x+bitAt bs (p+n)-lowF (lenCnt l) (n+1)).toNat),0,n+1)
   else decGo l bs p f (n+1) (2*x+bitAt bs (p+n))
  else (0,10,0)
def decF(l bs:List Int)(p:Nat):Int×Int×Nat:=decGo l bs p (longN l 16) 0 0
open Go.RowKit
def rth(rs:List (List Int))(j:Nat):List Int:=rs.getD j []
def RB(w:World)(g n:Nat)(rs:List (List Int)):Prop:=
 rs.length=n/\∃ vs:List Value,vs.length=n/\Blk w g 26 vs/\∀ j v,vs[j]? =some v->w.ownsRow (g+1) 5 1 v (rth rs j).length (ints .u8 (rth rs j))
theorem RB.len{w:World}{g n:Nat}{rs:List (List Int)}(h:RB w g n rs):rs.length=n:=h.1
theorem RB.lt{w:World}{g n:Nat}{rs:List (List Int)}(h:RB w g n rs):g<w.heap.size:=by
 obtain⟨_,vs,_,h2,_⟩:=h;exact h2.lt
theorem RB.keeps{w w':World}{g n:Nat}{rs:List (List Int)}{S:List Nat}(h:RB w g n rs)(hk:Keeps S w w')(hS:∀ x∈S,x<g∨w.heap.size<=x):RB w' g n rs:=by
 obtain⟨h0,vs,h1,h2,h3⟩:=h
 refine⟨h0,vs,h1,h2.keeps hk (fun hm=>by have:=h2.lt;rcases hS g hm with h|h<;>omega),fun j v hv=>a0b (h3 j v hv) hk fun x hx hm=>?_⟩
 have a:=a0m (h3 j v hv) x hx
 have b:=a3g (h3 j v hv) x hx
 rcases hS x hm with h|h<;>omega
theorem RB.below{w w':World}{g n:Nat}{rs:List (List Int)}(h:RB w g n rs)(hk:Below w.heap.size w w'):RB w' g n rs:=h.keeps (Keeps.of_below (S:=[]) hk) (by simp)
theorem RB.set{w:World}{g n:Nat}{rs:List (List Int)}(h:RB w g n rs)(i:Nat)(v:Value)(row:List Int)(ho:w.ownsRow (g+1) 5 1 v row.length (ints .u8 row)) :
  RB (w.setCell ⟨g,i,none⟩ v) g n (rs.set i row):=by
 obtain⟨h0,vs,h1,h2,h3⟩:=h
 have hk:Keeps [g] w (w.setCell ⟨g,i,none⟩ v):=(Keeps.refl [g] w).setCell (Or.inl (by simp)) v
 have hne:∀ {u:Value} {m:Nat} {xs:List Value},w.ownsRow (g+1) 5 1 u m xs->∀ x,u.ownBlock=some x->x∉[g]:=fun ho x hx hm=>by
  have:=a0m ho x hx;rw[List.mem_singleton.1 hm] at this;omega
 refine⟨by simp[h0],vs.set i v,by simp[h1],h2.set i v,fun j u hu=>?_⟩
 rw[List.getElem?_set] at hu
 by_cases e:i=j
 ·subst e
  by_cases hj:i<vs.length
  ·rw[if_pos rfl,if_pos hj] at hu
   obtain rfl:=Option.some.inj hu
   have:rth (rs.set i row) i=row:=by simp[rth,List.getD,show i<rs.length by omega]
   rw[this]
   exact a0b ho hk (hne ho)
  ·rw[if_pos rfl,if_neg hj] at hu;simp at hu
 ·rw[if_neg e] at hu
  have:rth (rs.set i row) j=rth rs j:=by simp[rth,List.getD,e]
  rw[this]
  exact a0b (h3 j u hu) hk (hne (h3 j u hu))
theorem RB.new(w:World)(n:Nat):RB (w.alloc (.cells (List.replicate n (Value.slice none 0 0)).toArray 26 (0,0))) w.heap.size n (List.replicate n []):=by
 refine⟨by simp,_,by simp,a0d w _ _,fun j v hv=>?_⟩
 have hj:j<n:=by
  have:=(List.getElem?_eq_some_iff.1 hv).1;simpa using this
 have e:v=.slice none 0 0:=by
  rw[c1E (by simpa using hj)] at hv;simpa using hv.symm
 have e2:rth (List.replicate n []) j=[]:=by simp[rth,List.getD,hj]
 rw[e,e2]
 exact World.ownsRow_nil _ _ _ _
theorem RB.at{w:World}{g n:Nat}{rs:List (List Int)}(h:RB w g n rs){j:Nat}(hj:j<n) :
  ∃ A c,w.cell? ⟨g,j,none⟩=some (.slice A (rth rs j).length c)/\RI .u8 w A (rth rs j).length (rth rs j)/\(∀ a,A=some a->g+1<=a.block/\a.block<w.heap.size):=by
 obtain⟨h0,vs,h1,h2,h3⟩:=h
 obtain⟨A,c,e,hr,_,ha⟩:=a0B (h3 j _ (c1E (by omega)))
 refine⟨A,c,?_,hr,fun a h=>⟨(ha a h).1,(ha a h).2.1⟩⟩
 rw[h2.cell,c1E (by omega),e]
theorem RB.free{w:World}{g n:Nat}{rs:List (List Int)}(h:RB w g n rs)(j:Nat):w.frozen? ⟨g,j,none⟩=false:=by
 obtain⟨_,vs,_,h2,_⟩:=h;exact h2.frozen j
theorem b1x(l:List Int)(n:Nat)(hn:n<16)(h1:1<=n)(i:Nat):∀ d,i+d<=l.length->posF l n i<=posF l n (i+d)
 | 0,_=>Int.le_refl _
 | d+1,h=>by
  have:=b1x l n hn h1 i d (by omega)
  by_cases hx:nth l (i+d)=n
  ·have:=a4n l n (i+d) hn h1 (by omega) hx
   rw[<-c1J];omega
  ·have:=a9I l n (i+d) hn (by omega) hx
   rw[<-c1J];omega
theorem b2q(l:List Int)(n j:Nat)(hn:n<16)(h1:1<=n)(hj:j<l.length)(h:nth l j=n):lowF (lenCnt l) n<=a1D l j/\a1D l j<lowF (lenCnt l) n+nth (lenCnt l) n:=by
 rw[a4m l n j h]
 have a:=a4n l n j hn h1 hj h
 have b:=b1x l n hn h1 (j+1) (l.length-(j+1)) (by omega)
 rw[show j+1+(l.length-(j+1))=l.length by omega] at b
 have c:posF l n l.length=lowF (lenCnt l) n+nth (lenCnt l) n:=by
  unfold posF;rw[List.take_length]
 have d:=b4S l n j hn
 unfold cntN at d
 refine⟨?_,by omega⟩
 unfold posF;omega
theorem b2r(l:List Int)(n i j:Nat)(hn:n<16)(h1:1<=n)(hij:i<j)(hj:j<l.length)(hi:nth l i=n)(hj':nth l j=n):a1D l i<a1D l j:=by
 rw[a4m l n i hi,a4m l n j hj']
 have a:=a4n l n i hn h1 (by omega) hi
 have b:=b1x l n hn h1 (i+1) (j-(i+1)) (by omega)
 rw[show i+1+(j-(i+1))=j by omega] at b
 omega
def a7d(n:Nat)(x:Int):Nat:=if 0<x/\x<=n then 2^(15-x).toNat else 0
def takenN(l:List Int)(n:Nat):Nat:=(l.map (a7d n)).sum
theorem a6f(x:Int)(l:List Int)(n:Nat)(hn:n<16):nth (lenCnt (x::l)) n=nth (lenCnt l) n+if 0<x/\x=(n:Int) then 1 else 0:=by
 unfold lenCnt
 rw[a0y _ _ _ hn,a0y _ _ _ hn]
 by_cases h0:0<x
 ·rw[List.filter_cons_of_pos (by simpa using h0),List.count_cons]
  by_cases hx:x=n
  ·rw[if_pos (c:=0<x/\x=n) ⟨h0,hx⟩,show (x==(n:Int))=true by simpa using hx];simp
  ·rw[if_neg (c:=0<x/\x=n) (fun h=>hx h.2),show (x==(n:Int))=false by simpa using hx];simp
 ·rw[List.filter_cons_of_neg (by simpa using h0),if_neg (c:=0<x/\x=n) (fun h=>h0 h.1)];simp
theorem a2G(l:List Int):nth (lenCnt l) 0=0:=by
 induction l with
 | nil=>unfold lenCnt;rw[a0y _ _ _ (by omega)];simp
 | cons x l ih=>
  rw[a6f x l 0 (by omega),ih,if_neg (by omega)];rfl
theorem b1S(l:List Int):takenN l 0=0:=by
 induction l with
 | nil=>rfl
 | cons x l ih=>
  unfold takenN at *
  rw[c1F,c1G,ih];unfold a7d;rw[if_neg (by omega)]
theorem b1R(l:List Int)(n:Nat)(hn:n<15):(takenN l (n+1):Int)=takenN l n+nth (lenCnt l) (n+1)*2^(15-(n+1)):=by
 induction l with
 | nil=>unfold lenCnt;rw[a0y _ _ _ (by omega)];simp[takenN]
 | cons x l ih=>
  rw[a6f x l (n+1) (by omega)]
  have e:∀ m,takenN (x::l) m=a7d m x+takenN l m:=fun m=>by unfold takenN;rw[c1F,c1G]
  rw[e,e]
  push_cast
  rw[ih,Int.add_mul]
  have:(a7d (n+1) x:Int)=a7d n x+(if 0<x/\x=(n:Int)+1 then 1 else 0)*2^(15-(n+1)):=by
   unfold a7d
   by_cases hx:x=(n:Int)+1
   ·rw[if_pos (by omega),if_neg (by omega),if_pos (by omega),hx,show ((15:Int)-((n:Int)+1)).toNat=15-(n+1) by omega];simp
   ·rw[if_neg (c:=0<x/\x=(n:Int)+1) (fun h=>hx h.2),Int.zero_mul,Int.add_zero]
    by_cases h2:0<x/\x<=n
    ·rw[if_pos h2,if_pos (by omega)]
    ·rw[if_neg h2,if_neg (by push_cast;omega)]
  rw[this,show 15-(n+1)=14-n by omega]
  omega
theorem b0h(l:List Int):∀ n,n<=15->(takenN l n:Int)=(lowF (lenCnt l) n+nth (lenCnt l) n)*2^(15-n)
 | 0,_=>by rw[b1S,a2G];simp[lowF]
 | n+1,h=>by
  have key:∀ a b c K:Int,(a+b)*(K*2)+c*K=(2*(a+b)+c)*K:=fun a b c K=>by
   rw[Int.add_mul (2*(a+b)),Int.mul_comm K 2,<-Int.mul_assoc,Int.mul_comm (a+b) 2]
  rw[b1R l n (by omega),b0h l n (by omega),lowF,show 15-n=(15-(n+1))+1 by omega,Int.pow_succ]
  exact key _ _ _ _
theorem b4i(l:List Int)(n:Nat):takenN l n<=takenN l (n+1):=by
 induction l with
 | nil=>exact c1u _
 | cons x l ih=>
  unfold takenN at *
  rw[c1F,c1G,c1F,c1G]
  have:a7d n x<=a7d (n+1) x:=by
   unfold a7d
   by_cases h:0<x/\x<=n
   ·rw[if_pos h,if_pos (by push_cast;omega)];exact c1u _
   ·rw[if_neg h];exact Nat.zero_le _
  omega
theorem a6S(l:List Int)(n:Nat):∀ d,takenN l n<=takenN l (n+d)
 | 0=>c1u _
 | d+1=>Nat.le_trans (a6S l n d) (b4i l (n+d))
theorem b6s(l:List Int)(h:l.all okLen=true):takenN l 15=measF l:=by
 induction l with
 | nil=>rfl
 | cons x l ih=>
  rw[List.all_cons,Bool.and_eq_true] at h
  have:=ih h.2
  unfold takenN measF at *
  rw[c1F,c1G,c1F,c1G,this]
  congr 1
  have hx:=h.1
  unfold okLen at hx
  simp only[Bool.and_eq_true,decide_eq_true_eq] at hx
  unfold a7d part
  by_cases h0:0<x
  ·rw[if_pos ⟨h0,by push_cast;omega⟩,if_pos h0]
  ·rw[if_neg (fun h=>h0 h.1),if_neg h0]
theorem b7s{l:List Int}(hc:a0f l=0)(n:Nat)(hn:n<=15):lowF (lenCnt l) n+nth (lenCnt l) n<=2^n:=by
 have hm:measF l<=32768:=by
  unfold a0f at hc
  repeat' split at hc
  all_goals first|omega|(exfalso;revert hc;decide)|skip
 have h1:=b0h l n hn
 have h2:=a6S l n (15-n)
 rw[show n+(15-n)=15 by omega,b6s l (a5r hc).2] at h2
 have h3:(takenN l n:Int)<=2^n*2^(15-n):=by
  rw[<-Int.pow_add,show n+(15-n)=15 by omega];omega
 rw[h1] at h3
 exact Int.le_of_mul_le_mul_right h3 (a0k _)
def xv(bs:List Int)(p:Nat):Nat->Int
 | 0=>0
 | n+1=>2*xv bs p n+bitAt bs (p+n)
theorem b6Z(c:Int)(m k:Nat)(h:k<m):c/2^(m-k)=c/2^(m-(k+1))/2:=by
 rw[show m-k=(m-(k+1))+1 by omega,Int.pow_succ,Int.mul_comm,Int.ediv_ediv_of_nonneg (by have:=a0k (m-(k+1));omega),Int.mul_comm]
theorem b5Q(c:Int)(m:Nat)(h0:0<=c)(hc:c<2^m)(bs:List Int)(p:Nat):∀ k,k<=m->((∀ t,t<k->nth (msbF c m) t=bitAt bs (p+t))↔c/2^(m-k)=xv bs p k)
 | 0,_=>by
  rw[Nat.sub_zero,Int.ediv_eq_zero_of_lt h0 hc]
  exact⟨fun _=>rfl,fun _ t ht=>by omega⟩
 | k+1,h=>by
  have ih:=b5Q c m h0 hc bs p k (by omega)
  have e:=b6Z c m k (by omega)
  have en:=b7J c m k (by omega)
  rw[show m-1-k=m-(k+1) by omega] at en
  have hb:=a3m bs (p+k)
  rw[xv]
  constructor
  ·intro hall
   have h1:=ih.1 (fun t ht=>hall t (by omega))
   have h2:=hall k (by omega)
   rw[en] at h2
   rw[e] at h1
   omega
  ·intro hd t ht
   by_cases hk:t=k
   ·subst hk;rw[en];omega
   ·exact ih.2 (by rw[e];omega) t (by omega)
theorem b7A(l:List Int):longN l 16<=15:=by have:=a8q l 16;omega
theorem a5t(l bs:List Int)(p:Nat):∀ f n,n+f=longN l 16->p+n<=8*bs.length->(∀ m,m<=n->lowF (lenCnt l) m+nth (lenCnt l) m<=xv bs p m) ->
  (∃ j m:Nat,j<l.length/\1<=m/\m<=15/\nth l j=m/\a1D l j=xv bs p m/\p+m<=8*bs.length/\(∀ i,i<m->lowF (lenCnt l) i+nth (lenCnt l) i<=xv bs p i)/\decGo l bs p f n (xv bs p n)=((j:Int),0,m)) ∨
  (∃ k,k<longN l 16/\p+k=8*bs.length/\(∀ m,m<=k->lowF (lenCnt l) m+nth (lenCnt l) m<=xv bs p m)/\decGo l bs p f n (xv bs p n)=(0,10,0)) ∨
  (p+longN l 16<=8*bs.length/\(∀ m,m<=longN l 16->lowF (lenCnt l) m+nth (lenCnt l) m<=xv bs p m)/\decGo l bs p f n (xv bs p n)=(0,32,0))
 | 0,n,hn,hp,hx=>by
  obtain rfl:n=longN l 16:=by omega
  exact .inr (.inr ⟨hp,hx,rfl⟩)
 | f+1,n,hn,hp,hx=>by
  have hL:=b7A l
  rw[decGo]
  by_cases he:p+n+1<=8*bs.length
  ·rw[if_pos he]
   have hlo:lowF (lenCnt l) (n+1)<=xv bs p (n+1):=by
    have:=hx n (c1u _)
    have:=a3m bs (p+n)
    rw[xv,lowF];omega
   rw[show 2*xv bs p n+bitAt bs (p+n)=xv bs p (n+1) from rfl]
   by_cases hk:xv bs p (n+1)-lowF (lenCnt l) (n+1)<nth (lenCnt l) (n+1)
   ·rw[if_pos ⟨by omega,hk⟩]
    left
    obtain⟨k,hk'⟩:=Int.eq_ofNat_of_zero_le (Int.sub_nonneg.2 hlo)
    rw[hk'] at hk ⊢
    obtain⟨_,j,a,b,c,d⟩:=b2Y l (n+1) (by omega) (by omega) k hk
    refine⟨j,n+1,a,by omega,by omega,c,by rw[d];omega,by omega,fun i hi=>hx i (by omega),?_⟩
    rw[Int.toNat_natCast,b]
   ·rw[if_neg (fun h=>hk h.2)]
    refine a5t l bs p f (n+1) (by omega) (by omega) (fun m hm=>?_)
    by_cases hmn:m<=n
    ·exact hx m hmn
    ·obtain rfl:m=n+1:=by omega
     omega
  ·rw[if_neg he]
   exact .inr (.inl ⟨n,by omega,by omega,hx,rfl⟩)
theorem c0m(l bs:List Int)(p m:Nat)(h:xv bs p m<lowF (lenCnt l) m+nth (lenCnt l) m):∀ d,xv bs p (m+(d+1))<lowF (lenCnt l) (m+(d+1))
 | 0=>by
  have:=a3m bs (p+m)
  rw[xv,lowF];omega
 | d+1=>by
  have ih:=c0m l bs p m h d
  by_cases hq:0<=nth (lenCnt l) (m+(d+1))
  ·have:=a3m bs (p+(m+(d+1)))
   rw[<-c1J m,xv,lowF];omega
  ·exfalso
   apply hq
   by_cases h16:m+(d+1)<16
   ·exact (a2g l _ h16).1
   ·have:(lenCnt l)[m+(d+1)]? =none:=List.getElem?_eq_none (by rw[a1w];omega)
    simp[nth,List.getD,this]
def sayF(l:List Int)(sym extra:Int):Option (Int×Nat):=
 if 0<=sym/\sym<=15/\extra=0 then some (sym,1)
 else if sym=16/\0<=extra/\extra<=3/\l≠[] then some (l.getD (l.length-1) 0,extra.toNat+3)
 else if sym=17/\0<=extra/\extra<=7 then some (0,extra.toNat+3)
 else if sym=18/\0<=extra/\extra<=127 then some (0,extra.toNat+11)
 else none
def addF(l:List Int)(sym extra n:Int):Option (List Int):=
 match sayF l sym extra with
 | some (v,k)=>if ((l.length+k:Nat):Int)<=n then some (l++List.replicate k v) else none
 | none=>none
theorem a8w{l:List Int}{sym:Int}(h0:0<=sym)(h1:sym<=15):sayF l sym 0=some (sym,1):=by
 rw[sayF,if_pos ⟨h0,h1,rfl⟩]
theorem a1Y{l:List Int}{sym extra:Int}(h1:sym<=15)(h2:sym<0∨extra≠0):sayF l sym extra=none:=by
 rw[sayF,if_neg (by rintro ⟨a,b,c⟩;rcases h2 with h|h;omega;exact h c),if_neg (by omega),if_neg (by omega),if_neg (by omega)]
theorem b5Z{l:List Int}{extra:Int}(h0:0<=extra)(h1:extra<=3)(h:l≠[]):sayF l 16 extra=some (l.getD (l.length-1) 0,extra.toNat+3):=by
 rw[sayF,if_neg (by omega),if_pos ⟨rfl,h0,h1,h⟩]
theorem a3i{l:List Int}{extra:Int}(h:extra<0∨3<extra∨l=[]):sayF l 16 extra=none:=by
 rw[sayF,if_neg (by omega),if_neg (by rintro ⟨_,a,b,c⟩;rcases h with h|h|h;omega;omega;exact c h),if_neg (by omega),if_neg (by omega)]
theorem b6a{l:List Int}{extra:Int}(h0:0<=extra)(h1:extra<=7):sayF l 17 extra=some (0,extra.toNat+3):=by
 rw[sayF,if_neg (by omega),if_neg (by omega),if_pos ⟨rfl,h0,h1⟩]
theorem a5h{l:List Int}{extra:Int}(h:extra<0∨7<extra):sayF l 17 extra=none:=by
 rw[sayF,if_neg (by omega),if_neg (by omega),if_neg (by omega),if_neg (by omega)]
theorem b6b{l:List Int}{extra:Int}(h0:0<=extra)(h1:extra<=127):sayF l 18 extra=some (0,extra.toNat+11):=by
 rw[sayF,if_neg (by omega),if_neg (by omega),if_neg (by omega),if_pos ⟨rfl,h0,h1⟩]
theorem a5i{l:List Int}{extra:Int}(h:extra<0∨127<extra):sayF l 18 extra=none:=by
 rw[sayF,if_neg (by omega),if_neg (by omega),if_neg (by omega),if_neg (by omega)]
theorem b8a{l:List Int}{sym extra:Int}(h:18<sym):sayF l sym extra=none:=by
 rw[sayF,if_neg (by omega),if_neg (by omega),if_neg (by omega),if_neg (by omega)]
theorem a8x{l:List Int}{sym extra v:Int}{k:Nat}(h:sayF l sym extra=some (v,k)):1<=k/\k<=138:=by
 simp only[sayF] at h
 split at h
 ·simp at h;omega
 ·split at h
  ·simp at h;omega
  ·split at h
   ·simp at h;omega
   ·split at h
    ·simp at h;omega
    ·simp at h
theorem a2b{l:List Int}{sym extra n:Int}(h:sayF l sym extra=none):addF l sym extra n=none:=by rw[addF,h]
theorem a8J{l:List Int}{sym extra n v:Int}{k:Nat}(h:sayF l sym extra=some (v,k))(hn:n<((l.length+k:Nat):Int)):addF l sym extra n=none:=by
 rw[addF,h];exact if_neg (by omega)
theorem a8K{l:List Int}{sym extra n v:Int}{k:Nat}(h:sayF l sym extra=some (v,k))(hn:((l.length+k:Nat):Int)<=n):addF l sym extra n=some (l++List.replicate k v):=by
 rw[addF,h];exact if_pos hn
theorem b6J{l l':List Int}{sym extra n:Int}(h:addF l sym extra n=some l'):l.length<l'.length/\(l'.length:Int)<=n:=by
 simp only[addF] at h
 split at h
 ·rename_i v k hs
  have:=a8x hs
  split at h
  ·injection h with h;subst h;simp only[c1q,c1B];omega
  ·simp at h
 ·simp at h
def unpackTo(l:List Int):List (Int×Int)->Int->Option (List Int)
 | [],_=>some l
 | s::r,n=>match addF l s.1 s.2 n with
  | some l'=>unpackTo l' r n
  | none=>none
theorem a2M{l:List Int}{s:Int×Int}{r:List (Int×Int)}{n:Int}{l':List Int}(h:addF l s.1 s.2 n=some l'):unpackTo l (s::r) n=unpackTo l' r n:=by
 rw[unpackTo,h]
theorem a2N{l:List Int}{s:Int×Int}{r:List (Int×Int)}{n:Int}(h:addF l s.1 s.2 n=none):unpackTo l (s::r) n=none:=by
 rw[unpackTo,h]
def wN(sym:Int):Nat:=if sym=16 then 2 else if sym=17 then 3 else if sym=18 then 7 else 0
theorem b9Y(s:Int):wN s<=7:=by unfold wN;split;omega;split;omega;split<;>omega
theorem b6v(j:Nat)(h:j<19):nth a4U j=(wN (j:Int):Int):=by
 rcases (by omega:j<16∨j=16∨j=17∨j=18) with h|rfl|rfl|rfl
 ·have:wN (j:Int)=0:=by unfold wN;rw[if_neg (by omega),if_neg (by omega),if_neg (by omega)]
  rw[this]
  revert h;revert j
  decide
 ·rfl
 ·rfl
 ·rfl
theorem b4V(l bs:List Int)(p:Nat)(hp:p<=8*bs.length):((decF l bs p).2.1=0/\∃ j:Nat,(decF l bs p).1=j/\j<l.length/\p+(decF l bs p).2.2<=8*bs.length) ∨
  ((decF l bs p).2.1≠0/\(decF l bs p).1=0/\(decF l bs p).2.2=0):=by
 have hs:=a5t l bs p (longN l 16) 0 (by omega) (by omega) (fun m hm=>by
  obtain rfl:m=0:=by omega
  simp[xv,lowF,a2G])
 rw[show decGo l bs p (longN l 16) 0 (xv bs p 0)=decF l bs p from rfl] at hs
 rcases hs with⟨j,m,hj,_,_,_,_,hend,_,hr⟩|⟨k,_,_,_,hr⟩|⟨_,_,hr⟩
 ·rw[hr];exact .inl ⟨rfl,j,rfl,hj,hend⟩
 ·rw[hr];exact .inr ⟨by decide,rfl,rfl⟩
 ·rw[hr];exact .inr ⟨by decide,rfl,rfl⟩
def cL(bs:List Int)(p:Nat):Nat->List Int
 | 0=>List.replicate 19 0
 | k+1=>(cL bs p k).set (nth orderL k).toNat (numB bs (p+3*k) 3)
theorem a7k(bs:List Int)(p:Nat):∀ k,(cL bs p k).length=19
 | 0=>by simp[cL]
 | k+1=>by rw[cL,List.length_set,a7k bs p k]
def stepsF(codes bs:List Int)(N:Int):Nat->List Int->Nat->List Int×Nat×Int
 | 0,l,q=>(l,q,0)
 | f+1,l,q=>
  if N<=l.length then (l,q,0)
  else if (decF codes bs q).2.1≠0 then ([],q,(decF codes bs q).2.1)
  else if 8*bs.length<q+(decF codes bs q).2.2+wN (decF codes bs q).1 then ([],q,10)
  else match addF l (decF codes bs q).1 (numB bs (q+(decF codes bs q).2.2) (wN (decF codes bs q).1)) N with
   | none=>([],q,41)
   | some l'=>stepsF codes bs N f l' (q+(decF codes bs q).2.2+wN (decF codes bs q).1)
theorem a6N(codes bs:List Int)(N:Int)(f:Nat)(l:List Int)(q:Nat)(h:N<=l.length):stepsF codes bs N f l q=(l,q,0):=by
 cases f with
 | zero=>rfl
 | succ f=>rw[stepsF,if_pos h]
theorem a4B{l l':List Int}{s e n:Int}(h:addF l s e n=some l'):l.length+1<=l'.length/\(l'.length:Int)<=n/\l'.length<=l.length+138:=by
 unfold addF at h
 cases hs:sayF l s e with
 | none=>rw[hs] at h;cases h
 | some p=>
  obtain⟨v,k⟩:=p
  rw[hs] at h
  have hk:=a8x hs
  simp only[] at h
  split at h
  ·next hle=>
   obtain rfl:=Option.some.inj h
   rw[c1q,c1B];omega
  ·cases h
def a3x(bs:List Int)(p:Nat):Nat:=(numB bs (p+10) 4).toNat+4
def litF(bs:List Int)(p:Nat):Nat:=(numB bs p 5).toNat+257
def distF(bs:List Int)(p:Nat):Nat:=(numB bs (p+5) 5).toNat+1
def codesH(bs:List Int)(p:Nat):List Int:=cL bs (p+14) (a3x bs p)
def readR(bs:List Int)(p:Nat):List Int×Nat×Int:=stepsF (codesH bs p) bs ((litF bs p+distF bs p:Nat):Int) (litF bs p+distF bs p) [] (p+14+3*a3x bs p)
def headF(bs:List Int)(p:Nat):List Int×List Int×Nat×Int:=
 if 8*bs.length<p+14 then ([],[],0,10)
 else if 29<numB bs p 5∨29<numB bs (p+5) 5 then ([],[],0,40)
 else if 8*bs.length<p+14+3*a3x bs p then ([],[],0,10)
 else if a0f (codesH bs p)≠0 then ([],[],0,a0f (codesH bs p))
 else if (readR bs p).2.2≠0 then ([],[],0,(readR bs p).2.2)
 else ((readR bs p).1.take (litF bs p),(readR bs p).1.drop (litF bs p),(readR bs p).2.1-p,0)
theorem b7E(bs:List Int)(p:Nat):a3x bs p<=19:=by
 have:=a0Q bs (p+10) 4
 unfold a3x
 have e:(2:Int)^4=16:=rfl
 omega
theorem a5y(k:Nat)(h:k<19):0<=nth orderL k/\nth orderL k<19:=by revert h;revert k;decide
theorem b7h{bs:List Int}{p:Nat}{e:Int}(h1:¬8*bs.length<p+14)(h2:¬(29<numB bs p 5∨29<numB bs (p+5) 5))(h3:¬8*bs.length<p+14+3*a3x bs p)(h4:a0f (codesH bs p)=0)(h5:(readR bs p).2.2=e)(he:e≠0):headF bs p=([],[],0,e):=by
 unfold headF
 rw[if_neg h1,if_neg h2,if_neg h3,if_neg (by rw[h4];simp),if_pos (by rw[h5];exact he),h5]
theorem b5e{bs l:List Int}{p q:Nat}(h1:¬8*bs.length<p+14)(h2:¬(29<numB bs p 5∨29<numB bs (p+5) 5))(h3:¬8*bs.length<p+14+3*a3x bs p)(h4:a0f (codesH bs p)=0)(h5:readR bs p=(l,q,0)):headF bs p=(l.take (litF bs p),l.drop (litF bs p),q-p,0):=by
 unfold headF
 rw[if_neg h1,if_neg h2,if_neg h3,if_neg (by rw[h4];simp),h5]
 rfl
abbrev IRes:=List Int×Nat×Int
def endF(e other:Int):Int:=if e=0 then 0 else if e=10 then 55 else other
def storF(bs:List Int)(most:Nat):Nat->List Int->Nat->IRes
 | 0,out,p=>(out,p,0)
 | n+1,out,p=>if 8*bs.length<p+8 then (out,0,55) else if most<=out.length then (out,0,56) else storF bs most n (out++[numB bs p 8]) (p+8)
def a1T(p:Nat):Nat:=(p+7)/8*8
def a0G(bs:List Int)(most:Nat)(out:List Int)(p:Nat):IRes:=
 if 8*bs.length<a1T p+16 then (out,0,55)
 else if 8*bs.length<a1T p+32 then (out,0,55)
 else if numB bs (a1T p) 16+numB bs (a1T p+16) 16≠65535 then (out,0,51)
 else storF bs most (numB bs (a1T p) 16).toNat out (a1T p+32)
def layN(far most:Nat):Nat->List Int->List Int×Int
 | 0,out=>(out,0)
 | n+1,out=>if most<=out.length then (out,56) else layN far most n (out++[nth out (out.length-far)])
def lenK(s:Nat):Nat:=if s<265∨s=285 then 0 else (s-261)/4
def a2f(s:Nat):Nat:=if s<265 then s-254 else if s=285 then 258 else 3+(4+(s-261)%4)*2^lenK s
def a1M(d:Nat):Nat:=if d<4 then 0 else d/2-1
def a0I(d:Nat):Nat:=if d<4 then d+1 else 1+(2+d%2)*2^a1M d
def a0X(l:List Int):Bool:=l.any fun x=>decide (0<x)
def a1j(dist bs:List Int)(most s:Nat)(out:List Int)(p:Nat):IRes:=
 if 285<s then (out,0,53)
 else if 8*bs.length<p+lenK s then (out,0,55)
 else if a0X dist=false then (out,0,53)
 else if (decF dist bs (p+lenK s)).2.1≠0 then (out,0,endF (decF dist bs (p+lenK s)).2.1 53)
 else if 29<(decF dist bs (p+lenK s)).1 then (out,0,53)
 else if 8*bs.length<p+lenK s+(decF dist bs (p+lenK s)).2.2+a1M (decF dist bs (p+lenK s)).1.toNat then (out,0,55)
 else if (out.length:Int)<a0I (decF dist bs (p+lenK s)).1.toNat+numB bs (p+lenK s+(decF dist bs (p+lenK s)).2.2) (a1M (decF dist bs (p+lenK s)).1.toNat) then (out,0,54)
 else if (layN ((a0I (decF dist bs (p+lenK s)).1.toNat:Int)+numB bs (p+lenK s+(decF dist bs (p+lenK s)).2.2) (a1M (decF dist bs (p+lenK s)).1.toNat)).toNat most (a2f s+(numB bs p (lenK s)).toNat) out).2≠0 then
  ((layN ((a0I (decF dist bs (p+lenK s)).1.toNat:Int)+numB bs (p+lenK s+(decF dist bs (p+lenK s)).2.2) (a1M (decF dist bs (p+lenK s)).1.toNat)).toNat most (a2f s+(numB bs p (lenK s)).toNat) out).1,0,56)
 else ((layN ((a0I (decF dist bs (p+lenK s)).1.toNat:Int)+numB bs (p+lenK s+(decF dist bs (p+lenK s)).2.2) (a1M (decF dist bs (p+lenK s)).1.toNat)).toNat most (a2f s+(numB bs p (lenK s)).toNat) out).1,p+lenK s+(decF dist bs (p+lenK s)).2.2+a1M (decF dist bs (p+lenK s)).1.toNat,0)
def symF(lit dist bs:List Int)(most:Nat):Nat->List Int->Nat->IRes
 | 0,out,_=>(out,0,55)
 | f+1,out,p=>
  if (decF lit bs p).2.1≠0 then (out,0,endF (decF lit bs p).2.1 53)
  else if (decF lit bs p).1=256 then (out,p+(decF lit bs p).2.2,0)
  else if (decF lit bs p).1<256 then
   if most<=out.length then (out,0,56) else symF lit dist bs most f (out++[(decF lit bs p).1]) (p+(decF lit bs p).2.2)
  else if (a1j dist bs most (decF lit bs p).1.toNat out (p+(decF lit bs p).2.2)).2.2≠0 then a1j dist bs most (decF lit bs p).1.toNat out (p+(decF lit bs p).2.2)
  else symF lit dist bs most f (a1j dist bs most (decF lit bs p).1.toNat out (p+(decF lit bs p).2.2)).1 (a1j dist bs most (decF lit bs p).1.toNat out (p+(decF lit bs p).2.2)).2.1
def fixLit:List Int:=List.replicate 144 8++List.replicate 112 9++List.replicate 24 7++List.replicate 8 8
def fixDist:List Int:=List.replicate 32 5
def a0N(h:List Int×List Int×Nat×Int):Int:=
 if h.2.2.2≠0 then endF h.2.2.2 52
 else if nth h.1 256=0 then 52
 else if a0f h.1≠0 then 52
 else if a0X h.2.1=true/\a0f h.2.1≠0 then 52
 else 0
def a1m(bs:List Int)(most:Nat)(kind:Int)(out:List Int)(p:Nat):IRes:=
 if kind=0 then a0G bs most out p
 else if kind=1 then symF fixLit fixDist bs most (8*bs.length+1) out p
 else if kind=2 then
  if a0N (headF bs p)≠0 then (out,0,a0N (headF bs p))
  else symF (headF bs p).1 (headF bs p).2.1 bs most (8*bs.length+1) out (p+(headF bs p).2.2.1)
 else (out,0,50)
def blksF(bs:List Int)(most:Nat):Nat->List Int->Nat->IRes
 | 0,out,_=>(out,0,55)
 | f+1,out,p=>
  if 8*bs.length<p+1 then (out,0,55)
  else if 8*bs.length<p+3 then (out,0,55)
  else if (a1m bs most (numB bs (p+1) 2) out (p+3)).2.2≠0 then a1m bs most (numB bs (p+1) 2) out (p+3)
  else if numB bs p 1=0 then blksF bs most f (a1m bs most (numB bs (p+1) 2) out (p+3)).1 (a1m bs most (numB bs (p+1) 2) out (p+3)).2.1
  else a1m bs most (numB bs (p+1) 2) out (p+3)
def inflF(bs:List Int)(most:Nat):IRes:=blksF bs most (8*bs.length+1) [] 0
def a0O(bs:List Int)(most:Int):List Int×Nat×Int:=
 if most<0∨16384<most then ([],0,1)
 else if (inflF bs most.toNat).2.2≠0 then ([],0,(inflF bs most.toNat).2.2)
 else ((inflF bs most.toNat).1,((inflF bs most.toNat).2.1+7)/8,0)
theorem a9Y(bs:List Int)(most:Nat):∀ n out p,p<=8*bs.length->(storF bs most n out p).2.2=0->p<=(storF bs most n out p).2.1/\(storF bs most n out p).2.1<=8*bs.length
 | 0,out,p,hp,h=>⟨c1u _,hp⟩
 | n+1,out,p,hp,h=>by
  rw[storF] at h ⊢
  split
  ·next h1=>rw[if_pos h1] at h;simp at h
  ·next h1=>
   rw[if_neg h1] at h
   split
   ·next h2=>rw[if_pos h2] at h;simp at h
   ·next h2=>
    rw[if_neg h2] at h
    have:=a9Y bs most n _ (p+8) (by omega) h
    omega
theorem b1N(bs:List Int)(most:Nat)(out:List Int)(p:Nat)(h:(a0G bs most out p).2.2=0):p<=(a0G bs most out p).2.1/\(a0G bs most out p).2.1<=8*bs.length:=by
 unfold a0G at h ⊢
 split
 ·next h1=>rw[if_pos h1] at h;simp at h
 next h1=>
 rw[if_neg h1] at h
 split
 ·next h2=>rw[if_pos h2] at h;simp at h
 next h2=>
 rw[if_neg h2] at h
 split
 ·next h3=>rw[if_pos h3] at h;simp at h
 next h3=>
 rw[if_neg h3] at h
 have:=a9Y bs most _ _ (a1T p+32) (by omega) h
 unfold a1T at *
 omega
theorem b0P(l bs:List Int)(p:Nat)(hp:p<=8*bs.length)(h:(decF l bs p).2.1=0):1<=(decF l bs p).2.2/\p+(decF l bs p).2.2<=8*bs.length/\0<=(decF l bs p).1/\(decF l bs p).1<l.length:=by
 have hs:=a5t l bs p (longN l 16) 0 (by omega) (by omega) (fun m hm=>by
  obtain rfl:m=0:=by omega
  simp[xv,lowF,a2G])
 rw[show decGo l bs p (longN l 16) 0 (xv bs p 0)=decF l bs p from rfl] at hs
 rcases hs with⟨j,m,hj,h1,_,_,_,hend,_,hr⟩|⟨k,_,_,_,hr⟩|⟨_,_,hr⟩
 ·rw[hr];exact⟨h1,hend,by simp,by simp;omega⟩
 ·rw[hr] at h;simp at h
 ·rw[hr] at h;simp at h
theorem a2x{e o:Int}(ho:o≠0)(h:endF e o=0):e=0:=by
 unfold endF at h
 split at h
 ·assumption
 split at h
 ·cases h
 ·exact absurd h ho
theorem a9d(dist bs:List Int)(most s:Nat)(out:List Int)(p:Nat)(hp:p<=8*bs.length)(h:(a1j dist bs most s out p).2.2=0):p<=(a1j dist bs most s out p).2.1/\(a1j dist bs most s out p).2.1<=8*bs.length:=by
 unfold a1j at h ⊢
 split
 ·next h1=>rw[if_pos h1] at h;simp at h
 next h1=>
 rw[if_neg h1] at h
 split
 ·next h2=>rw[if_pos h2] at h;simp at h
 next h2=>
 rw[if_neg h2] at h
 split
 ·next h3=>rw[if_pos h3] at h;simp at h
 next h3=>
 rw[if_neg h3] at h
 split
 ·next h4=>rw[if_pos h4] at h;exact absurd (a2x (by decide) h) h4
 next h4=>
 rw[if_neg h4] at h
 split
 ·next h5=>rw[if_pos h5] at h;simp at h
 next h5=>
 rw[if_neg h5] at h
 split
 ·next h6=>rw[if_pos h6] at h;simp at h
 next h6=>
 rw[if_neg h6] at h
 split
 ·next h7=>rw[if_pos h7] at h;simp at h
 next h7=>
 rw[if_neg h7] at h
 split
 ·next h8=>rw[if_pos h8] at h;simp at h
 next h8=>
 simp only[]
 omega
theorem a5B(lit dist bs:List Int)(most:Nat):∀ f out p,p<=8*bs.length->(symF lit dist bs most f out p).2.2=0->p<=(symF lit dist bs most f out p).2.1/\(symF lit dist bs most f out p).2.1<=8*bs.length
 | 0,out,p,hp,h=>by simp[symF] at h
 | f+1,out,p,hp,h=>by
  rw[symF] at h ⊢
  split
  ·next h1=>rw[if_pos h1] at h;exact absurd (a2x (by decide) h) h1
  next h1=>
  rw[if_neg h1] at h
  obtain⟨a1,a2,-⟩:=b0P lit bs p hp (by omega)
  split
  ·simp only[];omega
  next h2=>
  rw[if_neg h2] at h
  split
  ·next h3=>
   rw[if_pos h3] at h
   split
   ·next h4=>rw[if_pos h4] at h;simp at h
   ·next h4=>
    rw[if_neg h4] at h
    have:=a5B lit dist bs most f _ _ a2 h
    omega
  next h3=>
  rw[if_neg h3] at h
  split
  ·next h5=>rw[if_pos h5] at h;exact absurd h h5
  ·next h5=>
   rw[if_neg h5] at h
   obtain⟨b1,b2⟩:=a9d dist bs most (decF lit bs p).1.toNat out _ a2 (by omega)
   have:=a5B lit dist bs most f _ _ b2 h
   omega
end Go.Proofs.YtghjlpechjggjaaGreatDoor
