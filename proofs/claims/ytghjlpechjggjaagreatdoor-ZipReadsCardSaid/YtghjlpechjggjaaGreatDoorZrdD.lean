import Derived.Test.YtghjlpechjggjaaGreatDoorZrdC
import Derived.Test.YtghjlpechjggjaaGreatDoorZrdA
import Derived.Shelf.Abstract
import Derived.LoopIn
import Derived.Laws.BitsAllLaws
import Derived.StillTailTactics
import Derived.Test.YtghjlpechjggjaaGreatDoorZrdB
import Derived.Lib.AppendStr
import Derived.Lib.ConvBytes
import Derived.Deep.RegionHeld3
import Derived.Deep.Onto
import Derived.RegionTactic
import Derived.BigRegion
import Derived.ChangeAlike
import Derived.Outline
import Derived.Lib.SliceRun
import Derived.Deep.AppendLies
set_option linter.defProp false
set_option linter.unnecessarySimpa false
set_option linter.unusedVariables false
set_option linter.unusedSimpArgs false
set_option linter.constructorNameAsVariable false
set_option maxRecDepth 100000
set_option maxHeartbeats 60000000
namespace Go.Proofs.YtghjlpechjggjaaGreatDoor
open Go.RowKit
private def c3o := @Lib.hid
private def c3p := @List.length_append
private def c3q := @List.length_cons
private def c3r := @List.append_assoc
private def c3s := @World.cell?_of_block
private def c3t := @List.cons_append
private def c3u := @IntWalk.i64_in
private def c3v := @World.frozen?_of_block
private def c3w := @Nat.le_refl
private def c3x := @List.take_succ_eq_append_getElem
private def c3y := @List.drop_eq_getElem_cons
private def c3z := @List.mem_iff_getElem
private def c3A := @World.block_lt_of_cell?
private def c3B := @List.take_append_drop
private def c3C := @Below.refl
private def c3D := @Tryz.underlying26
private def c3E := @Nat.sub_self
private def c3F := @List.getElem_mem
private def c3G := @List.length_take
private def c3H := @List.set_append_right
private def c3I := @List.getD_eq_getElem?_getD
private def c3J := @List.mem_cons_of_mem
private def c3K := @Tryz.underlying9
private def c3L := @List.mem_append
private def c3M := @List.mem_cons
private def c3N := @List.mem_cons_self
private def c3O := @List.nil_append
private def c3P := @List.mem_of_mem_take
private def c3Q := @rounds_succ
private def c3R := @List.mem_singleton
private def c3S := @Nat.le_trans
private def c3T := @Nat.lt_of_lt_of_le
private def c3U := @info_parts
open Go.RowKit
theorem b6l(w:World)(A:Option Addr)(n c:Nat)(xs:List Int)(hr:RI .u8 w A n xs)(hnil:A=none->n=0/\c=0)(hn:n<=100000000) :
  Calls Tryz.prog 58 #[.slice A n c] w fun e w'=>∃ (Bo:Nat) (A':Option Addr) (c':Nat),e=.returned (.func (.func 90) #[] #[.pointer (some ⟨Bo,0,none⟩)])/\w'.cell? ⟨Bo,0,none⟩=some (.slice A' n c') /\
   w'.ownsRow w.heap.size 5 1 (.slice A' n c') n (ints .u8 xs)/\w.heap.size<=Bo/\Bo<w'.heap.size/\Below w.heap.size w w':=by
 have HR:=c3o hr
 have HN:=c3o hnil
 have hmf:∀ (fn:Fn) (first cap:Array Value) (w:World),(Instr.makeFunc fn first cap).run Tryz.prog w=.ok (.func fn first cap) w:=fun _ _ _ _=>rfl
 clear hr hnil
 go_enter Tryz.func58,Tryz.ntmps58
 go_wp2_with (at_builtin;refine a3P rfl (.const (.slice none 0 0)) (.tmp 4) rfl w.heap.size _ _ [] rfl (World.ownsRow_nil _ _ _ _) A n c xs rfl (by exact HR.out) HN.out ?c1 (c3w _) ?_)
 case c1=>omega
 intro v' w1 hown hgrow hwhere
 obtain⟨A',c',rfl⟩:=a0h hown
 have hb:Below w.heap.size w w1:=(c3C _ w).grown hgrow (c3w _) (fun k hk=>by simp[Value.ownBlock] at hk)
 have HO:=c3o hown
 have HB:=c3o hb
 clear hown hgrow hwhere hb
 go_wp2_with fail
 go_ret
 refine⟨w1.heap.size,A',c',rfl,?_,HO.out.alloc _,HB.out.size,by simp,HB.out.trans (((c3C w1.heap.size w1).alloc (c3w _) _).mono HB.out.size)⟩
 have:=a0d w1 26 [.slice A' n c']
 exact this.cell 0
end Go.Proofs.YtghjlpechjggjaaGreatDoor
namespace Go.Proofs.YtghjlpechjggjaaGreatDoor
open Go.RowKit Go.Shelf
attribute [local go_sem] Oper.semAt_some
theorem b9m:(Tryz.prog.info? 98).map (fun i=>(i.zero,i.size,i.bytes))=some (some (.agg #[.int .u8 0,.int .i64 0,.int .i64 0]),3,24):=by kernel_rfl
theorem b5U(p:Tok):∀ u∈tcells p,u.oneCell'=true:=by
 intro u hu
 simp[tcells] at hu
 rcases hu with rfl|rfl|rfl<;>rfl
theorem b6o {F:Fence} {k:Nat} {ops:Array Oper} {rest:List Oper} {o:Oper} {a:Act} {Q:Exit->Act->World->Prop} {w:World} (hgd:o.guard=none) (s x:Operand)
  (ho:o.op=.call { callee:=.builtin .append,args:=#[s,x],argTypes:=#[68,68] })
  (base:Nat) (v:Value) (n:Nat) (L:List Tok) (hs:a.eval s=v) (hown:w.ownsRow base 98 3 v n (L.flatMap tcells))
  (b:Nat) (p:Tok) (hx:a.eval x=.slice (some ⟨b,0,none⟩) 1 1) (h0:w.cell? ⟨b,0,none⟩=some (.int .u8 p.1)) (h1:w.cell? ⟨b,1,none⟩=some (.int .i64 p.2.1)) (h2:w.cell? ⟨b,2,none⟩=some (.int .i64 p.2.2))
  (hn:n<=1000000000) (hbase:base<=w.heap.size)
  (h:∀ v' w',w'.ownsRow base 98 3 v' (n+1) ((L++[p]).flatMap tcells)->w.grownBy w' v.ownBlock->wpListIn F k Tryz.prog ops Q rest (a.put o.dst v') w'):wpListIn F k Tryz.prog ops Q (o::rest) a w:=by
 obtain⟨i0,hi,hz0,hz1,hz2⟩:=c3U b9m
 refine wpListIn_append_own w hgd s x 68 ho base 98 i0 (.agg #[.int .u8 0,.int .i64 0,.int .i64 0]) 3 24 Tryz.underlying68 hi hz0 hz1 hz2 rfl (by decide) v n (L.flatMap tcells) hs hown ⟨b,0,none⟩ 1 1 (tcells p) hx rfl ?_ (b5U p) (by unfold maxLen;omega) (by omega) hbase ?_
 ·intro j u hu
  match j,hu with
  | 0,hu=>simp[tcells] at hu;subst hu;rw[a0R];exact h0
  | 1,hu=>simp[tcells] at hu;subst hu;rw[a0R];exact h1
  | 2,hu=>simp[tcells] at hu;subst hu;rw[a0R];exact h2
  | j+3,hu=>simp[tcells] at hu
 ·intro v' w' h2 h3 _
  rw[List.flatMap_append,List.flatMap_singleton] at h
  exact h v' w' h2 h3
theorem b2M{w:World}{base n:Nat}{A:Option Addr}{c:Nat}{xs:List Int}(h:w.ownsRow base 5 1 (.slice A n c) n (ints .u8 xs)):∀ a,A=some a->a.block<w.heap.size:=by
 obtain⟨A5,c5,h1,-,h3,h4⟩:=a0y h
 injection h1 with q1 q2 q3
 subst q1
 exact fun a ha=>(h4 a ha).2.1
theorem b7A{w:World}{base size n:Nat}{e:TypeId}{v:Value}{xs:List Value}(h:w.ownsRow base e size v n xs):∀ g,v.ownBlock=some g->base<=g:=by
 intro g hg
 rcases h.2 with h2|⟨g2,cap,cur,hv,hb,-⟩
 ·rw[h2.1] at hg;simp[Value.ownBlock] at hg
 ·rw[hv] at hg
  simp[Value.ownBlock] at hg
  omega
theorem a3H{w:World}{base b2 size n:Nat}{e:TypeId}{v:Value}{xs:List Value}(h:w.ownsRow base e size v n xs)(hb2:b2<=base):w.ownsRow b2 e size v n xs:=by
 refine⟨h.1,?_⟩
 rcases h.2 with h2|⟨g2,cap,cur,hv,hb,hh⟩
 ·exact .inl h2
 ·exact .inr ⟨g2,cap,cur,hv,c3S hb2 hb,hh⟩
theorem a0c{S:List Nat}{W1 W2:World}{n0:Nat}(h:Keeps S W1 W2)(hn:n0<=W1.heap.size)(hS:∀ x∈S,n0<=x):Below n0 W1 W2:=
 ⟨h.os,h.tape,h.output,h.size,fun k hk=>h.block k (by omega) (fun hm=>by have:=hS k hm;omega)⟩
theorem b5d(w:World)(A:Option Addr)(n c:Nat)(xs:List Int)(hr:RI .u8 w A n xs)(hnil:A=none->n=0/\c=0)(hn:n<=16384)(hb:∀ j,0<=nth xs j/\nth xs j<=255) :
  Calls Tryz.prog 38 #[.slice A n c] w fun e w'=>∃ v,e=.returned v/\w'.ownsRow w.heap.size 98 3 v (tokensF xs).length ((tokensF xs).flatMap tcells)/\Below w.heap.size w w':=by
 have HR:=c3o hr
 have HN:=c3o hnil
 clear hr hnil
 refine (callsIn_wide (n:=0)).1 (callsIn_of_wp_marks Tryz.func38 rfl trivial ?_ rfl)
 simp only[Tryz.ntmps38,List.size_toArray,c3q,List.length_nil,Nat.reduceAdd,Nat.reduceSub,Array.replicate_succ,Array.replicate_zero,List.push_toArray,List.append_toArray,c3O,c3t]
 gi_wp2
 refine⟨trivial,rfl,((callsIn_wide (n:=0)).2 (b6l _ A n c xs (HR.out.keeps ((Keeps.refl [] w).alloc _) (a0a _)) HN.out (by omega))).mono ?_⟩
 rintro _ w2 ⟨Bo,A',c',rfl,hBo,hown,hge,hlt,hbel⟩
 have hbox:w2.heap[w.heap.size]? =some (.cells #[.slice none 0 0] 68 (0,0)):=by
  have h1:=a0d w 68 [.slice none 0 0]
  exact (hbel.block _ (by simp)).trans h1
 have hb2:Below w.heap.size w w2:=((c3C w.heap.size w).alloc (c3w _) _).trans (hbel.mono (by simp))
 have HBO:=c3o hBo
 have HOW:=c3o hown
 have HGE:=c3o hge
 have HLT:=c3o hlt
 have HBX:=c3o hbox
 have HB2:=c3o hb2
 clear hBo hown hge hlt hbel hbox hb2
 gi_wp2
 obtain⟨ri',-⟩:RI .u8 w2 A' n xs/\True:=by
  obtain⟨A5,c5,h1,h2,-,-⟩:=a0y HOW.out
  injection h1 with q1 q2 q3
  subst q1
  exact⟨h2,trivial⟩
 refine b7L (gf:=90) (lb:=#[.pointer (some ⟨Bo,0,none⟩)]) rfl (enters_of Tryz.func90 (by kernel_rfl) rfl) ?hC
  (b6k w2 Bo A' n c' xs ri' (a9D HOW.out) hb hn HBO.out ?hA HLT.out) (fun _=>rfl)
  (fun pre W=>(∃ v,W.heap[w.heap.size]? =some (.cells #[v] 68 (0,0))/\W.ownsRow (w2.heap.size+4) 98 3 v pre.length (pre.flatMap tcells))/\Below w.heap.size w W)
  ?hI ?h0 (fun x W a' W1=>W1=W.alloc (.cells (tcells x).toArray 98)/\a'={ tmps:=#[.slice A n c,undef,.slice none 0 0,.pointer (some ⟨w.heap.size,0,none⟩),.pointer (some ⟨W.heap.size,0,none⟩),.slice A n c,.func (.func 90) #[] #[.pointer (some ⟨Bo,0,none⟩)],tokV x,undef,undef,undef,undef,undef],defers:=[] }) ?hAx ?assign ?body ?done
 case hC=>
  have h1:=HLT.out
  rintro k (h|h|h|⟨a,ha,h⟩)
  ·omega
  ·omega
  ·omega
  ·have:=(b2M HOW.out) a ha
   omega
 case hA=>exact fun a ha=>(b2M HOW.out) a ha
 case h0=>exact⟨⟨_,HBX.out,World.ownsRow_nil _ _ _ _⟩,HB2.out⟩
 case hAx=>rintro x W a' W1 ⟨rfl,-⟩;exact (Keeps.refl [] W).alloc _
 case hI=>
  have hsz:=HB2.out.size
  have hlt2:=HGE.out
  have hlt3:=HLT.out
  simp at hlt2
  rintro s W1 W2 ⟨⟨v,hv,ho⟩,hB⟩ hk
  refine⟨⟨v,hk.heap hv (by simp;omega),a0b ho hk (fun g hg hm=>by have:=b7A ho g hg;simp at hm;omega)⟩,hB.trans (a0c hk hB.size (fun x hx=>by simp at hx;omega))⟩
 case assign=>
  intro l pre x W K hi hsz hK
  have HK:=c3o hK
  clear hK
  dsimp only[tokV]
  gi_wp2
  exact HK.out _ _ ⟨rfl,rfl⟩
 case done=>
  rintro W ⟨⟨v,hv,ho⟩,hB⟩ hD
  have hc:W.cell? ⟨w.heap.size,0,none⟩=some v:=by simp[World.cell?,hv]
  have HO:=c3o ho
  have HBW:=c3o hB
  clear hv ho hB
  gi_wp2
  refine⟨by simp,.inl ⟨_,_,rfl,run_takeDeferred hD,?_⟩⟩
  exact⟨_,results_tmp rfl _ _ _,v,rfl,a3H (a0b HO.out (a0E W w2.heap.size _) (fun g hg hm=>by have:=b7A HO.out g hg;simp at hm;omega)) (by have:=HB2.out.size;omega),
   HBW.out.trans (a0c (a0E W w2.heap.size _) HBW.out.size (fun x hx=>by simp at hx;have:=HB2.out.size;omega))⟩
 case body=>
  rintro pre x W a' W1 W2 ⟨⟨v,hv,ho⟩,hB⟩ hpl hsz ⟨rfl,rfl⟩ hk2
  have hbs:=HB2.out.size
  have hc:W2.cell? ⟨w.heap.size,0,none⟩=some v:=by
   have h1:(W.alloc (.cells (tcells x).toArray 98)).heap[w.heap.size]? =some (.cells #[v] 68 (0,0)):=((Keeps.refl [] W).alloc _).heap hv (by simp)
   have h2:=hk2.heap h1 (by simp;omega)
   simp[World.cell?,h2]
  have hx:Blk W2 W.heap.size 98 (tcells x):=(a0d W _ (tcells x)).keeps hk2 (by simp;omega)
  have t0:=hx.cell 0
  have t1:=hx.cell 1
  have t2:=hx.cell 2
  simp only[tcells,List.getElem?_cons_zero,List.getElem?_cons_succ] at t0 t1 t2
  have hne:∀ g,v.ownBlock=some g->w2.heap.size+4<=g:=b7A ho
  have hw2:W2.heap[w.heap.size]? =some (.cells #[v] 68 (0,0)):=by
   have h1:(W.alloc (.cells (tcells x).toArray 98)).heap[w.heap.size]? =some (.cells #[v] 68 (0,0)):=((Keeps.refl [] W).alloc _).heap hv (by simp)
   exact hk2.heap h1 (by simp;omega)
  have hfz:W2.frozen? ⟨w.heap.size,0,none⟩=false:=by simp[World.frozen?,hw2]
  have HW2:=c3o hw2
  have hlen:pre.length+1<=16384:=by
   have h1:=a9l xs xs.length 0
   have h2:=ri'.len
   unfold tokensF at hpl
   omega
  have HO:=c3o (a0b (ho.alloc (.cells (tcells x).toArray 98)) hk2 (fun g hg hm=>by have:=hne g hg;simp at hm;omega))
  have hks:W.heap.size<W2.heap.size:=by have h1:=hk2.size;simp at h1;omega
  have HKS:=c3o hks
  have HBW:=c3o hB
  have HNE:=c3o hne
  have HK2:=c3o hk2
  have hbx:w.heap.size<W2.heap.size:=by omega
  have HBX2:=c3o hbx
  clear hv ho hB hx hk2 hne ri' hks hw2
  gi_wp2_with (gi_at_builtin;refine b6o rfl (.tmp 8) (.tmp 10) rfl (w2.heap.size+4) v pre.length pre ?_ (by exact HO.out.alloc _) W2.heap.size x ?_ (by simp) (by simp) (by simp) (by omega) ?_ ?_)
  ·rfl
  ·rfl
  ·have h1:=HKS.out;simp;omega
  ·intro v' w' h1 hg
   obtain⟨A9,c9,rfl⟩:=a0h h1
   have hbl:w'.heap[w.heap.size]? =W2.heap[w.heap.size]? :=(hg.block _ (by simp;omega) (fun e=>by have:=HNE.out _ e.symm;omega)).trans (Go.Deep.blk_alloc_lt _ _ _ hbx)
   have hc':w'.cell? ⟨w.heap.size,0,none⟩=some v:=(c3s (a:=⟨w.heap.size,0,none⟩) hbl).trans hc
   have hf':w'.frozen? ⟨w.heap.size,0,none⟩=false:=(c3v (a:=⟨w.heap.size,0,none⟩) hbl).trans hfz
   have HH:=c3o (hbl.trans HW2.out)
   have H1:=c3o h1
   have HG:=c3o hg
   clear h1 hg hbl t0 t1 t2 hc hfz
   gi_wp2_with fail
   refine⟨⟨⟨.slice A9 (pre.length+1) c9,?_,?_⟩,?_⟩,?_⟩
   ·have h1:Blk w' w.heap.size 68 [v]:=HH.out
    exact Blk.set h1 0 _
   ·rw[c3p,List.flatMap_append,List.flatMap_singleton]
    exact ownsRow_setCell_below H1.out (show w.heap.size<w2.heap.size+4 by omega) _
   ·have hk:Keeps [w2.heap.size+1] W W2:=((Keeps.refl [] W).alloc (.cells (tcells x).toArray 98)).mono (fun _ h=>by cases h) |>.trans HK2.out
    have hb1:=HBW.out.trans (a0c hk HBW.out.size (fun z hz=>by simp at hz;omega))
    exact ((hb1.alloc hb1.size _).grown HG.out (by have:=hb1.size;simp;omega) (fun g hg=>by have:=HNE.out g hg;omega)).setCell (p:=⟨w.heap.size,0,none⟩) (c3w _) _
   ·refine⟨?_,fun k hk hc=>?_⟩
    ·have:=HG.out.size;simp at this;simp[World.setCell];omega
    ·have hge:=HGE.out
     simp at hge
     have hlo:k<w2.heap.size+4:=by
      have hlt:=HLT.out
      rcases hc with (h|h|h|⟨a,ha,h⟩)|h|h
      ·omega
      ·omega
      ·omega
      ·have:=(b2M HOW.out) a ha;omega
      ·omega
      ·omega
     have hkw:k≠w.heap.size:=by
      rcases hc with (h|h|h|⟨a,ha,h⟩)|h|h
      ·omega
      ·omega
      ·omega
      ·obtain⟨A5,c5,q1,-,q3,q4⟩:=a0y HOW.out
       injection q1 with q5 q6 q7
       subst q5
       have:=(q4 a ha).1
       simp at this
       omega
      ·have:=(Array.getElem?_eq_some_iff.1 HBX.out).1;omega
      ·omega
     exact (Go.Deep.blk_setCell_other _ _ _ _ hkw).trans ((HG.out.block k (by simp;omega) (fun e=>by have:=HNE.out _ e.symm;omega)).trans (Go.Deep.blk_alloc_lt _ _ _ hk))
end Go.Proofs.YtghjlpechjggjaaGreatDoor
namespace Go.Proofs.YtghjlpechjggjaaGreatDoor
open Go.RowKit Go.Shelf
attribute [local go_sem] Oper.semAt_some
def leI:List Int->Int
 | []=>0
 | x::xs=>x+256*leI xs
def bkV(l:List (Nat×Int)):Int:=l.foldl (fun v p=>v*256+p.2) 0
theorem b8O(l:List (Nat×Int))(p:Nat×Int):bkV (l++[p])=bkV l*256+p.2:=by simp[bkV]
theorem b3U(xs:List Int):∀ k (v:Int),k<=xs.length->(bkT xs k).foldl (fun v p=>v*256+p.2) v=v*256^k+leI (xs.take k)
 | 0,v,_=>by simp[bkT,leI]
 | k+1,v,h=>by
  rw[bkT,List.foldl_cons,b3U xs k _ (by omega)]
  have e:∀ (ys:List Int) (x:Int),leI (ys++[x])=leI ys+256^ys.length*x:=by
   intro ys x
   induction ys with
   | nil=>simp[leI]
   | cons y ys ih=>rw[c3t,leI,ih,leI,c3q,Int.pow_succ,Int.mul_add,<-Int.mul_assoc,Int.mul_comm 256 (256^ys.length)];omega
  rw[c3x (show k<xs.length by omega),e,<-a0o (show k<xs.length by omega),c3G,Nat.min_eq_left (show k<=xs.length by omega),Int.pow_succ,Int.add_mul]
  have:v*256*256^k=v*(256^k*256):=by rw[Int.mul_assoc,Int.mul_comm 256]
  rw[this,Int.mul_comm (256^k) (nth xs k)]
  dsimp only
  omega
theorem c1j{xs:List Int}{k:Nat}(h:xs.length=k):bkV (bkT xs k)=leI xs:=by
 unfold bkV
 rw[b3U xs k 0 (by omega),Int.zero_mul,Int.zero_add,List.take_of_length_le (by omega)]
theorem c2m:∀ (l:List (Nat×Int)),(∀ p∈l,0<=p.2/\p.2<=255)->0<=bkV l/\bkV l<256^l.length:=fun l=>by
 suffices h:∀ (l:List (Nat×Int)) (v:Int) (k:Nat),0<=v->v<256^k->(∀ p∈l,0<=p.2/\p.2<=255)->0<=l.foldl (fun v p=>v*256+p.2) v/\l.foldl (fun v p=>v*256+p.2) v<256^(k+l.length) by
  intro hl
  have:=h l 0 0 (by omega) (by omega) hl
  rwa [Nat.zero_add] at this
 intro l
 induction l with
 | nil=>intro v k h0 h1 _;exact⟨h0,by simpa using h1⟩
 | cons p l ih=>
  intro v k h0 h1 hl
  obtain⟨p0,p1⟩:=hl p c3N
  have:=ih (v*256+p.2) (k+1) (by omega) (by rw[Int.pow_succ];omega) (fun q hq=>hl q (c3J _ hq))
  rw[List.foldl_cons,c3q,show k+(l.length+1)=k+1+l.length by omega]
  exact this
theorem a8v:∀ {xs:List Int},(∀ x∈xs,0<=x/\x<=255)->0<=leI xs/\leI xs<256^xs.length
 | [],_=>by simp[leI]
 | x::xs,h=>by
  obtain⟨a,b⟩:=a8v (fun y hy=>h y (c3J _ hy))
  obtain⟨c,d⟩:=h x c3N
  rw[leI,c3q,Int.pow_succ];omega
theorem b2f{xs:List Int}:∀ {k:Nat} {p:Nat×Int},p∈bkT xs k->p.2=nth xs p.1/\p.1<k
 | 0,_,h=>by cases h
 | k+1,p,h=>by
  rcases c3M.1 h with rfl|h
  ·exact⟨rfl,by simp⟩
  ·obtain⟨a,b⟩:=b2f h;exact⟨a,by omega⟩
theorem b6t(xs:List Int):∀ k,(bkT xs k).length=k
 | 0=>rfl
 | k+1=>by rw[bkT,c3q,b6t]
def seg(xs:List Int)(l k:Nat):List Int:=(xs.take (l+k)).drop l
theorem a3g{xs:List Int}{l k:Nat}(h:l+k<=xs.length):(seg xs l k).length=k:=by simp[seg];omega
theorem a5f{xs:List Int}(hb:∀ x∈xs,0<=x/\x<=255)(l k:Nat):∀ x∈seg xs l k,0<=x/\x<=255:=fun x hx=>hb x (c3P (List.mem_of_mem_drop hx))
def zget(xs:List Int)(l k:Nat):Int:=leI (seg xs l k)
theorem c2M{v x:Int}(h0:0<=v)(h1:v*256<18446744073709551616)(hx:0<=x/\x<=255):bits .or .u64 (v*256) x=v*256+x:=by
 obtain⟨a,rfl⟩:=Int.eq_ofNat_of_zero_le h0
 obtain⟨b,rfl⟩:=Int.eq_ofNat_of_zero_le hx.1
 have:=u64_or_nat (a*256) b (by omega) (by omega)
 have e:a*256 ||| b=a*256+b:=by
  have:=Nat.two_pow_add_eq_or_of_lt (i:=8) (b:=b) (by omega) a
  rw[show (2:Nat)^8=256 from rfl] at this
  rw[Nat.mul_comm a 256,this]
 rw[e] at this
 rw[show ((a:Int)*256)=((a*256:Nat):Int) by omega,this];omega
theorem b2c(w:World)(A:Option Addr)(n c:Nat):Calls Tryz.prog 140 #[.slice A n c] w fun e w'=>e=.returned (.func (.func 159) #[] #[.pointer (some ⟨w.heap.size,0,none⟩)])/\w'=w.alloc (.cells #[.slice A n c] 26):=by
 go_enter Tryz.func140,Tryz.ntmps140
 go_wp2_with fail
 go_ret
 exact⟨rfl,rfl⟩
theorem b0L(w:World)(A:Option Addr)(n c:Nat)(xs:List Int)(hr:RI .u8 w A n xs)(hc:a4d A n c)(hb:∀ x∈xs,0<=x/\x<=255)(hn:n<=1000000000)(hA:∀ a,A=some a->a.block<w.heap.size)(l k:Nat)(hk:k<=8)(hlk:l+k<=n) :
  Calls Tryz.prog 126 #[.slice A n c,.int .i64 l,.int .i64 k] w fun e w'=>e=.returned (.tuple #[.int .u64 (zget xs l k),.int .i64 0])/\Below w.heap.size w w':=by
 have HR:=c3o hr
 have HL:Hid (xs.length=n):=c3o hr.len
 have HC:=c3o hc
 have HBY:=c3o hb
 have x1:decide ((l:Int)<0)=false:=by simp
 have s0:IntKind.i64.wrap ((n:Int)-(k:Int))=(n:Int)-(k:Int):=c3u _ (by omega)
 have x2:decide ((n:Int)-(k:Int)<(l:Int))=false:=by simp;omega
 have s1:IntKind.i64.wrap ((l:Int)+(k:Int))=(l:Int)+(k:Int):=c3u _ (by omega)
 have hsl:=fun w=>a2c w A n c l (l+k) (l:Int) ((l:Int)+(k:Int)) rfl (by omega) (by omega) hlk hc
 clear hr hc hb
 refine (callsIn_wide (n:=0)).1 (callsIn_of_wp_marks Tryz.func126 rfl trivial ?_ rfl)
 simp only[Tryz.ntmps126,List.size_toArray,c3q,List.length_nil,Nat.reduceAdd,Nat.reduceSub,Array.replicate_succ,Array.replicate_zero,List.push_toArray,List.append_toArray,c3O,c3t]
 gi_wp2
 refine⟨trivial,rfl,((callsIn_wide (n:=0)).2 (b2c _ (cutA A l c) k (c-l))).mono ?_⟩
 rintro _ w2 ⟨rfl,rfl⟩
 have hsg:(seg xs l k).length=k:=a3g (by rw[HL.out];exact hlk)
 have hk2:Keeps [] w ((w.alloc (.cells #[.int .u64 0] 114)).alloc (.cells #[.slice (cutA A l c) k (c-l)] 26)):=((Keeps.refl [] w).alloc _).alloc _
 have HRS:Hid (RI .u8 ((w.alloc (.cells #[.int .u64 0] 114)).alloc (.cells #[.slice (cutA A l c) k (c-l)] 26)) (cutA A l c) k (seg xs l k)):=c3o (by
  have:=(HR.out.mid HC.out (l:=l) (m:=l+k) (by omega) hlk).keeps hk2 (a0a _)
  rwa [show l+k-l=k by omega] at this)
 gi_wp2
 obtain⟨g,hg⟩:∃ g,g=w.heap.size:=⟨_,rfl⟩
 obtain⟨w3,hw3⟩:∃ x,x=((w.alloc (.cells #[.int .u64 0] 114)).alloc (.cells #[.slice (cutA A l c) k (c-l)] 26)):=⟨_,rfl⟩
 have hB3:w3.cell? ⟨g+1,0,none⟩=some (.slice (cutA A l c) k (c-l)):=by
  have:=a0d (w.alloc (.cells #[.int .u64 0] 114)) 26 [.slice (cutA A l c) k (c-l)]
  have:=this.cell 0
  rw[hw3,hg]
  rw[World.size_alloc] at this
  exact this
 have hB0:w3.heap[g]? =some (.cells #[.int .u64 0] 114 (0,0)):=by
  have:=(a0d w 114 [.int .u64 0]).keeps (S:=[]) ((Keeps.refl [] _).alloc (.cells #[.slice (cutA A l c) k (c-l)] 26)) (by simp)
  rw[hw3,hg]
  exact this
 have hs3:w3.heap.size=g+2:=by rw[hw3,hg];simp
 have hbl3:Below w.heap.size w w3:=by rw[hw3];exact ((c3C w.heap.size w).alloc (c3w _) _).alloc (by simp) _
 have hcut:∀ a,cutA A l c=some a->a.block<g:=fun a ha=>by
  unfold cutA at ha
  split at ha
  ·rw[hg];exact hA a ha
  ·cases A with
   | none=>cases ha
   | some x=>
    have hx:=hA x rfl
    injection ha with ha
    subst ha
    rw[hg]
    show (x.add l).block<_
    unfold Addr.add
    split<;>exact hx
 rw[<-hw3] at hk2 HRS ⊢
 rw[<-hg]
 have HB0:=c3o hB0
 have HBL:=c3o hbl3
 have HG:=c3o hg
 have HSG:=c3o hsg
 have HS3:=c3o hs3
 clear hw3 hsl hB0 hbl3 hg hk2 hsg hs3
 refine a8B (gf:=159) (lb:=#[.pointer (some ⟨g+1,0,none⟩)]) (encs:=bkE) (toks:=bkT (seg xs l k) k) rfl (enters_of Tryz.func159 (by kernel_rfl) rfl) (O:=[]) (C:=fun j=>j=g+1∨∃ a,cutA A l c=some a/\j=a.block) (by simp) ?hC
  (b6p w3 (g+1) (cutA A l c) k (c-l) (seg xs l k) HRS.out hB3 (by omega)) (fun _=>rfl)
  (fun pre W=>W.heap[g]? =some (.cells #[.int .u64 (bkV pre)] 114 (0,0))/\Below w.heap.size w W) (fun _ _=>False)
  ?hI (fun _ _ _ h=>h.elim) ?h0 (fun x W a' W1=>W1=W/\a'={ tmps:=#[.slice A n c,.int .i64 l,.int .i64 k,undef,undef,undef,.int .u64 0,.int .i64 0,.pointer (some ⟨g,0,none⟩),undef,.int .u8 x.2,.int .i64 l,.bool false,.bool false,.int .i64 l,.slice A n c,.int .i64 n,.int .i64 k,.int .i64 ((n:Int)-k),.bool false,.bool false,.slice A n c,.int .i64 l,.int .i64 l,.int .i64 k,.int .i64 ((l:Int)+k),.slice (cutA A l c) k (c-l),.func (.func 159) #[] #[.pointer (some ⟨g+1,0,none⟩)],.int .i64 x.1,.int .u8 x.2,undef,undef,undef,undef,undef,undef],defers:=[] }) ?hAx ?assign ?body ?done ?stop
 case hC=>
  have:=HS3.out
  rintro j (h|⟨a,ha,h⟩)
  ·omega
  ·have:=hcut a ha;omega
 case h0=>exact⟨HB0.out,HBL.out⟩
 case hAx=>rintro x W a' W1 ⟨rfl,-⟩;exact Keeps.refl [] _
 case hI=>
  have:=HS3.out
  have:=HG.out
  rintro s W1 W2 ⟨hv,hB⟩ hk
  exact⟨hk.heap hv (by simp;omega),hB.trans (a0c hk hB.size (fun x hx=>by simp at hx;omega))⟩
 case assign=>
  intro l' pre x W K hi hsz hK
  have HK:=c3o hK
  clear hK
  dsimp only[bkE]
  gi_wp2
  exact HK.out _ _ ⟨rfl,rfl⟩
 case stop=>rintro pre W _ h;exact h.elim
 case done=>
  rintro W ⟨hv,hB⟩ hD
  have hc:W.cell? ⟨g,0,none⟩=some (.int .u64 (zget xs l k)):=by
   rw[c1j HSG.out] at hv
   simp[World.cell?,hv,zget]
  have HBW:=c3o hB
  clear hv hB
  gi_wp2
  have h3:=HS3.out
  have h4:=HG.out
  refine⟨by simp,.inl ⟨_,_,rfl,run_takeDeferred hD,?_⟩⟩
  exact⟨_,results_tmp2 rfl _ _ _,rfl,HBW.out.trans (a0c (a0E W w3.heap.size _) HBW.out.size (fun x hx=>by simp at hx;omega))⟩
 case body=>
  rintro pre x W a' W1 W2 ⟨hv,hB⟩ hpl hsz ⟨rfl,rfl⟩ hk2
  have hx:0<=x.2/\x.2<=255:=by
   have hm:x∈bkT (seg xs l k) k:=List.IsPrefix.subset hpl (c3L.2 (.inr (by simp)))
   obtain⟨h1,h2⟩:=b2f hm
   rw[h1,a0o (by rw[HSG.out];exact h2)]
   exact a5f HBY.out l k _ (c3F _)
  have hpb:0<=bkV pre/\bkV pre*256<18446744073709551616:=by
   have hl:=hpl.length_le
   rw[b6t,c3p,List.length_singleton] at hl
   have hb:=c2m pre (fun p hp=>by
    have hm:p∈bkT (seg xs l k) k:=List.IsPrefix.subset hpl (c3L.2 (.inl hp))
    obtain⟨h1,h2⟩:=b2f hm
    rw[h1,a0o (by rw[HSG.out];exact h2)]
    exact a5f HBY.out l k _ (c3F _))
   refine⟨hb.1,?_⟩
   have h7:(256:Int)^pre.length<=256^7:=by
    have:(256:Nat)^pre.length<=256^7:=Nat.pow_le_pow_right (by omega) (by omega)
    exact_mod_cast this
   have h8:(256:Int)^7=72057594037927936:=by decide
   omega
  have hv2:W2.heap[g]? =some (.cells #[.int .u64 (bkV pre)] 114 (0,0)):=hk2.heap hv (by have:=HS3.out;simp;omega)
  have hc:W2.cell? ⟨g,0,none⟩=some (.int .u64 (bkV pre)):=by simp[World.cell?,hv2]
  have hf:W2.frozen? ⟨g,0,none⟩=false:=by simp[World.frozen?,hv2]
  have HV2:=c3o hv2
  have HBW:=c3o hB
  have HK2:=c3o hk2
  have q1:=c2M hpb.1 hpb.2 hx
  have q2:IntKind.u64.wrap (bkV pre*256)=bkV pre*256:=IntWalk.u64_in _ (by omega)
  have q3:IntKind.u64.wrap x.2=x.2:=IntWalk.u64_in _ (by omega)
  have HE:Hid (bkV (pre++[x])=bkV pre*256+x.2):=c3o (b8O pre x)
  clear hv hB hk2 hv2 hpl hpb hx
  generalize bkV pre=v at *
  generalize x.2=y at *
  gi_wp2
  have h3:=HS3.out
  have h4:=HG.out
  refine⟨⟨?_,?_⟩,?_,?_⟩
  ·rw[HE.out];exact Blk.set (show Blk W2 g 114 [.int .u64 v] from HV2.out) 0 _
  ·exact (HBW.out.trans (a0c HK2.out HBW.out.size (fun z hz=>by simp at hz;omega))).setCell (p:=⟨g,0,none⟩) (by simp;omega) _
  ·simp[World.setCell]
  ·intro j hj hj2
   refine Go.Deep.blk_setCell_other _ _ _ _ (fun e=>?_)
   have e:j=g:=e
   rcases hj2 with (h|⟨a,ha,h⟩)|h|h
   ·omega
   ·have:=hcut a ha;omega
   ·omega
   ·omega
end Go.Proofs.YtghjlpechjggjaaGreatDoor
namespace Go.Proofs.YtghjlpechjggjaaGreatDoor
open Go.RowKit
structure OnlyC (F j:Nat) (w w':World):Prop where
 keeps:Keeps [F] w w'
 cell:∀ i,i≠j->w'.cell? ⟨F,i,none⟩=w.cell? ⟨F,i,none⟩
 frozen:∀ i,w'.frozen? ⟨F,i,none⟩=w.frozen? ⟨F,i,none⟩
theorem OnlyC.trans{F j:Nat}{a b c:World}(h:OnlyC F j a b)(k:OnlyC F j b c):OnlyC F j a c:=
 ⟨h.keeps.trans k.keeps,fun i hi=>(k.cell i hi).trans (h.cell i hi),fun i=>(k.frozen i).trans (h.frozen i)⟩
theorem OnlyC.of_keeps{F j:Nat}{w w':World}(h:Keeps [] w w')(hF:F<w.heap.size):OnlyC F j w w':=
 ⟨h.mono (fun x hx=>by cases hx),fun i _=>c3s (a:=⟨F,i,none⟩) (h.block F hF (by simp)),fun i=>c3v (a:=⟨F,i,none⟩) (h.block F hF (by simp))⟩
theorem OnlyC.set{F j:Nat}{w w':World}(h:OnlyC F j w w')(v:Value):OnlyC F j w (w'.setCell ⟨F,j,none⟩ v):=
 ⟨h.keeps.setCell (p:=⟨F,j,none⟩) (.inl (by simp)) v,fun i hi=>(World.cell?_setCell_other _ _ _ _ (by simp[Ne.symm hi])).trans (h.cell i hi),fun i=>(World.frozen?_setCell _ _ _ _).trans (h.frozen i)⟩
structure FD (w:World) (F o:Nat) (A:Option Addr) (n c p:Nat):Prop where
 c0:w.cell? ⟨F,o,none⟩=some (.slice A n c)
 c1:w.cell? ⟨F,o+1,none⟩=some (.int .i64 p)
 f1:w.frozen? ⟨F,o+1,none⟩=false
 ne:∀ a,A=some a->a.block≠F
theorem FD.lt{w:World}{F o:Nat}{A:Option Addr}{n c p:Nat}(h:FD w F o A n c p):F<w.heap.size:=c3A _ _ h.c0
theorem FD.moved{w w':World}{F o:Nat}{A:Option Addr}{n c p q:Nat}(h:FD w F o A n c p)(hk:Keeps [] w w')(v:Int)(hv:v=q):FD (w'.setCell ⟨F,o+1,none⟩ (.int .i64 v)) F o A n c q:=by
 have hb:=hk.block F h.lt (by simp)
 have e0:=(c3s (a:=⟨F,o,none⟩) hb).trans h.c0
 have e1:=(c3s (a:=⟨F,o+1,none⟩) hb).trans h.c1
 have e2:=(c3v (a:=⟨F,o+1,none⟩) hb).trans h.f1
 exact⟨(World.cell?_setCell_other _ _ _ _ (by simp)).trans e0,by rw[World.cell?_setCell_same _ _ _ e1,hv],(World.frozen?_setCell _ _ _ _).trans e2,h.ne⟩
theorem FD.keeps{S:List Nat}{w w':World}{F o:Nat}{A:Option Addr}{n c p:Nat}(h:FD w F o A n c p)(hk:Keeps S w w')(hF:F∉S):FD w' F o A n c p:=by
 have hb:=hk.block F h.lt hF
 exact⟨(c3s (a:=⟨F,o,none⟩) hb).trans h.c0,(c3s (a:=⟨F,o+1,none⟩) hb).trans h.c1,(c3v (a:=⟨F,o+1,none⟩) hb).trans h.f1,h.ne⟩
theorem OnlyC.past{F j:Nat}{a b c:World}{S:List Nat}(h:OnlyC F j a b)(k:Keeps S b c)(hF:F<a.heap.size)(hS:∀ x∈S,a.heap.size<=x):OnlyC F j a c:=by
 have hb:=k.block F (c3T hF h.keeps.size) (fun hm=>by have:=hS F hm;omega)
 refine⟨⟨k.os.trans h.keeps.os,k.tape.trans h.keeps.tape,k.output.trans h.keeps.output,c3S h.keeps.size k.size,fun i hi hn=>(k.block i (c3T hi h.keeps.size) (fun hm=>by have:=hS i hm;omega)).trans (h.keeps.block i hi hn)⟩,fun i hi=>(c3s (a:=⟨F,i,none⟩) hb).trans (h.cell i hi),fun i=>(c3v (a:=⟨F,i,none⟩) hb).trans (h.frozen i)⟩
theorem OnlyC.refl{F j:Nat}(w:World):OnlyC F j w w:=⟨Keeps.refl _ _,fun _ _=>rfl,fun _=>rfl⟩
structure ZB (w:World) (A:Option Addr) (n c:Nat) (xs:List Int):Prop where
 ri:RI .u8 w A n xs
 cap:a4d A n c
 byte:∀ x∈xs,0<=x/\x<=255
 len:n<=1000000000
 old:∀ a,A=some a->a.block<w.heap.size
theorem ZB.keeps{S:List Nat}{w w':World}{A:Option Addr}{n c:Nat}{xs:List Int}(h:ZB w A n c xs)(hk:Keeps S w w')(ho:Off S A):ZB w' A n c xs:=
 ⟨h.ri.keeps hk ho,h.cap,h.byte,h.len,fun a ha=>c3T (h.old a ha) hk.size⟩
theorem FD.off{w:World}{F o:Nat}{A:Option Addr}{n c p:Nat}(h:FD w F o A n c p):Off [F] A:=fun a ha hm=>h.ne a ha (by simpa using hm)
theorem a2u{xs:List Int}(hb:∀ x∈xs,0<=x/\x<=255){p:Nat}(h:p+2<=xs.length):0<=zget xs p 2/\zget xs p 2<65536:=by
 have:=a8v (a5f hb p 2)
 rw[a3g h] at this
 exact this
theorem a1C{xs:List Int}(hb:∀ x∈xs,0<=x/\x<=255){p:Nat}(h:p+4<=xs.length):0<=zget xs p 4/\zget xs p 4<4294967296:=by
 have:=a8v (a5f hb p 4)
 rw[a3g h] at this
 exact this
theorem b2r(w:World)(A:Option Addr)(n c:Nat)(xs:List Int)(h:ZB w A n c xs)(p:Nat)(hp:p+2<=n) :
  Calls Tryz.prog 103 #[.slice A n c,.int .i64 p] w fun e w'=>e=.returned (.tuple #[.int .u16 (zget xs p 2),.int .i64 0])/\Below w.heap.size w w':=by
 have HC:=c3o (b0L w A n c xs h.ri h.cap h.byte h.len h.old p 2 (by omega) hp)
 have hb:=a2u h.byte (p:=p) (by rw[h.ri.len];exact hp)
 have s1:IntKind.u16.wrap (zget xs p 2)=zget xs p 2:=IntWalk.u16_in _ (by omega)
 clear h hb
 generalize zget xs p 2=v at *
 go_enter Tryz.func103,Tryz.ntmps103
 go_wp2_with fail
 refine HC.out.mono ?_
 rintro _ w' ⟨rfl,hb⟩
 have HB:=c3o hb
 clear hb
 go_wp2_with fail
 go_ret2
 exact⟨rfl,HB.out⟩
theorem b2s(w:World)(A:Option Addr)(n c:Nat)(xs:List Int)(h:ZB w A n c xs)(p:Nat)(hp:p+4<=n) :
  Calls Tryz.prog 102 #[.slice A n c,.int .i64 p] w fun e w'=>e=.returned (.tuple #[.int .u32 (zget xs p 4),.int .i64 0])/\Below w.heap.size w w':=by
 have HC:=c3o (b0L w A n c xs h.ri h.cap h.byte h.len h.old p 4 (by omega) hp)
 have hb:=a1C h.byte (p:=p) (by rw[h.ri.len];exact hp)
 have s1:IntKind.u32.wrap (zget xs p 4)=zget xs p 4:=IntWalk.u32_in _ (by omega)
 clear h hb
 generalize zget xs p 4=v at *
 go_enter Tryz.func102,Tryz.ntmps102
 go_wp2_with fail
 refine HC.out.mono ?_
 rintro _ w' ⟨rfl,hb⟩
 have HB:=c3o hb
 clear hb
 go_wp2_with fail
 go_ret2
 exact⟨rfl,HB.out⟩
theorem a0Z(w:World)(F o:Nat)(A:Option Addr)(n c:Nat)(xs:List Int)(p:Nat)(hf:FD w F o A n c p)(h:ZB w A n c xs)(hp:p+2<=n) :
  Calls Tryz.prog 75 #[.pointer (some ⟨F,o,none⟩)] w fun e w'=>e=.returned (.int .i64 (zget xs p 2))/\FD w' F o A n c (p+2)/\OnlyC F (o+1) w w':=by
 have HF:=c3o hf
 have HZ:=c3o h
 have HC:Hid (∀ w',Below w.heap.size w w'->Calls Tryz.prog 103 #[.slice A n c,.int .i64 p] w' fun e w2=>e=.returned (.tuple #[.int .u16 (zget xs p 2),.int .i64 0])/\Below w.heap.size w w2):=
  c3o (fun w' hk=>(b2r w' A n c xs (h.keeps (Keeps.of_below hk (S:=[])) (a0a _)) p hp).mono fun _ _ ⟨e,hb⟩=>⟨e,hk.trans (hb.mono hk.size)⟩)
 have hb:=a2u h.byte (p:=p) (by rw[h.ri.len];exact hp)
 have s1:IntKind.i64.wrap (zget xs p 2)=zget xs p 2:=c3u _ (by omega)
 have s2:IntKind.i64.wrap ((p:Int)+2)=(p:Int)+2:=c3u _ (by have:=h.len;omega)
 obtain⟨c0,c1,f1,-⟩:=hf
 clear h hb
 generalize zget xs p 2=v at *
 go_enter Tryz.func75,Tryz.ntmps75
 go_upto_region 1 with (fail)
 go_cut [3] (fun v3 wc=>v3=.int .u16 v/\Hid (Below w.heap.size w wc))
 case first=>
  go_region_with (first|(go_at_call 103;refine (HC.out _ (by repeat (first|exact c3C _ _|refine Below.drew ?_))).mono ?_;rintro _ w2 ⟨rfl,hb2⟩;have HB2:=c3o hb2;clear hb2))
  all_goals (go_wp2_with fail;go_meet;exact⟨rfl,HB2⟩)
 case rest=>
  obtain⟨rfl,HB⟩:=hcut
  have hk:=Keeps.of_below HB.out (S:=[])
  have hbk:=hk.block F HF.out.lt (by simp)
  have d1:=(c3s (a:=⟨F,o+1,none⟩) hbk).trans c1
  have e1:=(c3v (a:=⟨F,o+1,none⟩) hbk).trans f1
  have HK:=c3o hk
  clear hk hbk c0 c1 f1
  go_wp2_with fail
  go_ret
  exact⟨rfl,HF.out.moved HK.out _ (by omega),(OnlyC.of_keeps HK.out HF.out.lt).set _⟩
theorem a1f(w:World)(F o:Nat)(A:Option Addr)(n c:Nat)(xs:List Int)(p:Nat)(hf:FD w F o A n c p)(h:ZB w A n c xs)(hp:p+4<=n) :
  Calls Tryz.prog 74 #[.pointer (some ⟨F,o,none⟩)] w fun e w'=>e=.returned (.int .i64 (zget xs p 4))/\FD w' F o A n c (p+4)/\OnlyC F (o+1) w w':=by
 have HF:=c3o hf
 have HZ:=c3o h
 have HC:Hid (∀ w',Below w.heap.size w w'->Calls Tryz.prog 102 #[.slice A n c,.int .i64 p] w' fun e w2=>e=.returned (.tuple #[.int .u32 (zget xs p 4),.int .i64 0])/\Below w.heap.size w w2):=
  c3o (fun w' hk=>(b2s w' A n c xs (h.keeps (Keeps.of_below hk (S:=[])) (a0a _)) p hp).mono fun _ _ ⟨e,hb⟩=>⟨e,hk.trans (hb.mono hk.size)⟩)
 have hb:=a1C h.byte (p:=p) (by rw[h.ri.len];exact hp)
 have s1:IntKind.i64.wrap (zget xs p 4)=zget xs p 4:=c3u _ (by omega)
 have s2:IntKind.i64.wrap ((p:Int)+4)=(p:Int)+4:=c3u _ (by have:=h.len;omega)
 obtain⟨c0,c1,f1,-⟩:=hf
 clear h hb
 generalize zget xs p 4=v at *
 go_enter Tryz.func74,Tryz.ntmps74
 go_upto_region 1 with (fail)
 go_cut [3] (fun v3 wc=>v3=.int .u32 v/\Hid (Below w.heap.size w wc))
 case first=>
  go_region_with (first|(go_at_call 102;refine (HC.out _ (by repeat (first|exact c3C _ _|refine Below.drew ?_))).mono ?_;rintro _ w2 ⟨rfl,hb2⟩;have HB2:=c3o hb2;clear hb2))
  all_goals (go_wp2_with fail;go_meet;exact⟨rfl,HB2⟩)
 case rest=>
  obtain⟨rfl,HB⟩:=hcut
  have hk:=Keeps.of_below HB.out (S:=[])
  have hbk:=hk.block F HF.out.lt (by simp)
  have d1:=(c3s (a:=⟨F,o+1,none⟩) hbk).trans c1
  have e1:=(c3v (a:=⟨F,o+1,none⟩) hbk).trans f1
  have HK:=c3o hk
  clear hk hbk c0 c1 f1
  go_wp2_with fail
  go_ret
  exact⟨rfl,HF.out.moved HK.out _ (by omega),(OnlyC.of_keeps HK.out HF.out.lt).set _⟩
theorem b3E{w:World}{A:Option Addr}{n c:Nat}{xs:List Int}(h:RI .u8 w A n xs):(convert 26 9 (.slice A n c)).run Tryz.prog w=.ok (.string (strOfNums xs)) w:=by
 by_cases hn:0<n
 ·obtain⟨b,o,rfl⟩:=h.hd hn
  exact run_convert_bytes_arg w 26 5 c3D Tryz.underlying5 b o n c xs h.len (fun i hi=>h.cell b o rfl i hi) 9 c3K
 ·obtain rfl:n=0:=by omega
  obtain rfl:xs=[]:=List.eq_nil_of_length_eq_zero h.len
  cases A with
  | none=>exact run_convert_bytes_nil w 26 5 c3D Tryz.underlying5 0 c 9 c3K
  | some a=>
   have hl:(loadCells a 0).run Tryz.prog w=.ok (([]:List Int).map (Value.int .u8)).toArray w:=run_loadCells_list (P:=Tryz.prog) w a [] (by simp)
   rw[run_convert_bytes_string w 26 9 5 _ 0 c c3D Tryz.underlying5 c3K,run_bytesToString w _ 0 c [] hl]
   rfl
theorem a6T(w:World)(F o:Nat)(A:Option Addr)(n c:Nat)(xs:List Int)(p k:Nat)(hf:FD w F o A n c p)(h:ZB w A n c xs)(hp:p+k<=n) :
  Calls Tryz.prog 105 #[.pointer (some ⟨F,o,none⟩),.int .i64 k] w fun e w'=>e=.returned (.string (strOfNums (seg xs p k)))/\FD w' F o A n c (p+k)/\OnlyC F (o+1) w w':=by
 have HF:=c3o hf
 have s2:IntKind.i64.wrap ((p:Int)+(k:Int))=(p:Int)+(k:Int):=c3u _ (by have:=h.len;omega)
 have hsl:=fun w=>a2c w A n c p (p+k) (p:Int) ((p:Int)+(k:Int)) rfl (by omega) (by omega) hp h.cap
 have hcv:(convert 26 9 (.slice (cutA A p c) (p+k-p) (c-p))).run Tryz.prog w.drew=.ok (.string (strOfNums (seg xs p k))) w.drew:=b3E ((h.ri.mid h.cap (by omega) hp).keeps (Keeps.refl [] w).drew (a0a _))
 obtain⟨c0,c1,f1,-⟩:=hf
 rw[show p+k-p=k by omega] at hcv hsl
 clear h
 go_enter Tryz.func105,Tryz.ntmps105
 go_upto_region 1 with (fail)
 go_region
 clear hsl hcv
 go_wp2_with fail
 go_ret
 exact⟨rfl,HF.out.moved (Keeps.refl [] w).drew _ (by omega),(OnlyC.of_keeps (Keeps.refl [] w).drew HF.out.lt).set _⟩
end Go.Proofs.YtghjlpechjggjaaGreatDoor
namespace Go.Proofs.YtghjlpechjggjaaGreatDoor
open Go.RowKit
theorem a6q(w:World)(l:List Int):RI .i64 (w.alloc (.cells (ints .i64 l).toArray 3)) (some ⟨w.heap.size,0,none⟩) l.length l:=by
 have:=Blk.ri (xs:=l) (ys:=[]) (k:=.i64) (by simpa using a0d w 3 (ints .i64 l))
 exact this
theorem a5N(w:World)(A:Option Addr)(n c:Nat)(xs:List Int)(hx:RI .u8 w A n xs)(hn:n<=900000000)(l:List Int)(h0:0<l.length)(h1:l.length<=1000) :
  Calls Tryz.prog 36 #[.slice A n c,.slice (some ⟨w.heap.size,0,none⟩) l.length l.length] (w.alloc (.cells (ints .i64 l).toArray 3)) fun e w'=>∃ v',e=.returned v'/\w'.ownsRow w.heap.size 5 1 v' (n+l.length*2) (ints .u8 (xs++zlesB 2 l))/\Below w.heap.size w w':=
 (b8m _ A n c xs (hx.keeps ((Keeps.refl [] w).alloc _) (a0a _)) hn _ l.length l.length l (a6q w l) h0 h1).mono fun _ _ ⟨v,e,ho,hb⟩=>
  ⟨v,e,a1b ho (by simp),((c3C w.heap.size w).alloc (c3w _) _).trans (hb.mono (by simp))⟩
theorem a6m(w:World)(A:Option Addr)(n c:Nat)(xs:List Int)(hx:RI .u8 w A n xs)(hn:n<=900000000)(l:List Int)(h0:0<l.length)(h1:l.length<=1000) :
  Calls Tryz.prog 37 #[.slice A n c,.slice (some ⟨w.heap.size,0,none⟩) l.length l.length] (w.alloc (.cells (ints .i64 l).toArray 3)) fun e w'=>∃ v',e=.returned v'/\w'.ownsRow w.heap.size 5 1 v' (n+l.length*4) (ints .u8 (xs++zlesB 4 l))/\Below w.heap.size w w':=
 (a5w _ A n c xs (hx.keeps ((Keeps.refl [] w).alloc _) (a0a _)) hn _ l.length l.length l (a6q w l) h0 h1).mono fun _ _ ⟨v,e,ho,hb⟩=>
  ⟨v,e,a1b ho (by simp),((c3C w.heap.size w).alloc (c3w _) _).trans (hb.mono (by simp))⟩
theorem a0Q{w:World}{base n:Nat}{v:Value}{xs:List Int}(h:w.ownsRow base 5 1 v n (ints .u8 xs)):∃ A c,v=.slice A n c/\RI .u8 w A n xs:=by
 obtain⟨A,c,hv,hr,-⟩:=a0y h
 exact⟨A,c,hv,hr⟩
def sharedB(way sum bl dl nl:Int):List Int:=zlesB 2 [20,0,way,0,33]++(zlesB 4 [sum,bl,dl]++zlesB 2 [nl,0])
theorem a3h(way sum bl dl nl:Int):(sharedB way sum bl dl nl).length=26:=by simp[sharedB,a5q]
structure ShB (w:World) (Bw Bd Bb Bx:Nat) (way:Int) (Ad:Option Addr) (nd cd:Nat) (data:List Int) (Ab:Option Addr) (nb cb:Nat) (name dat:ByteArray):Prop where
 cw:w.cell? ⟨Bw,0,none⟩=some (.int .i64 way)
 cd:w.cell? ⟨Bd,0,none⟩=some (.slice Ad nd cd)
 cb:w.cell? ⟨Bb,0,none⟩=some (.slice Ab nb cb)
 cx:w.cell? ⟨Bx,0,none⟩=some (.string name)
 cy:w.cell? ⟨Bx,1,none⟩=some (.string dat)
 rd:RI .u8 w Ad nd data
theorem ShB.keeps{w w':World}{Bw Bd Bb Bx:Nat}{way:Int}{Ad:Option Addr}{nd cd:Nat}{data:List Int}{Ab:Option Addr}{nb cb:Nat}{name dat:ByteArray}(h:ShB w Bw Bd Bb Bx way Ad nd cd data Ab nb cb name dat)(hk:Keeps [] w w'):ShB w' Bw Bd Bb Bx way Ad nd cd data Ab nb cb name dat:=
 ⟨hk.cell (p:=⟨Bw,0,none⟩) (by simp) h.cw,hk.cell (p:=⟨Bd,0,none⟩) (by simp) h.cd,hk.cell (p:=⟨Bb,0,none⟩) (by simp) h.cb,hk.cell (p:=⟨Bx,0,none⟩) (by simp) h.cx,hk.cell (p:=⟨Bx,1,none⟩) (by simp) h.cy,h.rd.keeps hk (a0a _)⟩
theorem a6d (w:World) (A:Option Addr) (n c:Nat) (xs:List Int) (hx:RI .u8 w A n xs) (hn:n<=800000000) (Bw Bd Bb Bx:Nat) (way:Int) (Ad:Option Addr) (nd cd:Nat) (data:List Int) (Ab:Option Addr) (nb cb:Nat) (name dat:ByteArray)
  (h:ShB w Bw Bd Bb Bx way Ad nd cd data Ab nb cb name dat) (hd:∀ x∈data,0<=x/\x<=255) (hnd:nd<=1000000) (hT:Tabz w) :
  Calls Tryz.prog 55 #[.slice A n c,.pointer (some ⟨Bw,0,none⟩),.pointer (some ⟨Bd,0,none⟩),.pointer (some ⟨Bb,0,none⟩),.pointer (some ⟨Bx,0,none⟩)] w fun e w'=>∃ v',e=.returned v' /\
   w'.ownsRow w.heap.size 5 1 v' (n+26) (ints .u8 (xs++sharedB way (crcF data:Nat) nb nd name.size))/\Below w.heap.size w w':=by
 have HX:=c3o hx
 have HH:=c3o h
 have HD:=c3o hd
 have HT:=c3o hT
 have hcr:=b6E hd
 have hcw:=h.cw
 clear hx h hd hT
 go_enter Tryz.func55,Tryz.ntmps55
 go_wp2_with fail
 refine (a5N w A n c xs HX.out (by omega) [20,0,way,0,33] (by simp) (by simp)).mono ?_
 rintro _ w1 ⟨v1,rfl,ho1,hb1⟩
 obtain⟨A1,c1,rfl,hr1⟩:=a0Q ho1
 have HR1:=c3o hr1
 have HB1:=c3o hb1
 have HH1:=c3o (HH.out.keeps (Keeps.of_below hb1))
 have HT1:=c3o (HT.out.keeps (Keeps.of_below hb1 (S:=[])) (by simp))
 clear ho1 hr1 hb1 hcw
 rw[show n+[20,0,way,0,33].length*2=n+10 from rfl] at *
 go_upto_region 2 with (fail)
 have cd1:=HH1.out.cd
 have cb1:=HH1.out.cb
 have SC:Hid (∀ w',Below w1.heap.size w1 w'->Calls Tryz.prog 28 #[.slice Ad nd cd] w' fun e w2=>e=.returned (.int .u32 ((crcF data:Nat):Int))/\Below w1.heap.size w1 w2):=c3o (fun w' hb=>by
  have hk:=Keeps.of_below hb (S:=[])
  exact (b1E w' Ad nd cd data (HH1.out.rd.keeps hk (a0a _)) HD.out (by omega) (HT1.out.keeps hk (by simp))).mono fun _ _ ⟨e,m,hm⟩=>⟨e,by rw[hm];exact below_drewN hb m⟩)
 have sw:IntKind.i64.wrap ((crcF data:Nat):Int)=((crcF data:Nat):Int):=c3u _ (by omega)
 obtain⟨S,hS⟩:∃ S,S=crcF data:=⟨_,rfl⟩
 rw[<-hS] at SC sw hcr
 have HSS:=c3o hS
 clear hS
 have HN:=c3o (show n+10<=900000000 by omega)
 obtain⟨n1,hn1⟩:∃ z,z=n+10:=⟨_,rfl⟩
 obtain⟨x1,hx1⟩:∃ z,z=xs++zlesB 2 [20,0,way,0,33]:=⟨_,rfl⟩
 rw[<-hn1] at HR1 HN ⊢
 rw[<-hx1] at HR1
 have HN1:=c3o hn1
 have HX1:=c3o hx1
 clear hn1 hx1
 go_cut [0] (fun v wc=>∃ (A3:Option Addr) (c3:Nat),v=.slice A3 (n1+12) c3/\Hid (RI .u8 wc A3 (n1+12) (x1++zlesB 4 [(S:Int),(nb:Int),(nd:Int)]))/\Hid (Below w1.heap.size w1 wc))
 case first=>
  go_region_with (first
   | (go_at_call 28;refine (SC.out _ (by repeat (first|exact c3C _ _|refine Below.drew ?_))).mono ?_;rintro _ w2 ⟨rfl,hb2⟩;have hk2:=Keeps.of_below hb2 (S:=[]);have cd2:=hk2.cell (p:=⟨Bd,0,none⟩) (by simp) cd1;have cb2:=hk2.cell (p:=⟨Bb,0,none⟩) (by simp) cb1;have HR2:=c3o (HR1.out.keeps hk2 (a0a _));have HB2:=c3o hb2;clear hb2 hk2)
   | (go_at_call 37;refine (a6m w2 A1 n1 c1 x1 HR2.out HN.out [(S:Int),(nb:Int),(nd:Int)] (by simp) (by simp)).mono ?_;rintro _ w3 ⟨v3,rfl,ho3,hb3⟩;obtain⟨A3,c3,rfl,hr3⟩:=a0Q ho3;have HR3:=c3o hr3;have HB3:=c3o (HB2.out.trans (hb3.mono HB2.out.size));clear ho3 hb3 hr3))
  all_goals (go_wp2_with fail;go_meet;exact⟨A3,c3,rfl,HR3,HB3⟩)
 case rest=>
  obtain⟨A3,c3,rfl,HR3,HB3⟩:=hcut
  have cx3:=(Keeps.of_below HB3.out (S:=[])).cell (p:=⟨Bx,0,none⟩) (by simp) HH1.out.cx
  clear SC sw cd1 cb1 hcr
  go_wp2_with fail
  refine (a5N wc A3 (n1+12) c3 _ HR3.out (by have:=HN1.out;omega) [(name.size:Int),0] (by simp) (by simp)).mono ?_
  rintro _ w4 ⟨v4,rfl,ho4,hb4⟩
  have HO4:Hid (w4.ownsRow w.heap.size 5 1 v4 (n+26) (ints .u8 (xs++sharedB way ((crcF data:Nat):Int) nb nd name.size))):=c3o (by
   have h2:=a1b ho4 (c3S HB1.out.size HB3.out.size)
   rw[<-HSS.out]
   have e1:n1+12+[(name.size:Int),0].length*2=n+26:=by rw[HN1.out];rfl
   rw[e1] at h2
   have e2:x1++zlesB 4 [(S:Int),(nb:Int),(nd:Int)]++zlesB 2 [(name.size:Int),0]=xs++sharedB way (S:Int) nb nd name.size:=by
    rw[HX1.out];simp[sharedB]
   rw[e2] at h2
   exact h2)
  have HB4:=c3o ((HB1.out.trans (HB3.out.mono HB1.out.size)).trans (hb4.mono (c3S HB1.out.size HB3.out.size)))
  clear ho4 hb4
  go_wp2_with fail
  go_ret
  exact⟨_,rfl,HO4.out,HB4.out⟩
end Go.Proofs.YtghjlpechjggjaaGreatDoor
namespace Go.Proofs.YtghjlpechjggjaaGreatDoor
open Go.RowKit
def sb(s:ByteArray):List Int:=s.data.toList.map fun b=>(b.toNat:Int)
theorem a2m(s:ByteArray):(sb s).length=s.size:=by cases s;simp[sb,ByteArray.size]
theorem a9S(s:ByteArray):∀ x∈sb s,0<=x/\x<=255:=fun x hx=>by
 obtain⟨b,-,rfl⟩:=List.mem_map.1 hx
 have:b.toNat<256:=UInt8.toNat_lt b
 omega
theorem c0c(s:ByteArray):Lib.strCells s=ints .u8 (sb s):=by simp[Lib.strCells,ints,sb,List.map_map]
theorem c2L(s:ByteArray)(j:Nat)(hj:j<s.size):nth (sb s) j=((s.data.toList.getD j 0).toNat:Int):=by
 have hl:s.data.toList.length=s.size:=by cases s;rfl
 rw[a0o (by rw[a2m];exact hj)]
 simp only[sb,List.getElem_map]
 rw[c3I,List.getElem?_eq_getElem (by rw[hl];exact hj)]
 rfl
theorem a9W(s:ByteArray):strOfNums (sb s)=s:=by
 cases s with
 | mk d=>
  simp only[strOfNums,sb]
  have h:∀ l:List UInt8,(l.map fun b=>(b.toNat:Int)).map (fun n=>UInt8.ofNat n.toNat)=l:=fun l=>by
   induction l with
   | nil=>rfl
   | cons x r ih=>simp[ih]
  rw[h]
theorem b4V(w:World)(s:ByteArray):∃ c w',(convert 9 26 (.string s)).run Tryz.prog w=.ok (.slice (some ⟨w.heap.size,0,none⟩) s.size c) w'/\RI .u8 w' (some ⟨w.heap.size,0,none⟩) s.size (sb s)/\Keeps [] w w'/\w'.heap.size=w.heap.size+1:=
 ⟨_,_,Lib.run_convert_string_bytes w 9 26 5 s c3K c3D Tryz.underlying5,
  ⟨a2m s,fun _=>⟨_,_,rfl⟩,fun b o ha j hj=>by
   injection ha with ha;injection ha with h1 h2 h3;subst h1;subst h2
   rw[Nat.zero_add,c2L s j hj]
   exact Lib.bytesWorld_cell w 5 s j hj⟩,
  ⟨rfl,rfl,rfl,by rw[Lib.bytesWorld_size];omega,fun k hk _=>Lib.bytesWorld_at_old w 5 s k hk⟩,Lib.bytesWorld_size _ _ _⟩
theorem a7O {P:Program} {ops:Array Oper} {o:Oper} {a:Act} {K:Act->World->Prop} {Q:Exit->Act->World->Prop} {E:Prop} {w:World} (hgd:o.guard=none) (s x:Operand) (t u:TypeId)
  (ho:o.op=.call { callee:=.builtin .append,args:=#[s,x],argTypes:=#[t,u] }) {v':Value} {w':World} {vs vx:Value} (hs:a.eval s=vs) (hx:a.eval x=vx)
  (hrun:(Builtin.append_ #[t,u] o.type #[vs,vx]).run P w=.ok v' w') (h:K (a.put o.dst v') w'):if Region.wanted o (yielded ops a.tmps)=true then Oper.wp P o a w K Q else E:=by
 have hw:Region.wanted o (yielded ops a.tmps)=true:=by simp[Region.wanted,hgd]
 rw[if_pos hw]
 unfold Oper.wp execOp
 simp[ho,resolve,invoke,builtin,hs,hx,hrun,Result.andThen]
 exact h
theorem b1w {ops:Array Oper} {o:Oper} {a:Act} {K:Act->World->Prop} {Q:Exit->Act->World->Prop} {E:Prop} {w:World} (hgd:o.guard=none) (sl x:Operand)
  (ho:o.op=.call { callee:=.builtin .append,args:=#[sl,x],argTypes:=#[26,9] })
  (base:Nat) (v:Value) (n:Nat) (xs:List Int) (hs:a.eval sl=v) (hown:w.ownsRow base 5 1 v n (ints .u8 xs)) (s:ByteArray) (hx:a.eval x=.string s)
  (hn:n+s.size<=8000000000) (hbase:base<=w.heap.size)
  (h:∀ v' w',w'.ownsRow base 5 1 v' (n+s.size) (ints .u8 (xs++sb s))->w.grownBy w' v.ownBlock->K (a.put o.dst v') w'):if Region.wanted o (yielded ops a.tmps)=true then Oper.wp Tryz.prog o a w K Q else E:=by
 obtain⟨i0,hi,hz0,hz1,hz2⟩:=c3U a3c
 obtain⟨v',w',hrun,ho',hg,-⟩:=Lib.run_append_own_string (P:=Tryz.prog) w base 26 9 o.type 5 i0 c3D c3K hi hz0 hz1 hz2 v n (ints .u8 xs) hown s (by unfold maxLen;omega) (by omega) hbase
 refine a7O hgd sl x _ _ ho hs hx hrun (h v' w' ?_ hg)
 have:ints .u8 (xs++sb s)=ints .u8 xs++Lib.strCells s:=by rw[c0c];simp[ints]
 rw[this]
 exact ho'
theorem b8a {ops:Array Oper} {o:Oper} {a:Act} {K:Act->World->Prop} {Q:Exit->Act->World->Prop} {E:Prop} {w:World} (hgd:o.guard=none) (sl x:Operand)
  (ho:o.op=.call { callee:=.builtin .append,args:=#[sl,x],argTypes:=#[26,26] })
  (base:Nat) (v:Value) (n:Nat) (xs:List Int) (hs:a.eval sl=v) (hown:w.ownsRow base 5 1 v n (ints .u8 xs)) (ad:Addr) (m c:Nat) (ys:List Int) (hx:a.eval x=.slice (some ad) m c) (hy:RI .u8 w (some ad) m ys)
  (hn:n+m<=8000000000) (hbase:base<=w.heap.size)
  (h:∀ v' w',w'.ownsRow base 5 1 v' (n+m) (ints .u8 (xs++ys))->w.grownBy w' v.ownBlock->K (a.put o.dst v') w'):if Region.wanted o (yielded ops a.tmps)=true then Oper.wp Tryz.prog o a w K Q else E:=by
 obtain⟨i0,hi,hz0,hz1,hz2⟩:=c3U a3c
 have hnews:∀ j u,(ints .u8 ys)[j]? =some u->w.cell? (ad.add j)=some u:=by
  intro j u hu
  have hj:j<m:=by have:=(List.getElem?_eq_some_iff.1 hu).1;have:=hy.len;simp[ints] at *;omega
  obtain⟨b,of,hab⟩:=hy.hd (by omega)
  obtain rfl:=Option.some.inj hab
  rw[a0w]
  have hc:=hy.cell b of rfl j hj
  rw[hc,<-hu,a0f]
  simp[nth,List.getD,show j<ys.length by have:=hy.len;omega]
 obtain⟨v',w',hr,h2,h3,-⟩:=run_append_own (P:=Tryz.prog) w base 26 o.type 5 i0 (.int .u8 0) 1 1 c3D hi hz0 hz1 hz2 rfl (by decide) v n (ints .u8 xs) hown ad m c (ints .u8 ys) (by simp[ints,hy.len]) hnews (a2z _ _) (by unfold maxLen;omega) (by omega) hbase
 refine a7O hgd sl x _ _ ho hs hx hr (h v' w' ?_ h3)
 have e:ints .u8 (xs++ys)=ints .u8 xs++ints .u8 ys:=by simp[ints]
 rw[e]
 exact h2
end Go.Proofs.YtghjlpechjggjaaGreatDoor
namespace Go.Proofs.YtghjlpechjggjaaGreatDoor
def a1D:List Tok->Nat->Int
 | [],_=>0
 | t::ts,s=>if mayT t s=false then 60 else if 16384<s+max 1 t.2.1.toNat then 2 else a1D ts (s+max 1 t.2.1.toNat)
theorem a1x:∀ (ts:List Tok) (out:List Int),(expandF 16384 ts out).2=a1D ts out.length
 | [],out=>rfl
 | t::ts,out=>by
  rw[expandF,a1D]
  by_cases hm:mayT t out.length=false
  ·rw[if_pos hm,if_pos hm]
  ·rw[if_neg hm,if_neg hm]
   by_cases hb:16384<out.length+max 1 t.2.1.toNat
   ·rw[if_pos hb,if_pos hb]
   ·rw[if_neg hb,if_neg hb,a1x ts,a6y t out (b1c (by simpa using hm))]
theorem b0H{most:Nat}:∀ (ts:List Tok) (out:List Int),out.length<=most->(expandF most ts out).1.length<=most
 | [],out,h=>h
 | t::ts,out,h=>by
  rw[expandF]
  split
  ·simp
  ·next hm=>
   split
   ·simp
   ·next hb=>exact b0H ts _ (by rw[a6y t out (b1c (by simpa using hm))];omega)
theorem a3Q{ts:List Tok}(h:a1D ts 0=0):ts.length<=16384:=by
 have e:=a1x ts []
 rw[show ([]:List Int).length=0 from rfl,h] at e
 have:=a4g ts [] e
 have:=b0H (most:=16384) ts [] (by simp)
 simp at *;omega
def litS(t:Tok):Int:=if t.2.1=0 then (t.1.toNat:Int) else (lsym t.2.1.toNat:Int)
def a3b(t:Tok):List Int:=if t.2.1=0 then [] else [(dsym t.2.2.toNat:Int)]
def litC(ts:List Tok):List Int:=cntF 286 ([256]++ts.map litS)
def distC(ts:List Tok):List Int:=cntF 30 (ts.flatMap a3b)
theorem a6P:∀ ts:List Tok,(ts.flatMap a3b).length<=ts.length
 | []=>by simp
 | t::ts=>by
  have:=a6P ts
  rw[List.flatMap_cons,c3p,c3q]
  have:(a3b t).length<=1:=by unfold a3b;split<;>simp
  omega
theorem c0C(N:Nat)(S:List Int)(h1:1<=N)(hN:N<=288)(hS:S.length<=1000000) :
  limF (cntF N S) 15=(limLens (cntF N S) 15,0)/\(limLens (cntF N S) 15).length=N/\(∀ i,i<N->(0<nth (limLens (cntF N S) 15) i↔(i:Int)∈S)/\0<=nth (limLens (cntF N S) 15) i/\nth (limLens (cntF N S) 15) i<=15)/\((∃ i:Nat,i<N/\(i:Int)∈S)->a0e (limLens (cntF N S) 15)=0):=by
 have hl:(cntF N S).length=N:=a1o N S
 have hb:(cntF N S).any a0C=false:=by
  rw[List.any_eq_false]
  intro x hx
  obtain⟨i,hi,rfl⟩:=c3z.1 hx
  have:=a5T N S i (by rw[hl] at hi;exact hi)
  rw[a0o hi] at this
  unfold a0C
  simp only[Bool.or_eq_true,decide_eq_true_eq];omega
 have ht:(leavesF (cntF N S) 0).length<=2^15:=by
  have:=(a3A (cntF N S) hb 0).2.2.2.1
  rw[hl] at this
  have:(2:Nat)^15=32768:=rfl
  omega
 have hc:∀ i,i<N->(0<nth (cntF N S) i↔(i:Int)∈S):=fun i hi=>by
  rw[a0t N S i hi,<-List.count_pos_iff];omega
 refine⟨?_,by rw[limLens,a1o,hl],fun i hi=>?_,?_⟩
 ·unfold limF
  rw[if_neg (by rw[hl];omega),if_neg (by simp[hb]),if_neg (by show ¬2^15<_;omega)];rfl
 ·have h:=b4i (cntF N S) 15 (by omega) (by omega) hb ht i (by rw[hl];exact hi)
  exact⟨h.1.trans (hc i hi),h.2⟩
 ·rintro ⟨i,hi,hm⟩
  refine b0u (cntF N S) 15 (by omega) (by rw[hl];omega) (by rw[hl];omega) hb ht ?_
  have hm2:nth (cntF N S) i∈(cntF N S).filter (fun x=>decide (0<x)):=by
   refine List.mem_filter.2 ⟨?_,by simpa using (hc i hi).2 hm⟩
   rw[a0o (by rw[hl];exact hi)]
   exact c3F _
  have:0<usedF (cntF N S):=by unfold usedF;exact List.length_pos_of_mem hm2
  omega
def dynLit(ts:List Tok):List Int:=limLens (litC ts) 15
def dynDist(ts:List Tok):List Int:=limLens (distC ts) 15
theorem b5s{t:Tok}(h1:0<=t.1/\t.1<=255)(h2:t.2.1≠0->3<=t.2.1/\t.2.1<=258/\1<=t.2.2/\t.2.2<=32768):∃ s:Nat,litS t=s/\s<286:=by
 unfold litS
 split
 ·exact⟨_,rfl,by omega⟩
 ·next h0=>
  obtain⟨a,b,-⟩:=h2 h0
  obtain⟨-,c,-⟩:=a3B t.2.1.toNat (by omega) (by omega)
  exact⟨_,rfl,by omega⟩
theorem a6R{M:Nat}{ts:List Tok}(hl:LitOk ts)(hex:(expandF M ts []).2=0)(hn:ts.length<=16384) :
  Codable (dynLit ts) (dynDist ts)/\(∀ t∈ts,TokOk (dynLit ts) (dynDist ts) t)/\limF (litC ts) 15=(dynLit ts,0)/\limF (distC ts) 15=(dynDist ts,0)/\(dynLit ts).length=286/\(dynDist ts).length=30:=by
 have hd:=a6P ts
 obtain⟨l1,l2,l3,l4⟩:=c0C 286 ([256]++ts.map litS) (by omega) (by omega) (by simp;omega)
 obtain⟨d1,d2,d3,d4⟩:=c0C 30 (ts.flatMap a3b) (by omega) (by omega) (by omega)
 have hlc:a0e (dynLit ts)=0:=l4 ⟨256,by omega,by simp⟩
 have tl:∀ s:Nat,s<286->(s:Int)∈[256]++ts.map litS->Tells (dynLit ts) s:=fun s hs hm=>by
  obtain⟨a,b,c⟩:=l3 s hs
  have:=a.2 hm
  exact⟨by show s<(limLens _ 15).length;unfold litC;rw[l2];exact hs,this,c⟩
 have td:∀ s:Nat,s<30->(s:Int)∈ts.flatMap a3b->Tells (dynDist ts) s:=fun s hs hm=>by
  obtain⟨a,b,c⟩:=d3 s hs
  have:=a.2 hm
  exact⟨by show s<(limLens _ 15).length;unfold distC;rw[d2];exact hs,this,c⟩
 have mem_b:∀ (l:List Int) (N:Nat),l.length=N->(∀ i,i<N->0<=nth l i/\nth l i<=15)->∀ x∈l,0<=x/\x<=15:=fun l N hN hi x hx=>by
  obtain⟨i,hi2,rfl⟩:=c3z.1 hx
  have:=hi i (by omega)
  rwa [a0o hi2] at this
 refine⟨⟨⟨by show 257<=(limLens _ 15).length;unfold litC;omega,by show (limLens _ 15).length<=286;unfold litC;omega,by show 1<=(limLens _ 15).length;unfold distC;omega,by show (limLens _ 15).length<=30;unfold distC;omega,mem_b _ 286 l2 (fun i hi=>(l3 i hi).2),mem_b _ 30 d2 (fun i hi=>(d3 i hi).2)⟩,hlc,?_,tl 256 (by omega) (by simp)⟩,?_,l1,d1,l2,d2⟩
 ·intro hu
  unfold a0z at hu
  rw[List.any_eq_true] at hu
  obtain⟨x,hx,hx0⟩:=hu
  obtain⟨i,hi,rfl⟩:=c3z.1 hx
  have hi2:i<30:=by have:(dynDist ts).length=30:=d2;omega
  have h0:0<nth (dynDist ts) i:=by rw[a0o hi];simpa using hx0
  exact d4 ⟨i,hi2,(d3 i hi2).1.1 h0⟩
 ·intro t ht
  obtain⟨a,b⟩:=hl t ht
  have hr:=a1r ts [] hex t ht
  obtain⟨s,hs,hs2⟩:=b5s ⟨a,b⟩ hr
  have hm:litS t∈[256]++ts.map litS:=c3L.2 (.inr (List.mem_map.2 ⟨t,ht,rfl⟩))
  refine⟨fun h0=>⟨a,b,?_⟩,fun h0=>?_⟩
  ·have e:litS t=(t.1.toNat:Int):=if_pos h0
   rw[e] at hm
   exact tl _ (by omega) hm
  ·have e:litS t=(lsym t.2.1.toNat:Int):=if_neg h0
   have e2:a3b t=[(dsym t.2.2.toNat:Int)]:=if_neg h0
   obtain⟨c1,c2,c3,c4⟩:=hr h0
   obtain⟨f1,f2,-⟩:=a3B t.2.1.toNat (by omega) (by omega)
   obtain⟨g1,-⟩:=a3U t.2.2.toNat (by omega) (by omega)
   rw[e] at hm
   have hmd:(dsym t.2.2.toNat:Int)∈ts.flatMap a3b:=List.mem_flatMap.2 ⟨t,ht,by rw[e2];simp⟩
   exact⟨tl _ (by omega) hm,td _ (by omega) hmd,d4 ⟨_,by omega,hmd⟩⟩
theorem c0i{lit dist:List Int}{t:Tok}(h:TokOk lit dist t)(hr:t.2.1≠0->3<=t.2.1/\t.2.1<=258/\1<=t.2.2/\t.2.2<=32768):(tokB lit dist t).length<=48:=by
 obtain⟨a,b⟩:=h
 unfold tokB
 split
 ·next h0=>have:=(a2d (a h0).2.2).2;omega
 ·next h0=>
  obtain⟨c1,c2,c3,c4⟩:=hr h0
  obtain⟨b1,b2,b3⟩:=b h0
  have:=(a2d b1).2
  have:=(a2d b2).2
  obtain⟨-,-,-,-,-,f1⟩:=a3B t.2.1.toNat (by omega) (by omega)
  obtain⟨-,-,-,-,g1⟩:=a3U t.2.2.toNat (by omega) (by omega)
  unfold behB
  simp only[c3p,a0k];omega
theorem a5o{lit dist:List Int}:∀ (ts:List Tok),(∀ t∈ts,TokOk lit dist t)->(∀ t∈ts,t.2.1≠0->3<=t.2.1/\t.2.1<=258/\1<=t.2.2/\t.2.2<=32768)->(toksB lit dist ts).length<=48*ts.length
 | [],_,_=>by simp[toksB]
 | t::ts,h,hr=>by
  have ih:=a5o ts (fun u hu=>h u (c3J _ hu)) (fun u hu=>hr u (c3J _ hu))
  have e:toksB lit dist (t::ts)=tokB lit dist t++toksB lit dist ts:=by simp[toksB]
  have:=c0i (h t c3N) (hr t c3N)
  rw[e,c3p,c3q];omega
theorem b5W(lit dist:List Int)(ts:List Tok)(t:Tok):toksB lit dist (ts++[t])=toksB lit dist ts++tokB lit dist t:=by simp[toksB]
theorem WB.out_bit{xs bl:List Int}(h:WB xs bl)(i:Nat)(hi:bl.length<=i):bitAt xs i=0:=by
 unfold bitAt
 have hl:=h.len
 have hb:=h.byte (i/8)
 have hz:nth xs (i/8)<2^(i%8):=by
  by_cases h8:i/8<xs.length
  ·have h1:i/8=bl.length/8:=by omega
   have h2:bl.length%8≠0:=by omega
   have h3:=h.top h2
   rw[h1]
   refine Int.lt_of_lt_of_le h3 ?_
   have:(2:Nat)^(bl.length%8)<=2^(i%8):=Nat.pow_le_pow_right (by omega) (by omega)
   exact_mod_cast this
  ·have:nth xs (i/8)=0:=by simp[nth,List.getD,List.getElem?_eq_none (show xs.length<=i/8 by omega)]
   rw[this];exact a0i _
 rw[Int.ediv_eq_zero_of_lt hb.1 hz];rfl
theorem b8P{x y:Int}(hx:0<=x/\x<=255)(hy:0<=y/\y<=255)(h:∀ i:Nat,i<8->x/2^i%2=y/2^i%2):x=y:=by
 have b0:x%2=y%2:=by simpa using h 0 (by omega)
 have b1:x/2%2=y/2%2:=by simpa using h 1 (by omega)
 have b2:x/4%2=y/4%2:=by simpa using h 2 (by omega)
 have b3:x/8%2=y/8%2:=by simpa using h 3 (by omega)
 have b4:x/16%2=y/16%2:=by simpa using h 4 (by omega)
 have b5:x/32%2=y/32%2:=by simpa using h 5 (by omega)
 have b6:x/64%2=y/64%2:=by simpa using h 6 (by omega)
 have b7:x/128%2=y/128%2:=by simpa using h 7 (by omega)
 omega
theorem WB.uniq{xs ys bl:List Int}(h:WB xs bl)(k:WB ys bl):xs=ys:=by
 refine a5X (by rw[h.len,k.len]) fun j _=>?_
 refine b8P (h.byte j) (k.byte j) fun i hi=>?_
 have hb:bitAt xs (8*j+i)=bitAt ys (8*j+i):=by
  by_cases h1:8*j+i<bl.length
  ·rw[h.bit _ h1,k.bit _ h1]
  ·rw[h.out_bit _ (by omega),k.out_bit _ (by omega)]
 unfold bitAt at hb
 rwa [show (8*j+i)/8=j by omega,show (8*j+i)%8=i by omega] at hb
theorem WB.all_u8{xs bl:List Int}(h:WB xs bl):∀ x∈xs,0<=x/\x<=255:=fun x hx=>by
 obtain⟨i,hi,rfl⟩:=c3z.1 hx
 have:=h.byte i
 rwa [a0o hi] at this
theorem c0L{data:List Int}(hd:∀ x∈data,0<=x/\x<=255)(j:Nat):0<=nth data j/\nth data j<=255:=by
 by_cases h:j<data.length
 ·rw[a0o h];exact hd _ (c3F _)
 ·simp[nth,List.getD,List.getElem?_eq_none (show data.length<=j by omega)]
theorem b1K(data:List Int)(hd:∀ x∈data,0<=x/\x<=255)(hn:data.length<=16384):expandF 16384 (tokensF data) []=(data,0)/\LitOk (tokensF data):=
 ⟨a5n hn hn,a4G (c0L hd) _ _⟩
def lessL(a b:List Int):List Int:=if b.length<a.length then b else a
structure Defl (data xs:List Int):Prop where
 out:∃ f d,WB f (fixB (tokensF data))/\WB d (dynB (dynLit (tokensF data)) (dynDist (tokensF data)) (tokensF data))/\xs=lessL (lessL (storB 1 data) f) d
theorem b4h(a b:List Int):(lessL a b).length<=a.length/\(lessL a b).length<=b.length:=by
 unfold lessL;split<;>omega
theorem Defl.len{data xs:List Int}(h:Defl data xs):xs.length<=data.length+5/\∀ f,WB f (fixB (tokensF data))->xs.length<=f.length:=by
 obtain⟨f,d,hf,hd,rfl⟩:=h.out
 have h1:=b4h (lessL (storB 1 data) f) d
 have h2:=b4h (storB 1 data) f
 rw[a2W] at h2
 exact⟨by omega,fun f' hf'=>by rw[hf'.uniq hf];omega⟩
theorem Defl.final{data xs:List Int}(h:Defl data xs)(hd:∀ x∈data,0<=x/\x<=255)(hn:data.length<=16384):FinalOf xs data:=by
 obtain⟨f,d,hf,hdy,rfl⟩:=h.out
 obtain⟨hx,hl⟩:=b1K data hd hn
 obtain⟨c1,c2,-⟩:=a6R hl (by rw[hx]) (a3Q (by rw[<-show (expandF 16384 (tokensF data) []).2=a1D (tokensF data) 0 from a1x _ _,hx]))
 have a1:FinalOf (storB 1 data) data:=b0J hd (by omega)
 have a2:FinalOf f data:=b2o hf hl hx
 have a3:FinalOf d data:=b6G hdy c1 c2 hx
 have a4:FinalOf (lessL (storB 1 data) f) data:=by
  unfold lessL
  by_cases h:f.length<(storB 1 data).length
  ·rw[if_pos h];exact a2
  ·rw[if_neg h];exact a1
 obtain⟨b,hb⟩:∃ b,b=lessL (storB 1 data) f:=⟨_,rfl⟩
 rw[<-hb] at a4 ⊢
 unfold lessL
 by_cases h:d.length<b.length
 ·rw[if_pos h];exact a3
 ·rw[if_neg h];exact a4
end Go.Proofs.YtghjlpechjggjaaGreatDoor
namespace Go.Proofs.YtghjlpechjggjaaGreatDoor
end Go.Proofs.YtghjlpechjggjaaGreatDoor
namespace Go.Proofs.YtghjlpechjggjaaGreatDoor
open Go.RowKit
theorem b5N{b:Int}{data:List Int}(hb:b=0∨b=1)(hd:∀ x∈data,0<=x/\x<=255)(hn:data.length<=16384):∀ x∈storB b data,0<=x/\x<=255:=by
 intro x hx
 unfold storB at hx
 rcases c3L.1 hx with h|h
 ·simp only[c3M,List.not_mem_nil,or_false] at h
  rcases h with rfl|rfl|rfl|rfl|rfl<;>omega
 ·exact hd x h
theorem Defl.byte{data xs:List Int}(h:Defl data xs)(hd:∀ x∈data,0<=x/\x<=255)(hn:data.length<=16384):∀ x∈xs,0<=x/\x<=255:=by
 obtain⟨f,d,hf,hdy,rfl⟩:=h.out
 have sel:∀ a b:List Int,(∀ x∈a,0<=x/\x<=255)->(∀ x∈b,0<=x/\x<=255)->∀ x∈lessL a b,0<=x/\x<=255:=fun a b h1 h2 x hx=>by
  unfold lessL at hx
  split at hx
  ·exact h2 x hx
  ·exact h1 x hx
 exact sel _ _ (sel _ _ (b5N (.inr rfl) hd hn) hf.all_u8) hdy.all_u8
theorem Defl.infl{data xs:List Int}(h:Defl data xs)(hd:∀ x∈data,0<=x/\x<=255)(hn:data.length<=16384){most:Int}(h0:(data.length:Int)<=most)(h1:most<=16384):a0B xs most=(data,xs.length,0):=(h.final hd hn).infl h0 h1
end Go.Proofs.YtghjlpechjggjaaGreatDoor
namespace Go.Proofs.YtghjlpechjggjaaGreatDoor
open Go.RowKit
structure RunTo (xs:List Int) (i m:Nat):Prop where
 one:1<=m
 le:i+m<=xs.length
 eq:∀ j,j<m->nth xs (i+j)=nth xs i
structure RunOk (xs:List Int) (i m:Nat):Prop extends RunTo xs i m where
 stop:i+m<xs.length->nth xs (i+m)≠nth xs i
theorem RunOk.pack{xs:List Int}{i m:Nat}(h:RunOk xs i m):packF (xs.drop i)=a3K (nth xs i) m++packF (xs.drop (i+m)):=
 b9P xs i m (by have:=h.one;have:=h.le;omega) h.le h.eq h.stop
theorem c2D{w:World}{base n:Nat}{e:TypeId}{v:Value}{xs ys:List (Int×Int)}(h:w.ownsRow base e 2 v n (pcells xs))(he:xs=ys):w.ownsRow base e 2 v ys.length (pcells ys):=by
 subst he
 have:=h.1
 rw[a5d] at this
 obtain rfl:n=xs.length:=by omega
 exact h
def c2h(w:World)(xs:List Int)(e:Ending)(w':World):Prop:=
 (xs.length<=316/\a2g xs=false/\∃ v,e=.returned (.tuple #[v,.int .i64 0])/\w'.ownsRow w.heap.size 163 2 v (packF xs).length (pcells (packF xs))/\Below w.heap.size w w') ∨
 ((316<xs.length∨a2g xs=true)/\e=.returned (.tuple #[.slice none 0 0,.int .i64 1])/\Below w.heap.size w w')
theorem Dr.below{w w':World}(h:Dr w w'):Below w.heap.size w w':=(h.keeps (S:=[])).below
end Go.Proofs.YtghjlpechjggjaaGreatDoor
namespace Go.Proofs.YtghjlpechjggjaaGreatDoor
open Go.RowKit
structure Run0 (xs:List Int) (i m:Nat):Prop where
 le:i+m<=xs.length
 eq:∀ j,j<m->nth xs (i+j)=nth xs i
theorem Run0.step{xs:List Int}{i m:Nat}(h:Run0 xs i m)(hl:i+m<xs.length)(hv:nth xs (i+m)=nth xs i):Run0 xs i (m+1):=
 ⟨by omega,fun j hj=>by
  by_cases e:j=m
  ·subst e;exact hv
  ·exact h.eq j (by omega)⟩
theorem Run0.one{xs:List Int}{i m:Nat}(h:Run0 xs i m)(hi:i<xs.length)(hs:i+m<xs.length->nth xs (i+m)≠nth xs i):1<=m:=by
 rcases Nat.eq_zero_or_pos m with rfl|h1
 ·exact absurd rfl (hs (by omega))
 ·exact h1
theorem a9a{w w1:World}{o:Obj}{u x:Value}{B:Nat}(hc:w.cell? ⟨B,0,none⟩=some x)(hne:∀ k,u.ownBlock=some k->B+1<=k)(hg:(w.alloc o).grownBy w1 u.ownBlock):w1.cell? ⟨B,0,none⟩=some x:=by
 have hB:B<w.heap.size:=c3A _ _ hc
 exact (c3s (w:=w.alloc o) (a:=⟨B,0,none⟩) (hg.block B (by simp;omega) (fun e=>by have:=hne B e.symm;omega))).trans (((Keeps.refl [] w).alloc o).cell (by simp) hc)
theorem a5v{w w1:World}{o:Obj}{u:Value}{B:Nat}(hB:B<w.heap.size)(hf:w.frozen? ⟨B,0,none⟩=false)(hne:∀ k,u.ownBlock=some k->B+1<=k)(hg:(w.alloc o).grownBy w1 u.ownBlock):w1.frozen? ⟨B,0,none⟩=false:=
 (c3v (w:=w.alloc o) (a:=⟨B,0,none⟩) (hg.block B (by simp;omega) (fun e=>by have:=hne B e.symm;omega))).trans ((((Keeps.refl [] w).alloc o).frozen (p:=⟨B,0,none⟩) hB (by simp)).trans hf)
theorem b6u {w0 w w1:World} {o:Obj} {u x:Value} {B:Nat} {e:TypeId} {size n:Nat} {cs:List Value} (hW:Below B w0 w) (hc:w.cell? ⟨B,0,none⟩=some x) (hf:w.frozen? ⟨B,0,none⟩=false) (hne:∀ k,u.ownBlock=some k->B+1<=k) (hg:(w.alloc o).grownBy w1 u.ownBlock)
  {v:Value} (h1:w1.ownsRow (B+1) e size v n cs) :
  (w1.setCell ⟨B,0,none⟩ v).cell? ⟨B,0,none⟩=some v/\(w1.setCell ⟨B,0,none⟩ v).frozen? ⟨B,0,none⟩=false/\(w1.setCell ⟨B,0,none⟩ v).ownsRow (B+1) e size v n cs/\Below B w0 (w1.setCell ⟨B,0,none⟩ v):=by
 have hB:B<w.heap.size:=c3A _ _ hc
 refine⟨World.cell?_setCell_same' _ _ _ (by rw[a9a hc hne hg];rfl),by simpa using a5v hB hf hne hg,ownsRow_setCell_below h1 (Nat.lt_succ_self B) v,?_⟩
 exact (((hW.alloc (Nat.le_of_lt hB) _)).grown hg (by simp;omega) (fun k hk=>Nat.le_of_succ_le (hne k hk))).setCell (p:=⟨B,0,none⟩) (c3w B) v
theorem a8b(w:World)(A:Option Addr)(n c:Nat)(xs:List Int)(ht:Tabs w)(hx:RI .i64 w A n xs)(hn:n<=1048576) :
  Calls Tryz.prog 101 #[.slice A n c] w (c2h w xs):=by
 have HT:=c3o ht
 have HX:=c3o hx
 have HL:=c3o hx.len
 clear hx ht
 by_cases hbig:316<n
 ·have e1:decide (316<n)=true:=by simpa using hbig
  go_enter Tryz.func101,Tryz.ntmps101
  go_wp2_with fail
  go_ret2
  exact Or.inr ⟨Or.inl (by have:=HL.out;omega),rfl,c3C _ _⟩
 ·have e1:decide (316<n)=false:=by simpa using hbig
  go_enter Tryz.func101,Tryz.ntmps101
  go_wp2_with fail
  refine (a1R w _ _ _ xs HX.out (by omega)).mono ?_
  rintro e w' ⟨rfl,hdr⟩
  have HDR:=c3o hdr
  clear hdr
  cases hb:a2g xs with
  | true=>
   have HB:=c3o hb
   clear hb
   go_wp2_with fail
   go_ret2
   exact Or.inr ⟨Or.inr HB.out,rfl,Dr.below HDR.out⟩
  | false=>
   have HB:=c3o hb
   clear hb e1
   have HSZ:Hid (w'.heap.size=w.heap.size):=by obtain⟨q,rfl⟩:=HDR.out;rfl
   go_wp2_with fail
   have HW0:Hid (Below w'.heap.size w' (w'.alloc (.cells #[.slice none 0 0] 159))):=(c3C _ _).alloc (c3w _) _
   have HT0:Hid (Tabs w'):=HT.out.keeps (HDR.out.keeps (S:=[])) (by simp)
   have HX0:Hid (RI .i64 w' A n xs):=HX.out.keeps (HDR.out.keeps (S:=[])) (a0a _)
   have HG:Hid (gtop<=w'.heap.size):=HT0.out.size
   clear HX HT
   go_loopw [6] (fun i wr=>∃ (k:Nat) (out:List (Int×Int)) (u:Value),k<=n/\i=.int .i64 k/\wr.cell? ⟨w'.heap.size,0,none⟩=some u/\wr.frozen? ⟨w'.heap.size,0,none⟩=false/\Hid (wr.ownsRow (w'.heap.size+1) 163 2 u out.length (pcells out))/\Hid (out++packF (xs.drop k)=packF xs)/\out.length<=k/\Hid (Below w'.heap.size w' wr)/\w'.heap.size<wr.heap.size) (fun i _=>n-(intOf i).toNat)
   case atStart=>exact⟨0,[],.slice none 0 0,by omega,rfl,by simp,by simp,c3o (World.ownsRow_nil _ _ _ _),c3o (by simp),by simp,HW0,by simp⟩
   case round=>
    clear HW0
    obtain⟨k,out,u,hk,rfl,hbc,hbf,HO,HP,hol,HW,hsz⟩:=hrel
    by_cases hlt:k<n
    ·obtain⟨b,o,rfl,hc1⟩:=HX0.out.at hlt
     have hc1':=(Keeps.of_below (S:=[]) HW.out).cell (by simp) hc1
     clear hc1
     go_upto_block 2 with (fail)
     go_cut [6,8] (fun v6 v8 wc=>∃ m:Nat,m+k<=n/\1<=m/\v6=.int .i64 ((k:Int)+m)/\v8=.int .i64 m/\Hid (RunOk xs k m)/\Hid (Dr wr wc))
     case first=>
      go_wp2_with fail
      go_loopw [6,8] (fun v6 v8 wi=>∃ m:Nat,m+k<=n/\v6=.int .i64 ((k:Int)+m)/\v8=.int .i64 m/\Hid (Run0 xs k m)/\Hid (Dr wr wi)) (fun _ v8 _=>n-(intOf v8).toNat)
      case atStart=>exact⟨0,by omega,by go_num,rfl,c3o ⟨by have:=HL.out;omega,fun j hj=>by omega⟩,⟨0,rfl⟩⟩
      case round=>
       obtain⟨m,hm,rfl,rfl,HR,HD⟩:=hrel
       obtain⟨q1,rfl⟩:=HD.out
       clear HD
       by_cases h1:k+m<n
       ·obtain⟨b',o',he,hc2⟩:=HX0.out.at h1
        injection he with he;injection he with he1 he2 he3;subst he1;subst he2;clear he3
        have hc2':=(Keeps.of_below (S:=[]) HW.out).cell (by simp) hc2
        clear hc2
        have e2:(0:Int)<=(k:Int)+(m:Int):=by omega
        have e3:((k:Int)+(m:Int)).toNat=k+m:=by omega
        have e4:decide ((k:Int)+(m:Int)<(n:Int))=true:=by simp;omega
        by_cases hv:nth xs (k+m)=nth xs k
        ·have e5:(nth xs (k+m)==nth xs k)=true:=by simpa using hv
         have HV:=c3o hv
         clear hv
         go_wp2_with fail
         clear e2 e3 e4 e5
         go_wp2_with fail
         go_roundw
         case rel=>exact⟨m+1,by omega,by go_num,by go_num,c3o (HR.out.step (by have:=HL.out;omega) HV.out),c3o (by first|exact⟨_,rfl⟩|exact Dr.step ⟨_,rfl⟩ _)⟩
         case measure=>simp[intOf];omega
        ·have e5:(nth xs (k+m)==nth xs k)=false:=by simpa using hv
         have HV:=c3o hv
         clear hv
         go_wp2_with fail
         clear e2 e3 e4 e5
         go_wp2_with fail
         go_meet
         case rel=>exact⟨m,by omega,HR.out.one (by have:=HL.out;omega) (fun _=>HV.out),rfl,rfl,c3o { one:=HR.out.one (by have:=HL.out;omega) (fun _=>HV.out),le:=HR.out.le,eq:=HR.out.eq,stop:=fun _=>HV.out },c3o (by first|exact⟨_,rfl⟩|exact Dr.step ⟨_,rfl⟩ _)⟩
       ·have e4:decide ((k:Int)+(m:Int)<(n:Int))=false:=by simp;omega
        go_wp2_with fail
        clear e4
        go_wp2_with fail
        go_meet
        case rel=>exact⟨m,by omega,by omega,rfl,rfl,c3o { one:=by omega,le:=HR.out.le,eq:=HR.out.eq,stop:=fun h=>absurd h (by have:=HL.out;omega) },c3o (by first|exact⟨_,rfl⟩|exact Dr.step ⟨_,rfl⟩ _)⟩
     case rest=>
      obtain⟨m,hm,hm1,rfl,rfl,HR,HD⟩:=hcut
      have HO1:Hid (wc.ownsRow (w'.heap.size+1) 163 2 u out.length (pcells out)):=by obtain⟨q1,rfl⟩:=HD.out;exact HO.out
      have HW1:Hid (Below w'.heap.size w' wc):=by obtain⟨q1,rfl⟩:=HD.out;exact (HW.out.trans ((Dr.below ⟨q1,rfl⟩).mono HW.out.size))
      have hbc1:wc.cell? ⟨w'.heap.size,0,none⟩=some u:=by obtain⟨q1,rfl⟩:=HD.out;exact hbc
      have hbf1:wc.frozen? ⟨w'.heap.size,0,none⟩=false:=by obtain⟨q1,rfl⟩:=HD.out;exact hbf
      clear HD HO HW hbc hbf hc1'
      have HT1:=c3o (HT0.out.below HW1.out HG.out)
      have hsz1:w'.heap.size<wc.heap.size:=c3A _ _ hbc1
      go_upto_if 43 with (fail)
      go_cut [8] (fun v8 wc=>∃ (r:Nat) (es:List (Int×Int)) (u:Value),r+es.length<=m/\v8=.int .i64 r/\Hid (es++List.replicate r (nth xs k,0)=a3K (nth xs k) m)/\wc.cell? ⟨w'.heap.size,0,none⟩=some u/\wc.frozen? ⟨w'.heap.size,0,none⟩=false/\Hid (wc.ownsRow (w'.heap.size+1) 163 2 u (out.length+es.length) (pcells (out++es)))/\Hid (Below w'.heap.size w' wc))
      case first=>
       by_cases hz:nth xs k=0
       ·have e5:(nth xs k==0)=true:=by simpa using hz
        have HZ:=c3o hz
        clear hz
        go_wp2_with fail
        refine (a4n _ _ m 11 18 138 u out.length out HT1.out HG.out hbc1 hbf1 HO1.out (by omega) rfl (by omega) (by omega) (by omega) (by omega) (by omega)).mono ?_
        rintro e w2 ⟨u2,rfl,hc2,hf2,ho2,hb2⟩
        have hl1:=a1T 11 18 138 m (by omega) (by omega)
        have hl2:=a1T 3 17 10 (left 11 138 m) (by omega) (by omega)
        have HO2:=c3o ho2
        have HB2:=c3o hb2
        clear ho2 hb2 HO1 hbc1 hbf1 e5
        have HT2:=c3o (HT1.out.below HB2.out HG.out)
        go_wp2_with fail
        refine (a4n _ _ (left 11 138 m) 3 17 10 u2 _ _ HT2.out HG.out hc2 hf2 HO2.out (by omega) rfl (by omega) (by omega) (by omega) (by omega) (by omega)).mono ?_
        rintro e w3 ⟨u3,rfl,hc3,hf3,ho3,hb3⟩
        have HO3:=c3o ho3
        have HB3:=c3o hb3
        clear ho3 hb3 HO2 hc2 hf2
        go_wp2_with fail
        go_meet
        case rel=>
         refine⟨_,reps 11 18 138 m++reps 3 17 10 (left 11 138 m),u3,?_,rfl,?_,hc3,hf3,?_,c3o ((HW1.out.trans HB2.out).trans HB3.out)⟩
         ·rw[c3p];omega
         ·rw[HZ.out];exact c3o (by simp[a3K,b1X])
         ·exact c3o (by have:=HO3.out;rw[c3p,<-Nat.add_assoc,<-c3r];exact this)
       ·have e5:(nth xs k==0)=false:=by simpa using hz
        have HZ:=c3o hz
        clear hz
        go_wp2_with (at_builtin;refine b3Q rfl (.tmp 49) (.tmp 52) rfl (w'.heap.size+1) _ _ _ rfl (HO1.out.alloc _) wc.heap.size (nth xs k) 0 rfl (by simp) (by simp) (by omega) (by simp;omega) ?_)
        intro v' w1 h1 hg g' c' hv
        subst hv
        have hcx:=a9a hbc1 (fun k hk=>(HO1.out.lt k hk).1) hg
        have hfx:=a5v hsz1 hbf1 (fun k hk=>(HO1.out.lt k hk).1) hg
        obtain⟨hc2,hf2,ho2,hb2⟩:=b6u HW1.out hbc1 hbf1 (fun k hk=>(HO1.out.lt k hk).1) hg h1
        have HO2:=c3o ho2
        have HB2:=c3o hb2
        have HT2:=c3o (HT0.out.below HB2.out HG.out)
        clear ho2 hb2 HO1 hbc1 hbf1 e5 h1 hg HW1
        have hl2:=a1T 3 16 6 (m-1) (by omega) (by omega)
        have em:(m:Int)-1=((m-1:Nat):Int):=by omega
        go_wp2_with fail
        clear hcx hfx
        refine (a4n _ _ (m-1) 3 16 6 _ _ _ HT2.out HG.out hc2 hf2 HO2.out (by omega) rfl (by omega) (by omega) (by omega) (by omega) (by omega)).mono ?_
        rintro e w3 ⟨u3,rfl,hc3,hf3,ho3,hb3⟩
        have HO3:=c3o ho3
        have HB3:=c3o hb3
        clear ho3 hb3 HO2 hc2 hf2 em
        go_wp2_with fail
        go_meet
        case rel=>
         refine⟨_,(nth xs k,0)::reps 3 16 6 (m-1),u3,?_,rfl,?_,hc3,hf3,?_,c3o (HB2.out.trans HB3.out)⟩
         ·rw[c3q];omega
         ·exact c3o (by simp[a3K,b1O,HZ.out])
         ·exact c3o (by have:=HO3.out;rw[c3q,show out.length+((reps 3 16 6 (m-1)).length+1)=out.length+1+(reps 3 16 6 (m-1)).length by omega];simpa using this)
      case rest=>
       clear HO1 hbc1 hbf1 HW1 HT1 hsz1
       obtain⟨r,es,u1,hre,rfl,HE,hc1,hf1,HO1,HW1⟩:=hcut
       go_wp2_with fail
       go_loopw [59] (fun v59 wr=>∃ (j:Nat) (u:Value),j<=r/\v59=.int .i64 j/\wr.cell? ⟨w'.heap.size,0,none⟩=some u/\wr.frozen? ⟨w'.heap.size,0,none⟩=false/\Hid (wr.ownsRow (w'.heap.size+1) 163 2 u (out.length+es.length+j) (pcells (out++(es++List.replicate j (nth xs k,0)))))/\Hid (Below w'.heap.size w' wr)) (fun v59 _=>r-(intOf v59).toNat)
       case atStart=>exact⟨0,u1,by omega,rfl,hc1,hf1,c3o (by simpa using HO1.out),HW1⟩
       case round=>
        clear HO1 HW1 hc1 hf1
        obtain⟨j,u2,hj,rfl,hc1,hf1,HO1,HW1⟩:=hrel
        have hsz1:w'.heap.size<wr.heap.size:=c3A _ _ hc1
        by_cases hjr:j<r
        ·go_wp2_with (at_builtin;refine b3Q rfl (.tmp 61) (.tmp 64) rfl (w'.heap.size+1) _ _ _ rfl (HO1.out.alloc _) wr.heap.size (nth xs k) 0 rfl (by simp) (by simp) (by omega) (by simp;omega) ?_)
         intro v' w1 h1 hg g' c' hv
         subst hv
         have hcx:=a9a hc1 (fun k hk=>(HO1.out.lt k hk).1) hg
         have hfx:=a5v hsz1 hf1 (fun k hk=>(HO1.out.lt k hk).1) hg
         obtain⟨hc2,hf2,ho2,hb2⟩:=b6u HW1.out hc1 hf1 (fun k hk=>(HO1.out.lt k hk).1) hg h1
         have HO2:=c3o ho2
         have HB2:=c3o hb2
         clear ho2 hb2 HO1 hc1 hf1 h1 hg HW1
         go_wp2_with fail
         go_roundw
         case rel=>exact⟨j+1,_,by omega,by go_num,hc2,hf2,c3o (by rw[List.replicate_succ'];simpa [Nat.add_assoc] using HO2.out),HB2⟩
         case measure=>simp[intOf];omega
        ·obtain rfl:j=r:=by omega
         go_wp2_with fail
         go_roundw
         case rel=>
          have hpk:=HR.out.pack
          have hp:=HP.out
          have hrl:=a8E (nth xs k) m hm1
          rw[hpk,<-c3r] at hp
          have ho:=HO1.out
          rw[HE.out] at ho
          exact⟨k+m,out++a3K (nth xs k) m,u2,by omega,by go_num,hc1,hf1,c3o (c2D ho rfl),c3o hp,by rw[c3p];omega,HW1,hsz1⟩
         case measure=>simp[intOf];omega
    ·go_wp2_with fail
     obtain rfl:k=n:=by omega
     go_ret2
     have e1:xs.drop k=[]:=List.drop_eq_nil_of_le (by have:=HL.out;omega)
     have e2:=HP.out
     rw[e1,a7v,List.append_nil] at e2
     subst e2
     exact Or.inl ⟨by have:=HL.out;omega,HB.out,_,rfl,(HO.out.mono (by have:=HSZ.out;omega)),(Dr.below HDR.out).trans (HSZ.out ▸ HW.out)⟩
end Go.Proofs.YtghjlpechjggjaaGreatDoor
namespace Go.Proofs.YtghjlpechjggjaaGreatDoor
open Go.RowKit
theorem b0z (w:World) (gb:Nat) (A1 A2:Option Addr) (n1 n2 c1 c2:Nat) (xs ys:List Int) (h0:w.cell? ⟨gb,0,none⟩=some (.slice A1 n1 c1)) (h1:w.cell? ⟨gb,1,none⟩=some (.slice A2 n2 c2))
  (hx:RI .i64 w A1 n1 xs) (hy:RI .i64 w A2 n2 ys) (hnx:A1=none->n1=0/\c1=0) (hny:A2=none->n2=0/\c2=0) (hpx:∀ ad,A1=some ad->∃ b o,ad=⟨b,o,none⟩) (hpy:∀ ad,A2=some ad->∃ b o,ad=⟨b,o,none⟩)
  (hn1:n1<=1000000000) (hn2:n2<=1000000000) :
  Calls Tryz.prog 60 #[.slice (some ⟨gb,0,none⟩) 2 2] w fun e w'=>∃ v,e=.returned v/\w'.ownsRow w.heap.size 3 1 v (n1+n2) (ints .i64 (xs++ys))/\Below w.heap.size w w':=by
 have HX:=c3o hx
 have HY:=c3o hy
 have NX:=c3o hnx
 have NY:=c3o hny
 have PX:=c3o hpx
 have PY:=c3o hpy
 have H0:=c3o h0
 have H1:=c3o h1
 have e1:decide ((n1:Int)<0)=false:=by simp
 have e2:decide ((n1:Int)+n2<0)=false:=by simp;omega
 clear hx hy hnx hny hpx hpy
 go_enter Tryz.func60,Tryz.ntmps60
 go_wp2_with fail
 refine wp_loop_rounds 3 ?_
 rw[c3Q]
 go_wp2_with fail
 rw[c3Q]
 go_wp2_with fail
 rw[c3Q]
 go_wp2_with fail
 rw[show ((n1:Int)+n2)=((n1+n2:Nat):Int) by omega]
 refine (a8r _ (n1+n2) (by omega)).mono ?_
 rintro _ w1 ⟨v,rfl,ho,hb⟩
 have HO:=c3o (ho w.heap.size (c3w _))
 have HB:=c3o hb
 have hz:=hb.size
 have h0:=(Keeps.of_below (S:=[]) hb).cell (by simp) H0.out
 have h1:=(Keeps.of_below (S:=[]) hb).cell (by simp) H1.out
 clear ho hb e1 e2
 go_wp2_with fail
 refine wp_loop_rounds 3 ?_
 rw[c3Q]
 go_wp2_with (at_builtin;refine a0Y rfl (.tmp 31) (.tmp 32) rfl w.heap.size _ _ [] rfl HO.out A1 n1 c1 xs rfl (HX.out.keeps (Keeps.of_below (S:=[]) HB.out) (a0a _)) NX.out PX.out (by omega) hz ?_)
 intro v2 w2 ho hg
 have HO2:=c3o ho
 have hb2:=HB.out.grown hg (c3S (c3w _) hz) (fun k hk=>a0j HO.out k hk)
 have HB2:=c3o hb2
 have hz2:=hb2.size
 have h0:=(Keeps.of_below (S:=[]) hb2).cell (by simp) H0.out
 have h1:=(Keeps.of_below (S:=[]) hb2).cell (by simp) H1.out
 clear ho hg hb2
 go_wp2_with fail
 rw[c3Q]
 go_wp2_with (at_builtin;refine a0Y rfl (.tmp 31) (.tmp 32) rfl w.heap.size _ _ _ rfl HO2.out A2 n2 c2 ys rfl (HY.out.keeps (Keeps.of_below (S:=[]) HB2.out) (a0a _)) NY.out PY.out (by omega) hz2 ?_)
 intro v3 w3 ho hg
 have HO3:=c3o ho
 have hb3:=HB2.out.grown hg hz2 (fun k hk=>a0j HO2.out k hk)
 have HB3:=c3o hb3
 clear ho hg hb3 h0 h1
 go_wp2_with fail
 rw[c3Q]
 go_wp2_with fail
 go_ret
 exact⟨_,rfl,HO3.out,HB3.out⟩
theorem a6L (w0 w:World) (gb:Nat) (A1 A2:Option Addr) (n1 n2 c1 c2:Nat) (xs ys:List Int) (hk:Keeps [] w0 w) (h0:w.cell? ⟨gb,0,none⟩=some (.slice A1 n1 c1)) (h1:w.cell? ⟨gb,1,none⟩=some (.slice A2 n2 c2))
  (hx:RI .i64 w0 A1 n1 xs) (hy:RI .i64 w0 A2 n2 ys) (hnx:A1=none->n1=0/\c1=0) (hny:A2=none->n2=0/\c2=0) (hpx:∀ ad,A1=some ad->∃ b o,ad=⟨b,o,none⟩) (hpy:∀ ad,A2=some ad->∃ b o,ad=⟨b,o,none⟩)
  (hn1:n1<=1000000000) (hn2:n2<=1000000000) :
  Calls Tryz.prog 60 #[.slice (some ⟨gb,0,none⟩) 2 2] w fun e w'=>∃ A c,e=.returned (.slice A (n1+n2) c)/\w'.ownsRow w0.heap.size 3 1 (.slice A (n1+n2) c) (n1+n2) (ints .i64 (xs++ys))/\Keeps [] w0 w':=by
 refine (b0z w gb A1 A2 n1 n2 c1 c2 xs ys h0 h1 (hx.keeps hk (a0a _)) (hy.keeps hk (a0a _)) hnx hny hpx hpy hn1 hn2).mono ?_
 rintro e w' ⟨v,rfl,ho,hb⟩
 have ho2:=ho.mono hk.size
 have hf:∃ A c,v=.slice A (n1+n2) c:=by
  rcases ho.2 with⟨rfl,h0⟩|⟨g,cap,cur,rfl,_⟩
  ·exact⟨none,0,by rw[h0]⟩
  ·exact⟨_,_,rfl⟩
 obtain⟨A,c,rfl⟩:=hf
 exact⟨A,c,rfl,ho2,hk.trans (Keeps.of_below hb)⟩
end Go.Proofs.YtghjlpechjggjaaGreatDoor
namespace Go.Proofs.YtghjlpechjggjaaGreatDoor
open Go.RowKit
structure Pk where
 w:Int
 a:Option Addr
 n:Nat
 c:Nat
instance:Inhabited Pk:=⟨⟨0,none,0,0⟩⟩
def kcells:List Pk->List Value
 | []=>[]
 | p::r=>.int .i64 p.w::.slice p.a p.n p.c::kcells r
theorem a4M(xs ys:List Pk):kcells (xs++ys)=kcells xs++kcells ys:=by
 induction xs with
 | nil=>rfl
 | cons p r ih=>simp[kcells,ih]
theorem a2q(xs:List Pk):(kcells xs).length=xs.length*2:=by
 induction xs with
 | nil=>rfl
 | cons p r ih=>simp[kcells,ih];omega
theorem a5y(xs:List Pk):∀ v∈kcells xs,v.oneCell'=true:=by
 induction xs with
 | nil=>simp[kcells]
 | cons p r ih=>
  intro v hv
  simp only[kcells,c3M] at hv
  rcases hv with rfl|rfl|h
  ·rfl
  ·rfl
  ·exact ih v h
def kth(xs:List Pk)(j:Nat):Pk:=xs.getD j default
theorem a4N{xs:List Pk}{j:Nat}(h:j<xs.length):kth xs j=xs[j]:=by simp[kth,List.getD,h]
theorem a8u(xs:List Pk)(R:List Value):∀ j,j<xs.length->(kcells xs++R)[j*2]? =some (.int .i64 (kth xs j).w)/\(kcells xs++R)[j*2+1]? =some (.slice (kth xs j).a (kth xs j).n (kth xs j).c):=by
 induction xs with
 | nil=>intro j hj;simp at hj
 | cons p r ih=>
  intro j hj
  match j with
  | 0=>exact⟨rfl,rfl⟩
  | j+1=>
   have:=ih j (by simpa using hj)
   rw[show (j+1)*2=j*2+1+1 by omega]
   exact this
theorem b5j(xs:List Pk)(R:List Value)(p:Pk):∀ j,j<xs.length->((kcells xs++R).set (j*2) (.int .i64 p.w)).set (j*2+1) (.slice p.a p.n p.c)=kcells (xs.set j p)++R:=by
 induction xs with
 | nil=>intro j hj;simp at hj
 | cons q r ih=>
  intro j hj
  match j with
  | 0=>rfl
  | j+1=>
   have:=ih j (by simpa using hj)
   rw[show (j+1)*2=j*2+1+1 by omega]
   simp only[kcells,c3t,List.set_cons_succ,this]
def PB(w:World)(g:Nat)(L:List Pk)(R:List Value):Prop:=Blk w g 154 (kcells L++R)
theorem PB.keeps{S:List Nat}{w w':World}{g:Nat}{L:List Pk}{R:List Value}(h:PB w g L R)(hk:Keeps S w w')(hn:g∉S):PB w' g L R:=Blk.keeps h hk hn
theorem PB.cell{w:World}{g:Nat}{L:List Pk}{R:List Value}(h:PB w g L R){j:Nat}(hj:j<L.length) :
  w.cell? ⟨g,j*2,none⟩=some (.int .i64 (kth L j).w)/\w.cell? ⟨g,j*2+1,none⟩=some (.slice (kth L j).a (kth L j).n (kth L j).c):=by
 have:=a8u L R j hj
 exact⟨(Blk.cell h _).trans this.1,(Blk.cell h _).trans this.2⟩
theorem PB.free{w:World}{g:Nat}{L:List Pk}{R:List Value}(h:PB w g L R)(j:Nat):w.frozen? ⟨g,j,none⟩=false:=Blk.frozen h j
theorem PB.set{w:World}{g:Nat}{L:List Pk}{R:List Value}(h:PB w g L R){j:Nat}(hj:j<L.length)(p:Pk) :
  PB ((w.setCell ⟨g,j*2,none⟩ (.int .i64 p.w)).setCell ⟨g,j*2+1,none⟩ (.slice p.a p.n p.c)) g (L.set j p) R:=by
 have h1:=Blk.set h (j*2) (.int .i64 p.w)
 have h2:=Blk.set h1 (j*2+1) (.slice p.a p.n p.c)
 rw[b5j L R p j hj] at h2
 exact h2
theorem PB.dr{w w':World}{g:Nat}{L:List Pk}{R:List Value}(h:PB w g L R)(hd:Dr w w'):PB w' g L R:=h.keeps (hd.keeps (S:=[])) (by simp)
theorem Keeps.put{w w':World}{g j:Nat}(h:Keeps [g] w w')(u:Value):Keeps [g] w (w'.setCell ⟨g,j,none⟩ u):=h.setCell (Or.inl (by simp)) u
theorem a2r(w:World)(x y:Int)(xa ya:Option Addr)(xn xc yn yc:Nat)(hx0:0<=x)(hx:x<=100000000000000000)(hy0:0<=y)(hy:y<=100000000000000000) :
  Calls Tryz.prog 97 #[.agg #[.int .i64 x,.slice xa xn xc],.agg #[.int .i64 y,.slice ya yn yc]] w fun e w'=>e=.returned (.int .i64 (x-y))/\Keeps [] w w':=by
 go_enter Tryz.func97,Tryz.ntmps97
 go_wp2
 go_ret
 exact⟨rfl,by repeat (first|exact Keeps.refl _ _|apply Keeps.drewN|apply Keeps.drew|apply Keeps.alloc)⟩
end Go.Proofs.YtghjlpechjggjaaGreatDoor
namespace Go.Proofs.YtghjlpechjggjaaGreatDoor
open Go.RowKit
def swp(L:List Pk)(i j:Nat):List Pk:=(L.set i (kth L j)).set j (kth L i)
theorem b5R(L:List Pk)(i j:Nat):(swp L i j).length=L.length:=by simp[swp]
def swpN(L:List Pk)(a b:Nat):Nat->List Pk
 | 0=>L
 | n+1=>swp (swpN L a b n) (a+n) (b+n)
theorem a3j(L:List Pk)(a b n:Nat):(swpN L a b n).length=L.length:=by
 induction n with
 | zero=>rfl
 | succ n ih=>rw[swpN,b5R,ih]
theorem a9V(L:List Pk)(i j:Nat)(hi:i<L.length)(hj:j<L.length)(w:World)(g:Nat)(R:List Value)(h:PB w g L R)(hij:i≠j) :
  PB ((((w.setCell ⟨g,i*2,none⟩ (.int .i64 (kth L j).w)).setCell ⟨g,i*2+1,none⟩ (.slice (kth L j).a (kth L j).n (kth L j).c)).setCell ⟨g,j*2,none⟩ (.int .i64 (kth L i).w)).setCell ⟨g,j*2+1,none⟩ (.slice (kth L i).a (kth L i).n (kth L i).c)) g (swp L i j) R:=
 (h.set hi (kth L j)).set (by simpa using hj) (kth L i)
theorem a7Q(w:World)(g:Nat)(L:List Pk)(R:List Value)(m c a b n:Nat)(fv:Value)(h:PB w g L R)(hm:m=L.length)(hab:a+n<=b)(hb:b+n<=m)(hsz:m<=1000000) :
  Calls Tryz.prog 175 #[.slice (some ⟨g,0,none⟩) m c,.int .i64 a,.int .i64 b,.int .i64 n,fv] w fun e w'=>e=.returned (.tuple #[])/\PB w' g (swpN L a b n) R/\Keeps [g] w w':=by
 have H:=c3o h
 have HM:=c3o hm
 clear h hm
 go_enter Tryz.func175,Tryz.ntmps175
 go_wp2_with fail
 go_loopw [10] (fun i wr=>∃ k:Nat,k<=n/\i=.int .i64 k/\Hid (PB wr g (swpN L a b k) R)/\Hid (Keeps [g] w wr)) (fun i _=>n-(intOf i).toNat)
 case atStart=>exact⟨0,by omega,rfl,H,c3o (Keeps.refl _ _)⟩
 case round=>
  obtain⟨k,hk,rfl,HB,HK⟩:=hrel
  by_cases hlt:k<n
  ·have hl:=a3j L a b k
   have HL:=c3o hl
   have HS:Hid (swpN L a b (k+1)=swp (swpN L a b k) (a+k) (b+k)):=rfl
   clear hl
   generalize swpN L a b k=M at *
   obtain⟨p1,p2⟩:=HB.out.cell (j:=a+k) (by have:=HL.out;have:=HM.out;omega)
   obtain⟨q1,q2⟩:=HB.out.cell (j:=b+k) (by have:=HL.out;have:=HM.out;omega)
   have f1:=HB.out.free ((a+k)*2)
   have f2:=HB.out.free ((a+k)*2+1)
   have f3:=HB.out.free ((b+k)*2)
   have f4:=HB.out.free ((b+k)*2+1)
   have s1:((a:Int)+k).toNat=a+k:=by omega
   have s2:((b:Int)+k).toNat=b+k:=by omega
   have s3:(0:Int)<=(a:Int)+k:=by omega
   have s4:(0:Int)<=(b:Int)+k:=by omega
   have s5:(a:Int)+k<(m:Int):=by omega
   have s6:(b:Int)+k<(m:Int):=by omega
   go_wp2_with fail
   go_region
   go_wp2_with fail
   go_roundw
   case rel=>
    refine⟨k+1,by omega,by go_num,c3o ?_,c3o ?_⟩
    ·rw[HS.out]
     exact (a9V M (a+k) (b+k) (by have:=HL.out;have:=HM.out;omega) (by have:=HL.out;have:=HM.out;omega) _ g R HB.out (by omega)).dr (Dr.refl _).drew
    ·exact ((((HK.out.put _).put _).put _).put _).drew
   case measure=>simp[intOf];omega
  ·obtain rfl:k=n:=by omega
   go_wp2_with fail
   go_end0
   exact⟨rfl,HB.out,HK.out⟩
end Go.Proofs.YtghjlpechjggjaaGreatDoor
namespace Go.Proofs.YtghjlpechjggjaaGreatDoor
theorem kext{xs ys:List Pk}(hl:xs.length=ys.length)(h:∀ j,j<xs.length->kth xs j=kth ys j):xs=ys:=by
 refine List.ext_getElem hl fun j h1 h2=>?_
 have:=h j h1
 rwa [a4N h1,a4N h2] at this
theorem a0l(xs ys:List Pk)(j:Nat):kth (xs++ys) j=if j<xs.length then kth xs j else kth ys (j-xs.length):=by
 simp only[kth,c3I,List.getElem?_append]
 split<;>rfl
theorem b6Q(xs:List Pk)(i j:Nat)(p:Pk)(hi:i<xs.length):kth (xs.set i p) j=if j=i then p else kth xs j:=by
 simp only[kth,c3I,List.getElem?_set]
 by_cases h:i=j
 ·subst h;simp[hi]
 ·rw[if_neg h,if_neg (fun e=>h e.symm)]
theorem c1u(L:List Pk)(i j k:Nat)(hi:i<L.length)(hj:j<L.length):kth (swp L i j) k=if k=j then kth L i else if k=i then kth L j else kth L k:=by
 rw[swp,b6Q _ _ _ _ (by simpa using hj),b6Q _ _ _ _ hi]
theorem b9t(L:List Pk)(a b:Nat)(n:Nat)(hab:a+n<=b)(hb:b+n<=L.length)(k:Nat) :
  kth (swpN L a b n) k=if a<=k/\k<a+n then kth L (k-a+b) else if b<=k/\k<b+n then kth L (k-b+a) else kth L k:=by
 induction n generalizing k with
 | zero=>rw[if_neg (by omega),if_neg (by omega)];rfl
 | succ n ih=>
  have h1:=ih (by omega) (by omega)
  have ha:kth (swpN L a b n) (a+n)=kth L (a+n):=by rw[h1,if_neg (by omega),if_neg (by omega)]
  have hb':kth (swpN L a b n) (b+n)=kth L (b+n):=by rw[h1,if_neg (by omega),if_neg (by omega)]
  rw[swpN,c1u _ _ _ _ (by rw[a3j];omega) (by rw[a3j];omega),ha,hb',h1 k]
  repeat' split
  all_goals first|(exfalso;omega)|rfl|(congr 1;omega)
theorem b5Q(x u z v y:List Pk)(h:u.length=v.length):swpN (x++(u++(z++(v++y)))) x.length (x.length+u.length+z.length) u.length=x++(v++(z++(u++y))):=by
 have hb:x.length+u.length+z.length+u.length<=(x++(u++(z++(v++y)))).length:=by simp only[c3p];omega
 refine kext (by rw[a3j];simp only[c3p];omega) fun j hj=>?_
 rw[b9t _ _ _ _ (by omega) hb]
 simp only[a0l]
 by_cases c1:j<x.length
 ·rw[if_neg (by omega),if_neg (by omega),if_pos c1,if_pos c1]
 ·by_cases c2:j<x.length+u.length
  ·rw[if_pos (by omega),if_neg (by omega),if_neg (by omega),if_neg (by omega),if_pos (by omega),if_neg c1,if_pos (by omega)]
   congr 1;omega
  ·by_cases c3:j<x.length+u.length+z.length
   ·rw[if_neg (by omega),if_neg (by omega),if_neg c1,if_neg (by omega),if_pos (by omega),if_neg c1,if_neg (by omega),if_pos (by omega)]
    congr 1;omega
   ·by_cases c4:j<x.length+u.length+z.length+u.length
    ·rw[if_neg (by omega),if_pos (by omega),if_neg (by omega),if_pos (by omega),if_neg c1,if_neg (by omega),if_neg (by omega),if_pos (by omega)]
     congr 1;omega
    ·rw[if_neg (by omega),if_neg (by omega),if_neg c1,if_neg (by omega),if_neg (by omega),if_neg (by omega),if_neg c1,if_neg (by omega),if_neg (by omega),if_neg (by omega)]
     congr 1;omega
end Go.Proofs.YtghjlpechjggjaaGreatDoor
namespace Go.Proofs.YtghjlpechjggjaaGreatDoor
def srt(l:List Pk):Prop:=l.Pairwise (fun p q=>p.w<=q.w)
def ofW(v:Int)(l:List Pk):List Pk:=l.filter (fun p=>decide (p.w=v))
def same(r l:List Pk):Prop:=r.Perm l/\∀ v,ofW v r=ofW v l
theorem same.refl(l:List Pk):same l l:=⟨List.Perm.refl _,fun _=>rfl⟩
theorem same.trans{a b c:List Pk}(h:same a b)(k:same b c):same a c:=⟨h.1.trans k.1,fun v=>(h.2 v).trans (k.2 v)⟩
theorem a9C(v:Int)(a b:List Pk):ofW v (a++b)=ofW v a++ofW v b:=List.filter_append ..
theorem same.app{a b c d:List Pk}(h:same a b)(k:same c d):same (a++c) (b++d):=⟨h.1.append k.1,fun v=>by rw[a9C,a9C,h.2,k.2]⟩
theorem same.len{a b:List Pk}(h:same a b):a.length=b.length:=h.1.length_eq
theorem a8y{v:Int}{l:List Pk}(h:∀ p∈l,p.w≠v):ofW v l=[]:=by
 unfold ofW
 rw[List.filter_eq_nil_iff]
 intro p hp
 simpa using h p hp
theorem a7J(u v:List Pk)(h:∀ p∈u,∀ q∈v,p.w≠q.w):same (v++u) (u++v):=by
 refine⟨List.perm_append_comm,fun x=>?_⟩
 rw[a9C,a9C]
 by_cases hx:∃ p∈u,p.w=x
 ·obtain⟨p,hp,rfl⟩:=hx
  rw[a8y (l:=v) (fun q hq=>fun e=>h p hp q hq e.symm)];simp
 ·rw[a8y (l:=u) (fun p hp e=>hx ⟨p,hp,e⟩)];simp
def SS(r l:List Pk):Prop:=srt r/\same r l
theorem b3u{a b:List Pk}(ha:srt a)(hb:srt b)(h:∀ p∈a,∀ q∈b,p.w<=q.w):srt (a++b):=List.pairwise_append.2 ⟨ha,hb,fun p hp q hq=>h p hp q hq⟩
theorem a1A{a b:List Pk}(h:srt (a++b)):srt a:=(List.pairwise_append.1 h).1
theorem a1j{a b:List Pk}(h:srt (a++b)):srt b:=(List.pairwise_append.1 h).2.1
theorem b1r{a b:List Pk}(h:srt (a++b)):∀ p∈a,∀ q∈b,p.w<=q.w:=fun p hp q hq=>(List.pairwise_append.1 h).2.2 p hp q hq
theorem b7Z:srt []:=List.Pairwise.nil
theorem c1L(p:Pk):srt [p]:=List.pairwise_singleton _ _
theorem SS.len{r l:List Pk}(h:SS r l):r.length=l.length:=h.2.len
theorem SS.mem{r l:List Pk}(h:SS r l){p:Pk}:p∈r↔p∈l:=h.2.1.mem_iff
theorem SS.of_same{r l l':List Pk}(h:SS r l)(k:same l l'):SS r l':=⟨h.1,h.2.trans k⟩
theorem a7M{t1 t2 l:List Pk}{e:Pk}(h:SS (t1++t2) l)(h1:∀ p∈t1,p.w<=e.w)(h2:∀ p∈t2,e.w<p.w):SS (t1++e::t2) (l++[e]):=by
 refine⟨b3u (a1A h.1) ?_ ?_,?_⟩
 ·exact List.pairwise_cons.2 ⟨fun p hp=>Int.le_of_lt (h2 p hp),a1j h.1⟩
 ·intro p hp q hq
  rcases c3M.1 hq with rfl|hq
  ·exact h1 p hp
  ·exact b1r h.1 p hp q hq
 ·refine same.trans ?_ (h.2.app (same.refl [e]))
  rw[c3r]
  refine (same.refl t1).app ?_
  exact a7J t2 [e] (fun p hp q hq=>by rw[c3R.1 hq];have:=h2 p hp;omega)
theorem c1N(A B:List Pk)(p q:Pk):swp (A++p::q::B) A.length (A.length+1)=A++q::p::B:=by
 have h1:kth (A++p::q::B) A.length=p:=by rw[a0l,if_neg (by omega),c3E];rfl
 have h2:kth (A++p::q::B) (A.length+1)=q:=by rw[a0l,if_neg (by omega),show A.length+1-A.length=1 by omega];rfl
 rw[swp,h1,h2,c3H _ _ (by omega),c3E,c3H _ _ (by omega),show A.length+1-A.length=1 by omega]
 rfl
theorem b4E(A B:List Pk)(p q:Pk):swp (A++p::q::B) (A.length+1) A.length=A++q::p::B:=by
 have h1:kth (A++p::q::B) A.length=p:=by rw[a0l,if_neg (by omega),c3E];rfl
 have h2:kth (A++p::q::B) (A.length+1)=q:=by rw[a0l,if_neg (by omega),show A.length+1-A.length=1 by omega];rfl
 rw[swp,h1,h2,c3H _ _ (by omega),show A.length+1-A.length=1 by omega,c3H _ _ (by omega),c3E]
 rfl
end Go.Proofs.YtghjlpechjggjaaGreatDoor
namespace Go.Proofs.YtghjlpechjggjaaGreatDoor
open Go.RowKit
theorem a7b:(Tryz.prog.info? 154).map (fun i=>(i.zero,i.size,i.bytes))=some (some (.agg #[.int .i64 0,.slice none 0 0]),2,32):=by kernel_rfl
theorem b8L {ops:Array Oper} {rest:List Oper} {o:Oper} {a:Act} {Q:Exit->Act->World->Prop} {w:World} (hgd:o.guard=none) (s x:Operand)
  (ho:o.op=.call { callee:=.builtin .append,args:=#[s,x],argTypes:=#[152,152] })
  (base:Nat) (v:Value) (n:Nat) (L:List Pk) (hs:a.eval s=v) (hown:w.ownsRow base 154 2 v n (kcells L))
  (b:Nat) (p:Pk) (hx:a.eval x=.slice (some ⟨b,0,none⟩) 1 1) (h0:w.cell? ⟨b,0,none⟩=some (.int .i64 p.w)) (h1:w.cell? ⟨b,1,none⟩=some (.slice p.a p.n p.c))
  (hn:n<=1000000000) (hbase:base<=w.heap.size)
  (h:∀ v' w',w'.ownsRow base 154 2 v' (n+1) (kcells (L++[p]))->w.grownBy w' v.ownBlock->wpList Tryz.prog ops Q rest (a.put o.dst v') w'):wpList Tryz.prog ops Q (o::rest) a w:=by
 obtain⟨i0,hi,hz0,hz1,hz2⟩:=c3U a7b
 refine wpList_append_own _ hgd s x 152 ho base 154 i0 (.agg #[.int .i64 0,.slice none 0 0]) 2 32 Tryz.underlying152 hi hz0 hz1 hz2 rfl (by decide) v n (kcells L) hs hown ⟨b,0,none⟩ 1 1 (kcells [p]) hx rfl ?_ (a5y _) (by unfold maxLen;omega) (by omega) hbase ?_
 ·intro j u hu
  match j,hu with
  | 0,hu=>simp[kcells] at hu;subst hu;rw[a0R];exact h0
  | 1,hu=>simp[kcells] at hu;subst hu;rw[a0R];exact h1
  | j+2,hu=>simp[kcells] at hu
 ·intro v' w' h2 h3 _
  rw[a4M] at h
  exact h v' w' h2 h3
theorem b8b {ops:Array Oper} {o:Oper} {a:Act} {K:Act->World->Prop} {Q:Exit->Act->World->Prop} {E:Prop} {w:World} (hgd:o.guard=none) (s x:Operand)
  (ho:o.op=.call { callee:=.builtin .append,args:=#[s,x],argTypes:=#[152,152] })
  (base:Nat) (v:Value) (n:Nat) (L:List Pk) (hs:a.eval s=v) (hown:w.ownsRow base 154 2 v n (kcells L))
  (b:Nat) (p:Pk) (hx:a.eval x=.slice (some ⟨b,0,none⟩) 1 1) (h0:w.cell? ⟨b,0,none⟩=some (.int .i64 p.w)) (h1:w.cell? ⟨b,1,none⟩=some (.slice p.a p.n p.c))
  (hn:n<=1000000000) (hbase:base<=w.heap.size)
  (h:∀ g' c' w',w'.ownsRow base 154 2 (.slice (some ⟨g',0,none⟩) (n+1) c') (n+1) (kcells (L++[p]))->w.grownBy w' v.ownBlock->K (a.put o.dst (.slice (some ⟨g',0,none⟩) (n+1) c')) w') :
  if Region.wanted o (yielded ops a.tmps)=true then Oper.wp Tryz.prog o a w K Q else E:=by
 obtain⟨i0,hi,hz0,hz1,hz2⟩:=c3U a7b
 refine step_append_lies _ hgd s x 152 ho base 154 i0 (.agg #[.int .i64 0,.slice none 0 0]) 2 32 Tryz.underlying152 hi hz0 hz1 hz2 rfl (by decide) v n (kcells L) hs hown ⟨b,0,none⟩ 1 1 (kcells [p]) hx rfl ?_ (a5y _) (by omega) (by unfold maxLen;omega) (by omega) hbase _ rfl ?_
 ·intro j u hu
  match j,hu with
  | 0,hu=>simp[kcells] at hu;subst hu;rw[a0R];exact h0
  | 1,hu=>simp[kcells] at hu;subst hu;rw[a0R];exact h1
  | j+2,hu=>simp[kcells] at hu
 ·intro g' cap w' h2 h3 _ _
  rw[a4M] at h
  exact h g' cap w' h2 h3
theorem a7t{w:World}{base:Nat}{e:TypeId}{size n:Nat}{v:Value}{xs:List Value}(h:w.ownsRow base e size v n xs)(hp:0<n)(hsz:0<size) :
  ∃ g c,v=.slice (some ⟨g,0,none⟩) n c/\g<w.heap.size/\base<=g/\∀ j u,xs[j]? =some u->w.cell? ⟨g,j,none⟩=some u:=by
 rcases h.2 with⟨rfl,h2⟩|⟨g,cap,cur,rfl,hb,hh,hc,hm,hs,ht⟩
 ·omega
 ·refine⟨g,cap,rfl,(Array.getElem?_eq_some_iff.1 hh).1,hb,fun j u hu=>?_⟩
  have hj:=(List.getElem?_eq_some_iff.1 hu).1
  have hl:=h.1
  have e1:cur.toList[j]? =xs[j]? :=by rw[<-ht,List.getElem?_take,if_pos (by omega)]
  unfold World.cell?
  simp only[hh]
  rw[<-Array.getElem?_toList,e1,hu];rfl
theorem c2F{w:World}{base n:Nat}{v:Value}{L:List Pk}(h:w.ownsRow base 154 2 v n (kcells L))(hp:0<n) :
  ∃ g c R,v=.slice (some ⟨g,0,none⟩) n c/\L.length=n/\base<=g/\PB w g L R/\∀ w' L',PB w' g L' R->L'.length=L.length->w'.ownsRow base 154 2 v n (kcells L'):=by
 have hl:=h.1
 rw[a2q] at hl
 rcases h.2 with⟨rfl,h2⟩|⟨g,cap,cur,rfl,hb,hh,hc,hm,hs,ht⟩
 ·omega
 ·refine⟨g,cap,cur.toList.drop (n*2),rfl,by omega,hb,?_,fun w' L' h' hl'=>?_⟩
  ·show w.heap[g]? =some (.cells (kcells L++cur.toList.drop (n*2)).toArray _ (0,0))
   rw[<-ht,c3B,Array.toArray_toList];exact hh
  ·refine⟨by rw[a2q,hl'];omega,.inr ⟨g,cap,_,rfl,hb,h',hc,hm,?_,?_⟩⟩
   ·have e1:L'.length=n:=by omega
    simp only[List.size_toArray,c3p,a2q,List.length_drop,Array.length_toList];omega
   ·rw[List.toList_toArray,List.take_left' (by rw[a2q];omega)]
theorem b2i(w:World)(base:Nat)(v:Value)(n:Nat)(L:List Pk)(ho:w.ownsRow base 154 2 v n (kcells L))(hp:0<n)(hn:n<=1000000000) :
  Calls Tryz.prog 99 #[v] w fun e w'=>∃ v',e=.returned v'/\w'.ownsRow w.heap.size 154 2 v' n (kcells L)/\Below w.heap.size w w':=by
 obtain⟨g,c,rfl,hg,hbg,hcells⟩:=a7t ho hp (by decide)
 have hl:(kcells L).length=n*2:=ho.1
 have HC:=c3o hcells
 have HL:=c3o hl
 clear ho hcells hl
 obtain⟨i0,hi,hz0,hz1,hz2⟩:=c3U a7b
 have HI:=c3o hi
 have HZ0:=c3o hz0
 have HZ1:=c3o hz1
 have HZ2:=c3o hz2
 clear hi hz0 hz1 hz2
 have o0:Hid (∀ w':World,w'.heap[w.heap.size]? =some (.cells #[] 154 (0,0))->w'.ownsRow w.heap.size 154 2 (.slice (some ⟨w.heap.size,0,none⟩) 0 0) 0 []):=fun w' h=>⟨rfl,.inr ⟨_,0,#[],rfl,c3w _,h,c3w _,by unfold maxLen;omega,rfl,rfl⟩⟩
 have hq:=fun w=>Lib.run_eql_slice_nil (P:=Tryz.prog) w 152 154 (some ⟨g,0,none⟩) n c 0 0 Tryz.underlying152
 go_enter Tryz.func99,Tryz.ntmps99
 go_wp2_with (at_builtin;refine wpList_append_own _ rfl (.tmp 5) (.tmp 6) 152 rfl w.heap.size 154 i0 (.agg #[.int .i64 0,.slice none 0 0]) 2 32 Tryz.underlying152 HI.out HZ0.out HZ1.out HZ2.out rfl (by decide) _ 0 [] rfl (o0.out _ ?c1) ⟨g,0,none⟩ n c (kcells L) rfl HL.out ?c2 (a5y _) (by unfold maxLen;omega) (by omega) (by simp) ?_)
 case c1=>exact a0d w _ []
 case c2=>
  intro j u hu
  rw[a0R]
  exact ((Keeps.refl [] w).alloc _).cell (by simp) (HC.out j u hu)
 intro v' w' h2 h3 _
 have H2:=c3o h2
 have H3:=c3o h3
 clear h2 h3
 go_wp2_with fail
 go_ret
 refine⟨_,rfl,H2.out,?_⟩
 exact ((c3C _ _).alloc (c3w _) _).grown H3.out (by simp) (fun k hk=>by simp[Value.ownBlock] at hk;omega)
end Go.Proofs.YtghjlpechjggjaaGreatDoor
namespace Go.Proofs.YtghjlpechjggjaaGreatDoor
open Go.RowKit
def okW(L:List Pk):Prop:=∀ j,j<L.length->0<=(kth L j).w/\(kth L j).w<=100000000000000000
theorem a1S{L:List Pk}:okW L↔∀ p∈L,0<=p.w/\p.w<=100000000000000000:=by
 constructor
 ·intro h p hp
  obtain⟨j,hj,rfl⟩:=c3z.1 hp
  have:=h j hj
  rwa [a4N hj] at this
 ·intro h j hj
  rw[a4N hj]
  exact h _ (c3F hj)
theorem a3X{a b:List Pk}(h:a.Perm b)(k:okW b):okW a:=a1S.2 fun p hp=>a1S.1 k p (h.mem_iff.1 hp)
abbrev theCmp:Value:=.func (.func 97) #[] #[]
theorem in_e{x s y:List Pk}{k:Nat}{e:Pk}(h:s.take (k+1)=s.take k++[e]):e∈x++(s++y):=by
 have:e∈s.take (k+1):=by rw[h];simp
 exact List.mem_append_right _ (List.mem_append_left _ (c3P this))
theorem in_p{x s y t A t2:List Pk}{k:Nat}{p:Pk}(h:SS t (s.take k))(ht:t=A++[p]++t2):p∈x++(s++y):=by
 have:p∈t:=by rw[ht];simp
 exact List.mem_append_right _ (List.mem_append_left _ (c3P (h.mem.1 this)))
theorem a4L (w:World) (g:Nat) (x s y:List Pk) (R:List Value) (n c a b:Nat) (h:PB w g (x++(s++y)) R) (hn:n=(x++(s++y)).length) (hw:okW (x++(s++y)))
  (h1:a=x.length) (h2:b=x.length+s.length) (hsz:n<=1000000) :
  Calls Tryz.prog 137 #[.slice (some ⟨g,0,none⟩) n c,.int .i64 a,.int .i64 b,theCmp] w fun e w'=>e=.returned (.tuple #[])/\∃ r,SS r s/\PB w' g (x++(r++y)) R/\Keeps [g] w w':=by
 have H:=c3o h
 have hl:n=x.length+(s.length+y.length):=by rw[hn];simp only[c3p]
 have HL:=c3o hl
 have H1:=c3o h1
 have H2:=c3o h2
 have HW:=c3o hw
 have b2:a<=b:=by omega
 have b3:b<=n:=by omega
 clear h hl h1 h2 hn hw
 go_enter Tryz.func137,Tryz.ntmps137
 go_wp2_with fail
 go_loopw [8] (fun iv wr=>∃ (I k:Nat) (t r:List Pk),1<=k/\I<=n+1/\iv=.int .i64 I/\Hid (I=a+k)/\Hid (r=s.drop k)/\Hid (SS t (s.take k))/\Hid (PB wr g (x++(t++(r++y))) R)/\Hid (Keeps [g] w wr)) (fun iv _=>(b-intOf iv).toNat)
 case atStart=>
  refine⟨a+1,1,s.take 1,s.drop 1,by omega,by omega,by go_num,c3o rfl,c3o rfl,c3o ⟨?_,same.refl _⟩,c3o ?_,c3o (Keeps.refl _ _)⟩
  ·match s with
   | []=>exact b7Z
   | p::s=>exact c1L p
  ·have:=H.out
   rw[<-c3B 1 s,c3r] at this;exact this
 case round=>
  clear H
  obtain⟨I,k,t,r,hk,hkn,rfl,HI,HR,HS,HB,HK⟩:=hrel
  by_cases hlt:I<b
  ·have hks:k<s.length:=by have:=H1.out;have:=H2.out;have:=HI.out;omega
   obtain⟨e,r',hr'⟩:∃ e r',s.drop k=e::r':=⟨s[k],s.drop (k+1),(c3y hks)⟩
   have htk:Hid (s.take (k+1)=s.take k++[e]):=by
    have:=c3y hks
    rw[hr'] at this
    injection this with e1 e2
    show _=_
    rw[c3x hks,e1]
   have hr2:Hid (r'=s.drop (k+1)):=by
    have:=c3y hks
    rw[hr'] at this
    injection this with e1 e2
   have HB1:Hid (PB wr g (x++(t++([]++(e::([]++(r'++y)))))) R):=by
    have:=HB.out;rw[HR.out,hr'] at this;exact this
   have ht:Hid (t.length=k):=by have:=HS.out.len;rw[c3G] at this;show _=_;omega
   clear HB HR hr' hks
   obtain⟨wo,rfl⟩:∃ wo:World,wo=wr:=⟨_,rfl⟩
   have e0:decide (I<b)=true:=by simpa using hlt
   go_wp2_with fail
   have hkn2:I<n:=by omega
   have haI:a<=I:=by have:=HI.out;omega
   go_loopw [9] (fun jv wr=>∃ (J m:Nat) (t1 t2:List Pk),a<=J/\J<n/\jv=.int .i64 J/\Hid (J=a+m)/\Hid (t1.length=m)/\Hid (t=t1++t2)/\Hid (∀ p∈t2,e.w<p.w)/\Hid (PB wr g (x++(t1++(e::(t2++(r'++y))))) R)/\Hid (Keeps [g] w wr)) (fun jv _=>(intOf jv).toNat)
   case atStart=>exact⟨I,k,t,[],haI,hkn2,rfl,HI,ht,c3o (by simp),c3o (by simp),HB1,HK⟩
   case round=>
    clear HB1 HK ht
    obtain⟨J,m,t1,t2,hJ1,hJ2,rfl,HJ,HM,HT,HG,HB,HK⟩:=hrel
    by_cases hJ:a<J
    ·obtain⟨i,rfl⟩:∃ i,J=i+1:=⟨J-1,by omega⟩
     obtain⟨A,p,rfl⟩:∃ A p,t1=A++[p]:=by
      have:=HM.out;have:=HJ.out
      exact⟨t1.dropLast,t1.getLast (by rintro rfl;simp at *;omega),(List.dropLast_concat_getLast _).symm⟩
     have hA:Hid (i=(x++A).length):=by
      have:=HM.out;have:=HJ.out;have:=H1.out;show _=_;rw[c3p] at *;simp at *;omega
     have HB2:Hid (PB wr g ((x++A)++p::e::(t2++(r'++y))) R):=by
      have:=HB.out;simp only[c3r,List.singleton_append,c3t] at *;exact this
     have k1:kth ((x++A)++p::e::(t2++(r'++y))) i=p:=by rw[hA.out,a0l,if_neg (by omega),c3E];rfl
     have k2:kth ((x++A)++p::e::(t2++(r'++y))) (i+1)=e:=by rw[hA.out,a0l,if_neg (by omega),show (x++A).length+1-(x++A).length=1 by omega];rfl
     have hlen:i+1<((x++A)++p::e::(t2++(r'++y))).length:=by rw[hA.out];simp only[c3p,c3q];omega
     obtain⟨p1,p2⟩:=HB2.out.cell (j:=i) (by omega)
     obtain⟨q1,q2⟩:=HB2.out.cell (j:=i+1) (by omega)
     rw[k1] at p1 p2
     rw[k2] at q1 q2
     have HLN:=c3o hlen
     clear k1 k2 hlen
     have e1:decide ((a:Int)<(i:Int)+1)=true:=by simp;omega
     have s1:((i:Int)+1).toNat=i+1:=by omega
     have s2:(0:Int)<=(i:Int)+1:=by omega
     have s3:(i:Int)+1<(n:Int):=by omega
     have s4:(i:Int)<(n:Int):=by omega
     have s5:IntKind.i64.wrap (i:Int)=i:=c3u _ (by omega)
     go_wp2_with fail
     go_still_tail 14,(by kernel_rfl)
     change wpList _ _ _ _ _ wr.drew
     obtain⟨we,we1⟩:0<=e.w/\e.w<=100000000000000000:=a1S.1 HW.out e (in_e htk.out)
     obtain⟨wp,wp1⟩:0<=p.w/\p.w<=100000000000000000:=a1S.1 HW.out p (in_p HS.out HT.out)
     go_wp2_with fail
     refine (a2r _ _ _ _ _ _ _ _ _ we we1 wp wp1).mono ?_
     rintro _ w1 ⟨rfl,hk⟩
     have HK1:=c3o (HK.out.trans ((Keeps.refl [g] wr).drew.trans (hk.mono (by simp))))
     have HB3:=c3o (HB2.out.keeps ((Keeps.refl [] wr).drew.trans hk) (by simp))
     clear hk HB HB2 p1 p2 q1 q2 HK
     by_cases hlt:e.w<p.w
     ·have e2:decide (e.w-p.w<0)=true:=by simp;omega
      obtain⟨p1,p2⟩:=HB3.out.cell (j:=i) (by have:=HLN.out;omega)
      obtain⟨q1,q2⟩:=HB3.out.cell (j:=i+1) HLN.out
      have k1:kth ((x++A)++p::e::(t2++(r'++y))) i=p:=by rw[hA.out,a0l,if_neg (by omega),c3E];rfl
      have k2:kth ((x++A)++p::e::(t2++(r'++y))) (i+1)=e:=by rw[hA.out,a0l,if_neg (by omega),show (x++A).length+1-(x++A).length=1 by omega];rfl
      rw[k1] at p1 p2
      rw[k2] at q1 q2
      have K1:=c3o k1
      have K2:=c3o k2
      clear k1 k2
      have f1:=HB3.out.free (i*2)
      have f2:=HB3.out.free (i*2+1)
      have f3:=HB3.out.free ((i+1)*2)
      have f4:=HB3.out.free ((i+1)*2+1)
      go_wp2_with fail
      go_region
      go_wp2_with fail
      go_roundw
      case rel=>
       refine⟨i,A.length,A,p::t2,by omega,by omega,by go_num,c3o ?_,c3o rfl,c3o ?_,c3o ?_,c3o ?_,c3o ((((((HK1.out.put _).put _).put _).put _)).drew)⟩
       ·have:=hA.out;have:=H1.out;rw[c3p] at *;omega
       ·rw[HT.out];simp
       ·intro q hq
        rcases c3M.1 hq with rfl|hq
        ·exact hlt
        ·exact HG.out q hq
       ·have hs:=a9V _ (i+1) i HLN.out (by have:=HLN.out;omega) w1 g R HB3.out (by omega)
        rw[K1.out,K2.out] at hs
        have hz:=b4E (x++A) (t2++(r'++y)) p e
        rw[<-hA.out] at hz
        rw[hz] at hs
        have:=hs.dr (Dr.refl _).drew
        simp only[c3r,c3t] at this ⊢
        exact this
      case measure=>simp[intOf]
     ·have e2:decide (e.w-p.w<0)=false:=by simp;omega
      go_wp2_with fail
      refine⟨⟨I+1,k+1,A++p::e::t2,r',by omega,by omega,by go_num,c3o (by have:=HI.out;omega),hr2,c3o ?_,c3o ?_,HK1⟩,by simp[intOf];omega⟩
      ·rw[htk.out,show A++p::e::t2=(A++[p])++e::t2 by simp]
       have hs:=HS.out
       rw[HT.out] at hs
       refine a7M hs (fun q hq=>?_) HG.out
       rcases c3L.1 hq with hq|hq
       ·have:=b1r (a1A hs.1) q hq p (by simp);omega
       ·rw[c3R.1 hq];omega
      ·have:=HB3.out
       simp only[c3r,c3t] at this ⊢
       exact this
    ·have e1:decide (a<J)=false:=by simpa using hJ
     go_wp2_with fail
     go_quiet (fail)
     go_wp2_with fail
     have h0:t1=[]:=by have:=HM.out;have:=HJ.out;exact List.eq_nil_of_length_eq_zero (by omega)
     subst h0
     refine⟨⟨I+1,k+1,e::t2,r',by omega,by omega,by go_num,c3o (by have:=HI.out;omega),hr2,c3o ?_,c3o ?_,c3o (HK.out.drewN _)⟩,by simp[intOf];omega⟩
     ·rw[htk.out]
      have hs:=HS.out
      rw[HT.out] at hs
      exact a7M (t1:=[]) hs (by simp) HG.out
     ·exact HB.out.dr ⟨_,rfl⟩
  ·go_wp2_with fail
   go_end0
   have hs:s.length<=k:=by have:=H1.out;have:=H2.out;have:=HI.out;omega
   have e1:r=[]:=by rw[HR.out,List.drop_eq_nil_of_le hs]
   subst e1
   refine⟨rfl,t,?_,HB.out,HK.out⟩
   have:=HS.out
   rwa [List.take_of_length_le hs] at this
end Go.Proofs.YtghjlpechjggjaaGreatDoor
namespace Go.Proofs.YtghjlpechjggjaaGreatDoor
open Go.RowKit
structure Turn (P:Nat->Prop) (lo i j hi:Nat):Prop where
 a:lo<=i
 b:i<=j
 c:j<=hi
 yes:∀ k,lo<=k->k<i->P k
 no:∀ k,j<=k->k<hi->¬P k
theorem Turn.start(P:Nat->Prop){lo hi:Nat}(h:lo<=hi):Turn P lo lo hi hi:=⟨c3w _,h,c3w _,fun k a b=>by omega,fun k a b=>by omega⟩
theorem Turn.up{P:Nat->Prop}{lo i j hi m:Nat}(h:Turn P lo i j hi)(h1:i<=m)(h2:m<j)(hm:∀ k,lo<=k->k<=m->P m->P k)(hp:P m):Turn P lo (m+1) j hi:=
 ⟨by have:=h.a;omega,by omega,h.c,fun k a b=>hm k a (by omega) hp,h.no⟩
theorem Turn.down{P:Nat->Prop}{lo i j hi m:Nat}(h:Turn P lo i j hi)(h1:i<=m)(h2:m<j)(hm:∀ k,m<=k->k<hi->P k->P m)(hp:¬P m):Turn P lo i m hi:=
 ⟨h.a,h1,by have:=h.c;omega,h.yes,fun k a b hk=>hp (hm k a b hk)⟩
theorem a2H{t:List Pk}(h:srt t){i j:Nat}(hij:i<=j)(hj:j<t.length):(kth t i).w<=(kth t j).w:=by
 rcases Nat.eq_or_lt_of_le hij with rfl|hlt
 ·exact Int.le_refl _
 ·rw[a4N hj,a4N (by omega)]
  exact List.pairwise_iff_getElem.1 h i j (by omega) hj hlt
theorem a3y{t:List Pk}{i:Nat}(h:i<t.length):kth t i∈t:=by rw[a4N h];exact c3F h
theorem a3C{t:List Pk}{p:Pk}(h:p∈t):∃ i,i<t.length/\kth t i=p:=by
 obtain⟨i,hi,rfl⟩:=c3z.1 h
 exact⟨i,hi,a4N hi⟩
theorem a6p{t:List Pk}{i k:Nat}(h:i<k):kth (t.take k) i=kth t i:=by simp[kth,List.getD,List.getElem?_take,h]
theorem a6o{t:List Pk}{i k:Nat}:kth (t.drop k) i=kth t (k+i):=by simp[kth,List.getD]
theorem b3v{p:Pk}{t1 t2:List Pk}(h:srt (t1++t2))(h1:∀ q∈t1,q.w<p.w)(h2:∀ q∈t2,p.w<=q.w):SS (t1++p::t2) (p::(t1++t2)):=by
 refine⟨b3u (a1A h) (List.pairwise_cons.2 ⟨fun q hq=>h2 q hq,a1j h⟩) ?_,?_⟩
 ·intro q hq r hr
  rcases c3M.1 hr with rfl|hr
  ·exact Int.le_of_lt (h1 q hq)
  ·exact b1r h q hq r hr
 ·have:=(a7J [p] t1 (fun r hr q hq=>by rw[c3R.1 hr];have:=h1 q hq;omega)).app (same.refl t2)
  simpa using this
theorem a9Y (w:World) (g:Nat) (x t y:List Pk) (p:Pk) (R:List Value) (n c a m b:Nat) (h:PB w g (x++(p::(t++y))) R) (hn:n=(x++(p::(t++y))).length) (hw:okW (x++(p::(t++y))))
  (h1:a=x.length) (h2:m=x.length+1) (h3:b=x.length+1+t.length) (ht:srt t) (hsz:n<=1000000) :
  Calls Tryz.prog 138 #[.slice (some ⟨g,0,none⟩) n c,.int .i64 a,.int .i64 m,.int .i64 b,theCmp] w fun e w'=>e=.returned (.tuple #[])/\∃ r,SS r (p::t)/\PB w' g (x++(r++y)) R/\Keeps [g] w w':=by
 have H:=c3o h
 have hl:n=x.length+(1+(t.length+y.length)):=by rw[hn];simp only[c3p,c3q];omega
 have HL:=c3o hl
 have H1:=c3o h1
 have H2:=c3o h2
 have H3:=c3o h3
 have HW:=c3o hw
 have HT:=c3o ht
 have ham:Hid (m=a+1):=by show _=_;omega
 have b2:m<=b:=by omega
 have b3:b<=n:=by omega
 have b4:a<n:=by omega
 have b5:m<=n:=by omega
 have e1:IntKind.i64.wrap ((m:Int)-a)=(m:Int)-a:=c3u _ (by omega)
 have e2:((m:Int)-a==1)=true:=by simp;omega
 clear h hl h1 h2 h3 hn hw ht
 go_enter Tryz.func138,Tryz.ntmps138
 go_wp2_with fail
 go_loopw [10,11] (fun iv jv wr=>∃ (i j:Nat),iv=.int .i64 i/\jv=.int .i64 j/\i<=j/\j<=b/\m<=i/\Hid (Turn (fun k=>(kth (x++(p::(t++y))) k).w<p.w) m i j b)/\Hid (PB wr g (x++(p::(t++y))) R)/\Hid (Keeps [g] w wr)) (fun iv jv _=>(intOf jv-intOf iv).toNat)
 case atStart=>exact⟨m,b,rfl,rfl,b2,by omega,by omega,c3o (Turn.start _ b2),H,c3o (Keeps.refl _ _)⟩
 case round=>
  clear H
  obtain⟨i,j,rfl,rfl,hij,hjb,hmi,HTN,HB,HK⟩:=hrel
  obtain⟨wo,rfl⟩:∃ wo:World,wo=wr:=⟨_,rfl⟩
  by_cases hlt:i<j
  ·have e0:decide (i<j)=true:=by simpa using hlt
   obtain⟨h,hh⟩:∃ h:Nat,h=(i+j)/2:=⟨_,rfl⟩
   have s0:((i:Int)+j)/2=(h:Int):=by omega
   have hih:i<=h:=by omega
   have hhj:h<j:=by omega
   have s1:(h:Int)<n:=by omega
   have hln:Hid ((x++(p::(t++y))).length=n):=by have:=HL.out;show _=_;simp only[c3p,c3q];omega
   obtain⟨p1,p2⟩:=HB.out.cell (j:=h) (by have:=hln.out;omega)
   obtain⟨q1,q2⟩:=HB.out.cell (j:=a) (by have:=hln.out;omega)
   have k1:kth (x++(p::(t++y))) a=p:=by rw[H1.out,a0l,if_neg (by omega),c3E];rfl
   rw[k1] at q1 q2
   obtain⟨we,we1⟩:=a1S.1 HW.out _ (a3y (t:=x++(p::(t++y))) (i:=h) (by have:=hln.out;omega))
   obtain⟨wp,wp1⟩:=a1S.1 HW.out p (by simp)
   have hu:Hid (∃ u,u=kth (x++(p::(t++y))) h):=⟨_,rfl⟩
   obtain⟨u,hu⟩:=hu.out
   rw[<-hu] at p1 p2 we we1
   have HU:=c3o hu
   have HH:=c3o hh
   clear hu k1 hh
   go_wp2_with fail
   go_still_tail 9,(by kernel_rfl)
   change wpList _ _ _ _ _ wo.drew
   go_wp2_with fail
   refine (a2r _ _ _ _ _ _ _ _ _ we we1 wp wp1).mono ?_
   rintro _ w1 ⟨rfl,hk⟩
   have HK1:=c3o (HK.out.trans ((Keeps.refl [g] wo).drew.trans (hk.mono (by simp))))
   have HB3:=c3o (HB.out.keeps ((Keeps.refl [] wo).drew.trans hk) (by simp))
   clear hk HB HK p1 p2 q1 q2
   have hmono:Hid (∀ k1 k2,m<=k1->k1<=k2->k2<b->(kth (x++(p::(t++y))) k1).w<=(kth (x++(p::(t++y))) k2).w):=by
    intro k1 k2 g1 g2 g3
    have d1:=H2.out;have d3:=H3.out
    have e:∀ k,m<=k->k<b->kth (x++(p::(t++y))) k=kth t (k-m):=by
     intro k f1 f2
     rw[a0l,if_neg (by omega),show p::(t++y)=[p]++(t++y) from rfl,a0l,if_neg (by simp;omega),a0l,if_pos (by simp;omega)]
     congr 1;simp;omega
    rw[e k1 g1 (by omega),e k2 (by omega) g3]
    exact a2H HT.out (by omega) (by omega)
   by_cases hlt:u.w<p.w
   ·have e2:decide (u.w-p.w<0)=true:=by simp;omega
    go_wp2_with fail
    refine⟨⟨h+1,j,by go_num,rfl,by omega,by omega,by omega,c3o (HTN.out.up hih hhj (fun k g1 g2 g3=>?_) ?_),HB3,HK1⟩,by simp[intOf];omega⟩
    ·exact Int.lt_of_le_of_lt (hmono.out k h g1 g2 (by omega)) g3
    ·show (kth _ h).w<p.w;rw[<-HU.out];exact hlt
   ·have e2:decide (u.w-p.w<0)=false:=by simp;omega
    go_wp2_with fail
    refine⟨⟨i,h,rfl,rfl,by omega,by omega,by omega,c3o (HTN.out.down hih hhj (fun k g1 g2 g3=>?_) ?_),HB3,HK1⟩,by simp[intOf];omega⟩
    ·exact Int.lt_of_le_of_lt (hmono.out h k (by omega) g1 g2) g3
    ·show ¬(kth _ h).w<p.w;rw[<-HU.out];omega
  ·have e0:decide (i<j)=false:=by simpa using hlt
   obtain rfl:i=j:=by omega
   have e3:IntKind.i64.wrap ((i:Int)-1)=(i:Int)-1:=c3u _ (by omega)
   have HB0:Hid (PB wo g (x++(t.take 0++(p::(t.drop 0++y)))) R):=HB
   have hi0:1<=i:=by have:=ham.out;omega
   clear HB
   go_wp2_with fail
   go_loopw [13] (fun kv wr=>∃ (K q:Nat),kv=.int .i64 K/\K<i/\Hid (K=a+q)/\Hid (PB wr g (x++(t.take q++(p::(t.drop q++y)))) R)/\Hid (Keeps [g] w wr)) (fun kv _=>(i-intOf kv).toNat)
   case atStart=>exact⟨a,0,rfl,by have:=ham.out;omega,c3o rfl,HB0,HK⟩
   case round=>
    clear HB0 HK
    obtain⟨K,q,rfl,hKi,HKq,HB,HK⟩:=hrel
    by_cases hlt2:K+1<i
    ·have e4:decide ((K:Int)<(i:Int)-1)=true:=by simp;omega
     have hq:q<t.length:=by have:=HKq.out;have:=H1.out;have:=H3.out;omega
     have HKA:Hid (K=(x++t.take q).length):=by have:=HKq.out;have:=H1.out;show _=_;rw[c3p,c3G];omega
     have HB2:Hid (PB wr g ((x++t.take q)++p::t[q]::(t.drop (q+1)++y)) R):=by
      have:=HB.out;rw[c3y hq] at this;simp only[c3r,c3t] at *;exact this
     have HE:Hid (t.take (q+1)=t.take q++[t[q]]):=c3x hq
     have HLN:Hid (K+1<((x++t.take q)++p::t[q]::(t.drop (q+1)++y)).length):=by rw[HKA.out];show _<_;simp only[c3p,c3q];omega
     generalize t[q]=e at *
     obtain⟨p1,p2⟩:=HB2.out.cell (j:=K) (by have:=HLN.out;omega)
     obtain⟨q1,q2⟩:=HB2.out.cell (j:=K+1) HLN.out
     have k1:kth ((x++t.take q)++p::e::(t.drop (q+1)++y)) K=p:=by rw[HKA.out,a0l,if_neg (by omega),c3E];rfl
     have k2:kth ((x++t.take q)++p::e::(t.drop (q+1)++y)) (K+1)=e:=by rw[HKA.out,a0l,if_neg (by omega),show (x++t.take q).length+1-(x++t.take q).length=1 by omega];rfl
     rw[k1] at p1 p2
     rw[k2] at q1 q2
     have K1:=c3o k1
     have K2:=c3o k2
     have f1:=HB2.out.free (K*2)
     have f2:=HB2.out.free (K*2+1)
     have f3:=HB2.out.free ((K+1)*2)
     have f4:=HB2.out.free ((K+1)*2+1)
     have s1:((K:Int)+1).toNat=K+1:=by omega
     have s2:(0:Int)<=(K:Int)+1:=by omega
     have s3:(K:Int)+1<(n:Int):=by omega
     have s4:(K:Int)<(n:Int):=by omega
     clear k1 k2 HB hq
     go_wp2_with fail
     go_region
     go_wp2_with fail
     go_roundw
     case rel=>
      refine⟨K+1,q+1,by go_num,by omega,c3o (by have:=HKq.out;omega),c3o ?_,c3o ((((((HK.out.put _).put _).put _).put _)).drew)⟩
      have hs:=a9V _ K (K+1) (by have:=HLN.out;omega) HLN.out wr g R HB2.out (by omega)
      rw[K1.out,K2.out] at hs
      have hz:=c1N (x++t.take q) (t.drop (q+1)++y) p e
      rw[<-HKA.out] at hz
      rw[hz] at hs
      have:=hs.dr (Dr.refl _).drew
      rw[HE.out]
      simp only[c3r,c3t,c3O] at this ⊢
      exact this
     case measure=>simp[intOf];omega
    ·have e4:decide ((K:Int)<(i:Int)-1)=false:=by simp;omega
     go_wp2_with fail
     refine bodyPost_ret (results_none rfl _ _ _) rfl ?_
     refine⟨rfl,t.take q++p::t.drop q,?_,?_,HK.out⟩
     ·have hs:=b3v (p:=p) (t1:=t.take q) (t2:=t.drop q) (by rw[c3B];exact HT.out) ?_ ?_
      ·rwa [c3B] at hs
      ·intro r hr
       obtain⟨d,hd,rfl⟩:=a3C hr
       rw[c3G] at hd
       have:=HTN.out.yes (m+d) (by omega) (by have:=HKq.out;have:=ham.out;omega)
       have d2:=H2.out
       rw[a0l,if_neg (by omega),show p::(t++y)=[p]++(t++y) from rfl,a0l,if_neg (by simp;omega),a0l,if_pos (by simp;omega)] at this
       rw[a6p (by omega)]
       rwa [show m+d-x.length-[p].length=d by simp;omega] at this
      ·intro r hr
       obtain⟨d,hd,rfl⟩:=a3C hr
       rw[List.length_drop] at hd
       have d2:=H2.out
       have d3:=H3.out
       have:=HTN.out.no (m+(q+d)) (by have:=HKq.out;have:=ham.out;omega) (by omega)
       rw[a0l,if_neg (by omega),show p::(t++y)=[p]++(t++y) from rfl,a0l,if_neg (by simp;omega),a0l,if_pos (by simp;omega)] at this
       rw[a6o]
       rw[show m+(q+d)-x.length-[p].length=q+d by simp;omega] at this
       omega
     ·have:=HB.out
      simp only[c3r,c3t] at this ⊢
      exact this
end Go.Proofs.YtghjlpechjggjaaGreatDoor
namespace Go.Proofs.YtghjlpechjggjaaGreatDoor
open Go.RowKit
theorem a8g (w:World) (g:Nat) (x s y:List Pk) (q:Pk) (R:List Value) (n c a m b:Nat) (h:PB w g (x++(s++(q::y))) R) (hn:n=(x++(s++(q::y))).length) (hw:okW (x++(s++(q::y))))
  (h1:a=x.length) (h2:m=x.length+s.length) (h3:b=x.length+s.length+1) (hs2:s.length≠1) (ht:srt s) (hsz:n<=1000000) :
  Calls Tryz.prog 138 #[.slice (some ⟨g,0,none⟩) n c,.int .i64 a,.int .i64 m,.int .i64 b,theCmp] w fun e w'=>e=.returned (.tuple #[])/\∃ r,SS r (s++[q])/\PB w' g (x++(r++y)) R/\Keeps [g] w w':=by
 have H:=c3o h
 have hl:n=x.length+(s.length+(1+y.length)):=by rw[hn];simp only[c3p,c3q];omega
 have HL:=c3o hl
 have H1:=c3o h1
 have H2:=c3o h2
 have H3:=c3o h3
 have HW:=c3o hw
 have HT:=c3o ht
 have b2:a<=m:=by omega
 have b3:m<n:=by omega
 have e1:IntKind.i64.wrap ((m:Int)-a)=(m:Int)-a:=c3u _ (by omega)
 have e2:((m:Int)-a==1)=false:=by simp;omega
 have e3:IntKind.i64.wrap ((b:Int)-m)=(b:Int)-m:=c3u _ (by omega)
 have e4:((b:Int)-m==1)=true:=by simp;omega
 clear h hl h1 h2 h3 hn hw ht
 go_enter Tryz.func138,Tryz.ntmps138
 go_wp2_with fail
 go_loopw [14,15] (fun iv jv wr=>∃ (i j:Nat),iv=.int .i64 i/\jv=.int .i64 j/\i<=j/\j<=m/\a<=i/\Hid (Turn (fun k=>(kth (x++(s++(q::y))) k).w<=q.w) a i j m)/\Hid (PB wr g (x++(s++(q::y))) R)/\Hid (Keeps [g] w wr)) (fun iv jv _=>(intOf jv-intOf iv).toNat)
 case atStart=>exact⟨a,m,rfl,rfl,b2,by omega,by omega,c3o (Turn.start _ b2),H,c3o (Keeps.refl _ _)⟩
 case round=>
  clear H
  obtain⟨i,j,rfl,rfl,hij,hjb,hmi,HTN,HB,HK⟩:=hrel
  obtain⟨wo,rfl⟩:∃ wo:World,wo=wr:=⟨_,rfl⟩
  by_cases hlt:i<j
  ·have e0:decide (i<j)=true:=by simpa using hlt
   obtain⟨h,hh⟩:∃ h:Nat,h=(i+j)/2:=⟨_,rfl⟩
   have s0:((i:Int)+j)/2=(h:Int):=by omega
   have hih:i<=h:=by omega
   have hhj:h<j:=by omega
   have s1:(h:Int)<n:=by omega
   have hln:Hid ((x++(s++(q::y))).length=n):=by have:=HL.out;show _=_;simp only[c3p,c3q];omega
   obtain⟨p1,p2⟩:=HB.out.cell (j:=h) (by have:=hln.out;omega)
   obtain⟨q1,q2⟩:=HB.out.cell (j:=m) (by have:=hln.out;omega)
   have k1:kth (x++(s++(q::y))) m=q:=by rw[H2.out,a0l,if_neg (by omega),a0l,if_neg (by omega),show x.length+s.length-x.length-s.length=0 by omega];rfl
   rw[k1] at q1 q2
   obtain⟨we,we1⟩:=a1S.1 HW.out _ (a3y (t:=x++(s++(q::y))) (i:=h) (by have:=hln.out;omega))
   obtain⟨wp,wp1⟩:=a1S.1 HW.out q (by simp)
   have hu:Hid (∃ u,u=kth (x++(s++(q::y))) h):=⟨_,rfl⟩
   obtain⟨u,hu⟩:=hu.out
   rw[<-hu] at p1 p2 we we1
   have HU:=c3o hu
   have HH:=c3o hh
   clear hu k1 hh
   go_wp2_with fail
   go_still_tail 9,(by kernel_rfl)
   change wpList _ _ _ _ _ wo.drew
   go_wp2_with fail
   refine (a2r _ _ _ _ _ _ _ _ _ wp wp1 we we1).mono ?_
   rintro _ w1 ⟨rfl,hk⟩
   have HK1:=c3o (HK.out.trans ((Keeps.refl [g] wo).drew.trans (hk.mono (by simp))))
   have HB3:=c3o (HB.out.keeps ((Keeps.refl [] wo).drew.trans hk) (by simp))
   clear hk HB HK p1 p2 q1 q2
   have hmono:Hid (∀ k1 k2,a<=k1->k1<=k2->k2<m->(kth (x++(s++(q::y))) k1).w<=(kth (x++(s++(q::y))) k2).w):=by
    intro k1 k2 g1 g2 g3
    have d1:=H1.out;have d3:=H2.out
    have e:∀ k,a<=k->k<m->kth (x++(s++(q::y))) k=kth s (k-a):=by
     intro k f1 f2
     rw[a0l,if_neg (by omega),a0l,if_pos (by omega)]
     congr 1;omega
    rw[e k1 g1 (by omega),e k2 (by omega) g3]
    exact a2H HT.out (by omega) (by omega)
   by_cases hlt:q.w<u.w
   ·have e2:decide (q.w-u.w<0)=true:=by simp;omega
    go_wp2_with fail
    refine⟨⟨i,h,rfl,rfl,by omega,by omega,by omega,c3o (HTN.out.down hih hhj (fun k g1 g2 g3=>?_) ?_),HB3,HK1⟩,by simp[intOf];omega⟩
    ·exact Int.le_trans (hmono.out h k (by omega) g1 g2) g3
    ·show ¬(kth _ h).w<=q.w;rw[<-HU.out];omega
   ·have e2:decide (q.w-u.w<0)=false:=by simp;omega
    go_wp2_with fail
    refine⟨⟨h+1,j,by go_num,rfl,by omega,by omega,by omega,c3o (HTN.out.up hih hhj (fun k g1 g2 g3=>?_) ?_),HB3,HK1⟩,by simp[intOf];omega⟩
    ·exact Int.le_trans (hmono.out k h g1 g2 (by omega)) g3
    ·show (kth _ h).w<=q.w;rw[<-HU.out];omega
  ·have e0:decide (i<j)=false:=by simpa using hlt
   obtain rfl:i=j:=by omega
   have HB0:Hid (PB wo g (x++(s.take s.length++(q::(s.drop s.length++y)))) R):=by
    have:=HB.out;rw[List.take_length,List.drop_length];exact this
   clear HB
   go_wp2_with fail
   go_loopw [17] (fun kv wr=>∃ (K r:Nat),kv=.int .i64 K/\i<=K/\K<=m/\Hid (K=a+r)/\Hid (PB wr g (x++(s.take r++(q::(s.drop r++y)))) R)/\Hid (Keeps [g] w wr)) (fun kv _=>(intOf kv).toNat)
   case atStart=>exact⟨m,s.length,rfl,hjb,by omega,c3o (by have:=H1.out;have:=H2.out;omega),HB0,HK⟩
   case round=>
    clear HB0 HK
    obtain⟨K,r,rfl,hKi,hKm,HKq,HB,HK⟩:=hrel
    by_cases hlt2:i<K
    ·obtain⟨D,rfl⟩:∃ D,K=D+1:=⟨K-1,by omega⟩
     obtain⟨r',rfl⟩:∃ r',r=r'+1:=⟨r-1,by have:=HKq.out;omega⟩
     have e4:decide ((i:Int)<(D:Int)+1)=true:=by simp;omega
     have hq:r'<s.length:=by have:=HKq.out;have:=H1.out;have:=H2.out;omega
     have HKA:Hid (D=(x++s.take r').length):=by have:=HKq.out;have:=H1.out;show _=_;rw[c3p,c3G];omega
     have HB2:Hid (PB wr g ((x++s.take r')++s[r']::q::(s.drop (r'+1)++y)) R):=by
      have:=HB.out;rw[c3x hq] at this;simp only[c3r,c3t,c3O] at *;exact this
     have HE:Hid (s.drop r'=s[r']::s.drop (r'+1)):=c3y hq
     have HLN:Hid (D+1<((x++s.take r')++s[r']::q::(s.drop (r'+1)++y)).length):=by rw[HKA.out];show _<_;simp only[c3p,c3q];omega
     generalize s[r']=e at *
     obtain⟨p1,p2⟩:=HB2.out.cell (j:=D) (by have:=HLN.out;omega)
     obtain⟨q1,q2⟩:=HB2.out.cell (j:=D+1) HLN.out
     have k1:kth ((x++s.take r')++e::q::(s.drop (r'+1)++y)) D=e:=by rw[HKA.out,a0l,if_neg (by omega),c3E];rfl
     have k2:kth ((x++s.take r')++e::q::(s.drop (r'+1)++y)) (D+1)=q:=by rw[HKA.out,a0l,if_neg (by omega),show (x++s.take r').length+1-(x++s.take r').length=1 by omega];rfl
     rw[k1] at p1 p2
     rw[k2] at q1 q2
     have K1:=c3o k1
     have K2:=c3o k2
     have f1:=HB2.out.free (D*2)
     have f2:=HB2.out.free (D*2+1)
     have f3:=HB2.out.free ((D+1)*2)
     have f4:=HB2.out.free ((D+1)*2+1)
     have s1:((D:Int)+1).toNat=D+1:=by omega
     have s2:(0:Int)<=(D:Int)+1:=by omega
     have s3:(D:Int)+1<(n:Int):=by omega
     have s4:(D:Int)<(n:Int):=by omega
     have s5:IntKind.i64.wrap (D:Int)=D:=c3u _ (by omega)
     clear k1 k2 HB hq
     go_wp2_with fail
     go_region
     go_wp2_with fail
     go_roundw
     case rel=>
      refine⟨D,r',by go_num,by omega,by omega,c3o (by have:=HKq.out;omega),c3o ?_,c3o ((((((HK.out.put _).put _).put _).put _)).drew)⟩
      have hs:=a9V _ (D+1) D HLN.out (by have:=HLN.out;omega) wr g R HB2.out (by omega)
      rw[K1.out,K2.out] at hs
      have hz:=b4E (x++s.take r') (s.drop (r'+1)++y) e q
      rw[<-HKA.out] at hz
      rw[hz] at hs
      have:=hs.dr (Dr.refl _).drew
      rw[HE.out]
      simp only[c3r,c3t,c3O] at this ⊢
      exact this
     case measure=>simp[intOf]
    ·have e4:decide (i<K)=false:=by simpa using hlt2
     go_wp2_with fail
     refine bodyPost_ret (results_none rfl _ _ _) rfl ?_
     refine⟨rfl,s.take r++q::s.drop r,?_,?_,HK.out⟩
     ·have hs:=a7M (e:=q) (t1:=s.take r) (t2:=s.drop r) (l:=s) (by rw[c3B];exact⟨HT.out,same.refl _⟩) ?_ ?_
      ·exact hs
      ·intro z hz
       obtain⟨d,hd,rfl⟩:=a3C hz
       rw[c3G] at hd
       have:=HTN.out.yes (a+d) (by omega) (by have:=HKq.out;omega)
       have d2:=H1.out
       rw[a0l,if_neg (by omega),a0l,if_pos (by omega)] at this
       rw[a6p (by omega)]
       rw[show a+d-x.length=d by omega] at this
       omega
      ·intro z hz
       obtain⟨d,hd,rfl⟩:=a3C hz
       rw[List.length_drop] at hd
       have d2:=H1.out
       have d3:=H2.out
       have:=HTN.out.no (a+(r+d)) (by have:=HKq.out;omega) (by omega)
       rw[a0l,if_neg (by omega),a0l,if_pos (by omega)] at this
       rw[a6o]
       rw[show a+(r+d)-x.length=r+d by omega] at this
       omega
     ·have:=HB.out
      simp only[c3r,c3t] at this ⊢
      exact this
end Go.Proofs.YtghjlpechjggjaaGreatDoor
