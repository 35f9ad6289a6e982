import Derived.Test.YtghjlpechjggjaaGreatDoorProg
import Derived.WalkKit
import Derived.WalkSpells
import Derived.WalkLawsBesides
import Derived.Lib.Hide
import Derived.BigQuiet
import Derived.Deep.QuietTactic
import Derived.Deep.LoopGhost
import Derived.Deep.DeepCutAuto
import Derived.Deep.CutBlock
import Derived.Laws.CopyOwn
import Derived.Deep.RegionLaw
import Derived.Laws.BitsLemmas
import Derived.Laws.AppendOwnNone
import Derived.OneCell
import Derived.Outline
import Derived.Lib.AppendZerosOnto
import Derived.OwnWalk
import Derived.WalkMore
import Derived.Deep.Heap
import Derived.Laws.OwnMore
import Derived.Deep.AppendLies
import Derived.RegionTactic
import Derived.BigRegion
import Derived.Laws.StructEq
set_option linter.defProp false
set_option linter.unnecessarySimpa false
set_option linter.unusedVariables false
set_option linter.unusedSimpArgs false
set_option linter.constructorNameAsVariable false
set_option maxRecDepth 100000
set_option maxHeartbeats 60000000
namespace Go.Proofs.YtghjlpechjggjaaGreatDoor
open Go.RowKit
private def c3o := @Lib.hid
private def c3p := @List.length_append
private def c3q := @List.length_cons
private def c3r := @Tryz.underlying26
private def c3s := @List.pairwise_cons
private def c3t := @List.filter_cons_of_pos
private def c3u := @List.eq_nil_of_length_eq_zero
private def c3v := @Nat.le_refl
private def c3w := @List.filter_cons_of_neg
private def c3x := @List.getElem?_eq_some_iff
private def c3y := @List.mem_cons
private def c3z := @List.getElem?_cons_zero
private def c3A := @List.take_succ_eq_append_getElem
private def c3B := @Array.getElem?_eq_some_iff
private def c3C := @Nat.lt_of_lt_of_le
private def c3D := @Int.eq_ofNat_of_zero_le
private def c3E := @List.getElem?_cons_succ
private def c3F := @World.block_lt_of_cell?
private def c3G := @IntWalk.i64_in
private def c3H := @List.filter_append
private def c3I := @List.map_cons
private def c3J := @ownsRow_setCell_below
private def c3K := @Option.some.inj
private def c3L := @Int.pow_succ
private def c3M := @wpList_append_own_none
private def c3N := @Int.pow_add
private def c3O := @List.mem_append
private def c3P := @Below.refl
private def c3Q := @Int.mul_assoc
private def c3R := @Nat.pow_le_pow_right
private def c3S := @List.getElem?_append_left
private def c3T := @List.ext_getElem
private def c3U := @List.length_drop
private def c3V := @Nat.lt_succ_self
private def c3W := @List.mem_map
private def c3X := @Nat.zero_add
private def c3Y := @info_parts
private def c3Z := @Nat.add_assoc
private def c4a := @List.take_of_length_le
private def c4b := @List.getElem?_eq_none
private def c4c := @List.cons_append
private def c4d := @List.sum_cons
private def c4e := @List.map_append
private def c4f := @List.getElem_range
private def c4g := @List.mem_cons_self
private def c4h := @Nat.le_of_lt
private def c4i := @Nat.le_trans
open Go.RowKit
structure Keeps (S:List Nat) (w w':World):Prop where
 os:w'.os=w.os
 tape:w'.tape=w.tape
 output:w'.output=w.output
 size:w.heap.size<=w'.heap.size
 block:∀ k,k<w.heap.size->k∉S->w'.heap[k]? =w.heap[k]?
theorem Keeps.refl(S:List Nat)(w:World):Keeps S w w:=⟨rfl,rfl,rfl,c3v _,fun _ _ _=>rfl⟩
theorem Keeps.trans{S:List Nat}{a b c:World}(h:Keeps S a b)(k:Keeps S b c):Keeps S a c:=
 ⟨k.os.trans h.os,k.tape.trans h.tape,k.output.trans h.output,c4i h.size k.size,fun i hi hs=>(k.block i (c3C hi h.size) hs).trans (h.block i hi hs)⟩
theorem Keeps.mono{S S':List Nat}{w w':World}(h:Keeps S w w')(hs:∀ x,x∈S->x∈S'):Keeps S' w w':=
 ⟨h.os,h.tape,h.output,h.size,fun k hk hn=>h.block k hk (fun hx=>hn (hs k hx))⟩
theorem Keeps.then{S S':List Nat}{a b c:World}(h:Keeps S a b)(k:Keeps S' b c)(hS:∀ x,x∈S'->x∈S∨a.heap.size<=x):Keeps S a c:=
 ⟨k.os.trans h.os,k.tape.trans h.tape,k.output.trans h.output,c4i h.size k.size,fun i hi hs=>(k.block i (c3C hi h.size) (fun hx=>by rcases hS i hx with h'|h';exact hs h';omega)).trans (h.block i hi hs)⟩
theorem Keeps.drewN{S:List Nat}{w w':World}(h:Keeps S w w')(n:Nat):Keeps S w (w'.drewN n):=⟨h.os,h.tape,h.output,h.size,h.block⟩
theorem Keeps.drew{S:List Nat}{w w':World}(h:Keeps S w w'):Keeps S w w'.drew:=⟨h.os,h.tape,h.output,h.size,h.block⟩
theorem Keeps.alloc{S:List Nat}{w w':World}(h:Keeps S w w')(o:Obj):Keeps S w (w'.alloc o):=
 h.trans ⟨rfl,rfl,rfl,by simp,fun k hk _=>Below.heap_alloc _ _ _ (by omega)⟩
theorem Keeps.setCell{S:List Nat}{w w':World}(h:Keeps S w w'){p:Addr}(hp:p.block∈S∨w.heap.size<=p.block)(u:Value):Keeps S w (w'.setCell p u):=
 ⟨h.os,h.tape,h.output,by simpa [World.setCell] using h.size,fun k hk hn=>(Below.heap_setCell _ _ _ _ (fun e=>by subst e;rcases hp with hp|hp;exact hn hp;omega)).trans (h.block k hk hn)⟩
theorem Keeps.of_below{S:List Nat}{w w':World}(h:Below w.heap.size w w'):Keeps S w w':=⟨h.os,h.tape,h.output,h.size,fun k hk _=>h.block k hk⟩
theorem Keeps.below{w w':World}(h:Keeps [] w w'):Below w.heap.size w w':=⟨h.os,h.tape,h.output,h.size,fun k hk=>h.block k hk (by simp)⟩
theorem Keeps.grown{S:List Nat}{w w1 w':World}{row:Option Nat}(h:Keeps S w w1)(hg:w1.grownBy w' row)(hr:∀ k,row=some k->k∈S∨w.heap.size<=k):Keeps S w w':=
 ⟨hg.os.trans h.os,hg.tape.trans h.tape,hg.output.trans h.output,c4i h.size hg.size,fun k hk hn=>(hg.block k (c3C hk h.size) (fun e=>by
  rcases hr k e.symm with h'|h'
  ·exact hn h'
  ·omega)).trans (h.block k hk hn)⟩
theorem Keeps.cell{S:List Nat}{w w':World}(h:Keeps S w w'){p:Addr}(hp:p.block∉S){v:Value}(hc:w.cell? p=some v):w'.cell? p=some v:=
 (World.cell?_of_block (w:=w) (h.block p.block (c3F w p hc) hp)).trans hc
theorem Keeps.frozen{S:List Nat}{w w':World}(h:Keeps S w w'){p:Addr}(hl:p.block<w.heap.size)(hp:p.block∉S):w'.frozen? p=w.frozen? p:=
 World.frozen?_of_block (w:=w) (h.block p.block hl hp)
theorem Keeps.heap{S:List Nat}{w w':World}(h:Keeps S w w'){g:Nat}{o:Obj}(hg:w.heap[g]? =some o)(hp:g∉S):w'.heap[g]? =some o:=
 (h.block g (c3B.1 hg).1 hp).trans hg
def Dr(w w':World):Prop:=∃ q,w'=w.drewN q
theorem Dr.refl(w:World):Dr w w:=⟨0,rfl⟩
theorem Dr.step{w w':World}(h:Dr w w')(q:Nat):Dr w (w'.drewN q):=by
 obtain⟨m,rfl⟩:=h
 exact⟨m+q,World.drewN_drewN ..⟩
theorem Dr.drew{w w':World}(h:Dr w w'):Dr w w'.drew:=by
 obtain⟨m,rfl⟩:=h
 exact⟨m+1,by rw[<-World.drewN_drewN];rfl⟩
theorem Dr.trans{a b c:World}(h:Dr a b)(k:Dr b c):Dr a c:=by
 obtain⟨m,rfl⟩:=k
 exact h.step m
theorem Dr.keeps{S:List Nat}{w w':World}(h:Dr w w'):Keeps S w w':=by
 obtain⟨q,rfl⟩:=h
 exact (Keeps.refl S w).drewN q
def nth(xs:List Int)(j:Nat):Int:=xs.getD j 0
theorem a0o{xs:List Int}{j:Nat}(h:j<xs.length):nth xs j=xs[j]:=by simp[nth,List.getD,h]
theorem a9B(xs:List Int)(m j:Nat)(h:j<m):nth (xs.take m) j=nth xs j:=by
 simp[nth,List.getD,List.getElem?_take,h]
structure RI (k:IntKind) (w:World) (A:Option Addr) (n:Nat) (xs:List Int):Prop where
 len:xs.length=n
 hd:0<n->∃ b o,A=some ⟨b,o,none⟩
 cell:∀ b o,A=some ⟨b,o,none⟩->∀ j,j<n->w.cell? ⟨b,o+j,none⟩=some (.int k (nth xs j))
theorem RI.at{k:IntKind}{w:World}{A:Option Addr}{n:Nat}{xs:List Int}(h:RI k w A n xs){j:Nat}(hj:j<n):∃ b o,A=some ⟨b,o,none⟩/\w.cell? ⟨b,o+j,none⟩=some (.int k (nth xs j)):=by
 obtain⟨b,o,ha⟩:=h.hd (by omega)
 exact⟨b,o,ha,h.cell b o ha j hj⟩
def Off(S:List Nat)(A:Option Addr):Prop:=∀ a,A=some a->a.block∉S
theorem a0a(A:Option Addr):Off [] A:=fun _ _=>by simp
theorem RI.keeps{k:IntKind}{S:List Nat}{w w':World}{A:Option Addr}{n:Nat}{xs:List Int}(h:RI k w A n xs)(hk:Keeps S w w')(ho:Off S A):RI k w' A n xs:=
 ⟨h.len,h.hd,fun b o ha j hj=>hk.cell (p:=⟨b,o+j,none⟩) (ho ⟨b,o,none⟩ ha) (h.cell b o ha j hj)⟩
theorem a0R(g j:Nat):(⟨g,0,none⟩:Addr).add j=⟨g,j,none⟩:=by unfold Addr.add;split<;>simp_all
theorem a0w(g o j:Nat):(⟨g,o,none⟩:Addr).add j=⟨g,o+j,none⟩:=by unfold Addr.add;split<;>simp_all
theorem RI.take{k:IntKind}{w:World}{A:Option Addr}{n:Nat}{xs:List Int}(h:RI k w A n xs){m:Nat}(hm:m<=n):RI k w A m (xs.take m):=
 ⟨by have:=h.len;simp;omega,fun hp=>h.hd (by omega),fun b o ha j hj=>by rw[a9B _ _ _ hj];exact h.cell b o ha j (by omega)⟩
def Blk(w:World)(g:Nat)(t:TypeId)(cs:List Value):Prop:=w.heap[g]? =some (.cells cs.toArray t (0,0))
theorem Blk.lt{w:World}{g:Nat}{t:TypeId}{cs:List Value}(h:Blk w g t cs):g<w.heap.size:=(c3B.1 h).1
theorem Blk.keeps{S:List Nat}{w w':World}{g:Nat}{t:TypeId}{cs:List Value}(h:Blk w g t cs)(hk:Keeps S w w')(hn:g∉S):Blk w' g t cs:=hk.heap h hn
theorem Blk.drewN{w:World}{g:Nat}{t:TypeId}{cs:List Value}(h:Blk w g t cs)(n:Nat):Blk (w.drewN n) g t cs:=h
theorem Blk.alloc{w:World}{g:Nat}{t:TypeId}{cs:List Value}(h:Blk w g t cs)(o:Obj):Blk (w.alloc o) g t cs:=(Below.heap_alloc _ _ _ h.lt).trans h
theorem Blk.cell{w:World}{g:Nat}{t:TypeId}{cs:List Value}(h:Blk w g t cs)(j:Nat):w.cell? ⟨g,j,none⟩=cs[j]? :=by
 unfold World.cell?
 simp only[Blk] at h
 simp[h]
theorem Blk.frozen{w:World}{g:Nat}{t:TypeId}{cs:List Value}(h:Blk w g t cs)(j:Nat):w.frozen? ⟨g,j,none⟩=false:=by
 unfold World.frozen?
 simp only[Blk] at h
 simp[h]
theorem Blk.set{w:World}{g:Nat}{t:TypeId}{cs:List Value}(h:Blk w g t cs)(j:Nat)(u:Value):Blk (w.setCell ⟨g,j,none⟩ u) g t (cs.set j u):=by
 simp only[Blk,World.setCell,Array.getElem?_modify] at *
 simp[h]
theorem Blk.set_other{w:World}{g:Nat}{t:TypeId}{cs:List Value}(h:Blk w g t cs){a:Addr}(ha:g≠a.block)(u:Value):Blk (w.setCell a u) g t cs:=
 (Below.heap_setCell _ _ _ _ ha).trans h
theorem a0d(w:World)(t:TypeId)(cs:List Value):Blk (w.alloc (.cells cs.toArray t (0,0))) w.heap.size t cs:=by
 show (w.heap.push _)[w.heap.size]? =_
 simp
def ints(k:IntKind)(xs:List Int):List Value:=xs.map (Value.int k)
theorem a0f(k:IntKind)(xs:List Int)(j:Nat):(ints k xs)[j]? =(xs[j]?).map (Value.int k):=by simp[ints]
theorem Blk.ri{w:World}{g:Nat}{t:TypeId}{k:IntKind}{xs ys:List Int}(h:Blk w g t (ints k (xs++ys))):RI k w (some ⟨g,0,none⟩) xs.length xs:=
 ⟨rfl,fun _=>⟨_,_,rfl⟩,fun b o ha j hj=>by
  injection ha with ha;injection ha with h1 h2 h3;subst h1;subst h2
  rw[c3X,h.cell,a0f,c3S hj]
  simp[nth,List.getD,hj]⟩
theorem a0b{S:List Nat}{w w':World}{base:Nat}{e:TypeId}{size:Nat}{v:Value}{n:Nat}{xs:List Value}(h:w.ownsRow base e size v n xs)(hk:Keeps S w w')(hn:∀ g,v.ownBlock=some g->g∉S):w'.ownsRow base e size v n xs:=by
 refine⟨h.1,?_⟩
 rcases h.2 with h2|⟨g,cap,cur,hv,hb,hh,hr⟩
 ·exact .inl h2
 ·exact .inr ⟨g,cap,cur,hv,hb,hk.heap hh (hn g (by rw[hv];rfl)),hr⟩
theorem a0y{w:World}{base:Nat}{e:TypeId}{v:Value}{n:Nat}{k:IntKind}{xs:List Int}(h:w.ownsRow base e 1 v n (ints k xs)) :
  ∃ A c,v=.slice A n c/\RI k w A n xs/\n<=c/\(∀ a,A=some a->base<=a.block/\a.block<w.heap.size/\v.ownBlock=some a.block):=by
 obtain⟨h1,h2⟩:=h
 have hl:xs.length=n:=by simpa [ints] using h1
 rcases h2 with⟨rfl,rfl⟩|⟨g,cap,cur,rfl,hb,hh,hc,hm,hs,ht⟩
 ·exact⟨none,0,rfl,⟨hl,by omega,by simp⟩,by omega,by simp⟩
 ·refine⟨_,_,rfl,⟨hl,fun _=>⟨_,_,rfl⟩,fun b o ha j hj=>?_⟩,hc,fun a ha=>?_⟩
  ·injection ha with ha;injection ha with h1 h2 h3;subst h1;subst h2
   have e1:cur.toList[j]? =(ints k xs)[j]? :=by rw[<-ht,List.getElem?_take,if_pos (by omega)]
   rw[c3X]
   unfold World.cell?
   simp only[hh]
   rw[<-Array.getElem?_toList,e1,a0f]
   simp[nth,List.getD,show j<xs.length by omega]
  ·obtain rfl:=c3K ha
   exact⟨hb,(c3B.1 hh).1,rfl⟩
theorem a1h {P:Program} (w:World) (t e:TypeId) (k:IntKind) (b:Nat) (ht:P.underlying t=some (.slice e)) (hi:(P.info? e).map (fun i=>(i.zero,i.size,i.bytes))=some (some (.int k 0),1,b))
  (l:Int) (n:Nat) (hn:l=n) (hbytes:b*n<=281474976710656) (h63:n<=9223372036854775807) :
  (Instr.makeSlice t (.int .i64 l) (.int .i64 l)).run P w=.ok (.slice (some ⟨w.heap.size,0,none⟩) n n) (w.alloc (.cells (ints k (List.replicate n 0)).toArray e)):=by
 subst hn
 obtain⟨i,hi,hz,hs,hb⟩:=c3Y hi
 have e1:(i.bytes:Int)*(n:Int)<=281474976710656:=by
  rw[hb]
  have:((b*n:Nat):Int)<=281474976710656:=by omega
  rwa [Int.natCast_mul] at this
 rw[run_make w t e i _ ht hi hz .i64 .i64 n n (by omega) (Int.le_refl _) e1 (by omega)]
 simp only[Int.toNat_natCast]
 congr 4
 rw[hs,Nat.mul_one]
 apply Array.toList_inj.1
 show (madeCells #[.int k 0] n).toList=_
 rw[toList_madeCells_one]
 simp[ints]
theorem a1y:(Tryz.prog.info? 3).map (fun i=>(i.zero,i.size,i.bytes))=some (some (.int .i64 0),1,8):=by kernel_rfl
theorem a3c:(Tryz.prog.info? 5).map (fun i=>(i.zero,i.size,i.bytes))=some (some (.int .u8 0),1,1):=by kernel_rfl
theorem b4x:(Tryz.prog.info? 3).map (·.size)=some 1:=by kernel_rfl
theorem b7X:(Tryz.prog.info? 5).map (·.size)=some 1:=by kernel_rfl
open Go.RowKit
theorem b2d(xs ys:List Int)(n:Nat)(hx:xs.length=n)(hy:ys.length=n)(h:∀ j,j<n->nth xs j=nth ys j):(xs==ys)=true:=by
 rw[beq_iff_eq]
 refine c3T (by omega) fun i h1 h2=>?_
 have:=h i (by omega)
 simpa [nth,List.getD,h1,h2] using this
theorem b6q(xs ys:List Int)(j:Nat)(h:¬nth xs j=nth ys j):(xs==ys)=false:=by
 rw[beq_eq_false_iff_ne]
 rintro rfl
 exact h rfl
theorem b4P(xs ys:List Int)(h:xs.length≠ys.length):(xs==ys)=false:=by
 rw[beq_eq_false_iff_ne]
 rintro rfl
 exact h rfl
theorem c1r{xs ys:List Int}{k:Nat}(h:∀ j,j<k->nth xs j=nth ys j)(hk:nth xs k=nth ys k):∀ j,j<k+1->nth xs j=nth ys j:=fun j hj=>by
 by_cases e:j=k
 ·subst e;exact hk
 ·exact h j (by omega)
open Go.RowKit
theorem a7N {P:Program} {ops:Array Oper} {o:Oper} {a:Act} {K:Act->World->Prop} {Q:Exit->Act->World->Prop} {E:Prop} {w:World} {f:FuncId} {args:Array Value} (hgd:o.guard=none) (hop:(execOp a.eval o).run P w=.ok (.enter f args) w)
  (h:Calls P f args w fun e w'=>∃ v,e=.returned v/\K (a.put o.dst v) w'):if Region.wanted o (yielded ops a.tmps)=true then Oper.wp P o a w K Q else E:=by
 have hw:Region.wanted o (yielded ops a.tmps)=true:=by simp[Region.wanted,hgd]
 rw[if_pos hw]
 unfold Oper.wp
 rw[hop]
 exact h.mono fun e w' ⟨v,he,hk⟩=>by subst he;exact hk
theorem c0p(n:Int):IntKind.u64.wrap n=n%18446744073709551616:=by simp[IntKind.wrap,IntKind.bits,IntKind.signed]
theorem a1v(n:Int)(h₀:0<=n)(h₁:n<2^64):IntKind.u64.wrap n=n:=by rw[c0p];omega
theorem a5O(x:Int)(h₀:0<=x)(h₁:x<18446744073709551616):Go.bits .and .u64 x 4294967295=x%4294967296:=bits_mask .u64 64 (by decide) a1v 32 (by decide) x h₀ h₁
def bitAt(bs:List Int)(i:Nat):Int:=(nth bs (i/8))/2^(i%8)%2
def numB(bs:List Int)(p:Nat):Nat->Int
 | 0=>0
 | n+1=>numB bs p n+bitAt bs (p+n)*2^n
theorem a2E(bs:List Int)(i:Nat):0<=bitAt bs i/\bitAt bs i<=1:=by unfold bitAt;omega
theorem a0i(n:Nat):(0:Int)<2^n:=by exact_mod_cast Nat.two_pow_pos n
theorem a0F(bs:List Int)(p:Nat):∀ n,0<=numB bs p n/\numB bs p n<2^n
 | 0=>by simp[numB]
 | n+1=>by
  have ih:=a0F bs p n
  have hb:=a2E bs (p+n)
  have hp:=a0i n
  rw[numB,c3L]
  rcases (by omega:bitAt bs (p+n)=0∨bitAt bs (p+n)=1) with h|h<;>rw[h]<;>omega
theorem a4V(bs:List Int)(p h:Nat):∀ k,numB bs p (h+k)=numB bs p h+numB bs (p+h) k*2^h
 | 0=>by simp[numB]
 | k+1=>by
  rw[<-c3Z,numB,a4V bs p h k,numB,Int.add_mul,c3Z p h k,c3N,c3Q,Int.mul_comm (2^h) (2^k),Int.add_assoc]
theorem a4f(a b c:Int)(hb:0<b):a/b/c=a/(b*c):=by
 rw[Int.ediv_ediv,if_neg (by rintro ⟨h,_⟩;omega)];simp
theorem a5U(x:Int)(k:Nat):x%2^(k+1)=x%2^k+(x/2^k%2)*2^k:=by
 have hp:=a0i k
 have h1:=Int.emod_add_mul_ediv x (2^k)
 have h2:=Int.emod_add_mul_ediv (x/2^k) 2
 have h3:=Int.emod_nonneg x (show (2:Int)^k≠0 by omega)
 have h4:=Int.emod_lt_of_pos x hp
 have h5:x/2^(k+1)=x/2^k/2:=by rw[c3L,a4f _ _ _ (by omega)]
 have h6:=Int.emod_add_mul_ediv x (2^(k+1))
 rw[h5] at h6
 rw[c3L] at *
 have e:x=x%2^k+2^k*(x/2^k%2+2*(x/2^k/2)):=by rw[h2];omega
 rw[Int.mul_add] at e
 have e2:2^k*(2*(x/2^k/2))=2^k*2*(x/2^k/2):=by rw[c3Q]
 rw[Int.mul_comm (x/2^k%2)]
 omega
theorem a3F(bs:List Int)(p:Nat):∀ k,p%8+k<=8->numB bs p k=nth bs (p/8)/2^(p%8)%2^k
 | 0,_=>by simp[numB,Int.emod_one]
 | k+1,h=>by
  rw[numB,a3F bs p k (by omega),a5U]
  congr 2
  unfold bitAt
  rw[show (p+k)/8=p/8 by omega,show (p+k)%8=p%8+k by omega,c3N]
  rw[a4f _ _ _ (a0i _)]
theorem c1D(i:Nat)(x y:Int)(hx₀:0<=x)(hx:x%2^i=0)(hx₁:x<2^64)(hy₀:0<=y)(hy:y<2^i)(hy₁:y<2^64):Go.bits .or .u64 y x=x+y:=by
 have h:=bits_join .u64 64 (by decide) a1v i x y hx₀ hx hx₁ hy₀ hy hy₁
 obtain⟨a,rfl⟩:=c3D hx₀
 obtain⟨b,rfl⟩:=c3D hy₀
 have ha:a<2^64:=by exact_mod_cast hx₁
 have hb:b<2^64:=by exact_mod_cast hy₁
 rw[(bits_nat .u64 64 (by decide) a1v a b ha hb).2] at h
 rw[(bits_nat .u64 64 (by decide) a1v b a hb ha).2,Nat.or_comm]
 exact h
theorem a2M(k:Nat)(h:k<=8):(2:Int)^k<=256:=by
 have h1:2^k<=2^8:=c3R (by decide) h
 have:((2^k:Nat):Int)<=((2^8:Nat):Int):=by exact_mod_cast h1
 simpa using this
theorem b8i(bs:List Int)(q k:Nat)(hb:0<=nth bs (q/8)/\nth bs (q/8)<=255)(hk:q%8+k<=8) :
  Go.bits .and .u8 (nth bs (q/8)/2^(q%8)) ((2^k-1)%256)=numB bs q k:=by
 have hp:=a0i k
 have hp8:=a2M k (by omega)
 have e1:((2:Int)^k-1)%256=2^k-1:=by omega
 have hq:=a0i (q%8)
 have h1:0<=nth bs (q/8)/2^(q%8):=Int.ediv_nonneg hb.1 (by omega)
 have h2:nth bs (q/8)/2^(q%8)<=nth bs (q/8):=Int.ediv_le_self _ hb.1
 rw[e1,bits_mask .u8 8 (by decide) wraps_u8 k (by omega) _ h1 (by omega),a3F bs q k hk]
theorem b7J(h:Nat)(hh:h<=32):(2:Int)^h<=4294967296:=by
 have h1:2^h<=2^32:=c3R (by decide) hh
 have:((2^h:Nat):Int)<=((2^32:Nat):Int):=by exact_mod_cast h1
 simpa using this
theorem b8j(bs:List Int)(p h k:Nat)(hb:0<=nth bs ((p+h)/8)/\nth bs ((p+h)/8)<=255)(hk:(p+h)%8+k<=8)(hh:h+k<=32) :
  Go.bits .or .u64 (numB bs p h) (IntKind.u64.wrap (IntKind.u64.wrap (Go.bits .and .u8 (nth bs ((p+h)/8)/2^((p+h)%8)) ((2^k-1)%256))*2^h))=numB bs p (h+k):=by
 rw[b8i bs (p+h) k hb hk]
 have h1:=a0F bs (p+h) k
 have h2:=a0F bs p h
 have h3:=a0i h
 have h4:=b7J h (by omega)
 have h5:=a2M k (by omega)
 have h6:=a0F bs p (h+k)
 have h7:=b7J (h+k) (by omega)
 have h8:=a4V bs p h k
 rw[a1v (numB bs (p+h) k) h1.1 (by omega)]
 have h9:0<=numB bs (p+h) k*2^h:=Int.mul_nonneg h1.1 (by omega)
 have h10:numB bs (p+h) k*2^h<2^64:=by omega
 rw[a1v _ h9 h10,c1D h _ _ h9 (by simp) h10 h2.1 h2.2 (by omega),h8]
 omega
theorem c1B(bs:List Int)(p m:Nat)(hm:m<=32):numB bs p m%4294967296=numB bs p m:=by
 have h1:=a0F bs p m
 have h2:=b7J m hm
 omega
open Go.RowKit
theorem a2z(k:IntKind)(xs:List Int):∀ v∈ints k xs,v.oneCell'=true:=by
 intro u hu;simp only[ints,c3W] at hu;obtain⟨x,_,rfl⟩:=hu;rfl
theorem a4B {ops:Array Oper} {rest:List Oper} {o:Oper} {a:Act} {Q:Exit->Act->World->Prop} {w:World} (hgd:o.guard=none) (s x:Operand)
  (ho:o.op=.call { callee:=.builtin .append,args:=#[s,x],argTypes:=#[26,26] })
  (base:Nat) (v:Value) (n:Nat) (xs:List Int) (hs:a.eval s=v) (hown:w.ownsRow base 5 1 v n (ints .u8 xs))
  (A:Option Addr) (m c:Nat) (ys:List Int) (hx:a.eval x=.slice A m c) (hy:RI .u8 w A m ys) (hnil:A=none->m=0/\c=0)
  (hn:n+m<=8000000000) (hbase:base<=w.heap.size)
  (h:∀ v' w',w'.ownsRow base 5 1 v' (n+m) (ints .u8 (xs++ys))->w.grownBy w' v.ownBlock->wpList Tryz.prog ops Q rest (a.put o.dst v') w'):wpList Tryz.prog ops Q (o::rest) a w:=by
 obtain⟨i0,hi,hz0,hz1,hz2⟩:=c3Y a3c
 cases A with
 | none=>
  obtain⟨rfl,rfl⟩:=hnil rfl
  obtain rfl:ys=[]:=c3u hy.len
  refine c3M hgd s x 26 ho base 5 i0 1 c3r hi v n (ints .u8 xs) hs hown hx ?_
  exact h v w (by simpa using hown) ⟨rfl,rfl,rfl,c3v _,fun _ _ _=>rfl⟩
 | some ad=>
  refine wpList_append_own _ hgd s x 26 ho base 5 i0 (.int .u8 0) 1 1 c3r hi hz0 hz1 hz2 rfl (by decide) v n (ints .u8 xs) hs hown ad m c (ints .u8 ys) hx (by simp[ints,hy.len]) ?_ (a2z _ _) (by unfold maxLen;omega) (by omega) hbase ?_
  ·intro j u hu
   have hj:j<m:=by have:=(c3x.1 hu).1;have:=hy.len;simp[ints] at *;omega
   obtain⟨b,of,hab⟩:=hy.hd (by omega)
   obtain rfl:=c3K hab
   rw[a0w]
   have hc:=hy.cell b of rfl j hj
   rw[hc,<-hu,a0f]
   simp[nth,List.getD,show j<ys.length by have:=hy.len;omega]
  ·intro v' w' h2 h3 _
   have e:ints .u8 (xs++ys)=ints .u8 xs++ints .u8 ys:=by simp[ints]
   rw[e] at h
   exact h v' w' h2 h3
open Go.RowKit
def AllU8(w:World)(v:Value):Prop:=∀ k,v.ownBlock=some k->∃ cur:Array Value,w.heap[k]? =some (.cells cur 5 (0,0))/\∀ u∈cur.toList,∃ n,u=.int .u8 n
theorem AllU8.nil(w:World):AllU8 w (.slice none 0 0):=fun k hk=>by simp[Value.ownBlock] at hk
theorem AllU8.keeps{w w':World}{v:Value}{S:List Nat}(h:AllU8 w v)(hk:Keeps S w w')(hS:∀ k,v.ownBlock=some k->k∉S):AllU8 w' v:=fun k hv=>by
 obtain⟨cur,h1,h2⟩:=h k hv
 exact⟨cur,hk.heap h1 (hS k hv),h2⟩
theorem b1S(n:Nat):∀ u∈(Builtin.zeroCells (Value.int .u8 0).cells n).toList,∃ k,u=.int .u8 k:=by
 intro u hu
 have hz:(Value.int .u8 0).cells=#[.int .u8 0]:=rfl
 rw[hz] at hu
 simp only[Builtin.zeroCells,Array.toList_map,c3W] at hu
 obtain⟨i,_,rfl⟩:=hu
 exact⟨0,by simp[Nat.mod_one]⟩
theorem a9t{xs:List Int}:∀ u∈ints .u8 xs,∃ k,u=.int .u8 k:=by
 intro u hu
 simp only[ints,c3W] at hu
 obtain⟨x,_,rfl⟩:=hu
 exact⟨x,rfl⟩
theorem a9Q {P:Program} (w:World) (base:Nat) (t ty:TypeId) (i:TypeInfo) (bytes:Nat) (ht:P.underlying t=some (.slice 5)) (hi:P.info? 5=some i) (hz:i.zero=some (.int .u8 0))
  (hsize:i.size=1) (hby:i.bytes=bytes)
  (v:Value) (n:Nat) (xs:List Value) (hown:w.ownsRow base 5 1 v n xs)
  (a:Addr) (m c:Nat) (ys:List Int) (hl:(ints .u8 ys).length=m*1) (hnews:∀ j u,(ints .u8 ys)[j]? =some u->w.cell? (a.add j)=some u) (h1:∀ u∈ints .u8 ys,u.oneCell'=true)
  (h63:n+m<=maxLen) (hbytes:(n+m)*bytes<=140737488355328) (hU:AllU8 w v) :
  ∃ v' w',(Builtin.append_ #[t,t] ty #[v,.slice (some a) m c]).run P w=.ok v' w'/\AllU8 w' v':=by
 rw[<-hsize] at hown hl
 subst hby
 have hsmall:n+m<=9223372036854775807:=by simp only[maxLen] at h63;omega
 have new:∀ (cells:List Value) (k N cap:Nat),(∀ u∈cells,∃ k,u=.int .u8 k)->AllU8 (w.drew.alloc (.cells (cells.toArray++Builtin.zeroCells (Value.int .u8 0).cells k) 5)) (.slice (some ⟨w.heap.size,0,none⟩) N cap):=fun cells k N cap hc=>by
  intro b hb
  have e:w.heap.size=b:=by simpa [Value.ownBlock] using hb
  subst e
  refine⟨_,heap_alloc_new w.drew _,fun u hu=>?_⟩
  rw[Array.toList_append] at hu
  rcases c3O.1 hu with h|h
  ·exact hc u h
  ·exact b1S k u h
 rcases hown.2 with⟨rfl,rfl⟩|⟨g,cap,cur,rfl,hbg,hg,hnc,hcm,hcs,htake⟩
 ·by_cases hm:m=0
  ·subst hm
   have hn:ints .u8 ys=[]:=c3u (by simpa using hl)
   refine⟨.slice none 0 0,w,?_,hU⟩
   simp[Builtin.append_,run_underlying ht,sizeOf,typeInfo,hi,Builtin.lenOf,Builtin.firstCells,loadCells,loadCellsFrom]
  ·have hr:=run_append_nil (P:=P) w t ty 5 i (.int .u8 0) ht hi hz a m c (ints .u8 ys) hl hnews (by omega) (by omega) (by have hb:=hbytes;simp only[c3X] at hb;omega)
   exact⟨_,_,hr,new _ _ _ _ a9t⟩
 ·obtain⟨cur',hg',hall⟩:=hU g rfl
  have hcc:cur'=cur:=by
   rw[hg] at hg'
   injection hg' with hg'
   injection hg' with hg' _ _
   exact hg'.symm
  subst hcc
  by_cases hroom:n+m<=cap
  ·have hfit:n*i.size+(ints .u8 ys).length<=cur'.size:=by rw[hl,hcs,<-Nat.add_mul];exact Nat.mul_le_mul_right _ hroom
   have hr:=run_append_room (P:=P) w t ty 5 i ht hi g n cap cur' hg a m c (ints .u8 ys) hl hnews h1 hroom hfit
   refine⟨_,_,hr,fun b hb=>?_⟩
   have e:g=b:=by simpa [Value.ownBlock] using hb
   subst e
   refine⟨_,setRow_heap w g cur' _ 5 _ hg,fun u hu=>?_⟩
   simp only[c3O] at hu
   rcases hu with (h|h)|h
   ·exact hall u (List.mem_of_mem_take h)
   ·exact a9t u h
   ·exact hall u (List.mem_of_mem_drop h)
  ·have holds:∀ j u,xs[j]? =some u->w.cell? ((⟨g,0,none⟩:Addr).add j)=some u:=hown.cells (g:=g) rfl
   have hr:=run_append_grow (P:=P) w t ty 5 i (.int .u8 0) ht hi hz ⟨g,0,none⟩ n cap xs hown.1 holds a m c (ints .u8 ys) hl hnews (by omega) (by omega) (growslice_fits (by omega) hbytes)
   refine⟨_,_,hr,?_⟩
   have hc:∀ u∈xs++ints .u8 ys,∃ k,u=.int .u8 k:=by
    intro u hu
    rcases c3O.1 hu with h|h
    ·rw[<-htake] at h;exact hall u (List.mem_of_mem_take h)
    ·exact a9t u h
   have:=new (xs++ints .u8 ys) (grownCap w (n+m) cap 5-(n+m)) (n+m) (grownCap w (n+m) cap 5) hc
   rwa [show (xs++ints .u8 ys).toArray=xs.toArray++(ints .u8 ys).toArray by simp] at this
theorem a3o {P:Program} (w:World) (base:Nat) (t ty e:TypeId) (i:TypeInfo) (z:Value) (size bytes:Nat) (ht:P.underlying t=some (.slice e)) (hi:P.info? e=some i) (hz:i.zero=some z)
  (hsize:i.size=size) (hby:i.bytes=bytes) (hzs:z.cells.size=size) (hsz:0<size)
  (v:Value) (n:Nat) (xs:List Value) (hown:w.ownsRow base e size v n xs)
  (a:Addr) (m c:Nat) (news:List Value) (hl:news.length=m*size) (hnews:∀ j u,news[j]? =some u->w.cell? (a.add j)=some u) (h1:∀ u∈news,u.oneCell'=true)
  (h63:n+m<=maxLen) (hbytes:(n+m)*bytes<=140737488355328) :
  ∃ v' w',(Builtin.append_ #[t,t] ty #[v,.slice (some a) m c]).run P w=.ok v' w'/\(v'.ownBlock=v.ownBlock∨v'.ownBlock=some w.heap.size):=by
 subst hsize
 subst hby
 have hsmall:n+m<=9223372036854775807:=by simp only[maxLen] at h63;omega
 rcases hown.2 with⟨rfl,rfl⟩|⟨g,cap,cur,rfl,hbg,hg,hnc,hcm,hcs,htake⟩
 ·by_cases hm:m=0
  ·subst hm
   have hn:news=[]:=c3u (by simpa using hl)
   subst hn
   refine⟨.slice none 0 0,w,?_,.inl rfl⟩
   simp[Builtin.append_,run_underlying ht,sizeOf,typeInfo,hi,Builtin.lenOf,Builtin.firstCells,loadCells,loadCellsFrom]
  ·have hr:=run_append_nil (P:=P) w t ty e i z ht hi hz a m c news hl hnews (by omega) (by omega) (by have hb:=hbytes;simp only[c3X] at hb;omega)
   exact⟨_,_,hr,.inr rfl⟩
 ·by_cases hroom:n+m<=cap
  ·have hfit:n*i.size+news.length<=cur.size:=by rw[hl,hcs,<-Nat.add_mul];exact Nat.mul_le_mul_right _ hroom
   have hr:=run_append_room (P:=P) w t ty e i ht hi g n cap cur hg a m c news hl hnews h1 hroom hfit
   exact⟨_,_,hr,.inl rfl⟩
  ·have holds:∀ j u,xs[j]? =some u->w.cell? ((⟨g,0,none⟩:Addr).add j)=some u:=hown.cells (g:=g) rfl
   have hr:=run_append_grow (P:=P) w t ty e i z ht hi hz ⟨g,0,none⟩ n cap xs hown.1 holds a m c news hl hnews (by omega) (by omega) (growslice_fits (by omega) hbytes)
   exact⟨_,_,hr,.inr rfl⟩
theorem a8h {ops:Array Oper} {rest:List Oper} {o:Oper} {a:Act} {Q:Exit->Act->World->Prop} {w:World} (hgd:o.guard=none) (s x:Operand)
  (ho:o.op=.call { callee:=.builtin .append,args:=#[s,x],argTypes:=#[26,26] })
  (base:Nat) (v:Value) (n:Nat) (xs:List Int) (hs:a.eval s=v) (hown:w.ownsRow base 5 1 v n (ints .u8 xs))
  (A:Option Addr) (m c:Nat) (ys:List Int) (hx:a.eval x=.slice A m c) (hy:RI .u8 w A m ys) (hnil:A=none->m=0/\c=0)
  (hn:n+m<=8000000000) (hbase:base<=w.heap.size)
  (h:∀ v' w',w'.ownsRow base 5 1 v' (n+m) (ints .u8 (xs++ys))->w.grownBy w' v.ownBlock->(v'.ownBlock=v.ownBlock∨v'.ownBlock=some w.heap.size)->(AllU8 w v->AllU8 w' v')->wpList Tryz.prog ops Q rest (a.put o.dst v') w'):wpList Tryz.prog ops Q (o::rest) a w:=by
 obtain⟨i0,hi,hz0,hz1,hz2⟩:=c3Y a3c
 cases A with
 | none=>
  obtain⟨rfl,rfl⟩:=hnil rfl
  obtain rfl:ys=[]:=c3u hy.len
  refine c3M hgd s x 26 ho base 5 i0 1 c3r hi v n (ints .u8 xs) hs hown hx ?_
  exact h v w (by simpa using hown) ⟨rfl,rfl,rfl,c3v _,fun _ _ _=>rfl⟩ (.inl rfl) id
 | some ad=>
  have hnews:∀ j u,(ints .u8 ys)[j]? =some u->w.cell? (ad.add j)=some u:=by
   intro j u hu
   have hj:j<m:=by have:=(c3x.1 hu).1;have:=hy.len;simp[ints] at *;omega
   obtain⟨b,of,hab⟩:=hy.hd (by omega)
   obtain rfl:=c3K hab
   rw[a0w]
   have hc:=hy.cell b of rfl j hj
   rw[hc,<-hu,a0f]
   simp[nth,List.getD,show j<ys.length by have:=hy.len;omega]
  obtain⟨v',w',hr,h2,h3,-⟩:=run_append_own (P:=Tryz.prog) w base 26 o.type 5 i0 (.int .u8 0) 1 1 c3r hi hz0 hz1 hz2 rfl (by decide) v n (ints .u8 xs) hown ad m c (ints .u8 ys) (by simp[ints,hy.len]) hnews (a2z _ _) (by unfold maxLen;omega) (by omega) hbase
  obtain⟨v2,w2,hr2,h4⟩:=a3o (P:=Tryz.prog) w base 26 o.type 5 i0 (.int .u8 0) 1 1 c3r hi hz0 hz1 hz2 rfl (by decide) v n (ints .u8 xs) hown ad m c (ints .u8 ys) (by simp[ints,hy.len]) hnews (a2z _ _) (by unfold maxLen;omega) (by omega)
  rw[hr] at hr2
  injection hr2 with e1 e2
  subst e1
  have hu8:AllU8 w v->AllU8 w' v':=fun hU=>by
   obtain⟨v3,w3,hr3,h5⟩:=a9Q (P:=Tryz.prog) w base 26 o.type i0 1 c3r hi hz0 hz1 hz2 v n (ints .u8 xs) hown ad m c ys (by simp[ints,hy.len]) hnews (a2z _ _) (by unfold maxLen;omega) (by omega) hU
   rw[hr] at hr3
   injection hr3 with e3 e4
   subst e3
   subst e4
   exact h5
  refine wpList_plain hgd fun K hK=>?_
  unfold Oper.wp execOp
  simp only[ho,resolve,invoke,builtin,Sem.run_bind,Sem.run_pure,Result.andThen_ok,List.map_toArray,c3I,List.map_nil,hs,hx,hr]
  have e:ints .u8 (xs++ys)=ints .u8 xs++ints .u8 ys:=by simp[ints]
  rw[e] at h
  exact hK _ _ (h v' w' h2 h3 h4 hu8)
theorem a3P {ops:Array Oper} {rest:List Oper} {o:Oper} {a:Act} {Q:Exit->Act->World->Prop} {w:World} (hgd:o.guard=none) (s x:Operand)
  (ho:o.op=.call { callee:=.builtin .append,args:=#[s,x],argTypes:=#[26,26] })
  (base:Nat) (v:Value) (n:Nat) (xs:List Int) (hs:a.eval s=v) (hown:w.ownsRow base 5 1 v n (ints .u8 xs))
  (A:Option Addr) (m c:Nat) (ys:List Int) (hx:a.eval x=.slice A m c) (hy:RI .u8 w A m ys) (hnil:A=none->m=0/\c=0)
  (hn:n+m<=8000000000) (hbase:base<=w.heap.size)
  (h:∀ v' w',w'.ownsRow base 5 1 v' (n+m) (ints .u8 (xs++ys))->w.grownBy w' v.ownBlock->(v'.ownBlock=v.ownBlock∨v'.ownBlock=some w.heap.size)->wpList Tryz.prog ops Q rest (a.put o.dst v') w'):wpList Tryz.prog ops Q (o::rest) a w:=by
 obtain⟨i0,hi,hz0,hz1,hz2⟩:=c3Y a3c
 cases A with
 | none=>
  obtain⟨rfl,rfl⟩:=hnil rfl
  obtain rfl:ys=[]:=c3u hy.len
  refine c3M hgd s x 26 ho base 5 i0 1 c3r hi v n (ints .u8 xs) hs hown hx ?_
  exact h v w (by simpa using hown) ⟨rfl,rfl,rfl,c3v _,fun _ _ _=>rfl⟩ (.inl rfl)
 | some ad=>
  have hnews:∀ j u,(ints .u8 ys)[j]? =some u->w.cell? (ad.add j)=some u:=by
   intro j u hu
   have hj:j<m:=by have:=(c3x.1 hu).1;have:=hy.len;simp[ints] at *;omega
   obtain⟨b,of,hab⟩:=hy.hd (by omega)
   obtain rfl:=c3K hab
   rw[a0w]
   have hc:=hy.cell b of rfl j hj
   rw[hc,<-hu,a0f]
   simp[nth,List.getD,show j<ys.length by have:=hy.len;omega]
  obtain⟨v',w',hr,h2,h3,-⟩:=run_append_own (P:=Tryz.prog) w base 26 o.type 5 i0 (.int .u8 0) 1 1 c3r hi hz0 hz1 hz2 rfl (by decide) v n (ints .u8 xs) hown ad m c (ints .u8 ys) (by simp[ints,hy.len]) hnews (a2z _ _) (by unfold maxLen;omega) (by omega) hbase
  obtain⟨v2,w2,hr2,h4⟩:=a3o (P:=Tryz.prog) w base 26 o.type 5 i0 (.int .u8 0) 1 1 c3r hi hz0 hz1 hz2 rfl (by decide) v n (ints .u8 xs) hown ad m c (ints .u8 ys) (by simp[ints,hy.len]) hnews (a2z _ _) (by unfold maxLen;omega) (by omega)
  rw[hr] at hr2
  injection hr2 with e1 e2
  subst e1
  refine wpList_plain hgd fun K hK=>?_
  unfold Oper.wp execOp
  simp only[ho,resolve,invoke,builtin,Sem.run_bind,Sem.run_pure,Result.andThen_ok,List.map_toArray,c3I,List.map_nil,hs,hx,hr]
  have e:ints .u8 (xs++ys)=ints .u8 xs++ints .u8 ys:=by simp[ints]
  rw[e] at h
  exact hK _ _ (h v' w' h2 h3 h4)
def okLen(x:Int):Bool:=decide (0<=x)&&decide (x<=15)
def part(x:Int):Nat:=if 0<x then 2^(15-x).toNat else 0
def usedF(l:List Int):Nat:=(l.filter fun x=>decide (0<x)).length
def measF(l:List Int):Nat:=(l.map part).sum
def a0e(l:List Int):Int:=
 if l.length<1∨288<l.length then 1
 else if l.all okLen=false then 1
 else if 32768<measF l then 30
 else if measF l=32768 then 0
 else if usedF l=1/\measF l=16384 then 0
 else 31
theorem b2S(x:Int)(h:okLen x=true):part x<=16384:=by
 unfold okLen at h
 simp only[Bool.and_eq_true,decide_eq_true_eq] at h
 unfold part
 split
 ·have:2^(15-x).toNat<=2^14:=c3R (by decide) (by omega)
  exact this
 ·omega
theorem a0N(l:List Int)(k:Nat)(h:k<l.length):l.take (k+1)=l.take k++[nth l k]:=by
 rw[c3A h,a0o h]
theorem a5P(l:List Int)(k:Nat)(h:k<l.length):usedF (l.take (k+1))=usedF (l.take k)+if 0<nth l k then 1 else 0:=by
 rw[a0N l k h]
 unfold usedF
 rw[c3H,c3p]
 by_cases h0:0<nth l k<;>simp[List.filter_cons,h0]
theorem a5A(l:List Int)(k:Nat)(h:k<l.length):measF (l.take (k+1))=measF (l.take k)+part (nth l k):=by
 rw[a0N l k h];simp[measF]
theorem b3O(l:List Int)(k:Nat)(h:k<l.length):(l.take (k+1)).all okLen=((l.take k).all okLen&&okLen (nth l k)):=by
 rw[a0N l k h];simp
theorem b4I(l:List Int):usedF l<=l.length:=List.length_filter_le _ _
theorem a9z(l:List Int)(h:l.all okLen=true):measF l<=l.length*16384:=by
 induction l with
 | nil=>simp[measF]
 | cons x r ih=>
  simp only[List.all_cons,Bool.and_eq_true] at h
  have h1:=b2S x h.1
  have h2:=ih h.2
  simp only[measF,c3I,c4d,c3q] at *
  omega
theorem a8Z(l:List Int)(k:Nat)(h:k<l.length)(hb:okLen (nth l k)=false):l.all okLen=false:=by
 rw[List.all_eq_false]
 rw[a0o h] at hb
 exact⟨_,List.getElem_mem h,by simp[hb]⟩
theorem b9R(x:Int)(h0:0<x)(h15:x<=15):(part x:Int)=2^(15-x).toNat:=by
 unfold part;rw[if_pos h0];simp
theorem a5b(x:Int)(h0:¬0<x):part x=0:=by unfold part;rw[if_neg h0]
theorem a1P{l:List Int}(h:a0e l=0):l.length<=288/\l.all okLen=true:=by
 unfold a0e at h
 split at h
 ·cases h
 ·rename_i h1
  split at h
  ·cases h
  ·rename_i h2
   exact⟨by omega,by simpa using h2⟩
section
variable {α:Type} (f:α->Int)
def Srt(l:List α):Prop:=l.Pairwise (fun p q=>f p<=f q)
def Sme(r l:List α):Prop:=r.Perm l/\∀ v,r.filter (fun p=>decide (f p=v))=l.filter (fun p=>decide (f p=v))
theorem c2j{r:List α}:∀ {l:List α},Srt f r->Srt f l->Sme f r l->r=l:=by
 induction r with
 | nil=>intro l _ _ h;exact (List.length_eq_zero_iff.1 h.1.length_eq.symm).symm
 | cons p r ih=>
  intro l hr hl h
  match l,h,hl with
  | [],h,_=>have:=h.1.length_eq;simp at this
  | q::l,h,hl=>
   have hw:f p=f q:=by
    have h1:p∈q::l:=h.1.mem_iff.1 (c4g ..)
    have h2:q∈p::r:=h.1.mem_iff.2 (c4g ..)
    have a1:f q<=f p:=by
     rcases c3y.1 h1 with rfl|h1
     ·exact Int.le_refl _
     ·exact (c3s.1 hl).1 p h1
    have a2:f p<=f q:=by
     rcases c3y.1 h2 with rfl|h2
     ·exact Int.le_refl _
     ·exact (c3s.1 hr).1 q h2
    omega
   have hv:=h.2 (f p)
   rw[c3t (by simp),c3t (by simp[hw])] at hv
   injection hv with e1 e2
   subst e1
   refine congrArg (p::·) (ih (c3s.1 hr).2 (c3s.1 hl).2 ⟨(List.perm_cons p).1 h.1,fun v=>?_⟩)
   have hv:=h.2 v
   by_cases e:f p=v
   ·rw[c3t (by simpa using e),c3t (by simpa using e)] at hv
    injection hv
   ·rw[c3w (by simpa using e),c3w (by simpa using e)] at hv
    exact hv
def insW(p:α):List α->List α
 | []=>[p]
 | q::r=>if f q<=f p then q::insW p r else p::q::r
def sortW:List α->List α->List α
 | [],acc=>acc
 | p::r,acc=>sortW r (insW f p acc)
theorem b9o(p x:α)(l:List α):x∈insW f p l↔x=p∨x∈l:=by
 induction l with
 | nil=>simp[insW]
 | cons q r ih=>
  unfold insW
  split
  ·rw[c3y,ih,c3y]
   constructor
   ·rintro (h|h|h)
    ·exact Or.inr (Or.inl h)
    ·exact Or.inl h
    ·exact Or.inr (Or.inr h)
   ·rintro (h|h|h)
    ·exact Or.inr (Or.inl h)
    ·exact Or.inl h
    ·exact Or.inr (Or.inr h)
  ·rw[c3y]
theorem b9q(p:α)(l:List α)(h:Srt f l):Srt f (insW f p l):=by
 induction l with
 | nil=>exact List.pairwise_singleton _ _
 | cons q r ih=>
  unfold insW
  split
  ·rename_i hq
   refine c3s.2 ⟨fun x hx=>?_,ih (c3s.1 h).2⟩
   rcases (b9o f p x r).1 hx with rfl|hx
   ·exact hq
   ·exact (c3s.1 h).1 x hx
  ·rename_i hq
   refine c3s.2 ⟨fun x hx=>?_,h⟩
   rcases c3y.1 hx with rfl|hx
   ·omega
   ·have:=(c3s.1 h).1 x hx;omega
theorem b9p(p:α)(l:List α)(h:Srt f l):Sme f (insW f p l) (l++[p]):=by
 induction l with
 | nil=>exact⟨List.Perm.refl _,fun _=>rfl⟩
 | cons q r ih=>
  unfold insW
  split
  ·have:=ih (c3s.1 h).2
   refine⟨(List.perm_cons q).2 this.1,fun v=>?_⟩
   rw[c4c]
   by_cases e:f q=v
   ·rw[c3t (by simpa using e),c3t (by simpa using e),this.2]
   ·rw[c3w (by simpa using e),c3w (by simpa using e),this.2]
  ·rename_i hq
   refine⟨(List.perm_append_singleton p (q::r)).symm,fun v=>?_⟩
   rw[c3H]
   by_cases e:f p=v
   ·have:List.filter (fun x=>decide (f x=v)) (q::r)=[]:=by
     rw[List.filter_eq_nil_iff]
     intro x hx
     have:f q<=f x:=by
      rcases c3y.1 hx with rfl|hx
      ·exact Int.le_refl _
      ·exact (c3s.1 h).1 x hx
     simp;omega
    rw[c3t (by simpa using e),this];simp[e]
   ·rw[c3w (by simpa using e),c3w (a:=p) (by simpa using e)];simp
theorem a8G(l:List α):∀ acc,Srt f acc->Srt f (sortW f l acc)/\Sme f (sortW f l acc) (acc++l):=by
 induction l with
 | nil=>intro acc h;exact⟨h,by simp[sortW];exact⟨List.Perm.refl _,fun _=>rfl⟩⟩
 | cons p r ih=>
  intro acc h
  have h1:=b9q f p acc h
  have h2:=b9p f p acc h
  obtain⟨h3,h4⟩:=ih _ h1
  refine⟨h3,h4.1.trans ?_,fun v=>(h4.2 v).trans ?_⟩
  ·have:=h2.1.append_right r
   simpa using this
  ·have:=h2.2 v
   rw[c3H,this,<-c3H];simp
theorem a7L(l:List α):Srt f (sortW f l []):=(a8G f l [] List.Pairwise.nil).1
theorem a7K(l:List α):Sme f (sortW f l []) l:=by have:=(a8G f l [] List.Pairwise.nil).2;simpa using this
theorem b4y{r l:List α}(h1:Srt f r)(h2:Sme f r l):r=sortW f l []:=
 c2j f h1 (a7L f l) ⟨h2.1.trans (a7K f l).1.symm,fun v=>(h2.2 v).trans ((a7K f l).2 v).symm⟩
end
abbrev PP:Type:=Int×List Int
def sortP(l:List PP):List PP:=sortW Prod.fst l []
theorem a0M(l:List PP):(sortP l).Perm l:=(a7K Prod.fst l).1
theorem a1H(l:List PP):(sortP l).length=l.length:=(a0M l).length_eq
def leavesF:List Int->Nat->List PP
 | [],_=>[]
 | n::r,i=>if 0<n then (n,[(i:Int)])::leavesF r (i+1) else leavesF r (i+1)
theorem a2I(l:List Int)(x:Int):∀ i,leavesF (l++[x]) i=leavesF l i++if 0<x then [(x,[((i+l.length:Nat):Int)])] else []:=by
 induction l with
 | nil=>intro i;simp only[List.nil_append,leavesF,List.length_nil,Nat.add_zero]
 | cons n r ih=>
  intro i
  rw[c4c,leavesF,leavesF,ih (i+1),c3q,show i+1+r.length=i+(r.length+1) by omega]
  split<;>rfl
def pairsF:List PP->List PP
 | a::b::r=>(a.1+b.1,a.2++b.2)::pairsF r
 | _=>[]
def levelF(lv:List PP):Nat->List PP
 | 0=>[]
 | t+1=>sortP (lv++pairsF (levelF lv t))
def cntF(n:Nat)(S:List Int):List Int:=(List.range n).map fun (i:Nat)=>(S.count (i:Int):Int)
def limLens(cs:List Int)(most:Nat):List Int:=
 cntF cs.length (if (leavesF cs 0).length<2 then (leavesF cs 0).flatMap Prod.snd else ((levelF (sortP (leavesF cs 0)) most).take (2*(leavesF cs 0).length-2)).flatMap Prod.snd)
def a0C(x:Int):Bool:=decide (x<0)||decide (1000000000000<x)
def limF(cs:List Int)(most:Int):List Int×Int:=
 if cs.length=0∨288<cs.length∨most<1∨15<most then ([],1)
 else if cs.any a0C then ([],1)
 else if 2^most.toNat<(leavesF cs 0).length then ([],30)
 else (limLens cs most.toNat,0)
def sumW(l:List PP):Int:=(l.map Prod.fst).sum
def sumS(l:List PP):Nat:=(l.map fun p=>p.2.length).sum
def posP(l:List PP):Prop:=∀ p∈l,0<p.1/\p.2≠[]
theorem c0h(a b:List PP):sumW (a++b)=sumW a+sumW b:=by simp[sumW]
theorem c0g(a b:List PP):sumS (a++b)=sumS a+sumS b:=by simp[sumS]
theorem b1D{a b:List PP}(h:a.Perm b):sumW a=sumW b:=by
 unfold sumW
 have:=h.map Prod.fst
 clear h
 generalize a.map Prod.fst=x at *
 generalize b.map Prod.fst=y at *
 induction this with
 | nil=>rfl
 | cons _ _ ih=>simp[ih]
 | swap x y l=>simp;omega
 | trans _ _ h1 h2=>exact h1.trans h2
theorem b1C{a b:List PP}(h:a.Perm b):sumS a=sumS b:=List.Perm.sum_nat (h.map fun (p:PP)=>p.2.length)
theorem b9T{a b:List PP}(ha:posP a)(hb:posP b):posP (a++b):=fun p hp=>by
 rcases c3O.1 hp with h|h
 ·exact ha p h
 ·exact hb p h
theorem a7z{a b:List PP}(h:a.Perm b)(hb:posP b):posP a:=fun p hp=>hb p (h.mem_iff.1 hp)
theorem a1u{l:List PP}(hl:∀ a b r,l=a::b::r->False):pairsF l=[]:=by
 match l,hl with
 | [],_=>simp[pairsF]
 | [x],_=>simp[pairsF]
 | a::b::r,h=>exact absurd rfl (h a b r)
theorem a2a(l:List PP):(pairsF l).length=l.length/2:=by
 induction l using pairsF.induct with
 | case1 a b r ih=>rw[pairsF,c3q,ih];simp only[c3q];omega
 | case2 l h=>
  match l,h with
  | [],_=>simp[pairsF]
  | [x],_=>simp[pairsF]
  | a::b::r,h=>exact absurd rfl (h a b r)
theorem b5B(l:List PP)(h:posP l):posP (pairsF l):=by
 induction l using pairsF.induct with
 | case1 a b r ih=>
  intro p hp
  rw[pairsF] at hp
  rcases c3y.1 hp with rfl|hp
  ·have h1:=h a (by simp);have h2:=h b (by simp)
   exact⟨by show 0<a.1+b.1;omega,by show a.2++b.2≠[];simp[h1.2]⟩
  ·exact ih (fun q hq=>h q (by simp[hq])) p hp
 | case2 l hl=>intro p hp;rw[a1u hl] at hp;cases hp
theorem a4s(l:List PP)(h:posP l):0<=sumW l:=by
 induction l with
 | nil=>simp[sumW]
 | cons a r ih=>
  have:=ih (fun q hq=>h q (by simp[hq]))
  have:=(h a (by simp)).1
  simp only[sumW,c3I,c4d] at *
  omega
theorem b5C(l:List PP)(h:posP l):sumW (pairsF l)<=sumW l/\sumS (pairsF l)<=sumS l:=by
 induction l using pairsF.induct with
 | case1 a b r ih=>
  have:=ih (fun q hq=>h q (by simp[hq]))
  rw[pairsF]
  simp only[sumW,sumS,c3I,c4d,c3p] at *
  omega
 | case2 l hl=>
  have e:pairsF l=[]:=by
   match l,hl with
   | [],_=>simp[pairsF]
   | [x],_=>simp[pairsF]
   | a::b::r,h=>exact absurd rfl (h a b r)
  rw[e]
  exact⟨a4s l h,Nat.zero_le _⟩
theorem a9w(lv:List PP)(h:posP lv)(t:Nat):posP (levelF lv t)/\sumW (levelF lv t)<=t*sumW lv/\sumS (levelF lv t)<=t*sumS lv/\(levelF lv t).length<=2*lv.length:=by
 induction t with
 | zero=>exact⟨(by intro p hp;cases hp),by simp[levelF,sumW],by simp[levelF,sumS],by simp[levelF]⟩
 | succ t ih=>
  obtain⟨h1,h2,h3,h4⟩:=ih
  have hp:=a0M (lv++pairsF (levelF lv t))
  have hq:=b5C _ h1
  refine⟨a7z hp (b9T h (b5B _ h1)),?_,?_,?_⟩
  ·rw[levelF,b1D hp,c0h]
   have:((t+1:Nat):Int)*sumW lv=t*sumW lv+sumW lv:=by rw[Int.natCast_add,Int.add_mul];simp
   omega
  ·rw[levelF,b1C hp,c0g,Nat.add_mul,Nat.one_mul];omega
  ·rw[levelF,a1H,c3p,a2a];omega
theorem b6W{l:List PP}(h:posP l){p:PP}(hp:p∈l):p.1<=sumW l:=by
 induction l with
 | nil=>cases hp
 | cons a r ih=>
  have hr:posP r:=fun q hq=>h q (by simp[hq])
  have h0:=a4s r hr
  have ha:=(h a (by simp)).1
  have e:sumW (a::r)=a.1+sumW r:=by simp[sumW]
  rcases c3y.1 hp with rfl|hp
  ·omega
  ·have:=ih hr hp;omega
theorem c1v{l:List PP}{p:PP}(hp:p∈l):p.2.length<=sumS l:=by
 induction l with
 | nil=>cases hp
 | cons a r ih=>
  have e:sumS (a::r)=a.2.length+sumS r:=by simp[sumS]
  rcases c3y.1 hp with rfl|hp
  ·omega
  ·have:=ih hp;omega
theorem a3A(cs:List Int)(h:cs.any a0C=false):∀ i,posP (leavesF cs i)/\sumW (leavesF cs i)<=cs.length*1000000000000/\sumS (leavesF cs i)=(leavesF cs i).length/\(leavesF cs i).length<=cs.length/\∀ p∈leavesF cs i,∀ s∈p.2,(i:Int)<=s/\s<((i+cs.length:Nat):Int):=by
 induction cs with
 | nil=>intro i;exact⟨(by intro p hp;cases hp),by simp[leavesF,sumW],by simp[leavesF,sumS],by simp[leavesF],(by intro p hp;cases hp)⟩
 | cons x r ih=>
  intro i
  rw[List.any_cons,Bool.or_eq_false_iff] at h
  obtain⟨h1,h2,h3,h4,h5⟩:=ih h.2 (i+1)
  have hx:=h.1
  unfold a0C at hx
  rw[Bool.or_eq_false_iff,decide_eq_false_iff_not,decide_eq_false_iff_not] at hx
  rw[leavesF]
  split
  ·rename_i hx0
   refine⟨?_,?_,?_,?_,?_⟩
   ·intro p hp
    rcases c3y.1 hp with rfl|hp
    ·exact⟨hx0,by simp⟩
    ·exact h1 p hp
   ·simp only[sumW,c3I,c4d,c3q] at *;omega
   ·simp only[sumS,c3I,c4d,c3q,List.length_nil] at *;omega
   ·simp only[c3q];omega
   ·intro p hp s hs
    rcases c3y.1 hp with rfl|hp
    ·rw[List.mem_singleton.1 hs];simp only[c3q];omega
    ·have:=h5 p hp s hs;simp only[c3q];omega
  ·refine⟨h1,?_,h3,?_,?_⟩
   ·simp only[c3q] at *;omega
   ·simp only[c3q];omega
   ·intro p hp s hs
    have:=h5 p hp s hs;simp only[c3q];omega
def inR(n:Nat)(l:List PP):Prop:=∀ p∈l,∀ s∈p.2,0<=s/\s<(n:Int)
theorem b5A{n:Nat}(l:List PP)(h:inR n l):inR n (pairsF l):=by
 induction l using pairsF.induct with
 | case1 a b r ih=>
  intro p hp s hs
  rw[pairsF] at hp
  rcases c3y.1 hp with rfl|hp
  ·rcases c3O.1 hs with hs|hs
   ·exact h a (by simp) s hs
   ·exact h b (by simp) s hs
  ·exact ih (fun q hq=>h q (by simp[hq])) p hp s hs
 | case2 l hl=>intro p hp;rw[a1u hl] at hp;cases hp
theorem b0V{n:Nat}(lv:List PP)(h:inR n lv):∀ t,inR n (levelF lv t)
 | 0=>by intro p hp;cases hp
 | t+1=>by
  intro p hp s hs
  rw[levelF] at hp
  rcases c3O.1 ((a0M _).mem_iff.1 hp) with hp|hp
  ·exact h p hp s hs
  ·exact b5A _ (b0V lv h t) p hp s hs
theorem a1o(n:Nat)(S:List Int):(cntF n S).length=n:=by simp[cntF]
theorem a0t(n:Nat)(S:List Int)(i:Nat)(h:i<n):nth (cntF n S) i=(S.count (i:Int):Int):=by
 simp[nth,cntF,List.getD,h]
theorem a3R(n:Nat):cntF n []=List.replicate n 0:=by
 refine c3T (by simp[cntF]) fun i h1 h2=>?_
 simp[cntF]
theorem a2Q(n:Nat)(S:List Int)(s:Nat)(h:s<n):cntF n (S++[(s:Int)])=(cntF n S).set s (nth (cntF n S) s+1):=by
 refine c3T (by simp[cntF]) fun i h1 h2=>?_
 rw[List.getElem_set]
 simp only[cntF,List.getElem_map,c4f,List.count_append]
 by_cases e:s=i
 ·subst e
  rw[if_pos rfl]
  have:=a0t n S s h
  unfold cntF at this
  rw[this];simp
 ·have hz:List.count (i:Int) [(s:Int)]=0:=List.count_eq_zero_of_not_mem (by simp;omega)
  rw[if_neg e,hz,Nat.add_zero]
def lenCnt(l:List Int):List Int:=cntF 16 (l.filter fun x=>decide (0<x))
def lowF(cnt:List Int):Nat->Int
 | 0=>0
 | n+1=>2*(lowF cnt n+nth cnt n)
def lowL(cnt:List Int)(n:Nat):List Int:=(List.range 16).map fun j=>if j<n then lowF cnt j else 0
theorem a1M(l:List Int):(lenCnt l).length=16:=a1o _ _
theorem a4R(c:List Int)(n:Nat):(lowL c n).length=16:=by simp[lowL]
theorem a7h(l:List Int)(k:Nat)(h:k<l.length)(h0:0<nth l k)(h15:nth l k<=15):∃ s:Nat,nth l k=s/\s<16/\lenCnt (l.take (k+1))=(lenCnt (l.take k)).set s (nth (lenCnt (l.take k)) s+1):=by
 obtain⟨s,hs⟩:=c3D (show 0<=nth l k by omega)
 refine⟨s,hs,by omega,?_⟩
 unfold lenCnt
 rw[a0N l k h,c3H,c3t (by simpa using h0),List.filter_nil,hs]
 exact a2Q 16 _ s (by omega)
theorem a7g(l:List Int)(k:Nat)(h:k<l.length)(h0:¬0<nth l k):lenCnt (l.take (k+1))=lenCnt (l.take k):=by
 unfold lenCnt
 rw[a0N l k h,c3H,c3w (by simpa using h0),List.filter_nil,List.append_nil]
theorem a1F(l:List Int)(s:Nat)(h:s<16):0<=nth (lenCnt l) s/\nth (lenCnt l) s<=l.length:=by
 unfold lenCnt
 rw[a0t _ _ _ h]
 have h1:=List.count_le_length (a:=(s:Int)) (l:=l.filter fun x=>decide (0<x))
 have h2:=List.length_filter_le (fun x=>decide (0<x)) l
 omega
theorem c1x(l:List Int)(hl:l.length<=288)(n:Nat)(hn:n<=16):0<=lowF (lenCnt l) n/\lowF (lenCnt l) n<=(2^n-1)*576:=by
 induction n with
 | zero=>simp[lowF]
 | succ n ih=>
  have h1:=ih (by omega)
  have h2:=a1F l n (by omega)
  rw[lowF]
  have h3:(2:Int)^(n+1)=2*2^n:=by rw[c3L];omega
  rw[h3]
  generalize (2:Int)^n=P at *
  omega
theorem b7I(n:Nat)(hn:n<=16):(2:Int)^n<=65536:=by
 have:2^n<=2^16:=c3R (by decide) hn
 have:((2^n:Nat):Int)<=((2^16:Nat):Int):=by exact_mod_cast this
 simpa using this
theorem a1N(l:List Int)(hl:l.length<=288)(n:Nat)(hn:n<=16):0<=lowF (lenCnt l) n/\lowF (lenCnt l) n<=40000000:=by
 have:=c1x l hl n hn
 have:=b7I n hn
 omega
theorem b7h(c:List Int):lowL c 1=List.replicate 16 0:=by
 refine c3T (by simp[lowL]) fun j h1 h2=>?_
 simp only[lowL,List.getElem_map,c4f,List.getElem_replicate]
 split
 ·rw[show j=0 by omega];rfl
 ·rfl
theorem b7g(c:List Int)(n:Nat)(hn:n<16):lowL c (n+1)=(lowL c n).set n (lowF c n):=by
 refine c3T (by simp[lowL]) fun j h1 h2=>?_
 rw[List.getElem_set]
 simp only[lowL,List.getElem_map,c4f]
 by_cases e:n=j
 ·subst e;rw[if_pos rfl,if_pos (by omega)]
 ·rw[if_neg e]
  by_cases e2:j<n
  ·rw[if_pos (by omega),if_pos e2]
  ·rw[if_neg (by omega),if_neg e2]
open Go.RowKit
def revF(c:Int):Nat->Int
 | 0=>0
 | k+1=>2*revF c k+c/2^k%2
theorem a9L(c:Int):∀ k,0<=revF c k/\revF c k<2^k
 | 0=>by simp[revF]
 | k+1=>by
  have:=a9L c k
  rw[revF,c3L]
  omega
theorem b1P(n:Int)(h₀:0<=n)(h₁:n<2^62):IntKind.i64.wrap n=n:=by rw[IntKind.wrap_i64];omega
theorem b8q(n:Int)(h₀:0<=n)(h₁:n<2^32):IntKind.u32.wrap n=n:=by rw[IntKind.wrap_u32];omega
theorem c1c(d:Int)(h0:0<=d)(h:d<=1000000000):Go.bits .and .i64 d 1=d%2:=by
 have:=bits_mask .i64 62 (by decide) b1P 1 (by decide) d h0 (by omega)
 simpa using this
theorem c2C(v b:Int)(h0:0<=v)(h:v<65536)(hb:b=0∨b=1):Go.bits .or .u32 (v*2) b=2*v+b:=by
 have:=bits_join .u32 32 (by decide) b8q 1 (v*2) b (by omega) (by omega) (by omega) (by omega) (by omega) (by omega)
 rw[this];omega
theorem c0k(v d:Int)(h0:0<=v)(h:v<65536)(d0:0<=d)(d1:d<=1000000000):Go.bits .or .u32 (v*2) (Go.bits .and .i64 d 1%4294967296)=2*v+d%2:=by
 rw[c1c d d0 d1,c2C v _ h0 h (by omega)];omega
theorem b2m(c:Int)(k:Nat):c/2^k/2=c/2^(k+1):=by
 rw[c3L,a4f _ _ _ (a0i k)]
theorem b1L(w:World)(c:Int)(n:Nat)(hc0:0<=c)(hc:c<=1000000000)(hn:n<=16) :
  Calls Tryz.prog 119 #[.int .i64 c,.int .i64 n] w fun e w'=>e=.returned (.int .u32 (revF c n))/\w=w':=by
 go_enter Tryz.func119,Tryz.ntmps119
 go_wp2_with fail
 go_loop [0,5,7] (fun cv v i=>∃ (k:Nat) (d:Int),k<=n/\i=.int .i64 k/\cv=.int .i64 d/\0<=d/\d<=1000000000/\v=.int .u32 (revF c k)/\Hid (d=c/2^k)) (fun _ _ i=>n-(intOf i).toNat)
 case atStart=>exact⟨0,c,by omega,rfl,rfl,hc0,hc,rfl,c3o (by simp)⟩
 case round=>
  obtain⟨k,d,hk,rfl,rfl,hd0,hd1,rfl,HD⟩:=hrel
  have hb:=a9L c k
  by_cases hlt:k<n
  ·have hp:(2:Int)^k<=65536:=b7I k (by omega)
   have hv:revF c k<65536:=by omega
   obtain⟨hv0,-⟩:=hb
   have E:Hid (revF c (k+1)=2*revF c k+d%2):=by show _=_;rw[HD.out];rfl
   clear hp
   generalize revF c k=v at *
   go_wp2_with fail
   refine⟨⟨k+1,d/2,by omega,by go_num,rfl,by omega,by omega,by rw[E.out,c0k v d hv0 hv hd0 hd1],c3o (by rw[HD.out,b2m])⟩,by simp[intOf];omega⟩
  ·obtain rfl:k=n:=by omega
   go_wp2_with fail
   go_ret
   exact⟨rfl,rfl⟩
open Go.RowKit
def a2x(bs:List Int)(m:Nat):List Int:=(List.range m).map (bitAt bs)
theorem a2P(bs:List Int)(m:Nat):(a2x bs m).length=m:=by simp[a2x]
theorem b4R(bs:List Int)(m:Nat):a2x bs (m+1)=a2x bs m++[bitAt bs m]:=by simp[a2x,List.range_succ]
theorem a4D(bs:List Int)(m j:Nat)(h:j<m):nth (a2x bs m) j=bitAt bs j:=by simp[a2x,nth,List.getD,h]
theorem a8D(w:World)(k:IntKind)(t:TypeId)(x:Int):RI k (w.alloc (.cells #[.int k x] t)) (some ⟨w.heap.size,0,none⟩) 1 [x]:=by
 have:=(a0d w t (ints k [x]))
 have h2:=Blk.ri (xs:=[x]) (ys:=[]) (k:=k) (by simpa [ints] using this)
 exact h2
theorem b9L(w:World)(A:Option Addr)(n c:Nat)(bs:List Int)(hr:RI .u8 w A n bs)(hbyte:∀ j,0<=nth bs j/\nth bs j<=255)(hn:n<=10000000) :
  Calls Tryz.prog 129 #[.slice A n c] w fun e w'=>∃ v,e=.returned v/\w'.ownsRow w.heap.size 5 1 v (8*n) (ints .u8 (a2x bs (8*n)))/\Below w.heap.size w w':=by
 have HR:=c3o hr
 have HBY:=c3o hbyte
 clear hr hbyte
 go_enter Tryz.func129,Tryz.ntmps129
 go_wp2_with fail
 go_loopw [3,4] (fun v iv wr=>∃ i:Nat,i<=n/\iv=.int .i64 i/\Hid (wr.ownsRow w.heap.size 5 1 v (8*i) (ints .u8 (a2x bs (8*i))))/\Hid (Below w.heap.size w wr)) (fun _ iv _=>n-(intOf iv).toNat)
 case atStart=>exact⟨0,by omega,rfl,c3o (World.ownsRow_nil _ _ _ _),c3o (c3P _ _)⟩
 case round=>
  rename_i v _ _
  obtain⟨i,hi,rfl,HO,HB⟩:=hrel
  by_cases hlt:i<n
  ·obtain⟨b,o,rfl,hc⟩:=HR.out.at hlt
   have hc:=(Keeps.of_below (S:=[]) HB.out).cell (by simp) hc
   obtain⟨hb0,hb1⟩:=HBY.out i
   obtain⟨wm,rfl⟩:∃ wm:World,wm=wr:=⟨_,rfl⟩
   go_wp2_with fail
   go_loopw [3,5,6] (fun v cv kv wr=>∃ (k:Nat) (x:Int),k<=8/\kv=.int .i64 k/\cv=.int .u8 x/\0<=x/\x<=255/\Hid (x=nth bs i/2^k)/\Hid (wr.ownsRow w.heap.size 5 1 v (8*i+k) (ints .u8 (a2x bs (8*i+k))))/\Hid (Below w.heap.size w wr)) (fun _ _ kv _=>8-(intOf kv).toNat)
   case atStart=>exact⟨0,nth bs i,by omega,rfl,rfl,hb0,hb1,c3o (by simp),HO,HB⟩
   case round=>
    clear HO HB
    obtain⟨k,x,hk,rfl,rfl,hx0,hx1,HX,HO,HB⟩:=hrel
    by_cases hlk:k<8
    ·have HBIT:Hid (bitAt bs (8*i+k)=x%2):=by
      show _=_
      unfold bitAt
      rw[HX.out,show (8*i+k)/8=i by omega,show (8*i+k)%8=k by omega]
     have hge:=HB.out.size
     have e3:x.tmod 2=x%2:=by rw[Int.tmod_eq_emod_of_nonneg hx0]
     have e4:x%2%256=x%2:=by omega
     have HRI:Hid (RI .u8 (wr.alloc (.cells #[.int .u8 (x%2)] 5)) (some ⟨wr.heap.size,0,none⟩) 1 [x%2]):=c3o (a8D wr _ _ _)
     have HOA:=c3o (a0b HO.out ((Keeps.refl [] wr).alloc (.cells #[.int .u8 (x%2)] 5)) (by simp))
     have HBA:=c3o (HB.out.alloc hge (.cells #[.int .u8 (x%2)] 5))
     clear HO HB
     go_wp2_with (at_builtin;refine a4B rfl (.tmp 21) (.tmp 24) rfl w.heap.size _ _ _ rfl (by exact HOA.out) _ 1 1 [x%2] rfl (by exact HRI.out) ?c1 ?c3 ?c4 ?_)
     case c1=>simp
     case c3=>omega
     case c4=>simp;omega
     intro v' w1 hv hg
     have HO1:Hid (w1.ownsRow w.heap.size 5 1 v' (8*i+(k+1)) (ints .u8 (a2x bs (8*i+(k+1))))):=by
      rw[<-c3Z,b4R,HBIT.out];exact hv
     have HB1:=c3o (HBA.out.grown hg (by simp;omega) (fun k hk=>(HOA.out.lt k hk).1))
     clear hv hg HOA HBA
     go_wp2_with fail
     go_roundw
     case rel=>exact⟨k+1,x/2,by omega,by go_num,rfl,by omega,by omega,c3o (by rw[HX.out,b2m]),HO1,HB1⟩
     case measure=>simp[intOf];omega
    ·obtain rfl:k=8:=by omega
     go_wp2_with fail
     go_roundw
     case rel=>exact⟨i+1,by omega,by go_num,HO,HB⟩
     case measure=>simp[intOf];omega
  ·obtain rfl:i=n:=by omega
   go_wp2_with fail
   go_ret
   exact⟨_,rfl,HO.out,HB.out⟩
open Go.RowKit
theorem b6N(k:IntKind)(xs:List Int):∀ v∈ints k xs,v.oneCell'=true:=by
 intro u hu;simp only[ints,c3W] at hu;obtain⟨x,_,rfl⟩:=hu;rfl
theorem a0j{w:World}{base:Nat}{e:TypeId}{size n:Nat}{v:Value}{xs:List Value}(h:w.ownsRow base e size v n xs)(k:Nat)(hk:v.ownBlock=some k):base<=k:=by
 rcases h.2 with⟨rfl,_⟩|⟨g,cap,cur,rfl,hb,_⟩
 ·simp[Value.ownBlock] at hk
 ·have:g=k:=by simpa [Value.ownBlock] using hk
  omega
theorem a2T{w:World}{base:Nat}{e:TypeId}{size n:Nat}{v:Value}{xs:List Value}(h:w.ownsRow base e size v n xs)(k:Nat)(hk:v.ownBlock=some k):k<w.heap.size:=by
 rcases h.2 with⟨rfl,_⟩|⟨g,cap,cur,rfl,hb,hh,_⟩
 ·simp[Value.ownBlock] at hk
 ·have:g=k:=by simpa [Value.ownBlock] using hk
  subst this
  exact (c3B.1 hh).1
theorem a0Y {ops:Array Oper} {rest:List Oper} {o:Oper} {a:Act} {Q:Exit->Act->World->Prop} {w:World} (hgd:o.guard=none) (s x:Operand)
  (ho:o.op=.call { callee:=.builtin .append,args:=#[s,x],argTypes:=#[90,90] })
  (base:Nat) (v:Value) (n:Nat) (xs:List Int) (hs:a.eval s=v) (hown:w.ownsRow base 3 1 v n (ints .i64 xs))
  (A:Option Addr) (m c:Nat) (ys:List Int) (hx:a.eval x=.slice A m c) (hy:RI .i64 w A m ys) (hnil:A=none->m=0/\c=0) (hpl:∀ ad,A=some ad->∃ b o,ad=⟨b,o,none⟩)
  (hn:n+m<=8000000000) (hbase:base<=w.heap.size)
  (h:∀ v' w',w'.ownsRow base 3 1 v' (n+m) (ints .i64 (xs++ys))->w.grownBy w' v.ownBlock->wpList Tryz.prog ops Q rest (a.put o.dst v') w'):wpList Tryz.prog ops Q (o::rest) a w:=by
 obtain⟨i0,hi,hz0,hz1,hz2⟩:=c3Y a1y
 cases A with
 | none=>
  obtain⟨rfl,rfl⟩:=hnil rfl
  obtain rfl:ys=[]:=c3u hy.len
  refine c3M hgd s x 90 ho base 3 i0 1 Tryz.underlying90 hi v n (ints .i64 xs) hs hown hx ?_
  exact h v w (by simpa using hown) ⟨rfl,rfl,rfl,c3v _,fun _ _ _=>rfl⟩
 | some ad=>
  obtain⟨b,of,rfl⟩:=hpl ad rfl
  refine wpList_append_own _ hgd s x 90 ho base 3 i0 (.int .i64 0) 1 8 Tryz.underlying90 hi hz0 hz1 hz2 rfl (by decide) v n (ints .i64 xs) hs hown ⟨b,of,none⟩ m c (ints .i64 ys) hx (by simp[ints,hy.len]) ?_ (b6N _ _) (by unfold maxLen;omega) (by omega) hbase ?_
  ·intro j u hu
   have hj:j<m:=by have:=(c3x.1 hu).1;have:=hy.len;simp[ints] at *;omega
   rw[a0w]
   have hc:=hy.cell b of rfl j hj
   rw[hc,<-hu,a0f]
   simp[nth,List.getD,show j<ys.length by have:=hy.len;omega]
  ·intro v' w' h2 h3 _
   have e:ints .i64 (xs++ys)=ints .i64 xs++ints .i64 ys:=by simp[ints]
   rw[e] at h
   exact h v' w' h2 h3
theorem b9g(w:World)(n:Nat)(h0:0<n)(hn:n<=4000000000):∃ c w1,(∀ ty,(Builtin.append_ #[90,3] ty #[.slice none 0 0,.int .i64 n]).run Tryz.prog w=.ok (.slice (some ⟨w.heap.size,0,none⟩) n c) w1) /\
  (∀ base,base<=w.heap.size->w1.ownsRow base 3 1 (.slice (some ⟨w.heap.size,0,none⟩) 0 c) 0 [])/\n<=c/\c<=9223372036854775807/\Below w.heap.size w w1:=by
 obtain⟨i0,hi,hz0,hz1,hz2⟩:=c3Y a1y
 have hr:=fun ty=>Lib.run_append_grow_zeros w 90 3 ty 3 i0 (.int .i64 0) .i64 .i64 Tryz.underlying90 Tryz.underlying3 hi hz0 none 0 0 [] (run_firstCells_none w.drew i0.size 0 0 0) n h0 (by rw[hz1];decide) (by omega) (by omega) (by rw[hz2];omega) (by rw[hz2];exact growslice_fits (by omega) (by omega))
 simp only[c3X] at hr
 have hge:=grownCap_ge w n 0 3
 have hcm:=grownCap_le_maxLen w n 0 3 (by unfold maxLen;omega)
 refine⟨_,_,hr,fun base hb=>?_,hge,by unfold maxLen at hcm;exact hcm,?_⟩
 ·refine⟨rfl,.inr ⟨w.heap.size,_,_,rfl,hb,heap_alloc_new w.drew _,Nat.zero_le _,hcm,?_,rfl⟩⟩
  simp[size_zeroCells,Value.cells]
  omega
 ·exact ((c3P _ _).drew).alloc (c3v _) _
theorem a5R {ops:Array Oper} {rest:List Oper} {o:Oper} {a:Act} {Q:Exit->Act->World->Prop} {w w1:World} (hgd:o.guard=none) (s x:Operand) (t ti:TypeId)
  (ho:o.op=.call { callee:=.builtin .append,args:=#[s,x],argTypes:=#[t,ti] }) (u y v:Value) (hs:a.eval s=u) (hx:a.eval x=y)
  (hrun:∀ ty,(Builtin.append_ #[t,ti] ty #[u,y]).run Tryz.prog w=.ok v w1) (h:wpList Tryz.prog ops Q rest (a.put o.dst v) w1):wpList Tryz.prog ops Q (o::rest) a w:=by
 refine wpList_plain hgd fun K hK=>?_
 unfold Oper.wp
 simp[execOp,ho,resolve,invoke,builtin,hs,hx,hrun,Result.andThen]
 exact hK _ _ h
theorem b2t(w:World)(A:Option Addr)(hA:A=none)(n:Nat)(hn:n<=4000000000) :
  Calls Tryz.prog 93 #[.slice A 0 0,.int .i64 n] w fun e w'=>∃ v,e=.returned v/\(∀ base,base<=w.heap.size->w'.ownsRow base 3 1 v 0 [])/\Below w.heap.size w w':=by
 have e0:decide ((n:Int)<0)=false:=by simp
 have HA:=c3o hA
 clear hA
 by_cases h0:0<n
 ·obtain⟨c,w1,hr,ho,hc,hc2,hb⟩:=b9g w n h0 hn
  have e1:decide ((0:Int)<n)=true:=by simp;omega
  have HO:=c3o ho
  have HB:=c3o hb
  have HR:=c3o hr
  clear ho hb hr
  go_enter Tryz.func93,Tryz.ntmps93
  go_wp2_with (with_reducible refine a5R rfl (.tmp 20) (.tmp 21) _ _ rfl (.slice A 0 0) (.int .i64 n) _ rfl rfl (by rw[HA.out];exact HR.out) ?_)
  go_wp2
  go_ret
  exact⟨_,rfl,HO.out,HB.out⟩
 ·obtain rfl:n=0:=by omega
  go_enter Tryz.func93,Tryz.ntmps93
  go_wp2
  go_ret
  exact⟨_,rfl,fun base _=>by rw[HA.out];exact World.ownsRow_nil _ _ _ _,c3P _ _⟩
theorem a8r(w:World)(n:Nat)(hn:n<=4000000000) :
  Calls Tryz.prog 93 #[.slice none 0 0,.int .i64 n] w fun e w'=>∃ v,e=.returned v/\(∀ base,base<=w.heap.size->w'.ownsRow base 3 1 v 0 [])/\Below w.heap.size w w':=b2t w none rfl n hn
open Go.RowKit
def vbits(r:Int)(k:Nat):List Int:=(List.range k).map fun t=>r/2^t%2
theorem a0k(r:Int)(k:Nat):(vbits r k).length=k:=by simp[vbits]
theorem b1N(r:Int)(k t:Nat)(h:t<k):nth (vbits r k) t=r/2^t%2:=by simp[vbits,nth,List.getD,h]
theorem b1M(r:Int)(j k:Nat):vbits r (j+k)=vbits r j++vbits (r/2^j) k:=by
 unfold vbits
 rw[List.range_add,c4e,List.map_map]
 congr 1
 refine List.map_congr_left fun t _=>?_
 simp only[Function.comp]
 rw[c3N,a4f _ _ _ (a0i _)]
structure WB (xs bl:List Int):Prop where
 len:xs.length=(bl.length+7)/8
 byte:∀ j,0<=nth xs j/\nth xs j<=255
 top:bl.length%8≠0->nth xs (bl.length/8)<2^(bl.length%8)
 bit:∀ i,i<bl.length->bitAt xs i=nth bl i
theorem WB.zero:WB [] []:=⟨rfl,fun j=>by simp[nth],fun h=>absurd rfl h,fun i h=>by simp at h⟩
def padF(xs bl:List Int):List Int:=if bl.length%8=0 then xs++[0] else xs
theorem b7C{xs bl:List Int}(h:WB xs bl):(padF xs bl).length=bl.length/8+1:=by
 unfold padF
 have:=h.len
 split
 ·rw[c3p,List.length_singleton];omega
 ·omega
theorem b7D{xs bl:List Int}(h:WB xs bl)(j:Nat):nth (padF xs bl) j=nth xs j:=by
 unfold padF
 split
 ·by_cases hj:j<xs.length
  ·simp[nth,List.getD,c3S hj]
  ·by_cases hj2:j=xs.length
   ·subst hj2;simp[nth,List.getD]
   ·simp[nth,List.getD,c4b (show xs.length<=j by omega),c4b (show (xs++[0]).length<=j by simp;omega)]
 ·rfl
theorem b4p{xs bl:List Int}(h:WB xs bl):0<=nth (padF xs bl) (bl.length/8)/\nth (padF xs bl) (bl.length/8)<2^(bl.length%8):=by
 rw[b7D h]
 refine⟨(h.byte _).1,?_⟩
 by_cases h8:bl.length%8=0
 ·have:nth xs (bl.length/8)=0:=by
   have:=h.len
   simp[nth,List.getD,c4b (show xs.length<=bl.length/8 by omega)]
  rw[this];exact a0i _
 ·exact h.top h8
theorem a1Z(xs:List Int)(i:Nat)(y:Int)(h:i<xs.length):nth (xs.set i y) i=y:=by simp[nth,List.getD,h]
theorem a2R(xs:List Int)(i j:Nat)(y:Int)(h:j≠i):nth (xs.set i y) j=nth xs j:=by simp[nth,List.getD,List.getElem?_set_ne (Ne.symm h)]
theorem b2H(r:Int)(k t:Nat)(h:t<k):r%2^k/2^t%2=r/2^t%2:=by
 have e:r=r%2^k+2^(k-t-1)*2*(r/2^k)*2^t:=by
  have h1:=Int.emod_add_mul_ediv r (2^k)
  have h2:(2:Int)^k=2^(k-t-1)*2*2^t:=by rw[<-c3L,<-c3N];congr 1;omega
  rw[c3Q (2^(k-t-1)*2),Int.mul_comm (r/2^k),<-c3Q,<-h2]
  omega
 have h3:r/2^t=r%2^k/2^t+2^(k-t-1)*2*(r/2^k):=by
  conv=>lhs;rw[e]
  exact Int.add_mul_ediv_right _ _ (Int.ne_of_gt (a0i t))
 rw[h3,Int.mul_comm (2^(k-t-1)) 2,c3Q 2]
 omega
theorem b9Q{xs bl:List Int}(h:WB xs bl)(r:Int)(k:Nat)(h1:1<=k)(hk:bl.length%8+k<=8) :
  WB ((padF xs bl).set (bl.length/8) (nth (padF xs bl) (bl.length/8)+r%2^k*2^(bl.length%8))) (bl++vbits r k):=by
 have hpl:=b7C h
 obtain⟨x0,x1⟩:=b4p h
 have hpn:=b7D h
 have hby:=h.byte
 generalize hX:padF xs bl=X at *
 obtain⟨s,hs⟩:∃ s,s=bl.length%8:=⟨_,rfl⟩
 obtain⟨q,hq⟩:∃ q,q=bl.length/8:=⟨_,rfl⟩
 rw[<-hs] at hk x1 ⊢
 rw[<-hq] at hpl x0 x1 ⊢
 have hL:bl.length=8*q+s:=by omega
 have hr0:=Int.emod_nonneg r (show (2:Int)^k≠0 from Int.ne_of_gt (a0i k))
 have hr1:=Int.emod_lt_of_pos r (a0i k)
 have hps:=a0i s
 generalize hx:nth X q=x at *
 obtain⟨y,hy⟩:∃ y,y=x+r%2^k*2^s:=⟨_,rfl⟩
 rw[<-hy]
 have y0:0<=y:=by rw[hy];have:=Int.mul_nonneg hr0 (Int.le_of_lt hps);omega
 have y1:y<2^(s+k):=by
  have a:r%2^k*2^s<=(2^k-1)*2^s:=Int.mul_le_mul_of_nonneg_right (by omega) (Int.le_of_lt hps)
  rw[Int.sub_mul,Int.one_mul,<-c3N,Nat.add_comm k s] at a
  omega
 have y2:=a2M (s+k) hk
 have ydiv:y/2^s=r%2^k:=by
  rw[hy,Int.add_mul_ediv_right _ _ (Int.ne_of_gt hps),Int.ediv_eq_zero_of_lt x0 x1];omega
 refine⟨?_,fun j=>?_,fun h8=>?_,fun i hi=>?_⟩
 ·rw[List.length_set,hpl,c3p,a0k];omega
 ·by_cases hj:j=q
  ·subst hj;rw[a1Z _ _ _ (by omega)];omega
  ·rw[a2R _ _ _ _ hj,hpn];exact hby j
 ·rw[c3p,a0k] at h8 ⊢
  rw[show (bl.length+k)/8=q by omega,a1Z _ _ _ (by omega),show (bl.length+k)%8=s+k by omega]
  exact y1
 ·rw[c3p,a0k] at hi
  by_cases hlt:i<bl.length
  ·rw[show nth (bl++vbits r k) i=nth bl i by simp[nth,List.getD,c3S hlt],<-h.bit i hlt]
   unfold bitAt
   by_cases hj:i/8=q
   ·rw[hj,a1Z _ _ _ (by omega),<-hpn,hx,hy]
    have ht:i%8<s:=by omega
    generalize i%8=t at *
    have e:(2:Int)^s=2^(s-t-1)*2*2^t:=by rw[<-c3L,<-c3N];congr 1;omega
    rw[e,<-c3Q,Int.add_mul_ediv_right _ _ (Int.ne_of_gt (a0i t)),<-c3Q]
    omega
   ·rw[a2R _ _ _ _ hj,hpn]
  ·obtain⟨t,rfl⟩:∃ t,i=bl.length+t:=⟨i-bl.length,by omega⟩
   have e2:nth (bl++vbits r k) (bl.length+t)=nth (vbits r k) t:=by simp[nth,List.getD,List.getElem?_append_right]
   rw[e2,b1N _ _ _ (by omega)]
   unfold bitAt
   rw[show (bl.length+t)/8=q by omega,show (bl.length+t)%8=s+t by omega,a1Z _ _ _ (by omega),c3N,<-a4f _ _ _ hps,ydiv,b2H r k t (by omega)]
theorem b9V(x r:Int)(k s:Nat)(hx:0<=x)(hx1:x<2^s)(hr:0<=r)(hr1:r<4294967296)(hk:s+k<=8) :
  Go.bits .or .u8 x (IntKind.u8.wrap (IntKind.u8.wrap (Go.bits .and .u64 r (2^k-1))*2^s))=x+r%2^k*2^s:=by
 have hps:=a0i s
 have h0:=Int.emod_nonneg r (show (2:Int)^k≠0 from Int.ne_of_gt (a0i k))
 have h1:=Int.emod_lt_of_pos r (a0i k)
 have hk8:=a2M k (by omega)
 have hsk:=a2M (s+k) hk
 have hs8:=a2M s (by omega)
 have a0:0<=r%2^k*2^s:=Int.mul_nonneg h0 (Int.le_of_lt hps)
 have a1:r%2^k*2^s<256:=by
  have a:r%2^k*2^s<=(2^k-1)*2^s:=Int.mul_le_mul_of_nonneg_right (by omega) (Int.le_of_lt hps)
  rw[Int.sub_mul,Int.one_mul,<-c3N,Nat.add_comm k s] at a
  omega
 rw[bits_mask .u64 64 (by decide) a1v k (by omega) r hr (by omega),wraps_u8 _ h0 (by omega),wraps_u8 _ a0 (by omega)]
 have hj:=bits_join .u8 8 (by decide) wraps_u8 s (r%2^k*2^s) x a0 (by simp) (by omega) hx hx1 (by omega)
 obtain⟨a,ha⟩:=c3D a0
 obtain⟨b,rfl⟩:=c3D hx
 rw[ha] at hj a1 ⊢
 have ha':a<2^8:=by omega
 have hb':b<2^8:=by omega
 rw[(bits_nat .u8 8 (by decide) wraps_u8 a b ha' hb').2] at hj
 rw[(bits_nat .u8 8 (by decide) wraps_u8 b a hb' ha').2,Nat.or_comm,hj]
 omega
theorem b1h(x r:Int)(k s:Nat)(hx:0<=x)(hx1:x<2^s)(hr:0<=r)(hr1:r<4294967296)(hk:s+k<=8) :
  Go.bits .or .u8 x (Go.bits .and .u64 r (IntKind.u64.wrap (IntKind.u64.wrap (2^k)-1))%256*2^s%256)=x+r%2^k*2^s:=by
 have h:=b9V x r k s hx hx1 hr hr1 hk
 have e:∀ n:Int,IntKind.u8.wrap n=n%256:=fun n=>by simp[IntKind.wrap,IntKind.bits,IntKind.signed]
 have hp:=a0i k
 have hp8:=a2M k (by omega)
 rw[a1v (2^k) (by omega) (by omega),a1v (2^k-1) (by omega) (by omega)]
 rw[e,e] at h
 exact h
def Wtr(w:World)(g:Nat)(bl:List Int):Prop:=
 ∃ (xs:List Int) (v:Value) (n:Nat),n=xs.length/\Blk w g 147 [v,.int .i64 bl.length]/\w.ownsRow (g+1) 5 1 v n (ints .u8 xs)/\WB xs bl
theorem Wtr.lt{w:World}{g:Nat}{bl:List Int}(h:Wtr w g bl):g<w.heap.size:=by
 obtain⟨_,_,_,_,h,_⟩:=h;exact h.lt
theorem Wtr.keeps{w w':World}{g:Nat}{bl:List Int}{K:List Nat}(h:Wtr w g bl)(hk:Keeps K w w')(hK:∀ x∈K,x<g∨w.heap.size<=x):Wtr w' g bl:=by
 obtain⟨xs,v,n,h0,h1,h2,h3⟩:=h
 refine⟨xs,v,n,h0,h1.keeps hk (fun hm=>by have:=h1.lt;rcases hK g hm with h|h<;>omega),a0b h2 hk fun x hx hm=>?_,h3⟩
 have a:=a0j h2 x hx
 have b:=a2T h2 x hx
 rcases hK x hm with h|h<;>omega
theorem a3D(w:World) :
  Calls Tryz.prog 62 #[] w fun e w'=>e=.returned (.pointer (some ⟨w.heap.size,0,none⟩))/\Wtr w' w.heap.size []/\Below w.heap.size w w':=by
 go_enter Tryz.func62,Tryz.ntmps62
 go_wp2_with fail
 go_ret
 exact⟨rfl,⟨[],.slice none 0 0,0,rfl,a0d w 147 [.slice none 0 0,.int .i64 0],World.ownsRow_nil _ _ _ _,WB.zero⟩,(c3P _ w).alloc (c3v _) _⟩
def U8(w:World)(k:Nat):Prop:=∃ cur fr,w.heap[k]? =some (.cells cur 5 fr)
theorem b4o{w:World}{base size n:Nat}{v:Value}{xs:List Value}(h:w.ownsRow base 5 size v n xs):∀ k,v.ownBlock=some k->U8 w k:=by
 intro k hk
 rcases h.2 with⟨rfl,_⟩|⟨g,cap,cur,rfl,_,hh,_⟩
 ·cases hk
 ·obtain rfl:=c3K hk
  exact⟨_,_,hh⟩
structure PT (g:Nat) (w w':World):Prop where
 size:w.heap.size<=w'.heap.size
 same:∀ k,k<w.heap.size->k≠g->¬U8 w k->w'.heap[k]? =w.heap[k]?
theorem PT.refl(g:Nat)(w:World):PT g w w:=⟨c3v _,fun _ _ _ _=>rfl⟩
theorem PT.step{g:Nat}{w w1 w2:World}(h:PT g w w1)(hs:w1.heap.size<=w2.heap.size)(h2:∀ k,k<w1.heap.size->k≠g->¬U8 w1 k->w2.heap[k]? =w1.heap[k]?):PT g w w2:=
 ⟨c4i h.size hs,fun k hk hg hu=>by
  have e:=h.same k hk hg hu
  rw[h2 k (c3C hk h.size) hg (fun ⟨c,f,hc⟩=>hu ⟨c,f,by rw[<-e];exact hc⟩),e]⟩
theorem PT.trans{g:Nat}{w w1 w2:World}(h:PT g w w1)(k:PT g w1 w2):PT g w w2:=h.step k.size k.same
theorem PT.alloc{g:Nat}{w w1:World}(h:PT g w w1)(o:Obj):PT g w (w1.alloc o):=h.step (by simp) (fun k hk _ _=>Go.Deep.blk_alloc_lt _ _ _ hk)
theorem PT.drew{g:Nat}{w w1:World}(h:PT g w w1):PT g w w1.drew:=h.step (c3v _) (fun _ _ _ _=>rfl)
theorem PT.setG{g:Nat}{w w1:World}(h:PT g w w1)(i:Nat)(v:Value):PT g w (w1.setCell ⟨g,i,none⟩ v):=h.step (by simp[World.setCell]) (fun k _ hg _=>Go.Deep.blk_setCell_other _ _ _ _ hg)
theorem PT.setU{g:Nat}{w w1:World}(h:PT g w w1){b:Nat}(hb:U8 w1 b)(i:Nat)(v:Value):PT g w (w1.setCell ⟨b,i,none⟩ v):=h.step (by simp[World.setCell]) (fun k _ _ hu=>Go.Deep.blk_setCell_other _ _ _ _ (fun e=>hu (by rw[e];exact hb)))
theorem PT.grown{g:Nat}{w w1 w2:World}{row:Option Nat}(h:PT g w w1)(hg:w1.grownBy w2 row)(hr:∀ k,row=some k->U8 w1 k):PT g w w2:=h.step hg.size (fun k hk _ hu=>hg.block k hk (fun e=>hu (hr k e.symm)))
theorem a0h{w:World}{base:Nat}{e:TypeId}{size n:Nat}{v:Value}{xs:List Value}(h:w.ownsRow base e size v n xs):∃ A c,v=.slice A n c:=by
 rcases h.2 with⟨rfl,rfl⟩|⟨g,cap,cur,rfl,_⟩
 ·exact⟨_,_,rfl⟩
 ·exact⟨_,_,rfl⟩
theorem a0K(w:World)(g:Nat)(bl:List Int)(x:Int)(m:Nat)(hw:Wtr w g bl)(hx:0<=x)(hx1:x<4294967296)(hm:m<=32)(hxm:x/2^m=0)(hb:bl.length<=100000000) :
  Calls Tryz.prog 63 #[.pointer (some ⟨g,0,none⟩),.int .u32 x,.int .i64 m] w fun e w'=>e=.returned (.int .i64 0)/\Wtr w' g (bl++vbits x m)/\Below g w w'/\PT g w w':=by
 have HW:=c3o hw
 have HXM:=c3o hxm
 clear hw hxm
 go_enter Tryz.func63,Tryz.ntmps63
 have e1:decide ((m:Int)<0)=false:=by simp
 have e2:decide (32<m)=false:=by simp;omega
 have e3:decide ((32:Int)<(m:Int))=false:=by simp;omega
 have e4:(x/2^m !=0)=false:=by simpa using HXM.out
 go_wp2_with fail
 go_step3
 go_wp2_with fail
 go_step3
 go_wp2_with fail
 clear e1 e2 e3 e4
 have HW0:Hid (Wtr w g (bl++vbits x 0)):=c3o (by simpa [vbits] using HW.out)
 clear HW
 go_loopw [2,7] (fun nv rv wr=>∃ j:Nat,j<=m/\nv=.int .i64 ((m:Int)-j)/\rv=.int .u64 (x/2^j)/\Hid (Wtr wr g (bl++vbits x j))/\Hid (Below g w wr)/\Hid (PT g w wr)) (fun nv _ _=>(intOf nv).toNat)
 case atStart=>exact⟨0,by omega,by simp,by simp,HW0,c3o (c3P _ _),c3o (PT.refl _ _)⟩
 case round=>
  clear HW0
  obtain⟨j,hj,rfl,rfl,HW,HB,HP⟩:=hrel
  by_cases hjm:j<m
  ·have e1:((m:Int)-j==0)=false:=by simp;omega
   obtain⟨xs,v,n2,hn2,hblk,hown,hwb⟩:=HW.out
   have hlen:(bl++vbits x j).length=bl.length+j:=by rw[c3p,a0k]
   obtain⟨L,hL⟩:∃ L,L=bl.length+j:=⟨_,rfl⟩
   have hLb:L<=100000032:=by omega
   rw[hlen,<-hL] at hblk
   have HL:=c3o hL
   have HLEN:Hid ((bl++vbits x j).length=L):=c3o (by rw[hlen,hL])
   have hr0:0<=x/2^j:=Int.ediv_nonneg hx (Int.le_of_lt (a0i j))
   have hr1:x/2^j<4294967296:=Int.lt_of_le_of_lt (Int.ediv_le_self _ hx) hx1
   obtain⟨k,hk⟩:∃ k:Nat,(if 8-(L:Int)%8<(m:Int)-j then 8-(L:Int)%8 else (m:Int)-j)=(k:Int):=⟨min (m-j) (8-L%8),by split<;>omega⟩
   have hk1:1<=k:=by split at hk<;>omega
   have hk8:L%8+k<=8:=by split at hk<;>omega
   have hkm:j+k<=m:=by split at hk<;>omega
   have s5:(0:Int)<=(L:Int)%8:=by omega
   have s6:(L:Int)%8<8:=by omega
   have s7:(0:Int)<=(L:Int):=by omega
   have hnext:Hid (x/2^j/2^k=x/2^(j+k)):=c3o (by rw[a4f _ _ _ (a0i j),<-c3N])
   have hstep:Hid (WB ((padF xs (bl++vbits x j)).set (L/8) (nth (padF xs (bl++vbits x j)) (L/8)+x/2^j%2^k*2^(L%8))) (bl++vbits x (j+k))):=c3o (by
    have:=b9Q hwb (x/2^j) k hk1 (by rw[HLEN.out];exact hk8)
    rw[HLEN.out,List.append_assoc,<-b1M] at this
    exact this)
   have hplen:Hid ((padF xs (bl++vbits x j)).length=L/8+1):=c3o (by rw[b7C hwb,HLEN.out])
   have hplast:Hid (0<=nth (padF xs (bl++vbits x j)) (L/8)/\nth (padF xs (bl++vbits x j)) (L/8)<2^(L%8)):=c3o (by have:=b4p hwb;rwa [HLEN.out] at this)
   have hpad:Hid (padF xs (bl++vbits x j)=if L%8=0 then xs++[0] else xs):=c3o (by unfold padF;rw[HLEN.out])
   clear hlen hwb hL HLEN
   generalize padF xs (bl++vbits x j)=X at *
   have h0:=hblk.cell 0
   have h1:=hblk.cell 1
   simp only[c3z,c3E] at h0 h1
   have hf0:=hblk.frozen 0
   have hf1:=hblk.frozen 1
   by_cases h8:L%8=0
   ·have e2:((L:Int)%8==0)=true:=by simp;omega
    have hX:X=xs++[0]:=by have:=hpad.out;rwa [if_pos h8] at this
    have hxl:xs.length=L/8:=by have:=hplen.out;rw[hX,c3p,List.length_singleton] at this;omega
    have hlt:=hblk.lt
    have HOA:Hid ((wr.alloc (.cells #[.int .u8 0] 5)).ownsRow (g+1) 5 1 v n2 (ints .u8 xs)):=c3o (a0b hown ((Keeps.refl [] wr).alloc _) (by simp))
    have HRI:Hid (RI .u8 (wr.alloc (.cells #[.int .u8 0] 5)) (some ⟨wr.heap.size,0,none⟩) 1 [0]):=c3o (Blk.ri (xs:=[0]) (ys:=[]) (k:=.u8) (by simpa [ints] using a0d wr 5 (ints .u8 [0])))
    have HBA:=c3o (HB.out.alloc (c4h hlt) (.cells #[.int .u8 0] 5))
    have HPA:=c3o (HP.out.alloc (.cells #[.int .u8 0] 5))
    have HBK:=c3o (hblk.keeps ((Keeps.refl [] wr).alloc (.cells #[.int .u8 0] 5)) (by simp))
    have hn2b:n2<=100000032:=by omega
    have HN2:Hid (n2=L/8):=c3o (by rw[hn2,hxl])
    obtain⟨vA,vc,rfl⟩:∃ A c,v=.slice A n2 c:=a0h hown
    clear hown hblk hn2 HW hpad
    go_wp2_with (at_builtin;refine a4B rfl (.tmp 40) (.tmp 41) rfl (g+1) _ _ xs rfl (by exact HOA.out) _ 1 1 [0] rfl (by exact HRI.out) (by simp) (by omega) ?c4 ?_)
    case c4=>simp;omega
    intro v1 w1 ho1 hg1
    have hg0:∀ k,(Value.slice vA n2 vc).ownBlock=some k->g+1<=k:=fun k hk=>(HOA.out.lt k hk).1
    have hblk1:Blk w1 g 147 [.slice vA n2 vc,.int .i64 L]:=(hg1.block g (Nat.lt_trans hlt (by simp)) (fun e=>by have:=hg0 g e.symm;omega)).trans HBK.out
    have HB1:=c3o (HBA.out.grown hg1 (by simp;omega) (fun k hk=>by have:=hg0 k hk;omega))
    have HP1:=c3o (HPA.out.grown hg1 (b4o HOA.out))
    clear HPA HP
    rw[<-hX,HN2.out] at ho1
    have ho1':w1.ownsRow (g+1) 5 1 v1 (L/8+1) (ints .u8 X):=ho1
    obtain⟨rb,cap,rfl,hrb1,hrb2⟩:=ho1'.form (by omega)
    have c0:=hblk1.cell 0
    have c1:=hblk1.cell 1
    simp only[c3z,c3E] at c0 c1
    have cf0:=hblk1.frozen 0
    have hS1:=c3J ho1' (a:=⟨g,0,none⟩) (c3V g) (.slice (some ⟨rb,0,none⟩) (L/8+1) cap)
    have hS2:=hblk1.set 0 (.slice (some ⟨rb,0,none⟩) (L/8+1) cap)
    have hS3:=HB1.out.setCell (p:=⟨g,0,none⟩) (c3v g) (.slice (some ⟨rb,0,none⟩) (L/8+1) cap)
    have hP4:=HP1.out.setG 0 (.slice (some ⟨rb,0,none⟩) (L/8+1) cap)
    have hS4:rb<(w1.setCell ⟨g,0,none⟩ (.slice (some ⟨rb,0,none⟩) (L/8+1) cap)).heap.size:=by simpa [World.setCell] using hrb2
    simp only[List.set_cons_zero] at hS2
    have HS:=c3o (And.intro hS1 (And.intro hS2 (And.intro hS3 hP4)))
    clear hS1 hS2 hS3 hP4 HP1 h0 h1 hf0 hf1 HOA HRI HBA HBK hblk1 ho1 ho1' HB1 hg1 HB hrb2
    go_upto_region 9 with (fail)
    obtain⟨hown,hblk,hHB,hHP⟩:=HS.out
    clear HS c0 c1 cf0 hg0 HN2 hX hxl h8 e2
    generalize w1.setCell ⟨g,0,none⟩ (.slice (some ⟨rb,0,none⟩) (L/8+1) cap)=ws at *
    have HB:=c3o hHB
    have HP:=c3o hHP
    have hrb2:=hS4
    have h0:=hblk.cell 0
    have h1:=hblk.cell 1
    simp only[c3z,c3E] at h0 h1
    have hf0:=hblk.frozen 0
    have hf1:=hblk.frozen 1
    clear hHB hHP hS4
    have hcl:=hown.cellAt (L/8) (by omega)
    have hfr:=hown.frozenAt (L/8)
    rw[show (ints .u8 X)[L/8]? =some (.int .u8 (nth X (L/8))) by rw[a0f];simp[nth,List.getD,show L/8<X.length by rw[hplen.out];omega]] at hcl
    have HST:=c3o (hown.stored (L/8) (.int .u8 (nth X (L/8)+x/2^j%2^k*2^(L%8))))
    have T:=c3o (b1h (nth X (L/8)) (x/2^j) k (L%8) hplast.out.1 hplast.out.2 hr0 hr1 hk8)
    have HBLK:=c3o hblk
    have HU:=c3o (b4o hown rb rfl)
    clear hown hblk
    have t1:((L:Int)%8).toNat=L%8:=by omega
    have t2:(((L/8+1:Nat):Int)-1).toNat=L/8:=by omega
    have t3:(0:Int)<=((L/8+1:Nat):Int)-1:=by omega
    have t4:((L/8+1:Nat):Int)-1<((L/8+1:Nat):Int):=by omega
    have hnb:rb≠g:=by omega
    generalize nth X (L/8)=b at *
    generalize x/2^j=r at *
    have hqb:L/8<=100000032:=by omega
    generalize L/8=q at *
    have t5:IntKind.i64.wrap (q:Int)=(q:Int):=c3G _ (by omega)
    have t6:(q:Int)<(q:Int)+1:=by omega
    have t7:(0:Int)<=(q:Int):=by omega
    have t8:(q:Int)<((q+1:Nat):Int):=by omega
    clear t2 t3 t4
    go_upto_region 10 with (fail)
    clear hk
    go_region
    rw[T.out]
    have hk2:Keeps [rb] ws (ws.setCell ⟨rb,q,none⟩ (.int .u8 (b+r%2^k*2^(L%8)))):=(Keeps.refl [rb] ws).setCell (p:=⟨rb,q,none⟩) (Or.inl (by simp)) _
    have hblk2:=HBLK.out.keeps hk2 (by simpa using Ne.symm hnb)
    have HB2:=c3o (HB.out.setCell (p:=⟨rb,q,none⟩) (show g<=rb by omega) (.int .u8 (b+r%2^k*2^(L%8))))
    have HP2:=c3o (HP.out.setU HU.out q (.int .u8 (b+r%2^k*2^(L%8))))
    obtain⟨ho2,-⟩:=HST.out
    rw[show (ints .u8 X).set q (.int .u8 (b+r%2^k*2^(L%8)))=ints .u8 (X.set q (b+r%2^k*2^(L%8))) by simp[ints,List.map_set]] at ho2
    generalize ws.setCell ⟨rb,q,none⟩ (.int .u8 (b+r%2^k*2^(L%8)))=w2 at *
    have h1':=hblk2.cell 1
    simp only[c3z,c3E] at h1'
    have hf1':=hblk2.frozen 1
    have HBLK2:=c3o hblk2
    have HOWN2:=c3o ho2
    have v1:IntKind.i64.wrap ((L:Int)+k)=(L:Int)+k:=c3G _ (by omega)
    have v2:IntKind.i64.wrap ((m:Int)-j-k)=(m:Int)-j-k:=c3G _ (by omega)
    clear hk2 hblk2 ho2 h0 h1 hf0 hf1 hfr hcl HBLK HST T HB HP HU
    go_wp2_with fail
    go_roundw
    case rel=>
     refine⟨j+k,hkm,by go_num,by rw[<-hnext.out],c3o ?_,c3o ?_,c3o (HP2.out.drew.setG 1 _)⟩
     ·refine⟨_,_,_,?_,?_,c3J HOWN2.out.drew (a:=⟨g,1,none⟩) (c3V g) _,hstep.out⟩
      ·rw[List.length_set,hplen.out]
      ·have:=(HBLK2.out.keeps (Keeps.refl [] w2).drew (by simp)).set 1 (.int .i64 ((L:Int)+k))
       rw[show (bl++vbits x (j+k)).length=L+k by rw[c3p,a0k,HL.out];omega]
       exact this
     ·exact (HB2.out.trans ((Keeps.refl [] w2).drew.below.mono (c4h HBLK2.out.lt))).setCell (p:=⟨g,1,none⟩) (c3v g) _
    case measure=>simp[intOf];omega
   ·have e2:((L:Int)%8==0)=false:=by simp;omega
    have hX:X=xs:=by have:=hpad.out;rwa [if_neg h8] at this
    subst hX
    have hn3:n2=L/8+1:=by rw[hn2,hplen.out]
    subst hn3
    obtain⟨rb,cap,rfl,hrb1,hrb2⟩:=hown.form (by omega)
    obtain⟨ws,hws⟩:∃ ws:World,ws=wr:=⟨_,rfl⟩
    rw[<-hws] at hown hblk HB HP h0 h1 hf0 hf1 hrb2 ⊢
    clear hws HW
    have hcl:=hown.cellAt (L/8) (by omega)
    have hfr:=hown.frozenAt (L/8)
    rw[show (ints .u8 X)[L/8]? =some (.int .u8 (nth X (L/8))) by rw[a0f];simp[nth,List.getD,show L/8<X.length by rw[hplen.out];omega]] at hcl
    have HST:=c3o (hown.stored (L/8) (.int .u8 (nth X (L/8)+x/2^j%2^k*2^(L%8))))
    have T:=c3o (b1h (nth X (L/8)) (x/2^j) k (L%8) hplast.out.1 hplast.out.2 hr0 hr1 hk8)
    have HBLK:=c3o hblk
    have HU:=c3o (b4o hown rb rfl)
    clear hown hblk hn2 hpad
    have t1:((L:Int)%8).toNat=L%8:=by omega
    have t2:(((L/8+1:Nat):Int)-1).toNat=L/8:=by omega
    have t3:(0:Int)<=((L/8+1:Nat):Int)-1:=by omega
    have t4:((L/8+1:Nat):Int)-1<((L/8+1:Nat):Int):=by omega
    have hnb:rb≠g:=by omega
    generalize nth X (L/8)=b at *
    generalize x/2^j=r at *
    have hqb:L/8<=100000032:=by omega
    generalize L/8=q at *
    have t5:IntKind.i64.wrap (q:Int)=(q:Int):=c3G _ (by omega)
    have t6:(q:Int)<(q:Int)+1:=by omega
    have t7:(0:Int)<=(q:Int):=by omega
    have t8:(q:Int)<((q+1:Nat):Int):=by omega
    clear t2 t3 t4
    go_upto_region 10 with (fail)
    clear hk
    go_region
    rw[T.out]
    have hk2:Keeps [rb] ws (ws.setCell ⟨rb,q,none⟩ (.int .u8 (b+r%2^k*2^(L%8)))):=(Keeps.refl [rb] ws).setCell (p:=⟨rb,q,none⟩) (Or.inl (by simp)) _
    have hblk2:=HBLK.out.keeps hk2 (by simpa using Ne.symm hnb)
    have HB2:=c3o (HB.out.setCell (p:=⟨rb,q,none⟩) (show g<=rb by omega) (.int .u8 (b+r%2^k*2^(L%8))))
    have HP2:=c3o (HP.out.setU HU.out q (.int .u8 (b+r%2^k*2^(L%8))))
    obtain⟨ho2,-⟩:=HST.out
    rw[show (ints .u8 X).set q (.int .u8 (b+r%2^k*2^(L%8)))=ints .u8 (X.set q (b+r%2^k*2^(L%8))) by simp[ints,List.map_set]] at ho2
    generalize ws.setCell ⟨rb,q,none⟩ (.int .u8 (b+r%2^k*2^(L%8)))=w2 at *
    have h1':=hblk2.cell 1
    simp only[c3z,c3E] at h1'
    have hf1':=hblk2.frozen 1
    have HBLK2:=c3o hblk2
    have HOWN2:=c3o ho2
    have v1:IntKind.i64.wrap ((L:Int)+k)=(L:Int)+k:=c3G _ (by omega)
    have v2:IntKind.i64.wrap ((m:Int)-j-k)=(m:Int)-j-k:=c3G _ (by omega)
    clear hk2 hblk2 ho2 h0 h1 hf0 hf1 hfr hcl HBLK HST T HB HP HU
    go_wp2_with fail
    go_roundw
    case rel=>
     refine⟨j+k,hkm,by go_num,by rw[<-hnext.out],c3o ?_,c3o ?_,c3o (HP2.out.drew.setG 1 _)⟩
     ·refine⟨_,_,_,?_,?_,c3J HOWN2.out.drew (a:=⟨g,1,none⟩) (c3V g) _,hstep.out⟩
      ·rw[List.length_set,hplen.out]
      ·have:=(HBLK2.out.keeps (Keeps.refl [] w2).drew (by simp)).set 1 (.int .i64 ((L:Int)+k))
       rw[show (bl++vbits x (j+k)).length=L+k by rw[c3p,a0k,HL.out];omega]
       exact this
     ·exact (HB2.out.trans ((Keeps.refl [] w2).drew.below.mono (c4h HBLK2.out.lt))).setCell (p:=⟨g,1,none⟩) (c3v g) _
    case measure=>simp[intOf];omega
  ·obtain rfl:j=m:=by omega
   have e1:((j:Int)-j==0)=true:=by simp
   go_wp2_with fail
   dsimp only[Exit.noGoto]
   go_ret
   exact⟨rfl,HW.out,HB.out,HP.out⟩
theorem c0f:(Tryz.prog.info? 5).map (·.size)=some 1:=by kernel_rfl
theorem a6H(w:World)(g:Nat)(bl:List Int)(hw:Wtr w g bl)(hb:bl.length<=100000000) :
  Calls Tryz.prog 65 #[.pointer (some ⟨g,0,none⟩)] w fun e w'=>∃ (n:Nat) (xs:List Int),e=.returned (.slice (some ⟨w.heap.size,0,none⟩) n n)/\RI .u8 w' (some ⟨w.heap.size,0,none⟩) n xs/\WB xs bl/\Below w.heap.size w w':=by
 obtain⟨xs,v,n,hn,hblk,hown,hwb⟩:=hw
 obtain⟨A,c,rfl⟩:=a0h hown
 obtain⟨A',c',hv,hri,-,-⟩:=a0y hown
 injection hv with h1 h2 h3
 subst h1
 subst h3
 have hnb:n<=12500001:=by have:=hwb.len;omega
 have h0:=hblk.cell 0
 simp only[c3z] at h0
 have hlt:=hblk.lt
 have LX:Hid (xs.length=n):=c3o hn.symm
 have HX:=c3o hri
 have HWB:=c3o hwb
 clear hown hri hwb hn hblk
 have hmk:=fun w=>a1h (P:=Tryz.prog) w 26 5 .u8 1 c3r a3c (n:Int) n rfl (by omega) (by omega)
 go_enter Tryz.func65,Tryz.ntmps65
 go_wp2_with (with_reducible refine wpList_copy_splice rfl (.tmp 12) (.tmp 16) _ _ rfl 5 c3r c0f _ _ _ _ _ _ rfl rfl w.heap.size 0 (ints .u8 (List.replicate n 0)) 5 ?h1 (ints .u8 xs) ?h2 ?h3 ?h4 ?h5 w.heap.size w ?h6 (c3v _) ?_)
 case h1=>first|exact a0d w _ _|exact (c3B.1 (a0d w 5 (ints .u8 (List.replicate n 0)))).2
 case h2=>have:=LX.out;simp[ints];omega
 case h3=>
  intro hp
  obtain⟨a,o,ha⟩:=HX.out.hd (by have:=LX.out;simpa [ints,this] using hp)
  refine⟨_,ha,fun j v hv=>?_⟩
  have hj:j<n:=by have:=LX.out;have:=(c3x.1 hv).1;simp[ints] at this;omega
  have hc:=HX.out.cell a o ha j hj
  have e:(ints .u8 xs)[j]? =some (.int .u8 (nth xs j)):=by rw[a0f];simp[nth,List.getD,show j<xs.length from by have:=LX.out;omega]
  rw[e] at hv
  rw[<-c3K hv,a0w]
  exact (Keeps.refl [] w).alloc _ |>.cell (by simp) hc
 case h4=>have:=LX.out;simp[ints];omega
 case h5=>intro v hv;simp only[ints,c3W] at hv;obtain⟨x,_,rfl⟩:=hv;rfl
 case h6=>exact (c3P _ _).alloc (c3v _) _
 intro w1 hg1 hb1
 have hB:Blk w1 w.heap.size 5 (splice (ints .u8 (List.replicate n 0)) 0 (ints .u8 xs)):=hg1.out
 have hsp:splice (ints .u8 (List.replicate n 0)) 0 (ints .u8 xs)=ints .u8 (xs++[]):=by
  have:=LX.out
  simp[splice,ints,this]
 rw[hsp] at hB
 have HR2:=c3o hB.ri
 have HB1:=c3o hb1
 clear hg1 hsp hB hmk hb1
 go_wp2
 go_ret
 exact⟨n,xs,rfl,by have:=HR2.out;rwa [LX.out] at this,HWB.out,HB1.out⟩
open Go.RowKit
def zleB(v:Int)(k:Nat):List Int:=(List.range k).map fun i=>v/256^i%256
theorem a1V(v:Int)(k:Nat):(zleB v k).length=k:=by simp[zleB]
theorem b8z(v:Int)(i:Nat):zleB v (i+1)=zleB v i++[v/256^i%256]:=by unfold zleB;rw[List.range_succ,c4e,List.map_singleton]
theorem c2c(v:Int)(k:Nat):∀ x∈zleB v k,0<=x/\x<=255:=fun x hx=>by
 obtain⟨i,-,rfl⟩:=c3W.1 hx
 omega
theorem c2H(i:Nat):(0:Int)<256^i:=Int.pow_pos (by decide)
theorem c2q(v:Int)(i:Nat):v/256^i/256=v/256^(i+1):=by
 rw[c3L,Int.ediv_ediv_of_nonneg (by have:=c2H i;omega)]
theorem b9C(w:World)(l m:Int)(n c:Nat)(hl:l=n)(hm:m=c)(hnc:n<=c)(h:c<=100000000000) :
  (Instr.makeSlice 26 (.int .i64 l) (.int .i64 m)).run Tryz.prog w=.ok (.slice (some ⟨w.heap.size,0,none⟩) n c) (w.alloc (.cells (ints .u8 (List.replicate c 0)).toArray 5)):=by
 subst hl hm
 obtain⟨i,hi,hz,hs,hb⟩:=c3Y a3c
 have e1:(i.bytes:Int)*(c:Int)<=281474976710656:=by rw[hb];omega
 rw[run_make w 26 5 i _ c3r hi hz .i64 .i64 n c (by omega) (by omega) e1 (by omega)]
 simp only[Int.toNat_natCast]
 have e:madeCells (Value.int .u8 0).cells (c*i.size)=(ints .u8 (List.replicate c 0)).toArray:=by
  rw[hs,Nat.mul_one]
  apply Array.toList_inj.1
  show (madeCells #[.int .u8 0] c).toList=_
  rw[toList_madeCells_one]
  simp[ints]
 rw[e]
theorem c1k{w:World}{base g n c:Nat}{xs ys:List Int}(h:Blk w g 5 (ints .u8 (xs++ys)))(hb:base<=g)(hx:xs.length=n)(hc:n+ys.length=c)(hm:c<=100000000000) :
  w.ownsRow base 5 1 (.slice (some ⟨g,0,none⟩) n c) n (ints .u8 xs):=by
 refine⟨by simp[ints,hx],.inr ⟨g,c,(ints .u8 (xs++ys)).toArray,rfl,hb,h,by omega,by unfold maxLen;omega,by simp[ints];omega,?_⟩⟩
 simp[ints,hx]
theorem a8W(w:World)(A:Option Addr)(n c:Nat)(xs:List Int)(hx:RI .u8 w A n xs)(hn:n<=1000000000)(v:Int)(h0:0<=v)(h1:v<18446744073709551616)(k:Nat)(hk:k<=8) :
  Calls Tryz.prog 89 #[.slice A n c,.int .u64 v,.int .i64 k] w fun e w'=>∃ v',e=.returned v'/\w'.ownsRow w.heap.size 5 1 v' (n+k) (ints .u8 (xs++zleB v k))/\Below w.heap.size w w':=by
 have HX:=c3o hx
 have LX:Hid (xs.length=n):=c3o hx.len
 clear hx
 have s0:IntKind.i64.wrap ((n:Int)+(k:Int))=(n:Int)+(k:Int):=c3G _ (by omega)
 have hmk:=fun w=>b9C w (n:Int) ((n:Int)+(k:Int)) n (n+k) rfl (by omega) (by omega) (by omega)
 go_enter Tryz.func89,Tryz.ntmps89
 go_wp2_with (with_reducible refine wpList_copy_splice rfl (.tmp 15) (.tmp 16) _ _ rfl 5 c3r b7X _ _ _ _ _ _ rfl rfl w.heap.size 0 (ints .u8 (List.replicate (n+k) 0)) 5 ?h1 (ints .u8 xs) ?h2 ?h3 ?h4 ?h5 w.heap.size w ?h6 (c3v _) ?_)
 case h1=>exact a0d w _ _
 case h2=>have:=LX.out;simp[ints];omega
 case h3=>
  intro hp
  obtain⟨a,o,ha⟩:=HX.out.hd (by have:=LX.out;simpa [ints,this] using hp)
  refine⟨_,ha,fun j v hv=>?_⟩
  have hj:j<n:=by have:=LX.out;have:=(c3x.1 hv).1;simp[ints] at this;omega
  have hc:=HX.out.cell a o ha j hj
  have e:(ints .u8 xs)[j]? =some (.int .u8 (nth xs j)):=by rw[a0f];simp[nth,List.getD,show j<xs.length from by have:=LX.out;omega]
  rw[e] at hv
  rw[<-c3K hv,a0w]
  exact (Keeps.refl [] w).alloc _ |>.cell (by simp) hc
 case h4=>have:=LX.out;simp[ints];omega
 case h5=>intro v hv;simp only[ints,c3W] at hv;obtain⟨x,_,rfl⟩:=hv;rfl
 case h6=>exact (c3P _ _).alloc (c3v _) _
 intro w1 hg1 hb1
 have hB:Blk w1 w.heap.size 5 (splice (ints .u8 (List.replicate (n+k) 0)) 0 (ints .u8 xs)):=hg1.out
 have hsp:splice (ints .u8 (List.replicate (n+k) 0)) 0 (ints .u8 xs)=ints .u8 (xs++List.replicate k 0):=by
  have:=LX.out
  simp[splice,ints,this]
 rw[hsp] at hB
 have HO:Hid (w1.ownsRow w.heap.size 5 1 (.slice (some ⟨w.heap.size,0,none⟩) n (n+k)) n (ints .u8 xs)):=c3o (c1k hB (c3v _) LX.out (by simp) (by omega))
 have HB1:=c3o hb1
 clear hg1 hsp hB hb1 hmk
 go_wp2_with fail
 go_loopw [1,7,19] (fun xv lv iv wr=>∃ (i:Nat) (A1:Option Addr) (c1:Nat) (y:Int),i<=k/\lv=.slice A1 (n+i) c1/\xv=.int .u64 y/\iv=.int .i64 i/\0<=y/\y<18446744073709551616/\Hid (y=v/256^i)/\Hid (wr.ownsRow w.heap.size 5 1 (.slice A1 (n+i) c1) (n+i) (ints .u8 (xs++zleB v i)))/\Hid (Below w.heap.size w wr)) (fun _ _ iv _=>k-(intOf iv).toNat)
 case atStart=>exact⟨0,_,_,v,by omega,rfl,rfl,rfl,h0,h1,c3o (by simp),c3o (by simpa [zleB] using HO.out),HB1⟩
 case round=>
  clear HO HB1
  obtain⟨i,A1,c1,y,hi,rfl,rfl,rfl,hy0,hy1,HY,HO1,HB⟩:=hrel
  by_cases hlt:i<k
  ·have e0:decide (i<k)=true:=by simpa using hlt
   have hsz:=HB.out.size
   have HR1:=c3o (a8D wr .u8 5 (y%256))
   have s1:IntKind.u8.wrap y=y%256:=by
    have:IntKind.u8.wrap (y%256)=y%256:=IntWalk.u8_in _ (by omega)
    rw[<-this];simp[IntKind.wrap,IntKind.signed,IntKind.bits]
   go_wp2_with (at_builtin;refine a3P rfl (.tmp 21) (.tmp 24) rfl w.heap.size (.slice A1 (n+i) c1) (n+i) (xs++zleB v i) rfl (by exact HO1.out.alloc _) (some ⟨wr.heap.size,0,none⟩) 1 1 [y%256] rfl (by exact HR1.out) nofun (by omega) (by simp;omega) ?_)
   intro v2 w2 ho2 hg2 _
   obtain⟨A2,c2,rfl⟩:=a0h ho2
   have HO2:Hid (w2.ownsRow w.heap.size 5 1 (.slice A2 (n+(i+1)) c2) (n+(i+1)) (ints .u8 (xs++zleB v (i+1)))):=c3o (by rw[b8z,<-HY.out,<-c3Z];exact ho2)
   have HB2:=c3o ((HB.out.alloc (by omega) (.cells #[.int .u8 (y%256)] 5)).grown hg2 (by simp;omega) (fun k hk=>a0j HO1.out k hk))
   have HY2:Hid (y/256=v/256^(i+1)):=c3o (by rw[HY.out,c2q])
   clear ho2 hg2 HO1 HB HR1
   go_wp2_with fail
   go_roundw
   case rel=>exact⟨i+1,A2,c2,y/256,by omega,rfl,rfl,by go_num,by omega,by omega,HY2,HO2,HB2⟩
   case measure=>simp[intOf];omega
  ·obtain rfl:i=k:=by omega
   have e0:decide (i<i)=false:=by simp
   go_wp2_with fail
   go_ret
   exact⟨_,rfl,HO1.out,HB.out⟩
open Go.RowKit
theorem a1b{w:World}{base base':Nat}{e:TypeId}{size n:Nat}{v:Value}{xs:List Value}(h:w.ownsRow base e size v n xs)(hb:base'<=base):w.ownsRow base' e size v n xs:=
 ⟨h.1,h.2.imp id fun ⟨g,cap,cur,a,b,r⟩=>⟨g,cap,cur,a,c4i hb b,r⟩⟩
theorem c3m(v:Int):zleB (v%65536) 2=zleB v 2:=by
 simp only[zleB,List.range_succ,List.range_zero,List.nil_append,c4e,c3I,List.map_nil,c4c,List.cons.injEq,and_true]
 constructor<;>omega
theorem c3n(v:Int):zleB (v%4294967296) 4=zleB v 4:=by
 simp only[zleB,List.range_succ,List.range_zero,List.nil_append,c4e,c3I,List.map_nil,c4c,List.cons.injEq,and_true]
 refine⟨?_,?_,?_,?_⟩<;>omega
def zlesB(k:Nat)(l:List Int):List Int:=l.flatMap fun v=>zleB v k
theorem a5q(k:Nat)(l:List Int):(zlesB k l).length=l.length*k:=by
 induction l with
 | nil=>simp[zlesB]
 | cons a l ih=>rw[zlesB,List.flatMap_cons,c3p,a1V,show l.flatMap (fun v=>zleB v k)=zlesB k l from rfl,ih,c3q,Nat.add_mul];omega
theorem a8S(k:Nat)(l:List Int)(v:Int):zlesB k (l++[v])=zlesB k l++zleB v k:=by simp[zlesB]
theorem a1W(k:Nat)(l:List Int):∀ x∈zlesB k l,0<=x/\x<=255:=fun x hx=>by
 obtain⟨v,-,h⟩:=List.mem_flatMap.1 hx
 exact c2c v k x h
theorem b2Y(w:World)(A:Option Addr)(n c:Nat)(xs:List Int)(hx:RI .u8 w A n xs)(hn:n<=1000000000)(v:Int) :
  Calls Tryz.prog 56 #[.slice A n c,.int .u16 (v%65536)] w fun e w'=>∃ v',e=.returned v'/\w'.ownsRow w.heap.size 5 1 v' (n+2) (ints .u8 (xs++zleB v 2))/\Below w.heap.size w w':=by
 have HC:=c3o (a8W w A n c xs hx hn (v%65536) (by omega) (by omega) 2 (by omega))
 rw[c3m] at HC
 have s1:IntKind.u64.wrap (v%65536)=v%65536:=IntWalk.u64_in _ (by omega)
 clear hx
 generalize v%65536=y at *
 go_enter Tryz.func56,Tryz.ntmps56
 go_wp2_with fail
 refine HC.out.mono ?_
 rintro _ w' ⟨v',rfl,ho,hb⟩
 have HO:=c3o ho
 have HB:=c3o hb
 clear ho hb
 go_wp2_with fail
 go_ret
 exact⟨_,rfl,HO.out,HB.out⟩
theorem b2Z(w:World)(A:Option Addr)(n c:Nat)(xs:List Int)(hx:RI .u8 w A n xs)(hn:n<=1000000000)(v:Int) :
  Calls Tryz.prog 57 #[.slice A n c,.int .u32 (v%4294967296)] w fun e w'=>∃ v',e=.returned v'/\w'.ownsRow w.heap.size 5 1 v' (n+4) (ints .u8 (xs++zleB v 4))/\Below w.heap.size w w':=by
 have HC:=c3o (a8W w A n c xs hx hn (v%4294967296) (by omega) (by omega) 4 (by omega))
 rw[c3n] at HC
 have s1:IntKind.u64.wrap (v%4294967296)=v%4294967296:=IntWalk.u64_in _ (by omega)
 clear hx
 generalize v%4294967296=y at *
 go_enter Tryz.func57,Tryz.ntmps57
 go_wp2_with fail
 refine HC.out.mono ?_
 rintro _ w' ⟨v',rfl,ho,hb⟩
 have HO:=c3o ho
 have HB:=c3o hb
 clear ho hb
 go_wp2_with fail
 go_ret
 exact⟨_,rfl,HO.out,HB.out⟩
theorem b8m(w:World)(A:Option Addr)(n c:Nat)(xs:List Int)(hx:RI .u8 w A n xs)(hn:n<=900000000)(B:Option Addr)(m d:Nat)(l:List Int)(hl:RI .i64 w B m l)(hm:0<m)(hm1:m<=1000) :
  Calls Tryz.prog 36 #[.slice A n c,.slice B m d] w fun e w'=>∃ v',e=.returned v'/\w'.ownsRow w.heap.size 5 1 v' (n+m*2) (ints .u8 (xs++zlesB 2 l))/\Below w.heap.size w w':=by
 have HX:=c3o hx
 have HL:=c3o hl
 have HLL:Hid (l.length=m):=c3o hl.len
 clear hx hl
 go_enter Tryz.func36,Tryz.ntmps36
 go_wp2_with fail
 go_loopw [0,9] (fun bv iv wr=>∃ (i:Nat) (A1:Option Addr) (c1:Nat),i<=m/\iv=.int .i64 i/\bv=.slice A1 (n+i*2) c1/\Hid (RI .u8 wr A1 (n+i*2) (xs++zlesB 2 (l.take i)))/\Hid (0<i->wr.ownsRow w.heap.size 5 1 bv (n+i*2) (ints .u8 (xs++zlesB 2 (l.take i))))/\Hid (Below w.heap.size w wr)) (fun _ iv _=>m-(intOf iv).toNat)
 case atStart=>exact⟨0,A,c,by omega,rfl,by simp,c3o (by simpa [zlesB] using HX.out),c3o (fun h=>by omega),c3o (c3P _ _)⟩
 case round=>
  obtain⟨i,A1,c1,hi,rfl,rfl,HR,HO,HB⟩:=hrel
  by_cases hlt:i<m
  ·have e0:decide (i<m)=true:=by simpa using hlt
   have hk:=Keeps.of_below HB.out (S:=[])
   obtain⟨b,o,rfl,hc⟩:=(HL.out.keeps hk (a0a _)).at hlt
   have HC:=c3o (b2Y wr A1 (n+i*2) c1 (xs++zlesB 2 (l.take i)) HR.out (by omega) (nth l i))
   have hstep:xs++zlesB 2 (l.take i)++zleB (nth l i) 2=xs++zlesB 2 (l.take (i+1)):=by
    rw[c3A (by rw[HLL.out];exact hlt),<-a0o (by rw[HLL.out];exact hlt),a8S,List.append_assoc]
   rw[hstep] at HC
   have s1:IntKind.u16.wrap (nth l i)=nth l i%65536:=by simp[IntKind.wrap,IntKind.signed,IntKind.bits]
   generalize nth l i=v at *
   clear hk hstep
   go_wp2_with fail
   refine HC.out.mono ?_
   rintro _ w2 ⟨v2,rfl,ho,hb⟩
   obtain⟨A2,c2,rfl⟩:=a0h ho
   have e2:n+i*2+2=n+(i+1)*2:=by omega
   rw[e2] at ho ⊢
   have HR2:Hid (RI .u8 w2 A2 (n+(i+1)*2) (xs++zlesB 2 (l.take (i+1)))):=c3o (by
    obtain⟨A',c',hv,hr,-⟩:=a0y ho
    injection hv with q1 q2 q3
    subst q1
    exact hr)
   have HO2:Hid (w2.ownsRow w.heap.size 5 1 (.slice A2 (n+(i+1)*2) c2) (n+(i+1)*2) (ints .u8 (xs++zlesB 2 (l.take (i+1))))):=c3o (a1b ho HB.out.size)
   have HB2:=c3o (HB.out.trans (hb.mono HB.out.size))
   clear ho hb HR HO HB HC e2
   go_wp2_with fail
   go_roundw
   case rel=>exact⟨i+1,A2,c2,by omega,by go_num,rfl,HR2,c3o (fun _=>HO2.out),HB2⟩
   case measure=>simp[intOf];omega
  ·obtain rfl:i=m:=by omega
   have e0:decide (i<i)=false:=by simp
   have HO2:=c3o (HO.out hm)
   have ht:l.take i=l:=c4a (by rw[HLL.out];omega)
   rw[ht] at HO2
   clear HO ht
   go_wp2_with fail
   go_ret
   exact⟨_,rfl,HO2.out,HB.out⟩
theorem a5w(w:World)(A:Option Addr)(n c:Nat)(xs:List Int)(hx:RI .u8 w A n xs)(hn:n<=900000000)(B:Option Addr)(m d:Nat)(l:List Int)(hl:RI .i64 w B m l)(hm:0<m)(hm1:m<=1000) :
  Calls Tryz.prog 37 #[.slice A n c,.slice B m d] w fun e w'=>∃ v',e=.returned v'/\w'.ownsRow w.heap.size 5 1 v' (n+m*4) (ints .u8 (xs++zlesB 4 l))/\Below w.heap.size w w':=by
 have HX:=c3o hx
 have HL:=c3o hl
 have HLL:Hid (l.length=m):=c3o hl.len
 clear hx hl
 go_enter Tryz.func37,Tryz.ntmps37
 go_wp2_with fail
 go_loopw [0,9] (fun bv iv wr=>∃ (i:Nat) (A1:Option Addr) (c1:Nat),i<=m/\iv=.int .i64 i/\bv=.slice A1 (n+i*4) c1/\Hid (RI .u8 wr A1 (n+i*4) (xs++zlesB 4 (l.take i)))/\Hid (0<i->wr.ownsRow w.heap.size 5 1 bv (n+i*4) (ints .u8 (xs++zlesB 4 (l.take i))))/\Hid (Below w.heap.size w wr)) (fun _ iv _=>m-(intOf iv).toNat)
 case atStart=>exact⟨0,A,c,by omega,rfl,by simp,c3o (by simpa [zlesB] using HX.out),c3o (fun h=>by omega),c3o (c3P _ _)⟩
 case round=>
  obtain⟨i,A1,c1,hi,rfl,rfl,HR,HO,HB⟩:=hrel
  by_cases hlt:i<m
  ·have e0:decide (i<m)=true:=by simpa using hlt
   have hk:=Keeps.of_below HB.out (S:=[])
   obtain⟨b,o,rfl,hc⟩:=(HL.out.keeps hk (a0a _)).at hlt
   have HC:=c3o (b2Z wr A1 (n+i*4) c1 (xs++zlesB 4 (l.take i)) HR.out (by omega) (nth l i))
   have hstep:xs++zlesB 4 (l.take i)++zleB (nth l i) 4=xs++zlesB 4 (l.take (i+1)):=by
    rw[c3A (by rw[HLL.out];exact hlt),<-a0o (by rw[HLL.out];exact hlt),a8S,List.append_assoc]
   rw[hstep] at HC
   have s1:IntKind.u32.wrap (nth l i)=nth l i%4294967296:=by simp[IntKind.wrap,IntKind.signed,IntKind.bits]
   generalize nth l i=v at *
   clear hk hstep
   go_wp2_with fail
   refine HC.out.mono ?_
   rintro _ w2 ⟨v2,rfl,ho,hb⟩
   obtain⟨A2,c2,rfl⟩:=a0h ho
   have e2:n+i*4+4=n+(i+1)*4:=by omega
   rw[e2] at ho ⊢
   have HR2:Hid (RI .u8 w2 A2 (n+(i+1)*4) (xs++zlesB 4 (l.take (i+1)))):=c3o (by
    obtain⟨A',c',hv,hr,-⟩:=a0y ho
    injection hv with q1 q2 q3
    subst q1
    exact hr)
   have HO2:Hid (w2.ownsRow w.heap.size 5 1 (.slice A2 (n+(i+1)*4) c2) (n+(i+1)*4) (ints .u8 (xs++zlesB 4 (l.take (i+1))))):=c3o (a1b ho HB.out.size)
   have HB2:=c3o (HB.out.trans (hb.mono HB.out.size))
   clear ho hb HR HO HB HC e2
   go_wp2_with fail
   go_roundw
   case rel=>exact⟨i+1,A2,c2,by omega,by go_num,rfl,HR2,c3o (fun _=>HO2.out),HB2⟩
   case measure=>simp[intOf];omega
  ·obtain rfl:i=m:=by omega
   have e0:decide (i<i)=false:=by simp
   have HO2:=c3o (HO.out hm)
   have ht:l.take i=l:=c4a (by rw[HLL.out];omega)
   rw[ht] at HO2
   clear HO ht
   go_wp2_with fail
   go_ret
   exact⟨_,rfl,HO2.out,HB.out⟩
def crcP:Nat:=3988292384
def bit1(r:Nat):Nat:=if r%2=1 then r/2 ^^^ crcP else r/2
def bitN:Nat->Nat->Nat
 | 0,r=>r
 | n+1,r=>bitN n (bit1 r)
def crcGo:Nat->List Int->Nat
 | r,[]=>r
 | r,x::xs=>crcGo (bitN 8 (r ^^^ x.toNat)) xs
def crcF(bs:List Int):Nat:=4294967295 ^^^ crcGo 4294967295 bs
def crcTab:List Nat:=[0x00000000,0x1db71064,0x3b6e20c8,0x26d930ac,0x76dc4190,0x6b6b51f4,0x4db26158,0x5005713c,0xedb88320,0xf00f9344,0xd6d6a3e8,0xcb61b38c,0x9b64c2b0,0x86d3d2d4,0xa00ae278,0xbdbdf21c]
def nib(r:Nat):Nat:=r/16 ^^^ crcTab.getD (r%16) 0
theorem c0r(a b:Nat):(a ^^^ b)/2=a/2 ^^^ b/2:=by
 have:=Nat.shiftRight_xor_distrib (a:=a) (b:=b) (i:=1)
 simpa [Nat.shiftRight_eq_div_pow] using this
theorem c1U(a b:Nat):(a ^^^ b)%2=(a%2+b%2)%2:=by
 have h:=Nat.xor_mod_two_pow (a:=a) (b:=b) (n:=1)
 rw[show (2:Nat)^1=2 from rfl] at h
 rw[h]
 rcases (by omega:a%2=0∨a%2=1) with e|e<;>rcases (by omega:b%2=0∨b%2=1) with f|f<;>rw[e,f]<;>decide
theorem b8N(a b:Nat):bit1 (a ^^^ b)=bit1 a ^^^ bit1 b:=by
 unfold bit1
 rw[c1U,c0r]
 rcases (by omega:a%2=0∨a%2=1) with e|e<;>rcases (by omega:b%2=0∨b%2=1) with f|f<;>rw[e,f]<;>simp
 ·rw[Nat.xor_assoc]
 ·rw[Nat.xor_assoc,Nat.xor_assoc,Nat.xor_comm (b/2) crcP]
 ·rw[Nat.xor_assoc,<-Nat.xor_assoc crcP,Nat.xor_comm crcP (b/2),Nat.xor_assoc,Nat.xor_self,Nat.xor_zero]
theorem b3S:∀ n a b,bitN n (a ^^^ b)=bitN n a ^^^ bitN n b
 | 0,_,_=>rfl
 | n+1,a,b=>by show bitN n _=bitN n _ ^^^ bitN n _;rw[b8N,b3S n]
theorem b3R:∀ n m r,bitN (n+m) r=bitN m (bitN n r)
 | 0,m,r=>by rw[c3X];rfl
 | n+1,m,r=>by rw[Nat.add_right_comm];show bitN (n+m) _=bitN m (bitN n _);rw[b3R n]
theorem a4C(h:Nat):bit1 (2*h)=h:=by unfold bit1;rw[if_neg (by omega)];omega
theorem b4Q(h:Nat):bitN 4 (16*h)=h:=by
 show bit1 (bit1 (bit1 (bit1 (16*h))))=h
 rw[show 16*h=2*(8*h) by omega,a4C,show 8*h=2*(4*h) by omega,a4C,show 4*h=2*(2*h) by omega,a4C,a4C]
theorem b6r:∀ l,l<16->bitN 4 l=crcTab.getD l 0:=by decide
theorem b4l(r:Nat):nib r=bitN 4 r:=by
 have e:16*(r/16) ^^^ r%16=r:=by
  have h:=Nat.two_pow_add_eq_or_of_lt (i:=4) (b:=r%16) (Nat.mod_lt _ (by decide)) (r/16)
  have hx:16*(r/16) ^^^ r%16=2^4*(r/16) ||| r%16:=by
   apply Nat.eq_of_testBit_eq
   intro i
   rw[Nat.testBit_xor,Nat.testBit_or,show (16:Nat)=2^4 from rfl,Nat.testBit_two_pow_mul,Nat.testBit_mod_two_pow]
   by_cases hi:4<=i
   ·simp[hi,show ¬i<4 by omega]
   ·simp[hi,show i<4 by omega]
  rw[hx,<-h,show (2:Nat)^4=16 from rfl];omega
 conv=>rhs;rw[<-e,b3S,b4Q,b6r _ (Nat.mod_lt _ (by decide))]
 rfl
theorem b7t(r:Nat):nib (nib r)=bitN 8 r:=by rw[b4l,b4l,<-b3R]
theorem b2e{r:Nat}(h:r<4294967296):bit1 r<4294967296:=by
 unfold bit1
 split
 ·exact Nat.xor_lt_two_pow (n:=32) (by omega) (by decide)
 ·omega
theorem b6s:∀ n {r:Nat},r<4294967296->bitN n r<4294967296
 | 0,_,h=>h
 | n+1,_,h=>b6s n (b2e h)
theorem a8P{a b:Nat}(h:a<4294967296)(k:b<4294967296):a ^^^ b<4294967296:=Nat.xor_lt_two_pow (n:=32) h k
theorem b4a:∀ (xs:List Int) {r:Nat},(∀ x∈xs,0<=x/\x<=255)->r<4294967296->crcGo r xs<4294967296
 | [],_,_,h=>h
 | x::xs,r,hx,h=>b4a xs (fun y hy=>hx y (List.mem_cons_of_mem _ hy)) (b6s 8 (a8P h (by have:=hx x c4g;omega)))
theorem b6E{xs:List Int}(hx:∀ x∈xs,0<=x/\x<=255):crcF xs<4294967296:=a8P (by decide) (b4a xs hx (by decide))
theorem a3t:∀ (xs ys:List Int) (r:Nat),crcGo r (xs++ys)=crcGo (crcGo r xs) ys
 | [],_,_=>rfl
 | x::xs,ys,r=>a3t xs ys _
open Go.RowKit
def pth(xs:List (Int×Int))(j:Nat):Int×Int:=xs.getD j (0,0)
structure RP (w:World) (A:Option Addr) (n:Nat) (xs:List (Int×Int)):Prop where
 len:xs.length=n
 hd:0<n->∃ b o,A=some ⟨b,o,none⟩
 cell:∀ b o,A=some ⟨b,o,none⟩->∀ j,j<n->w.cell? ⟨b,o+j*2,none⟩=some (.int .i64 (pth xs j).1)/\w.cell? ⟨b,o+j*2+1,none⟩=some (.int .i64 (pth xs j).2)
open Go.RowKit
def a2D(x:Int):Bool:=decide (x<0)||decide (15<x)
theorem a8a(w:World)(x:Int) :
  Calls Tryz.prog 124 #[.int .i64 x] w fun e w'=>e=.returned (.bool (a2D x))/\w=w':=by
 by_cases h:x<0
 ·have e1:decide (x<0)=true:=by simpa using h
  have hb:a2D x=true:=by simp[a2D,h]
  rw[hb];clear hb
  go_enter Tryz.func124,Tryz.ntmps124
  go_wp2
  go_ret
  exact⟨rfl,rfl⟩
 ·have e1:decide (x<0)=false:=by simpa using h
  have hb:a2D x=decide (15<x):=by simp[a2D,h]
  rw[hb];clear hb
  go_enter Tryz.func124,Tryz.ntmps124
  go_wp2
  go_ret
  exact⟨rfl,rfl⟩
def a2g(xs:List Int):Bool:=xs.any a2D
theorem b8J{xs:List Int}{k n:Nat}(hl:xs.length=n)(hk:k<n)(h:(xs.take k).any a2D=false)(hb:a2D (nth xs k)=false):(xs.take (k+1)).any a2D=false:=by
 rw[c3A (by omega),List.any_append,h]
 rw[a0o (by omega)] at hb
 simp[hb]
theorem c1e{xs:List Int}{k n:Nat}(hl:xs.length=n)(hk:k<n)(hb:a2D (nth xs k)=true):a2g xs=true:=by
 rw[a2g,List.any_eq_true]
 rw[a0o (by omega)] at hb
 exact⟨_,List.getElem_mem _,hb⟩
def c2X(b:Bool)(e:Ending):Prop:=∃ r:Int,e=.returned (.int .i64 r)/\decide (0<=r)=b/\-1<=r/\r<=140737488355328
theorem a6Z(w:World)(A:Option Addr)(n c:Nat)(xs:List Int)(hx:RI .i64 w A n xs)(hn:n<=140737488355328) :
  Calls Tryz.prog 139 #[.slice A n c,.func (.func 124) #[] #[]] w fun e w'=>c2X (a2g xs) e/\Dr w w':=by
 have HX:=c3o hx
 clear hx
 go_enter Tryz.func139,Tryz.ntmps139
 go_wp2_with fail
 go_loopw [5,8] (fun v i wr=>∃ k:Nat,k<=n/\i=.int .i64 k/\Hid ((xs.take k).any a2D=false)/\Hid (Dr w wr)) (fun _ i _=>n-(intOf i).toNat)
 case atStart=>exact⟨0,by omega,rfl,by simp[Hid],⟨0,rfl⟩⟩
 case round=>
  obtain⟨k,hk,rfl,HE,HW⟩:=hrel
  obtain⟨q,rfl⟩:=HW.out
  clear HW
  by_cases hlt:k<n
  ·obtain⟨b,o,rfl,hc⟩:=HX.out.at hlt
   go_wp2_with fail
   refine (a8a _ _).mono ?_
   rintro e w' ⟨rfl,rfl⟩
   by_cases hb:a2D (nth xs k)=true
   ·have HB:=c3o hb
    rw[hb]
    clear hb
    go_wp2_with fail
    go_ret
    exact⟨⟨k,rfl,by rw[c1e HX.out.len hlt HB.out];simp,by omega,by omega⟩,_,rfl⟩
   ·replace hb:=Bool.eq_false_iff.2 hb
    have HB:=c3o hb
    rw[hb]
    clear hb
    go_wp2_with fail
    go_roundw
    case rel=>exact⟨k+1,by omega,by go_num,b8J HX.out.len hlt HE.out HB.out,⟨_,rfl⟩⟩
    case measure=>simp[intOf];omega
  ·go_wp2_with fail
   go_ret
   have e1:xs.take k=xs:=c4a (by have:=HX.out.len;omega)
   have e2:=HE.out
   rw[e1] at e2
   exact⟨⟨-1,rfl,by rw[a2g,e2];simp,by omega,by omega⟩,_,rfl⟩
theorem a4F(w:World)(A:Option Addr)(n c:Nat)(xs:List Int)(hx:RI .i64 w A n xs)(hn:n<=140737488355328) :
  Calls Tryz.prog 123 #[.slice A n c,.func (.func 124) #[] #[]] w fun e w'=>e=.returned (.bool (a2g xs))/\Dr w w':=by
 have HX:=c3o hx
 clear hx
 go_enter Tryz.func123,Tryz.ntmps123
 go_wp2_with fail
 refine (a6Z w _ _ _ xs HX.out hn).mono ?_
 rintro e w' ⟨⟨r,rfl,hr,h1,h2⟩,q,rfl⟩
 have HR:=c3o hr
 clear hr
 go_wp2_with fail
 go_ret
 rw[<-HR.out]
 exact⟨rfl,_,rfl⟩
theorem a1R(w:World)(A:Option Addr)(n c:Nat)(xs:List Int)(hx:RI .i64 w A n xs)(hn:n<=140737488355328) :
  Calls Tryz.prog 100 #[.slice A n c] w fun e w'=>e=.returned (.bool (!a2g xs))/\Dr w w':=by
 have HX:=c3o hx
 clear hx
 go_enter Tryz.func100,Tryz.ntmps100
 go_wp2_with fail
 refine (a4F w _ _ _ xs HX.out hn).mono ?_
 rintro e w' ⟨rfl,q,rfl⟩
 go_wp2_with fail
 go_ret
 exact⟨rfl,_,rfl⟩
open Go.RowKit
def pcells:List (Int×Int)->List Value
 | []=>[]
 | p::r=>.int .i64 p.1::.int .i64 p.2::pcells r
theorem a5c(xs ys:List (Int×Int)):pcells (xs++ys)=pcells xs++pcells ys:=by
 induction xs with
 | nil=>rfl
 | cons p r ih=>simp[pcells,ih]
theorem a5d(xs:List (Int×Int)):(pcells xs).length=xs.length*2:=by
 induction xs with
 | nil=>rfl
 | cons p r ih=>simp[pcells,ih];omega
theorem b5E(xs:List (Int×Int)):∀ j,j<xs.length->(pcells xs)[j*2]? =some (.int .i64 (pth xs j).1)/\(pcells xs)[j*2+1]? =some (.int .i64 (pth xs j).2):=by
 induction xs with
 | nil=>intro j hj;simp at hj
 | cons p r ih=>
  intro j hj
  cases j with
  | zero=>exact⟨rfl,rfl⟩
  | succ j=>
   have:=ih j (by simpa using hj)
   have e:(j+1)*2=j*2+1+1:=by omega
   rw[e]
   simpa [pcells,pth] using this
theorem b0Q:(Tryz.prog.info? 163).map (fun i=>(i.zero,i.size,i.bytes))=some (some (.agg #[.int .i64 0,.int .i64 0]),2,16):=by kernel_rfl
theorem b3Q {ops:Array Oper} {rest:List Oper} {o:Oper} {a:Act} {Q:Exit->Act->World->Prop} {w:World} (hgd:o.guard=none) (s x:Operand)
  (ho:o.op=.call { callee:=.builtin .append,args:=#[s,x],argTypes:=#[159,159] })
  (base:Nat) (v:Value) (n:Nat) (xs:List (Int×Int)) (hs:a.eval s=v) (hown:w.ownsRow base 163 2 v n (pcells xs))
  (g:Nat) (p q:Int) (hx:a.eval x=.slice (some ⟨g,0,none⟩) 1 1) (h0:w.cell? ⟨g,0,none⟩=some (.int .i64 p)) (h1:w.cell? ⟨g,1,none⟩=some (.int .i64 q))
  (hn:n<=1000000) (hbase:base<=w.heap.size)
  (h:∀ v' w',w'.ownsRow base 163 2 v' (n+1) (pcells (xs++[(p,q)]))->w.grownBy w' v.ownBlock->(∃ g' c',v'=.slice (some ⟨g',0,none⟩) (n+1) c')->wpList Tryz.prog ops Q rest (a.put o.dst v') w'):wpList Tryz.prog ops Q (o::rest) a w:=by
 obtain⟨i0,hi,hz0,hz1,hz2⟩:=c3Y b0Q
 refine wpList_append_own _ hgd s x 159 ho base 163 i0 (.agg #[.int .i64 0,.int .i64 0]) 2 16 Tryz.underlying159 hi hz0 hz1 hz2 rfl (by decide) v n (pcells xs) hs hown ⟨g,0,none⟩ 1 1 [.int .i64 p,.int .i64 q] hx rfl ?_ ?_ (by unfold maxLen;omega) (by omega) hbase ?_
 ·intro j u hu
  rw[a0R]
  match j,hu with
  | 0,hu=>simp at hu;subst hu;exact h0
  | 1,hu=>simp at hu;subst hu;exact h1
  | j+2,hu=>simp at hu
 ·intro u hu
  simp at hu
  rcases hu with rfl|rfl<;>rfl
 ·intro v' w' h2 h3 _
  rw[a5c] at h
  refine h v' w' h2 h3 ?_
  rcases h2.2 with⟨_,h⟩|⟨g',c',_,h,_⟩
  ·omega
  ·exact⟨g',c',h⟩
def runN(v:Int):List Int->Nat
 | []=>0
 | x::r=>if x=v then runN v r+1 else 0
theorem b3j(v:Int)(l:List Int):runN v l<=l.length:=by
 induction l with
 | nil=>simp[runN]
 | cons x r ih=>simp only[runN,c3q];split<;>omega
theorem a7E(x:Int)(r:List Int):1<=runN x (x::r):=by simp[runN]
theorem c1I(v:Int)(l:List Int):∀ n,n<=l.length->(∀ j,j<n->l.getD j 0=v)->(n<l.length->l.getD n 0≠v)->runN v l=n:=by
 induction l with
 | nil=>intro n hn _ _;simp at hn;subst hn;rfl
 | cons x r ih=>
  intro n hn h1 h2
  cases n with
  | zero=>
   have:=h2 (by simp)
   simp at this
   simp[runN,this]
  | succ n=>
   have e:x=v:=by simpa using h1 0 (by omega)
   have:=ih n (by simpa using hn) (fun j hj=>by simpa using h1 (j+1) (by omega)) (fun h=>by simpa using h2 (by simpa using h))
   simp[runN,e,this]
theorem b9Z(v:Int)(l:List Int):∀ j,j<runN v l->l.getD j 0=v:=by
 induction l with
 | nil=>intro j hj;simp[runN] at hj
 | cons x r ih=>
  intro j hj
  simp only[runN] at hj
  split at hj
  ·cases j with
   | zero=>simpa
   | succ j=>simpa using ih j (by omega)
  ·omega
def reps(fr sym top n:Nat):List (Int×Int):=
 if h:0<fr/\0<top/\fr<=n then ((sym:Int),((min n top:Nat):Int)-(fr:Int))::reps fr sym top (n-min n top) else []
termination_by n
decreasing_by have:=h.1;have:=h.2;omega
def left(fr top n:Nat):Nat:=
 if h:0<fr/\0<top/\fr<=n then left fr top (n-min n top) else n
termination_by n
decreasing_by have:=h.1;have:=h.2;omega
theorem a9J{fr sym top n:Nat}(h0:0<fr)(h1:0<top)(h:fr<=n):reps fr sym top n=((sym:Int),((min n top:Nat):Int)-(fr:Int))::reps fr sym top (n-min n top):=by
 rw[reps,dif_pos ⟨h0,h1,h⟩]
theorem a9K{fr sym top n:Nat}(h:n<fr):reps fr sym top n=[]:=by
 rw[reps,dif_neg (by omega)]
theorem a7e{fr top n:Nat}(h0:0<fr)(h1:0<top)(h:fr<=n):left fr top n=left fr top (n-min n top):=by
 rw[left,dif_pos ⟨h0,h1,h⟩]
theorem a7f{fr top n:Nat}(h:n<fr):left fr top n=n:=by
 rw[left,dif_neg (by omega)]
theorem c3h(fr top n:Nat)(h0:0<fr)(h1:0<top):left fr top n<fr:=by
 induction n using Nat.strongRecOn with
 | _ n ih=>
  by_cases h:fr<=n
  ·rw[a7e h0 h1 h];exact ih _ (by omega)
  ·rw[a7f (by omega)];omega
theorem a1T(fr sym top n:Nat)(h0:0<fr)(h1:0<top):(reps fr sym top n).length+left fr top n<=n:=by
 induction n using Nat.strongRecOn with
 | _ n ih=>
  by_cases h:fr<=n
  ·rw[a9J h0 h1 h,a7e h0 h1 h]
   have:=ih (n-min n top) (by omega)
   simp only[c3q];omega
  ·rw[a9K (by omega),a7f (by omega)];simp
theorem b1j{fr sym top m r:Nat}{es:List (Int×Int)}(h0:0<fr)(h1:0<top)(h:fr<=r)(hA:reps fr sym top m=es++reps fr sym top r)(hL:left fr top m=left fr top r){q:Int}{r':Nat}(hq:q=((min r top:Nat):Int)-(fr:Int))(hr:r'=r-min r top) :
  reps fr sym top m=(es++[((sym:Int),q)])++reps fr sym top r'/\left fr top m=left fr top r':=by
 subst hq;subst hr
 rw[hA,hL,a9J h0 h1 h,a7e h0 h1 h]
 simp
theorem b7N{fr sym top m r:Nat}{es:List (Int×Int)}(h:r<fr)(hA:reps fr sym top m=es++reps fr sym top r)(hL:left fr top m=left fr top r) :
  reps fr sym top m=es/\left fr top m=r:=by
 rw[hA,hL,a9K h,a7f h];simp
theorem c2V{r:Nat}(h:3<=r)(h2:r<11):reps 3 17 10 r=[(17,(r:Int)-3)]/\left 3 10 r=0:=by
 rw[a9J (by omega) (by omega) h,a7e (by omega) (by omega) h,show min r 10=r by omega,Nat.sub_self,a9K (by omega),a7f (by omega)]
 exact⟨rfl,rfl⟩
def b1X(n:Nat):List (Int×Int):=reps 11 18 138 n++(reps 3 17 10 (left 11 138 n)++List.replicate (left 3 10 (left 11 138 n)) (0,0))
def b1O(v:Int)(n:Nat):List (Int×Int):=(v,0)::(reps 3 16 6 (n-1)++List.replicate (left 3 6 (n-1)) (v,0))
def a3K(v:Int)(n:Nat):List (Int×Int):=if v=0 then b1X n else b1O v n
theorem a8E(v:Int)(n:Nat)(h:1<=n):(a3K v n).length<=n:=by
 unfold a3K
 split
 ·have h1:=a1T 11 18 138 n (by omega) (by omega)
  have h2:=a1T 3 17 10 (left 11 138 n) (by omega) (by omega)
  simp only[b1X,c3p,List.length_replicate];omega
 ·have h1:=a1T 3 16 6 (n-1) (by omega) (by omega)
  simp only[b1O,c3q,c3p,List.length_replicate];omega
def packF(l:List Int):List (Int×Int):=
 match l with
 | []=>[]
 | v::r=>a3K v (runN v (v::r))++packF ((v::r).drop (runN v (v::r)))
termination_by l.length
decreasing_by have:=a7E v r;simp only[c3U,c3q];omega
theorem a7v:packF []=[]:=by rw[packF]
theorem a7u(l:List Int):(packF l).length<=l.length:=by
 induction h:l.length using Nat.strongRecOn generalizing l with
 | _ n ih=>
  match l,h with
  | [],_=>rw[a7v];simp
  | v::r,h=>
   have h1:=a7E v r
   have h2:=b3j v (v::r)
   have h3:=a8E v _ h1
   have h4:=ih _ (by rw[<-h,c3U];omega) ((v::r).drop (runN v (v::r))) rfl
   rw[packF,c3p]
   rw[c3U] at h4
   omega
theorem b9P(xs:List Int)(i n:Nat)(hi:i<xs.length)(hn:i+n<=xs.length)(h1:∀ j,j<n->xs.getD (i+j) 0=xs.getD i 0)(h2:i+n<xs.length->xs.getD (i+n) 0≠xs.getD i 0) :
  packF (xs.drop i)=a3K (xs.getD i 0) n++packF (xs.drop (i+n)):=by
 have e:xs.drop i=xs.getD i 0::xs.drop (i+1):=by
  rw[List.drop_eq_getElem_cons hi];simp[List.getD,hi]
 have hr:runN (xs.getD i 0) (xs.drop i)=n:=by
  refine c1I _ _ n (by rw[c3U];omega) (fun j hj=>?_) (fun h=>?_)
  ·have:=h1 j hj
   simpa [List.getD,List.getElem?_drop] using this
  ·have:=h2 (by rw[c3U] at h;omega)
   simpa [List.getD,List.getElem?_drop] using this
 rw[e] at hr ⊢
 rw[packF,hr]
 rw[<-e,List.drop_drop]
open Go.RowKit
def a9n:List Int:=[0,0,0,0,0,0,0,0,0,0,0,0,0,0,0,0,3,3,11]
def a5Q:List Int:=[0,0,0,0,0,0,0,0,0,0,0,0,0,0,0,0,2,3,7]
def orderL:List Int:=[16,17,18,0,8,7,9,6,10,5,11,4,12,3,13,2,14,1,15]
structure Tabs (w:World):Prop where
 fro:RI .i64 w (some ⟨4,0,none⟩) 19 a9n
 wid:RI .i64 w (some ⟨2,0,none⟩) 19 a5Q
 ord:RI .i64 w (some ⟨1,0,none⟩) 19 orderL
theorem RI.below{k:IntKind}{w w':World}{A:Option Addr}{n:Nat}{xs:List Int}(h:RI k w A n xs){B:Nat}(hb:Below B w w')(ho:∀ a,A=some a->a.block<B):RI k w' A n xs:=
 ⟨h.len,h.hd,fun b o ha j hj=>(hb.cell (p:=⟨b,o+j,none⟩) (ho ⟨b,o,none⟩ ha)).trans (h.cell b o ha j hj)⟩
def gtop:Nat:=max (max 4 2) 1+1
theorem glt:4<gtop/\2<gtop/\1<gtop:=by decide
theorem Tabs.below{w w':World}(h:Tabs w){B:Nat}(hb:Below B w w')(h3:gtop<=B):Tabs w':=
 ⟨h.fro.below hb (by rintro a ⟨⟩;exact c3C glt.1 h3),h.wid.below hb (by rintro a ⟨⟩;exact c3C glt.2.1 h3),h.ord.below hb (by rintro a ⟨⟩;exact c3C glt.2.2 h3)⟩
theorem Tabs.keeps{S:List Nat}{w w':World}(h:Tabs w)(hk:Keeps S w w')(h3:∀ x∈S,gtop<=x):Tabs w':=
 ⟨h.fro.keeps hk (by rintro a ⟨⟩ hx;exact absurd glt.1 (Nat.not_lt.2 (h3 _ hx))),h.wid.keeps hk (by rintro a ⟨⟩ hx;exact absurd glt.2.1 (Nat.not_lt.2 (h3 _ hx))),h.ord.keeps hk (by rintro a ⟨⟩ hx;exact absurd glt.2.2 (Nat.not_lt.2 (h3 _ hx)))⟩
theorem Tabs.size{w:World}(h:Tabs w):gtop<=w.heap.size:=by
 have h1:=c3F _ _ (h.fro.cell _ _ rfl 0 (by omega))
 have h2:=c3F _ _ (h.wid.cell _ _ rfl 0 (by omega))
 have h3:=c3F _ _ (h.ord.cell _ _ rfl 0 (by omega))
 simp only at h1 h2 h3
 simp only[gtop]
 omega
theorem b4z {ops:Array Oper} {o:Oper} {a:Act} {K:Act->World->Prop} {Q:Exit->Act->World->Prop} {E:Prop} {w:World} (hgd:o.guard=none) (s x:Operand)
  (ho:o.op=.call { callee:=.builtin .append,args:=#[s,x],argTypes:=#[159,159] })
  (base:Nat) (v:Value) (n:Nat) (xs:List (Int×Int)) (hs:a.eval s=v) (hown:w.ownsRow base 163 2 v n (pcells xs))
  (g:Nat) (p q:Int) (hx:a.eval x=.slice (some ⟨g,0,none⟩) 1 1) (h0:w.cell? ⟨g,0,none⟩=some (.int .i64 p)) (h1:w.cell? ⟨g,1,none⟩=some (.int .i64 q))
  (hn:n<=1000000) (hbase:base<=w.heap.size)
  (h:∀ g' c' w',w'.ownsRow base 163 2 (.slice (some ⟨g',0,none⟩) (n+1) c') (n+1) (pcells (xs++[(p,q)]))->w.grownBy w' v.ownBlock->K (a.put o.dst (.slice (some ⟨g',0,none⟩) (n+1) c')) w') :
  if Region.wanted o (yielded ops a.tmps)=true then Oper.wp Tryz.prog o a w K Q else E:=by
 obtain⟨i0,hi,hz0,hz1,hz2⟩:=c3Y b0Q
 refine step_append_lies _ hgd s x 159 ho base 163 i0 (.agg #[.int .i64 0,.int .i64 0]) 2 16 Tryz.underlying159 hi hz0 hz1 hz2 rfl (by decide) v n (pcells xs) hs hown ⟨g,0,none⟩ 1 1 [.int .i64 p,.int .i64 q] hx rfl ?_ ?_ (by omega) (by unfold maxLen;omega) (by omega) hbase _ rfl ?_
 ·intro j u hu
  rw[a0R]
  match j,hu with
  | 0,hu=>simp at hu;subst hu;exact h0
  | 1,hu=>simp at hu;subst hu;exact h1
  | j+2,hu=>simp at hu
 ·intro u hu
  simp at hu
  rcases hu with rfl|rfl<;>rfl
 ·intro g' cap w' h2 h3 _ _
  rw[a5c] at h
  exact h g' cap w' h2 h3
theorem a4n (w:World) (B n fr sym top:Nat) (v:Value) (len:Nat) (out:List (Int×Int)) (ht:Tabs w) (hB:gtop<=B) (hc:w.cell? ⟨B,0,none⟩=some v) (hf:w.frozen? ⟨B,0,none⟩=false)
  (hown:w.ownsRow (B+1) 163 2 v len (pcells out)) (hs:sym<19) (hfr:nth a9n sym=fr) (h0:0<fr) (h1:0<top) (hft:fr<=top) (hl:len+n<=100000) (ht2:top<=1000) :
  Calls Tryz.prog 125 #[.int .i64 n,.int .i64 sym,.int .i64 top,.pointer (some ⟨B,0,none⟩)] w fun e w'=>∃ v',e=.returned (.int .i64 (left fr top n))/\w'.cell? ⟨B,0,none⟩=some v'/\w'.frozen? ⟨B,0,none⟩=false /\
   w'.ownsRow (B+1) 163 2 v' (len+(reps fr sym top n).length) (pcells (out++reps fr sym top n))/\Below B w w':=by
 have hBw:B<w.heap.size:=c3F _ _ hc
 have HT:=c3o ht
 have HO:=c3o hown
 have HF:=c3o hfr
 clear ht hown hfr
 go_enter Tryz.func125,Tryz.ntmps125
 go_wp2_with fail
 go_loopw [0,8] (fun v0 v8 wr=>∃ (r:Nat) (es:List (Int×Int)) (u:Value),v0=.int .i64 r/\Hid (reps fr sym top n=es++reps fr sym top r)/\Hid (left fr top n=left fr top r)/\len+es.length+r<=len+n/\wr.cell? ⟨B,0,none⟩=some u/\wr.frozen? ⟨B,0,none⟩=false/\Hid (wr.ownsRow (B+1) 163 2 u (len+es.length) (pcells (out++es)))/\Hid (Below B w wr)) (fun v0 _ _=>(intOf v0).toNat)
 case atStart=>exact⟨n,[],v,rfl,c3o rfl,c3o rfl,by simp,hc,hf,c3o (by simpa using HO.out),c3o (c3P _ _)⟩
 case round=>
  clear HO hc hf
  obtain⟨r,es,u,rfl,HA,HL2,hlen,hc,hf,HO,HW⟩:=hrel
  have hT:=HT.out.below HW.out hB
  have hfc:=hT.fro.cell _ _ rfl sym hs
  rw[c3X,HF.out] at hfc
  have hsz:=HW.out.size
  have HTr:=c3o hT
  clear hT
  have hs2:(sym:Int)<19:=by omega
  have hBr:B<wr.heap.size:=by omega
  have hne:∀ k,u.ownBlock=some k->B<k:=fun k hk=>(HO.out.lt k hk).1
  have cellB:∀ (o:Obj) (w1:World),(wr.alloc o).drew.grownBy w1 u.ownBlock->w1.cell? ⟨B,0,none⟩=some u:=fun o w1 hg=>
   (World.cell?_of_block (w:=(wr.alloc o).drew) (a:=⟨B,0,none⟩) (hg.block B (by simp;omega) (fun e=>by have:=hne B e.symm;omega))).trans (((Keeps.refl [] wr).alloc o).cell (by simp) hc)
  have frozenB:∀ (o:Obj) (w1:World),(wr.alloc o).drew.grownBy w1 u.ownBlock->w1.frozen? ⟨B,0,none⟩=false:=fun o w1 hg=>
   (World.frozen?_of_block (w:=(wr.alloc o).drew) (a:=⟨B,0,none⟩) (hg.block B (by simp;omega) (fun e=>by have:=hne B e.symm;omega))).trans ((((Keeps.refl [] wr).alloc o).frozen (p:=⟨B,0,none⟩) hBr (by simp)).trans hf)
  have CB:=c3o cellB
  have FB:=c3o frozenB
  have NE:=c3o hne
  clear cellB frozenB hne
  by_cases h11:fr<=r
  ·have e1:decide ((fr:Int)<=(r:Int))=true:=by simp;omega
   rcases (by omega:¬((top:Int)<(r:Int))∨(top:Int)<(r:Int)) with h138|h138
   ·go_wp2_with fail
    have e2:IntKind.i64.wrap ((r:Int)-(fr:Int))=(r:Int)-(fr:Int):=c3G _ (by omega)
    go_region_law (refine b4z rfl (.tmp 17) (.tmp 25) rfl (B+1) _ _ _ rfl (HO.out.alloc _) wr.heap.size sym ((r:Int)-fr) rfl (by simp) (by simp[e2]) (by omega) (by simp;omega) ?_;intro g' c' w1 h1 hg;have hc1:=CB.out _ w1 hg;have hf1:=FB.out _ w1 hg)
    all_goals
     have HO1:=c3o (c3J h1 (a:=⟨B,0,none⟩) (c3V B) (.slice (some ⟨g',0,none⟩) (len+es.length+1) c'))
     have HB1:=c3o (((((HW.out.alloc (by omega) _).drew).grown hg (by simp;omega) (fun k hk=>c4h (NE.out k hk)))).setCell (p:=⟨B,0,none⟩) (c3v B) (.slice (some ⟨g',0,none⟩) (len+es.length+1) c'))
     clear HO HW h1 hg CB FB NE
     go_wp2_with fail
     go_roundw
     case rel=>
      have hs:=b1j h0 (by omega) h11 HA.out HL2.out (q:=(r:Int)-fr) (r':=0) (by omega) (by omega)
      exact⟨0,es++[((sym:Int),(r:Int)-fr)],.slice (some ⟨g',0,none⟩) (len+es.length+1) c',by go_num,c3o hs.1,c3o hs.2,by first|(simp;omega)|omega,World.cell?_setCell_same' _ _ _ (by rw[hc1];rfl),by simpa using hf1,c3o (by simpa [c3Z] using HO1.out),HB1⟩
     case measure=>simp[intOf];omega
   ·go_wp2_with fail
    have e2:IntKind.i64.wrap ((top:Int)-(fr:Int))=(top:Int)-(fr:Int):=c3G _ (by omega)
    go_region_law (refine b4z rfl (.tmp 17) (.tmp 25) rfl (B+1) _ _ _ rfl (HO.out.alloc _) wr.heap.size sym ((top:Int)-fr) rfl (by simp) (by simp[e2]) (by omega) (by simp;omega) ?_;intro g' c' w1 h1 hg;have hc1:=CB.out _ w1 hg;have hf1:=FB.out _ w1 hg)
    all_goals
     have HO1:=c3o (c3J h1 (a:=⟨B,0,none⟩) (c3V B) (.slice (some ⟨g',0,none⟩) (len+es.length+1) c'))
     have HB1:=c3o (((((HW.out.alloc (by omega) _).drew).grown hg (by simp;omega) (fun k hk=>c4h (NE.out k hk)))).setCell (p:=⟨B,0,none⟩) (c3v B) (.slice (some ⟨g',0,none⟩) (len+es.length+1) c'))
     clear HO HW h1 hg CB FB NE
     go_wp2_with fail
     go_roundw
     case rel=>
      have hs:=b1j h0 (by omega) h11 HA.out HL2.out (q:=(top:Int)-fr) (r':=r-top) (by omega) (by omega)
      exact⟨r-top,es++[((sym:Int),(top:Int)-fr)],.slice (some ⟨g',0,none⟩) (len+es.length+1) c',by go_num,c3o hs.1,c3o hs.2,by first|(simp;omega)|omega,World.cell?_setCell_same' _ _ _ (by rw[hc1];rfl),by simpa using hf1,c3o (by simpa [c3Z] using HO1.out),HB1⟩
     case measure=>simp[intOf];omega
  ·have e1:decide ((fr:Int)<=(r:Int))=false:=by simp;omega
   go_wp2_with fail
   go_ret
   have hs:=b7N (by omega) HA.out HL2.out
   rw[hs.1,hs.2]
   exact⟨_,rfl,hc,hf,HO.out,HW.out⟩
end Go.Proofs.YtghjlpechjggjaaGreatDoor
