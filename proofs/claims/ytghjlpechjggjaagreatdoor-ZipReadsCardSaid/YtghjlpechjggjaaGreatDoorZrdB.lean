import Derived.Test.YtghjlpechjggjaaGreatDoorZrdA
import Derived.Laws.BitsAllLaws
import Derived.RangeFuncNested
import Derived.RangeFuncLeaves
import Derived.RegionTactic
import Derived.BigRegion
import Derived.ChangeAlike
import Derived.Laws.Rows
import Derived.Deep.RegionLaw
import Derived.Outline
set_option linter.defProp false
set_option linter.unnecessarySimpa false
set_option linter.unusedVariables false
set_option linter.unusedSimpArgs false
set_option linter.constructorNameAsVariable false
set_option maxRecDepth 100000
set_option maxHeartbeats 60000000
namespace Go.Proofs.YtghjlpechjggjaaGreatDoor
open Go.RowKit
private def c3o := @Array.getElem?_eq_some_iff
private def c3p := @Lib.hid
private def c3q := @List.getElem_range
private def c3r := @List.getElem_map
private def c3s := @List.take_succ_cons
private def c3t := @List.ext_getElem
private def c3u := @List.length_cons
private def c3v := @List.pairwise_cons
private def c3w := @List.filter_cons_of_pos
private def c3x := @Nat.le_refl
private def c3y := @List.filter_cons_of_neg
private def c3z := @World.putObj_heap_other
private def c3A := @List.length_append
private def c3B := @AllReady.cons
private def c3C := @Tryz.underlying191
private def c3D := @List.take_of_length_le
private def c3E := @World.putObj_heap_same
private def c3F := @List.filter_append
private def c3G := @List.mem_cons
private def c3H := @AllReady.nil
private def c3I := @List.map_cons
private def c3J := @List.sum_cons
private def c3K := @List.getElem_mem
private def c3L := @Nat.lt_or_ge
private def c3M := @wpAny_ready
private def c3N := @List.flatMap_cons
private def c3O := @List.take_zero
private def c3P := @Bool.and_eq_true
private def c3Q := @List.getElem_set
private def c3R := @List.length_take
private def c3S := @List.getElem?_eq_getElem
private def c3T := @Int.eq_ofNat_of_zero_le
private def c3U := @List.mem_cons_self
private def c3V := @Nat.zero_le
private def c3W := @decide_eq_true_eq
private def c3X := @List.all_eq_true
private def c3Y := @Nat.add_assoc
private def c3Z := @Int.mul_comm
private def c4a := @Int.pow_succ
private def c4b := @Int.le_refl
open Go.RowKit
theorem b0E(r:Nat):crcGo r []=r:=by cases r<;>rfl
def stepsL:List Int:=crcTab.map fun n:Nat=>(n:Int)
structure Tabz (w:World):Prop where
 lens:Tabs w
 sum:RI .u32 w (some ⟨0,0,none⟩) 16 stepsL
def gtopz:Nat:=max gtop (0+1)
theorem gltz:0<gtopz/\gtop<=gtopz:=by decide
theorem Tabz.keeps{S:List Nat}{w w':World}(h:Tabz w)(hk:Keeps S w w')(h3:∀ x∈S,gtopz<=x):Tabz w':=
 ⟨h.lens.keeps hk (fun x hx=>Nat.le_trans gltz.2 (h3 x hx)),h.sum.keeps hk (by rintro a ⟨⟩ hx;exact absurd gltz.1 (Nat.not_lt.2 (h3 _ hx)))⟩
theorem Tabz.size{w:World}(h:Tabz w):gtopz<=w.heap.size:=by
 have h1:=h.lens.size
 have h2:=World.block_lt_of_cell? _ _ (h.sum.cell _ _ rfl 0 (by omega))
 exact Nat.max_le.2 ⟨h1,h2⟩
theorem b1x{w:World}(h:RI .u32 w (some ⟨0,0,none⟩) 16 stepsL){m:Nat}(hm:m<16):w.cell? ⟨0,m,none⟩=some (.int .u32 ((crcTab.getD m 0:Nat):Int)):=by
 have:=h.cell _ _ rfl m hm
 rw[Nat.zero_add] at this
 rw[this]
 congr 2
 have hl:m<stepsL.length:=hm
 rw[a0o hl]
 simp[stepsL,show m<crcTab.length from hm]
theorem c0R:∀ m,m<16->crcTab.getD m 0<4294967296:=by decide
theorem b3J(w:World)(A:Option Addr)(n c:Nat)(xs:List Int)(hx:RI .u8 w A n xs)(hb:∀ x∈xs,0<=x/\x<=255)(hn:n<=1000000000)(hT:Tabz w) :
  Calls Tryz.prog 51 #[.int .u32 0,.slice A n c] w fun e w'=>e=.returned (.int .u32 ((crcF xs:Nat):Int))/\Dr w w':=by
 have HX:=c3p hx
 have HB:=c3p hb
 have HL:Hid (xs.length=n):=c3p hx.len
 have HS:=c3p hT.sum
 clear hx hb hT
 have n0:bits .xor .u32 IntKind.u32.max 0=4294967295:=by decide +kernel
 go_enter Tryz.func51,Tryz.ntmps51
 go_wp2_with fail
 go_loopw [5,12] (fun rv iv wr=>∃ (i r:Nat),i<=n/\r<4294967296/\rv=.int .u32 (r:Int)/\iv=.int .i64 i/\Hid (r=crcGo 4294967295 (xs.take i))/\Hid (Dr w wr)) (fun _ iv _=>n-(intOf iv).toNat)
 case atStart=>exact⟨0,4294967295,by omega,by omega,by simp,rfl,c3p (by rw[c3O,b0E]),c3p ⟨0,rfl⟩⟩
 case round=>
  obtain⟨i,r,hi,hr,rfl,rfl,HR,HD⟩:=hrel
  by_cases hlt:i<n
  ·have e0:decide (i<n)=true:=by simpa using hlt
   obtain⟨b,o,rfl,hc⟩:=(HX.out.keeps (HD.out.keeps (S:=[])) (a0a _)).at hlt
   have hbx:=HB.out (nth xs i) (by rw[a0o (by rw[HL.out];exact hlt)];exact c3K _)
   have HST:=HS.out.keeps (HD.out.keeps (S:=[])) (a0a _)
   obtain⟨x,hxx⟩:∃ x:Nat,nth xs i=(x:Int):=⟨(nth xs i).toNat,by omega⟩
   have hstep:crcGo 4294967295 (xs.take (i+1))=bitN 8 (r ^^^ x):=by
    rw[List.take_succ_eq_append_getElem (by rw[HL.out];exact hlt),a3t,<-HR.out,<-a0o (by rw[HL.out];exact hlt),hxx];rfl
   rw[hxx] at hc hbx
   have hx8:x<256:=by omega
   have c1:bits .xor .u32 (r:Int) (x:Int)=((r ^^^ x:Nat):Int):=u32_xor_nat r x hr (by omega)
   have hr1:r ^^^ x<4294967296:=a8P hr (by omega)
   rw[<-b7t] at hstep
   generalize r ^^^ x=r1 at *
   have hn1:nib r1=r1/16 ^^^ crcTab.getD (r1%16) 0:=rfl
   have a1:bits .and .u32 (r1:Int) 15=((r1%16:Nat):Int):=by
    have:=u32_and_nat r1 15 hr1 (by decide)
    rw[show r1 &&& 15=r1%16 from Nat.and_two_pow_sub_one_eq_mod r1 4] at this
    exact this
   have d1:(r1:Int)/16=((r1/16:Nat):Int):=by omega
   have hm1:r1%16<16:=Nat.mod_lt _ (by decide)
   have t1:=b1x HST hm1
   have ht1:=c0R _ hm1
   generalize crcTab.getD (r1%16) 0=T1 at *
   have x1:bits .xor .u32 ((r1/16:Nat):Int) (T1:Int)=((nib r1:Nat):Int):=by rw[hn1];exact u32_xor_nat _ _ (by omega) ht1
   have hr2:nib r1<4294967296:=by rw[hn1];exact a8P (by omega) ht1
   clear hn1
   generalize hq1:r1/16=q1 at *
   generalize hp1:r1%16=p1 at *
   generalize nib r1=r2 at *
   have hn2:nib r2=r2/16 ^^^ crcTab.getD (r2%16) 0:=rfl
   have a2:bits .and .u32 (r2:Int) 15=((r2%16:Nat):Int):=by
    have:=u32_and_nat r2 15 hr2 (by decide)
    rw[show r2 &&& 15=r2%16 from Nat.and_two_pow_sub_one_eq_mod r2 4] at this
    exact this
   have d2:(r2:Int)/16=((r2/16:Nat):Int):=by omega
   have hm2:r2%16<16:=Nat.mod_lt _ (by decide)
   have t2:=b1x HST hm2
   have ht2:=c0R _ hm2
   generalize crcTab.getD (r2%16) 0=T2 at *
   have x2:bits .xor .u32 ((r2/16:Nat):Int) (T2:Int)=((nib r2:Nat):Int):=by rw[hn2];exact u32_xor_nat _ _ (by omega) ht2
   have hr3:nib r2<4294967296:=by rw[hn2];exact a8P (by omega) ht2
   clear hn2
   generalize hq2:r2/16=q2 at *
   generalize hp2:r2%16=p2 at *
   generalize nib r2=r3 at *
   clear hq1 hp1 hq2 hp2
   have HSTEP:=c3p hstep.symm
   clear hstep HR hbx HST
   go_wp2_with fail
   go_roundw
   case rel=>exact⟨i+1,r3,by omega,hr3,rfl,by go_num,HSTEP,HD⟩
   case measure=>simp[intOf];omega
  ·obtain rfl:i=n:=by omega
   have e0:decide (i<i)=false:=by simp
   have hre:bits .xor .u32 IntKind.u32.max (r:Int)=((crcF xs:Nat):Int):=by
    rw[show IntKind.u32.max=4294967295 from rfl]
    have h1:=u32_xor_nat 4294967295 r (by decide) hr
    have h2:xs.take i=xs:=c3D (by rw[HL.out];omega)
    have h3:=HR.out
    rw[h2] at h3
    unfold crcF
    rw[<-h3]
    exact h1
   go_wp2_with fail
   go_ret
   exact⟨rfl,HD.out⟩
theorem b1E(w:World)(A:Option Addr)(n c:Nat)(xs:List Int)(hx:RI .u8 w A n xs)(hb:∀ x∈xs,0<=x/\x<=255)(hn:n<=1000000000)(hT:Tabz w) :
  Calls Tryz.prog 28 #[.slice A n c] w fun e w'=>e=.returned (.int .u32 ((crcF xs:Nat):Int))/\Dr w w':=by
 have HC:=c3p (b3J w A n c xs hx hb hn hT)
 clear hx hb hT
 go_enter Tryz.func28,Tryz.ntmps28
 go_wp2_with fail
 refine HC.out.mono ?_
 rintro _ w' ⟨rfl,hd⟩
 have HD:=c3p hd
 clear hd
 go_wp2_with fail
 go_ret
 exact⟨rfl,HD.out⟩
open Go.RowKit
structure KeepsOn (C:Nat->Prop) (W W':World):Prop where
 size:W.heap.size<=W'.heap.size
 block:∀ k,k<W.heap.size->C k->W'.heap[k]? =W.heap[k]?
theorem KeepsOn.trans{C:Nat->Prop}{A B D:World}(h:KeepsOn C A B)(k:KeepsOn C B D):KeepsOn C A D:=
 ⟨Nat.le_trans h.size k.size,fun i hi hc=>(k.block i (Nat.lt_of_lt_of_le hi h.size) hc).trans (h.block i hi hc)⟩
theorem KeepsOn.mono{C C':Nat->Prop}{A B:World}(h:KeepsOn C A B)(hc:∀ k,C' k->C k):KeepsOn C' A B:=⟨h.size,fun i hi h'=>h.block i hi (hc i h')⟩
theorem KeepsOn.of{C:Nat->Prop}{S:List Nat}{A B:World}(h:Keeps S A B)(hc:∀ k,C k->k∉S):KeepsOn C A B:=⟨h.size,fun i hi h'=>h.block i hi (hc i h')⟩
theorem a0E(W:World)(l:Nat)(o:Obj):Keeps [l] W (W.putObj l o):=
 ⟨rfl,rfl,rfl,by simp,fun k hk hn=>c3z (by simpa using hn)⟩
def Iter{α:Type}(P:Program)(gf:Nat)(lb:Array Value)(encs:α->Array Value)(toks:List α)(C:Nat->Prop)(w0:World):Prop:=
 ∀ (l:Nat) (J:List α->World->Prop) (W:World),Keeps [] w0 W->W.heap.size=w0.heap.size+2->(∀ s W1 W2,J s W1->Keeps [w0.heap.size+2,w0.heap.size+3] W1 W2->J s W2) ->
  (∀ pre x W1,J pre W1->pre.length<toks.length->w0.heap.size+4<=W1.heap.size->YieldAt Fence.wide 0 P l (encs x) W1 fun e W'=>e=.returned (.bool true)/\J (pre++[x]) W'/\KeepsOn C W1 W') ->
  J [] W->CallsIn Fence.wide 0 P gf (#[.func (.yield l) #[] #[]]++lb) W fun e W'=>(∃ v,e=.returned v)/\J toks W'
def c1q{α:Type}(C:Nat->Prop)(I:List α->World->Prop)(xs:List α)(W:World):Exit->Act->World->Prop
 | .normal,_,W'=>I xs W'/\KeepsOn C W W'
 | _,_,_=>False
theorem b7L {P:Program} {α:Type} {g:Operand} {ps:Array Tmp} {assign body:Code} {Q:Exit->Act->World->Prop} {a:Act} {w:World} {gf:Nat} {lb:Array Value}
  (hg:a.eval g=.func (.func gf) #[] lb) (eg:∀ args w,(callFunc gf args).run P w=.ok (.enter gf args) w)
  {encs:α->Array Value} {toks:List α} {C:Nat->Prop} (hC:∀ k,C k->k≠w.heap.size+1) (hseq:Iter P gf lb encs toks C w) (hps:∀ x,(encs x).size=ps.size)
  (I:List α->World->Prop) (hI:∀ s W1 W2,I s W1->Keeps [w.heap.size,w.heap.size+1,w.heap.size+2,w.heap.size+3] W1 W2->I s W2) (h0:I [] w)
  (Ax:α->World->Act->World->Prop) (hAx:∀ x W a' W1,Ax x W a' W1->Keeps [] W W1)
  (hassign:∀ (l:Nat) (pre:List α) (x:α) (W:World) (K:Act->World->Prop),I pre W->w.heap.size+4<=W.heap.size->(∀ a' W1,Ax x W a' W1->K a' W1) ->
   assign.wpIn (Fence.wide.inRound l) 0 P (Exit.then K (fun _ _ _=>False)) { tmps:=(ps.zip (encs x)).foldl (fun t (p,v)=>t.setIfInBounds p v) a.tmps,defers:=[] } W)
  (hbody:∀ (pre:List α) (x:α) (W:World) (a':Act) (W1 W2:World),I pre W->pre.length<toks.length->w.heap.size+4<=W.heap.size->Ax x W a' W1->Keeps [w.heap.size+1] W1 W2 ->
   body.wpIn (Fence.wide.inRound (w.heap.size+1)) 0 P (c1q (fun k=>C k∨k=w.heap.size∨k=w.heap.size+1) I (pre++[x]) W2) a' W2)
  (hdone:∀ (W:World),I toks W->W.heap[w.heap.size]? =some (.deferred (some []))->Q .normal { a with defers:={ target:=.collected w.heap.size,args:=#[] }::a.defers } W) :
  (Code.rangeFunc g ps assign body).wpIn Fence.wide 0 P Q a w:=by
 refine wpIn_rangeFunc ?_
 intro fn hfn
 obtain⟨D,hD⟩:∃ D,D=w.heap.size:=⟨_,rfl⟩
 obtain⟨rec,hrec⟩:∃ rec:LoopState->Option Code->Loop,rec=fun st pe=>{ state:=st,pending:=pe,fn,tmps:=a.tmps,params:=ps,assign,body,defers:=w.heap.size }:=⟨_,rfl⟩
 obtain⟨W1,hW1⟩:∃ W1,(w.alloc (.deferred (some []))).alloc (.loop (rec .ready none))=W1:=⟨_,rfl⟩
 have hk1:Keeps [] w W1:=by rw[<-hW1];exact ((Keeps.refl [] w).alloc _).alloc _
 have hs1:W1.heap.size=w.heap.size+2:=by rw[<-hW1];simp
 have hL1:W1.heap[w.heap.size+1]? =some (.loop (rec .ready none)):=by
  rw[<-hW1];have:=World.alloc_heap_new (w.alloc (.deferred (some []))) (.loop (rec .ready none));rwa [World.size_alloc] at this
 have hK1:W1.heap[w.heap.size]? =some (.deferred (some [])):=by
  rw[<-hW1];exact (Below.heap_alloc _ _ _ (by simp)).trans (World.alloc_heap_new w _)
 refine⟨w.heap.size+1,[{ target:=.collected w.heap.size,args:=#[] }],W1,{ target:=.fn (.func gf) lb,args:=#[.func (.yield (w.heap.size+1)) #[] #[]] },W1,gf,
  #[.func (.yield (w.heap.size+1)) #[] #[]]++lb,W1,?_,?_,fun _ _=>trivial,?_,fun h=>by simp[Fence.wide] at h,?_⟩
 ·rw[<-hW1,hrec];exact run_enterLoop_outer _ _ _ _ _
 ·simp only[resolve,hg]
  simp[go_sem]
 ·simp[invoke,go_sem,eg]
 refine (hseq (w.heap.size+1)
  (fun pre W=>I pre W/\W.heap[w.heap.size+1]? =some (.loop (rec .ready none))/\W.heap[w.heap.size]? =some (.deferred (some [])))
  W1 hk1 hs1
  (fun s A B hs hk=>⟨hI s A B hs.1 (hk.mono (fun x hx=>by simp at hx ⊢;omega)),hk.heap hs.2.1 (by simp),hk.heap hs.2.2 (by simp)⟩)
  ?_ ⟨hI [] w W1 h0 (hk1.mono (fun x hx=>by cases hx)),hL1,hK1⟩).mono ?_
 ·rintro pre x W ⟨hi,hl,hk⟩ hpl hsz
  have hy:=run_yield (P:=P) (args:=encs x) hl (by rw[hrec];exact hps x)
  rw[hrec] at hy
  refine⟨fn,_,assign,body,hy,roundIn_of_wpIn hfn (hassign _ pre x W _ hi hsz (fun a' W2 hax=>?_))⟩
  have hkx:=hAx x W a' W2 hax
  have hl2:=hkx.heap hl (by simp)
  have hd2:=hkx.heap hk (by simp)
  refine⟨_,run_beginRound hl2 (by rw[hrec]),?_⟩
  obtain⟨W3,hW3⟩:∃ W3,W2.putObj (w.heap.size+1) (.loop { rec .ready none with state:=.busy })=W3:=⟨_,rfl⟩
  rw[hW3]
  have hk3:Keeps [w.heap.size+1] W2 W3:=by rw[<-hW3];exact a0E _ _ _
  have hl3:W3.heap[w.heap.size+1]? =some (.loop { rec .ready none with state:=.busy }):=by rw[<-hW3];exact c3E (c3o.1 hl2).1
  have hd3:=hk3.heap hd2 (by simp)
  refine wpIn_mono (hbody pre x W a' W2 W3 hi hpl hsz hax hk3) ?_
  rintro e a3 W4 hp
  cases e with
  | normal=>
   obtain⟨hi4,hk4⟩:=hp
   have hl4:=(hk4.block _ (c3o.1 hl3).1 (.inr (.inr rfl))).trans hl3
   have hd4:=(hk4.block _ (c3o.1 hd3).1 (.inr (.inl rfl))).trans hd3
   have hr:=run_endRound (P:=P) none hl4
   rw[hrec] at hr
   refine⟨_,_,hr,rfl,⟨hI _ _ _ hi4 ((a0E W4 (w.heap.size+1) _).mono (fun x hx=>by simp at hx ⊢;omega)),?_,?_⟩,?_⟩
   ·rw[c3E (c3o.1 hl4).1,hrec];rfl
   ·exact (c3z (by omega)).trans hd4
   ·refine KeepsOn.trans (KeepsOn.of hkx (fun _ _=>by simp)) (KeepsOn.trans (KeepsOn.of hk3 (fun k hc=>by simpa using hC k hc)) (KeepsOn.trans (hk4.mono (fun k hc=>.inl hc)) (KeepsOn.of (a0E W4 (w.heap.size+1) _) (fun k hc=>by simpa using hC k hc))))
  | _=>exact hp.elim
 ·rintro e W2 ⟨⟨v,rfl⟩,hi,hl,hk⟩
  exact⟨none,_,by have:=run_endLoop (P:=P) hl (by rw[hrec];simp);rw[hrec] at this;exact this,hdone _ (hI _ _ _ hi ((a0E W2 (w.heap.size+1) _).mono (fun x hx=>by simp at hx ⊢;omega))) ((c3z (by omega)).trans hk)⟩
open Go.RowKit
def c0W{α:Type}(P:Program)(gf:Nat)(lb:Array Value)(encs:α->Array Value)(toks:List α)(O:List Nat)(C:Nat->Prop)(w0:World):Prop:=
 ∀ (l:Nat) (J Jx:List α->World->Prop) (W:World),Keeps [] w0 W->(∀ s W1 W2,J s W1->Keeps O W1 W2->J s W2) ->
  (∀ pre x W1,J pre W1->pre++[x] <+: toks->YieldAt Fence.wide 0 P l (encs x) W1 fun e W'=>(e=.returned (.bool true)/\J (pre++[x]) W'/\KeepsOn C W1 W')∨(e=.returned (.bool false)/\Jx (pre++[x]) W')) ->
  J [] W->CallsIn Fence.wide 0 P gf (#[.func (.yield l) #[] #[]]++lb) W fun e W'=>(∃ v,e=.returned v)/\(J toks W'∨∃ pre,pre <+: toks/\Jx pre W')
def b4b{α:Type}(C:Nat->Prop)(h:Nat)(I Ix:List α->World->Prop)(xs:List α)(W:World):Exit->Act->World->Prop
 | .normal,_,W'=>I xs W'/\KeepsOn (fun k=>C k∨k=h∨k=h+1) W W'
 | .ret,_,W'=>Ix xs W'/\KeepsOn (fun k=>k=h∨k=h+1) W W'
 | _,_,_=>False
theorem a8B {P:Program} {α:Type} {g:Operand} {ps:Array Tmp} {assign body:Code} {Q:Exit->Act->World->Prop} {a:Act} {w:World} {gf:Nat} {lb:Array Value}
  (hg:a.eval g=.func (.func gf) #[] lb) (eg:∀ args w,(callFunc gf args).run P w=.ok (.enter gf args) w)
  {encs:α->Array Value} {toks:List α} {O:List Nat} {C:Nat->Prop} (hO:∀ k∈O,k<w.heap.size) (hC:∀ k,C k->k<w.heap.size) (hseq:c0W P gf lb encs toks O C w) (hps:∀ x,(encs x).size=ps.size)
  (I Ix:List α->World->Prop) (hI:∀ s W1 W2,I s W1->Keeps (O++[w.heap.size,w.heap.size+1]) W1 W2->I s W2) (hIx:∀ s W1 W2,Ix s W1->Keeps [w.heap.size,w.heap.size+1] W1 W2->Ix s W2) (h0:I [] w)
  (Ax:α->World->Act->World->Prop) (hAx:∀ x W a' W1,Ax x W a' W1->Keeps [] W W1)
  (hassign:∀ (l:Nat) (pre:List α) (x:α) (W:World) (K:Act->World->Prop),I pre W->w.heap.size+2<=W.heap.size->(∀ a' W1,Ax x W a' W1->K a' W1) ->
   assign.wpIn (Fence.wide.inRound l) 0 P (Exit.then K (fun _ _ _=>False)) { tmps:=(ps.zip (encs x)).foldl (fun t (p,v)=>t.setIfInBounds p v) a.tmps,defers:=[] } W)
  (hbody:∀ (pre:List α) (x:α) (W:World) (a':Act) (W1 W2:World),I pre W->pre++[x] <+: toks->w.heap.size+2<=W.heap.size->Ax x W a' W1->Keeps [w.heap.size+1] W1 W2 ->
   body.wpIn (Fence.wide.inRound (w.heap.size+1)) 0 P (b4b C w.heap.size I Ix (pre++[x]) W2) a' W2)
  (hdone:∀ (W:World),I toks W->W.heap[w.heap.size]? =some (.deferred (some []))->Q .normal { a with defers:={ target:=.collected w.heap.size,args:=#[] }::a.defers } W)
  (hstop:∀ (pre:List α) (W:World),pre <+: toks->Ix pre W->W.heap[w.heap.size]? =some (.deferred (some []))->Code.ret.wpIn Fence.wide 0 P Q { a with defers:={ target:=.collected w.heap.size,args:=#[] }::a.defers } W) :
  (Code.rangeFunc g ps assign body).wpIn Fence.wide 0 P Q a w:=by
 refine wpIn_rangeFunc ?_
 intro fn hfn
 obtain⟨rec,hrec⟩:∃ rec:LoopState->Option Code->Loop,rec=fun st pe=>{ state:=st,pending:=pe,fn,tmps:=a.tmps,params:=ps,assign,body,defers:=w.heap.size }:=⟨_,rfl⟩
 obtain⟨W1,hW1⟩:∃ W1,(w.alloc (.deferred (some []))).alloc (.loop (rec .ready none))=W1:=⟨_,rfl⟩
 have hk1:Keeps [] w W1:=by rw[<-hW1];exact ((Keeps.refl [] w).alloc _).alloc _
 have hs1:W1.heap.size=w.heap.size+2:=by rw[<-hW1];simp
 have hL1:W1.heap[w.heap.size+1]? =some (.loop (rec .ready none)):=by
  rw[<-hW1];have:=World.alloc_heap_new (w.alloc (.deferred (some []))) (.loop (rec .ready none));rwa [World.size_alloc] at this
 have hK1:W1.heap[w.heap.size]? =some (.deferred (some [])):=by
  rw[<-hW1];exact (Below.heap_alloc _ _ _ (by simp)).trans (World.alloc_heap_new w _)
 have hOn:∀ j,w.heap.size<=j->j∉O:=fun j hj hm=>by have:=hO j hm;omega
 refine⟨w.heap.size+1,[{ target:=.collected w.heap.size,args:=#[] }],W1,{ target:=.fn (.func gf) lb,args:=#[.func (.yield (w.heap.size+1)) #[] #[]] },W1,gf,
  #[.func (.yield (w.heap.size+1)) #[] #[]]++lb,W1,?_,?_,fun _ _=>trivial,?_,fun h=>by simp[Fence.wide] at h,?_⟩
 ·rw[<-hW1,hrec];exact run_enterLoop_outer _ _ _ _ _
 ·simp only[resolve,hg]
  simp[go_sem]
 ·simp[invoke,go_sem,eg]
 refine (hseq (w.heap.size+1)
  (fun pre W=>I pre W/\W.heap[w.heap.size+1]? =some (.loop (rec .ready none))/\W.heap[w.heap.size]? =some (.deferred (some [])))
  (fun pre W=>Ix pre W/\W.heap[w.heap.size+1]? =some (.loop (rec .done (some .ret)))/\W.heap[w.heap.size]? =some (.deferred (some [])))
  W1 hk1
  (fun s A B hs hk=>⟨hI s A B hs.1 (hk.mono (fun x hx=>List.mem_append.2 (.inl hx))),hk.heap hs.2.1 (hOn _ (by omega)),hk.heap hs.2.2 (hOn _ (c3x _))⟩)
  ?_ ⟨hI [] w W1 h0 (hk1.mono (fun x hx=>by cases hx)),hL1,hK1⟩).mono ?_
 ·rintro pre x W ⟨hi,hl,hk⟩ hpl
  have hsz:w.heap.size+2<=W.heap.size:=(c3o.1 hl).1
  have hy:=run_yield (P:=P) (args:=encs x) hl (by rw[hrec];exact hps x)
  rw[hrec] at hy
  refine⟨fn,_,assign,body,hy,roundIn_of_wpIn hfn (hassign _ pre x W _ hi hsz (fun a' W2 hax=>?_))⟩
  have hkx:=hAx x W a' W2 hax
  have hl2:=hkx.heap hl (by simp)
  have hd2:=hkx.heap hk (by simp)
  refine⟨_,run_beginRound hl2 (by rw[hrec]),?_⟩
  obtain⟨W3,hW3⟩:∃ W3,W2.putObj (w.heap.size+1) (.loop { rec .ready none with state:=.busy })=W3:=⟨_,rfl⟩
  rw[hW3]
  have hk3:Keeps [w.heap.size+1] W2 W3:=by rw[<-hW3];exact a0E _ _ _
  have hl3:W3.heap[w.heap.size+1]? =some (.loop { rec .ready none with state:=.busy }):=by rw[<-hW3];exact c3E (c3o.1 hl2).1
  have hd3:=hk3.heap hd2 (by simp)
  refine wpIn_mono (hbody pre x W a' W2 W3 hi hpl hsz hax hk3) ?_
  rintro e a3 W4 hp
  cases e with
  | normal=>
   obtain⟨hi4,hk4⟩:=hp
   have hl4:=(hk4.block _ (c3o.1 hl3).1 (.inr (.inr rfl))).trans hl3
   have hd4:=(hk4.block _ (c3o.1 hd3).1 (.inr (.inl rfl))).trans hd3
   have hr:=run_endRound (P:=P) none hl4
   rw[hrec] at hr
   refine⟨_,_,hr,.inl ⟨rfl,⟨hI _ _ _ hi4 ((a0E W4 (w.heap.size+1) _).mono (fun x hx=>by simp at hx ⊢;omega)),?_,?_⟩,?_⟩⟩
   ·rw[c3E (c3o.1 hl4).1,hrec];rfl
   ·exact (c3z (by omega)).trans hd4
   ·refine KeepsOn.trans (KeepsOn.of hkx (fun _ _=>by simp)) (KeepsOn.trans (KeepsOn.of hk3 (fun k hc=>by have:=hC k hc;simp;omega)) (KeepsOn.trans (hk4.mono (fun k hc=>.inl hc)) (KeepsOn.of (a0E W4 (w.heap.size+1) _) (fun k hc=>by have:=hC k hc;simp;omega))))
  | ret=>
   obtain⟨hi4,hk4⟩:=hp
   have hl4:=(hk4.block _ (c3o.1 hl3).1 (.inr rfl)).trans hl3
   have hd4:=(hk4.block _ (c3o.1 hd3).1 (.inl rfl)).trans hd3
   have hr:=run_endRound (P:=P) (some .ret) hl4
   rw[hrec] at hr
   refine⟨_,_,hr,.inr ⟨rfl,hIx _ _ _ hi4 ((a0E W4 (w.heap.size+1) _).mono (fun x hx=>by simp at hx ⊢;omega)),?_,?_⟩⟩
   ·rw[c3E (c3o.1 hl4).1,hrec];rfl
   ·exact (c3z (by omega)).trans hd4
  | _=>exact hp.elim
 ·rintro e W2 ⟨⟨v,rfl⟩,(⟨hi,hl,hk⟩|⟨pre,hpre,hi,hl,hk⟩)⟩
  ·exact⟨none,_,by have:=run_endLoop (P:=P) hl (by rw[hrec];simp);rw[hrec] at this;exact this,hdone _ (hI _ _ _ hi ((a0E W2 (w.heap.size+1) _).mono (fun x hx=>by simp at hx ⊢;omega))) ((c3z (by omega)).trans hk)⟩
  ·exact⟨some .ret,_,by have:=run_endLoop (P:=P) hl (by rw[hrec];simp);rw[hrec] at this;exact this,hstop pre _ hpre (hIx _ _ _ hi ((a0E W2 (w.heap.size+1) _).mono (fun x hx=>by simp at hx ⊢;omega))) ((c3z (by omega)).trans hk)⟩
open Go.RowKit
theorem a5h(k:IntKind)(xs:List Int)(j:Nat)(x:Int):(ints k xs).set j (.int k x)=ints k (xs.set j x):=by simp[ints,List.map_set]
theorem Blk.cellI{w:World}{g:Nat}{t:TypeId}{k:IntKind}{xs:List Int}(h:Blk w g t (ints k xs)){j:Nat}(hj:j<xs.length):w.cell? ⟨g,j,none⟩=some (.int k (nth xs j)):=by
 rw[h.cell,a0f,a0o hj];simp[hj]
theorem a1a{ops:Array Oper}{o:Oper}{a:Act}{K:Act->World->Prop}{Q:Exit->Act->World->Prop}{E:Prop}{w:World}(hgd:o.guard=none)(h:Oper.wp Tryz.prog o a w K Q) :
  if Region.wanted o (yielded ops a.tmps)=true then Oper.wp Tryz.prog o a w K Q else E:=by
 rw[if_pos (by simp[Region.wanted,hgd])];exact h
theorem a1L(xs:List Int):(ints .i64 xs).toArray.all (·.oneCell')=true:=by
 rw[Array.all_eq_true_iff_forall_mem]
 intro v hv
 simp only[ints,List.mem_toArray,List.mem_map] at hv
 obtain⟨x,_,rfl⟩:=hv
 rfl
theorem a2b(w:World)(g:Nat)(cs:Array Value):(w.drew).setRow g cs=(w.setRow g cs).drew:=rfl
theorem a2o {fn:Func} {p q:Tmp} (h:fn.results=#[.cell p 191,.cell q 191]) (tmps:Array Value) (w:World) (g1 g2:Nat) (t1 t2:TypeId) (c1 c2:Array Value)
  (hp:tmps.getD p undef=.pointer (some ⟨g1,0,none⟩)) (hq:tmps.getD q undef=.pointer (some ⟨g2,0,none⟩)) (h1:w.heap[g1]? =some (.cells c1 t1 (0,0))) (h2:w.heap[g2]? =some (.cells c2 t2 (0,0)))
  (hi1:(Tryz.prog.info? 191).map (·.size)=some c1.size) (hi2:(Tryz.prog.info? 191).map (·.size)=some c2.size) :
  (results fn tmps).run Tryz.prog w=.ok (.tuple #[.agg c1,.agg c2]) w:=by
 have hp':tmps[p]?.getD undef=.pointer (some ⟨g1,0,none⟩):=by simpa using hp
 have hq':tmps[q]?.getD undef=.pointer (some ⟨g2,0,none⟩):=by simpa using hq
 simp[results,h,hp',hq',asAddr,run_loadVar_row w g1 t1 191 c1 _ (.array 16 3) h1 c3C rfl hi1,run_loadVar_row w g2 t2 191 c2 _ (.array 16 3) h2 c3C rfl hi2]
theorem a6S(w:World)(A:Option Addr)(n c:Nat)(l:List Int)(hl:RI .i64 w A n l)(hn:n<=288)(hok:l.all okLen=true) :
  Calls Tryz.prog 118 #[.slice A n c] w fun e w'=>e=.returned (.tuple #[.agg (ints .i64 (lowL (lenCnt l) 16)).toArray,.agg (ints .i64 (lenCnt l)).toArray])/\Below w.heap.size w w':=by
 have HL:=c3p hl
 have HLL:=c3p hl.len
 have HOK:=c3p hok
 clear hl hok
 obtain⟨g,hg⟩:∃ g,g=w.heap.size:=⟨_,rfl⟩
 have HG:=c3p hg
 have HB0:Hid (∀ Z:List Value,Z=ints .i64 (List.replicate 16 0)->Blk ((w.alloc (.cells Z.toArray 191)).alloc (.cells Z.toArray 191)) g 191 (ints .i64 (List.replicate 16 0))/\Blk ((w.alloc (.cells Z.toArray 191)).alloc (.cells Z.toArray 191)) (g+1) 191 (ints .i64 (List.replicate 16 0))/\Below w.heap.size w ((w.alloc (.cells Z.toArray 191)).alloc (.cells Z.toArray 191))):=by
  rintro Z rfl
  subst hg
  refine⟨Blk.alloc (a0d w _ _) _,?_,((Below.refl _ _).alloc (c3x _) _).alloc (by simp) _⟩
  have:=a0d (w.alloc (.cells (ints .i64 (List.replicate 16 0)).toArray 191)) 191 (ints .i64 (List.replicate 16 0))
  simpa using this
 clear hg
 go_enter Tryz.func118,Tryz.ntmps118
 go_wp2_with fail
 obtain⟨z0,z1,z2⟩:=HB0.out [.int .i64 0,.int .i64 0,.int .i64 0,.int .i64 0,.int .i64 0,.int .i64 0,.int .i64 0,.int .i64 0,.int .i64 0,.int .i64 0,.int .i64 0,.int .i64 0,.int .i64 0,.int .i64 0,.int .i64 0,.int .i64 0] rfl
 have Z0:=c3p z0
 have Z1:=c3p z1
 have Z2:=c3p z2
 clear z0 z1 z2 HB0
 rw[<-HG.out]
 go_loopw [10] (fun i wr=>∃ k:Nat,k<=n/\i=.int .i64 k/\Hid (Blk wr g 191 (ints .i64 (List.replicate 16 0)))/\Hid (Blk wr (g+1) 191 (ints .i64 (lenCnt (l.take k))))/\Hid (Below w.heap.size w wr)) (fun i _=>n-(intOf i).toNat)
 case atStart=>exact⟨0,by omega,rfl,Z0,by rw[c3O,show lenCnt []=List.replicate 16 0 by unfold lenCnt;rw[List.filter_nil,a3R]];exact Z1,Z2⟩
 case round=>
  clear Z0 Z1 Z2
  obtain⟨k,hk,rfl,HA,HB,HW⟩:=hrel
  by_cases hlt:k<n
  ·obtain⟨b,o,rfl,hc⟩:=HL.out.at hlt
   have hc:=(Keeps.of_below (S:=[]) HW.out).cell (by simp) hc
   have hx:okLen (nth l k)=true:=by rw[a0o (by have:=HLL.out;omega)];exact c3X.1 HOK.out _ (c3K _)
   have hx1:0<=nth l k/\nth l k<=15:=by simpa [okLen] using hx
   obtain⟨hx2,hx3⟩:=hx1
   clear hx
   by_cases hz:0<nth l k
   ·obtain⟨s,hs,hs16,hsn⟩:=a7h l k (by have:=HLL.out;omega) hz hx3
    have SN:=c3p hsn
    have h0:=HB.out.cellI (j:=s) (by rw[a1M];exact hs16)
    have hf:=HB.out.frozen s
    obtain⟨b0,b1⟩:=a1F (l.take k) s hs16
    have b2:(l.take k).length<=288:=by rw[c3R];omega
    have b3:nth (lenCnt (l.take k)) s<=288:=by omega
    have HSET:Hid (Blk (wr.setCell ⟨g+1,s,none⟩ (.int .i64 (nth (lenCnt (l.take k)) s+1))) (g+1) 191 (ints .i64 (lenCnt (l.take (k+1))))):=by
     have:=HB.out.set s (.int .i64 (nth (lenCnt (l.take k)) s+1))
     rw[a5h,<-SN.out] at this;exact this
    have HSET0:Hid (Blk (wr.setCell ⟨g+1,s,none⟩ (.int .i64 (nth (lenCnt (l.take k)) s+1))) g 191 (ints .i64 (List.replicate 16 0))):=c3p (HA.out.set_other (by simp) _)
    have HSW:Hid (Below w.heap.size w (wr.setCell ⟨g+1,s,none⟩ (.int .i64 (nth (lenCnt (l.take k)) s+1)))):=c3p (HW.out.setCell (p:=⟨g+1,s,none⟩) (by have:=HG.out;show _<=g+1;omega) _)
    generalize nth (lenCnt (l.take k)) s=x at *
    rw[hs] at hc hx2 hx3 hz
    have e3:decide (0<s)=true:=by simp;omega
    clear hsn b1 b2 hs HB HA HW
    go_wp2_with fail
    go_roundw
    case rel=>exact⟨k+1,by omega,by go_num,HSET0,HSET,HSW⟩
    case measure=>simp[intOf];omega
   ·have e3:decide (0<nth l k)=false:=by simpa using hz
    have SN:=c3p (a7g l k (by have:=HLL.out;omega) hz)
    go_wp2_with fail
    go_roundw
    case rel=>exact⟨k+1,by omega,by go_num,HA,by rw[SN.out];exact HB,HW⟩
    case measure=>simp[intOf];omega
  ·obtain rfl:k=n:=by omega
   have HB2:Hid (Blk wr (g+1) 191 (ints .i64 (lenCnt l))):=by have:=HB.out;rwa [c3D (by have:=HLL.out;omega)] at this
   have HA2:Hid (Blk wr g 191 (ints .i64 (lowL (lenCnt l) 1))):=by rw[b7h];exact HA
   clear HA HB
   obtain⟨wo,rfl⟩:∃ wo:World,wo=wr:=⟨_,rfl⟩
   go_wp2_with fail
   go_loopw [6,7] (fun cv i wr=>∃ j:Nat,1<=j/\j<=16/\i=.int .i64 j/\cv=.int .i64 (lowF (lenCnt l) (j-1))/\Hid (Blk wr g 191 (ints .i64 (lowL (lenCnt l) j)))/\Hid (Blk wr (g+1) 191 (ints .i64 (lenCnt l)))/\Hid (Below w.heap.size w wr)) (fun _ i _=>16-(intOf i).toNat)
   case atStart=>exact⟨1,by omega,by omega,rfl,rfl,HA2,HB2,HW⟩
   case round=>
    clear HA2 HB2 HW
    obtain⟨j,hj1,hj,rfl,rfl,HA,HB,HW⟩:=hrel
    obtain⟨q,rfl⟩:∃ q,j=q+1:=⟨j-1,by omega⟩
    have LB:=c3p (a1N l (by have:=HLL.out;omega) (q+1) (by omega))
    obtain⟨l0,l1⟩:=a1N l (by have:=HLL.out;omega) q (by omega)
    have hq1:q+1-1=q:=by omega
    rw[hq1]
    clear hq1
    by_cases hlt:q+1<=15
    ·have h0:=HB.out.cellI (j:=q) (by rw[a1M];omega)
     obtain⟨b0,b1⟩:=a1F l q (by omega)
     have b3:nth (lenCnt l) q<=288:=by have:=HLL.out;omega
     have EL:Hid (lowF (lenCnt l) (q+1)=2*(lowF (lenCnt l) q+nth (lenCnt l) q)):=rfl
     have h1:=HA.out.cellI (j:=q+1) (by rw[a4R];omega)
     have hf:=HA.out.frozen (q+1)
     have EL2:Hid ((lowF (lenCnt l) q+nth (lenCnt l) q)*2=lowF (lenCnt l) (q+1)):=by show _=_;rw[EL.out];omega
     have HSA:Hid (Blk (wr.setCell ⟨g,q+1,none⟩ (.int .i64 ((lowF (lenCnt l) q+nth (lenCnt l) q)*2))) g 191 (ints .i64 (lowL (lenCnt l) (q+2)))):=by
      have:=HA.out.set (q+1) (.int .i64 ((lowF (lenCnt l) q+nth (lenCnt l) q)*2))
      rw[a5h,EL2.out,<-b7g _ _ (by omega)] at this
      rw[EL2.out];exact this
     have HSB:Hid (Blk (wr.setCell ⟨g,q+1,none⟩ (.int .i64 ((lowF (lenCnt l) q+nth (lenCnt l) q)*2))) (g+1) 191 (ints .i64 (lenCnt l))):=c3p (HB.out.set_other (by simp) _)
     have HSW:Hid (Below w.heap.size w (wr.setCell ⟨g,q+1,none⟩ (.int .i64 ((lowF (lenCnt l) q+nth (lenCnt l) q)*2)))):=c3p (HW.out.setCell (p:=⟨g,q+1,none⟩) (by have:=HG.out;show _<=g;omega) _)
     generalize lowF (lenCnt l) q=x at *
     generalize nth (lenCnt l) q=y at *
     clear HA HB HW
     go_wp2_with fail
     refine⟨⟨q+2,by omega,by omega,by congr 1,by rw[EL2.out];rfl,HSA,HSB,HSW⟩,by simp[intOf];omega⟩
    ·obtain rfl:q=15:=by omega
     have LX:Hid ((lowL (lenCnt l) 16).length=16):=a4R _ _
     have LY:Hid ((lenCnt l).length=16):=a1M _
     have HA2:Hid (Blk wr g 191 (ints .i64 (lowL (lenCnt l) 16))):=HA
     clear HA
     obtain⟨xs,hxs⟩:∃ xs,xs=lowL (lenCnt l) 16:=⟨_,rfl⟩
     obtain⟨ys,hys⟩:∃ ys,ys=lenCnt l:=⟨_,rfl⟩
     rw[<-hxs] at HA2 LX
     rw[<-hys] at HB LY
     have HXS:=c3p hxs
     have HYS:=c3p hys
     clear hxs hys
     have SX:Hid ((ints .i64 xs).toArray.size=16):=by show _=_;simp[ints,LX.out]
     have SY:Hid ((ints .i64 ys).toArray.size=16):=by show _=_;simp[ints,LY.out]
     have WX:Hid (wr.setRow g (ints .i64 xs).toArray=wr):=setRow_self wr g _ _ _ HA2.out
     have WY:Hid (wr.setRow (g+1) (ints .i64 ys).toArray=wr):=setRow_self wr (g+1) _ _ _ HB.out
     have OX:Hid ((ints .i64 xs).toArray.all (·.oneCell')=true):=a1L xs
     have OY:Hid ((ints .i64 ys).toArray.all (·.oneCell')=true):=a1L ys
     go_wp2_with fail
     refine wp_region_any (by kernel_rfl) ?_
     try (change wpAny _ _ _ _ _ _ _ (World.drew _))
     refine c3M (rs:=[0,1]) (by kernel_rfl) (by simp) ?_
     refine c3B rfl (fun K hK=>?_) (c3B rfl (fun K hK=>?_) c3H)
     ·refine a1a rfl (wp_load_row 191 (.tmp 2) rfl g rfl 191 (ints .i64 xs).toArray (0,0) (.array 16 3) (by exact HA2.out) c3C rfl (by rw[SX.out];kernel_rfl) ?_);refine hK _ _ ?_;clear hK K
      refine c3M (rs:=[1,2]) (by kernel_rfl) (by simp) ?_
      refine c3B rfl (fun K hK=>?_) (c3B rfl (fun K hK=>?_) c3H)
      ·refine a1a rfl (wp_load_row 191 (.tmp 3) rfl (g+1) rfl 191 (ints .i64 ys).toArray (0,0) (.array 16 3) (by exact HB.out) c3C rfl (by rw[SY.out];kernel_rfl) ?_);refine hK _ _ ?_;clear hK K
       refine c3M (rs:=[2]) (by kernel_rfl) (by simp) ?_
       refine c3B rfl (fun K hK=>?_) c3H
       refine a1a rfl (wp_store_row 191 (.tmp 2) (.tmp 36) rfl g (ints .i64 xs).toArray rfl rfl 191 (ints .i64 xs).toArray (by exact HA2.out) (by rw[SX.out];kernel_rfl) rfl OX.out ?_);rw[a2b,WX.out];refine hK _ _ ?_;clear hK K
       refine c3M (rs:=[3]) (by kernel_rfl) (by simp) ?_
       refine c3B rfl (fun K hK=>?_) c3H
       refine a1a rfl (wp_store_row 191 (.tmp 3) (.tmp 37) rfl (g+1) (ints .i64 ys).toArray rfl rfl 191 (ints .i64 ys).toArray (by exact HB.out) (by rw[SY.out];kernel_rfl) rfl OY.out ?_);rw[a2b,WY.out];refine hK _ _ ?_;clear hK K
       refine wpAny_done (by kernel_rfl) ?_ _
       go_wp2_with fail
       exact bodyPost_ret (v:=.tuple #[.agg (ints .i64 xs).toArray,.agg (ints .i64 ys).toArray]) (a2o rfl _ _ g (g+1) 191 191 _ _ rfl rfl HA2.out HB.out (by rw[SX.out];kernel_rfl) (by rw[SY.out];kernel_rfl)) rfl ⟨by rw[HXS.out,HYS.out],HW.out.drew⟩
      ·refine a1a rfl (wp_store_row 191 (.tmp 2) (.tmp 36) rfl g (ints .i64 xs).toArray rfl rfl 191 (ints .i64 xs).toArray (by exact HA2.out) (by rw[SX.out];kernel_rfl) rfl OX.out ?_);rw[a2b,WX.out];refine hK _ _ ?_;clear hK K
       refine c3M (rs:=[1]) (by kernel_rfl) (by simp) ?_
       refine c3B rfl (fun K hK=>?_) c3H
       refine a1a rfl (wp_load_row 191 (.tmp 3) rfl (g+1) rfl 191 (ints .i64 ys).toArray (0,0) (.array 16 3) (by exact HB.out) c3C rfl (by rw[SY.out];kernel_rfl) ?_);refine hK _ _ ?_;clear hK K
       refine c3M (rs:=[3]) (by kernel_rfl) (by simp) ?_
       refine c3B rfl (fun K hK=>?_) c3H
       refine a1a rfl (wp_store_row 191 (.tmp 3) (.tmp 37) rfl (g+1) (ints .i64 ys).toArray rfl rfl 191 (ints .i64 ys).toArray (by exact HB.out) (by rw[SY.out];kernel_rfl) rfl OY.out ?_);rw[a2b,WY.out];refine hK _ _ ?_;clear hK K
       refine wpAny_done (by kernel_rfl) ?_ _
       go_wp2_with fail
       exact bodyPost_ret (v:=.tuple #[.agg (ints .i64 xs).toArray,.agg (ints .i64 ys).toArray]) (a2o rfl _ _ g (g+1) 191 191 _ _ rfl rfl HA2.out HB.out (by rw[SX.out];kernel_rfl) (by rw[SY.out];kernel_rfl)) rfl ⟨by rw[HXS.out,HYS.out],HW.out.drew⟩
     ·refine a1a rfl (wp_load_row 191 (.tmp 3) rfl (g+1) rfl 191 (ints .i64 ys).toArray (0,0) (.array 16 3) (by exact HB.out) c3C rfl (by rw[SY.out];kernel_rfl) ?_);refine hK _ _ ?_;clear hK K
      refine c3M (rs:=[0]) (by kernel_rfl) (by simp) ?_
      refine c3B rfl (fun K hK=>?_) c3H
      refine a1a rfl (wp_load_row 191 (.tmp 2) rfl g rfl 191 (ints .i64 xs).toArray (0,0) (.array 16 3) (by exact HA2.out) c3C rfl (by rw[SX.out];kernel_rfl) ?_);refine hK _ _ ?_;clear hK K
      refine c3M (rs:=[2]) (by kernel_rfl) (by simp) ?_
      refine c3B rfl (fun K hK=>?_) c3H
      refine a1a rfl (wp_store_row 191 (.tmp 2) (.tmp 36) rfl g (ints .i64 xs).toArray rfl rfl 191 (ints .i64 xs).toArray (by exact HA2.out) (by rw[SX.out];kernel_rfl) rfl OX.out ?_);rw[a2b,WX.out];refine hK _ _ ?_;clear hK K
      refine c3M (rs:=[3]) (by kernel_rfl) (by simp) ?_
      refine c3B rfl (fun K hK=>?_) c3H
      refine a1a rfl (wp_store_row 191 (.tmp 3) (.tmp 37) rfl (g+1) (ints .i64 ys).toArray rfl rfl 191 (ints .i64 ys).toArray (by exact HB.out) (by rw[SY.out];kernel_rfl) rfl OY.out ?_);rw[a2b,WY.out];refine hK _ _ ?_;clear hK K
      refine wpAny_done (by kernel_rfl) ?_ _
      go_wp2_with fail
      exact bodyPost_ret (v:=.tuple #[.agg (ints .i64 xs).toArray,.agg (ints .i64 ys).toArray]) (a2o rfl _ _ g (g+1) 191 191 _ _ rfl rfl HA2.out HB.out (by rw[SX.out];kernel_rfl) (by rw[SY.out];kernel_rfl)) rfl ⟨by rw[HXS.out,HYS.out],HW.out.drew⟩
open Go.RowKit
theorem a2Z(w:World)(A:Option Addr)(n c:Nat)(l:List Int)(hl:RI .i64 w A n l)(hn:n<=140737488355328) :
  Calls Tryz.prog 117 #[.slice A n c] w fun e w'=>e=.returned (.int .i64 (a0e l))/\Dr w w':=by
 have hll:=hl.len
 have HL:=c3p hl
 have HLL:=c3p hll
 clear hl
 by_cases h0:n=0
 ·subst h0
  have hr:a0e l=1:=by rw[a0e,if_pos (by omega)]
  clear hll
  rw[hr]
  clear hr
  go_enter Tryz.func117,Tryz.ntmps117
  go_wp2_with fail
  go_ret
  exact⟨rfl,0,rfl⟩
 ·have e0:((n:Int)==0)=false:=by simp;omega
  by_cases hb:288<n
  ·have hr:a0e l=1:=by rw[a0e,if_pos (by omega)]
   have e1:decide (288<n)=true:=by simpa using hb
   clear hll
   rw[hr]
   clear hr
   go_enter Tryz.func117,Tryz.ntmps117
   go_wp2_with fail
   go_ret
   exact⟨rfl,0,rfl⟩
  ·have e1:decide (288<n)=false:=by simp;omega
   clear hll
   go_enter Tryz.func117,Tryz.ntmps117
   go_wp2_with fail
   clear e0 e1
   go_loopw [3,4,17] (fun v3 v4 i wr=>∃ k:Nat,k<=n/\i=.int .i64 k/\v3=.int .i64 (usedF (l.take k))/\v4=.int .i64 (measF (l.take k))/\Hid ((l.take k).all okLen=true)/\Hid (Dr w wr)) (fun _ _ i _=>n-(intOf i).toNat)
   case atStart=>exact⟨0,by omega,rfl,rfl,rfl,c3p (by simp),⟨0,rfl⟩⟩
   case round=>
    obtain⟨k,hk,rfl,rfl,rfl,HA,HD⟩:=hrel
    obtain⟨q,rfl⟩:=HD.out
    clear HD
    have hu:=b4I (l.take k)
    have hm:=a9z (l.take k) HA.out
    have htk:(l.take k).length=k:=by rw[c3R];have:=HLL.out;omega
    rw[htk] at hu hm
    clear htk
    by_cases hlt:k<n
    ·obtain⟨b,o,rfl,hc⟩:=HL.out.at hlt
     have us:=a5P l k (by have:=HLL.out;omega)
     have ms:=a5A l k (by have:=HLL.out;omega)
     have asn:=b3O l k (by have:=HLL.out;omega)
     rw[HA.out] at asn
     have US:=c3p us
     have MS:=c3p ms
     have AS:=c3p asn
     clear us ms asn
     generalize usedF (l.take k)=U at *
     generalize measF (l.take k)=M at *
     by_cases hneg:nth l k<0
     ·have e1:decide (nth l k<0)=true:=by simpa using hneg
      have hok:okLen (nth l k)=false:=by simp[okLen];omega
      have hr:a0e l=1:=by rw[a0e,if_neg (by have:=HLL.out;omega),if_pos (a8Z l k (by have:=HLL.out;omega) hok)]
      have HR:=c3p hr
      clear hr hok
      go_wp2_with fail
      go_ret
      rw[HR.out]
      exact⟨rfl,_,rfl⟩
     ·have e1:decide (nth l k<0)=false:=by simpa using hneg
      by_cases hbig:15<nth l k
      ·have e2:decide (15<nth l k)=true:=by simpa using hbig
       have hok:okLen (nth l k)=false:=by simp[okLen];omega
       have hr:a0e l=1:=by rw[a0e,if_neg (by have:=HLL.out;omega),if_pos (a8Z l k (by have:=HLL.out;omega) hok)]
       have HR:=c3p hr
       clear hr hok
       go_wp2_with fail
       go_ret
       rw[HR.out]
       exact⟨rfl,_,rfl⟩
      ·have e2:decide (15<nth l k)=false:=by simpa using hbig
       have hok:okLen (nth l k)=true:=by simp[okLen];omega
       have HOK:=c3p hok
       clear hok
       by_cases hz:0<nth l k
       ·have e3:decide (0<nth l k)=true:=by simpa using hz
        have hp:=b9R (nth l k) hz (by omega)
        have hple:=b2S (nth l k) HOK.out
        have hp':=hp.symm
        clear hp
        have HU:Hid (usedF (l.take (k+1))=U+1):=by have:=US.out;rwa [if_pos hz] at this
        go_wp2_with fail
        clear hp'
        go_roundw
        case rel=>exact⟨k+1,by omega,by go_num,by rw[HU.out];go_num,by rw[MS.out];go_num,c3p (AS.out.trans (by rw[HOK.out];rfl)),⟨_,rfl⟩⟩
        case measure=>simp[intOf];omega
       ·have e3:decide (0<nth l k)=false:=by simpa using hz
        have HU:Hid (usedF (l.take (k+1))=U):=by have:=US.out;rwa [if_neg hz,Nat.add_zero] at this
        have HM:Hid (measF (l.take (k+1))=M):=by have:=MS.out;rwa [a5b _ hz,Nat.add_zero] at this
        go_wp2_with fail
        go_roundw
        case rel=>exact⟨k+1,by omega,by go_num,by rw[HU.out],by rw[HM.out],c3p (AS.out.trans (by rw[HOK.out];rfl)),⟨_,rfl⟩⟩
        case measure=>simp[intOf];omega
    ·obtain rfl:k=n:=by omega
     have htk:l.take k=l:=c3D (by have:=HLL.out;omega)
     rw[htk] at HA hu hm ⊢
     have hlen:=HLL.out
     have HR:Hid (a0e l=if 32768<measF l then 30 else if measF l=32768 then 0 else if usedF l=1/\measF l=16384 then 0 else 31):=by
      show _=_
      rw[a0e,if_neg (by omega),if_neg (by rw[HA.out];simp)]
     clear htk hlen
     generalize measF l=M at *
     generalize usedF l=U at *
     by_cases c1:32768<M
     ·have e1:decide ((32768:Int)<(M:Int))=true:=by simp;omega
      go_wp2_with fail
      go_ret
      rw[HR.out,if_pos c1]
      exact⟨rfl,_,rfl⟩
     ·have e1:decide ((32768:Int)<(M:Int))=false:=by simp;omega
      by_cases c2:M=32768
      ·have e2:decide ((M:Int)<32768)=false:=by simp;omega
       have C2:=c3p c2
       clear c2
       go_wp2_with fail
       go_ret
       rw[HR.out,if_neg c1,if_pos C2.out]
       exact⟨rfl,_,rfl⟩
      ·have e2:decide ((M:Int)<32768)=true:=by simp;omega
       by_cases c3:U=1
       ·have e3:((U:Int) !=1)=false:=by simp;omega
        have C3:=c3p c3
        clear c3
        by_cases c4:M=16384
        ·have e4:((M:Int) !=16384)=false:=by simp;omega
         have C4:=c3p c4
         have C2:=c3p c2
         clear c4 c2
         go_wp2_with fail
         go_ret
         rw[HR.out,if_neg c1,if_neg C2.out,if_pos ⟨C3.out,C4.out⟩]
         exact⟨rfl,_,rfl⟩
        ·have e4:((M:Int) !=16384)=true:=by simp;omega
         go_wp2_with fail
         go_ret
         rw[HR.out,if_neg c1,if_neg c2,if_neg (fun h=>c4 h.2)]
         exact⟨rfl,_,rfl⟩
       ·have e3:((U:Int) !=1)=true:=by simp;omega
        go_wp2_with fail
        go_ret
        rw[HR.out,if_neg c1,if_neg c2,if_neg (fun h=>c3 h.1)]
        exact⟨rfl,_,rfl⟩
open Go.RowKit
theorem b9n:(Tryz.prog.info? 49).map (fun i=>(i.zero,i.size,i.bytes))=some (some (.int .u32 0),1,4):=by kernel_rfl
theorem a4m{w:World}{base g n:Nat}{k:IntKind}{t:TypeId}{xs:List Int}(h:Blk w g t (ints k xs))(hl:xs.length=n)(hb:base<=g)(hn:n<=1000000000):w.ownsRow base t 1 (.slice (some ⟨g,0,none⟩) n n) n (ints k xs):=
 ⟨by simp[ints,hl],.inr ⟨g,n,_,rfl,hb,h,c3x _,by unfold maxLen;omega,by simp[ints,hl],by rw[List.toList_toArray,c3D (by simp[ints,hl])]⟩⟩
theorem a3p {ops:Array Oper} {rest:List Oper} {o:Oper} {a:Act} {w:World} {Q:Exit->Act->World->Prop} (hgd:o.guard=none) (ty:TypeId) (x y:Operand) (ho:o.op=.store ty x y)
  (g:Nat) (cells:Array Value) (hx:a.eval x=.pointer (some ⟨g,0,none⟩)) (hy:a.eval y=.agg cells)
  (t:TypeId) (old:Array Value) (hg:w.heap[g]? =some (.cells old t (0,0))) (hi:(Tryz.prog.info? ty).map (·.size)=some cells.size)
  (hold:old.size=cells.size) (h1:cells.all (·.oneCell')=true)
  (h:wpList Tryz.prog ops Q rest (a.put o.dst undef) (w.setRow g cells)):wpList Tryz.prog ops Q (o::rest) a w:=
 wpList_plain hgd fun _ hK=>wp_store_row ty x y ho g cells hx hy t old hg hi hold h1 (hK _ _ h)
theorem Blk.row{w:World}{g:Nat}{t:TypeId}{old:List Value}(h:Blk w g t old)(cs:List Value):Blk (w.setRow g cs.toArray) g t cs:=setRow_heap w g _ _ t _ h
theorem Blk.row_other{w:World}{g g':Nat}{t:TypeId}{cs:List Value}(h:Blk w g t cs)(hne:g≠g')(ds:Array Value):Blk (w.setRow g' ds) g t cs:=(setRow_other w g' g ds hne).trans h
theorem b0n{B g:Nat}{w0 w:World}(hb:Below B w0 w)(hBg:B<=g)(cs:Array Value):Below B w0 (w.setRow g cs):=
 hb.trans ⟨rfl,rfl,rfl,by simp[World.setRow],fun k hk=>setRow_other w g k cs (by omega)⟩
def a0P(l:List Int)(i:Nat):Int:=lowF (lenCnt l) (nth l i).toNat+nth (lenCnt (l.take i)) (nth l i).toNat
def outL(l:List Int)(k:Nat):List Int:=(List.range l.length).map fun i=>if i<k/\0<nth l i then revF (a0P l i) (nth l i).toNat else 0
def a2n(l:List Int)(k:Nat):List Int:=(List.range 16).map fun n=>lowF (lenCnt l) n+nth (lenCnt (l.take k)) n
def codesF(l:List Int):List Int×Int:=if a0e l=0 then (outL l l.length,0) else ([],a0e l)
theorem a6s(l:List Int)(k:Nat):(outL l k).length=l.length:=by simp[outL]
theorem b7q(l:List Int)(k:Nat):(a2n l k).length=16:=by simp[a2n]
theorem b7y(l:List Int):outL l 0=List.replicate l.length 0:=by
 refine c3t (by simp[outL]) fun j h1 h2=>?_
 simp[outL]
theorem a1z(f:Nat->Int)(n j:Nat)(h:j<n):nth ((List.range n).map f) j=f j:=by simp[nth,List.getD,h]
theorem b5z(l:List Int):a2n l 0=lowL (lenCnt l) 16:=by
 refine c3t (by simp[a2n,lowL]) fun j h1 h2=>?_
 have hj:j<16:=by simpa [a2n] using h1
 simp only[a2n,lowL,c3r,c3q,c3O]
 rw[if_pos hj]
 have:nth (lenCnt []) j=0:=by unfold lenCnt;rw[a0t _ _ _ hj];simp
 omega
theorem b7w(l:List Int)(k:Nat)(h:¬0<nth l k):outL l (k+1)=outL l k:=by
 refine c3t (by simp[outL]) fun j h1 h2=>?_
 simp only[outL,c3r,c3q]
 by_cases e:j=k
 ·subst e;rw[if_neg (fun h'=>h h'.2),if_neg (fun h'=>h h'.2)]
 ·by_cases hj:j<k
  ·by_cases hz:0<nth l j
   ·rw[if_pos ⟨by omega,hz⟩,if_pos ⟨hj,hz⟩]
   ·rw[if_neg (fun h'=>hz h'.2),if_neg (fun h'=>hz h'.2)]
  ·rw[if_neg (by omega),if_neg (by omega)]
theorem b7x(l:List Int)(k:Nat)(hk:k<l.length)(h:0<nth l k):outL l (k+1)=(outL l k).set k (revF (a0P l k) (nth l k).toNat):=by
 refine c3t (by simp[outL]) fun j h1 h2=>?_
 rw[c3Q]
 simp only[outL,c3r,c3q]
 by_cases e:k=j
 ·subst e;rw[if_pos rfl,if_pos ⟨by omega,h⟩]
 ·rw[if_neg e]
  by_cases hj:j<k
  ·by_cases hz:0<nth l j
   ·rw[if_pos ⟨by omega,hz⟩,if_pos ⟨hj,hz⟩]
   ·rw[if_neg (fun h'=>hz h'.2),if_neg (fun h'=>hz h'.2)]
  ·rw[if_neg (by omega),if_neg (by omega)]
theorem b5x(l:List Int)(k:Nat)(hk:k<l.length)(h:¬0<nth l k):a2n l (k+1)=a2n l k:=by
 unfold a2n;rw[a7g l k hk h]
theorem b5y(l:List Int)(k:Nat)(hk:k<l.length)(s:Nat)(hs:s<16)(hsn:lenCnt (l.take (k+1))=(lenCnt (l.take k)).set s (nth (lenCnt (l.take k)) s+1)):a2n l (k+1)=(a2n l k).set s (nth (a2n l k) s+1):=by
 refine c3t (by simp[a2n]) fun j h1 h2=>?_
 have hj:j<16:=by simpa [a2n] using h1
 rw[c3Q]
 simp only[a2n,c3r,c3q]
 rw[hsn,a1z _ _ _ hs]
 by_cases e:s=j
 ·subst e
  rw[if_pos rfl]
  have:nth ((lenCnt (l.take k)).set s (nth (lenCnt (l.take k)) s+1)) s=nth (lenCnt (l.take k)) s+1:=by
   simp[nth,List.getD,a1M,hs]
  omega
 ·rw[if_neg e]
  congr 1
  simp[nth,List.getD,e]
def c0V(w:World)(r:List Int×Int)(e:Ending)(w':World):Prop:=
 ∃ v,e=.returned (.tuple #[v,.int .i64 r.2])/\w'.ownsRow w.heap.size 49 1 v r.1.length (ints .u32 r.1)/\Below w.heap.size w w'
theorem b6C{w w':World}{r:List Int×Int}{e:Int}(hr:r=([],e))(h:Below w.heap.size w w'):c0V w r (.returned (.tuple #[.slice none 0 0,.int .i64 e])) w':=by
 subst hr
 exact⟨_,rfl,World.ownsRow_nil _ _ _ _,h⟩
theorem b8S{w w':World}{r:List Int×Int}{v:Value}{n:Nat}{ls:List Int}(hr:r=(ls,0))(hl:ls.length=n)(ho:w'.ownsRow w.heap.size 49 1 v n (ints .u32 ls))(h:Below w.heap.size w w'):c0V w r (.returned (.tuple #[v,.int .i64 0])) w':=by
 subst hr hl
 exact⟨_,rfl,ho,h⟩
theorem a4e(w:World)(A:Option Addr)(n c:Nat)(l:List Int)(hl:RI .i64 w A n l)(hn:n<=140737488355328) :
  Calls Tryz.prog 95 #[.slice A n c] w (c0V w (codesF l)):=by
 have HL:=c3p hl
 have HLL:=c3p hl.len
 clear hl
 go_enter Tryz.func95,Tryz.ntmps95
 go_wp2_with fail
 refine (a2Z _ _ _ _ l HL.out hn).mono ?_
 rintro _ w1 ⟨rfl,hd⟩
 have HD:=c3p hd
 clear hd
 by_cases hc:a0e l=0
 ·have e1:(a0e l !=0)=false:=by simp[hc]
  have HR:Hid (codesF l=(outL l l.length,0)):=if_pos hc
  have HC:=c3p hc
  have hok:=a1P hc
  have HOK:=c3p hok.2
  have hn288:n<=288:=by rw[<-HLL.out];exact hok.1
  have HL1:=c3p (HL.out.keeps (HD.out.keeps (S:=[])) (a0a _))
  clear hc hok
  go_wp2_with fail
  refine (a6S _ _ _ _ l HL1.out hn288 HOK.out).mono ?_
  rintro _ w2 ⟨rfl,hb⟩
  have HB:=c3p ((HD.out.keeps (S:=[])).below.trans (hb.mono (HD.out.keeps (S:=[])).size))
  clear hb
  have Z16:Hid (∀ z:List Value,z=ints .i64 (List.replicate 16 0)->Blk ((w2.alloc (.cells z.toArray 191)).alloc (.cells z.toArray 191)) w2.heap.size 191 (ints .i64 (List.replicate 16 0))/\Blk ((w2.alloc (.cells z.toArray 191)).alloc (.cells z.toArray 191)) (w2.heap.size+1) 191 (ints .i64 (List.replicate 16 0))/\Below w.heap.size w ((w2.alloc (.cells z.toArray 191)).alloc (.cells z.toArray 191))):=by
   rintro z rfl
   refine⟨Blk.alloc (a0d w2 _ _) _,?_,(HB.out.alloc HB.out.size _).alloc (by have:=HB.out.size;simp;omega) _⟩
   have:=a0d (w2.alloc (.cells (ints .i64 (List.replicate 16 0)).toArray 191)) 191 (ints .i64 (List.replicate 16 0))
   simpa using this
  obtain⟨z0,z1,z2⟩:=Z16.out [.int .i64 0,.int .i64 0,.int .i64 0,.int .i64 0,.int .i64 0,.int .i64 0,.int .i64 0,.int .i64 0,.int .i64 0,.int .i64 0,.int .i64 0,.int .i64 0,.int .i64 0,.int .i64 0,.int .i64 0,.int .i64 0] rfl
  have LX:Hid ((ints .i64 (lowL (lenCnt l) 16)).toArray.size=16):=by show _=_;simp[ints,a4R]
  have LY:Hid ((ints .i64 (lenCnt l)).toArray.size=16):=by show _=_;simp[ints,a1M]
  have y0:=z0.row (ints .i64 (lowL (lenCnt l) 16))
  have y1:=(z1.row_other (g':=w2.heap.size) (by simp) (ints .i64 (lowL (lenCnt l) 16)).toArray).row (ints .i64 (lenCnt l))
  have y2:=b0n (b0n z2 HB.out.size (ints .i64 (lowL (lenCnt l) 16)).toArray) (g:=w2.heap.size+1) (by have:=HB.out.size;omega) (ints .i64 (lenCnt l)).toArray
  have y3:=y0.row_other (g':=w2.heap.size+1) (by simp) (ints .i64 (lenCnt l)).toArray
  have Z0:=c3p z0
  have Z1:=c3p (z1.row_other (g':=w2.heap.size) (by simp) (ints .i64 (lowL (lenCnt l) 16)).toArray)
  have Y2:=c3p y2
  have Y3:=c3p y3
  have hbz:=HB.out.size
  clear z0 z1 z2 Z16 y0 y1 y2 y3
  have hmk:=fun w=>a1h (P:=Tryz.prog) w 148 49 .u32 4 Tryz.underlying148 b9n (n:Int) n rfl (by omega) (by omega)
  go_upto_region 5 with (first
   | (refine a3p rfl 191 (.tmp 5) (.tmp 18) rfl w2.heap.size (ints .i64 (lowL (lenCnt l) 16)).toArray rfl rfl 191 (ints .i64 (List.replicate 16 0)).toArray (by exact Z0.out) (by rw[LX.out];kernel_rfl) (by rw[LX.out];rfl) (a1L _) ?_)
   | (refine a3p rfl 191 (.tmp 6) (.tmp 19) rfl (w2.heap.size+1) (ints .i64 (lenCnt l)).toArray rfl rfl 191 (ints .i64 (List.replicate 16 0)).toArray (by exact Z1.out) (by rw[LY.out];kernel_rfl) (by rw[LY.out];rfl) (a1L _) ?_))
  obtain⟨w3,hw3⟩:∃ w3,w3=(((w2.alloc (.cells #[.int .i64 0,.int .i64 0,.int .i64 0,.int .i64 0,.int .i64 0,.int .i64 0,.int .i64 0,.int .i64 0,.int .i64 0,.int .i64 0,.int .i64 0,.int .i64 0,.int .i64 0,.int .i64 0,.int .i64 0,.int .i64 0] 191)).alloc (.cells #[.int .i64 0,.int .i64 0,.int .i64 0,.int .i64 0,.int .i64 0,.int .i64 0,.int .i64 0,.int .i64 0,.int .i64 0,.int .i64 0,.int .i64 0,.int .i64 0,.int .i64 0,.int .i64 0,.int .i64 0,.int .i64 0] 191)).setRow w2.heap.size (ints .i64 (lowL (lenCnt l) 16)).toArray).setRow (w2.heap.size+1) (ints .i64 (lenCnt l)).toArray:=⟨_,rfl⟩
  rw[<-hw3] at Y2 Y3 ⊢
  clear hw3 Z0 Z1
  have HNX:Hid (Blk (w3.alloc (.cells (ints .u32 (List.replicate n 0)).toArray 49)) w2.heap.size 191 (ints .i64 (a2n l 0))):=by rw[b5z];exact Y3.out.alloc _
  have HOUT:Hid (Blk (w3.alloc (.cells (ints .u32 (List.replicate n 0)).toArray 49)) w3.heap.size 49 (ints .u32 (outL l 0))):=by rw[b7y,HLL.out];exact a0d w3 _ _
  have HBW:=c3p (Y2.out.alloc (Y2.out.size) (.cells (ints .u32 (List.replicate n 0)).toArray 49))
  have HLT:=c3p Y3.out.lt
  have hb3:=Y2.out.size
  clear Y2 Y3
  generalize hq:w2.heap.size=q at *
  go_wp2_with fail
  generalize hgo:w3.heap.size=go at *
  go_loopw [25] (fun i wr=>∃ k:Nat,k<=n/\i=.int .i64 k/\Hid (Blk wr q 191 (ints .i64 (a2n l k)))/\Hid (Blk wr go 49 (ints .u32 (outL l k)))/\Hid (Below w.heap.size w wr)) (fun i _=>n-(intOf i).toNat)
  case atStart=>exact⟨0,by omega,rfl,HNX,HOUT,HBW⟩
  case round=>
   clear HNX HOUT HBW
   obtain⟨k,hk,rfl,HNX,HOUT,HBW⟩:=hrel
   by_cases hlt:k<n
   ·obtain⟨b,o,rfl,hc⟩:=HL.out.at hlt
    have hc:=(Keeps.of_below (S:=[]) HBW.out).cell (by simp) hc
    have hx:okLen (nth l k)=true:=by rw[a0o (by have:=HLL.out;omega)];exact c3X.1 HOK.out _ (c3K _)
    have hx1:0<=nth l k/\nth l k<=15:=by simpa [okLen] using hx
    obtain⟨hx2,hx3⟩:=hx1
    clear hx
    by_cases hz:0<nth l k
    ·obtain⟨s,hs,hs16,hsn⟩:=a7h l k (by have:=HLL.out;omega) hz hx3
     have S1:=c3p (b5y l k (by have:=HLL.out;omega) s hs16 hsn)
     have S2:=c3p (b7x l k (by have:=HLL.out;omega) hz)
     have h0:=HNX.out.cellI (j:=s) (by rw[b7q];exact hs16)
     have hf:=HNX.out.frozen s
     have g0:=HOUT.out.cellI (j:=k) (by rw[a6s,HLL.out];exact hlt)
     have gf:=HOUT.out.frozen k
     have HCI:Hid (a0P l k=nth (a2n l k) s):=by
      show _=_
      unfold a0P a2n
      rw[a1z _ _ _ hs16,hs];simp
     obtain⟨b0,b1⟩:=a1F (l.take k) s hs16
     obtain⟨c0,c1⟩:=a1N l (by have:=HLL.out;omega) s (by omega)
     have hxv:nth (a2n l k) s=lowF (lenCnt l) s+nth (lenCnt (l.take k)) s:=by unfold a2n;rw[a1z _ _ _ hs16]
     have b2:(l.take k).length<=288:=by rw[c3R];omega
     have x0:0<=nth (a2n l k) s:=by omega
     have x1:nth (a2n l k) s<=50000000:=by omega
     have hks:Hid ((nth l k).toNat=s):=by show _=_;rw[hs];simp
     rw[hs] at hc hx2 hx3 hz
     have e3:decide (0<s)=true:=by simp;omega
     clear hxv b0 b1 b2 c0 c1 hsn hs
     generalize nth (a2n l k) s=x at *
     go_wp2_with fail
     refine (b1L _ x s x0 (by omega) (by omega)).mono ?_
     rintro _ w4 ⟨rfl,rfl⟩
     have HSET1:Hid (Blk (wr.setCell ⟨go,k,none⟩ (.int .u32 (revF x s))) go 49 (ints .u32 (outL l (k+1)))):=by
      have:=HOUT.out.set k (.int .u32 (revF x s))
      rw[a5h] at this
      rw[S2.out,HCI.out,hks.out];exact this
     have HSET2:=c3p (HNX.out.set_other (a:=⟨go,k,none⟩) (by have:=HLT.out;show q≠go;omega) (.int .u32 (revF x s)))
     have HW4:=c3p (HBW.out.setCell (p:=⟨go,k,none⟩) hb3 (.int .u32 (revF x s)))
     have hne1:¬q=go:=by have:=HLT.out;omega
     have hne2:¬go=q:=by have:=HLT.out;omega
     have HSET3:Hid (Blk ((wr.setCell ⟨go,k,none⟩ (.int .u32 (revF x s))).setCell ⟨q,s,none⟩ (.int .i64 (x+1))) q 191 (ints .i64 (a2n l (k+1)))):=by
      have:=HSET2.out.set s (.int .i64 (x+1))
      rw[a5h,<-S1.out] at this;exact this
     have HSET4:=c3p (HSET1.out.set_other (a:=⟨q,s,none⟩) (by exact hne2) (.int .i64 (x+1)))
     have HW5:=c3p (HW4.out.setCell (p:=⟨q,s,none⟩) hbz (.int .i64 (x+1)))
     clear HNX HOUT HBW HSET1 HSET2 HW4
     go_wp2_with fail
     go_roundw
     case rel=>exact⟨k+1,by omega,by go_num,HSET3,HSET4,HW5⟩
     case measure=>simp[intOf];omega
    ·have e3:decide (0<nth l k)=false:=by simpa using hz
     have S1:=c3p (b5x l k (by have:=HLL.out;omega) hz)
     have S2:=c3p (b7w l k hz)
     go_wp2_with fail
     go_roundw
     case rel=>exact⟨k+1,by omega,by go_num,by rw[S1.out];exact HNX,by rw[S2.out];exact HOUT,HBW⟩
     case measure=>simp[intOf];omega
   ·obtain rfl:k=n:=by omega
    go_wp2_with fail
    go_ret2
    refine b8S (v:=.slice (some ⟨go,0,none⟩) k k) (ls:=outL l k) (by rw[HR.out,HLL.out]) (by rw[a6s,HLL.out]) ?_ HBW.out
    exact a4m HOUT.out (by rw[a6s,HLL.out]) hb3 (by omega)
 ·have e1:(a0e l !=0)=true:=by simpa using hc
  have HR:Hid (codesF l=([],a0e l)):=if_neg hc
  go_wp2_with fail
  go_ret2
  exact b6C HR.out (HD.out.keeps (S:=[])).below
def msbF(c:Int)(n:Nat):List Int:=(List.range n).map fun t=>c/2^(n-1-t)%2
def msbP(c:Int)(n j:Nat):List Int:=(List.range n).map fun t=>if n<=t+j then c/2^(n-1-t)%2 else 0
theorem b7n(c:Int)(n:Nat):msbP c n 0=List.replicate n 0:=by
 refine c3t (by simp[msbP]) fun t h1 h2=>?_
 have ht:t<n:=by simpa [msbP] using h1
 simp only[msbP,c3r,c3q,List.getElem_replicate]
 rw[if_neg (by omega)]
theorem b9I(c:Int)(n:Nat):msbP c n n=msbF c n:=by
 refine c3t (by simp[msbP,msbF]) fun t h1 h2=>?_
 simp only[msbP,msbF,c3r,c3q]
 rw[if_pos (by omega)]
theorem b9J(c:Int)(n j:Nat):(msbP c n j).length=n:=by simp[msbP]
theorem a0X(c:Int)(n:Nat):(msbF c n).length=n:=by simp[msbF]
theorem b9H(c:Int)(n t:Nat)(h:t<n):nth (msbF c n) t=c/2^(n-1-t)%2:=by
 unfold msbF;rw[a1z _ _ _ h]
theorem b7m(c:Int)(n j:Nat)(h:j<n):msbP c n (j+1)=(msbP c n j).set (n-1-j) (c/2^j%2):=by
 refine c3t (by simp[msbP]) fun t h1 h2=>?_
 have ht:t<n:=by simpa [msbP] using h1
 rw[c3Q]
 simp only[msbP,c3r,c3q]
 by_cases e:n-1-j=t
 ·rw[if_pos e,if_pos (by omega),show n-1-t=j by omega]
 ·rw[if_neg e]
  by_cases hj:n<=t+j
  ·rw[if_pos (by omega),if_pos hj]
  ·rw[if_neg (by omega),if_neg hj]
def a1i(l:List Int)(n i:Nat):List (List Int):=(List.range l.length).map fun j=>if 0<nth l j/\(nth l j<n∨nth l j=n/\j<i) then msbF (a0P l j) (nth l j).toNat else []
def rowsF(l:List Int):List (List Int):=(List.range l.length).map fun j=>if 0<nth l j then msbF (a0P l j) (nth l j).toNat else []
theorem a2U(l:List Int):(rowsF l).length=l.length:=by simp[rowsF]
theorem b3h(l:List Int):a1i l 1 0=List.replicate l.length []:=by
 refine c3t (by simp[a1i]) fun j h1 h2=>?_
 simp only[a1i,c3r,c3q,List.getElem_replicate]
 rw[if_neg (by omega)]
theorem b5I(l:List Int)(h:l.all okLen=true):a1i l 16 0=rowsF l:=by
 refine c3t (by simp[a1i,rowsF]) fun j h1 h2=>?_
 have hj:j<l.length:=by simpa [a1i] using h1
 have hx:okLen (nth l j)=true:=by rw[a0o hj];exact c3X.1 h _ (c3K _)
 have hx1:0<=nth l j/\nth l j<=15:=by simpa [okLen] using hx
 simp only[a1i,rowsF,c3r,c3q]
 by_cases e:0<nth l j
 ·rw[if_pos ⟨e,by omega⟩,if_pos e]
 ·rw[if_neg (by omega),if_neg e]
theorem b3e(l:List Int)(n:Nat):a1i l n l.length=a1i l (n+1) 0:=by
 refine c3t (by simp[a1i]) fun j h1 h2=>?_
 have hj:j<l.length:=by simpa [a1i] using h1
 simp only[a1i,c3r,c3q]
 by_cases e:0<nth l j/\(nth l j<n∨nth l j=n)
 ·rw[if_pos (by omega),if_pos (by omega)]
 ·rw[if_neg (by omega),if_neg (by omega)]
theorem b3f(l:List Int)(n i:Nat)(h:nth l i≠n):a1i l n (i+1)=a1i l n i:=by
 refine c3t (by simp[a1i]) fun j h1 h2=>?_
 simp only[a1i,c3r,c3q]
 by_cases e:j=i
 ·subst e
  by_cases e2:0<nth l j/\nth l j<n
  ·rw[if_pos (by omega),if_pos (by omega)]
  ·rw[if_neg (by omega),if_neg (by omega)]
 ·by_cases e2:0<nth l j/\(nth l j<n∨nth l j=n/\j<i)
  ·rw[if_pos (by omega),if_pos e2]
  ·rw[if_neg (by omega),if_neg e2]
theorem b3g(l:List Int)(n i:Nat)(hi:i<l.length)(hn:1<=n)(h:nth l i=n):a1i l n (i+1)=(a1i l n i).set i (msbF (a0P l i) n):=by
 refine c3t (by simp[a1i]) fun j h1 h2=>?_
 rw[c3Q]
 simp only[a1i,c3r,c3q]
 by_cases e:i=j
 ·subst e
  rw[if_pos rfl,if_pos (by omega),h];simp
 ·rw[if_neg e]
  by_cases e2:0<nth l j/\(nth l j<n∨nth l j=n/\j<i)
  ·rw[if_pos (by omega),if_pos e2]
  ·rw[if_neg (by omega),if_neg e2]
def posF(l:List Int)(n i:Nat):Int:=lowF (lenCnt l) n+nth (lenCnt (l.take i)) n
theorem a7y(l:List Int)(n i:Nat)(hn:n<16)(hi:i<l.length)(h:nth l i≠n):posF l n (i+1)=posF l n i:=by
 unfold posF
 congr 1
 unfold lenCnt
 rw[a0t _ _ _ hn,a0t _ _ _ hn,a0N l i hi,c3F,List.count_append]
 have:List.count (n:Int) (List.filter (fun x=>decide (0<x)) [nth l i])=0:=List.count_eq_zero_of_not_mem (fun hm=>by
  have:=(List.mem_filter.1 hm).1
  exact h (List.mem_singleton.1 this).symm)
 omega
theorem a3J(l:List Int)(n i:Nat)(hn:n<16)(h1:1<=n)(hi:i<l.length)(h:nth l i=n):posF l n (i+1)=posF l n i+1:=by
 unfold posF
 unfold lenCnt
 rw[a0t _ _ _ hn,a0t _ _ _ hn,a0N l i hi,c3F,List.count_append,h,c3w (by simp;omega)]
 simp;omega
theorem b7H(l:List Int)(n:Nat)(hn:n<16):posF l (n+1) 0=2*posF l n l.length∨15<=n:=by
 by_cases h:n<15
 ·left
  unfold posF
  rw[c3O,List.take_length,lowF]
  have:nth (lenCnt []) (n+1)=0:=by unfold lenCnt;rw[a0t _ _ _ (by omega)];simp
  omega
 ·right;omega
theorem b9S(l:List Int):posF l 1 0=0:=by
 unfold posF
 have h1:nth (lenCnt (l.take 0)) 1=0:=by rw[c3O];unfold lenCnt;rw[a0t _ _ _ (by omega)];simp
 have h2:nth (lenCnt l) 0=0:=by
  unfold lenCnt
  rw[a0t _ _ _ (by omega)]
  have:List.count (0:Int) (List.filter (fun x=>decide (0<x)) l)=0:=List.count_eq_zero_of_not_mem (fun hm=>by
   have:=(List.mem_filter.1 hm).2;simp at this)
  exact_mod_cast this
 simp only[lowF]
 omega
theorem a2k(l:List Int)(n i:Nat)(h:nth l i=n):a0P l i=posF l n i:=by unfold a0P posF;rw[h];simp
theorem b7G(l:List Int)(hl:l.length<=288)(n i:Nat)(hn:n<16):0<=posF l n i/\posF l n i<=50000000:=by
 unfold posF
 have h1:=a1N l hl n (by omega)
 have h2:=a1F (l.take i) n hn
 have:(l.take i).length<=288:=by rw[c3R];omega
 omega
def Last(l:List Int)(n i:Nat)(code:Int)(last:Nat):Prop:=0<=code/\code<=50000000/\last<=n/\if last=0 then posF l n i=0/\code=0 else (code+1)*2^(n-last)=posF l n i
theorem b5m(l:List Int):Last l 1 0 0 0:=⟨by omega,by omega,by omega,by rw[if_pos rfl];exact⟨b9S l,rfl⟩⟩
theorem b6T{l:List Int}{n i:Nat}{code:Int}{last:Nat}(h:Last l n i code last)(hn:n<16)(hi:i<l.length)(hne:nth l i≠n):Last l n (i+1) code last:=by
 obtain⟨h1,h2,h3,h4⟩:=h
 refine⟨h1,h2,h3,?_⟩
 rw[a7y l n i hn hi hne];exact h4
theorem b6U{l:List Int}{n i:Nat}(hl:l.length<=288)(hn:n<16)(h1:1<=n)(hi:i<l.length)(h:nth l i=n):Last l n (i+1) (a0P l i) n:=by
 rw[a2k l n i h]
 have:=b7G l hl n i hn
 refine⟨this.1,this.2,c3x _,?_⟩
 rw[if_neg (by omega),a3J l n i hn h1 hi h,Nat.sub_self];simp
theorem b6S{l:List Int}{n:Nat}{code:Int}{last:Nat}(h:Last l n l.length code last)(hn:n<15):Last l (n+1) 0 code last:=by
 obtain⟨h1,h2,h3,h4⟩:=h
 refine⟨h1,h2,by omega,?_⟩
 have hp:=(b7H l n (by omega)).resolve_right (by omega)
 split at h4
 ·rename_i h0
  rw[if_pos h0,hp];exact⟨by omega,h4.2⟩
 ·rename_i h0
  rw[if_neg h0,hp,<-h4,show n+1-last=(n-last)+1 by omega,c4a]
  rw[<-Int.mul_assoc];omega
theorem b6R{l:List Int}{n i:Nat}{code:Int}{last:Nat}(h:Last l n i code last)(hx:nth l i=n)(h0:last≠0):(code+1)*2^(n-last)=a0P l i:=by
 rw[a2k l n i hx]
 have:=h.2.2.2
 rwa [if_neg h0] at this
theorem b5l{l:List Int}{n i:Nat}{code:Int}{last:Nat}(h:Last l n i code last)(hx:nth l i=n)(h0:last=0):code=a0P l i:=by
 rw[a2k l n i hx]
 have:=h.2.2.2
 rw[if_pos h0] at this
 omega
def cntN(l:List Int)(n i:Nat):Int:=nth (lenCnt (l.take i)) n
theorem b0x(l:List Int)(n:Nat)(hn:n<16):cntN l n 0=0:=by
 unfold cntN;rw[c3O];unfold lenCnt;rw[a0t _ _ _ hn];simp
theorem b3X(l:List Int)(n:Nat):cntN l n l.length=nth (lenCnt l) n:=by unfold cntN;rw[List.take_length]
theorem b0v(l:List Int)(n i:Nat)(hn:n<16)(hi:i<l.length)(h:nth l i≠n):cntN l n (i+1)=cntN l n i:=by
 have:=a7y l n i hn hi h
 unfold posF at this
 unfold cntN;omega
theorem b0w(l:List Int)(n i:Nat)(hn:n<16)(h1:1<=n)(hi:i<l.length)(h:nth l i=n):cntN l n (i+1)=cntN l n i+1:=by
 have:=a3J l n i hn h1 hi h
 unfold posF at this
 unfold cntN;omega
theorem b6A(l:List Int)(n i:Nat)(hn:n<16):0<=cntN l n i:=(a1F (l.take i) n hn).1
def symsOf(l:List Int)(n:Nat):Nat->List Int
 | 0=>[]
 | i+1=>symsOf l n i++(if nth l i=n then [(i:Int)] else [])
theorem a4t(l:List Int)(n i:Nat)(h:nth l i≠n):symsOf l n (i+1)=symsOf l n i:=by simp[symsOf,h]
theorem a4u(l:List Int)(n i:Nat)(h:nth l i=n):symsOf l n (i+1)=symsOf l n i++[(i:Int)]:=by simp[symsOf,h]
theorem a5M(l:List Int)(n:Nat):∀ i,(symsOf l n i).length<=i
 | 0=>by simp[symsOf]
 | i+1=>by
  have:=a5M l n i
  unfold symsOf
  rw[c3A]
  split<;>simp<;>omega
theorem a5L(l:List Int)(n:Nat)(hn:n<16)(h1:1<=n):∀ i,i<=l.length->((symsOf l n i).length:Int)=cntN l n i
 | 0,_=>by rw[b0x l n hn];rfl
 | i+1,hi=>by
  have:=a5L l n hn h1 i (by omega)
  by_cases h:nth l i=n
  ·rw[a4u l n i h,b0w l n i hn h1 (by omega) h,c3A];simp;omega
  ·rw[a4t l n i h,b0v l n i hn (by omega) h];exact this
theorem a1t(xs ys:List Int)(k:Nat)(h:k<xs.length):nth (xs++ys) k=nth xs k:=by simp[nth,List.getD,List.getElem?_append_left h]
theorem a0x(xs ys:List Int)(k:Nat):nth (xs++ys) (xs.length+k)=nth ys k:=by simp[nth,List.getD,List.getElem?_append_right]
theorem a7S(l:List Int)(n:Nat)(hn:n<16)(h1:1<=n):∀ i k,i<=l.length->k<(symsOf l n i).length->∃ j,j<i/\nth (symsOf l n i) k=(j:Int)/\nth l j=n/\cntN l n j=k
 | 0,k,_,hk=>by simp[symsOf] at hk
 | i+1,k,hi,hk=>by
  by_cases h:nth l i=n
  ·rw[a4u l n i h] at hk ⊢
   by_cases e:k<(symsOf l n i).length
   ·obtain⟨j,a,b,c,d⟩:=a7S l n hn h1 i k (by omega) e
    exact⟨j,by omega,by rw[a1t _ _ _ e];exact b,c,d⟩
   ·have hk':k=(symsOf l n i).length:=by rw[c3A] at hk;simp at hk;omega
    refine⟨i,by omega,?_,h,?_⟩
    ·have:=a0x (symsOf l n i) [(i:Int)] 0
     rw[Nat.add_zero,<-hk'] at this
     rw[this];rfl
    ·rw[hk'];exact (a5L l n hn h1 i (by omega)).symm
  ·rw[a4t l n i h] at hk ⊢
   obtain⟨j,a,b,c,d⟩:=a7S l n hn h1 i k (by omega) hk
   exact⟨j,by omega,b,c,d⟩
def symsB(l:List Int):Nat->List Int
 | 0=>[]
 | n+1=>symsB l n++(if n=0 then [] else symsOf l n l.length)
theorem b8g(l:List Int):symsB l 1=[]:=by simp[symsB]
theorem a5K(l:List Int)(n:Nat)(h:1<=n):symsB l (n+1)=symsB l n++symsOf l n l.length:=by
 rw[symsB,if_neg (by omega)]
theorem a5j(l:List Int):∀ n,(symsB l n).length<=n*l.length
 | 0=>by simp[symsB]
 | n+1=>by
  have h1:=a5j l n
  have h2:=a5M l n l.length
  rw[symsB,c3A,Nat.add_mul]
  split<;>simp<;>omega
theorem a7R(l:List Int)(n:Nat)(h:1<=n):∀ d,∃ r,symsB l (n+1+d)=symsB l n++(symsOf l n l.length++r)
 | 0=>⟨[],by rw[Nat.add_zero,a5K l n h,List.append_nil]⟩
 | d+1=>by
  obtain⟨r,hr⟩:=a7R l n h d
  exact⟨r++symsOf l (n+1+d) l.length,by rw[show n+1+(d+1)=(n+1+d)+1 by omega,a5K l _ (by omega),hr];simp only[List.append_assoc]⟩
theorem a6w(l:List Int)(n:Nat)(hn:n<16)(h1:1<=n)(k:Nat)(hk:(k:Int)<nth (lenCnt l) n) :
  (symsB l n).length+k<(symsB l 16).length/\∃ j,j<l.length/\nth (symsB l 16) ((symsB l n).length+k)=(j:Int)/\nth l j=n/\a0P l j=lowF (lenCnt l) n+k:=by
 have hc:=a5L l n hn h1 l.length (c3x _)
 rw[b3X] at hc
 obtain⟨r,hr⟩:=a7R l n h1 (15-n)
 rw[show n+1+(15-n)=16 by omega] at hr
 have hk2:k<(symsOf l n l.length).length:=by omega
 obtain⟨j,a,b,c,d⟩:=a7S l n hn h1 l.length k (c3x _) hk2
 refine⟨by rw[hr];simp;omega,j,a,?_,c,?_⟩
 ·rw[hr,a0x,a1t _ _ _ hk2];exact b
 ·rw[a2k l n j c];unfold posF;unfold cntN at d;rw[d]
def atL(l:List Int)(n:Nat):List Int:=(List.range 16).map fun m=>if 1<=m/\m<n then ((symsB l m).length:Int) else 0
theorem c1h(l:List Int):atL l 1=List.replicate 16 0:=by
 refine c3t (by simp[atL]) fun j h1 h2=>?_
 simp only[atL,c3r,c3q,List.getElem_replicate]
 rw[if_neg (by omega)]
theorem b8M(l:List Int)(n:Nat)(h1:1<=n)(hn:n<16):atL l (n+1)=(atL l n).set n ((symsB l n).length:Int):=by
 refine c3t (by simp[atL]) fun j h1 h2=>?_
 rw[c3Q]
 simp only[atL,c3r,c3q]
 by_cases e:n=j
 ·subst e;rw[if_pos rfl,if_pos (by omega)]
 ·rw[if_neg e]
  by_cases e2:1<=j/\j<n
  ·rw[if_pos (by omega),if_pos e2]
  ·rw[if_neg (by omega),if_neg e2]
theorem c2l(l:List Int)(n:Nat)(h1:1<=n)(hn:n<16):nth (atL l 16) n=((symsB l n).length:Int):=by
 unfold atL;rw[show nth ((List.range 16).map fun m=>if 1<=m/\m<16 then ((symsB l m).length:Int) else 0) n=(fun m=>if 1<=m/\m<16 then ((symsB l m).length:Int) else 0) n by simp[nth,List.getD,hn]]
 simp only[]
 rw[if_pos ⟨h1,hn⟩]
def longN(l:List Int):Nat->Nat
 | 0=>0
 | n+1=>if 1<=n/\0<nth (lenCnt l) n then n else longN l n
def a6j(l:List Int)(n i:Nat):Nat:=if 0<cntN l n i then n else longN l n
theorem b7f(l:List Int):longN l 1=0:=by simp[longN]
theorem b5v(l:List Int)(n:Nat)(hn:n<16):a6j l n 0=longN l n:=by unfold a6j;rw[b0x l n hn,if_neg (by omega)]
theorem b7e(l:List Int)(n:Nat)(h1:1<=n):a6j l n l.length=longN l (n+1):=by
 unfold a6j
 rw[b3X,longN]
 by_cases h:0<nth (lenCnt l) n
 ·rw[if_pos h,if_pos ⟨h1,h⟩]
 ·rw[if_neg h,if_neg (fun h'=>h h'.2)]
theorem b5t(l:List Int)(n i:Nat)(hn:n<16)(hi:i<l.length)(h:nth l i≠n):a6j l n (i+1)=a6j l n i:=by
 unfold a6j;rw[b0v l n i hn hi h]
theorem b5u(l:List Int)(n i:Nat)(hn:n<16)(h1:1<=n)(hi:i<l.length)(h:nth l i=n):a6j l n (i+1)=n:=by
 unfold a6j;rw[b0w l n i hn h1 hi h,if_pos (by have:=b6A l n i hn;omega)]
theorem a9y(l:List Int):∀ n,longN l n<n∨n=0
 | 0=>.inr rfl
 | n+1=>by
  left
  rw[longN]
  split
  ·omega
  ·have:=a9y l n
   rcases this with h|h
   ·omega
   ·subst h;simp[longN]
theorem a4Q(l:List Int):∀ n m,longN l n<m->m<n->nth (lenCnt l) m<=0∨m=0
 | 0,m,_,h=>by omega
 | n+1,m,h1,h2=>by
  rw[longN] at h1
  split at h1
  ·omega
  ·rename_i h3
   by_cases e:m=n
   ·subst e
    by_cases h0:m=0
    ·exact .inr h0
    ·left;omega
   ·exact a4Q l n m h1 (by omega)
theorem b1a(l:List Int):∀ n,longN l n=0∨0<nth (lenCnt l) (longN l n)
 | 0=>.inl rfl
 | n+1=>by
  rw[longN]
  split
  ·rename_i h;exact .inr h.2
  ·exact b1a l n
def decGo(l bs:List Int)(p:Nat):Nat->Nat->Int->Int×Int×Nat
 | 0,_,_=>(0,32,0)
 | f+1,n,x=>if p+n+1<=8*bs.length then
   if 0<=2*x+bitAt bs (p+n)-lowF (lenCnt l) (n+1)/\2*x+bitAt bs (p+n)-lowF (lenCnt l) (n+1)<nth (lenCnt l) (n+1) then
    (nth (symsB l 16) ((symsB l (n+1)).length+(2*x+bitAt bs (p+n)-lowF (lenCnt l) (n+1)).toNat),0,n+1)
   else decGo l bs p f (n+1) (2*x+bitAt bs (p+n))
  else (0,10,0)
def decF(l bs:List Int)(p:Nat):Int×Int×Nat:=decGo l bs p (longN l 16) 0 0
open Go.RowKit
def rth(rs:List (List Int))(j:Nat):List Int:=rs.getD j []
theorem c0O{rs:List (List Int)}{j:Nat}(h:j<rs.length):rth rs j=rs[j]:=by simp[rth,List.getD,h]
def RB(w:World)(g n:Nat)(rs:List (List Int)):Prop:=
 rs.length=n/\∃ vs:List Value,vs.length=n/\Blk w g 26 vs/\∀ j v,vs[j]? =some v->w.ownsRow (g+1) 5 1 v (rth rs j).length (ints .u8 (rth rs j))
theorem RB.len{w:World}{g n:Nat}{rs:List (List Int)}(h:RB w g n rs):rs.length=n:=h.1
theorem RB.lt{w:World}{g n:Nat}{rs:List (List Int)}(h:RB w g n rs):g<w.heap.size:=by
 obtain⟨_,vs,_,h2,_⟩:=h;exact h2.lt
theorem RB.keeps{w w':World}{g n:Nat}{rs:List (List Int)}{S:List Nat}(h:RB w g n rs)(hk:Keeps S w w')(hS:∀ x∈S,x<g∨w.heap.size<=x):RB w' g n rs:=by
 obtain⟨h0,vs,h1,h2,h3⟩:=h
 refine⟨h0,vs,h1,h2.keeps hk (fun hm=>by have:=h2.lt;rcases hS g hm with h|h<;>omega),fun j v hv=>a0b (h3 j v hv) hk fun x hx hm=>?_⟩
 have a:=a0j (h3 j v hv) x hx
 have b:=a2T (h3 j v hv) x hx
 rcases hS x hm with h|h<;>omega
theorem RB.below{w w':World}{g n:Nat}{rs:List (List Int)}(h:RB w g n rs)(hk:Below w.heap.size w w'):RB w' g n rs:=h.keeps (Keeps.of_below (S:=[]) hk) (by simp)
theorem RB.set{w:World}{g n:Nat}{rs:List (List Int)}(h:RB w g n rs)(i:Nat)(v:Value)(row:List Int)(ho:w.ownsRow (g+1) 5 1 v row.length (ints .u8 row)) :
  RB (w.setCell ⟨g,i,none⟩ v) g n (rs.set i row):=by
 obtain⟨h0,vs,h1,h2,h3⟩:=h
 have hk:Keeps [g] w (w.setCell ⟨g,i,none⟩ v):=(Keeps.refl [g] w).setCell (Or.inl (by simp)) v
 have hne:∀ {u:Value} {m:Nat} {xs:List Value},w.ownsRow (g+1) 5 1 u m xs->∀ x,u.ownBlock=some x->x∉[g]:=fun ho x hx hm=>by
  have:=a0j ho x hx;rw[List.mem_singleton.1 hm] at this;omega
 refine⟨by simp[h0],vs.set i v,by simp[h1],h2.set i v,fun j u hu=>?_⟩
 rw[List.getElem?_set] at hu
 by_cases e:i=j
 ·subst e
  by_cases hj:i<vs.length
  ·rw[if_pos rfl,if_pos hj] at hu
   obtain rfl:=Option.some.inj hu
   have:rth (rs.set i row) i=row:=by simp[rth,List.getD,show i<rs.length by omega]
   rw[this]
   exact a0b ho hk (hne ho)
  ·rw[if_pos rfl,if_neg hj] at hu;simp at hu
 ·rw[if_neg e] at hu
  have:rth (rs.set i row) j=rth rs j:=by simp[rth,List.getD,e]
  rw[this]
  exact a0b (h3 j u hu) hk (hne (h3 j u hu))
theorem RB.new(w:World)(n:Nat):RB (w.alloc (.cells (List.replicate n (Value.slice none 0 0)).toArray 26 (0,0))) w.heap.size n (List.replicate n []):=by
 refine⟨by simp,_,by simp,a0d w _ _,fun j v hv=>?_⟩
 have hj:j<n:=by
  have:=(List.getElem?_eq_some_iff.1 hv).1;simpa using this
 have e:v=.slice none 0 0:=by
  rw[c3S (by simpa using hj)] at hv;simpa using hv.symm
 have e2:rth (List.replicate n []) j=[]:=by simp[rth,List.getD,hj]
 rw[e,e2]
 exact World.ownsRow_nil _ _ _ _
theorem RB.at{w:World}{g n:Nat}{rs:List (List Int)}(h:RB w g n rs){j:Nat}(hj:j<n) :
  ∃ A c,w.cell? ⟨g,j,none⟩=some (.slice A (rth rs j).length c)/\RI .u8 w A (rth rs j).length (rth rs j)/\(∀ a,A=some a->g+1<=a.block/\a.block<w.heap.size):=by
 obtain⟨h0,vs,h1,h2,h3⟩:=h
 obtain⟨A,c,e,hr,_,ha⟩:=a0y (h3 j _ (c3S (by omega)))
 refine⟨A,c,?_,hr,fun a h=>⟨(ha a h).1,(ha a h).2.1⟩⟩
 rw[h2.cell,c3S (by omega),e]
theorem RB.free{w:World}{g n:Nat}{rs:List (List Int)}(h:RB w g n rs)(j:Nat):w.frozen? ⟨g,j,none⟩=false:=by
 obtain⟨_,vs,_,h2,_⟩:=h;exact h2.frozen j
theorem b9l:(Tryz.prog.info? 26).map (fun i=>(i.zero,i.size,i.bytes))=some (some (.slice none 0 0),1,24):=by kernel_rfl
theorem b7j(w:World)(n:Nat)(hn:n<=1000000) :
  (Instr.makeSlice 31 (.int .i64 n) (.int .i64 n)).run Tryz.prog w=.ok (.slice (some ⟨w.heap.size,0,none⟩) n n) (w.alloc (.cells (List.replicate n (Value.slice none 0 0)).toArray 26)):=by
 obtain⟨i,hi,hz,hs,hb⟩:=info_parts b9l
 have e1:(i.bytes:Int)*(n:Int)<=281474976710656:=by rw[hb];omega
 rw[run_make w 31 26 i _ Tryz.underlying31 hi hz .i64 .i64 n n (by omega) (c4b _) e1 (by omega)]
 simp only[Int.toNat_natCast]
 congr 4
 rw[hs,Nat.mul_one]
 apply Array.toList_inj.1
 show (madeCells #[.slice none 0 0] n).toList=_
 rw[toList_madeCells_one]
def agr(row bits:List Int)(p:Nat):Nat->Nat->Nat
 | 0,n=>n
 | f+1,n=>if n<row.length/\p+n<bits.length/\nth row n=nth bits (p+n) then agr row bits p f (n+1) else n
def agrN(row bits:List Int)(p:Nat):Nat:=agr row bits p row.length 0
def nextG(rows:List (List Int))(bits:List Int)(p:Nat):Nat->Nat->Bool->Int×Nat×Int
 | 0,_,b=>(0,0,if b then 10 else 32)
 | f+1,i,b=>if (rth rows i).length=0 then nextG rows bits p f (i+1) b else
   if agrN (rth rows i) bits p=(rth rows i).length then (i,(rth rows i).length,0)
   else nextG rows bits p f (i+1) (b||decide (p+agrN (rth rows i) bits p=bits.length))
def a5D(rows:List (List Int))(bits:List Int)(p:Nat):Int×Nat×Int:=nextG rows bits p rows.length 0 false
theorem b3N(row bits:List Int)(p:Nat):∀ f n,n+f=row.length->n<=agr row bits p f n/\agr row bits p f n<=row.length/\(∀ t,n<=t->t<agr row bits p f n->p+t<bits.length/\nth row t=nth bits (p+t)) /\
  (agr row bits p f n=row.length∨bits.length<=p+agr row bits p f n∨nth row (agr row bits p f n)≠nth bits (p+agr row bits p f n))
 | 0,n,h=>by
  unfold agr
  exact⟨c3x _,by omega,fun t h1 h2=>by omega,.inl (by omega)⟩
 | f+1,n,h=>by
  unfold agr
  split
  ·next hc=>
   obtain⟨h1,h2,h3,h4⟩:=b3N row bits p f (n+1) (by omega)
   refine⟨by omega,h2,fun t ht1 ht2=>?_,h4⟩
   by_cases ht:t=n
   ·subst ht;exact⟨hc.2.1,hc.2.2⟩
   ·exact h3 t (by omega) ht2
  ·next hc=>
   refine⟨c3x _,by omega,fun t h1 h2=>by omega,?_⟩
   by_cases h1:bits.length<=p+n
   ·exact .inr (.inl h1)
   ·refine .inr (.inr fun h2=>hc ⟨by omega,by omega,h2⟩)
theorem a4A(row bits:List Int)(p:Nat):agrN row bits p<=row.length/\(∀ t,t<agrN row bits p->p+t<bits.length/\nth row t=nth bits (p+t)) /\
  (agrN row bits p=row.length∨bits.length<=p+agrN row bits p∨nth row (agrN row bits p)≠nth bits (p+agrN row bits p)):=by
 obtain⟨_,h2,h3,h4⟩:=b3N row bits p row.length 0 (by omega)
 exact⟨h2,fun t ht=>h3 t (by omega) ht,h4⟩
theorem b6i{row bits:List Int}{p:Nat}(h:∀ t,t<row.length->p+t<bits.length/\nth row t=nth bits (p+t)):agrN row bits p=row.length:=by
 obtain⟨h1,_,h3⟩:=a4A row bits p
 rcases c3L (agrN row bits p) row.length with hlt|hge
 ·obtain⟨a,b⟩:=h _ hlt
  rcases h3 with h3|h3|h3
  ·omega
  ·omega
  ·exact absurd b h3
 ·omega
theorem a7r(rows:List (List Int))(bits:List Int)(p j:Nat)(hj:0<(rth rows j).length)(ha:agrN (rth rows j) bits p=(rth rows j).length) :
  ∀ f i b,i<=j->j<i+f->(∀ t,t<j->0<(rth rows t).length->agrN (rth rows t) bits p≠(rth rows t).length)->nextG rows bits p f i b=((j:Int),(rth rows j).length,0)
 | 0,i,b,h1,h2,_=>by omega
 | f+1,i,b,h1,h2,h3=>by
  rw[nextG]
  by_cases hi:i=j
  ·subst hi
   rw[if_neg (by omega),if_pos ha]
  ·by_cases hz:(rth rows i).length=0
   ·rw[if_pos hz];exact a7r rows bits p j hj ha f (i+1) b (by omega) (by omega) h3
   ·rw[if_neg hz,if_neg (h3 i (by omega) (by omega))]
    exact a7r rows bits p j hj ha f (i+1) _ (by omega) (by omega) h3
theorem a3E(rows:List (List Int))(bits:List Int)(p:Nat) :
  ∀ f i b,(∀ t,i<=t->t<i+f->0<(rth rows t).length->agrN (rth rows t) bits p≠(rth rows t).length)->(b=true∨∃ j,i<=j/\j<i+f/\0<(rth rows j).length/\p+agrN (rth rows j) bits p=bits.length)->nextG rows bits p f i b=(0,0,10)
 | 0,i,b,h1,h2=>by
  rcases h2 with rfl|⟨j,a,b,_⟩
  ·rfl
  ·omega
 | f+1,i,b,h1,h2=>by
  rw[nextG]
  by_cases hz:(rth rows i).length=0
  ·rw[if_pos hz]
   refine a3E rows bits p f (i+1) b (fun t a b=>h1 t (by omega) (by omega)) ?_
   rcases h2 with rfl|⟨j,a,b,c,d⟩
   ·exact .inl rfl
   ·refine .inr ⟨j,?_,by omega,c,d⟩
    rcases c3L i j with h|h
    ·omega
    ·obtain rfl:i=j:=by omega
     omega
  ·rw[if_neg hz,if_neg (h1 i (by omega) (by omega) (by omega))]
   refine a3E rows bits p f (i+1) _ (fun t a b=>h1 t (by omega) (by omega)) ?_
   rcases h2 with rfl|⟨j,a,b,c,d⟩
   ·exact .inl rfl
   ·rcases c3L i j with h|h
    ·exact .inr ⟨j,by omega,by omega,c,d⟩
    ·obtain rfl:i=j:=by omega
     exact .inl (by simp[d])
theorem a5C(rows:List (List Int))(bits:List Int)(p:Nat) :
  ∀ f i,(∀ t,i<=t->t<i+f->0<(rth rows t).length->agrN (rth rows t) bits p≠(rth rows t).length/\p+agrN (rth rows t) bits p≠bits.length)->nextG rows bits p f i false=(0,0,32)
 | 0,i,h1=>rfl
 | f+1,i,h1=>by
  rw[nextG]
  by_cases hz:(rth rows i).length=0
  ·rw[if_pos hz]
   exact a5C rows bits p f (i+1) (fun t a b=>h1 t (by omega) (by omega))
  ·obtain⟨a,b⟩:=h1 i (by omega) (by omega) (by omega)
   rw[if_neg hz,if_neg a,decide_eq_false b]
   exact a5C rows bits p f (i+1) (fun t a b=>h1 t (by omega) (by omega))
theorem b2V(l:List Int)(n:Nat)(hn:n<16)(h1:1<=n)(i:Nat):∀ d,i+d<=l.length->posF l n i<=posF l n (i+d)
 | 0,_=>c4b _
 | d+1,h=>by
  have:=b2V l n hn h1 i d (by omega)
  by_cases hx:nth l (i+d)=n
  ·have:=a3J l n (i+d) hn h1 (by omega) hx
   rw[<-c3Y];omega
  ·have:=a7y l n (i+d) hn (by omega) hx
   rw[<-c3Y];omega
theorem a2F(l:List Int)(n j:Nat)(hn:n<16)(h1:1<=n)(hj:j<l.length)(h:nth l j=n):lowF (lenCnt l) n<=a0P l j/\a0P l j<lowF (lenCnt l) n+nth (lenCnt l) n:=by
 rw[a2k l n j h]
 have a:=a3J l n j hn h1 hj h
 have b:=b2V l n hn h1 (j+1) (l.length-(j+1)) (by omega)
 rw[show j+1+(l.length-(j+1))=l.length by omega] at b
 have c:posF l n l.length=lowF (lenCnt l) n+nth (lenCnt l) n:=by
  unfold posF;rw[List.take_length]
 have d:=b6A l n j hn
 unfold cntN at d
 refine⟨?_,by omega⟩
 unfold posF;omega
theorem a9e(l:List Int)(n i j:Nat)(hn:n<16)(h1:1<=n)(hij:i<j)(hj:j<l.length)(hi:nth l i=n)(hj':nth l j=n):a0P l i<a0P l j:=by
 rw[a2k l n i hi,a2k l n j hj']
 have a:=a3J l n i hn h1 (by omega) hi
 have b:=b2V l n hn h1 (i+1) (j-(i+1)) (by omega)
 rw[show i+1+(j-(i+1))=j by omega] at b
 omega
def a8d(n:Nat)(x:Int):Nat:=if 0<x/\x<=n then 2^(15-x).toNat else 0
def takenN(l:List Int)(n:Nat):Nat:=(l.map (a8d n)).sum
theorem a4j(x:Int)(l:List Int)(n:Nat)(hn:n<16):nth (lenCnt (x::l)) n=nth (lenCnt l) n+if 0<x/\x=(n:Int) then 1 else 0:=by
 unfold lenCnt
 rw[a0t _ _ _ hn,a0t _ _ _ hn]
 by_cases h0:0<x
 ·rw[c3w (by simpa using h0),List.count_cons]
  by_cases hx:x=n
  ·rw[if_pos (c:=0<x/\x=n) ⟨h0,hx⟩,show (x==(n:Int))=true by simpa using hx];simp
  ·rw[if_neg (c:=0<x/\x=n) (fun h=>hx h.2),show (x==(n:Int))=false by simpa using hx];simp
 ·rw[c3y (by simpa using h0),if_neg (c:=0<x/\x=n) (fun h=>h0 h.1)];simp
theorem a1s(l:List Int):nth (lenCnt l) 0=0:=by
 induction l with
 | nil=>unfold lenCnt;rw[a0t _ _ _ (by omega)];simp
 | cons x l ih=>
  rw[a4j x l 0 (by omega),ih,if_neg (by omega)];rfl
theorem b3A(l:List Int):takenN l 0=0:=by
 induction l with
 | nil=>rfl
 | cons x l ih=>
  unfold takenN at *
  rw[c3I,c3J,ih];unfold a8d;rw[if_neg (by omega)]
theorem a4v(l:List Int)(n:Nat)(hn:n<15):(takenN l (n+1):Int)=takenN l n+nth (lenCnt l) (n+1)*2^(15-(n+1)):=by
 induction l with
 | nil=>unfold lenCnt;rw[a0t _ _ _ (by omega)];simp[takenN]
 | cons x l ih=>
  rw[a4j x l (n+1) (by omega)]
  have e:∀ m,takenN (x::l) m=a8d m x+takenN l m:=fun m=>by unfold takenN;rw[c3I,c3J]
  rw[e,e]
  push_cast
  rw[ih,Int.add_mul]
  have:(a8d (n+1) x:Int)=a8d n x+(if 0<x/\x=(n:Int)+1 then 1 else 0)*2^(15-(n+1)):=by
   unfold a8d
   by_cases hx:x=(n:Int)+1
   ·rw[if_pos (by omega),if_neg (by omega),if_pos (by omega),hx,show ((15:Int)-((n:Int)+1)).toNat=15-(n+1) by omega];simp
   ·rw[if_neg (c:=0<x/\x=(n:Int)+1) (fun h=>hx h.2),Int.zero_mul,Int.add_zero]
    by_cases h2:0<x/\x<=n
    ·rw[if_pos h2,if_pos (by omega)]
    ·rw[if_neg h2,if_neg (by push_cast;omega)]
  rw[this,show 15-(n+1)=14-n by omega]
  omega
theorem a5l(l:List Int):∀ n,n<=15->(takenN l n:Int)=(lowF (lenCnt l) n+nth (lenCnt l) n)*2^(15-n)
 | 0,_=>by rw[b3A,a1s];simp[lowF]
 | n+1,h=>by
  have key:∀ a b c K:Int,(a+b)*(K*2)+c*K=(2*(a+b)+c)*K:=fun a b c K=>by
   rw[Int.add_mul (2*(a+b)),c3Z K 2,<-Int.mul_assoc,c3Z (a+b) 2]
  rw[a4v l n (by omega),a5l l n (by omega),lowF,show 15-n=(15-(n+1))+1 by omega,c4a]
  exact key _ _ _ _
theorem b5S(l:List Int)(n:Nat):takenN l n<=takenN l (n+1):=by
 induction l with
 | nil=>exact c3x _
 | cons x l ih=>
  unfold takenN at *
  rw[c3I,c3J,c3I,c3J]
  have:a8d n x<=a8d (n+1) x:=by
   unfold a8d
   by_cases h:0<x/\x<=n
   ·rw[if_pos h,if_pos (by push_cast;omega)];exact c3x _
   ·rw[if_neg h];exact c3V _
  omega
theorem a4w(l:List Int)(n:Nat):∀ d,takenN l n<=takenN l (n+d)
 | 0=>c3x _
 | d+1=>Nat.le_trans (a4w l n d) (b5S l (n+d))
theorem b1I(l:List Int)(h:l.all okLen=true):takenN l 15=measF l:=by
 induction l with
 | nil=>rfl
 | cons x l ih=>
  rw[List.all_cons,c3P] at h
  have:=ih h.2
  unfold takenN measF at *
  rw[c3I,c3J,c3I,c3J,this]
  congr 1
  have hx:=h.1
  unfold okLen at hx
  simp only[c3P,c3W] at hx
  unfold a8d part
  by_cases h0:0<x
  ·rw[if_pos ⟨h0,by push_cast;omega⟩,if_pos h0]
  ·rw[if_neg (fun h=>h0 h.1),if_neg h0]
theorem b1J(l:List Int):∀ d,longN l 16+d<=15->takenN l (longN l 16+d)=takenN l (longN l 16)
 | 0,_=>rfl
 | d+1,h=>by
  have ih:=b1J l d (by omega)
  have a:=a4v l (longN l 16+d) (by omega)
  have b:=a4Q l 16 (longN l 16+d+1) (by omega) (by omega)
  have c:=a1F l (longN l 16+d+1) (by omega)
  have e:nth (lenCnt l) (longN l 16+d+1)=0:=by omega
  rw[e,Int.zero_mul,Int.add_zero,ih] at a
  rw[<-c3Y];omega
theorem a9u{l:List Int}(hc:a0e l=0)(n:Nat)(hn:n<=15):lowF (lenCnt l) n+nth (lenCnt l) n<=2^n:=by
 have hm:measF l<=32768:=by
  unfold a0e at hc
  repeat' split at hc
  all_goals first|omega|(exfalso;revert hc;decide)|skip
 have h1:=a5l l n hn
 have h2:=a4w l n (15-n)
 rw[show n+(15-n)=15 by omega,b1I l (a1P hc).2] at h2
 have h3:(takenN l n:Int)<=2^n*2^(15-n):=by
  rw[<-Int.pow_add,show n+(15-n)=15 by omega];omega
 rw[h1] at h3
 exact Int.le_of_mul_le_mul_right h3 (a0i _)
def xv(bs:List Int)(p:Nat):Nat->Int
 | 0=>0
 | n+1=>2*xv bs p n+bitAt bs (p+n)
theorem c1W(bs:List Int)(p:Nat):∀ n,0<=xv bs p n/\xv bs p n<2^n
 | 0=>by simp[xv]
 | n+1=>by
  have:=c1W bs p n
  have:=a2E bs (p+n)
  rw[xv,c4a];omega
theorem b9a(c:Int)(m k:Nat)(h:k<m):c/2^(m-k)=c/2^(m-(k+1))/2:=by
 rw[show m-k=(m-(k+1))+1 by omega,c4a,c3Z,Int.ediv_ediv_of_nonneg (by have:=a0i (m-(k+1));omega),c3Z]
theorem a9G(c:Int)(m:Nat)(h0:0<=c)(hc:c<2^m)(bs:List Int)(p:Nat):∀ k,k<=m->((∀ t,t<k->nth (msbF c m) t=bitAt bs (p+t))↔c/2^(m-k)=xv bs p k)
 | 0,_=>by
  rw[Nat.sub_zero,Int.ediv_eq_zero_of_lt h0 hc]
  exact⟨fun _=>rfl,fun _ t ht=>by omega⟩
 | k+1,h=>by
  have ih:=a9G c m h0 hc bs p k (by omega)
  have e:=b9a c m k (by omega)
  have en:=b9H c m k (by omega)
  rw[show m-1-k=m-(k+1) by omega] at en
  have hb:=a2E bs (p+k)
  rw[xv]
  constructor
  ·intro hall
   have h1:=ih.1 (fun t ht=>hall t (by omega))
   have h2:=hall k (by omega)
   rw[en] at h2
   rw[e] at h1
   omega
  ·intro hd t ht
   by_cases hk:t=k
   ·subst hk;rw[en];omega
   ·exact ih.2 (by rw[e];omega) t (by omega)
theorem a6t(l:List Int)(j m:Nat)(hj:j<l.length)(h1:1<=m)(h:nth l j=m):rth (rowsF l) j=msbF (a0P l j) m:=by
 rw[c0O (by rw[a2U];exact hj)]
 simp only[rowsF,c3r,c3q]
 rw[if_pos (by omega),h];rfl
theorem b7P(l:List Int)(j:Nat)(hj:j<l.length)(h:¬0<nth l j):rth (rowsF l) j=[]:=by
 rw[c0O (by rw[a2U];exact hj)]
 simp only[rowsF,c3r,c3q]
 rw[if_neg h]
theorem a9N{l:List Int}(hok:l.all okLen=true)(j:Nat)(hj:j<l.length)(h:0<(rth (rowsF l) j).length):∃ m:Nat,1<=m/\m<=15/\nth l j=m/\rth (rowsF l) j=msbF (a0P l j) m:=by
 by_cases h0:0<nth l j
 ·have hx:=c3X.1 hok (nth l j) (by rw[a0o hj];exact c3K _)
  unfold okLen at hx
  simp only[c3P,c3W] at hx
  obtain⟨m,hm⟩:=c3T hx.1
  exact⟨m,by omega,by omega,hm,a6t l j m hj (by omega) hm⟩
 ·rw[b7P l j hj h0] at h;simp at h
theorem a6n{l:List Int}(hc:a0e l=0)(bs:List Int)(p T:Nat)(j m:Nat)(hj:j<l.length)(h1:1<=m)(h15:m<=15)(h:nth l j=m) :
  agrN (rth (rowsF l) j) (a2x bs T) p=(rth (rowsF l) j).length↔p+m<=T/\xv bs p m=a0P l j:=by
 have hb:=a2F l m j (by omega) h1 hj h
 have hk:=a9u hc m h15
 have hl0:=(a1N l (a1P hc).1 m (by omega)).1
 rw[a6t l j m hj h1 h]
 have hp:=a9G (a0P l j) m (by omega) (by omega) bs p m (c3x _)
 rw[Nat.sub_self,Int.pow_zero,Int.ediv_one] at hp
 rw[a0X]
 constructor
 ·intro ha
  obtain⟨_,h2,_⟩:=a4A (msbF (a0P l j) m) (a2x bs T) p
  rw[ha] at h2
  have hT:p+m<=T:=by
   have:=(h2 (m-1) (by omega)).1
   rw[a2P] at this;omega
  refine⟨hT,(hp.1 fun t ht=>?_).symm⟩
  rw[(h2 t ht).2,a4D _ _ _ (by omega)]
 ·intro ⟨hT,hx⟩
  have:=hp.2 hx.symm
  have:=b6i (row:=msbF (a0P l j) m) (bits:=a2x bs T) (p:=p) (fun t ht=>by
   rw[a0X] at ht
   rw[a2P,a4D _ _ _ (by omega)]
   exact⟨by omega,this t ht⟩)
  rw[this,a0X]
theorem b8n(l:List Int)(h:usedF l=0):measF l=0:=by
 induction l with
 | nil=>rfl
 | cons x l ih=>
  unfold usedF at h
  by_cases hx:0<x
  ·rw[c3w (by simpa using hx)] at h;simp at h
  ·rw[c3y (by simpa using hx)] at h
   have:=ih h
   unfold measF at *
   rw[c3I,c3J,this,a5b x hx]
theorem c0o(l:List Int)(hok:l.all okLen=true)(h:usedF l=1)(hm:measF l=16384):1<=nth (lenCnt l) 1:=by
 induction l with
 | nil=>simp[usedF] at h
 | cons x l ih=>
  rw[List.all_cons,c3P] at hok
  rw[a4j x l 1 (by omega)]
  have hn:=(a1F l 1 (by omega)).1
  have hms:measF (x::l)=part x+measF l:=by unfold measF;rw[c3I,c3J]
  rw[hms] at hm
  unfold usedF at h
  by_cases hx:0<x
  ·rw[c3w (by simpa using hx),c3u] at h
   have:=b8n l (by unfold usedF;omega)
   have hx1:x=1:=by
    have h15:=hok.1
    unfold okLen at h15
    simp only[c3P,c3W] at h15
    have hp:part x=2^14:=by rw[this] at hm;omega
    unfold part at hp
    rw[if_pos hx] at hp
    have:=(Nat.pow_right_inj (by decide)).1 hp
    omega
   rw[if_pos ⟨hx,by simpa using hx1⟩];omega
  ·rw[c3y (by simpa using hx)] at h
   rw[a5b x hx,Nat.zero_add] at hm
   have:=ih hok.2 h hm
   split<;>omega
theorem a6r(l:List Int):longN l 16<=15:=by have:=a9y l 16;omega
theorem b6B{l:List Int}(hc:a0e l=0):lowF (lenCnt l) (longN l 16)+nth (lenCnt l) (longN l 16)=2^longN l 16∨(1<=nth (lenCnt l) 1/\longN l 16<=1):=by
 have hL:=a6r l
 have hok:=(a1P hc).2
 have ht:=b1J l (15-longN l 16) (by omega)
 rw[show longN l 16+(15-longN l 16)=15 by omega,b1I l hok] at ht
 have hlo:=a5l l (longN l 16) hL
 have hm:measF l=32768∨(usedF l=1/\measF l=16384):=by
  unfold a0e at hc
  repeat' split at hc
  all_goals first|(left;assumption)|(right;assumption)|(exfalso;revert hc;decide)
 rcases hm with hm|⟨hu,hm⟩
 ·left
  rw[<-ht,hm] at hlo
  have e:((32768:Nat):Int)=2^longN l 16*2^(15-longN l 16):=by rw[<-Int.pow_add,show longN l 16+(15-longN l 16)=15 by omega];rfl
  rw[e] at hlo
  exact (Int.eq_of_mul_eq_mul_right (Int.ne_of_gt (a0i _)) hlo).symm
 ·right
  have h1:=c0o l hok hu hm
  refine⟨h1,?_⟩
  rcases c3L 1 (longN l 16) with h2|h2
  ·exfalso
   have a:=a5l l 1 (by omega)
   have b:=a4w l 1 (longN l 16-1-1)
   have c:=a4v l (longN l 16-1) (by omega)
   rw[show longN l 16-1+1=longN l 16 by omega] at c
   rw[show 1+(longN l 16-1-1)=longN l 16-1 by omega] at b
   have d:0<nth (lenCnt l) (longN l 16):=(b1a l 16).resolve_left (by omega)
   have e:0<nth (lenCnt l) (longN l 16)*2^(15-longN l 16):=Int.mul_pos d (a0i _)
   simp only[lowF,a1s] at a
   omega
  ·exact h2
theorem b3t{l:List Int}(hc:a0e l=0)(bs:List Int)(p n:Nat)(hn:n<longN l 16)(hx:lowF (lenCnt l) n+nth (lenCnt l) n<=xv bs p n) :
  ∃ j m:Nat,j<l.length/\n<m/\m<=15/\nth l j=m/\a0P l j=xv bs p n*2^(m-n):=by
 have hL:=a6r l
 rcases b6B hc with hf|⟨h1,h2⟩
 ·have key:∀ d,n+d<=longN l 16->(∃ j m:Nat,j<l.length/\n<m/\m<=15/\nth l j=m/\a0P l j=xv bs p n*2^(m-n))∨lowF (lenCnt l) (n+d)+nth (lenCnt l) (n+d)<=xv bs p n*2^d:=by
   intro d
   induction d with
   | zero=>intro _;right;rw[Int.pow_zero,Int.mul_one];exact hx
   | succ d ih=>
    intro hd
    rcases ih (by omega) with h|h
    ·exact .inl h
    ·by_cases hlt:xv bs p n*2^(d+1)<lowF (lenCnt l) (n+(d+1))+nth (lenCnt l) (n+(d+1))
     ·left
      have e:xv bs p n*2^(d+1)=2*(xv bs p n*2^d):=by rw[c4a,<-Int.mul_assoc,c3Z]
      have hlo:lowF (lenCnt l) (n+(d+1))<=xv bs p n*2^(d+1):=by
       rw[e,<-c3Y,lowF];omega
      obtain⟨k,hk⟩:=c3T (Int.sub_nonneg.2 hlo)
      obtain⟨_,j,a,b,c,f⟩:=a6w l (n+(d+1)) (by omega) (by omega) k (by omega)
      refine⟨j,n+(d+1),a,by omega,by omega,c,?_⟩
      rw[f,show n+(d+1)-n=d+1 by omega];omega
     ·exact .inr (by omega)
  rcases key (longN l 16-n) (by omega) with h|h
  ·exact h
  ·exfalso
   rw[show n+(longN l 16-n)=longN l 16 by omega,hf] at h
   have:=Int.mul_lt_mul_of_pos_right (c1W bs p n).2 (a0i (longN l 16-n))
   rw[<-Int.pow_add,show n+(longN l 16-n)=longN l 16 by omega] at this
   omega
 ·obtain rfl:n=0:=by omega
  obtain⟨_,j,a,b,c,f⟩:=a6w l 1 (by omega) (by omega) 0 (by omega)
  refine⟨j,1,a,by omega,by omega,c,?_⟩
  rw[f];simp[xv,lowF,a1s]
theorem a3T(l bs:List Int)(p:Nat):∀ f n,n+f=longN l 16->p+n<=8*bs.length->(∀ m,m<=n->lowF (lenCnt l) m+nth (lenCnt l) m<=xv bs p m) ->
  (∃ j m:Nat,j<l.length/\1<=m/\m<=15/\nth l j=m/\a0P l j=xv bs p m/\p+m<=8*bs.length/\(∀ i,i<m->lowF (lenCnt l) i+nth (lenCnt l) i<=xv bs p i)/\decGo l bs p f n (xv bs p n)=((j:Int),0,m)) ∨
  (∃ k,k<longN l 16/\p+k=8*bs.length/\(∀ m,m<=k->lowF (lenCnt l) m+nth (lenCnt l) m<=xv bs p m)/\decGo l bs p f n (xv bs p n)=(0,10,0)) ∨
  (p+longN l 16<=8*bs.length/\(∀ m,m<=longN l 16->lowF (lenCnt l) m+nth (lenCnt l) m<=xv bs p m)/\decGo l bs p f n (xv bs p n)=(0,32,0))
 | 0,n,hn,hp,hx=>by
  obtain rfl:n=longN l 16:=by omega
  exact .inr (.inr ⟨hp,hx,rfl⟩)
 | f+1,n,hn,hp,hx=>by
  have hL:=a6r l
  rw[decGo]
  by_cases he:p+n+1<=8*bs.length
  ·rw[if_pos he]
   have hlo:lowF (lenCnt l) (n+1)<=xv bs p (n+1):=by
    have:=hx n (c3x _)
    have:=a2E bs (p+n)
    rw[xv,lowF];omega
   rw[show 2*xv bs p n+bitAt bs (p+n)=xv bs p (n+1) from rfl]
   by_cases hk:xv bs p (n+1)-lowF (lenCnt l) (n+1)<nth (lenCnt l) (n+1)
   ·rw[if_pos ⟨by omega,hk⟩]
    left
    obtain⟨k,hk'⟩:=c3T (Int.sub_nonneg.2 hlo)
    rw[hk'] at hk ⊢
    obtain⟨_,j,a,b,c,d⟩:=a6w l (n+1) (by omega) (by omega) k hk
    refine⟨j,n+1,a,by omega,by omega,c,by rw[d];omega,by omega,fun i hi=>hx i (by omega),?_⟩
    rw[Int.toNat_natCast,b]
   ·rw[if_neg (fun h=>hk h.2)]
    refine a3T l bs p f (n+1) (by omega) (by omega) (fun m hm=>?_)
    by_cases hmn:m<=n
    ·exact hx m hmn
    ·obtain rfl:m=n+1:=by omega
     omega
  ·rw[if_neg he]
   exact .inr (.inl ⟨n,by omega,by omega,hx,rfl⟩)
theorem c0Y(l bs:List Int)(p m:Nat)(h:xv bs p m<lowF (lenCnt l) m+nth (lenCnt l) m):∀ d,xv bs p (m+(d+1))<lowF (lenCnt l) (m+(d+1))
 | 0=>by
  have:=a2E bs (p+m)
  rw[xv,lowF];omega
 | d+1=>by
  have ih:=c0Y l bs p m h d
  by_cases hq:0<=nth (lenCnt l) (m+(d+1))
  ·have:=a2E bs (p+(m+(d+1)))
   rw[<-c3Y m,xv,lowF];omega
  ·exfalso
   apply hq
   by_cases h16:m+(d+1)<16
   ·exact (a1F l _ h16).1
   ·have:(lenCnt l)[m+(d+1)]? =none:=List.getElem?_eq_none (by rw[a1M];omega)
    simp[nth,List.getD,this]
theorem b7r{l:List Int}(hc:a0e l=0)(bs:List Int)(p:Nat)(hp:p<=8*bs.length) :
  a5D (rowsF l) (a2x bs (8*bs.length)) p=((decF l bs p).1,(decF l bs p).2.2,(decF l bs p).2.1):=by
 have hok:=(a1P hc).2
 have hno:∀ k,(∀ m,m<=k->lowF (lenCnt l) m+nth (lenCnt l) m<=xv bs p m)->∀ t m:Nat,t<l.length->m<=k->1<=m->nth l t=m->m<=15->xv bs p m≠a0P l t:=fun k hk t m ht hm h1 hx h15 he=>by
  have:=a2F l m t (by omega) h1 ht hx
  have:=hk m hm
  omega
 have hs:=a3T l bs p (longN l 16) 0 (by omega) (by omega) (fun m hm=>by
  obtain rfl:m=0:=by omega
  simp[xv,lowF,a1s])
 rw[show decGo l bs p (longN l 16) 0 (xv bs p 0)=decF l bs p from rfl] at hs
 rcases hs with⟨j,m,hj,h1,h15,hjm,hcode,hend,hpre,hr⟩|⟨k,hk,hend,hpre,hr⟩|⟨hend,hpre,hr⟩
 ·rw[hr]
  have hrow:=a6t l j m hj h1 hjm
  have hb:=a2F l m j (by omega) h1 hj hjm
  have:=a7r (rowsF l) (a2x bs (8*bs.length)) p j (by rw[hrow,a0X];omega) ((a6n hc bs p _ j m hj h1 h15 hjm).2 ⟨hend,hcode.symm⟩) (rowsF l).length 0 false (by omega) (by rw[a2U];omega) (fun t ht h0 ha=>by
   obtain⟨mt,a,b,c,_⟩:=a9N hok t (by omega) h0
   obtain⟨_,hx⟩:=(a6n hc bs p _ t mt (by omega) a b c).1 ha
   have hbt:=a2F l mt t (by omega) a (by omega) c
   rcases Nat.lt_trichotomy mt m with h|h|h
   ·have:=hpre mt h;omega
   ·subst h
    have:=a9e l mt t j (by omega) a ht hj c hjm
    omega
   ·have:=c0Y l bs p m (by omega) (mt-m-1)
    rw[show m+(mt-m-1+1)=mt by omega] at this
    omega)
  unfold a5D
  rw[this,hrow,a0X]
 ·rw[hr]
  have hL:=a6r l
  unfold a5D
  refine a3E _ _ _ _ _ _ (fun t _ ht h0 ha=>?_) (.inr ?_)
  ·rw[a2U,Nat.zero_add] at ht
   obtain⟨mt,a,b,c,_⟩:=a9N hok t ht h0
   obtain⟨h2,hx⟩:=(a6n hc bs p _ t mt ht a b c).1 ha
   exact hno k hpre t mt ht (by omega) a c b hx
  ·obtain⟨j,m,hj,hm,h15,hjm,hcode⟩:=b3t hc bs p k hk (hpre k (c3x _))
   have hrow:=a6t l j m hj (by omega) hjm
   have hb:=a2F l m j (by omega) (by omega) hj hjm
   have hkr:=a9u hc m h15
   have hx0:=(c1W bs p k).1
   have hc0:0<=a0P l j:=by have:=(a1N l (a1P hc).1 m (by omega)).1;omega
   refine⟨j,by omega,by rw[a2U];omega,by rw[hrow,a0X];omega,?_⟩
   rw[hrow,a2P]
   have hag:=(a9G (a0P l j) m hc0 (by omega) bs p k (by omega)).2 (by rw[hcode];exact Int.mul_ediv_cancel _ (Int.ne_of_gt (a0i _)))
   obtain⟨s1,s2,s3⟩:=a4A (msbF (a0P l j) m) (a2x bs (8*bs.length)) p
   rw[a0X,a2P] at s3
   rcases Nat.lt_trichotomy (agrN (msbF (a0P l j) m) (a2x bs (8*bs.length)) p) k with h|h|h
   ·rcases s3 with s3|s3|s3
    ·omega
    ·omega
    ·exfalso;apply s3;rw[a4D _ _ _ (by omega)];exact hag _ h
   ·omega
   ·have:=(s2 k h).1
    rw[a2P] at this;omega
 ·rw[hr]
  unfold a5D
  refine a5C _ _ _ _ _ (fun t _ ht h0=>?_)
  rw[a2U,Nat.zero_add] at ht
  obtain⟨mt,a,b,c,hrow⟩:=a9N hok t ht h0
  have hmt:mt<=longN l 16:=by
   rcases c3L (longN l 16) mt with h|h
   ·exfalso
    have hb:=a2F l mt t (by omega) a ht c
    have:=a4Q l 16 mt h (by omega)
    omega
   ·exact h
  have hne:agrN (rth (rowsF l) t) (a2x bs (8*bs.length)) p≠(rth (rowsF l) t).length:=fun ha=>hno _ hpre t mt ht hmt a c b ((a6n hc bs p _ t mt ht a b c).1 ha).2
  refine⟨hne,?_⟩
  obtain⟨s1,_,_⟩:=a4A (rth (rowsF l) t) (a2x bs (8*bs.length)) p
  rw[a2P]
  have:(rth (rowsF l) t).length=mt:=by rw[hrow,a0X]
  omega
def sayF(l:List Int)(sym extra:Int):Option (Int×Nat):=
 if 0<=sym/\sym<=15/\extra=0 then some (sym,1)
 else if sym=16/\0<=extra/\extra<=3/\l≠[] then some (l.getD (l.length-1) 0,extra.toNat+3)
 else if sym=17/\0<=extra/\extra<=7 then some (0,extra.toNat+3)
 else if sym=18/\0<=extra/\extra<=127 then some (0,extra.toNat+11)
 else none
def addF(l:List Int)(sym extra n:Int):Option (List Int):=
 match sayF l sym extra with
 | some (v,k)=>if ((l.length+k:Nat):Int)<=n then some (l++List.replicate k v) else none
 | none=>none
theorem a6u{l:List Int}{sym:Int}(h0:0<=sym)(h1:sym<=15):sayF l sym 0=some (sym,1):=by
 rw[sayF,if_pos ⟨h0,h1,rfl⟩]
theorem a2t{l:List Int}{sym extra:Int}(h1:sym<=15)(h2:sym<0∨extra≠0):sayF l sym extra=none:=by
 rw[sayF,if_neg (by rintro ⟨a,b,c⟩;rcases h2 with h|h;omega;exact h c),if_neg (by omega),if_neg (by omega),if_neg (by omega)]
theorem b3n{l:List Int}{extra:Int}(h0:0<=extra)(h1:extra<=3)(h:l≠[]):sayF l 16 extra=some (l.getD (l.length-1) 0,extra.toNat+3):=by
 rw[sayF,if_neg (by omega),if_pos ⟨rfl,h0,h1,h⟩]
theorem a2L{l:List Int}{extra:Int}(h:extra<0∨3<extra∨l=[]):sayF l 16 extra=none:=by
 rw[sayF,if_neg (by omega),if_neg (by rintro ⟨_,a,b,c⟩;rcases h with h|h|h;omega;omega;exact c h),if_neg (by omega),if_neg (by omega)]
theorem b3o{l:List Int}{extra:Int}(h0:0<=extra)(h1:extra<=7):sayF l 17 extra=some (0,extra.toNat+3):=by
 rw[sayF,if_neg (by omega),if_neg (by omega),if_pos ⟨rfl,h0,h1⟩]
theorem a6b{l:List Int}{extra:Int}(h:extra<0∨7<extra):sayF l 17 extra=none:=by
 rw[sayF,if_neg (by omega),if_neg (by omega),if_neg (by omega),if_neg (by omega)]
theorem b3p{l:List Int}{extra:Int}(h0:0<=extra)(h1:extra<=127):sayF l 18 extra=some (0,extra.toNat+11):=by
 rw[sayF,if_neg (by omega),if_neg (by omega),if_neg (by omega),if_pos ⟨rfl,h0,h1⟩]
theorem a6c{l:List Int}{extra:Int}(h:extra<0∨127<extra):sayF l 18 extra=none:=by
 rw[sayF,if_neg (by omega),if_neg (by omega),if_neg (by omega),if_neg (by omega)]
theorem c0b{l:List Int}{sym extra:Int}(h:18<sym):sayF l sym extra=none:=by
 rw[sayF,if_neg (by omega),if_neg (by omega),if_neg (by omega),if_neg (by omega)]
theorem a9R{l:List Int}{sym extra v:Int}{k:Nat}(h:sayF l sym extra=some (v,k)):1<=k/\k<=138:=by
 simp only[sayF] at h
 split at h
 ·simp at h;omega
 ·split at h
  ·simp at h;omega
  ·split at h
   ·simp at h;omega
   ·split at h
    ·simp at h;omega
    ·simp at h
theorem a2f{l:List Int}{sym extra n:Int}(h:sayF l sym extra=none):addF l sym extra n=none:=by rw[addF,h]
theorem a3q{l:List Int}{sym extra n v:Int}{k:Nat}(h:sayF l sym extra=some (v,k))(hn:n<((l.length+k:Nat):Int)):addF l sym extra n=none:=by
 rw[addF,h];exact if_neg (by omega)
theorem a2O{l:List Int}{sym extra n v:Int}{k:Nat}(h:sayF l sym extra=some (v,k))(hn:((l.length+k:Nat):Int)<=n):addF l sym extra n=some (l++List.replicate k v):=by
 rw[addF,h];exact if_pos hn
theorem b8F{l l':List Int}{sym extra n:Int}(h:addF l sym extra n=some l'):l.length<l'.length/\(l'.length:Int)<=n:=by
 simp only[addF] at h
 split at h
 ·rename_i v k hs
  have:=a9R hs
  split at h
  ·injection h with h;subst h;simp only[c3A,List.length_replicate];omega
  ·simp at h
 ·simp at h
def unpackTo(l:List Int):List (Int×Int)->Int->Option (List Int)
 | [],_=>some l
 | s::r,n=>match addF l s.1 s.2 n with
  | some l'=>unpackTo l' r n
  | none=>none
theorem a3l{l:List Int}{s:Int×Int}{r:List (Int×Int)}{n:Int}{l':List Int}(h:addF l s.1 s.2 n=some l'):unpackTo l (s::r) n=unpackTo l' r n:=by
 rw[unpackTo,h]
theorem a3m{l:List Int}{s:Int×Int}{r:List (Int×Int)}{n:Int}(h:addF l s.1 s.2 n=none):unpackTo l (s::r) n=none:=by
 rw[unpackTo,h]
def wN(sym:Int):Nat:=if sym=16 then 2 else if sym=17 then 3 else if sym=18 then 7 else 0
theorem c1T(s:Int):wN s<=7:=by unfold wN;split;omega;split;omega;split<;>omega
theorem b8o(j:Nat)(h:j<19):nth a5Q j=(wN (j:Int):Int):=by
 rcases (by omega:j<16∨j=16∨j=17∨j=18) with h|rfl|rfl|rfl
 ·have:wN (j:Int)=0:=by unfold wN;rw[if_neg (by omega),if_neg (by omega),if_neg (by omega)]
  rw[this]
  revert h;revert j
  decide
 ·rfl
 ·rfl
 ·rfl
theorem a6O(l bs:List Int)(p:Nat)(hp:p<=8*bs.length):((decF l bs p).2.1=0/\∃ j:Nat,(decF l bs p).1=j/\j<l.length/\p+(decF l bs p).2.2<=8*bs.length) ∨
  ((decF l bs p).2.1≠0/\(decF l bs p).1=0/\(decF l bs p).2.2=0):=by
 have hs:=a3T l bs p (longN l 16) 0 (by omega) (by omega) (fun m hm=>by
  obtain rfl:m=0:=by omega
  simp[xv,lowF,a1s])
 rw[show decGo l bs p (longN l 16) 0 (xv bs p 0)=decF l bs p from rfl] at hs
 rcases hs with⟨j,m,hj,_,_,_,_,hend,_,hr⟩|⟨k,_,_,_,hr⟩|⟨_,_,hr⟩
 ·rw[hr];exact .inl ⟨rfl,j,rfl,hj,hend⟩
 ·rw[hr];exact .inr ⟨by decide,rfl,rfl⟩
 ·rw[hr];exact .inr ⟨by decide,rfl,rfl⟩
def cL(bs:List Int)(p:Nat):Nat->List Int
 | 0=>List.replicate 19 0
 | k+1=>(cL bs p k).set (nth orderL k).toNat (numB bs (p+3*k) 3)
theorem a6I(bs:List Int)(p:Nat):∀ k,(cL bs p k).length=19
 | 0=>by simp[cL]
 | k+1=>by rw[cL,List.length_set,a6I bs p k]
def stepsF(codes bs:List Int)(N:Int):Nat->List Int->Nat->List Int×Nat×Int
 | 0,l,q=>(l,q,0)
 | f+1,l,q=>
  if N<=l.length then (l,q,0)
  else if (decF codes bs q).2.1≠0 then ([],q,(decF codes bs q).2.1)
  else if 8*bs.length<q+(decF codes bs q).2.2+wN (decF codes bs q).1 then ([],q,10)
  else match addF l (decF codes bs q).1 (numB bs (q+(decF codes bs q).2.2) (wN (decF codes bs q).1)) N with
   | none=>([],q,41)
   | some l'=>stepsF codes bs N f l' (q+(decF codes bs q).2.2+wN (decF codes bs q).1)
theorem a4r(codes bs:List Int)(N:Int)(f:Nat)(l:List Int)(q:Nat)(h:N<=l.length):stepsF codes bs N f l q=(l,q,0):=by
 cases f with
 | zero=>rfl
 | succ f=>rw[stepsF,if_pos h]
theorem a5s{l l':List Int}{s e n:Int}(h:addF l s e n=some l'):l.length+1<=l'.length/\(l'.length:Int)<=n/\l'.length<=l.length+138:=by
 unfold addF at h
 cases hs:sayF l s e with
 | none=>rw[hs] at h;cases h
 | some p=>
  obtain⟨v,k⟩:=p
  rw[hs] at h
  have hk:=a9R hs
  simp only[] at h
  split at h
  ·next hle=>
   obtain rfl:=Option.some.inj h
   rw[c3A,List.length_replicate];omega
  ·cases h
def a2i(bs:List Int)(p:Nat):Nat:=(numB bs (p+10) 4).toNat+4
def litF(bs:List Int)(p:Nat):Nat:=(numB bs p 5).toNat+257
def distF(bs:List Int)(p:Nat):Nat:=(numB bs (p+5) 5).toNat+1
def codesH(bs:List Int)(p:Nat):List Int:=cL bs (p+14) (a2i bs p)
def readR(bs:List Int)(p:Nat):List Int×Nat×Int:=stepsF (codesH bs p) bs ((litF bs p+distF bs p:Nat):Int) (litF bs p+distF bs p) [] (p+14+3*a2i bs p)
def headF(bs:List Int)(p:Nat):List Int×List Int×Nat×Int:=
 if 8*bs.length<p+14 then ([],[],0,10)
 else if 29<numB bs p 5∨29<numB bs (p+5) 5 then ([],[],0,40)
 else if 8*bs.length<p+14+3*a2i bs p then ([],[],0,10)
 else if a0e (codesH bs p)≠0 then ([],[],0,a0e (codesH bs p))
 else if (readR bs p).2.2≠0 then ([],[],0,(readR bs p).2.2)
 else ((readR bs p).1.take (litF bs p),(readR bs p).1.drop (litF bs p),(readR bs p).2.1-p,0)
theorem b9D(bs:List Int)(p:Nat):a2i bs p<=19:=by
 have:=a0F bs (p+10) 4
 unfold a2i
 have e:(2:Int)^4=16:=rfl
 omega
theorem a4Y(k:Nat)(h:k<19):0<=nth orderL k/\nth orderL k<19:=by revert h;revert k;decide
theorem b4c{bs:List Int}{p:Nat}{e:Int}(h1:¬8*bs.length<p+14)(h2:¬(29<numB bs p 5∨29<numB bs (p+5) 5))(h3:¬8*bs.length<p+14+3*a2i bs p)(h4:a0e (codesH bs p)=0)(h5:(readR bs p).2.2=e)(he:e≠0):headF bs p=([],[],0,e):=by
 unfold headF
 rw[if_neg h1,if_neg h2,if_neg h3,if_neg (by rw[h4];simp),if_pos (by rw[h5];exact he),h5]
theorem b2u{bs l:List Int}{p q:Nat}(h1:¬8*bs.length<p+14)(h2:¬(29<numB bs p 5∨29<numB bs (p+5) 5))(h3:¬8*bs.length<p+14+3*a2i bs p)(h4:a0e (codesH bs p)=0)(h5:readR bs p=(l,q,0)):headF bs p=(l.take (litF bs p),l.drop (litF bs p),q-p,0):=by
 unfold headF
 rw[if_neg h1,if_neg h2,if_neg h3,if_neg (by rw[h4];simp),h5]
 rfl
abbrev IRes:=List Int×Nat×Int
def endF(e other:Int):Int:=if e=0 then 0 else if e=10 then 55 else other
def storF(bs:List Int)(most:Nat):Nat->List Int->Nat->IRes
 | 0,out,p=>(out,p,0)
 | n+1,out,p=>if 8*bs.length<p+8 then (out,0,55) else if most<=out.length then (out,0,56) else storF bs most n (out++[numB bs p 8]) (p+8)
def a1p(p:Nat):Nat:=(p+7)/8*8
def a0m(bs:List Int)(most:Nat)(out:List Int)(p:Nat):IRes:=
 if 8*bs.length<a1p p+16 then (out,0,55)
 else if 8*bs.length<a1p p+32 then (out,0,55)
 else if numB bs (a1p p) 16+numB bs (a1p p+16) 16≠65535 then (out,0,51)
 else storF bs most (numB bs (a1p p) 16).toNat out (a1p p+32)
def layN(far most:Nat):Nat->List Int->List Int×Int
 | 0,out=>(out,0)
 | n+1,out=>if most<=out.length then (out,56) else layN far most n (out++[nth out (out.length-far)])
def lenK(s:Nat):Nat:=if s<265∨s=285 then 0 else (s-261)/4
def a1m(s:Nat):Nat:=if s<265 then s-254 else if s=285 then 258 else 3+(4+(s-261)%4)*2^lenK s
def a0J(d:Nat):Nat:=if d<4 then 0 else d/2-1
def a0r(d:Nat):Nat:=if d<4 then d+1 else 1+(2+d%2)*2^a0J d
def a0z(l:List Int):Bool:=l.any fun x=>decide (0<x)
def a0I(dist bs:List Int)(most s:Nat)(out:List Int)(p:Nat):IRes:=
 if 285<s then (out,0,53)
 else if 8*bs.length<p+lenK s then (out,0,55)
 else if a0z dist=false then (out,0,53)
 else if (decF dist bs (p+lenK s)).2.1≠0 then (out,0,endF (decF dist bs (p+lenK s)).2.1 53)
 else if 29<(decF dist bs (p+lenK s)).1 then (out,0,53)
 else if 8*bs.length<p+lenK s+(decF dist bs (p+lenK s)).2.2+a0J (decF dist bs (p+lenK s)).1.toNat then (out,0,55)
 else if (out.length:Int)<a0r (decF dist bs (p+lenK s)).1.toNat+numB bs (p+lenK s+(decF dist bs (p+lenK s)).2.2) (a0J (decF dist bs (p+lenK s)).1.toNat) then (out,0,54)
 else if (layN ((a0r (decF dist bs (p+lenK s)).1.toNat:Int)+numB bs (p+lenK s+(decF dist bs (p+lenK s)).2.2) (a0J (decF dist bs (p+lenK s)).1.toNat)).toNat most (a1m s+(numB bs p (lenK s)).toNat) out).2≠0 then
  ((layN ((a0r (decF dist bs (p+lenK s)).1.toNat:Int)+numB bs (p+lenK s+(decF dist bs (p+lenK s)).2.2) (a0J (decF dist bs (p+lenK s)).1.toNat)).toNat most (a1m s+(numB bs p (lenK s)).toNat) out).1,0,56)
 else ((layN ((a0r (decF dist bs (p+lenK s)).1.toNat:Int)+numB bs (p+lenK s+(decF dist bs (p+lenK s)).2.2) (a0J (decF dist bs (p+lenK s)).1.toNat)).toNat most (a1m s+(numB bs p (lenK s)).toNat) out).1,p+lenK s+(decF dist bs (p+lenK s)).2.2+a0J (decF dist bs (p+lenK s)).1.toNat,0)
def symF(lit dist bs:List Int)(most:Nat):Nat->List Int->Nat->IRes
 | 0,out,_=>(out,0,55)
 | f+1,out,p=>
  if (decF lit bs p).2.1≠0 then (out,0,endF (decF lit bs p).2.1 53)
  else if (decF lit bs p).1=256 then (out,p+(decF lit bs p).2.2,0)
  else if (decF lit bs p).1<256 then
   if most<=out.length then (out,0,56) else symF lit dist bs most f (out++[(decF lit bs p).1]) (p+(decF lit bs p).2.2)
  else if (a0I dist bs most (decF lit bs p).1.toNat out (p+(decF lit bs p).2.2)).2.2≠0 then a0I dist bs most (decF lit bs p).1.toNat out (p+(decF lit bs p).2.2)
  else symF lit dist bs most f (a0I dist bs most (decF lit bs p).1.toNat out (p+(decF lit bs p).2.2)).1 (a0I dist bs most (decF lit bs p).1.toNat out (p+(decF lit bs p).2.2)).2.1
def fixLit:List Int:=List.replicate 144 8++List.replicate 112 9++List.replicate 24 7++List.replicate 8 8
def fixDist:List Int:=List.replicate 32 5
def codesE(h:List Int×List Int×Nat×Int):Int:=
 if h.2.2.2≠0 then endF h.2.2.2 52
 else if nth h.1 256=0 then 52
 else if a0e h.1≠0 then 52
 else if a0z h.2.1=true/\a0e h.2.1≠0 then 52
 else 0
def a0S(bs:List Int)(most:Nat)(kind:Int)(out:List Int)(p:Nat):IRes:=
 if kind=0 then a0m bs most out p
 else if kind=1 then symF fixLit fixDist bs most (8*bs.length+1) out p
 else if kind=2 then
  if codesE (headF bs p)≠0 then (out,0,codesE (headF bs p))
  else symF (headF bs p).1 (headF bs p).2.1 bs most (8*bs.length+1) out (p+(headF bs p).2.2.1)
 else (out,0,50)
def blksF(bs:List Int)(most:Nat):Nat->List Int->Nat->IRes
 | 0,out,_=>(out,0,55)
 | f+1,out,p=>
  if 8*bs.length<p+1 then (out,0,55)
  else if 8*bs.length<p+3 then (out,0,55)
  else if (a0S bs most (numB bs (p+1) 2) out (p+3)).2.2≠0 then a0S bs most (numB bs (p+1) 2) out (p+3)
  else if numB bs p 1=0 then blksF bs most f (a0S bs most (numB bs (p+1) 2) out (p+3)).1 (a0S bs most (numB bs (p+1) 2) out (p+3)).2.1
  else a0S bs most (numB bs (p+1) 2) out (p+3)
def inflF(bs:List Int)(most:Nat):IRes:=blksF bs most (8*bs.length+1) [] 0
def a0B(bs:List Int)(most:Int):List Int×Nat×Int:=
 if most<0∨16384<most then ([],0,1)
 else if (inflF bs most.toNat).2.2≠0 then ([],0,(inflF bs most.toNat).2.2)
 else ((inflF bs most.toNat).1,((inflF bs most.toNat).2.1+7)/8,0)
theorem b1z(bs:List Int)(most:Nat):∀ n out p,p<=8*bs.length->(storF bs most n out p).2.2=0->p<=(storF bs most n out p).2.1/\(storF bs most n out p).2.1<=8*bs.length
 | 0,out,p,hp,h=>⟨c3x _,hp⟩
 | n+1,out,p,hp,h=>by
  rw[storF] at h ⊢
  split
  ·next h1=>rw[if_pos h1] at h;simp at h
  ·next h1=>
   rw[if_neg h1] at h
   split
   ·next h2=>rw[if_pos h2] at h;simp at h
   ·next h2=>
    rw[if_neg h2] at h
    have:=b1z bs most n _ (p+8) (by omega) h
    omega
theorem b3w(bs:List Int)(most:Nat)(out:List Int)(p:Nat)(h:(a0m bs most out p).2.2=0):p<=(a0m bs most out p).2.1/\(a0m bs most out p).2.1<=8*bs.length:=by
 unfold a0m at h ⊢
 split
 ·next h1=>rw[if_pos h1] at h;simp at h
 next h1=>
 rw[if_neg h1] at h
 split
 ·next h2=>rw[if_pos h2] at h;simp at h
 next h2=>
 rw[if_neg h2] at h
 split
 ·next h3=>rw[if_pos h3] at h;simp at h
 next h3=>
 rw[if_neg h3] at h
 have:=b1z bs most _ _ (a1p p+32) (by omega) h
 unfold a1p at *
 omega
theorem a9g(l bs:List Int)(p:Nat)(hp:p<=8*bs.length)(h:(decF l bs p).2.1=0):1<=(decF l bs p).2.2/\p+(decF l bs p).2.2<=8*bs.length/\0<=(decF l bs p).1/\(decF l bs p).1<l.length:=by
 have hs:=a3T l bs p (longN l 16) 0 (by omega) (by omega) (fun m hm=>by
  obtain rfl:m=0:=by omega
  simp[xv,lowF,a1s])
 rw[show decGo l bs p (longN l 16) 0 (xv bs p 0)=decF l bs p from rfl] at hs
 rcases hs with⟨j,m,hj,h1,_,_,_,hend,_,hr⟩|⟨k,_,_,_,hr⟩|⟨_,_,hr⟩
 ·rw[hr];exact⟨h1,hend,by simp,by simp;omega⟩
 ·rw[hr] at h;simp at h
 ·rw[hr] at h;simp at h
theorem a1Q{e o:Int}(ho:o≠0)(h:endF e o=0):e=0:=by
 unfold endF at h
 split at h
 ·assumption
 split at h
 ·cases h
 ·exact absurd h ho
theorem a6M(dist bs:List Int)(most s:Nat)(out:List Int)(p:Nat)(hp:p<=8*bs.length)(h:(a0I dist bs most s out p).2.2=0):p<=(a0I dist bs most s out p).2.1/\(a0I dist bs most s out p).2.1<=8*bs.length:=by
 unfold a0I at h ⊢
 split
 ·next h1=>rw[if_pos h1] at h;simp at h
 next h1=>
 rw[if_neg h1] at h
 split
 ·next h2=>rw[if_pos h2] at h;simp at h
 next h2=>
 rw[if_neg h2] at h
 split
 ·next h3=>rw[if_pos h3] at h;simp at h
 next h3=>
 rw[if_neg h3] at h
 split
 ·next h4=>rw[if_pos h4] at h;exact absurd (a1Q (by decide) h) h4
 next h4=>
 rw[if_neg h4] at h
 split
 ·next h5=>rw[if_pos h5] at h;simp at h
 next h5=>
 rw[if_neg h5] at h
 split
 ·next h6=>rw[if_pos h6] at h;simp at h
 next h6=>
 rw[if_neg h6] at h
 split
 ·next h7=>rw[if_pos h7] at h;simp at h
 next h7=>
 rw[if_neg h7] at h
 split
 ·next h8=>rw[if_pos h8] at h;simp at h
 next h8=>
 simp only[]
 omega
theorem a6v(lit dist bs:List Int)(most:Nat):∀ f out p,p<=8*bs.length->(symF lit dist bs most f out p).2.2=0->p<=(symF lit dist bs most f out p).2.1/\(symF lit dist bs most f out p).2.1<=8*bs.length
 | 0,out,p,hp,h=>by simp[symF] at h
 | f+1,out,p,hp,h=>by
  rw[symF] at h ⊢
  split
  ·next h1=>rw[if_pos h1] at h;exact absurd (a1Q (by decide) h) h1
  next h1=>
  rw[if_neg h1] at h
  obtain⟨a1,a2,-⟩:=a9g lit bs p hp (by omega)
  split
  ·simp only[];omega
  next h2=>
  rw[if_neg h2] at h
  split
  ·next h3=>
   rw[if_pos h3] at h
   split
   ·next h4=>rw[if_pos h4] at h;simp at h
   ·next h4=>
    rw[if_neg h4] at h
    have:=a6v lit dist bs most f _ _ a2 h
    omega
  next h3=>
  rw[if_neg h3] at h
  split
  ·next h5=>rw[if_pos h5] at h;exact absurd h h5
  ·next h5=>
   rw[if_neg h5] at h
   obtain⟨b1,b2⟩:=a6M dist bs most (decF lit bs p).1.toNat out _ a2 (by omega)
   have:=a6v lit dist bs most f _ _ b2 h
   omega
theorem b6M(bs:List Int)(p:Nat)(h:(headF bs p).2.2.2=0):p+(headF bs p).2.2.1<=8*bs.length:=by
 have hm:∀ f l q,q<=8*bs.length->(stepsF (codesH bs p) bs ((litF bs p+distF bs p:Nat):Int) f l q).2.2=0->(stepsF (codesH bs p) bs ((litF bs p+distF bs p:Nat):Int) f l q).2.1<=8*bs.length:=by
  intro f
  induction f with
  | zero=>intro l q hq _;exact hq
  | succ f ih=>
   intro l q hq h
   rw[stepsF] at h ⊢
   split
   ·exact hq
   next h1=>
   rw[if_neg h1] at h
   split
   ·exact hq
   next h2=>
   rw[if_neg h2] at h
   split
   ·exact hq
   next h3=>
   rw[if_neg h3] at h
   split
   ·exact hq
   ·next l' ha=>rw[ha] at h;exact ih l' _ (by omega) h
 unfold headF at h ⊢
 split
 ·next h1=>rw[if_pos h1] at h;simp at h
 next h1=>
 rw[if_neg h1] at h
 split
 ·next h2=>rw[if_pos h2] at h;simp at h
 next h2=>
 rw[if_neg h2] at h
 split
 ·next h3=>rw[if_pos h3] at h;simp at h
 next h3=>
 rw[if_neg h3] at h
 split
 ·next h4=>rw[if_pos h4] at h;exact absurd h h4
 next h4=>
 rw[if_neg h4] at h
 split
 ·next h5=>rw[if_pos h5] at h;exact absurd h h5
 ·next h5=>
  have:=hm (litF bs p+distF bs p) [] (p+14+3*a2i bs p) (by omega) (by have:(readR bs p).2.2=0:=(by omega);exact this)
  change (readR bs p).2.1<=_ at this
  simp only[]
  omega
theorem a6K{h:List Int×List Int×Nat×Int}(he:codesE h=0):h.2.2.2=0:=by
 unfold codesE at he
 split at he
 ·next h1=>exact a1Q (by decide) he
 ·omega
theorem a5u(bs:List Int)(most:Nat)(kind:Int)(out:List Int)(p:Nat)(hp:p<=8*bs.length)(h:(a0S bs most kind out p).2.2=0):p<=(a0S bs most kind out p).2.1/\(a0S bs most kind out p).2.1<=8*bs.length:=by
 unfold a0S at h ⊢
 split
 ·next h1=>rw[if_pos h1] at h;exact b3w _ _ _ _ h
 next h1=>
 rw[if_neg h1] at h
 split
 ·next h2=>rw[if_pos h2] at h;exact a6v _ _ _ _ _ _ _ hp h
 next h2=>
 rw[if_neg h2] at h
 split
 ·next h3=>
  rw[if_pos h3] at h
  split
  ·next h4=>rw[if_pos h4] at h;exact absurd h h4
  ·next h4=>
   rw[if_neg h4] at h
   have ha:=b6M bs p (a6K (by omega))
   have:=a6v _ _ _ _ _ _ _ ha h
   omega
 ·next h3=>rw[if_neg h3] at h;simp at h
theorem b0q(bs:List Int)(most:Nat):∀ f out p,p<=8*bs.length->(blksF bs most f out p).2.2=0->p<=(blksF bs most f out p).2.1/\(blksF bs most f out p).2.1<=8*bs.length
 | 0,out,p,hp,h=>by simp[blksF] at h
 | f+1,out,p,hp,h=>by
  rw[blksF] at h ⊢
  split
  ·next h1=>rw[if_pos h1] at h;simp at h
  next h1=>
  rw[if_neg h1] at h
  split
  ·next h2=>rw[if_pos h2] at h;simp at h
  next h2=>
  rw[if_neg h2] at h
  split
  ·next h3=>rw[if_pos h3] at h;exact absurd h h3
  next h3=>
  rw[if_neg h3] at h
  obtain⟨b1,b2⟩:=a5u bs most (numB bs (p+1) 2) out (p+3) (by omega) (by omega)
  split
  ·next h4=>
   rw[if_pos h4] at h
   have:=b0q bs most f _ _ b2 h
   omega
  ·omega
theorem b0P(bs:List Int)(most:Nat)(h:(inflF bs most).2.2=0):(inflF bs most).2.1<=8*bs.length:=(b0q bs most _ _ _ (c3V _) h).2
theorem b9j{bs:List Int}{most:Int}(h0:0<=most)(h1:most<=16384)(h:(inflF bs most.toNat).2.2=0):a0B bs most=((inflF bs most.toNat).1,((inflF bs most.toNat).2.1+7)/8,0):=by
 unfold a0B;rw[if_neg (by omega),if_neg (by omega)]
def pth2(X:List PP)(j:Nat):PP:=X.getD j (0,[])
theorem b2Q(X:List PP):∀ j,2*j+1<X.length->(pairsF X).take (j+1)=(pairsF X).take j++[((pth2 X (2*j)).1+(pth2 X (2*j+1)).1,(pth2 X (2*j)).2++(pth2 X (2*j+1)).2)]:=by
 induction X using pairsF.induct with
 | case1 a b r ih=>
  intro j hj
  rw[pairsF]
  match j with
  | 0=>rfl
  | j+1=>
   have:=ih j (by simp only[c3u] at hj;omega)
   rw[c3s,this,c3s]
   rfl
 | case2 l hl=>
  intro j hj
  match l,hl with
  | [],_=>simp at hj
  | [x],_=>simp at hj
  | a::b::r,h=>exact absurd rfl (h a b r)
theorem b2P(X:List PP)(j:Nat)(h:X.length<=2*j+1):(pairsF X).take j=pairsF X:=c3D (by rw[a2a];omega)
theorem b1q{l:List PP}(h:posP l):posP (sortP l):=a7z (a0M l) h
theorem a4O{lv:List PP}(h:posP lv)(hs:sumW lv<=288000000000000)(hl:sumS lv<=288){t:Nat}(ht:t<=15) :
  (∀ x∈levelF (sortP lv) t,0<x.1/\x.1<=100000000000000000/\x.2.length<=4320):=by
 obtain⟨h1,h2,h3,h4⟩:=a9w (sortP lv) (b1q h) t
 rw[b1D (a0M lv)] at h2
 rw[b1C (a0M lv)] at h3
 intro x hx
 have a1:=b6W h1 hx
 have a2:=c1v hx
 have w0:=a4s lv h
 have b1:(t:Int)*sumW lv<=15*288000000000000:=by
  have:(t:Int)*sumW lv<=15*sumW lv:=Int.mul_le_mul_of_nonneg_right (by omega) w0
  omega
 have b2:t*sumS lv<=15*288:=Nat.mul_le_mul ht hl
 exact⟨(h1 x hx).1,by omega,by omega⟩
theorem a9x{lv:List PP}(h:posP lv)(hs:sumW lv<=288000000000000)(hl:sumS lv<=288){t:Nat}(ht:t<15) :
  ∀ x∈sortP lv++pairsF (levelF (sortP lv) t),0<=x.1/\x.1<=100000000000000000:=by
 intro x hx
 have:=a4O h hs hl (t:=t+1) (by omega) x ((a0M _).mem_iff.2 hx)
 omega
theorem c1w{lv:List PP}(h:posP lv)(hs:sumW lv<=288000000000000):∀ x∈lv,0<=x.1/\x.1<=100000000000000000:=by
 intro x hx
 have:=b6W h hx
 have:=(h x hx).1
 omega
theorem b9f{X:List PP}(h:∀ x∈X,x.2.length<=4320):(X.flatMap Prod.snd).length<=X.length*4320:=by
 induction X with
 | nil=>simp
 | cons a r ih=>
  have:=ih (fun x hx=>h x (by simp[hx]))
  have:=h a (by simp)
  rw[c3N,c3A,c3u]
  omega
theorem a5T(n:Nat)(S:List Int)(s:Nat)(h:s<n):0<=nth (cntF n S) s/\nth (cntF n S) s<=S.length:=by
 rw[a0t n S s h]
 have:=List.count_le_length (a:=(s:Int)) (l:=S)
 omega
theorem b0W(lv:List PP)(m:Nat)(h2:2<=lv.length)(hm:lv.length<=2^m):2*lv.length-2<=(levelF (sortP lv) m).length:=by
 have key:∀ t,1<=t->2*lv.length<=(levelF (sortP lv) t).length+1+(lv.length-1)/2^(t-1):=by
  intro t
  induction t with
  | zero=>intro h;omega
  | succ t ih=>
   intro _
   rw[levelF,a1H,c3A,a1H,a2a]
   by_cases ht:t=0
   ·subst ht;simp[levelF];omega
   ·have:=ih (by omega)
    have e:(lv.length-1)/2^(t+1-1)=(lv.length-1)/2^(t-1)/2:=by
     rw[Nat.div_div_eq_div_mul,<-Nat.pow_succ]
     congr 2;omega
    rw[e]
    omega
 have hm0:1<=m:=by
  by_cases h:m=0
  ·subst h;simp at hm;omega
  ·omega
 have:=key m hm0
 have hd:(lv.length-1)/2^(m-1)<=1:=by
  have h3:2^m=2*2^(m-1):=by rw[<-Nat.pow_succ'];congr 1;omega
  have:(lv.length-1)/2^(m-1)<2:=by
   rw[Nat.div_lt_iff_lt_mul (Nat.two_pow_pos _)];omega
  omega
 omega
section
variable {α:Type} (f:α->Int)
def leB(x y:α):Bool:=decide (f x<=f y)
theorem b7l:∀ (N:Nat) (xs ys:List α),xs.length+ys.length<=N->Srt f xs->Srt f ys->Srt f (List.merge xs ys (leB f))/\Sme f (List.merge xs ys (leB f)) (xs++ys)
 | N,[],ys,_,_,hy=>by
  rw[List.nil_merge];exact⟨hy,List.Perm.refl _,fun _=>rfl⟩
 | N,x::xs,[],_,hx,_=>by
  rw[List.merge_right,List.append_nil];exact⟨hx,List.Perm.refl _,fun _=>rfl⟩
 | 0,x::xs,y::ys,h,_,_=>by simp at h
 | N+1,x::xs,y::ys,h,hx,hy=>by
  have hx':=c3v.1 hx
  have hy':=c3v.1 hy
  rw[List.cons_merge_cons]
  by_cases hle:f x<=f y
  ·rw[if_pos (by simpa [leB] using hle)]
   obtain⟨h1,h2,h3⟩:=b7l N xs (y::ys) (by simp at h ⊢;omega) hx'.2 hy
   refine⟨c3v.2 ⟨fun z hz=>?_,h1⟩,(List.perm_cons x).2 h2,fun v=>?_⟩
   ·rcases List.mem_append.1 (h2.mem_iff.1 hz) with hz|hz
    ·exact hx'.1 z hz
    ·rcases c3G.1 hz with rfl|hz
     ·exact hle
     ·have:=hy'.1 z hz;omega
   ·rw[List.cons_append]
    by_cases e:f x=v
    ·rw[c3w (by simpa using e),c3w (by simpa using e),h3]
    ·rw[c3y (by simpa using e),c3y (by simpa using e),h3]
  ·rw[if_neg (by simpa [leB] using hle)]
   obtain⟨h1,h2,h3⟩:=b7l N (x::xs) ys (by simp at h ⊢;omega) hx hy'.2
   refine⟨c3v.2 ⟨fun z hz=>?_,h1⟩,((List.perm_cons y).2 h2).trans List.perm_middle.symm,fun v=>?_⟩
   ·rcases List.mem_append.1 (h2.mem_iff.1 hz) with hz|hz
    ·rcases c3G.1 hz with rfl|hz
     ·omega
     ·have:=hx'.1 z hz;omega
    ·exact hy'.1 z hz
   ·by_cases e:f y=v
    ·rw[c3w (by simpa using e),h3,c3F,c3F,c3w (p:=fun p=>decide (f p=v)) (a:=y) (by simpa using e)]
     have:List.filter (fun p=>decide (f p=v)) (x::xs)=[]:=by
      rw[List.filter_eq_nil_iff]
      intro z hz
      have:f x<=f z:=by
       rcases c3G.1 hz with rfl|hz
       ·exact c4b _
       ·exact hx'.1 z hz
      simp;omega
     rw[this];rfl
    ·rw[c3y (by simpa using e),h3,c3F,c3F,c3y (p:=fun p=>decide (f p=v)) (a:=y) (by simpa using e)]
theorem c1K(xs ys:List α)(hx:Srt f xs)(hy:Srt f ys):sortW f (xs++ys) []=List.merge xs ys (leB f):=by
 obtain⟨h1,h2⟩:=b7l f _ xs ys (c3x _) hx hy
 exact (b4y f h1 h2).symm
theorem b2G:∀ (N:Nat) (xs ys:List α),xs.length+ys.length<=N->Srt f xs->Srt f ys->∀ a,a<=xs.length+ys.length->∃ i j,i<=xs.length/\j<=ys.length/\i+j=a /\
  ((List.merge xs ys (leB f)).take a).Perm (xs.take i++ys.take j)/\(∀ x∈xs.drop i,∀ y∈ys.take j,f y<f x)
 | N,[],ys,_,_,_,a,ha=>by
  rw[List.nil_merge]
  exact⟨0,a,c3V _,by simpa using ha,by omega,by simp,by simp⟩
 | N,x::xs,[],_,_,_,a,ha=>by
  rw[List.merge_right]
  exact⟨a,0,by simpa using ha,c3V _,by omega,by simp,by simp⟩
 | 0,x::xs,y::ys,h,_,_,_,_=>by simp at h
 | N+1,x::xs,y::ys,h,hx,hy,0,_=>⟨0,0,c3V _,c3V _,rfl,by simp,by simp⟩
 | N+1,x::xs,y::ys,h,hx,hy,a+1,ha=>by
  have hx':=c3v.1 hx
  have hy':=c3v.1 hy
  simp only[c3u] at h ha
  rw[List.cons_merge_cons]
  by_cases hle:f x<=f y
  ·rw[if_pos (by simpa [leB] using hle),c3s]
   obtain⟨i,j,h1,h2,h3,h4,h5⟩:=b2G N xs (y::ys) (by simp only[c3u];omega) hx'.2 hy a (by simp only[c3u];omega)
   refine⟨i+1,j,by simp only[c3u];omega,h2,by omega,?_,?_⟩
   ·rw[c3s,List.cons_append];exact (List.perm_cons x).2 h4
   ·rw[List.drop_succ_cons];exact h5
  ·rw[if_neg (by simpa [leB] using hle),c3s]
   obtain⟨i,j,h1,h2,h3,h4,h5⟩:=b2G N (x::xs) ys (by simp only[c3u];omega) hx hy'.2 a (by simp only[c3u];omega)
   refine⟨i,j+1,h1,by simp only[c3u];omega,by omega,?_,?_⟩
   ·rw[c3s];exact ((List.perm_cons y).2 h4).trans List.perm_middle.symm
   ·rw[c3s]
    intro z hz v hv
    rcases c3G.1 hv with rfl|hv
    ·have hz':z∈x::xs:=List.mem_of_mem_drop hz
     rcases c3G.1 hz' with rfl|hz'
     ·omega
     ·have:=hx'.1 z hz';omega
    ·exact h5 z hz v hv
end
theorem b1s(l:List PP)(h:Srt Prod.fst l):Srt Prod.fst (pairsF l):=by
 induction l using pairsF.induct with
 | case1 a b r ih=>
  rw[pairsF]
  have h1:=c3v.1 h
  have h2:=c3v.1 h1.2
  refine c3v.2 ⟨fun p hp=>?_,ih h2.2⟩
  have key:∀ (l:List PP) (m:Int),(∀ x∈l,m<=x.1)->∀ p∈pairsF l,m+m<=p.1:=by
   intro l m
   induction l using pairsF.induct with
   | case1 c d s ihs=>
    intro hm p hp
    rw[pairsF] at hp
    have hc:=hm c (by simp)
    have hd:=hm d (by simp)
    rcases c3G.1 hp with rfl|hp
    ·simp only[];omega
    ·exact ihs (fun x hx=>hm x (by simp[hx])) p hp
   | case2 l hl=>intro _ p hp;rw[a1u hl] at hp;simp at hp
  have hab:=h1.1 b (by simp)
  have:=key r b.1 (fun x hx=>h2.1 x hx) p hp
  simp only[];omega
 | case2 l hl=>rw[a1u hl];exact List.Pairwise.nil
theorem b2R(l:List PP)(hp:posP l):∀ j,j<=l.length/2->∀ x∈l.take (2*j),∃ y∈(pairsF l).take j,x.1<y.1:=by
 induction l using pairsF.induct with
 | case1 a b r ih=>
  intro j hj x hx
  match j with
  | 0=>simp at hx
  | j+1=>
   rw[show 2*(j+1)=(2*j+1)+1 by omega,c3s,c3s] at hx
   rw[pairsF,c3s]
   have ha:=(hp a (by simp)).1
   have hb:=(hp b (by simp)).1
   simp only[c3G] at hx
   rcases hx with rfl|rfl|hx
   ·exact⟨_,c3U ..,by simp only[];omega⟩
   ·exact⟨_,c3U ..,by simp only[];omega⟩
   ·obtain⟨y,h1,h2⟩:=ih (fun p h=>hp p (by simp[h])) j (by simp only[c3u] at hj;omega) x hx
    exact⟨y,List.mem_cons_of_mem _ h1,h2⟩
 | case2 l hl=>
  intro j hj x hx
  have:l.length/2=0:=by rw[<-a2a,a1u hl];rfl
  obtain rfl:j=0:=by omega
  simp at hx
theorem b5D(l:List PP):∀ j,j<=l.length/2->((pairsF l).take j).flatMap Prod.snd=(l.take (2*j)).flatMap Prod.snd:=by
 induction l using pairsF.induct with
 | case1 a b r ih=>
  intro j hj
  match j with
  | 0=>simp
  | j+1=>
   rw[show 2*(j+1)=(2*j+1)+1 by omega,c3s,c3s,pairsF,c3s,c3N,c3N,c3N,ih j (by simp only[c3u] at hj;omega),List.append_assoc]
 | case2 l hl=>
  intro j hj
  have:l.length/2=0:=by rw[<-a2a,a1u hl];rfl
  obtain rfl:j=0:=by omega
  simp
theorem b7E(M:Int)(l:List PP)(hp:posP l):2*(pairsF l).countP (fun p=>decide (p.1<M))<=l.countP (fun p=>decide (p.1<M)):=by
 induction l using pairsF.induct with
 | case1 a b r ih=>
  rw[pairsF]
  have ha:=(hp a (by simp)).1
  have hb:=(hp b (by simp)).1
  have:=ih (fun p h=>hp p (by simp[h]))
  rw[List.countP_cons,List.countP_cons,List.countP_cons]
  by_cases h:a.1+b.1<M
  ·rw[if_pos (by simpa using h),if_pos (by simp;omega),if_pos (by simp;omega)];omega
  ·rw[if_neg (by simpa using h)];omega
 | case2 l hl=>rw[a1u hl];simp
def wid:List Nat->Nat
 | []=>0
 | c::r=>c*2^r.length+wid r
theorem b0X{lv:List PP}(h:posP lv)(t:Nat):posP (levelF lv t):=(a9w lv h t).1
theorem b0Y(lv:List PP):∀ t,Srt Prod.fst (levelF lv t)
 | 0=>List.Pairwise.nil
 | t+1=>a7L _ _
theorem b6Z{lv:List PP}(hs:Srt Prod.fst lv)(hp:posP lv)(t a:Nat)(ha:a<=(levelF lv (t+1)).length):∃ i j,i<=lv.length/\j<=(levelF lv t).length/2/\i+j=a /\
  ((levelF lv (t+1)).take a).Perm (lv.take i++(pairsF (levelF lv t)).take j)/\(∀ x∈lv.drop i,∀ y∈(pairsF (levelF lv t)).take j,y.1<x.1):=by
 have e:levelF lv (t+1)=List.merge lv (pairsF (levelF lv t)) (leB Prod.fst):=c1K Prod.fst lv _ hs (b1s _ (b0Y lv t))
 have hl:(levelF lv (t+1)).length=lv.length+(pairsF (levelF lv t)).length:=by rw[levelF,a1H,c3A]
 rw[hl] at ha
 rw[e]
 obtain⟨i,j,h1,h2,h3,h4,h5⟩:=b2G Prod.fst _ lv (pairsF (levelF lv t)) (c3x _) hs (b1s _ (b0Y lv t)) a ha
 rw[a2a] at h2
 exact⟨i,j,h1,h2,h3,h4,h5⟩
theorem a7j{lv:List PP}(hs:Srt Prod.fst lv)(hp:posP lv):∀ t a,a<=(levelF lv t).length->∃ cs:List Nat,cs.length=t/\cs.Pairwise (fun x y=>y<=x)/\(∀ c∈cs,c<=lv.length) /\
  (((levelF lv t).take a).flatMap Prod.snd).Perm (cs.flatMap fun c=>(lv.take c).flatMap Prod.snd)/\2*wid cs=a*2^t/\(∀ x∈lv.take (cs.headD 0),x∈(levelF lv t).take a) /\
  (t≠0->∀ x∈lv.drop (cs.headD 0),∀ y∈(pairsF (levelF lv (t-1))).take (a-cs.headD 0),y.1<x.1)/\(t≠0->a-cs.headD 0<=(levelF lv (t-1)).length/2)
 | 0,a,ha=>by
  obtain rfl:a=0:=by simpa [levelF] using ha
  exact⟨[],rfl,List.Pairwise.nil,by simp,by simp,by simp[wid],by simp,fun h=>absurd rfl h,fun h=>absurd rfl h⟩
 | t+1,a,ha=>by
  obtain⟨i,j,h1,h2,h3,h4,h5⟩:=b6Z hs hp t a ha
  obtain⟨r,r1,r2,r3,r4,r5,r6,_,_⟩:=a7j hs hp t (2*j) (by omega)
  have hhead:∀ c∈r,c<=r.headD 0:=by
   intro c hc
   match r,r2,hc with
   | d::r,r2,hc=>
    rcases c3G.1 hc with rfl|hc
    ·exact c3x _
    ·exact (c3v.1 r2).1 c hc
  have hnest:r.headD 0<=i:=by
   rcases c3L i (r.headD 0) with hlt|hge
   ·exfalso
    have hle:r.headD 0<=lv.length:=by
     match r,r3 with
     | [],_=>exact c3V _
     | d::r,r3=>exact r3 d (by simp)
    have hi:i<lv.length:=by omega
    have m1:lv[i]∈lv.take (r.headD 0):=by
     rw[List.mem_take_iff_getElem]
     exact⟨i,by omega,rfl⟩
    have m2:lv[i]∈lv.drop i:=by
     rw[List.drop_eq_getElem_cons hi];exact c3U ..
    obtain⟨y,hy,hlt2⟩:=b2R _ (b0X hp t) j h2 _ (r6 _ m1)
    have:=h5 _ m2 y hy
    omega
   ·exact hge
  refine⟨i::r,by rw[c3u,r1],c3v.2 ⟨fun c hc=>Nat.le_trans (hhead c hc) hnest,r2⟩,?_,?_,?_,?_,?_,?_⟩
  ·intro c hc
   rcases c3G.1 hc with rfl|hc
   ·exact h1
   ·exact r3 c hc
  ·rw[c3N]
   refine (h4.flatMap_right _).trans ?_
   rw[List.flatMap_append,b5D _ j h2]
   exact r4.append_left _
  ·rw[wid,r1,Nat.mul_add,r5,<-h3,Nat.pow_succ,Nat.add_mul,Nat.mul_comm 2 (i*2^t),Nat.mul_assoc i,Nat.mul_comm 2 j,Nat.mul_assoc j,Nat.mul_comm 2 (2^t)]
  ·intro x hx
   exact h4.mem_iff.2 (List.mem_append_left _ hx)
  ·intro _ x hx y hy
   simp only[List.headD_cons,Nat.add_sub_cancel] at hx hy
   rw[show a-i=j by omega] at hy
   exact h5 x hx y hy
  ·intro _
   simp only[List.headD_cons,Nat.add_sub_cancel]
   omega
theorem b0I{lv:List PP}(hp:posP lv)(M:Int)(h2:2<=lv.length)(hM:∃ x∈lv,M<=x.1):∀ t,(pairsF (levelF lv t)).countP (fun p=>decide (p.1<M))<=lv.length-2
 | 0=>by simp[levelF,pairsF]
 | t+1=>by
  have ih:=b0I hp M h2 hM t
  have h:=b7E M (levelF lv (t+1)) (b0X hp (t+1))
  have e:(levelF lv (t+1)).countP (fun p=>decide (p.1<M))=lv.countP (fun p=>decide (p.1<M))+(pairsF (levelF lv t)).countP (fun p=>decide (p.1<M)):=by
   rw[levelF,(a0M _).countP_eq,List.countP_append]
  have hl:lv.countP (fun p=>decide (p.1<M))<lv.length:=by
   obtain⟨x,hx,hMx⟩:=hM
   refine Nat.lt_of_le_of_ne List.countP_le_length (fun he=>?_)
   have:=List.countP_eq_length.1 he x hx
   simp at this;omega
  omega
theorem c1S {lv:List PP} (hs:Srt Prod.fst lv) (hp:posP lv) (t:Nat) (h2:2<=lv.length) {c j:Nat} (hc:c<=lv.length) (hj:c+j=2*lv.length-2) (hjl:j<=(levelF lv t).length/2)
  (hx:∀ x∈lv.drop c,∀ y∈(pairsF (levelF lv t)).take j,y.1<x.1):c=lv.length:=by
 rcases c3L c lv.length with hlt|hge
 ·exfalso
  have m2:lv[c]∈lv.drop c:=by rw[List.drop_eq_getElem_cons hlt];exact c3U ..
  have hn:=b0I hp (lv[lv.length-1].1) h2 ⟨_,c3K _,c4b _⟩ t
  have hle:lv[c].1<=lv[lv.length-1].1:=by
   rcases c3L c (lv.length-1) with h|h
   ·exact (List.pairwise_iff_getElem.1 hs) c (lv.length-1) hlt (by omega) h
   ·have:c=lv.length-1:=by omega
    subst this;exact c4b _
  have hall:((pairsF (levelF lv t)).take j).countP (fun p=>decide (p.1<lv[lv.length-1].1))=j:=by
   rw[List.countP_eq_length.2 (fun y hy=>by
    have:=hx _ m2 y hy
    simp only[c3W];omega),c3R,a2a]
   omega
  have:=(List.take_sublist j (pairsF (levelF lv t))).countP_le (p:=fun p=>decide (p.1<lv[lv.length-1].1))
  omega
 ·omega
end Go.Proofs.YtghjlpechjggjaaGreatDoor
