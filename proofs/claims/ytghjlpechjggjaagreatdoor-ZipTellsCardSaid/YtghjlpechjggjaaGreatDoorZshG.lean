import Derived.Test.YtghjlpechjggjaaGreatDoorZshA
import Derived.BigQuiet
import Derived.StillTailTactics
import Derived.Recover
import Derived.Defers
import Derived.Test.YtghjlpechjggjaaGreatDoorZshF
import Derived.Deep.AppendLies
import Derived.OneCell
import Derived.Test.YtghjlpechjggjaaGreatDoorZshC
import Derived.Laws.AppendOwnNone
import Derived.Test.YtghjlpechjggjaaGreatDoorZshB
import Derived.Deep.MidRow
import Derived.RegionTactic
import Derived.WalkMore
import Derived.BigRegion
import Derived.Deep.Onto
import Derived.Laws.OwnMore
import Derived.Lib.SliceRun
import Derived.Deep.RegionWith
set_option linter.defProp false
set_option linter.unnecessarySimpa false
set_option linter.unusedVariables false
set_option linter.unusedSimpArgs false
set_option linter.constructorNameAsVariable false
set_option maxRecDepth 100000
set_option maxHeartbeats 60000000
namespace Go.Proofs.YtghjlpechjggjaaGreatDoor
open Go.RowKit
private def c1n := @Lib.hid
private def c1o := @List.mem_singleton
private def c1p := @List.getElem?_append_right
private def c1q := @List.set_append_right
private def c1r := @IntWalk.i64_in
private def c1s := @List.getElem?_cons_zero
private def c1t := @Tryz.ntmps184
private def c1u := @Tryz.func184
private def c1v := @Tryz.results179
private def c1w := @List.eq_nil_of_length_eq_zero
private def c1x := @List.getElem?_eq_some_iff
private def c1y := @List.getElem?_eq_getElem
private def c1z := @Tryz.underlying90
private def c1A := @World.ownsRow_nil
private def c1B := @bodyPost_ret
private def c1C := @List.getElem?_cons_succ
private def c1D := @List.getElem?_append_left
private def c1E := @Nat.zero_add
private def c1F := @Nat.le_refl
private def c1G := @List.mem_cons
open Go.RowKit
def a7l(e:Int):List PanicEntry:=[{ v:=.iface 27 (.int .i64 e),recovered:=false }]
theorem a1u(w:World)(e:Int):Calls Tryz.prog 73 #[.bool true,.int .i64 e] w fun r w'=>r=.returned (.tuple #[])/\w'=w:=by
 go_enter Tryz.func73,Tryz.ntmps73
 go_wp2_with fail
 go_end0
 exact⟨rfl,rfl⟩
theorem a0p(w:World)(e:Int):Calls Tryz.prog 73 #[.bool false,.int .i64 e] w fun r w'=>r=.panicked (a7l e)/\w'=w:=by
 go_enter Tryz.func73,Tryz.ntmps73
 go_wp2_with fail
 exact⟨rfl,rfl,rfl⟩
open Go.RowKit
theorem a2t{P:Program}{ops:Array Oper}{w:World}{Q:Act->Prop}:∀ (l:List Oper) (a:Act),wpQuiet P ops (fun w'=>w'=w) Q l a->wpStill P ops w Q l a
 | [],_,h=>h
 | o::rest,a,h=>by
  unfold wpQuiet at h
  unfold wpStill
  split
  ·rename_i hw
   rw[if_pos hw] at h
   obtain⟨v,h1,h2⟩:=h
   have h3:=h1 w rfl
   have h4:=a2t rest _ h2
   unfold Oper.quietAt at h3
   unfold Oper.still
   revert h3
   generalize (execOp a.eval o).run P w=r
   intro h3
   unfold Oper.quietUpon at h3
   split at h3
   ·obtain⟨rfl,rfl⟩:=h3
    exact⟨rfl,h4⟩
   ·obtain⟨rfl,rfl⟩:=h3
    exact⟨rfl,h4⟩
   ·obtain⟨rfl,h5⟩:=h3
    exact⟨rfl,v,h5,h4⟩
   ·exact h3.elim
  ·rename_i hw
   rw[if_neg hw] at h
   exact a2t rest _ h
theorem a1x {P:Program} {id:Nat} {Q:Exit->Act->World->Prop} {a:Act} {w:World} {l:List Oper} (n:Nat) (hm:P.follows .mixedOrders=true) (hB:Region.lexTailB .any l.toArray n=true)
  (h:wpQuiet P l.toArray (fun w'=>w'=w.drew) (fun a'=>wpList P l.toArray Q (l.drop n) a' w.drew) (l.take n) a):(Code.region id l.toArray true).wp P Q a w:=
 wp_region_still_tail n hm hB (a2t _ _ h)
open Go.RowKit
theorem a8N(W:World)(v:Value):(Instr.typeAssert (.iface 27 v) 20 27 true).run Tryz.prog W=.ok (.tuple #[v,.bool true]) W:=by kernel_rfl
theorem b0H(O E:Nat)(e:Int)(w:World)(vo ve:Value)(h0:w.cell? ⟨O,0,none⟩=some vo)(h1:w.cell? ⟨E,0,none⟩=some ve)(f0:w.frozen? ⟨O,0,none⟩=false)(f1:w.frozen? ⟨E,0,none⟩=false)(hne:O≠E) :
  CallsD Tryz.prog 72 #[.pointer (some ⟨O,0,none⟩),.pointer (some ⟨E,0,none⟩)] (.panicking (a7l e)) w fun r u' w'=>
   r=.returned (.tuple #[])/\u'=.panicking [{ v:=.iface 27 (.int .i64 e),recovered:=true }]/\w'=(w.setCell ⟨O,0,none⟩ (.slice none 0 0)).setCell ⟨E,0,none⟩ (.int .i64 e):=by
 refine callsD_of_wpS Tryz.func72 rfl fun c₀ cs hu=>?_
 apply wpS_seq
 apply wpS_region
 simp[wpOpsS,go_sem,recoverD,hu,Tryz.ntmps72,Exit.thenS,a7l]
 simp only[Array.replicate_succ,Array.replicate_zero,List.push_toArray,List.append_toArray,List.nil_append,List.cons_append,List.setIfInBounds_toArray,List.set_cons_zero,List.set_cons_succ]
 refine wpS_of_wp ?_
 have hS:(World.setCell w ⟨O,0,none⟩ (.slice none 0 0)).cell? ⟨E,0,none⟩=some ve:=(World.cell?_setCell_other _ _ _ _ (by simpa using hne)).trans h1
 have hF:(World.setCell w ⟨O,0,none⟩ (.slice none 0 0)).frozen? ⟨E,0,none⟩=false:=(World.frozen?_setCell _ _ _ _).trans f1
 have hA:=a8N w (.int .i64 e)
 go_wp2_with fail
 simp[bodyPostS,results,Tryz.results72]
theorem b3n(O E:Nat)(w:World) :
  CallsD Tryz.prog 72 #[.pointer (some ⟨O,0,none⟩),.pointer (some ⟨E,0,none⟩)] .returning w fun r u' w'=>r=.returned (.tuple #[])/\u'=.returning/\w'=w:=by
 refine callsD_of_wpS Tryz.func72 rfl fun c₀ cs hu=>?_
 apply wpS_seq
 apply wpS_region
 simp[wpOpsS,go_sem,recoverD,hu,Tryz.ntmps72,Exit.thenS]
 simp only[Array.replicate_succ,Array.replicate_zero,List.push_toArray,List.append_toArray,List.nil_append,List.cons_append,List.setIfInBounds_toArray,List.set_cons_zero,List.set_cons_succ]
 refine wpS_of_wp ?_
 go_wp2_with fail
 cases c₀
 simp_all [bodyPostS,results,Tryz.results72]
open Go.RowKit
structure WT (t e:TypeId) (k:Nat) where
 z:Value
 bytes:Nat
 info:(Tryz.prog.info? e).map (fun i=>(i.zero,i.size,i.bytes))=some (some z,k,bytes)
 und:Tryz.prog.underlying t=some (.slice e)
 zs:z.cells.size=k
 k0:0<k
 b:bytes<=1000
theorem app_rw {α:Type} {t e:TypeId} {k:Nat} (T:WT t e k) {enc:α->List Value} (he:∀ x,(enc x).length=k) (hone:∀ x,∀ v∈enc x,v.oneCell'=true)
  {ops:Array Oper} {rest:List Oper} {o:Oper} {a:Act} {Q:Exit->Act->World->Prop} {w:World} (hgd:o.guard=none) (s x:Operand)
  (ho:o.op=.call { callee:=.builtin .append,args:=#[s,x],argTypes:=#[t,t] })
  (base:Nat) (v:Value) (n:Nat) (L:List α) (hs:a.eval s=v) (hown:w.ownsRow base e k v n (L.flatMap enc))
  (b:Nat) (p:α) (hx:a.eval x=.slice (some ⟨b,0,none⟩) 1 1) (hc:∀ i,i<k->w.cell? ⟨b,i,none⟩=(enc p)[i]?)
  (hn:n<=1000000000) (hbase:base<=w.heap.size)
  (h:∀ v' w',w'.ownsRow base e k v' (n+1) ((L++[p]).flatMap enc)->w.grownBy w' v.ownBlock->wpList Tryz.prog ops Q rest (a.put o.dst v') w'):wpList Tryz.prog ops Q (o::rest) a w:=by
 obtain⟨i0,hi,hz0,hz1,hz2⟩:=info_parts T.info
 have hb:=T.b
 refine wpList_append_own _ hgd s x t ho base e i0 T.z k T.bytes T.und hi hz0 hz1 hz2 T.zs T.k0 v n (L.flatMap enc) hs hown ⟨b,0,none⟩ 1 1 (enc p) hx (by rw[he];omega) ?_ (hone p) (by unfold maxLen;omega) (by have:(n+1)*T.bytes<=1000000001*1000:=Nat.mul_le_mul (by omega) hb;omega) hbase ?_
 ·intro j u hu
  have hj:j<k:=by rw[<-he p];exact (c1x.1 hu).1
  rw[a0H,hc j hj,hu]
 ·intro v' w' h2 h3 _
  refine h v' w' ?_ h3
  rw[List.flatMap_append]
  simpa using h2
theorem b9R {α:Type} {t e:TypeId} {k:Nat} (T:WT t e k) {enc:α->List Value} (he:∀ x,(enc x).length=k) (hone:∀ x,∀ v∈enc x,v.oneCell'=true)
  {ops:Array Oper} {o:Oper} {a:Act} {K:Act->World->Prop} {Q:Exit->Act->World->Prop} {E:Prop} {w:World} (hgd:o.guard=none) (s x:Operand)
  (ho:o.op=.call { callee:=.builtin .append,args:=#[s,x],argTypes:=#[t,t] })
  (base:Nat) (v:Value) (n:Nat) (L:List α) (hs:a.eval s=v) (hown:w.ownsRow base e k v n (L.flatMap enc))
  (b:Nat) (p:α) (hx:a.eval x=.slice (some ⟨b,0,none⟩) 1 1) (hc:∀ i,i<k->w.cell? ⟨b,i,none⟩=(enc p)[i]?)
  (hn:n<=1000000000) (hbase:base<=w.heap.size)
  (h:∀ g' c' w',w'.ownsRow base e k (.slice (some ⟨g',0,none⟩) (n+1) c') (n+1) ((L++[p]).flatMap enc)->w.grownBy w' v.ownBlock->K (a.put o.dst (.slice (some ⟨g',0,none⟩) (n+1) c')) w') :
  if Region.wanted o (yielded ops a.tmps)=true then Oper.wp Tryz.prog o a w K Q else E:=by
 obtain⟨i0,hi,hz0,hz1,hz2⟩:=info_parts T.info
 have hb:=T.b
 refine step_append_lies _ hgd s x t ho base e i0 T.z k T.bytes T.und hi hz0 hz1 hz2 T.zs T.k0 v n (L.flatMap enc) hs hown ⟨b,0,none⟩ 1 1 (enc p) hx (by rw[he];omega) ?_ (hone p) (by omega) (by unfold maxLen;omega) (by have:(n+1)*T.bytes<=1000000001*1000:=Nat.mul_le_mul (by omega) hb;omega) hbase _ rfl ?_
 ·intro j u hu
  have hj:j<k:=by rw[<-he p];exact (c1x.1 hu).1
  rw[a0H,hc j hj,hu]
 ·intro g' cap w' h2 h3 _ _
  refine h g' cap w' ?_ h3
  rw[List.flatMap_append]
  simpa using h2
theorem a7D(codes bs:List Int)(N:Int)(hN:0<=N):∀ f l q,(l.length:Int)<=N->((stepsF codes bs N f l q).1.length:Int)<=N
 | 0,l,q,h=>h
 | f+1,l,q,h=>by
  rw[stepsF]
  split
  ·exact h
  split
  ·simpa using hN
  split
  ·simpa using hN
  split
  ·simpa using hN
  ·next l' haf=>exact a7D codes bs N hN f l' _ (a4B haf).2.1
theorem a6O(codes bs:List Int)(N:Int):∀ f l q,N<=((l.length+f:Nat):Int)->(stepsF codes bs N f l q).2.2=0->N<=(stepsF codes bs N f l q).1.length
 | 0,l,q,hf,h=>by simpa [stepsF] using hf
 | f+1,l,q,hf,h=>by
  rw[stepsF] at h ⊢
  split
  ·assumption
  next h1=>
  rw[if_neg h1] at h
  split
  ·next h2=>rw[if_pos h2] at h;exact absurd h h2
  next h2=>
  rw[if_neg h2] at h
  split
  ·next h3=>rw[if_pos h3] at h;simp at h
  next h3=>
  rw[if_neg h3] at h
  split
  ·next ha=>rw[ha] at h;simp at h
  ·next l' ha=>
   rw[ha] at h
   have:=(a4B ha).1
   exact a6O codes bs N f l' _ (by omega) h
theorem a9s{bs:List Int}{p:Nat}(h:(headF bs p).2.2.2=0):(headF bs p).1.length=litF bs p/\(headF bs p).2.1.length=distF bs p:=by
 unfold headF at h ⊢
 split
 ·next h1=>rw[if_pos h1] at h;simp at h
 next h1=>
 rw[if_neg h1] at h
 split
 ·next h2=>rw[if_pos h2] at h;simp at h
 next h2=>
 rw[if_neg h2] at h
 split
 ·next h3=>rw[if_pos h3] at h;simp at h
 next h3=>
 rw[if_neg h3] at h
 split
 ·next h4=>rw[if_pos h4] at h;exact absurd h h4
 next h4=>
 rw[if_neg h4] at h
 split
 ·next h5=>rw[if_pos h5] at h;exact absurd h h5
 ·next h5=>
  have hf:=a6O (codesH bs p) bs ((litF bs p+distF bs p:Nat):Int) (litF bs p+distF bs p) [] (p+14+3*a3x bs p) (by simp) (by
   have:(readR bs p).2.2=0:=by omega
   exact this)
  have hl:=a7D (codesH bs p) bs ((litF bs p+distF bs p:Nat):Int) (Int.natCast_nonneg _) (litF bs p+distF bs p) [] (p+14+3*a3x bs p) (by simp;omega)
  change _<=((readR bs p).1.length:Int) at hf
  change ((readR bs p).1.length:Int)<=_ at hl
  simp only[List.length_take,List.length_drop]
  omega
theorem b5q(bs:List Int)(p:Nat):litF bs p<=288:=by
 have:=a0Q bs p 5
 unfold litF
 have e:(2:Int)^5=32:=rfl
 omega
theorem b2u(bs:List Int)(p:Nat):distF bs p<=32:=by
 have:=a0Q bs (p+5) 5
 unfold distF
 have e:(2:Int)^5=32:=rfl
 omega
theorem b4U{h:List Int×List Int×Nat×Int}(he:a0N h=0):h.2.2.2=0/\a0f h.1=0/\(a0X h.2.1=true->a0f h.2.1=0):=by
 have h0:=a5P he
 unfold a0N at he
 rw[if_neg (by rw[h0];simp)] at he
 split at he
 ·simp at he
 split at he
 ·simp at he
 next h2=>
 split at he
 ·simp at he
 next h3=>
 exact⟨h0,by omega,fun hu=>Classical.byContradiction fun hn=>h3 ⟨hu,hn⟩⟩
open Go.RowKit
structure Rdr (w:World) (g:Nat) (A:Option Addr) (c:Nat) (bs:List Int) (p:Nat):Prop where
 blk:Blk w g 204 [.slice A bs.length c,.int .i64 p]
 ri:RI .u8 w A bs.length bs
 off:Off [g] A
 le:p<=8*bs.length
 byte:∀ j,0<=nth bs j/\nth bs j<=255
 size:bs.length<=4000000000
theorem Rdr.lt{w:World}{g:Nat}{A:Option Addr}{c:Nat}{bs:List Int}{p:Nat}(h:Rdr w g A c bs p):g<w.heap.size:=h.blk.lt
theorem Rdr.keeps{S:List Nat}{w w':World}{g:Nat}{A:Option Addr}{c:Nat}{bs:List Int}{p:Nat}(h:Rdr w g A c bs p)(hk:Keeps S w w')(hg:g∉S)(ho:Off S A):Rdr w' g A c bs p:=
 ⟨h.blk.keeps hk hg,h.ri.keeps hk ho,h.off,h.le,h.byte,h.size⟩
theorem Rdr.dr{w w':World}{g:Nat}{A:Option Addr}{c:Nat}{bs:List Int}{p:Nat}(h:Rdr w g A c bs p)(hk:Keeps [] w w'):Rdr w' g A c bs p:=h.keeps hk (by simp) (a0a _)
theorem Rdr.move{w:World}{g:Nat}{A:Option Addr}{c:Nat}{bs:List Int}{p:Nat}(h:Rdr w g A c bs p){q:Nat}(hq:q<=8*bs.length):Rdr (w.setCell ⟨g,1,none⟩ (.int .i64 q)) g A c bs q:=
 ⟨h.blk.set 1 (.int .i64 q),h.ri.keeps ((Keeps.refl [g] w).setCell (Or.inl (by simp)) _) h.off,h.off,hq,h.byte,h.size⟩
theorem a7t(w:World)(g:Nat)(A:Option Addr)(c:Nat)(bs:List Int)(p:Nat)(hr:Rdr w g A c bs p) :
  Calls Tryz.prog 176 #[.pointer (some ⟨g,0,none⟩)] w fun e w'=>e=.returned (.int .i64 ((8*bs.length-p:Nat):Int))/\Dr w w':=by
 have hb:=hr.blk
 have h0:=hb.cell 0
 have h1:=hb.cell 1
 simp only[c1s,c1C] at h0 h1
 have hl:=hr.le
 have hs:=hr.size
 clear hb hr
 go_enter Tryz.func176,Tryz.ntmps176
 go_wp2
 go_quiet (fail)
 go_wp2
 go_ret
 rw[show ((8*bs.length-p:Nat):Int)=8*(bs.length:Int)-(p:Int) by omega]
 exact⟨rfl,_,rfl⟩
theorem a4H(w:World)(g:Nat)(A:Option Addr)(c:Nat)(bs:List Int)(p:Nat)(hr:Rdr w g A c bs p) :
  Calls Tryz.prog 107 #[.pointer (some ⟨g,0,none⟩)] w fun e w'=>e=.returned (.int .i64 p)/\Dr w w':=by
 have hb:=hr.blk
 have h1:=hb.cell 1
 simp only[c1s,c1C] at h1
 clear hb hr
 go_enter Tryz.func107,Tryz.ntmps107
 go_wp2
 go_ret
 exact⟨rfl,0,rfl⟩
theorem a4D(w:World)(g:Nat)(A:Option Addr)(c:Nat)(bs:List Int)(p n:Nat)(hr:Rdr w g A c bs p)(hn:n<=p) :
  Calls Tryz.prog 178 #[.pointer (some ⟨g,0,none⟩),.int .i64 n] w fun e w'=>e=.returned (.int .i64 0)/\Rdr w' g A c bs (p-n)/\Keeps [g] w w':=by
 have hb:=hr.blk
 have h1:=hb.cell 1
 simp only[c1s,c1C] at h1
 have hf:=hb.frozen 1
 have hl:=hr.le
 have hs:=hr.size
 have HR:=c1n hr
 clear hb hr
 have e1:decide ((n:Int)<0)=false:=by simp
 have e2:decide ((p:Int)<(n:Int))=false:=by simp;omega
 have e3:IntKind.i64.wrap ((p:Int)-(n:Int))=(p:Int)-(n:Int):=c1r _ (by omega)
 go_enter Tryz.func178,Tryz.ntmps178
 have E:Hid ((p:Int)-(n:Int)=((p-n:Nat):Int)):=by show _=_;omega
 go_wp2
 go_ret
 rw[E.out]
 exact⟨rfl,HR.out.move (by omega),(Keeps.refl _ _).setCell (Or.inl (by simp)) _⟩
theorem b0D(w:World)(g:Nat)(A:Option Addr)(c:Nat)(bs:List Int)(p n:Nat)(ni:Int)(hni:ni=n)(hr:Rdr w g A c bs p)(hn:n<=p) :
  Calls Tryz.prog 178 #[.pointer (some ⟨g,0,none⟩),.int .i64 ni] w fun e w'=>e=.returned (.int .i64 0)/\Rdr w' g A c bs (p-n)/\Keeps [g] w w':=by
 subst hni
 exact a4D w g A c bs p n hr hn
theorem a5C(w:World)(g:Nat)(A:Option Addr)(c:Nat)(bs:List Int)(p m:Nat)(hr:Rdr w g A c bs p)(hm:m<=32)(hf:8*bs.length<p+m) :
  Calls Tryz.prog 160 #[.pointer (some ⟨g,0,none⟩),.int .i64 m] w fun e w'=>e=.returned (.tuple #[.int .u32 0,.int .i64 10])/\Dr w w':=by
 have e1:decide ((m:Int)<0)=false:=by simp
 have e2:decide ((32:Int)<(m:Int))=false:=by simp;omega
 have HR:=c1n hr
 have hl:=hr.le
 clear hr
 go_enter Tryz.func160,Tryz.ntmps160
 go_wp2_with fail
 refine (a7t _ _ _ _ _ _ HR.out).mono ?_
 rintro e w' ⟨rfl,q,rfl⟩
 have e3:decide (8*bs.length-p<m)=true:=by simp;omega
 go_wp2_with fail
 go_ret2
 exact⟨rfl,_,rfl⟩
theorem a3w(w:World)(g:Nat)(A:Option Addr)(c:Nat)(bs:List Int)(p m:Nat)(hr:Rdr w g A c bs p)(hm:m<=32)(hf:p+m<=8*bs.length) :
  Calls Tryz.prog 160 #[.pointer (some ⟨g,0,none⟩),.int .i64 m] w fun e w'=>e=.returned (.tuple #[.int .u32 (numB bs p m),.int .i64 0])/\Rdr w' g A c bs (p+m)/\Keeps [g] w w':=by
 have e1:decide ((m:Int)<0)=false:=by simp
 have e2:decide ((32:Int)<(m:Int))=false:=by simp;omega
 have HR:=c1n hr
 have hl:=hr.le
 have hsz:=hr.size
 clear hr
 go_enter Tryz.func160,Tryz.ntmps160
 go_wp2_with fail
 refine (a7t _ _ _ _ _ _ HR.out).mono ?_
 rintro e w' ⟨rfl,hd⟩
 have HR1:=c1n (HR.out.dr hd.keeps)
 have HD:=c1n hd
 have e3:decide (8*bs.length-p<m)=false:=by simp;omega
 clear hd HR
 go_wp2_with fail
 clear e1 e2 e3
 go_loopw [6,7] (fun v6 v7 wr=>∃ h:Nat,h<=m/\v6=.int .u64 (numB bs p h)/\v7=.int .i64 h/\Hid (Rdr wr g A c bs (p+h))/\Hid (Keeps [g] w' wr)) (fun _ v7 _=>(m-intOf v7).toNat)
 case atStart=>exact⟨0,by omega,rfl,rfl,HR1,c1n (Keeps.refl _ _)⟩
 case round=>
  clear HR1
  obtain⟨h,hh,rfl,rfl,HR,HK⟩:=hrel
  by_cases hlt:h<m
  ·have hb:=HR.out.blk
   have hri:=HR.out.ri
   have h0:=hb.cell 0
   have h1:=hb.cell 1
   simp only[c1s,c1C] at h0 h1
   have hfz:=hb.frozen 1
   obtain⟨b,o,rfl,hbyte⟩:=hri.at (show (p+h)/8<bs.length by omega)
   have hbb:=HR.out.byte ((p+h)/8)
   have hc1:((p+h:Nat):Int)=(p:Int)+(h:Int):=by omega
   rw[hc1] at h1
   clear hb hri hc1
   obtain⟨k,hk⟩:∃ k:Nat,(if 8-((p:Int)+h)%8<(m:Int)-h then 8-((p:Int)+h)%8 else (m:Int)-h)=(k:Int):=⟨min (m-h) (8-(p+h)%8),by split<;>omega⟩
   have hk1:1<=k:=by split at hk<;>omega
   have hk8:(p+h)%8+k<=8:=by split at hk<;>omega
   have hkm:h+k<=m:=by split at hk<;>omega
   have HKK:=c1n hk
   have s1:((p:Int)+h).toNat=p+h:=by omega
   have s2:(((p:Int)+h)/8).toNat=(p+h)/8:=by omega
   have s3:(0:Int)<=((p:Int)+h)/8:=by omega
   have s4:((p:Int)+h)/8<(bs.length:Int):=by omega
   have s5:(0:Int)<=((p:Int)+h)%8:=by omega
   have s6:((p:Int)+h)%8<8:=by omega
   have s7:(0:Int)<=(p:Int)+h:=by omega
   go_upto_region 11 with (fail)
   clear hk
   go_quiet (fail)
   have T:=c1n (b6q bs p h k hbb hk8 (by omega))
   go_upto_region 14 with (fail)
   rw[T.out]
   have E:Hid ((p:Int)+h+k=((p+(h+k):Nat):Int)):=by show _=_;omega
   have e4:IntKind.i64.wrap ((p:Int)+h+k)=(p:Int)+h+k:=c1r _ (by omega)
   go_wp2_with fail
   go_roundw
   case rel=>
    refine⟨h+k,hkm,rfl,by go_num,c1n ?_,c1n ?_⟩
    ·rw[E.out];exact (Rdr.dr HR.out (by repeat (first|exact Keeps.refl _ _|apply Keeps.drewN|apply Keeps.drew))).move (by omega)
    ·exact (HK.out.trans (by repeat (first|exact Keeps.refl _ _|apply Keeps.drewN|apply Keeps.drew))).setCell (Or.inl (by simp)) _
   case measure=>simp[intOf];omega
  ·obtain rfl:h=m:=by omega
   have E:=c1n (b9F bs p h hm)
   go_wp2_with fail
   go_ret2
   rw[E.out]
   exact⟨rfl,HR.out,(HD.out.keeps (S:=[g])).trans HK.out⟩
open Go.RowKit
theorem b3K (w:World) (g:Nat) (A:Option Addr) (n c:Nat) (bs:List Int) (hb:Blk w g 204 [.slice none 0 0,.int .i64 0]) (hr:RI .u8 w A n bs) (hnil:A=none->n=0/\c=0)
  (hbyte:∀ j,0<=nth bs j/\nth bs j<=255) (hn:n<=4000000000) :
  Calls Tryz.prog 141 #[.pointer (some ⟨g,0,none⟩),.slice A n c] w fun e w'=>∃ A' c',e=.returned (.int .i64 0)/\Rdr w' g A' c' bs 0/\(∀ a,A'=some a->g<a.block/\a.block<w'.heap.size)/\Below g w w':=by
 have h0:=hb.cell 0
 simp only[c1s] at h0
 have hf:=hb.frozen 0
 have hlt:=hb.lt
 have HB:=c1n hb
 have HR:=c1n hr
 have HN:=c1n hnil
 have HBY:=c1n hbyte
 clear hb hr hnil hbyte
 go_enter Tryz.func141,Tryz.ntmps141
 go_wp2_with (at_builtin;refine a2S rfl (.tmp 11) (.tmp 12) rfl (g+1) _ _ [] rfl (c1A _ _ _ _) A n c bs rfl HR.out HN.out (by omega) hlt ?_)
 intro v1 w1 h1 hg1
 have hb1:Blk w1 g 204 [.slice none 0 0,.int .i64 0]:=(hg1.block g hlt (by simp[Value.ownBlock])).trans HB.out
 have c0:=hb1.cell 0
 simp only[c1s] at c0
 have f0:=hb1.frozen 0
 obtain⟨A1,c1,rfl,hri,hcap,hblk⟩:=a0B h1
 have HB1:=c1n hb1
 have HRI:=c1n hri
 have HBK:=c1n hblk
 have HG:=c1n hg1
 clear hb1 hri hblk hg1 h1
 go_wp2_with fail
 go_ret
 have hl:=HR.out.len
 refine⟨A1,c1,rfl,⟨?_,?_,?_,by simp,HBY.out,by omega⟩,fun a ha=>⟨(HBK.out a ha).1,by have:=(HBK.out a ha).2.1;simpa [World.setCell] using this⟩,?_⟩
 ·rw[hl];exact HB1.out.set 0 _
 ·rw[hl]
  exact HRI.out.keeps ((Keeps.refl [g] w1).setCell (Or.inl (by simp)) _) (fun a ha=>by have:=(HBK.out a ha).1;simp;omega)
 ·intro a ha;have:=(HBK.out a ha).1;simp;omega
 ·exact ((Below.refl g w).grown HG.out (Nat.le_of_lt hlt) (fun k hk=>by simp[Value.ownBlock] at hk)).setCell (p:=⟨g,0,none⟩) (c1F g) _
theorem a6o (w:World) (A:Option Addr) (n c:Nat) (bs:List Int) (hr:RI .u8 w A n bs) (hnil:A=none->n=0/\c=0)
  (hbyte:∀ j,0<=nth bs j/\nth bs j<=255) (hn:n<=4000000000) :
  Calls Tryz.prog 127 #[.slice A n c] w fun e w'=>∃ g A' c',e=.returned (.pointer (some ⟨g,0,none⟩))/\Rdr w' g A' c' bs 0/\w.heap.size<=g/\(∀ a,A'=some a->g<a.block/\a.block<w'.heap.size)/\Below w.heap.size w w':=by
 have HR:=c1n hr
 have HN:=c1n hnil
 have HBY:=c1n hbyte
 clear hr hnil hbyte
 go_enter Tryz.func127,Tryz.ntmps127
 go_wp2_with fail
 refine (b3K _ _ _ _ _ bs (a0d w 204 [.slice none 0 0,.int .i64 0]) (HR.out.keeps ((Keeps.refl _ _).alloc _) (a0a _)) HN.out HBY.out hn).mono ?_
 rintro e w1 ⟨A1,c1,rfl,hrd,hab,hb⟩
 have HRD:=c1n hrd
 have HB:=c1n hb
 have HAB:=c1n hab
 clear hrd hb hab
 go_wp2_with fail
 go_ret
 exact⟨_,_,_,rfl,HRD.out,c1F _,HAB.out,((Below.refl _ w).alloc (c1F _) _).trans HB.out⟩
open Go.RowKit
structure Box (w:World) (b:Nat) (v:Value):Prop where
 cell:w.cell? ⟨b,0,none⟩=some v
 free:w.frozen? ⟨b,0,none⟩=false
theorem Box.lt{w:World}{b:Nat}{v:Value}(h:Box w b v):b<w.heap.size:=World.block_lt_of_cell? _ _ h.cell
theorem Box.keeps{S:List Nat}{w w':World}{b:Nat}{v:Value}(h:Box w b v)(hk:Keeps S w w')(hn:b∉S):Box w' b v:=
 ⟨hk.cell (p:=⟨b,0,none⟩) hn h.cell,(hk.frozen (p:=⟨b,0,none⟩) h.lt hn).trans h.free⟩
theorem Box.set{w:World}{b:Nat}{v:Value}(h:Box w b v)(u:Value):Box (w.setCell ⟨b,0,none⟩ u) b u:=
 ⟨World.cell?_setCell_same' _ _ _ (by rw[h.cell];rfl),by simpa using h.free⟩
structure Hd (w:World) (rb eb g:Nat) (A:Option Addr) (c:Nat) (bs:List Int) (p:Nat) (e:Int):Prop where
 rd:Rdr w g A c bs p
 bxr:Box w rb (.pointer (some ⟨g,0,none⟩))
 bxe:Box w eb (.int .i64 e)
 hgr:g<rb
 hre:rb<eb
 ha:∀ a,A=some a->a.block<rb
theorem Hd.offE{w:World}{rb eb g:Nat}{A:Option Addr}{c:Nat}{bs:List Int}{p:Nat}{e:Int}(h:Hd w rb eb g A c bs p e):Off [eb] A:=by
 intro a ha;have:=h.ha a ha;have:=h.hre;simp;omega
theorem Hd.take{w w':World}{rb eb g:Nat}{A:Option Addr}{c:Nat}{bs:List Int}{p q:Nat}{e:Int}(h:Hd w rb eb g A c bs p e)(hr:Rdr w' g A c bs q)(hk:Keeps [g] w w'):Hd w' rb eb g A c bs q e:=
 ⟨hr,h.bxr.keeps hk (by have:=h.hgr;simp;omega),h.bxe.keeps hk (by have:=h.hgr;have:=h.hre;simp;omega),h.hgr,h.hre,h.ha⟩
theorem Hd.keeps{S:List Nat}{w w':World}{rb eb g:Nat}{A:Option Addr}{c:Nat}{bs:List Int}{p:Nat}{e:Int}(h:Hd w rb eb g A c bs p e)(hk:Keeps S w w')(h1:g∉S)(h2:rb∉S)(h3:eb∉S)(h4:Off S A):Hd w' rb eb g A c bs p e:=
 ⟨h.rd.keeps hk h1 h4,h.bxr.keeps hk h2,h.bxe.keeps hk h3,h.hgr,h.hre,h.ha⟩
theorem Hd.set{w:World}{rb eb g:Nat}{A:Option Addr}{c:Nat}{bs:List Int}{p:Nat}{e:Int}(h:Hd w rb eb g A c bs p e)(e':Int):Hd (w.setCell ⟨eb,0,none⟩ (.int .i64 e')) rb eb g A c bs p e':=
 have hk:Keeps [eb] w (w.setCell ⟨eb,0,none⟩ (.int .i64 e')):=(Keeps.refl _ _).setCell (Or.inl (by simp)) _
 ⟨h.rd.keeps hk (by have:=h.hgr;have:=h.hre;simp;omega) h.offE,h.bxr.keeps hk (by have:=h.hre;simp;omega),h.bxe.set _,h.hgr,h.hre,h.ha⟩
theorem b7X(w:World)(rb eb g:Nat)(A:Option Addr)(c:Nat)(bs:List Int)(p n:Nat)(e:Int)(h:Hd w rb eb g A c bs p e)(hn:n<=32)(hf:p+n<=8*bs.length) :
  Calls Tryz.prog 183 #[.int .i64 n,.pointer (some ⟨rb,0,none⟩),.pointer (some ⟨eb,0,none⟩)] w fun r w'=>r=.returned (.int .i64 (numB bs p n))/\Hd w' rb eb g A c bs (p+n) e/\Keeps [g,eb] w w':=by
 have c1:=h.bxr.cell
 have H:=c1n h
 clear h
 have hb:=a0Q bs p n
 have hb2:=b7U n hn
 have e1:IntKind.i64.wrap (numB bs p n)=numB bs p n:=c1r _ (by omega)
 go_enter Tryz.func183,Tryz.ntmps183
 go_wp2_with fail
 refine (a3w _ _ _ _ _ _ _ H.out.rd hn hf).mono ?_
 rintro r w' ⟨rfl,hr2,hk⟩
 have h2:=H.out.take hr2 hk
 have c2:=h2.bxe.cell
 have f2:=h2.bxe.free
 have H2:=c1n h2
 have HK:=c1n hk
 clear hr2 hk c1 h2 H
 by_cases he:e=0
 ·subst he
  go_wp2_with fail
  go_ret
  exact⟨rfl,H2.out.set 0,(HK.out.mono (by simp)).setCell (Or.inl (by simp)) _⟩
 ·have e2:(e==0)=false:=by simpa using he
  go_wp2_with fail
  go_ret
  exact⟨rfl,H2.out,HK.out.mono (by simp)⟩
theorem b5S(w:World)(rb eb g:Nat)(A:Option Addr)(c:Nat)(bs:List Int)(p n:Nat)(e:Int)(h:Hd w rb eb g A c bs p e)(hn:n<=32)(hf:8*bs.length<p+n) :
  Calls Tryz.prog 183 #[.int .i64 n,.pointer (some ⟨rb,0,none⟩),.pointer (some ⟨eb,0,none⟩)] w fun r w'=>r=.returned (.int .i64 0)/\Hd w' rb eb g A c bs p (if e=0 then 10 else e)/\Keeps [g,eb] w w':=by
 have c1:=h.bxr.cell
 have H:=c1n h
 clear h
 go_enter Tryz.func183,Tryz.ntmps183
 go_wp2_with fail
 refine (a5C _ _ _ _ _ _ _ H.out.rd hn hf).mono ?_
 rintro r w' ⟨rfl,hk⟩
 have h2:=H.out.keeps hk.keeps (S:=[]) (by simp) (by simp) (by simp) (a0a _)
 have c2:=h2.bxe.cell
 have f2:=h2.bxe.free
 have H2:=c1n h2
 have HK:=c1n hk
 clear hk c1 h2 H
 by_cases he:e=0
 ·subst he
  go_wp2_with fail
  go_ret
  exact⟨rfl,by first|exact H2.out.set 10|(rw[if_pos rfl];exact H2.out.set 10),(HK.out.keeps).setCell (Or.inl (by simp)) _⟩
 ·have e2:(e==0)=false:=by simpa using he
  go_wp2_with fail
  go_ret
  exact⟨rfl,by first|exact H2.out|(rw[if_neg he];exact H2.out),HK.out.keeps⟩
open Go.RowKit
open Go.RowKit
def setL(cs:List Value):Nat->List Value->List Value
 | _,[]=>cs
 | o,v::r=>setL (cs.set o v) (o+1) r
theorem a8y:∀ (vs a old b:List Value),old.length=vs.length->setL (a++(old++b)) a.length vs=a++(vs++b)
 | [],a,old,b,h=>by
  obtain rfl:=c1w (by simpa using h)
  rfl
 | v::r,a,[],b,h=>by simp at h
 | v::r,a,x::old,b,h=>by
  have e:(a++(x::old++b)).set a.length v=(a++[v])++(old++b):=by simp
  rw[setL,e]
  have:=a8y r (a++[v]) old b (by simpa using h)
  rw[show (a++[v]).length=a.length+1 by simp] at this
  rw[this];simp
theorem Blk.there{w:World}{g:Nat}{t:TypeId}{cs:List Value}(h:Blk w g t cs)(o n:Nat)(ho:o+n<=cs.length):w.there g o n:=fun j hj=>by
 rw[h.cell]
 refine⟨?_,h.frozen _⟩
 rw[c1y (by omega)];rfl
theorem Blk.setCells{g:Nat}{t:TypeId}:∀ (vs:List Value) (w:World) (cs:List Value) (o:Nat),Blk w g t cs->Blk (w.setCells g o vs) g t (setL cs o vs)
 | [],w,cs,o,h=>h
 | v::r,w,cs,o,h=>by
  rw[World.setCells,setL]
  exact Blk.setCells r _ _ _ (h.set o v)
theorem Keeps.setCells{S:List Nat}{w0:World}{g:Nat}(hp:g∈S∨w0.heap.size<=g):∀ (vs:List Value) (w:World) (o:Nat),Keeps S w0 w->Keeps S w0 (w.setCells g o vs)
 | [],w,o,h=>h
 | v::r,w,o,h=>by
  rw[World.setCells]
  exact Keeps.setCells hp r _ _ (h.setCell (p:=⟨g,o,none⟩) hp v)
def a2c(cd ct az:List Int)(v:Value)(L:Int):List Value:=ints .i64 cd++(ints .i64 ct++(ints .i64 az++[v,.int .i64 L]))
def DB(w:World)(g:Nat)(cd ct az:List Int)(v:Value)(L:Int):Prop:=cd.length=16/\ct.length=16/\az.length=16/\Blk w g 247 (a2c cd ct az v L)
theorem DB.lt{w:World}{g:Nat}{cd ct az:List Int}{v:Value}{L:Int}(h:DB w g cd ct az v L):g<w.heap.size:=h.2.2.2.lt
theorem DB.keeps{S:List Nat}{w w':World}{g:Nat}{cd ct az:List Int}{v:Value}{L:Int}(h:DB w g cd ct az v L)(hk:Keeps S w w')(hn:g∉S):DB w' g cd ct az v L:=
 ⟨h.1,h.2.1,h.2.2.1,h.2.2.2.keeps hk hn⟩
theorem DB.code{w:World}{g:Nat}{cd ct az:List Int}{v:Value}{L:Int}(h:DB w g cd ct az v L){j:Nat}(hj:j<16):w.cell? ⟨g,j,none⟩=some (.int .i64 (nth cd j)):=by
 obtain⟨h1,h2,h3,h4⟩:=h
 rw[h4.cell,a2c,c1D (by simp[ints];omega),a0e,a0q (by omega),c1y (by omega)];rfl
theorem DB.count{w:World}{g:Nat}{cd ct az:List Int}{v:Value}{L:Int}(h:DB w g cd ct az v L){j:Nat}(hj:j<16):w.cell? ⟨g,16+j,none⟩=some (.int .i64 (nth ct j)):=by
 obtain⟨h1,h2,h3,h4⟩:=h
 have e:(ints .i64 cd).length=16:=by simp[ints,h1]
 rw[h4.cell,a2c,c1p (by omega),e,show 16+j-16=j by omega,c1D (by simp[ints];omega),a0e,a0q (by omega),c1y (by omega)];rfl
theorem DB.at{w:World}{g:Nat}{cd ct az:List Int}{v:Value}{L:Int}(h:DB w g cd ct az v L){j:Nat}(hj:j<16):w.cell? ⟨g,32+j,none⟩=some (.int .i64 (nth az j)):=by
 obtain⟨h1,h2,h3,h4⟩:=h
 have e:(ints .i64 cd).length=16:=by simp[ints,h1]
 have e2:(ints .i64 ct).length=16:=by simp[ints,h2]
 rw[h4.cell,a2c,c1p (by omega),e,c1p (by omega),e2,show 32+j-16-16=j by omega,c1D (by simp[ints];omega),a0e,a0q (by omega),c1y (by omega)];rfl
theorem DB.syms{w:World}{g:Nat}{cd ct az:List Int}{v:Value}{L:Int}(h:DB w g cd ct az v L):w.cell? ⟨g,48,none⟩=some v/\w.cell? ⟨g,49,none⟩=some (.int .i64 L):=by
 obtain⟨h1,h2,h3,h4⟩:=h
 have e:(ints .i64 cd).length=16:=by simp[ints,h1]
 have e2:(ints .i64 ct).length=16:=by simp[ints,h2]
 have e3:(ints .i64 az).length=16:=by simp[ints,h3]
 constructor
 ·rw[h4.cell,a2c,c1p (by omega),e,c1p (by omega),e2,c1p (by omega),e3];rfl
 ·rw[h4.cell,a2c,c1p (by omega),e,c1p (by omega),e2,c1p (by omega),e3];rfl
theorem DB.free{w:World}{g:Nat}{cd ct az:List Int}{v:Value}{L:Int}(h:DB w g cd ct az v L)(j:Nat):w.frozen? ⟨g,j,none⟩=false:=h.2.2.2.frozen j
theorem DB.setAt{w:World}{g:Nat}{cd ct az:List Int}{v:Value}{L:Int}(h:DB w g cd ct az v L){j:Nat}(hj:j<16)(x:Int):DB (w.setCell ⟨g,32+j,none⟩ (.int .i64 x)) g cd ct (az.set j x) v L:=by
 obtain⟨h1,h2,h3,h4⟩:=h
 have e:(ints .i64 cd).length=16:=by simp[ints,h1]
 have e2:(ints .i64 ct).length=16:=by simp[ints,h2]
 have e3:(ints .i64 az).length=16:=by simp[ints,h3]
 refine⟨h1,h2,by simp[h3],?_⟩
 have:=h4.set (32+j) (.int .i64 x)
 unfold a2c at this ⊢
 rw[c1q _ _ (by omega),e,c1q _ _ (by omega),e2,show 32+j-16-16=j by omega,List.set_append_left _ _ (by omega)] at this
 simpa [ints,List.map_set] using this
theorem DB.setSyms{w:World}{g:Nat}{cd ct az:List Int}{v:Value}{L:Int}(h:DB w g cd ct az v L)(v':Value):DB (w.setCell ⟨g,48,none⟩ v') g cd ct az v' L:=by
 obtain⟨h1,h2,h3,h4⟩:=h
 have e:(ints .i64 cd).length=16:=by simp[ints,h1]
 have e2:(ints .i64 ct).length=16:=by simp[ints,h2]
 have e3:(ints .i64 az).length=16:=by simp[ints,h3]
 refine⟨h1,h2,h3,?_⟩
 have:=h4.set 48 v'
 unfold a2c at this ⊢
 rw[c1q _ _ (by omega),e,c1q _ _ (by omega),e2,c1q _ _ (by omega),e3] at this
 exact this
theorem DB.setLong{w:World}{g:Nat}{cd ct az:List Int}{v:Value}{L:Int}(h:DB w g cd ct az v L)(x:Int):DB (w.setCell ⟨g,49,none⟩ (.int .i64 x)) g cd ct az v x:=by
 obtain⟨h1,h2,h3,h4⟩:=h
 have e:(ints .i64 cd).length=16:=by simp[ints,h1]
 have e2:(ints .i64 ct).length=16:=by simp[ints,h2]
 have e3:(ints .i64 az).length=16:=by simp[ints,h3]
 refine⟨h1,h2,h3,?_⟩
 have:=h4.set 49 (.int .i64 x)
 unfold a2c at this ⊢
 rw[c1q _ _ (by omega),e,c1q _ _ (by omega),e2,c1q _ _ (by omega),e3] at this
 exact this
theorem DB.start{w:World}{g:Nat}{Z:List Value}(hZ:Z=a2c (List.replicate 16 0) (List.replicate 16 0) (List.replicate 16 0) (.slice none 0 0) 0)(h:Blk w g 247 Z)(cd ct:List Int)(h1:cd.length=16)(h2:ct.length=16) :
  w.there g 0 (ints .i64 cd).toArray.size/\(w.setCells g 0 (ints .i64 cd)).there g 16 (ints .i64 ct).toArray.size/\DB ((w.setCells g 0 (ints .i64 cd)).setCells g 16 (ints .i64 ct)) g cd ct (List.replicate 16 0) (.slice none 0 0) 0:=by
 subst hZ
 have e:(ints .i64 cd).length=16:=by simp[ints,h1]
 have e2:(ints .i64 ct).length=16:=by simp[ints,h2]
 have a:=Blk.setCells (ints .i64 cd) w _ 0 h
 have b:=a8y (ints .i64 cd) [] (ints .i64 (List.replicate 16 0)) (ints .i64 (List.replicate 16 0)++(ints .i64 (List.replicate 16 0)++[.slice none 0 0,.int .i64 0])) (by rw[e];simp[ints])
 rw[show setL (a2c (List.replicate 16 0) (List.replicate 16 0) (List.replicate 16 0) (.slice none 0 0) 0) 0 (ints .i64 cd)=_ from b] at a
 rw[List.nil_append] at a
 have c:=Blk.setCells (ints .i64 ct) _ _ 16 a
 have d:=a8y (ints .i64 ct) (ints .i64 cd) (ints .i64 (List.replicate 16 0)) (ints .i64 (List.replicate 16 0)++[.slice none 0 0,.int .i64 0]) (by rw[e2];simp[ints])
 rw[e] at d
 rw[d] at c
 refine⟨h.there _ _ ?_,a.there _ _ ?_,h1,h2,by simp,c⟩
 ·simp[a2c,ints,h1]
 ·simp[ints,h1,h2]
open Go.RowKit
theorem a1N{w:World}{base:Nat}{e:TypeId}{size n:Nat}{v:Value}{xs:List Value}(h:w.ownsRow base e size v n xs):∃ A c,v=.slice A n c:=by
 rcases h.2 with⟨rfl,rfl⟩|⟨g,cap,cur,rfl,_⟩
 ·exact⟨_,_,rfl⟩
 ·exact⟨_,_,rfl⟩
def DSt(w:World)(g:Nat)(l:List Int)(a:Nat)(S:List Int)(L:Int):Prop:=
 ∃ v,DB w g (lowL (lenCnt l) 16) (lenCnt l) (atL l a) v L/\w.ownsRow (g+1) 3 1 v S.length (ints .i64 S)
def Dec(w:World)(g:Nat)(l:List Int):Prop:=DSt w g l 16 (symsB l 16) (longN l 16)
theorem DSt.keeps{w w':World}{g a:Nat}{l S:List Int}{L:Int}{K:List Nat}(h:DSt w g l a S L)(hk:Keeps K w w')(hK:∀ x∈K,x<g∨w.heap.size<=x):DSt w' g l a S L:=by
 obtain⟨v,h1,h2⟩:=h
 refine⟨v,h1.keeps hk (fun hm=>by have:=h1.lt;rcases hK g hm with h|h<;>omega),a0b h2 hk fun x hx hm=>?_⟩
 have a:=a0m h2 x hx
 have b:=a3g h2 x hx
 rcases hK x hm with h|h<;>omega
theorem DSt.at'{w:World}{g a:Nat}{l S:List Int}{L:Int}(h:DSt w g l a S L)(j:Nat)(hj:j<16)(x:Int)(as':List Int)(ha:(atL l a).set j x=atL l as'.length):DSt (w.setCell ⟨g,32+j,none⟩ (.int .i64 x)) g l as'.length S L:=by
 obtain⟨v,h1,h2⟩:=h
 refine⟨v,?_,a0b h2 (S:=[g]) ((Keeps.refl [g] w).setCell (Or.inl (by simp)) _) fun x hx hm=>?_⟩
 ·have:=h1.setAt hj x;rwa [ha] at this
 ·have a:=a0m h2 x hx
  rw[c1o.1 hm] at a;omega
def Made(w:World)(l:List Int)(e:Ending)(w':World):Prop:=
 Below w.heap.size w w'/\if a0f l=0 then ∃ g,e=.returned (.tuple #[.pointer (some ⟨g,0,none⟩),.int .i64 0])/\Dec w' g l/\w.heap.size<=g
 else e=.returned (.tuple #[.pointer none,.int .i64 (a0f l)])
theorem b7C{w w':World}{l:List Int}{e:Int}(hc:¬a0f l=0)(he:e=a0f l)(h:Below w.heap.size w w'):Made w l (.returned (.tuple #[.pointer none,.int .i64 e])) w':=by
 subst he
 exact⟨h,by rw[if_neg hc]⟩
theorem b9D{w w':World}{l:List Int}{g:Nat}(hc:a0f l=0)(h:Below w.heap.size w w')(hd:Dec w' g l)(hg:w.heap.size<=g):Made w l (.returned (.tuple #[.pointer (some ⟨g,0,none⟩),.int .i64 0])) w':=
 ⟨h,by rw[if_pos hc];exact⟨g,rfl,hd,hg⟩⟩
theorem a6p(w:World)(A:Option Addr)(n c:Nat)(l:List Int)(hl:RI .i64 w A n l)(hn:n<=140737488355328) :
  Calls Tryz.prog 164 #[.slice A n c] w (Made w l):=by
 have HL:=c1n hl
 have HLL:=c1n hl.len
 clear hl
 go_enter Tryz.func164,Tryz.ntmps164
 go_wp2_with fail
 refine (a2C _ _ _ _ l HL.out hn).mono ?_
 rintro _ w1 ⟨rfl,hd⟩
 have HD:=c1n hd
 clear hd
 by_cases hc:a0f l=0
 ·have e1:(a0f l !=0)=false:=by simp[hc]
  have HC:=c1n hc
  have hok:=a5r hc
  have HOK:=c1n hok.2
  have hn288:n<=288:=by rw[<-HLL.out];exact hok.1
  have HL1:=c1n (HL.out.keeps (HD.out.keeps (S:=[])) (a0a _))
  have HB1:=c1n (HD.out.keeps (S:=[])).below
  clear hc hok
  go_upto_region 5 with fail
  obtain⟨wz,hwz⟩:∃ wz,wz=(w1.alloc (.cells (a2c (List.replicate 16 0) (List.replicate 16 0) (List.replicate 16 0) (.slice none 0 0) 0).toArray 247)):=⟨_,rfl⟩
  change Code.wp _ _ _ _ (w1.alloc (.cells (a2c (List.replicate 16 0) (List.replicate 16 0) (List.replicate 16 0) (.slice none 0 0) 0).toArray 247))
  obtain⟨g,hg⟩:∃ g,g=w1.heap.size:=⟨_,rfl⟩
  rw[<-hg,<-hwz]
  have HZ:Hid (Blk wz g 247 (a2c (List.replicate 16 0) (List.replicate 16 0) (List.replicate 16 0) (.slice none 0 0) 0)):=by rw[hwz,hg];exact a0d w1 _ _
  have HKZ:Hid (Keeps [] w wz):=by rw[hwz];exact c1n ((HD.out.keeps (S:=[])).alloc _)
  have HG:Hid (w.heap.size<=g):=by rw[hg];exact c1n HB1.out.size
  have HL2:=c1n (HL.out.keeps HKZ.out (a0a _))
  clear hg hwz HL1 HB1
  go_wp2_with fail
  refine (a5U _ _ _ _ l HL2.out hn288 HOK.out).mono ?_
  rintro _ w2 ⟨rfl,hb⟩
  have HBZ:=c1n (HZ.out.keeps (Keeps.of_below (S:=[]) hb) (by simp))
  have HK2:=c1n (HKZ.out.trans ((Keeps.of_below (S:=[]) hb)))
  clear hb HZ HKZ HL2
  obtain⟨t1,t2,db⟩:=DB.start rfl HBZ.out (lowL (lenCnt l) 16) (lenCnt l) (a4d _ _) (a1w _)
  have hk3:Keeps [] w ((w2.setCells g 0 (ints .i64 (lowL (lenCnt l) 16))).setCells g 16 (ints .i64 (lenCnt l))):=Keeps.setCells (.inr HG.out) _ _ _ (Keeps.setCells (.inr HG.out) _ _ _ HK2.out)
  obtain⟨ca,hca⟩:∃ ca:Array Value,ca=(ints .i64 (lowL (lenCnt l) 16)).toArray:=⟨_,rfl⟩
  obtain⟨cb,hcb⟩:∃ cb:Array Value,cb=(ints .i64 (lenCnt l)).toArray:=⟨_,rfl⟩
  have ka:ints .i64 (lowL (lenCnt l) 16)=ca.toList:=by rw[hca]
  have kb:ints .i64 (lenCnt l)=cb.toList:=by rw[hcb]
  have OA:Hid (ca.all (·.oneCell')=true):=by rw[hca];exact c1n (a1v _)
  have OB:Hid (cb.all (·.oneCell')=true):=by rw[hcb];exact c1n (a1v _)
  have LX:Hid (ca.size=16):=by show _=_;rw[hca];simp[ints,a4d]
  have LY:Hid (cb.size=16):=by show _=_;rw[hcb];simp[ints,a1w]
  rw[<-hca,<-hcb]
  rw[<-hca] at t1
  rw[<-hcb,ka] at t2
  rw[ka,kb] at db hk3
  have T1:=c1n t1
  have T2:=c1n t2
  have DB0:=c1n db
  have HK3:=c1n hk3
  clear t1 t2 db hk3 ka kb hca hcb
  have KX:Hid ((Tryz.prog.info? 191).map (·.size)=some ca.size):=by show _=_;rw[LX.out];kernel_rfl
  have KY:Hid ((Tryz.prog.info? 191).map (·.size)=some cb.size):=by show _=_;rw[LY.out];kernel_rfl
  go_wp2_with (first
   | (refine wpList_store_mid rfl 191 (.tmp 24) (.tmp 21) rfl g 0 ca rfl rfl T1.out KX.out OA.out ?_)
   | (refine wpList_store_mid rfl 191 (.tmp 26) (.tmp 22) rfl g 16 cb rfl rfl T2.out KY.out OB.out ?_))
  generalize (w2.setCells g 0 ca.toList).setCells g 16 cb.toList=w3 at *
  have HS0:Hid (DSt w3 g l 1 (symsB l 1) (longN l 1)):=by rw[b6n,b5t];exact⟨_,by rw[b9l];exact DB0.out,c1A _ _ _ _⟩
  clear HBZ HK2 T1 T2 DB0 KX KY OA OB LX LY
  have HLk:Hid (∀ wr:World,Keeps [] w wr->RI .i64 wr A n l):=c1n (fun wr hk=>HL.out.keeps hk (a0a _))
  go_loopw [6] (fun mv wr=>∃ m:Nat,1<=m/\m<=16/\mv=.int .i64 m/\Hid (DSt wr g l m (symsB l m) (longN l m))/\Hid (Keeps [] w wr)) (fun mv _=>16-(intOf mv).toNat)
  case atStart=>exact⟨1,by omega,by omega,rfl,HS0,HK3⟩
  case round=>
   clear HS0 HK3
   obtain⟨m,hm1,hm2,rfl,HS,HK⟩:=hrel
   by_cases hm:m<=15
   ·have e0:decide ((m:Int)<=15)=true:=by simp;omega
    have hsl:=a4r l m
    obtain⟨v,hdb,how⟩:=HS.out
    obtain⟨vA,vc,rfl⟩:=a1N how
    obtain⟨q1,-⟩:=hdb.syms
    have q2:=hdb.at (j:=m) (by omega)
    have q3:=hdb.free (32+m)
    have HS1:Hid (DSt (wr.setCell ⟨g,32+m,none⟩ (.int .i64 ((symsB l m).length:Int))) g l (m+1) (symsB l m++symsOf l m 0) (a5p l m 0)):=by
     have:=HS.out.at' m (by omega) ((symsB l m).length:Int) (List.replicate (m+1) 0) (by rw[List.length_replicate,b6R l m hm1 (by omega)])
     rw[List.length_replicate] at this
     rw[b3J l m (by omega),show symsOf l m 0=[] from rfl,List.append_nil]
     exact this
    have HK1:=c1n (HK.out.setCell (p:=⟨g,32+m,none⟩) (.inr HG.out) (.int .i64 ((symsB l m).length:Int)))
    generalize nth (atL l m) m=z at *
    have HSL:=c1n hsl
    generalize hsz:(symsB l m).length=sz at *
    have HSZ:=c1n hsz
    clear hdb how HS HK hsl hsz
    go_wp2_with fail
    go_region
    go_wp2_with fail
    have HS2:Hid (DSt (wr.setCell ⟨g,32+m,none⟩ (.int .i64 (sz:Int))).drew g l (m+1) (symsB l m++symsOf l m 0) (a5p l m 0)):=c1n (HS1.out.keeps (Keeps.refl [] _).drew (by simp))
    have HK2:Hid (Keeps [] w (wr.setCell ⟨g,32+m,none⟩ (.int .i64 (sz:Int))).drew):=c1n HK1.out.drew
    clear HS1 HK1
    have q4:0=0:=rfl
    clear q1 q2 q3 q4
    go_loopw [43] (fun iv wr=>∃ i:Nat,i<=n/\iv=.int .i64 i/\Hid (DSt wr g l (m+1) (symsB l m++symsOf l m i) (a5p l m i))/\Hid (Keeps [] w wr)) (fun iv _=>n-(intOf iv).toNat)
    case atStart=>exact⟨0,by omega,rfl,HS2,HK2⟩
    case round=>
     clear HS2 HK2
     obtain⟨i,hi,rfl,HS,HK⟩:=hrel
     by_cases hlt:i<n
     ·have hil:Hid (i<l.length):=by have:=HLL.out;show _<_;omega
      obtain⟨b,o,rfl,hc⟩:=HL.out.at hlt
      have hc:=HK.out.cell (by simp) hc
      by_cases hx:nth l i=m
      ·have e1:(nth l i==(m:Int))=true:=by simpa using hx
       have hs1:=a3M l m i hx
       have hs2:=b3I l m i (by omega) hm1 hil.out hx
       have HX1:=c1n hs1
       have HX2:=c1n hs2
       have hol:(symsOf l m i).length<=i:=a4R l m i
       have hsl:=a4r l m
       clear hx hs1 hs2
       obtain⟨v,hdb,how⟩:=HS.out
       obtain⟨vA,vc,hvf⟩:=a1N how
       subst hvf
       have hsn:(symsB l m++symsOf l m i).length<=10000:=by
        rw[List.length_append]
        have:m*l.length<=15*288:=Nat.mul_le_mul (by omega) (by have:=HLL.out;omega)
        omega
       have HX3:Hid (symsB l m++symsOf l m (i+1)=(symsB l m++symsOf l m i)++[(i:Int)]):=by show _=_;rw[HX1.out,List.append_assoc]
       generalize symsB l m++symsOf l m i=S at *
       generalize hsz:S.length=sz at *
       obtain⟨q1,-⟩:=hdb.syms
       have HOW:=c1n (a0b how ((Keeps.refl [] wr).alloc (.cells #[.int .i64 (i:Int)] 3)) (by simp))
       have HDB:=c1n (hdb.keeps ((Keeps.refl [] wr).alloc (.cells #[.int .i64 (i:Int)] 3)) (by simp))
       have HRI:Hid (RI .i64 (wr.alloc (.cells #[.int .i64 (i:Int)] 3)) (some ⟨wr.heap.size,0,none⟩) 1 [(i:Int)]):=c1n (b5U wr _ _ _)
       have HKA:=c1n (HK.out.alloc (.cells #[.int .i64 (i:Int)] 3))
       have hgl:=hdb.lt
       have HSZ:=c1n hsz
       clear HS HK hdb how hol hsl hsz
       go_wp2_with (at_builtin;refine a0Z rfl (.tmp 55) (.tmp 57) rfl (g+1) _ _ S rfl (by exact HOW.out) _ 1 1 [(i:Int)] rfl (by exact HRI.out) ?c1 ?c2 ?c3 ?c4 ?_)
       case c1=>simp
       case c2=>simp
       case c3=>omega
       case c4=>simp;omega
       intro v' w4 hv hg
       obtain⟨A',c',hvf⟩:=a1N hv
       subst hvf
       have hk4:=(Keeps.refl (Value.ownBlock (.slice vA sz vc)).toList (wr.alloc (.cells #[.int .i64 (i:Int)] 3))).grown hg (fun k hk=>Or.inl (by simp[hk]))
       have hng:g∉(Value.ownBlock (.slice vA sz vc)).toList:=fun hm=>by
        have:=a0m HOW.out g (by simpa using hm)
        omega
       have hdb4:=HDB.out.keeps hk4 hng
       have hkw:=HKA.out.grown hg (fun k hk=>Or.inr (by have:=a0m HOW.out k hk;have:=HG.out;omega))
       have HDB4:=c1n hdb4
       have HKW:=c1n hkw
       have HV:=c1n hv
       obtain⟨r1,-⟩:=hdb4.syms
       have r2:=hdb4.free 48
       have hdb5:=hdb4.setSyms (.slice A' (sz+1) c')
       obtain⟨-,r3⟩:=hdb5.syms
       have r4:=hdb5.free 49
       have HDB6:=c1n (hdb5.setLong m)
       have hk6:Keeps [g] w4 ((w4.setCell ⟨g,48,none⟩ (.slice A' (sz+1) c')).setCell ⟨g,49,none⟩ (.int .i64 (m:Int))):=((Keeps.refl [g] w4).setCell (Or.inl (by simp)) _).setCell (Or.inl (by simp)) _
       have HO6:Hid (((w4.setCell ⟨g,48,none⟩ (.slice A' (sz+1) c')).setCell ⟨g,49,none⟩ (.int .i64 (m:Int))).ownsRow (g+1) 3 1 (.slice A' (sz+1) c') (sz+1) (ints .i64 (S++[(i:Int)]))):=
        a0b HV.out hk6 (fun x hx hm=>by have:=a0m HV.out x hx;rw[c1o.1 hm] at this;omega)
       have HKX:=c1n ((HKW.out.setCell (p:=⟨g,48,none⟩) (.inr HG.out) (.slice A' (sz+1) c')).setCell (p:=⟨g,49,none⟩) (.inr HG.out) (.int .i64 (m:Int)))
       clear hk4 hng hdb4 hkw hv hg hdb5 hk6 HOW HDB HRI HKA HDB4 HKW HV
       go_wp2_with fail
       go_roundw
       case rel=>exact⟨i+1,by omega,by go_num,by rw[HX2.out,HX3.out];exact⟨.slice A' (sz+1) c',HDB6.out,by rw[List.length_append,HSZ.out];exact HO6.out⟩,HKX⟩
       case measure=>simp[intOf];omega
      ·have e1:(nth l i==(m:Int))=false:=by simpa using hx
       have HX1:=c1n (a3L l m i hx)
       have HX2:=c1n (b3H l m i (by omega) hil.out hx)
       clear hx
       go_wp2_with fail
       go_roundw
       case rel=>exact⟨i+1,by omega,by go_num,by rw[HX1.out,HX2.out];exact HS,HK⟩
       case measure=>simp[intOf];omega
     ·obtain rfl:i=n:=by omega
      have HS3:Hid (DSt wr g l (m+1) (symsB l (m+1)) (longN l (m+1))):=by
       have:=HS.out
       rw[<-HLL.out,b5s l m hm1,<-a4P l m hm1] at this;exact this
      go_wp2_with fail
      go_roundw
      case rel=>exact⟨m+1,by omega,by omega,by go_num,HS3,HK⟩
      case measure=>simp[intOf];omega
   ·obtain rfl:m=16:=by omega
    go_wp2_with fail
    go_ret2
    exact b9D HC.out HK.out.below HS.out HG.out
 ·have e1:(a0f l !=0)=true:=by simpa using hc
  have HR:Hid (¬a0f l=0):=c1n hc
  go_wp2_with fail
  go_ret2
  exact b7C HR.out rfl (HD.out.keeps (S:=[])).below
open Go.RowKit
def DecT(w:World)(g top:Nat)(l:List Int):Prop:=
 ∃ A c,DB w g (lowL (lenCnt l) 16) (lenCnt l) (atL l 16) (.slice A (symsB l 16).length c) (longN l 16)/\RI .i64 w A (symsB l 16).length (symsB l 16)/\g<top/\∀ x,A=some x->x.block<top
theorem DecT.keeps{w w':World}{g top:Nat}{l:List Int}{K:List Nat}(h:DecT w g top l)(hk:Keeps K w w')(hK:∀ x∈K,top<=x):DecT w' g top l:=by
 obtain⟨A,c,h1,h2,h3,h4⟩:=h
 refine⟨A,c,h1.keeps hk (fun hm=>by have:=hK g hm;omega),h2.keeps hk (fun x hx hm=>by have:=hK x.block hm;have:=h4 x hx;omega),h3,h4⟩
theorem Dec.top{w:World}{g:Nat}{l:List Int}(h:Dec w g l):DecT w g w.heap.size l:=by
 obtain⟨v,h1,h2⟩:=h
 obtain⟨A,c,rfl,hr,_,ha⟩:=a0B h2
 exact⟨A,c,h1,hr,h1.lt,fun x hx=>(ha x hx).2.1⟩
def DecN(w:World)(g gr:Nat)(l:List Int):Prop:=
 ∃ A c,DB w g (lowL (lenCnt l) 16) (lenCnt l) (atL l 16) (.slice A (symsB l 16).length c) (longN l 16)/\RI .i64 w A (symsB l 16).length (symsB l 16)/\g≠gr/\∀ x,A=some x->x.block≠gr
theorem DecN.keeps{w w':World}{g gr:Nat}{l:List Int}{K:List Nat}(h:DecN w g gr l)(hk:Keeps K w w')(hK:∀ x∈K,x=gr):DecN w' g gr l:=by
 obtain⟨A,c,h1,h2,h3,h4⟩:=h
 exact⟨A,c,h1.keeps hk (fun hm=>h3 (hK g hm)),h2.keeps hk (fun x hx hm=>h4 x hx (hK x.block hm)),h3,h4⟩
theorem DecT.apart{w:World}{g top gr:Nat}{l:List Int}(h:DecT w g top l)(ht:top<=gr):DecN w g gr l:=by
 obtain⟨A,c,h1,h2,h3,h4⟩:=h
 exact⟨A,c,h1,h2,by omega,fun x hx=>by have:=h4 x hx;omega⟩
theorem Dec.apart{w:World}{g gr:Nat}{l:List Int}(h:Dec w g l)(hg:gr<g):DecN w g gr l:=by
 obtain⟨v,h1,h2⟩:=h
 obtain⟨A,c,rfl,hr,_,ha⟩:=a0B h2
 exact⟨A,c,h1,hr,by omega,fun x hx=>by have:=(ha x hx).1;omega⟩
theorem b7M(v b:Int)(h0:0<=v)(h:v<65536)(hb:0<=b/\b<=1):Go.bits .or .i64 (v*2) b=2*v+b:=by
 have:=bits_join .i64 62 (by decide) b0n 1 (v*2) b (by omega) (by omega) (by omega) (by omega) (by omega) (by omega)
 rw[this];omega
theorem b1Q(w:World)(g:Nat)(A:Option Addr)(c:Nat)(bs:List Int)(p:Nat)(hr:Rdr w g A c bs p)(hf:p+1<=8*bs.length) :
  Calls Tryz.prog 160 #[.pointer (some ⟨g,0,none⟩),.int .i64 1] w fun e w'=>e=.returned (.tuple #[.int .u32 (bitAt bs p),.int .i64 0])/\Rdr w' g A c bs (p+1)/\Keeps [g] w w':=by
 have:=a3w w g A c bs p 1 hr (by omega) hf
 simpa [numB] using this
theorem b6o(w:World)(g:Nat)(A:Option Addr)(c:Nat)(bs:List Int)(p:Nat)(hr:Rdr w g A c bs p)(hf:8*bs.length<p+1) :
  Calls Tryz.prog 160 #[.pointer (some ⟨g,0,none⟩),.int .i64 1] w fun e w'=>e=.returned (.tuple #[.int .u32 0,.int .i64 10])/\Dr w w':=by
 have:=a5C w g A c bs p 1 hr (by omega) hf
 simpa using this
def b8v(w:World)(gr:Nat)(A:Option Addr)(c:Nat)(bs:List Int)(p:Nat)(r:Int×Int×Nat)(e:Ending)(w':World):Prop:=
 e=.returned (.tuple #[.int .i64 r.1,.int .i64 r.2.1])/\Rdr w' gr A c bs (p+r.2.2)/\Keeps [gr] w w'
theorem b5C{w w':World}{gr:Nat}{A:Option Addr}{c:Nat}{bs:List Int}{p k:Nat}{r:Int×Int×Nat}{s e:Int}(hr:r=(s,e,k))(h:Rdr w' gr A c bs (p+k))(hk:Keeps [gr] w w') :
  b8v w gr A c bs p r (.returned (.tuple #[.int .i64 s,.int .i64 e])) w':=by
 subst hr;exact⟨rfl,h,hk⟩
theorem a3G(w:World)(g gr:Nat)(l:List Int)(A:Option Addr)(c:Nat)(bs:List Int)(p:Nat)(hd:DecN w g gr l)(hr:Rdr w gr A c bs p)(hl:l.length<=288) :
  Calls Tryz.prog 166 #[.pointer (some ⟨g,0,none⟩),.pointer (some ⟨gr,0,none⟩)] w (b8v w gr A c bs p (decF l bs p)):=by
 have HD:=c1n hd
 have HR:=c1n hr
 have HL:=c1n hl
 have hLL:longN l 16<16:=(a8q l 16).resolve_right (by omega)
 obtain⟨L,hL⟩:∃ L,L=longN l 16:=⟨_,rfl⟩
 rw[<-hL] at hLL
 have HLn:=c1n hL
 clear hd hr hl hL
 go_enter Tryz.func166,Tryz.ntmps166
 go_wp2_with fail
 go_step3
 go_wp2_with fail
 go_step3
 go_wp2_with fail
 go_loopw [6,7,8] (fun ev xv nv wr=>∃ (n:Nat) (x:Int),n<=L/\ev=.int .i64 32/\nv=.int .i64 n/\xv=.int .i64 x/\0<=x/\x<32768/\Hid (x<2^n)/\Hid (decF l bs p=decGo l bs p (L-n) n x)/\Hid (Rdr wr gr A c bs (p+n))/\Hid (Keeps [gr] w wr)) (fun _ _ nv _=>L-(intOf nv).toNat)
 case atStart=>exact⟨0,0,by omega,rfl,rfl,rfl,by omega,by omega,c1n (by simp),c1n (by rw[HLn.out];rfl),HR,c1n (Keeps.refl _ _)⟩
 case round=>
  clear HR
  obtain⟨n,x,hn,rfl,rfl,rfl,hx0,hx1,HX,HDF,HR,HK⟩:=hrel
  have HD1:=c1n (HD.out.keeps HK.out (fun y hy=>c1o.1 hy))
  obtain⟨sA,sc,hdb,hri,hgt,hat⟩:=HD1.out
  obtain⟨q1,q2⟩:=hdb.syms
  rw[<-HLn.out] at q2
  have HDB:=c1n hdb
  have HRI:=c1n hri
  have HAT:=c1n hat
  clear hdb hri hat q1
  by_cases hlt:n<L
  ·have e0:decide (n<L)=true:=by simpa using hlt
   by_cases hend:p+n+1<=8*bs.length
   ·have HEND:=c1n hend
    clear hend
    go_wp2_with fail
    refine (b1Q _ _ _ _ _ _ HR.out HEND.out).mono ?_
    rintro _ w2 ⟨rfl,hr2,hk2⟩
    have HR2:Hid (Rdr w2 gr A c bs (p+(n+1))):=c1n (by rw[<-Nat.add_assoc];exact hr2)
    have HK2:=c1n (HK.out.trans hk2)
    have HD2:=c1n (HD.out.keeps HK2.out (fun y hy=>c1o.1 hy))
    clear hr2 hk2 HK HR HD1 HDB HRI HAT q2
    obtain⟨sA,sc,hdb,hri,hgt,hat⟩:=HD2.out
    obtain⟨q1,q2⟩:=hdb.syms
    have q3:=hdb.code (j:=n+1) (by omega)
    have q4:=hdb.count (j:=n+1) (by omega)
    have q5:=hdb.at (j:=n+1) (by omega)
    rw[c0n l (n+1) (by omega) (by omega)] at q5
    rw[show nth (lowL (lenCnt l) 16) (n+1)=lowF (lenCnt l) (n+1) by unfold lowL;rw[a1k _ _ _ (by omega),if_pos (by omega)]] at q3
    rw[<-HLn.out] at q2
    have HRI:=c1n hri
    clear hdb hri hat
    have hgo:Hid (decF l bs p=if 0<=2*x+bitAt bs (p+n)-lowF (lenCnt l) (n+1)/\2*x+bitAt bs (p+n)-lowF (lenCnt l) (n+1)<nth (lenCnt l) (n+1) then
      (nth (symsB l 16) ((symsB l (n+1)).length+(2*x+bitAt bs (p+n)-lowF (lenCnt l) (n+1)).toNat),0,n+1)
     else decGo l bs p (L-(n+1)) (n+1) (2*x+bitAt bs (p+n))):=by
     show _=_
     rw[HDF.out,show L-n=(L-(n+1))+1 by omega,decGo,if_pos HEND.out]
    have hsa:Hid (∀ k:Nat,(k:Int)<nth (lenCnt l) (n+1)->(symsB l (n+1)).length+k<(symsB l 16).length):=c1n (fun k hk=>(b2Y l (n+1) (by omega) (by omega) k hk).1)
    obtain⟨b0,b1⟩:=a3m bs (p+n)
    obtain⟨l0,l1⟩:=a2y l HL.out (n+1) (by omega)
    obtain⟨c0,c1⟩:=a2g l (n+1) (by omega)
    have c2:nth (lenCnt l) (n+1)<=288:=by have:=HL.out;omega
    have hy1:Hid (2*x+bitAt bs (p+n)<2^(n+1)):=by show _<_;have:=HX.out;rw[Int.pow_succ];omega
    have hp:(2:Int)^(n+1)<=32768:=by
     have:(2:Nat)^(n+1)<=2^15:=Nat.pow_le_pow_right (by decide) (by omega)
     exact_mod_cast this
    have hy2:2*x+bitAt bs (p+n)<32768:=by have:=hy1.out;omega
    clear hp c1 HDF
    generalize bitAt bs (p+n)=b at *
    generalize lowF (lenCnt l) (n+1)=lo at *
    generalize nth (lenCnt l) (n+1)=ct at *
    have e4:Go.bits .or .i64 (x*2) b=2*x+b:=b7M x b hx0 (by omega) ⟨b0,b1⟩
    by_cases hk0:0<=2*x+b-lo
    ·obtain⟨K,hK⟩:∃ K:Nat,2*x+b-lo=K:=⟨(2*x+b-lo).toNat,by omega⟩
     by_cases hk1:(K:Int)<ct
     ·have HRES:Hid (decF l bs p=(nth (symsB l 16) ((symsB l (n+1)).length+K),0,n+1)):=by
       show _=_
       rw[hgo.out,hK,if_pos ⟨by omega,hk1⟩,Int.toNat_natCast]
      have hin:=hsa.out K hk1
      obtain⟨sb,so,rfl,hcell⟩:=HRI.out.at hin
      have HIN:=c1n hin
      have d2:decide ((K:Int)<ct)=true:=by simpa using hk1
      have hS16:(symsB l 16).length<=4608:=Nat.le_trans (a4r l 16) (by have:=HL.out;omega)
      generalize hS:(symsB l (n+1)).length=S at *
      generalize hSS:(symsB l 16).length=SS at *
      have s1:((S:Int)+(K:Int)).toNat=S+K:=by omega
      have s2:(0:Int)<=(S:Int)+(K:Int):=by omega
      have s3:(S:Int)+(K:Int)<(SS:Int):=by omega
      clear hS hSS hin
      have s7:IntKind.i64.wrap ((S:Int)+(K:Int))=(S:Int)+(K:Int):=c1r _ (by omega)
      have s4:(0:Int)<=(n:Int)+1:=by omega
      have s5:(n:Int)+1<16:=by omega
      have s6:((n:Int)+1).toNat=n+1:=by omega
      go_wp2_with fail
      go_quiet (fail)
      go_wp2_with fail
      go_ret2
      exact b5C HRES.out (HR2.out.dr ((Keeps.refl [] w2).drewN _)) (HK2.out.drewN _)
     ·have HRES:Hid (decF l bs p=decGo l bs p (L-(n+1)) (n+1) (2*x+b)):=by
       show _=_
       rw[hgo.out,hK,if_neg (fun h=>hk1 h.2)]
      have d2:decide ((K:Int)<ct)=false:=by simpa using hk1
      clear hgo hsa
      go_wp2_with fail
      go_roundw
      case rel=>exact⟨n+1,2*x+b,by omega,rfl,by go_num,rfl,by omega,hy2,hy1,HRES,HR2,HK2⟩
      case measure=>simp[intOf];omega
    ·have HRES:Hid (decF l bs p=decGo l bs p (L-(n+1)) (n+1) (2*x+b)):=by
      show _=_
      rw[hgo.out,if_neg (fun h=>hk0 h.1)]
     have d2:decide (0<=2*x+b-lo)=false:=by simpa using hk0
     clear hgo hsa
     go_wp2_with fail
     go_roundw
     case rel=>exact⟨n+1,2*x+b,by omega,rfl,by go_num,rfl,by omega,hy2,hy1,HRES,HR2,HK2⟩
     case measure=>simp[intOf];omega
   ·have HEND:=c1n hend
    clear hend
    have HRES:Hid (decF l bs p=(0,10,0)):=by
     show _=_
     rw[HDF.out,show L-n=(L-n-1)+1 by omega,decGo,if_neg HEND.out]
    go_wp2_with fail
    refine (b6o _ _ _ _ _ _ HR.out (by have:=HEND.out;omega)).mono ?_
    rintro _ w2 ⟨rfl,hd2⟩
    have HR2:=c1n (HR.out.dr (hd2.keeps (S:=[])))
    have HK2:=c1n (HK.out.trans (hd2.keeps (S:=[gr])))
    clear hd2
    go_wp2_with fail
    refine (a4D _ _ _ _ _ _ n HR2.out (by omega)).mono ?_
    rintro _ w3 ⟨rfl,hr3,hk3⟩
    have HR3:=c1n hr3
    have HK3:=c1n (HK2.out.trans hk3)
    clear hr3 hk3
    go_wp2_with fail
    go_ret2
    exact b5C HRES.out (by have:=HR3.out;rwa [Nat.add_sub_cancel] at this) HK3.out
  ·obtain rfl:n=L:=by omega
   have HRES:Hid (decF l bs p=(0,32,0)):=by show _=_;rw[HDF.out,Nat.sub_self];rfl
   go_wp2_with fail
   refine (a4D _ _ _ _ _ _ n HR.out (by omega)).mono ?_
   rintro _ w3 ⟨rfl,hr3,hk3⟩
   have HR3:=c1n hr3
   have HK3:=c1n (HK.out.trans hk3)
   clear hr3 hk3
   go_wp2_with fail
   go_ret2
   exact b5C HRES.out (by have:=HR3.out;rwa [Nat.add_sub_cancel] at this) HK3.out
open Go.RowKit
open Go.RowKit
theorem b6P {ops:Array Oper} {rest:List Oper} {o:Oper} {a:Act} {Q:Exit->Act->World->Prop} {w:World} (hgd:o.guard=none) (s x:Operand)
  (ho:o.op=.call { callee:=.builtin .append,args:=#[s,x],argTypes:=#[90,90] })
  (base:Nat) (v:Value) (n:Nat) (xs:List Int) (hs:a.eval s=v) (hown:w.ownsRow base 3 1 v n (ints .i64 xs))
  (g m c:Nat) (ys:List Int) (hx:a.eval x=.slice (some ⟨g,0,none⟩) m c) (hy:RI .i64 w (some ⟨g,0,none⟩) m ys)
  (hn:n+m<=1000000) (hbase:base<=w.heap.size)
  (h:∀ v' w',w'.ownsRow base 3 1 v' (n+m) (ints .i64 (xs++ys))->w.grownBy w' v.ownBlock->wpList Tryz.prog ops Q rest (a.put o.dst v') w'):wpList Tryz.prog ops Q (o::rest) a w:=by
 obtain⟨i0,hi,hz0,hz1,hz2⟩:=info_parts a1r
 refine wpList_append_own _ hgd s x 90 ho base 3 i0 (.int .i64 0) 1 8 c1z hi hz0 hz1 hz2 rfl (by decide) v n (ints .i64 xs) hs hown ⟨g,0,none⟩ m c (ints .i64 ys) hx (by simp[ints,hy.len]) ?_ (a8k _ _) (by unfold maxLen;omega) (by omega) hbase ?_
 ·intro j u hu
  have hj:j<m:=by have:=(c1x.1 hu).1;have:=hy.len;simp[ints] at *;omega
  rw[a0H]
  have hc:=hy.cell g 0 rfl j hj
  rw[c1E] at hc
  rw[hc,<-hu,a0e]
  simp[nth,List.getD,show j<ys.length by have:=hy.len;omega]
 ·intro v' w' h2 h3 _
  have e:ints .i64 (xs++ys)=ints .i64 xs++ints .i64 ys:=by simp[ints]
  rw[e] at h
  exact h v' w' h2 h3
def b3j(w:World)(base:Nat)(r:Option (List Int))(e:Ending)(w':World):Prop:=
 match r with
 | some l=>∃ v,e=.returned (.tuple #[v,.bool true])/\w'.ownsRow base 3 1 v l.length (ints .i64 l)/\Below base w w'
 | none=>e=.returned (.tuple #[.slice none 0 0,.bool false])/\Below base w w'
theorem b9d(w:World)(base len c:Nat)(A:Option Addr)(l:List Int)(sym extra n:Int)(hb:base<=w.heap.size)(hs:sym<0∨18<sym) :
  Calls Tryz.prog 184 #[.slice A len c,.agg #[.int .i64 sym,.int .i64 extra],.int .i64 n] w (b3j w base (addF l sym extra n)):=by
 have hr:addF l sym extra n=none:=a2b (by rcases hs with h|h;exact a1Y (by omega) (Or.inl h);exact b8a h)
 rw[hr]
 clear hr
 rcases hs with h|h
 ·have e1:decide (sym<0)=true:=by simpa using h
  go_enter c1u,c1t
  go_wp2_with fail
  go_quiet (fail)
  go_wp2_with fail
  go_ret2
  exact⟨rfl,(((Keeps.refl [] w).alloc _).drewN _).below.mono hb⟩
 ·have e1:decide (sym<0)=false:=by simp;omega
  have e2:decide (19<=sym)=true:=by simp;omega
  go_enter c1u,c1t
  go_wp2_with fail
  go_quiet (fail)
  go_wp2_with fail
  go_ret2
  exact⟨rfl,(((Keeps.refl [] w).alloc _).drewN _).below.mono hb⟩
theorem b9e(w:World)(base len c:Nat)(A:Option Addr)(l:List Int)(sym extra n:Int)(hb:base<=w.heap.size)(h0:0<=sym)(h18:sym<=18)(hs:extra<0) :
  Calls Tryz.prog 184 #[.slice A len c,.agg #[.int .i64 sym,.int .i64 extra],.int .i64 n] w (b3j w base (addF l sym extra n)):=by
 have hr:addF l sym extra n=none:=a2b (by
  rcases (by omega:sym<=15∨sym=16∨sym=17∨sym=18) with h|rfl|rfl|rfl
  ·exact a1Y (by omega) (Or.inr (by omega))
  ·exact a3i (Or.inl hs)
  ·exact a5h (Or.inl hs)
  ·exact a5i (Or.inl hs))
 rw[hr]
 clear hr
 have e1:decide (sym<0)=false:=by simp;omega
 have e2:decide (19<=sym)=false:=by simp;omega
 have e3:decide (extra<0)=true:=by simpa using hs
 go_enter c1u,c1t
 go_wp2_with fail
 go_quiet (fail)
 go_wp2_with fail
 go_ret2
 exact⟨rfl,(((Keeps.refl [] w).alloc _).drewN _).below.mono hb⟩
theorem c0S(s:Nat)(h:s<=15):nth a4U s=0:=by
 rcases (by omega:s=0∨s=1∨s=2∨s=3∨s=4∨s=5∨s=6∨s=7∨s=8∨s=9∨s=10∨s=11∨s=12∨s=13∨s=14∨s=15) with rfl|rfl|rfl|rfl|rfl|rfl|rfl|rfl|rfl|rfl|rfl|rfl|rfl|rfl|rfl|rfl<;>rfl
theorem b6L (w:World) (base len c:Nat) (A:Option Addr) (l:List Int) (s:Nat) (extra n:Int) (hb:base<=w.heap.size) (ht:Tabs w) (h0:0<=extra)
  (hs:s<=15/\1<=extra∨s=16/\4<=extra∨s=17/\8<=extra∨s=18/\128<=extra) :
  Calls Tryz.prog 184 #[.slice A len c,.agg #[.int .i64 s,.int .i64 extra],.int .i64 n] w (b3j w base (addF l s extra n)):=by
 have e1:decide ((s:Int)<0)=false:=by simp
 have e2:decide (19<=(s:Int))=false:=by simp;omega
 have e3:decide (extra<0)=false:=by simp;omega
 have hl:(s:Int)<19:=by omega
 have hc:=ht.wid.cell _ _ rfl s (by omega)
 rw[c1E] at hc
 clear ht
 rcases hs with⟨h,hs⟩|⟨rfl,hs⟩|⟨rfl,hs⟩|⟨rfl,hs⟩
 ·have hr:addF l s extra n=none:=a2b (a1Y (by omega) (Or.inr (by omega)))
  rw[hr]
  clear hr
  rw[c0S s h] at hc
  have hc':=fun o=>((Keeps.refl [] w).alloc o).cell (by simp) hc
  clear hc
  have e4:decide (1<=extra)=true:=by simpa using hs
  go_enter c1u,c1t
  go_wp2_with fail
  go_quiet (fail)
  go_wp2_with fail
  go_ret2
  exact⟨rfl,(((Keeps.refl [] w).alloc _).drewN _).below.mono hb⟩
 ·have hr:addF l ((16:Nat):Int) extra n=none:=a2b (a3i (Or.inr (Or.inl (by omega))))
  rw[hr]
  clear hr
  rw[show nth a4U 16=2 from rfl] at hc
  have hc':=fun o=>((Keeps.refl [] w).alloc o).cell (by simp) hc
  clear hc
  have e4:decide (4<=extra)=true:=by simpa using hs
  go_enter c1u,c1t
  go_wp2_with fail
  go_quiet (fail)
  go_wp2_with fail
  go_ret2
  exact⟨rfl,(((Keeps.refl [] w).alloc _).drewN _).below.mono hb⟩
 ·have hr:addF l ((17:Nat):Int) extra n=none:=a2b (a5h (Or.inr (by omega)))
  rw[hr]
  clear hr
  rw[show nth a4U 17=3 from rfl] at hc
  have hc':=fun o=>((Keeps.refl [] w).alloc o).cell (by simp) hc
  clear hc
  have e4:decide (8<=extra)=true:=by simpa using hs
  go_enter c1u,c1t
  go_wp2_with fail
  go_quiet (fail)
  go_wp2_with fail
  go_ret2
  exact⟨rfl,(((Keeps.refl [] w).alloc _).drewN _).below.mono hb⟩
 ·have hr:addF l ((18:Nat):Int) extra n=none:=a2b (a5i (Or.inr (by omega)))
  rw[hr]
  clear hr
  rw[show nth a4U 18=7 from rfl] at hc
  have hc':=fun o=>((Keeps.refl [] w).alloc o).cell (by simp) hc
  clear hc
  have e4:decide (128<=extra)=true:=by simpa using hs
  go_enter c1u,c1t
  go_wp2_with fail
  go_quiet (fail)
  go_wp2_with fail
  go_ret2
  exact⟨rfl,(((Keeps.refl [] w).alloc _).drewN _).below.mono hb⟩
theorem b4x(w:World)(base c:Nat)(A:Option Addr)(extra n:Int)(hb:base<=w.heap.size)(ht:Tabs w)(h0:0<=extra)(h3:extra<=3) :
  Calls Tryz.prog 184 #[.slice A 0 c,.agg #[.int .i64 16,.int .i64 extra],.int .i64 n] w (b3j w base (addF [] 16 extra n)):=by
 have hr:addF [] 16 extra n=none:=a2b (a3i (Or.inr (Or.inr rfl)))
 rw[hr]
 clear hr
 have e3:decide (extra<0)=false:=by simp;omega
 have e4:decide (4<=extra)=false:=by simp;omega
 have hc:=ht.wid.cell _ _ rfl 16 (by omega)
 rw[c1E,show nth a4U 16=2 from rfl] at hc
 have hd:=ht.fro.cell _ _ rfl 16 (by omega)
 rw[c1E,show nth a8f 16=3 from rfl] at hd
 have hc':=fun o=>((Keeps.refl [] w).alloc o).cell (by simp) hc
 have hd':=fun o=>((Keeps.refl [] w).alloc o).cell (by simp) hd
 have e2:IntKind.i64.wrap (3+extra)=3+extra:=c1r _ (by omega)
 clear hc hd ht
 go_enter c1u,c1t
 go_wp2_with fail
 go_quiet (fail)
 go_wp2_with fail
 go_quiet (fail)
 go_wp2_with fail
 go_ret2
 exact⟨rfl,(((Keeps.refl [] w).alloc _).drewN _).below.mono hb⟩
open Go.RowKit
theorem b9k {ops:Array Oper} {rest:List Oper} {o:Oper} {a:Act} {Q:Exit->Act->World->Prop} {w:World} (hgd:o.guard=none) (s x:Operand)
  (ho:o.op=.call { callee:=.builtin .append,args:=#[s,x],argTypes:=#[90,90] })
  (base:Nat) (v:Value) (n:Nat) (xs:List Int) (hs:a.eval s=v) (hown:w.ownsRow base 3 1 v n (ints .i64 xs))
  (A:Option Addr) (m c:Nat) (ys:List Int) (hx:a.eval x=.slice A m c) (hy:RI .i64 w A m ys) (hnil:A=none->m=0/\c=0) (hpl:∀ ad,A=some ad->∃ b o,ad=⟨b,o,none⟩)
  (hn:n+m<=1000000) (hbase:base<=w.heap.size)
  (h:∀ v' w',w'.ownsRow base 3 1 v' (n+m) (ints .i64 (xs++ys))->w.grownBy w' v.ownBlock->wpList Tryz.prog ops Q rest (a.put o.dst v') w'):wpList Tryz.prog ops Q (o::rest) a w:=by
 obtain⟨i0,hi,hz0,hz1,hz2⟩:=info_parts a1r
 cases A with
 | none=>
  obtain⟨rfl,rfl⟩:=hnil rfl
  obtain rfl:ys=[]:=c1w hy.len
  refine wpList_append_own_none hgd s x 90 ho base 3 i0 1 c1z hi v n (ints .i64 xs) hs hown hx ?_
  exact h v w (by simpa using hown) ⟨rfl,rfl,rfl,c1F _,fun _ _ _=>rfl⟩
 | some ad=>
  obtain⟨b,of,rfl⟩:=hpl ad rfl
  refine wpList_append_own _ hgd s x 90 ho base 3 i0 (.int .i64 0) 1 8 c1z hi hz0 hz1 hz2 rfl (by decide) v n (ints .i64 xs) hs hown ⟨b,of,none⟩ m c (ints .i64 ys) hx (by simp[ints,hy.len]) ?_ (a8k _ _) (by unfold maxLen;omega) (by omega) hbase ?_
  ·intro j u hu
   have hj:j<m:=by have:=(c1x.1 hu).1;have:=hy.len;simp[ints] at *;omega
   rw[a0t]
   have hc:=hy.cell b of rfl j hj
   rw[hc,<-hu,a0e]
   simp[nth,List.getD,show j<ys.length by have:=hy.len;omega]
  ·intro v' w' h2 h3 _
   have e:ints .i64 (xs++ys)=ints .i64 xs++ints .i64 ys:=by simp[ints]
   rw[e] at h
   exact h v' w' h2 h3
open Go.RowKit
def sLen:Value->Nat
 | .slice _ n _=>n
 | _=>0
theorem a5a(w:World)(A:Option Addr)(n c:Nat)(xs:List Int)(hx:RI .i64 w A n xs)(hnil:A=none->n=0/\c=0)(hpl:∀ ad,A=some ad->∃ b o,ad=⟨b,o,none⟩)(hn:n<=100000) :
  Calls Tryz.prog 185 #[.slice A n c] w fun e w'=>∃ v,e=.returned v/\w'.ownsRow w.heap.size 3 1 v n (ints .i64 xs)/\Below w.heap.size w w':=by
 have HX:=c1n hx
 have HP:=c1n hpl
 clear hx hpl
 go_enter Tryz.func185,Tryz.ntmps185
 cases A with
 | none=>
  obtain⟨rfl,rfl⟩:=hnil rfl
  obtain rfl:xs=[]:=c1w HX.out.len
  have hq:=fun w=>Lib.run_eql_slice_nil (P:=Tryz.prog) w 90 3 none 0 0 0 0 c1z
  go_wp2_with fail
  go_ret
  exact⟨_,rfl,c1A _ _ _ _,Below.refl _ _⟩
 | some ad=>
  obtain⟨b,o,rfl⟩:=HP.out ad rfl
  have hq:=fun w=>Lib.run_eql_slice_nil (P:=Tryz.prog) w 90 3 (some ⟨b,o,none⟩) n c 0 0 c1z
  have HO:Hid ((w.alloc (.cells #[] 3)).ownsRow w.heap.size 3 1 (.slice (some ⟨w.heap.size,0,none⟩) 0 0) 0 (ints .i64 [])):=c1n (World.ownsRow_lit w #[] 0 (c1F _) (by decide) rfl)
  have HR:=c1n (HX.out.keeps ((Keeps.refl [] w).alloc (.cells #[] 3)) (a0a _))
  go_wp2_with (at_builtin;refine b9k rfl (.tmp 5) (.tmp 6) rfl w.heap.size _ _ [] rfl (by exact HO.out) (some ⟨b,o,none⟩) n c xs rfl (by exact HR.out) (by simp) (by intro ad h;exact⟨_,_,(Option.some.inj h).symm⟩) (by omega) (by simp) ?_)
  intro v1 w1 ho1 hg1
  have HB1:=c1n ((((Below.refl w.heap.size w).alloc (c1F _) (.cells #[] 3))).grown hg1 (by simp) (fun k hk=>(HO.out.lt k hk).1))
  have HO1:=c1n ho1
  clear ho1 hg1
  go_wp2_with fail
  go_ret
  exact⟨_,rfl,by simpa using HO1.out,HB1.out⟩
open Go.RowKit
theorem c0J{w:World}{g t m:Nat}{v:Int}(h:Blk w g t (ints .i64 (List.replicate m v))):RI .i64 w (some ⟨g,0,none⟩) m (List.replicate m v):=by
 have:=Blk.ri (ys:=[]) (xs:=List.replicate m v) (by simpa using h)
 simpa using this
theorem b6K(w:World)(base len:Nat)(u:Value)(l:List Int)(s:Nat)(extra n v:Int)(k:Nat)(hb:base<=w.heap.size)(ht:Tabs w)(hu:w.ownsRow base 3 1 u len (ints .i64 l))(hlen:len<=1000)(hsay:sayF l s extra=some (v,k)) :
  Calls Tryz.prog 184 #[u,.agg #[.int .i64 s,.int .i64 extra],.int .i64 n] w (b3j w base (addF l s extra n)):=by
 obtain⟨A,c,rfl,hri,hcap,hblk⟩:=a0B hu
 have hll:l.length=len:=hri.len
 have hkp:=a8x hsay
 have HS:=c1n hsay
 have HU:=c1n hu
 clear hu
 have HC:Hid (s<=15/\extra=0/\v=s/\k=1∨s=16/\0<=extra/\extra<=3/\1<=len/\v=nth l (len-1)/\(k:Int)=3+extra∨s=17/\0<=extra/\extra<=7/\v=0/\(k:Int)=3+extra∨s=18/\0<=extra/\extra<=127/\v=0/\(k:Int)=11+extra):=by
  simp only[sayF] at hsay
  split at hsay
  ·rename_i h;simp at hsay;exact Or.inl ⟨by omega,h.2.2,hsay.1.symm,hsay.2.symm⟩
  ·split at hsay
   ·rename_i h;simp at hsay
    have:1<=l.length:=by
     rcases Nat.eq_zero_or_pos l.length with h'|h'
     ·exact absurd (c1w h') h.2.2.2
     ·exact h'
    exact Or.inr (Or.inl ⟨by omega,h.2.1,h.2.2.1,by omega,by rw[<-hll];simpa [nth] using hsay.1.symm,by omega⟩)
   ·split at hsay
    ·rename_i h;simp at hsay;exact Or.inr (Or.inr (Or.inl ⟨by omega,h.2.1,h.2.2,hsay.1.symm,by omega⟩))
    ·split at hsay
     ·rename_i h;simp at hsay;exact Or.inr (Or.inr (Or.inr ⟨by omega,h.2.1,h.2.2,hsay.1.symm,by omega⟩))
     ·simp at hsay
 clear hsay
 have hglob:∀ (j:Nat) (o:Obj),j<19->(w.alloc o).cell? ⟨2,j,none⟩=some (.int .i64 (nth a4U j))/\(w.alloc o).cell? ⟨4,j,none⟩=some (.int .i64 (nth a8f j)):=fun j o hj=>by
  have h1:=ht.wid.cell _ _ rfl j hj
  have h2:=ht.fro.cell _ _ rfl j hj
  rw[c1E] at h1 h2
  exact⟨((Keeps.refl [] w).alloc o).cell (by simp) h1,((Keeps.refl [] w).alloc o).cell (by simp) h2⟩
 have HR:=c1n hri
 clear ht hri hll
 have e1:decide ((s:Int)<0)=false:=by simp
 rcases HC.out with⟨hs,rfl,hv,hk0⟩|⟨rfl,hx0,hx3,hl1,hv,hk⟩|⟨rfl,hx0,hx3,hv,hk⟩|⟨rfl,hx0,hx3,hv,hk⟩
 case' inl=>
  have hk1:(k:Int)<=1:=by omega
  have hk2:1<=(k:Int):=by omega
  have HV:=c1n hv
  clear hv hk0
  have e2:decide (19<=(s:Int))=false:=by simp;omega
  have hl:(s:Int)<19:=by omega
  have hc:=fun o=>(hglob s o (by omega)).1
  rw[c0S s hs] at hc
  have e5:decide (15<(s:Int))=false:=by simp;omega
  have e6:((s:Int)==16)=false:=by simp;omega
  clear hglob HC
  go_enter c1u,c1t
  go_wp2_with fail
  go_quiet (fail)
  go_upto_region 10 with (fail)
 case' inr.inl=>
  have hk1:(k:Int)<=3+extra:=by omega
  have hk2:3+extra<=(k:Int):=by omega
  have HV:=c1n hv
  clear hv hk
  have e3:decide (extra<0)=false:=by simp;omega
  have e4:decide (4<=extra)=false:=by simp;omega
  have hc:=fun o=>(hglob 16 o (by omega)).1
  have hd:=fun o=>(hglob 16 o (by omega)).2
  rw[show nth a4U 16=2 from rfl] at hc
  rw[show nth a8f 16=3 from rfl] at hd
  have e2:IntKind.i64.wrap (3+extra)=3+extra:=c1r _ (by omega)
  obtain⟨b,o,rfl,hlast⟩:=HR.out.at (show len-1<len by omega)
  have hlast':=fun ob=>((Keeps.refl [] w).alloc ob).cell (by simp) hlast
  have e7:((len:Int)==0)=false:=by simp;omega
  have e8:((len:Int)-1).toNat=len-1:=by omega
  clear hglob HC hlast
  go_enter c1u,c1t
  go_wp2_with fail
  go_quiet (fail)
  go_wp2_with fail
  go_quiet (fail)
  go_upto_region 10 with (fail)
 case' inr.inr.inl=>
  have hk1:(k:Int)<=3+extra:=by omega
  have hk2:3+extra<=(k:Int):=by omega
  have HV:=c1n hv
  clear hv hk
  have e3:decide (extra<0)=false:=by simp;omega
  have e4:decide (8<=extra)=false:=by simp;omega
  have hc:=fun o=>(hglob 17 o (by omega)).1
  have hd:=fun o=>(hglob 17 o (by omega)).2
  rw[show nth a4U 17=3 from rfl] at hc
  rw[show nth a8f 17=3 from rfl] at hd
  have e2:IntKind.i64.wrap (3+extra)=3+extra:=c1r _ (by omega)
  clear hglob HC
  go_enter c1u,c1t
  go_wp2_with fail
  go_quiet (fail)
  go_wp2_with fail
  go_quiet (fail)
  go_upto_region 10 with (fail)
 case' inr.inr.inr=>
  have hk1:(k:Int)<=11+extra:=by omega
  have hk2:11+extra<=(k:Int):=by omega
  have HV:=c1n hv
  clear hv hk
  have e3:decide (extra<0)=false:=by simp;omega
  have e4:decide (128<=extra)=false:=by simp;omega
  have hc:=fun o=>(hglob 18 o (by omega)).1
  have hd:=fun o=>(hglob 18 o (by omega)).2
  rw[show nth a4U 18=7 from rfl] at hc
  rw[show nth a8f 18=11 from rfl] at hd
  have e2:IntKind.i64.wrap (11+extra)=11+extra:=c1r _ (by omega)
  clear hglob HC
  go_enter c1u,c1t
  go_wp2_with fail
  go_quiet (fail)
  go_wp2_with fail
  go_quiet (fail)
  go_upto_region 10 with (fail)
 all_goals
  by_cases hn:n<(len:Int)+(k:Int)
  ·go_wp2_with fail
   go_ret2
   rw[a8J HS.out (by have:=HR.out.len;omega)]
   exact⟨rfl,Keeps.below (by repeat (first|exact Keeps.refl _ _|apply Keeps.drewN|apply Keeps.alloc)) |>.mono hb⟩
  ·go_wp2_with fail
   refine (a0V _ _ _ k _ v (by omega) (by rw[HV.out];go_simp) (by omega) (by omega)).mono ?_
   rintro e w6 ⟨g,rfl,hB,hg,hb6⟩
   have hK:Keeps [] w w6:=Keeps.trans (by repeat (first|exact Keeps.refl _ _|apply Keeps.drewN|apply Keeps.alloc)) (Keeps.of_below hb6)
   have hO:=a0b HU.out hK (by simp)
   have hRI:=c0J hB
   have hsz:base<=w6.heap.size:=Nat.le_trans hb hK.size
   have HO:=c1n hO
   have HRI:=c1n hRI
   have HK:=c1n hK
   clear hB hb6 hO hRI hK hg
   go_wp2_with (at_builtin;refine b6P rfl (.tmp 63) (.tmp 67) rfl base _ _ _ rfl HO.out g k k (List.replicate k v) rfl HRI.out (by omega) hsz ?_)
   intro v' w7 h7 hg7
   have H7:=c1n h7
   have HG:=c1n hg7
   clear h7 hg7
   go_wp2_with fail
   go_ret2
   rw[a8K HS.out (by have:=HR.out.len;omega)]
   refine⟨v',rfl,?_,?_⟩
   ·rw[show (l++List.replicate k v).length=len+k by have:=HR.out.len;simp;omega];exact H7.out
   ·exact ((HK.out.below.mono hb).grown HG.out hsz (fun k hk=>(HU.out.lt k hk).1))
open Go.RowKit
theorem b4w(w:World)(base len:Nat)(u:Value)(l:List Int)(sym extra n:Int)(hb:base<=w.heap.size)(ht:Tabs w)(hu:w.ownsRow base 3 1 u len (ints .i64 l))(hlen:len<=1000) :
  Calls Tryz.prog 184 #[u,.agg #[.int .i64 sym,.int .i64 extra],.int .i64 n] w (b3j w base (addF l sym extra n)):=by
 cases hsay:sayF l sym extra with
 | some p=>
  obtain⟨v,k⟩:=p
  have h0:0<=sym:=by
   rcases Int.lt_or_le sym 0 with h|h
   ·rw[a1Y (by omega) (Or.inl h)] at hsay;cases hsay
   ·exact h
  obtain⟨s,rfl⟩:=Int.eq_ofNat_of_zero_le h0
  exact b6K w base len u l s extra n v k hb ht hu hlen hsay
 | none=>
  obtain⟨A,c,rfl,hri,hcap,hblk⟩:=a0B hu
  by_cases hs:sym<0∨18<sym
  ·exact b9d w base len c A l sym extra n hb hs
  ·by_cases hx:extra<0
   ·exact b9e w base len c A l sym extra n hb (by omega) (by omega) hx
   ·obtain⟨s,rfl⟩:=Int.eq_ofNat_of_zero_le (show 0<=sym by omega)
    by_cases ho:s<=15/\1<=extra∨s=16/\4<=extra∨s=17/\8<=extra∨s=18/\128<=extra
    ·exact b6L w base len c A l s extra n hb ht (by omega) ho
    ·rcases (by omega:s<=15∨s=16∨s=17∨s=18) with h|rfl|rfl|rfl
     ·obtain rfl:extra=0:=by omega
      rw[a8w (by omega) (by omega)] at hsay;cases hsay
     ·have hl:l=[]:=by
       rcases Classical.em (l=[]) with h|h
       ·exact h
       ·rw[show ((16:Nat):Int)=16 from rfl,b5Z (by omega) (by omega) h] at hsay;cases hsay
      subst hl
      obtain rfl:len=0:=by have:=hri.len;simpa using this.symm
      exact b4x w base c A extra n hb ht (by omega) (by omega)
     ·rw[show ((17:Nat):Int)=17 from rfl,b6a (by omega) (by omega)] at hsay;cases hsay
     ·rw[show ((18:Nat):Int)=18 from rfl,b6b (by omega) (by omega)] at hsay;cases hsay
open Go.RowKit
theorem Keeps.under{S:List Nat}{w w1 w2:World}{B:Nat}(h:Keeps S w w1)(hb:Below B w1 w2)(hB:w.heap.size<=B):Keeps S w w2:=
 ⟨hb.os.trans h.os,hb.tape.trans h.tape,hb.output.trans h.output,Nat.le_trans h.size hb.size,fun k hk hs=>(hb.block k (by omega)).trans (h.block k hk hs)⟩
theorem b7N{w:World}{base:Nat}{e:TypeId}{v:Value}{n:Nat}{k:IntKind}{xs:List Int}(h:w.ownsRow base e 1 v n (ints k xs)) :
  ∃ A c,v=.slice A n c/\RI k w A n xs/\n<=c/\(A=none->n=0/\c=0)/\(∀ ad,A=some ad->∃ b o,ad=⟨b,o,none⟩)/\(∀ a,A=some a->base<=a.block/\a.block<w.heap.size):=by
 obtain⟨A,c,rfl,h1,h2,h3⟩:=a0B h
 refine⟨A,c,rfl,h1,h2,?_,?_,fun a ha=>⟨(h3 a ha).1,(h3 a ha).2.1⟩⟩
 ·rintro rfl
  rcases h.2 with⟨h4,h5⟩|⟨g,cap,cur,h4,_⟩
  ·injection h4 with _ _ h6
   exact⟨h5,h6⟩
  ·injection h4 with h6;cases h6
 ·rintro ad rfl
  rcases h.2 with⟨h4,h5⟩|⟨g,cap,cur,h4,_⟩
  ·injection h4 with h6;cases h6
  ·injection h4 with h6;injection h6 with h7;exact⟨g,0,h7⟩
open Go.RowKit
open Go.RowKit
def c0Z(w:World)(rb eb g:Nat)(A:Option Addr)(c q n:Nat)(e:Int)(bs:List Int)(r:Ending)(w':World):Prop:=
 ∃ (v:Int) (q':Nat) (e':Int),r=.returned (.int .i64 v)/\Hd w' rb eb g A c bs q' e'/\Keeps [g,eb] w w'/\0<=v/\v<256/\q<=q' /\
  ((e=0/\q+n<=8*bs.length/\e'=0/\v=numB bs q n/\q'=q+n)∨((e≠0∨8*bs.length<q+n)/\e'=10))
theorem a4o(w:World)(rb eb g:Nat)(A:Option Addr)(c q n:Nat)(e:Int)(bs:List Int)(h:Hd w rb eb g A c bs q e)(he:e=0∨e=10)(hn:n<=8) :
  Calls Tryz.prog 183 #[.int .i64 n,.pointer (some ⟨rb,0,none⟩),.pointer (some ⟨eb,0,none⟩)] w (c0Z w rb eb g A c q n e bs):=by
 obtain⟨n0,n1⟩:=a0Q bs q n
 have n2:=a2s n hn
 by_cases hf:q+n<=8*bs.length
 ·refine (b7X w rb eb g A c bs q n e h (by omega) hf).mono ?_
  rintro r w' ⟨rfl,h1,h2⟩
  refine⟨_,_,_,rfl,h1,h2,n0,by omega,by omega,?_⟩
  rcases he with rfl|rfl
  ·exact .inl ⟨rfl,hf,rfl,rfl,rfl⟩
  ·exact .inr ⟨.inl (by decide),rfl⟩
 ·refine (b5S w rb eb g A c bs q n e h (by omega) (by omega)).mono ?_
  rintro r w' ⟨rfl,h1,h2⟩
  refine⟨_,_,_,rfl,h1,h2,by omega,by omega,c1F _,.inr ⟨.inr (by omega),?_⟩⟩
  rcases he with rfl|rfl<;>rfl
theorem Rdr.below{w w':World}{B g:Nat}{A:Option Addr}{c:Nat}{bs:List Int}{p:Nat}(h:Rdr w g A c bs p)(hb:Below B w w')(hg:g<B)(ha:∀ a,A=some a->a.block<B):Rdr w' g A c bs p:=
 ⟨(hb.block g hg).trans h.blk,h.ri.below hb ha,h.off,h.le,h.byte,h.size⟩
theorem b0L {T q q' i p o:Nat} {E E' v:Int} {bs cs:List Int}
  (hcL:cL bs (p+14) (i+1)=(cL bs (p+14) i).set o (numB bs (p+14+3*i) 3))
  (hI:(p+14+3*i<=T/\E=0/\q=p+14+3*i/\cs=cL bs (p+14) i)∨(T<p+14+3*i/\E=10))
  (hc:(E=0/\q+3<=T/\E'=0/\v=numB bs q 3/\q'=q+3)∨((E≠0∨T<q+3)/\E'=10)) :
  (E'=0∨E'=10)/\((p+14+3*(i+1)<=T/\E'=0/\q'=p+14+3*(i+1)/\cs.set o v=cL bs (p+14) (i+1))∨(T<p+14+3*(i+1)/\E'=10)):=by
 refine⟨by omega,?_⟩
 rcases hI with⟨a1,rfl,rfl,rfl⟩|⟨a1,rfl⟩
 ·rcases hc with⟨_,b1,rfl,rfl,rfl⟩|⟨b1,rfl⟩
  ·exact .inl ⟨by omega,rfl,by omega,hcL.symm⟩
  ·exact .inr ⟨by omega,rfl⟩
 ·rcases hc with⟨b0,_⟩|⟨_,rfl⟩
  ·exact absurd b0 (by decide)
  ·exact .inr ⟨by omega,rfl⟩
theorem b7r{g eb:Nat}{w w1 w2:World}(h:Keeps [g] w w1)(hk:Keeps [g,eb] w1 w2)(he:w.heap.size<=eb):Keeps [g] w w2:=h.then hk (fun x hx=>by
 rcases c1G.1 hx with rfl|hx
 ·exact Or.inl (by simp)
 ·rw[c1o.1 hx];exact Or.inr he)
def c0j(w:World)(g:Nat)(A:Option Addr)(c:Nat)(bs:List Int)(p:Nat)(h:List Int×List Int×Nat×Int)(e:Ending)(w':World):Prop:=
 ∃ (v1 v2:Value) (q:Nat),e=.returned (.tuple #[v1,v2,.int .i64 h.2.2.2])/\w'.ownsRow w.heap.size 3 1 v1 h.1.length (ints .i64 h.1)/\w'.ownsRow w.heap.size 3 1 v2 h.2.1.length (ints .i64 h.2.1) /\
  Rdr w' g A c bs q/\p<=q/\(h.2.2.2=0->q=p+h.2.2.1)/\Keeps [g] w w'
theorem a1P{w w':World}{g:Nat}{A:Option Addr}{c:Nat}{bs:List Int}{p q:Nat}{h:List Int×List Int×Nat×Int}{e:Int}(hh:h=([],[],0,e))(he:e≠0)(hr:Rdr w' g A c bs q)(hp:p<=q)(hk:Keeps [g] w w') :
  c0j w g A c bs p h (.returned (.tuple #[.slice none 0 0,.slice none 0 0,.int .i64 e])) w':=by
 subst hh
 exact⟨_,_,q,rfl,c1A _ _ _ _,c1A _ _ _ _,hr,hp,fun h=>absurd h he,hk⟩
theorem b3U(w:World)(g:Nat)(A:Option Addr)(c:Nat)(bs:List Int)(p:Nat)(hT:Tabs w)(hg:gtop<=g)(hr:Rdr w g A c bs p)(ha:∀ a,A=some a->a.block<w.heap.size) :
  Calls Tryz.prog 179 #[.pointer (some ⟨g,0,none⟩)] w (c0j w g A c bs p (headF bs p)):=by
 have hglt:=hr.lt
 have hple:=hr.le
 have hsz:=hr.size
 obtain⟨rb,hrb⟩:∃ x,x=w.heap.size:=⟨_,rfl⟩
 obtain⟨eb,heb⟩:∃ x,x=w.heap.size+1:=⟨_,rfl⟩
 obtain⟨w0,hw0⟩:∃ w0,w0=(w.alloc (.cells #[.pointer (some ⟨g,0,none⟩)] 176)).alloc (.cells #[.int .i64 0] 27):=⟨_,rfl⟩
 have k1:Keeps [] w w0:=by rw[hw0];exact ((Keeps.refl [] w).alloc _).alloc _
 have H0:Hid (Hd w0 rb eb g A c bs p 0):=by
  rw[hrb,heb,hw0]
  exact c1n ⟨by rw[<-hw0];exact hr.dr k1,⟨by simp,by simp⟩,⟨by simp,by simp⟩,by omega,by omega,ha⟩
 have K0:=c1n (k1.mono (by simp):Keeps [g] w w0)
 have HT:=c1n hT
 have HRB:Hid (w.heap.size<=rb):=c1n (by omega)
 have HEB:Hid (w.heap.size<=eb):=c1n (by omega)
 have HA:=c1n ha
 have hre:rb<eb:=by omega
 have hgr:g<rb:=by omega
 clear hr ha hT k1
 go_enter Tryz.func179,Tryz.ntmps179
 go_wp2_with fail
 change Calls _ _ #[.int .i64 5,.pointer (some ⟨w.heap.size,0,none⟩),.pointer (some ⟨w.heap.size+1,0,none⟩)] ((w.alloc (.cells #[.pointer (some ⟨g,0,none⟩)] 176)).alloc (.cells #[.int .i64 0] 27)) _
 rw[<-hw0,<-heb,<-hrb]
 clear hw0 hrb heb
 refine (a4o _ _ _ _ _ _ p 5 0 bs H0.out (.inl rfl) (by omega)).mono ?_
 rintro _ w1 ⟨v1,q1,E1,rfl,hh1,hk1,v10,v11,hq1,hc1⟩
 have H1:=c1n hh1
 have K1:=c1n (K0.out.then hk1 (fun x hx=>by
  rcases c1G.1 hx with rfl|hx
  ·exact Or.inl (by simp)
  ·rw[c1o.1 hx];exact Or.inr HEB.out))
 have hE1:E1=0∨E1=10:=by omega
 clear hh1 hk1 H0 K0
 go_wp2_with fail
 refine (a4o _ _ _ _ _ _ q1 5 E1 bs H1.out hE1 (by omega)).mono ?_
 rintro _ w2 ⟨v2,q2,E2,rfl,hh1,hk1,v20,v21,hq2,hc2⟩
 have H2:=c1n hh1
 have K2:=c1n (K1.out.then hk1 (fun x hx=>by
  rcases c1G.1 hx with rfl|hx
  ·exact Or.inl (by simp)
  ·rw[c1o.1 hx];exact Or.inr HEB.out))
 have hE2:E2=0∨E2=10:=by omega
 clear hh1 hk1 H1 K1
 go_wp2_with fail
 refine (a4o _ _ _ _ _ _ q2 4 E2 bs H2.out hE2 (by omega)).mono ?_
 rintro _ w3 ⟨v3,q3,E3,rfl,hh1,hk1,v30,v31,hq3,hc3⟩
 have H3:=c1n hh1
 have K3:=c1n (K2.out.then hk1 (fun x hx=>by
  rcases c1G.1 hx with rfl|hx
  ·exact Or.inl (by simp)
  ·rw[c1o.1 hx];exact Or.inr HEB.out))
 have hpq:p<=q3:=by omega
 have HC:Hid ((p+14<=8*bs.length/\E3=0/\v1=numB bs p 5/\v2=numB bs (p+5) 5/\v3=numB bs (p+10) 4/\q3=p+14)∨(8*bs.length<p+14/\E3=10)):=by
  rcases hc1 with⟨_,a1,rfl,rfl,rfl⟩|⟨a1,rfl⟩
  ·rcases hc2 with⟨_,a2,rfl,rfl,rfl⟩|⟨a2,rfl⟩
   ·rcases hc3 with⟨_,a3,rfl,rfl,rfl⟩|⟨a3,rfl⟩
    ·exact c1n (.inl ⟨by omega,rfl,rfl,rfl,rfl,rfl⟩)
    ·exact c1n (.inr ⟨by omega,rfl⟩)
   ·exact c1n (.inr ⟨by omega,by omega⟩)
  ·exact c1n (.inr ⟨by omega,by omega⟩)
 clear hh1 hk1 H2 K2 hc1 hc2 hc3 hE1 hE2 hq1 hq2 hq3
 have ce:=H3.out.bxe.cell
 have fe:=H3.out.bxe.free
 rcases HC.out with⟨hfit,rfl,hv1,hv2,hv3,rfl⟩|⟨hend,rfl⟩
 ·clear HC
  have HV1:=c1n hv1
  have HV2:=c1n hv2
  have HV3:=c1n hv3
  clear hv1 hv2 hv3
  by_cases hb1:286<257+v1
  ·have HRES:Hid (headF bs p=([],[],0,40)):=c1n (by unfold headF;rw[if_neg (by omega),if_pos (by left;have:=HV1.out;omega)])
   have e1:decide (286<257+v1)=true:=by simpa using hb1
   go_wp2_with fail
   have H4:=H3.out.set 40
   have c4:=H4.bxe.cell
   exact c1B (v:=.tuple #[.slice none 0 0,.slice none 0 0,.int .i64 40]) (by simp[results,c1v,go_sem,c4]) rfl (a1P HRES.out (by first|decide|assumption) H4.rd hpq (K3.out.setCell (p:=⟨eb,0,none⟩) (Or.inr HEB.out) _))
  have e1:decide (286<257+v1)=false:=by simpa using hb1
  by_cases hb2:30<1+v2
  ·have HRES:Hid (headF bs p=([],[],0,40)):=c1n (by unfold headF;rw[if_neg (by omega),if_pos (by right;have:=HV2.out;omega)])
   have e2:decide (30<1+v2)=true:=by simpa using hb2
   go_wp2_with fail
   have H4:=H3.out.set 40
   have c4:=H4.bxe.cell
   exact c1B (v:=.tuple #[.slice none 0 0,.slice none 0 0,.int .i64 40]) (by simp[results,c1v,go_sem,c4]) rfl (a1P HRES.out (by first|decide|assumption) H4.rd hpq (K3.out.setCell (p:=⟨eb,0,none⟩) (Or.inr HEB.out) _))
  have e2:decide (30<1+v2)=false:=by simpa using hb2
  have HNB:Hid (¬(29<numB bs p 5∨29<numB bs (p+5) 5)):=c1n (by have:=HV1.out;have:=HV2.out;omega)
  obtain⟨mn,hmn⟩:∃ mn,mn=a3x bs p:=⟨_,rfl⟩
  have hmn2:4+v3=(mn:Int):=by rw[hmn];unfold a3x;rw[<-HV3.out];omega
  have hmn3:mn<=19:=by rw[hmn];exact b7E bs p
  have HMN:=c1n hmn
  obtain⟨lit,hlit⟩:∃ x,x=litF bs p:=⟨_,rfl⟩
  obtain⟨dist,hdist⟩:∃ x,x=distF bs p:=⟨_,rfl⟩
  have hl2:257+v1=(lit:Int):=by rw[hlit];unfold litF;rw[<-HV1.out];omega
  have hd2:1+v2=(dist:Int):=by rw[hdist];unfold distF;rw[<-HV2.out];omega
  have hlb:lit<=286:=by omega
  have hdb:dist<=30:=by omega
  have hd1:1<=dist:=by omega
  have HLI:=c1n hlit
  have HDI:=c1n hdist
  clear hmn hlit hdist HV1 HV2 HV3
  have e1':decide (286<(lit:Int))=false:=by simp;omega
  have e2':decide (30<(dist:Int))=false:=by simp;omega
  clear e1 e2 v10 v11 v20 v21 hb1 hb2
  have hmk:=fun w=>a1c (P:=Tryz.prog) w 90 3 .i64 8 c1z a1r 19 19 rfl (by omega) (by omega)
  obtain⟨gc,hgc⟩:∃ x,x=w3.heap.size:=⟨_,rfl⟩
  obtain⟨w4,hw4⟩:∃ x,x=w3.alloc (.cells (ints .i64 (List.replicate 19 0)).toArray 3):=⟨_,rfl⟩
  have hk4:Keeps [] w3 w4:=by rw[hw4];exact (Keeps.refl [] w3).alloc _
  have HC4:Hid (Blk w4 gc 3 (ints .i64 (cL bs (p+14) 0))):=by rw[hw4,hgc];exact c1n (a0d w3 _ _)
  have H4:=c1n (H3.out.keeps hk4 (by simp) (by simp) (by simp) (a0a _))
  have K4:=c1n (K3.out.trans (hk4.mono (by simp)))
  have hgce:eb<gc:=by have:=H3.out.bxe.lt;omega
  have hgcg:gc≠g:=by omega
  have HGC:Hid (w.heap.size<=gc):=c1n (by have:=HEB.out;omega)
  clear hk4 H3 K3
  have hsl:=fun w=>a9P w 1 mn hmn3
  go_upto_region 10 with (fail)
  change Code.wp _ _ _ _ (w3.alloc (.cells (ints .i64 (List.replicate 19 0)).toArray 3))
  rw[<-hw4,<-hgc]
  clear hw4 hgc hmk
  go_wp2_with fail
  go_loopw [43] (fun iv wr=>∃ (i q:Nat) (E:Int) (cs:List Int),i<=mn/\iv=.int .i64 i/\cs.length=19/\p<=q/\(E=0∨E=10)/\Hid ((p+14+3*i<=8*bs.length/\E=0/\q=p+14+3*i/\cs=cL bs (p+14) i)∨(8*bs.length<p+14+3*i/\E=10)) /\
   Hid (Blk wr gc 3 (ints .i64 cs))/\Hid (Hd wr rb eb g A c bs q E)/\Hid (Keeps [g] w wr)) (fun iv _=>mn-(intOf iv).toNat)
  case atStart=>exact⟨0,p+14,0,cL bs (p+14) 0,by omega,rfl,a7k _ _ _,by omega,.inl rfl,c1n (.inl ⟨by omega,rfl,rfl,rfl⟩),HC4,H4,K4⟩
  case round=>
   clear HC4 H4 K4
   obtain⟨i,q,E,cs,hi,rfl,hcl,hq,hE,HI,HC,H,HK⟩:=hrel
   by_cases hlt:i<mn
   ·have e0:decide (i<mn)=true:=by simpa using hlt
    obtain⟨o0,o1⟩:=a5y i (by omega)
    have ho:=(HT.out.keeps HK.out (fun x hx=>by rw[c1o.1 hx];exact hg)).ord.cell _ _ rfl i (by omega)
    rw[c1E] at ho
    have HCL:Hid (cL bs (p+14) (i+1)=(cL bs (p+14) i).set (nth orderL i).toNat (numB bs (p+14+3*i) 3)):=c1n rfl
    obtain⟨o,hoo⟩:∃ o:Nat,nth orderL i=o:=⟨(nth orderL i).toNat,by omega⟩
    rw[hoo] at ho o1 HCL
    rw[Int.toNat_natCast] at HCL
    have ho19:o<19:=by omega
    clear hoo o0 o1
    go_wp2_with fail
    refine (a4o _ _ _ _ _ _ q 3 E bs H.out hE (by omega)).mono ?_
    rintro _ w5 ⟨v,q',E',rfl,hh5,hk5,hv0,hv1,hq',hc'⟩
    have hb5:=HC.out.keeps hk5 (by simp;omega)
    have hc5:=hb5.cell o
    rw[show (ints .i64 cs)[o]? =some (.int .i64 (nth cs o)) by rw[a0e];simp[nth,List.getD,show o<cs.length by omega]] at hc5
    have hf5:=hb5.frozen o
    obtain⟨hE',hI'⟩:=b0L HCL.out HI.out hc'
    have HI':=c1n hI'
    have ks:Keeps [gc] w5 (w5.setCell ⟨gc,o,none⟩ (.int .i64 v)):=(Keeps.refl [gc] w5).setCell (p:=⟨gc,o,none⟩) (Or.inl (by simp)) _
    have HC':Hid (Blk (w5.setCell ⟨gc,o,none⟩ (.int .i64 v)) gc 3 (ints .i64 (cs.set o v))):=c1n (by
     have:=hb5.set o (.int .i64 v)
     rwa [show (ints .i64 cs).set o (.int .i64 v)=ints .i64 (cs.set o v) by simp[ints,List.map_set]] at this)
    have H':=c1n (hh5.keeps ks (by simpa using Ne.symm hgcg) (by simp;omega) (by simp;omega) (fun a ha hm=>by have:=HA.out a ha;rw[c1o.1 hm] at this;have:=HGC.out;omega))
    have HK':=c1n ((b7r HK.out hk5 HEB.out).setCell (p:=⟨gc,o,none⟩) (Or.inr HGC.out) (.int .i64 v))
    clear hh5 hk5 hb5 hI' hc' ks HC H HK HI HCL ho
    go_wp2_with fail
    go_roundw
    case rel=>exact⟨i+1,q',E',cs.set o v,by omega,by go_num,by rw[List.length_set];exact hcl,by omega,hE',HI',HC',H',HK'⟩
    case measure=>simp[intOf];omega
   ·obtain rfl:i=mn:=by omega
    have e0:decide (i<i)=false:=by simp
    have ce:=H.out.bxe.cell
    have fe:=H.out.bxe.free
    rcases HI.out with⟨hf3,rfl,rfl,rfl⟩|⟨hend,rfl⟩
    ·clear HI
     obtain⟨cd,hcd⟩:∃ cd,cd=cL bs (p+14) i:=⟨_,rfl⟩
     have hcl':cd.length=19:=by rw[hcd];exact a7k _ _ _
     have HCD:Hid (cd=codesH bs p):=c1n (by rw[hcd];unfold codesH;rw[<-HMN.out])
     rw[<-hcd] at HC
     have HCR:Hid (RI .i64 wr (some ⟨gc,0,none⟩) 19 cd):=c1n (by
      have:=Blk.ri (xs:=cd) (ys:=[]) (by rw[List.append_nil];exact HC.out)
      rwa [hcl'] at this)
     have HF3:Hid (¬(8*bs.length<p+14+3*a3x bs p)):=c1n (by rw[<-HMN.out];omega)
     have HQ:Hid (p+14+3*i=p+14+3*a3x bs p):=c1n (by rw[<-HMN.out])
     have HF1:Hid (¬8*bs.length<p+14):=c1n (by omega)
     clear hcd HC hcl
     obtain⟨wc,hwc⟩:∃ x:World,x=wr:=⟨_,rfl⟩
     rw[<-hwc] at H HK HCR ce fe ⊢
     clear hwc
     go_wp2_with fail
     refine (a6p wc _ _ _ cd HCR.out (by omega)).mono ?_
     rintro e w6 ⟨hb6,hmade⟩
     have hk6:=Keeps.of_below hb6 (S:=[])
     have H6:=c1n (H.out.keeps hk6 (by simp) (by simp) (by simp) (a0a _))
     have K6:=c1n (HK.out.trans (hk6.mono (by simp)))
     have c6:=H6.out.bxe.cell
     have f6:=H6.out.bxe.free
     have hgd:g<wc.heap.size:=H.out.rd.lt
     have hebd:eb<wc.heap.size:=H.out.bxe.lt
     clear ce fe H HK HCR hb6 hk6
     by_cases hck:a0f cd=0
     ·rw[if_pos hck] at hmade
      obtain⟨gd,rfl,hd,hgd2⟩:=hmade
      have HCK:=c1n hck
      obtain⟨w7,hw7⟩:∃ x,x=w6.setCell ⟨eb,0,none⟩ (.int .i64 0):=⟨_,rfl⟩
      have hk7:Keeps [eb] w6 w7:=by rw[hw7];exact (Keeps.refl [eb] w6).setCell (p:=⟨eb,0,none⟩) (Or.inl (by simp)) _
      have H7:Hid (Hd w7 rb eb g A c bs (p+14+3*i) 0):=by rw[hw7];exact c1n (H6.out.set 0)
      have K7:Hid (Keeps [g] w w7):=by rw[hw7];exact c1n (K6.out.setCell (p:=⟨eb,0,none⟩) (Or.inr HEB.out) _)
      have D7:=c1n (Dec.apart (gr:=g) (show Dec w7 gd cd from DSt.keeps hd hk7 (fun x hx=>by rw[c1o.1 hx];exact Or.inl (by omega))) (by omega))
      have T7:=c1n (HT.out.keeps K7.out (fun x hx=>by rw[c1o.1 hx];exact hg))
      obtain⟨b0,hb0⟩:∃ x,x=w7.heap.size:=⟨_,rfl⟩
      have c7:=H7.out.bxe.cell
      obtain⟨N,hN⟩:∃ N,N=lit+dist:=⟨_,rfl⟩
      have HRR0:Hid (readR bs p=stepsF cd bs N N [] (p+14+3*i)):=c1n (by
       unfold readR
       rw[<-HCD.out,HQ.out,hN,HLI.out,HDI.out])
      have hNb:N<=316:=by omega
      have hN3:IntKind.i64.wrap ((lit:Int)+(dist:Int))=(N:Int):=by rw[show (lit:Int)+(dist:Int)=(N:Int) by omega];exact c1r _ (by omega)
      have hLN:lit<N:=by omega
      have HE1:Hid (∀ e,(readR bs p).2.2=e->e≠0->headF bs p=([],[],0,e)):=c1n (fun e h he=>b7h HF1.out HNB.out HF3.out (by rw[<-HCD.out];exact HCK.out) h he)
      have HE2:Hid (∀ l q,readR bs p=(l,q,0)->headF bs p=(l.take lit,l.drop lit,q-p,0)):=c1n (fun l q h=>by rw[HLI.out];exact b5e HF1.out HNB.out HF3.out (by rw[<-HCD.out];exact HCK.out) h)
      have hpi:p<=p+14+3*i:=by omega
      have hb0w:w.heap.size<=b0:=by rw[hb0];exact K7.out.size
      have hb0g:g<b0:=by omega
      have hb0e:eb<b0:=by rw[hb0];exact H7.out.bxe.lt
      have HW7:Hid (Keeps [g] w7 w7):=c1n (Keeps.refl _ _)
      clear hN hck hd hk7 e1' e2' hl2 hd2 hmn2 HF3 HQ HCD HLI HDI HNB HMN H6 K6 HF1
      go_wp2_with fail
      rw[<-hw7]
      clear hw7
      go_loopw [13] (fun lv wr=>∃ (f q len cc:Nat) (l:List Int) (AL:Option Addr),lv=.slice AL len cc/\len<=N/\N<=len+f/\p<=q/\Hid (readR bs p=stepsF cd bs N f l q)/\Hid (wr.ownsRow b0 3 1 (.slice AL len cc) len (ints .i64 l)) /\
       Hid (Rdr wr g A c bs q)/\Hid (Keeps [g] w7 wr)) (fun lv _=>N-sLen lv)
      case atStart=>exact⟨N,p+14+3*i,0,0,[],none,rfl,by omega,by omega,hpi,HRR0,c1n (c1A _ _ _ _),c1n H7.out.rd,HW7⟩
      case round=>
       clear HRR0 HW7
       obtain⟨f,q,len,cc,l,AL,rfl,hlen,hf,hpq',HRD,HLO,HR,HK⟩:=hrel
       have HLEN:Hid (l.length=len):=c1n (by have:=HLO.out.1;simpa [ints] using this)
       by_cases hlt2:len<N
       ·have e4:decide ((len:Int)<(N:Int))=true:=by simp;omega
        obtain⟨f',rfl⟩:∃ f',f=f'+1:=⟨f-1,by omega⟩
        have HUN:Hid (readR bs p=if (decF cd bs q).2.1≠0 then ([],q,(decF cd bs q).2.1)
          else if 8*bs.length<q+(decF cd bs q).2.2+wN (decF cd bs q).1 then ([],q,10)
          else match addF l (decF cd bs q).1 (numB bs (q+(decF cd bs q).2.2) (wN (decF cd bs q).1)) N with
           | none=>([],q,41)
           | some l'=>stepsF cd bs N f' l' (q+(decF cd bs q).2.2+wN (decF cd bs q).1)):=c1n (by
         rw[HRD.out,stepsF,if_neg (by rw[HLEN.out];omega)]
         rfl)
        have hqT:=HR.out.le
        clear HRD
        obtain⟨wl,hwl⟩:∃ x:World,x=wr:=⟨_,rfl⟩
        rw[<-hwl] at HLO HR HK ⊢
        clear hwl
        have kr:=(H7.out.bxr.keeps HK.out (by simp;omega)).cell
        go_wp2_with fail
        refine (a3G wl gd g cd A c bs q (D7.out.keeps HK.out (fun x hx=>c1o.1 hx)) HR.out (by omega)).mono ?_
        rintro _ w8 ⟨rfl,hr8,hk8⟩
        have HK8:=c1n (HK.out.trans hk8)
        have HLO8:=c1n (a0b HLO.out hk8 (fun x hx hm=>by have:=(HLO.out.lt x hx).1;rw[c1o.1 hm] at this;omega))
        have HR8:=c1n hr8
        have HBD:=c1n (b4V cd bs q hqT)
        clear hr8 hk8 HR HK HLO kr
        generalize decF cd bs q=d at *
        obtain⟨sy0,er,k⟩:=d
        have HR8':Hid (Rdr w8 g A c bs (q+k)):=HR8
        simp only[] at HBD HUN
        have b8:=H7.out.bxe.keeps HK8.out (by simp;omega)
        have ce8:=b8.cell
        have fe8:=b8.free
        have hse:∀ (W:World) (e:Int),Keeps [eb] W (W.setCell ⟨eb,0,none⟩ (.int .i64 e)):=fun W e=>(Keeps.refl [eb] W).setCell (p:=⟨eb,0,none⟩) (Or.inl (by simp)) _
        have hoE:Off [eb] A:=fun a ha hm=>by have:=HA.out a ha;rw[c1o.1 hm] at this;have:=HEB.out;omega
        have hge:g∉[eb]:=by simp;omega
        by_cases her:er=0
        ·subst her
         obtain⟨j,rfl,hj,hpk⟩:∃ j:Nat,sy0=j/\j<19/\q+k<=8*bs.length:=by
          rcases HBD.out with⟨_,j,h1,h2,h3⟩|⟨h,_⟩
          ·exact⟨j,h1,by omega,h3⟩
          ·exact absurd rfl h
         clear HBD HR8
         have kr:=(H7.out.bxr.keeps HK8.out (by simp;omega)).cell
         have kw:=(T7.out.keeps HK8.out (fun x hx=>by rw[c1o.1 hx];exact hg)).wid.cell _ _ rfl j (by omega)
         rw[c1E,b6v j hj] at kw
         have hw7:=b9Y (j:Int)
         obtain⟨W,hW⟩:∃ W,W=wN (j:Int):=⟨_,rfl⟩
         rw[<-hW] at kw hw7 HUN
         have s1:(j:Int)<19:=by omega
         have s2:(0:Int)<=(j:Int):=by omega
         have s3:IntKind.i64.wrap (j:Int)=(j:Int):=c1r _ (by omega)
         clear hW
         by_cases hov:8*bs.length<q+k+W
         ·have HRES:=c1n (HE1.out 10 (by rw[HUN.out,if_neg (by simp),if_pos hov]) (by decide))
          clear HUN
          go_wp2_with fail
          go_region_with (first|(go_at_call 160;refine (a5C _ g A c bs (q+k) W (HR8'.out.dr (Keeps.refl [] w8).drew) (by omega) (by omega)).mono ?_;rintro _ w9 ⟨rfl,hd9⟩))
          all_goals (
           have HK9:=HK8.out.trans (((Keeps.refl [g] w8).drew).trans (hd9.keeps (S:=[g])))
           have HR9:=(HR8'.out.dr (Keeps.refl [] w8).drew).dr (hd9.keeps (S:=[]))
           have b9:=H7.out.bxe.keeps HK9 (by simp;omega)
           have ce9:=b9.cell
           have fe9:=b9.free
           go_wp2_with fail
           have c4:=(b9.set (.int .i64 10)).cell
           exact c1B (v:=.tuple #[.slice none 0 0,.slice none 0 0,.int .i64 10]) (by simp[results,c1v,go_sem,c4]) rfl (a1P HRES.out (by decide) (HR9.keeps (hse _ _) hge hoE) (by omega) ((K7.out.trans HK9).setCell (p:=⟨eb,0,none⟩) (Or.inr HEB.out) _)))
         ·have HUN2:Hid (readR bs p=match addF l (j:Int) (numB bs (q+k) W) N with
           | none=>([],q,41)
           | some l'=>stepsF cd bs N f' l' (q+k+W)):=c1n (by rw[HUN.out,if_neg (by simp),if_neg hov])
          clear HUN
          obtain⟨n0,n1⟩:=a0Q bs (q+k) W
          have n2:=a2s W (by omega)
          have hex:Hid (numB bs (q+k) W=numB bs (q+k) W):=c1n rfl
          have e5:IntKind.i64.wrap (numB bs (q+k) W)=numB bs (q+k) W:=c1r _ (by omega)
          go_wp2_with fail
          go_region_with (first|(go_at_call 160;refine (a3w _ g A c bs (q+k) W (HR8'.out.dr (Keeps.refl [] w8).drew) (by omega) (by omega)).mono ?_;rintro _ w9 ⟨rfl,hr9,hk9⟩))
          all_goals (
           have HK9:=c1n (HK8.out.trans (((Keeps.refl [g] w8).drew).trans hk9))
           have HR9:=c1n hr9
           have HLO9:=c1n (a0b HLO8.out (((Keeps.refl [g] w8).drew).trans hk9) (fun x hx hm=>by have:=(HLO8.out.lt x hx).1;rw[c1o.1 hm] at this;omega))
           have HT9:=c1n (T7.out.keeps HK9.out (fun x hx=>by rw[c1o.1 hx];exact hg))
           have hb9:b0<=w9.heap.size:=by rw[hb0];exact HK9.out.size
           clear hr9 hk9 HK8 HLO8 HR8' kr kw ce8 fe8 b8 hov
           generalize numB bs (q+k) W=ex at *
           generalize hqq:q+k+W=q2 at *
           have hpq2:p<=q2:=by omega
           go_wp2_with fail
           refine (b4w w9 b0 len _ l j ex N hb9 HT9.out HLO9.out (by omega)).mono ?_
           intro e w10 hv
           have hw70:w7.heap.size<=b0:=by omega
           have hAb:∀ a,A=some a->a.block<b0:=fun a ha=>by have:=HA.out a ha;omega
           cases haf:addF l (j:Int) ex N with
           | none=>
            rw[haf] at hv
            obtain⟨rfl,hb10⟩:=hv
            have HRES:=c1n (HE1.out 41 (by rw[HUN2.out,haf]) (by decide))
            have HK10:=HK9.out.under hb10 hw70
            have HR10:=HR9.out.below hb10 hb0g hAb
            have b10:=H7.out.bxe.keeps HK10 (by simp;omega)
            have ce10:=b10.cell
            have fe10:=b10.free
            go_wp2_with fail
            have c4:=(b10.set (.int .i64 41)).cell
            exact c1B (v:=.tuple #[.slice none 0 0,.slice none 0 0,.int .i64 41]) (by simp[results,c1v,go_sem,c4]) rfl (a1P HRES.out (by decide) (HR10.keeps (hse _ _) hge hoE) (by omega) ((K7.out.trans HK10).setCell (p:=⟨eb,0,none⟩) (Or.inr HEB.out) _))
           | some l'=>
            rw[haf] at hv
            obtain⟨v10,rfl,ho10,hb10⟩:=hv
            obtain⟨g1,g2,-⟩:=a4B haf
            obtain⟨A10,c10,rfl⟩:=a1N ho10
            have HRD10:Hid (readR bs p=stepsF cd bs N f' l' q2):=c1n (by rw[HUN2.out,haf])
            have HK10:=c1n (HK9.out.under hb10 hw70)
            have HR10:=c1n (HR9.out.below hb10 hb0g hAb)
            have HLO10:=c1n ho10
            have hlen':=HLEN.out
            clear ho10 hb10 HK9 HR9 HLO9 HT9 HUN2
            go_wp2_with fail
            go_roundw
            case rel=>exact⟨f',q2,l'.length,c10,l',A10,rfl,by omega,by omega,hpq2,HRD10,HLO10,HR10,HK10⟩
            case measure=>simp[sLen];omega)
        ·have HRES:=c1n (HE1.out er (by rw[HUN.out,if_pos her]) her)
         have e5:(er !=0)=true:=by simpa using her
         clear HUN HBD
         go_wp2_with fail
         have c4:=(b8.set (.int .i64 er)).cell
         exact c1B (v:=.tuple #[.slice none 0 0,.slice none 0 0,.int .i64 er]) (by simp[results,c1v,go_sem,c4]) rfl (a1P HRES.out her (HR8'.out.keeps (hse _ _) hge hoE) (by omega) ((K7.out.trans HK8.out).setCell (p:=⟨eb,0,none⟩) (Or.inr HEB.out) _))
       ·obtain rfl:len=N:=by omega
        have e4:decide ((len:Int)<(len:Int))=false:=by simp
        have HRES:=c1n (HE2.out l q (by rw[HRD.out,a6N _ _ _ _ _ _ (by rw[HLEN.out];omega)]))
        obtain⟨A9,c9,hv9,hri9,hcap9,-,-,hbk9⟩:=b7N HLO.out
        injection hv9 with hv1 hv2 hv3
        subst hv1
        subst hv3
        obtain⟨ab,ao,rfl⟩:=hri9.hd (by omega)
        have hr0:=hri9.keeps (Keeps.refl [] wr).drew (a0a _)
        have hr1:RI .i64 wr.drew (some ⟨ab,ao,none⟩) lit (l.take lit):=hr0.take (by omega)
        have hl2':(l.drop lit).length=len-lit:=by rw[List.length_drop,HLEN.out]
        have hr2:RI .i64 wr.drew (some ⟨ab,ao+lit,none⟩) (len-lit) (l.drop lit):=⟨hl2',fun _=>⟨_,_,rfl⟩,fun b' o' ha j hj=>by
         injection ha with ha;injection ha with h1 h2 h3;subst h1;subst h2
         have:=hr0.cell ab ao rfl (lit+j) (by omega)
         rw[show ao+lit+j=ao+(lit+j) by omega,this]
         simp[nth,List.getD]⟩
        have HR1:=c1n hr1
        have HR2:=c1n hr2
        have t2:(0:Int)<=(lit:Int):=by omega
        have t3:(lit:Int)<=(len:Int):=by omega
        have t4:(lit:Int)<=(cc:Int):=by omega
        have t5:lit<=len:=by omega
        have t6:lit<=cc:=by omega
        have t7:¬cc=lit:=by omega
        have t8:¬lit=cc:=by omega
        have hwlt:w7.heap.size<=wr.heap.size:=HK.out.size
        have b8:=H7.out.bxe.keeps HK.out (by simp;omega)
        have HB8:=c1n b8
        clear HRD hri9 hv2 hr0 hr1 hr2 b8
        go_wp2_with fail
        go_region_with (first
         | (go_at_call_of 185 (some (Addr.mk ab ao none));refine (a5a _ _ _ _ (l.take lit) (by first|exact HR1.out|exact HR1.out.keeps (Keeps.of_below hbB) (a0a _)) (by simp) (by intro ad h;exact⟨_,_,(Option.some.inj h).symm⟩) (by omega)).mono ?_;rintro _ wA ⟨vA,rfl,hoA,hbA⟩;have bxA:Box wA eb (.int .i64 0):=(by first|exact HB8.out.keeps ((Keeps.refl [] wr).drew.trans (Keeps.of_below hbA)) (by simp)|exact bxB.keeps (Keeps.of_below (S:=[]) hbA) (by simp));have ceA:=bxA.cell;have feA:=bxA.free)
         | (go_at_call_of 185 (some (Addr.mk ab (ao+lit) none));refine (a5a _ _ _ _ (l.drop lit) (by first|exact HR2.out|exact HR2.out.keeps (Keeps.of_below hbA) (a0a _)) (by simp) (by intro ad h;exact⟨_,_,(Option.some.inj h).symm⟩) (by omega)).mono ?_;rintro _ wB ⟨vB,rfl,hoB,hbB⟩;have bxB:Box wB eb (.int .i64 0):=(by first|exact HB8.out.keeps ((Keeps.refl [] wr).drew.trans (Keeps.of_below hbB)) (by simp)|exact bxA.keeps (Keeps.of_below (S:=[]) hbB) (by simp));have ceB:=bxB.cell;have feB:=bxB.free))
        all_goals (
         have kA:Keeps [] wr wA:=(Keeps.refl [] wr).drew.trans (Keeps.of_below hbA)
         have kB:Keeps [] wA wB:=Keeps.of_below hbB
         have hwr:wr.heap.size<=wA.heap.size:=kA.size
         have hebw:eb<wr.heap.size:=by omega
         have kS:Keeps [eb] wB (wB.setCell ⟨eb,0,none⟩ (.int .i64 0)):=(Keeps.refl [eb] wB).setCell (p:=⟨eb,0,none⟩) (Or.inl (by simp)) _
         have oA:=a0b (a0b hoA kB (by simp)) kS (fun x hx hm=>by
          have h1:=(hoA.lt x hx).1
          rw[c1o.1 hm] at h1
          have h2:wr.heap.size<=eb:=h1
          omega)
         have oB:=a0b hoB kS (fun x hx hm=>by
          have h1:=(hoB.lt x hx).1
          rw[c1o.1 hm] at h1
          omega)
         have hR:=(((HR.out.dr kA).dr kB).keeps kS (by simp;omega) (fun a ha hm=>by have:=HA.out a ha;rw[c1o.1 hm] at this;have:=HEB.out;omega))
         have hKK:Keeps [g] w (wB.setCell ⟨eb,0,none⟩ (.int .i64 0)):=(((K7.out.trans HK.out).trans (kA.mono (by simp))).trans (kB.mono (by simp))).setCell (p:=⟨eb,0,none⟩) (Or.inr HEB.out) _
         have hww:w.heap.size<=wr.heap.size:=by omega
         have c4:=(bxB.set (.int .i64 0)).cell
         have hl1:(l.take lit).length=lit:=by rw[List.length_take,HLEN.out];omega
         go_wp2_with fail
         refine c1B (v:=.tuple #[vA,vB,.int .i64 0]) (by simp[results,c1v,go_sem,c4]) rfl ?_
         rw[HRES.out]
         exact⟨vA,vB,q,rfl,by rw[hl1];exact oA.mono hww,by rw[hl2'];exact oB.mono (by omega),hR,hpq',fun _=>by simp only[];omega,hKK⟩)
     ·rw[if_neg hck] at hmade
      subst hmade
      have HRES:Hid (headF bs p=([],[],0,a0f cd)):=c1n (by unfold headF;rw[if_neg HF1.out,if_neg HNB.out,if_neg HF3.out,<-HCD.out,if_pos hck])
      have e3:(a0f cd !=0)=true:=by simpa using hck
      generalize a0f cd=er at *
      go_wp2_with fail
      go_region
      go_wp2_with fail
      have H8:=(((H6.out.set er).set er).keeps (Keeps.refl [] _).drew (by simp) (by simp) (by simp) (a0a _))
      have c4:=H8.bxe.cell
      exact c1B (v:=.tuple #[.slice none 0 0,.slice none 0 0,.int .i64 er]) (by simp[results,c1v,go_sem,c4]) rfl (a1P HRES.out hck H8.rd (by omega) ((K6.out.setCell (p:=⟨eb,0,none⟩) (Or.inr HEB.out) _).setCell (p:=⟨eb,0,none⟩) (Or.inr HEB.out) _).drew)
    ·have HRES:Hid (headF bs p=([],[],0,10)):=c1n (by unfold headF;rw[if_neg (by omega),if_neg HNB.out,<-HMN.out,if_pos hend])
     clear HI
     go_wp2_with fail
     go_region
     go_wp2_with fail
     have H5:=(H.out.set 10).keeps (Keeps.refl [] _).drew (by simp) (by simp) (by simp) (a0a _)
     have c4:=H5.bxe.cell
     exact c1B (v:=.tuple #[.slice none 0 0,.slice none 0 0,.int .i64 10]) (by simp[results,c1v,go_sem,c4]) rfl (a1P HRES.out (by first|decide|assumption) H5.rd hq (HK.out.setCell (p:=⟨eb,0,none⟩) (Or.inr HEB.out) _).drew)
 ·have HRES:Hid (headF bs p=([],[],0,10)):=c1n (by unfold headF;rw[if_pos hend])
  clear HC
  go_wp2_with fail
  go_region
  go_wp2_with fail
  have H4:=(H3.out.set 10).keeps (Keeps.refl [] _).drew (by simp) (by simp) (by simp) (a0a _)
  have c4:=H4.bxe.cell
  exact c1B (v:=.tuple #[.slice none 0 0,.slice none 0 0,.int .i64 10]) (by simp[results,c1v,go_sem,c4]) rfl (a1P HRES.out (by first|decide|assumption) H4.rd hpq (K3.out.setCell (p:=⟨eb,0,none⟩) (Or.inr HEB.out) _).drew)
open Go.RowKit
theorem b9w{bs:List Int}{p:Nat}(h:(headF bs p).2.2.2≠0):(headF bs p).2.2.1=0:=by
 unfold headF at h ⊢
 split
 ·rfl
 split
 ·rfl
 split
 ·rfl
 split
 ·rfl
 split
 ·rfl
 ·next h1 h2 h3 h4 h5=>
  rw[if_neg h1,if_neg h2,if_neg h3,if_neg h4,if_neg h5] at h
  exact absurd rfl h
theorem a7c(w:World)(g:Nat)(A:Option Addr)(c:Nat)(bs:List Int)(p:Nat)(hT:Tabs w)(hg:gtop<=g)(hr:Rdr w g A c bs p)(ha:∀ a,A=some a->a.block<w.heap.size) :
  Calls Tryz.prog 168 #[.pointer (some ⟨g,0,none⟩)] w fun e w'=>∃ v1 v2,e=.returned (.tuple #[v1,v2,.int .i64 (headF bs p).2.2.2])/\w'.ownsRow w.heap.size 3 1 v1 (headF bs p).1.length (ints .i64 (headF bs p).1) /\
   w'.ownsRow w.heap.size 3 1 v2 (headF bs p).2.1.length (ints .i64 (headF bs p).2.1)/\Rdr w' g A c bs (p+(headF bs p).2.2.1)/\Keeps [g] w w':=by
 have HR:=c1n hr
 have HT:=c1n hT
 have hsz:=hr.size
 clear hr hT
 go_enter Tryz.func168,Tryz.ntmps168
 go_wp2_with fail
 refine (a4H _ _ _ _ _ _ HR.out).mono ?_
 rintro r w1 ⟨rfl,hd⟩
 have hk1:=hd.keeps (S:=[])
 have H1:=c1n (HR.out.dr hk1)
 have T1:=c1n (HT.out.keeps hk1 (by simp))
 have K1:=c1n (hd.keeps (S:=[g]))
 have HA1:Hid (∀ a,A=some a->a.block<w1.heap.size):=c1n (fun a h=>Nat.lt_of_lt_of_le (ha a h) hk1.size)
 have S1:Hid (w.heap.size<=w1.heap.size):=c1n hk1.size
 clear hd HR HT ha hk1
 go_wp2_with fail
 refine (b3U _ _ _ _ _ _ T1.out hg H1.out HA1.out).mono ?_
 rintro _ w2 ⟨v1,v2,q,rfl,ho1,ho2,hr2,hpq,hq,hk2⟩
 have HO1:=c1n (ho1.mono S1.out)
 have HO2:=c1n (ho2.mono S1.out)
 have H2:=c1n hr2
 have K2:=c1n (K1.out.trans hk2)
 have HGW:Hid (g<w1.heap.size):=c1n H1.out.lt
 have HOW1:=c1n ho1
 have HOW2:=c1n ho2
 have hqT:=hr2.le
 clear ho1 ho2 hr2 hk2 H1 K1 T1 HA1
 by_cases her:(headF bs p).2.2.2=0
 ·have HQ:=c1n (hq her)
  have e1:((headF bs p).2.2.2 !=0)=false:=by simp[her]
  have HER:=c1n her
  clear hq
  obtain⟨A1,c1,rfl⟩:=a1N HO1.out
  obtain⟨A2,c2,rfl⟩:=a1N HO2.out
  go_wp2_with fail
  go_ret3
  exact⟨_,_,by first|rfl|(rw[HER.out];rfl),HO1.out,HO2.out,by rw[<-HQ.out];exact H2.out,K2.out⟩
 ·have HN:=c1n (b9w her)
  have e1:((headF bs p).2.2.2 !=0)=true:=by simpa using her
  obtain⟨A1,c1,rfl⟩:=a1N HO1.out
  obtain⟨A2,c2,rfl⟩:=a1N HO2.out
  clear hq
  generalize hE:(headF bs p).2.2.2=er at *
  go_wp2_with fail
  refine (a4H _ _ _ _ _ _ H2.out).mono ?_
  rintro r w3 ⟨rfl,hd⟩
  have H3:=c1n (H2.out.dr hd.keeps)
  have K3:=c1n (K2.out.trans (hd.keeps (S:=[g])))
  have O1:=c1n (a0b HOW1.out (hd.keeps (S:=[])) (by simp))
  have O2:=c1n (a0b HOW2.out (hd.keeps (S:=[])) (by simp))
  have e2:IntKind.i64.wrap ((q:Int)-(p:Int))=((q-p:Nat):Int):=by rw[show (q:Int)-(p:Int)=((q-p:Nat):Int) by omega];exact c1r _ (by omega)
  clear hd H2 K2 HO1 HO2 HOW1 HOW2
  go_wp2_with fail
  refine (b0D _ _ _ _ _ q (q-p) _ (by first|rfl|omega) H3.out (by omega)).mono ?_
  rintro r w4 ⟨rfl,h4,k4⟩
  have H4:=c1n h4
  have K4:=c1n (K3.out.trans k4)
  have P1:=c1n (a0b O1.out k4 (fun x hx hm=>by have:=(O1.out.lt x hx).1;rw[c1o.1 hm] at this;have:=HGW.out;omega))
  have P2:=c1n (a0b O2.out k4 (fun x hx hm=>by have:=(O2.out.lt x hx).1;rw[c1o.1 hm] at this;have:=HGW.out;omega))
  clear h4 k4 H3 K3 O1 O2
  go_wp2_with fail
  go_ret3
  refine⟨_,_,by rw[hE];rfl,P1.out.mono S1.out,P2.out.mono S1.out,?_,K4.out⟩
  rw[HN.out]
  have:=H4.out
  rwa [show q-(q-p)=p+0 by omega] at this
end Go.Proofs.YtghjlpechjggjaaGreatDoor
