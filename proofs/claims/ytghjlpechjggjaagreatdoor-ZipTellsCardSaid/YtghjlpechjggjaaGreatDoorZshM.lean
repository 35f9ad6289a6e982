import Derived.Test.YtghjlpechjggjaaGreatDoorZshA
import Derived.Test.YtghjlpechjggjaaGreatDoorZshJ
import Derived.Lib.OthersKept
import Derived.Lib.TrimU
import Derived.Laws.RangeAny
import Derived.Laws.Runes
import Derived.Deep.LoopGhost
import Derived.Shelf.Abstract
import Derived.Test.YtghjlpechjggjaaGreatDoorZshD
import Derived.Test.YtghjlpechjggjaaGreatDoorZshC
import Derived.Test.YtghjlpechjggjaaGreatDoorZshF
import Derived.Orders
import Derived.Test.YtghjlpechjggjaaGreatDoorZshG
set_option linter.defProp false
set_option linter.unnecessarySimpa false
set_option linter.unusedVariables false
set_option linter.unusedSimpArgs false
set_option linter.constructorNameAsVariable false
set_option maxRecDepth 100000
set_option maxHeartbeats 60000000
namespace Go.Proofs.YtghjlpechjggjaaGreatDoor
open Go.RowKit
private def c1n := @Lib.hid
private def c1o := @List.length_append
private def c1p := @List.length_cons
private def c1q := @List.append_assoc
private def c1r := @List.mem_cons_self
private def c1s := @List.mem_cons_of_mem
private def c1t := @List.getElem?_cons_zero
private def c1u := @List.length_nil
private def c1v := @List.nil_append
private def c1w := @List.map_cons
private def c1x := @List.take_succ_cons
private def c1y := @List.take_zero
private def c1z := @World.cell?_setCell_other
private def c1A := @Int.toNat_natCast
private def c1B := @List.drop_succ_cons
private def c1C := @IntWalk.i64_in
private def c1D := @List.getElem?_cons_succ
private def c1E := @List.append_nil
private def c1F := @List.mem_append
private def c1G := @List.drop_zero
private def c1H := @World.cell?_of_block
private def c1I := @Nat.le_refl
private def c1J := @beq_eq_false_iff_ne
private def c1K := @List.flatMap_nil
private def c1L := @List.set_cons_succ
private def c1M := @List.set_cons_zero
private def c1N := @List.mem_map
private def c1O := @List.getElem_mem
private def c1P := @Tryz.underlying9
private def c1Q := @ByteArray.toList_eq
private def c1R := @List.length_set
private def c1S := @List.mem_singleton
private def c1T := @List.take_of_length_le
private def c1U := @Classical.not_not
private def c1V := @wpQuiet_nil
private def c1W := @List.set_append_right
private def c1X := @List.take_append_drop
private def c1Y := @Below.refl
private def c1Z := @decide_eq_true
open Go.RowKit
theorem b1G(r:Int)(w:World):Calls Tryz.prog 86 #[.int .i32 r] w fun e w'=>e=.returned (.bool (decide ((0<=r/\r<55296)∨(57343<r/\r<=1114111))))/\w'=w:=by
 by_cases h1:0<=r
 ·by_cases h2:r<55296
  ·have x1:decide (0<=r)=true:=by simpa using h1
   have x2:decide (r<55296)=true:=by simpa using h2
   have HE:=c1n (show decide ((0<=r/\r<55296)∨(57343<r/\r<=1114111))=true by simp;omega)
   clear h1 h2
   go_enter Tryz.func86,Tryz.ntmps86
   go_wp2
   go_ret
   rw[HE.out];exact⟨rfl,rfl⟩
  ·have x1:decide (0<=r)=true:=by simpa using h1
   have x2:decide (r<55296)=false:=by simpa using h2
   by_cases h3:57343<r
   ·have x3:decide (57343<r)=true:=by simpa using h3
    by_cases h4:r<=1114111
    ·have x4:decide (r<=1114111)=true:=by simpa using h4
     have HE:=c1n (show decide ((0<=r/\r<55296)∨(57343<r/\r<=1114111))=true by simp;omega)
     clear h1 h2 h3 h4
     go_enter Tryz.func86,Tryz.ntmps86
     go_wp2
     go_ret
     rw[HE.out];exact⟨rfl,rfl⟩
    ·have x4:decide (r<=1114111)=false:=by simpa using h4
     have HE:=c1n (show decide ((0<=r/\r<55296)∨(57343<r/\r<=1114111))=false by simp;omega)
     clear h1 h2 h3 h4
     go_enter Tryz.func86,Tryz.ntmps86
     go_wp2
     go_ret
     rw[HE.out];exact⟨rfl,rfl⟩
   ·have x3:decide (57343<r)=false:=by simpa using h3
    have HE:=c1n (show decide ((0<=r/\r<55296)∨(57343<r/\r<=1114111))=false by simp;omega)
    clear h1 h2 h3
    go_enter Tryz.func86,Tryz.ntmps86
    go_wp2
    go_ret
    rw[HE.out];exact⟨rfl,rfl⟩
 ·have x1:decide (0<=r)=false:=by simpa using h1
  by_cases h3:57343<r
  ·omega
  ·have x3:decide (57343<r)=false:=by simpa using h3
   have HE:=c1n (show decide ((0<=r/\r<55296)∨(57343<r/\r<=1114111))=false by simp;omega)
   clear h1 h3
   go_enter Tryz.func86,Tryz.ntmps86
   go_wp2
   go_ret
   rw[HE.out];exact⟨rfl,rfl⟩
def zlets:ByteArray:=⟨#[97,98,99,100,101,102,103,104,105,106,107,108,109,110,111,112,113,114,115,116,117,118,119,120,121,122,48,49,50,51,52,53,54,55,56,57,46,95,45,47]⟩
def okB(x:Nat):Bool:=decide ((97<=x/\x<=122)∨(48<=x/\x<=57)∨x=46∨x=95∨x=45∨x=47)
theorem b7x:∀ x,x<128->decide (0<=Lib.indexByte zlets.data.toList x.toUInt8)=okB x:=by decide +kernel
theorem b3D:∀ b∈zlets.data.toList,b.toNat<128:=by decide
theorem b5l(c:UInt8)(a:Nat)(hc:128<=c.toNat):Lib.indexByte (zlets.extract a zlets.size).data.toList c=-1:=by
 rw[<-Lib.firstIdx_eq]
 exact firstIdx_ascii zlets a zlets.size c b3D hc
theorem a8i(w:World)(r:Nat)(hr:r<=1114111) :
  Calls Tryz.prog 54 #[.string zlets,.int .i32 r] w fun e w'=>∃ i:Int,e=.returned (.int .i64 i)/\decide (0<=i)=(decide (r<128)&&okB r)/\Below w.heap.size w w':=by
 by_cases h1:r<128
 ·have x0:decide ((0:Int)<=(r:Int))=true:=by simp
  have x1:decide ((r:Int)<128)=true:=by simp;omega
  have s1:IntKind.u8.wrap (r:Int)=(r:Int):=IntWalk.u8_in _ (by omega)
  have HE:Hid (decide (0<=Lib.indexByte zlets.data.toList ((r:Int)).toNat.toUInt8)=(decide (r<128)&&okB r)):=c1n (by rw[c1A,b7x r h1];simp[h1])
  have HC:=c1n (a6F zlets (r:Int))
  obtain⟨I,hI⟩:∃ I,I=Lib.indexByte zlets.data.toList ((r:Int)).toNat.toUInt8:=⟨_,rfl⟩
  rw[<-hI] at HE HC
  clear hI
  generalize zlets=Z at *
  clear h1
  go_enter Tryz.func54,Tryz.ntmps54
  go_wp2_with fail
  refine (HC.out _).mono ?_
  rintro _ w2 ⟨rfl,rfl⟩
  go_wp2_with fail
  go_ret
  exact⟨I,rfl,HE.out,c1Y _ _⟩
 have HNO:Hid ((decide (r<128)&&okB r)=false):=c1n (by simp[h1])
 have x0:decide ((0:Int)<=(r:Int))=true:=by simp
 have x1:decide ((r:Int)<128)=false:=by simp;omega
 have hZs:zlets.size=40:=rfl
 have HZA:Hid (∀ pos (h:pos<zlets.size),(zlets[pos]'h).toNat<128):=c1n (by decide)
 by_cases h2:r=65533
 ·have x2:decide ((r:Int)=65533)=true:=by simp;omega
  have x2':((r:Int)==65533)=true:=by simp;omega
  have HNI:=c1n h1
  clear h1 h2
  generalize zlets=Z at *
  go_enter Tryz.func54,Tryz.ntmps54
  go_wp2_with fail
  go_loopg [] 41 (fun gf wx=>∃ pos:Nat,wx.heap[w.heap.size]? =some (.stringIter Z pos)/\Hid (Below w.heap.size w wx)/\40<pos+gf)
  case atStart=>exact⟨0,World.iter_heap w Z 0,c1n ((c1Y _ w).alloc (c1I _) _),by omega⟩
  case round=>
   obtain⟨pos,hit,hbw,hleft⟩:=hrel
   by_cases hps:pos<Z.size
   ·obtain⟨g',rfl⟩:∃ g',gk=g'+1:=⟨gk-1,by omega⟩
    have hnx:=fun ty=>Lib.run_next_ascii_at (P:=Tryz.prog) wr w.heap.size Z pos ty hit hps (HZA.out pos hps)
    have hb:=HZA.out pos hps
    have hit2:=Lib.iterAt_heap wr w.heap.size Z pos (pos+1) hit
    have hbw2:=c1n (Lib.below_iterAt hbw.out (k:=w.heap.size) (c1I _) Z (pos+1))
    obtain⟨W,hWd⟩:∃ W,wr.iterAt w.heap.size Z (pos+1)=W:=⟨_,rfl⟩
    rw[hWd] at hnx hit2 hbw2
    obtain⟨b,hbb⟩:∃ b,b=(Z[pos]'hps).toNat:=⟨_,rfl⟩
    rw[<-hbb] at hnx hb
    have y1:((b:Int)==65533)=false:=by simp;omega
    clear hbb
    go_wp2_with fail
    go_roundg g'
    case measure=>omega
    case rel=>exact⟨pos+1,hit2,hbw2,by omega⟩
   ·have hnx:=fun ty=>Lib.run_next_end_at (P:=Tryz.prog) wr w.heap.size Z pos ty hit hps
    go_wp2_with fail
    go_ret
    exact⟨-1,rfl,by rw[HNO.out];rfl,hbw.out⟩
 have x2:decide ((r:Int)=65533)=false:=by simp;omega
 have x2':((r:Int)==65533)=false:=by simp;omega
 have HV:=c1n (b1G (r:Int))
 by_cases h3:((0:Int)<=(r:Int)/\(r:Int)<55296)∨(57343<(r:Int)/\(r:Int)<=1114111)
 ·rw[c1Z h3] at HV
  obtain⟨e1,e2,e3⟩:=encode_facts (r:Int) (by rw[validRune_eq];exact c1Z h3) (by omega)
  obtain⟨E,hE⟩:∃ E,Utf8.encode (r:Int)=E:=⟨_,rfl⟩
  rw[hE] at e1 e2 e3
  have hcv:∀ w,(convert 21 9 (.int .i32 (r:Int))).run Tryz.prog w=.ok (.string E) w:=fun w=>by
   rw[run_convert_int_string w 21 9 .i32 (r:Int) (by rw[Tryz.underlying21];rfl) c1P,hE]
  obtain⟨m,hm⟩:∃ m,E.size=m+1:=⟨E.size-1,by omega⟩
  have hmE:m<E.size:=by omega
  have hi2:∀ w,(Instr.index 9 (.string E) (.int .i64 (m:Int))).run Tryz.prog w=.ok (.int .u8 ((E[m]'hmE).toNat:Int)) w:=fun w=>by
   rw[run_index_string w 9 E .i64 (m:Int) c1P]
   rw[dif_pos ⟨by omega,by omega⟩]
   simp
  have hc128:128<=(E[m]'hmE).toNat:=by
   have h:=e3 (by omega)
   have:E.size-1=m:=by omega
   simp only[this] at h
   exact h
  have hmZ:m<zlets.size:=by omega
  have hi1:∀ w,(Instr.index 9 (.string zlets) (.int .i64 (m:Int))).run Tryz.prog w=.ok (.int .u8 ((zlets[m]'hmZ).toNat:Int)) w:=fun w=>by
   rw[run_index_string w 9 zlets .i64 (m:Int) c1P]
   rw[dif_pos ⟨by omega,by omega⟩]
   simp
  have hb128:=HZA.out m hmZ
  obtain⟨cb,hcb⟩:∃ cb,cb=E[m]'hmE:=⟨_,rfl⟩
  obtain⟨bb,hbb⟩:∃ bb,bb=(zlets[m]'hmZ).toNat:=⟨_,rfl⟩
  rw[<-hcb] at hi2 hc128
  rw[<-hbb] at hi1 hb128
  have HC:Hid (∀ w:World,Calls Tryz.prog 85 #[.string (zlets.extract (m+1) 40),.int .u8 ((cb.toNat:Nat):Int)] w fun e w'=>e=.returned (.int .i64 (-1))/\w'=w):=c1n (fun w=>by
   have:=a6F (zlets.extract (m+1) zlets.size) ((cb.toNat:Nat):Int) w
   rw[c1A,show cb.toNat.toUInt8=cb by simp,b5l cb (m+1) hc128] at this
   exact this)
  have s0:IntKind.i64.wrap ((m:Int)+1)=(m:Int)+1:=c1C _ (by omega)
  have sw0:IntKind.i64.wrap (m:Int)=(m:Int):=c1C _ (by omega)
  have sw:wrap64 (m:Int)=(m:Int):=by unfold wrap64;omega
  have y0:decide ((m:Int)<40)=true:=by simp;omega
  have y0':decide (m<40)=true:=by simp;omega
  obtain⟨c,hc⟩:∃ c:Nat,c=cb.toNat:=⟨_,rfl⟩
  rw[<-hc] at hi2 hc128 HC
  have y1:((bb:Int) !=(c:Int))=true:=by simp;omega
  have hsl:∀ w,(Instr.slice 9 (.string zlets) (some (.int .i64 ((m:Int)+1))) none none).run Tryz.prog w=.ok (.string (zlets.extract (m+1) 40)) w:=fun w=>by
   rw[run_slice_string_l w 9 zlets c1P .i64 ((m:Int)+1) (by omega) (by omega)]
   rw[show ((m:Int)+1).toNat=m+1 by omega]
   rfl
  have HNI:=c1n h1
  have HE12:=c1n (And.intro e1 e2)
  clear h1 h3 e1 e2 e3 hE hcb hbb hc hmE hmZ hZs
  have hZs:zlets.size=40:=rfl
  generalize zlets=Z at *
  go_enter Tryz.func54,Tryz.ntmps54
  go_wp2_with fail
  refine (HV.out _).mono ?_
  rintro _ w2 ⟨rfl,rfl⟩
  go_wp2_with fail
  go_step3
  go_wp2_with fail
  refine wp_loop_rounds 1 ?_
  rw[rounds_succ]
  go_wp2_with fail
  go_step3
  go_wp2_with fail
  go_region
  go_wp2_with fail
  go_quiet (first|(go_at_call 85;exact (HC.out _).mono fun _ _ h=>⟨h.1,_,h.2⟩))
  go_wp2_with fail
  rw[Exit.noGoto_ret]
  simp only[Exit.inBlock,Exit.then]
  rw[Exit.noGoto_ret]
  go_ret
  exact⟨-1,rfl,by rw[HNO.out];rfl,⟨rfl,rfl,rfl,c1I _,fun _ _=>rfl⟩⟩
 ·rw[decide_eq_false h3] at HV
  have HNI:=c1n h1
  clear h1 h2 h3
  generalize zlets=Z at *
  go_enter Tryz.func54,Tryz.ntmps54
  go_wp2_with fail
  refine (HV.out _).mono ?_
  rintro _ w2 ⟨rfl,rfl⟩
  go_wp2_with fail
  go_ret
  exact⟨-1,rfl,by rw[HNO.out];rfl,c1Y _ _⟩
end Go.Proofs.YtghjlpechjggjaaGreatDoor
namespace Go.Proofs.YtghjlpechjggjaaGreatDoor
open Go.RowKit Go.Shelf
def okR(r:Nat):Bool:=decide (r<128)&&okB r
theorem a6Y(w:World)(r:Nat)(hr:r<=1114111) :
  Calls Tryz.prog 33 #[.string zlets,.int .i32 r] w fun e w'=>e=.returned (.bool (okR r))/\Below w.heap.size w w':=by
 have HC:=c1n (a8i w r hr)
 generalize zlets=Z at *
 go_enter Tryz.func33,Tryz.ntmps33
 go_wp2_with fail
 refine HC.out.mono ?_
 rintro _ w2 ⟨i,rfl,hi,hb⟩
 have HB:=c1n hb
 have HI:=c1n hi
 clear hb hi HC
 go_wp2_with fail
 go_ret
 refine⟨?_,HB.out⟩
 have:=HI.out
 show Ending.returned (Value.bool (decide (0<=i)))=_
 rw[this];rfl
theorem a6n(w:World)(r:Nat)(hr:r<=1114111) :
  Calls Tryz.prog 32 #[.int .i32 r] w fun e w'=>e=.returned (.bool (!okR r))/\Below w.heap.size w w':=by
 have hz:zlets=⟨#[97,98,99,100,101,102,103,104,105,106,107,108,109,110,111,112,113,114,115,116,117,118,119,120,121,122,48,49,50,51,52,53,54,55,56,57,46,95,45,47]⟩:=rfl
 have HC:=c1n (a6Y w r hr)
 rw[hz] at HC
 clear hz
 go_enter Tryz.func32,Tryz.ntmps32
 go_wp2_with fail
 refine HC.out.mono ?_
 rintro _ w2 ⟨rfl,hb⟩
 have HB:=c1n hb
 clear hb HC
 go_wp2_with fail
 go_ret
 exact⟨rfl,HB.out⟩
theorem a6a(w:World)(s:ByteArray)(hs:s.size<=1000000000) :
  Calls Tryz.prog 53 #[.string s,.func (.func 32) #[] #[],.bool true] w fun e w'=>∃ i:Int,e=.returned (.int .i64 i)/\decide (i<0)=s.data.toList.all (fun b=>okB b.toNat)/\Below w.heap.size w w':=by
 have hlen:s.data.toList.length=s.size:=by cases s;rfl
 have HL:=c1n hlen
 have HS:=c1n hs
 clear hlen hs
 have eg:∀ args w,(callFunc 32 args).run Tryz.prog w=.ok (.enter 32 args) w:=enters_of Tryz.func32 (by kernel_rfl) rfl
 go_enter Tryz.func53,Tryz.ntmps53
 go_wp2_with fail
 go_loopg [] (s.size+1) (fun gf wx=>∃ pos:Nat,wx.heap[w.heap.size]? =some (.stringIter s pos)/\Hid (Below w.heap.size w wx)/\s.size<pos+gf/\pos<=s.size/\Hid ((s.data.toList.take pos).all (fun b=>okB b.toNat)=true))
 case atStart=>exact⟨0,World.iter_heap w s 0,c1n ((c1Y _ w).alloc (c1I _) _),by omega,by omega,c1n (by simp)⟩
 case round=>
  obtain⟨pos,hit,hbw,hleft,hpz,hall⟩:=hrel
  by_cases hps:pos<s.size
  ·obtain⟨g',rfl⟩:∃ g',gk=g'+1:=⟨gk-1,by omega⟩
   have hpl:pos<s.data.toList.length:=by rw[HL.out];exact hps
   have hbe:s[pos]'hps=s.data.toList[pos]'hpl:=by cases s;rfl
   have hnx:=fun ty=>Lib.run_next_any_at (P:=Tryz.prog) wr w.heap.size s pos ty hit hps
   have hR:=Lib.rune_le s pos
   by_cases h128:(s[pos]'hps).toNat<128
   ·rw[decode_ascii s pos hps h128] at hnx
    have hit2:=Lib.iterAt_heap wr w.heap.size s pos (pos+1) hit
    have hbw2:=c1n (Lib.below_iterAt hbw.out (k:=w.heap.size) (c1I _) s (pos+1))
    obtain⟨W,hWd⟩:∃ W,wr.iterAt w.heap.size s (pos+1)=W:=⟨_,rfl⟩
    dsimp only at hnx
    rw[hWd] at hnx hit2 hbw2
    obtain⟨b,hbb⟩:∃ b,b=s[pos]'hps:=⟨_,rfl⟩
    rw[<-hbb] at hnx h128 hbe
    have HC:=c1n (a6n W b.toNat (by omega))
    rw[show okR b.toNat=okB b.toNat by unfold okR;simp[h128]] at HC
    by_cases hok:okB b.toNat=true
    ·rw[hok] at HC
     have HALL:Hid ((s.data.toList.take (pos+1)).all (fun b=>okB b.toNat)=true):=c1n (by
      rw[List.take_succ_eq_append_getElem hpl,List.all_append,hall.out,<-hbe];simp[hok])
     generalize b.toNat=x at *
     clear hbb hbe hok hall hR
     go_wp2_with fail
     refine HC.out.mono ?_
     rintro _ w3 ⟨rfl,hb3⟩
     have hit3:=(hb3.block w.heap.size (Array.getElem?_eq_some_iff.1 hit2).1).trans hit2
     have hbw3:=c1n (hbw2.out.trans (hb3.mono hbw2.out.size))
     clear hb3 hit2 hbw2 HC hnx
     go_wp2_with fail
     go_roundg g'
     case measure=>omega
     case rel=>exact⟨pos+1,hit3,hbw3,by omega,by omega,HALL⟩
    ·have hok':okB b.toNat=false:=by simpa using hok
     rw[hok'] at HC
     have HNO:Hid (s.data.toList.all (fun b=>okB b.toNat)=false):=c1n (by
      rw[List.all_eq_false]
      exact⟨b,by rw[hbe];exact c1O _,by simp[hok']⟩)
     generalize b.toNat=x at *
     clear hbb hbe hok hok' hall hR
     go_wp2_with fail
     refine HC.out.mono ?_
     rintro _ w3 ⟨rfl,hb3⟩
     have hbw3:=c1n (hbw2.out.trans (hb3.mono hbw2.out.size))
     clear hb3 hit2 hbw2 HC hnx
     go_wp2_with fail
     go_ret
     exact⟨pos,rfl,by rw[HNO.out];simp,hbw3.out⟩
   ·obtain⟨hr1,hr2⟩:=decode_high s pos hps (by omega)
    obtain⟨R,hRe⟩:∃ R,R=(Utf8.decode s pos).1:=⟨_,rfl⟩
    obtain⟨K,hKe⟩:∃ K,K=(Utf8.decode s pos).2:=⟨_,rfl⟩
    rw[<-hRe,<-hKe] at hnx
    rw[<-hRe] at hr1 hR
    have hit2:=Lib.iterAt_heap wr w.heap.size s pos (pos+K) hit
    have hbw2:=c1n (Lib.below_iterAt hbw.out (k:=w.heap.size) (c1I _) s (pos+K))
    obtain⟨W,hWd⟩:∃ W,wr.iterAt w.heap.size s (pos+K)=W:=⟨_,rfl⟩
    rw[hWd] at hnx hit2 hbw2
    have HC:=c1n (a6n W R hR)
    rw[show okR R=false by unfold okR;simp;intro h;omega] at HC
    have HNO:Hid (s.data.toList.all (fun b=>okB b.toNat)=false):=c1n (by
     rw[List.all_eq_false]
     refine⟨s[pos]'hps,by rw[hbe];exact c1O _,?_⟩
     have:okB (s[pos]'hps).toNat=false:=by unfold okB;simp;omega
     simp[this])
    clear hRe hKe hr1 hR hr2 h128 hbe hall
    go_wp2_with fail
    refine HC.out.mono ?_
    rintro _ w3 ⟨rfl,hb3⟩
    have hbw3:=c1n (hbw2.out.trans (hb3.mono hbw2.out.size))
    clear hb3 hit2 hbw2 HC hnx
    go_wp2_with fail
    go_ret
    exact⟨pos,rfl,by rw[HNO.out];simp,hbw3.out⟩
  ·have hnx:=fun ty=>Lib.run_next_end_at (P:=Tryz.prog) wr w.heap.size s pos ty hit hps
   have HALL:Hid (s.data.toList.all (fun b=>okB b.toNat)=true):=c1n (by
    have:=hall.out
    rwa [c1T (by rw[HL.out];omega)] at this)
   clear hall
   go_wp2_with fail
   go_ret
   exact⟨-1,rfl,by rw[HALL.out];rfl,hbw.out⟩
theorem a8h(w:World)(s:ByteArray)(hs:s.size<=1000000000) :
  Calls Tryz.prog 31 #[.string s,.func (.func 32) #[] #[]] w fun e w'=>∃ i:Int,e=.returned (.int .i64 i)/\decide (i<0)=s.data.toList.all (fun b=>okB b.toNat)/\Below w.heap.size w w':=by
 have HC:=c1n (a6a w s hs)
 go_enter Tryz.func31,Tryz.ntmps31
 go_wp2_with fail
 refine HC.out.mono ?_
 rintro _ w2 ⟨i,rfl,hi,hb⟩
 have HB:=c1n hb
 have HI:=c1n hi
 clear hb hi HC
 go_wp2_with fail
 go_ret
 exact⟨i,rfl,HI.out,HB.out⟩
end Go.Proofs.YtghjlpechjggjaaGreatDoor
namespace Go.Proofs.YtghjlpechjggjaaGreatDoor
open Go.RowKit Go.Shelf
attribute [local go_sem] Oper.semAt_some
def a0S(p:List UInt8):Bool:=!(p==[])&&!(p==[46])&&!(p==[46,46])
def nameB(s:ByteArray):Bool:=decide (1<=s.size/\s.size<=64)&&((a2A s.data.toList).all a0S&&s.data.toList.all (fun b=>okB b.toNat))
theorem a7e(w:World)(s:ByteArray) :
  Calls Tryz.prog 30 #[.string s,.string ⟨#[47]⟩] w fun e w'=>e=.returned (.func (.func 82) #[] #[.pointer (some ⟨w.heap.size+1,0,none⟩),.pointer (some ⟨w.heap.size,0,none⟩),.pointer (some ⟨w.heap.size+2,0,none⟩)]) /\
   w'=((w.alloc (.cells #[.string s] 9)).alloc (.cells #[.string ⟨#[47]⟩] 9)).alloc (.cells #[.int .i64 0] 3):=by
 have hmf:∀ (fn:Fn) (first cap:Array Value) (w:World),(Instr.makeFunc fn first cap).run Tryz.prog w=.ok (.func fn first cap) w:=fun _ _ _ _=>rfl
 go_enter Tryz.func30,Tryz.ntmps30
 go_wp2
 go_ret
 exact⟨rfl,rfl⟩
theorem a2I{fn:Func}{p:Tmp}(h:fn.results=#[.cell p 4])(tmps:Array Value)(w:World)(g:Nat){v:Value}(hp:tmps.getD p undef=.pointer (some ⟨g,0,none⟩))(hc:w.cell? ⟨g,0,none⟩=some v) :
  (results fn tmps).run Tryz.prog w=.ok v w:=by
 have hp':tmps[p]?.getD undef=.pointer (some ⟨g,0,none⟩):=by simpa using hp
 have ha:∀ w,(isAgg 4).run Tryz.prog w=.ok false w:=run_isAgg_plain Tryz.underlying4 rfl
 simp[results,h,hp',asAddr,go_sem,hc,ha]
theorem a3t(w:World)(s:ByteArray)(hs:s.size<=1000000000) :
  Calls Tryz.prog 10 #[.string s] w fun e w'=>e=.returned (.bool (nameB s))/\Below w.heap.size w w':=by
 have hlen:s.data.toList.length=s.size:=by cases s;rfl
 have htl:s.toList=s.data.toList:=c1Q s
 refine (callsIn_wide (n:=0)).1 (callsIn_of_wp_marks Tryz.func10 rfl trivial ?_ rfl)
 simp only[Tryz.ntmps10,List.size_toArray,c1p,c1u,Nat.reduceAdd,Nat.reduceSub,Array.replicate_succ,Array.replicate_zero,List.push_toArray,List.append_toArray,c1v,List.cons_append]
 by_cases h0:s.size=0
 ·have e0:s.data.toList=[]:=List.eq_nil_of_length_eq_zero (by omega)
  have z1:(s.toList==[])=true:=by rw[htl,e0];rfl
  have z1':s.toList.isEmpty=true:=by rw[htl,e0];rfl
  have HP:=c1n (show nameB s=false by unfold nameB;simp[h0])
  clear e0 htl h0 hlen
  gi_wp2
  have hcell:(w.alloc (.cells #[.bool false] 4)).cell? ⟨w.heap.size,0,none⟩=some (.bool false):=by
   have:=(a0d w 4 [.bool false]).cell 0
   simpa using this
  exact⟨_,a2I rfl _ _ w.heap.size rfl hcell,by rw[HP.out],(c1Y _ _).alloc (c1I _) _⟩
 by_cases h64:64<s.size
 ·have z1:(s.toList==[])=false:=by
   rw[htl,c1J];intro e;rw[e] at hlen;simp at hlen;omega
  have z1':s.toList.isEmpty=false:=by
   rw[htl];cases hq:s.data.toList with
   | nil=>rw[hq] at hlen;simp at hlen;omega
   | cons a b=>rfl
  have y1:decide ((64:Int)<(s.size:Int))=true:=by simp;omega
  have y1':decide (64<s.size)=true:=by simp;omega
  have HP:=c1n (show nameB s=false by unfold nameB;simp;omega)
  clear htl h0 hlen h64
  gi_wp2
  have hcell:(w.alloc (.cells #[.bool false] 4)).cell? ⟨w.heap.size,0,none⟩=some (.bool false):=by
   have:=(a0d w 4 [.bool false]).cell 0
   simpa using this
  exact⟨_,a2I rfl _ _ w.heap.size rfl hcell,by rw[HP.out],(c1Y _ _).alloc (c1I _) _⟩
 have y0:(s.toList==[])=false:=by
  rw[htl,c1J];intro e;rw[e] at hlen;simp at hlen;omega
 have y0':s.toList.isEmpty=false:=by
  rw[htl];cases hq:s.data.toList with
  | nil=>rw[hq] at hlen;simp at hlen;omega
  | cons a b=>rfl
 have y1:decide ((64:Int)<(s.size:Int))=false:=by simp;omega
 have y1':decide (64<s.size)=false:=by simp;omega
 have HL:=c1n hlen
 have HTL:=c1n htl
 clear hlen htl
 gi_wp2
 obtain⟨g,hg⟩:∃ g,g=w.heap.size:=⟨_,rfl⟩
 rw[<-hg]
 refine⟨trivial,rfl,((callsIn_wide (n:=0)).2 (a7e _ s)).mono ?_⟩
 rintro _ w2 ⟨rfl,hw2⟩
 have hs1:(w.alloc (.cells #[.bool false] 4)).heap.size=g+1:=by rw[hg];simp
 rw[hs1]
 have hka:Keeps [] (w.alloc (.cells #[.bool false] 4)) w2:=by rw[hw2];exact (((Keeps.refl [] _).alloc _).alloc _).alloc _
 have hgb:Blk w2 g 4 [.bool false]:=by rw[hg];exact (a0d w 4 [.bool false]).keeps hka (by simp)
 have hb1:Blk w2 (g+1) 9 [.string s]:=by
  have:=((a0d (w.alloc (.cells #[.bool false] 4)) 9 [.string s]).keeps (S:=[]) ((Keeps.refl [] _).alloc (.cells #[.string ⟨#[47]⟩] 9)) (by simp)).keeps (S:=[]) ((Keeps.refl [] _).alloc (.cells #[.int .i64 0] 3)) (by simp)
  rw[hs1] at this
  rw[hw2];exact this
 have hb2:Blk w2 (g+2) 9 [.string ⟨#[47]⟩]:=by
  have:=((a0d ((w.alloc (.cells #[.bool false] 4)).alloc (.cells #[.string s] 9)) 9 [.string ⟨#[47]⟩])).keeps (S:=[]) ((Keeps.refl [] _).alloc (.cells #[.int .i64 0] 3)) (by simp)
  rw[World.size_alloc,hs1] at this
  rw[hw2];exact this
 have hb3:Blk w2 (g+3) 3 [.int .i64 0]:=by
  have:=(a0d (((w.alloc (.cells #[.bool false] 4)).alloc (.cells #[.string s] 9)).alloc (.cells #[.string ⟨#[47]⟩] 9)) 3 [.int .i64 0])
  rw[World.size_alloc,World.size_alloc,hs1] at this
  rw[hw2];exact this
 have hsz2:w2.heap.size=g+4:=by rw[hw2];simp;omega
 have hbel2:Below w.heap.size w w2:=by
  rw[hw2]
  exact ((((c1Y w.heap.size w).alloc (c1I _) _).alloc (by simp) _).alloc (by simp;omega) _).alloc (by simp;omega) _
 have HG:=c1n hg
 have HGB:=c1n hgb
 have HB1:=c1n hb1
 have HB2:=c1n hb2
 have HB3:=c1n hb3
 have HS2:=c1n hsz2
 have HBL:=c1n hbel2
 have HC:=c1n (fun w'=>a8h w' s hs)
 clear hw2 hs1 hka hgb hb1 hb2 hb3 hsz2 hbel2 hg
 gi_wp2
 refine a7y (gf:=82) (lb:=#[.pointer (some ⟨g+2,0,none⟩),.pointer (some ⟨g+1,0,none⟩),.pointer (some ⟨g+3,0,none⟩)]) (encs:=strE) (toks:=a4j s) rfl (enters_of Tryz.func82 (by kernel_rfl) rfl) (O:=[g+1]) (C:=fun k=>k=g+2∨k=g+1∨k=g+3) ?hO ?hC
  (b4a w2 (g+2) (g+1) (g+3) s hs (by omega) (by omega) HB2.out HB1.out HB3.out) (fun _=>rfl)
  (fun pre W=>Blk W g 4 [.bool false]/\pre.all (fun x=>a0S x.data.toList)=true/\Below w.heap.size w W)
  (fun pre W=>Blk W g 4 [.bool false]/\pre.all (fun x=>a0S x.data.toList)=false/\Below w.heap.size w W)
  ?hI ?hIx ?h0 (fun x W a' W1=>W1=W/\a'={ tmps:=#[.string s,undef,.pointer (some ⟨g,0,none⟩),.string x,.string s,.bool false,.bool false,.string s,.int .i64 s.size,.bool false,.bool false,.string s,.func (.func 82) #[] #[.pointer (some ⟨g+2,0,none⟩),.pointer (some ⟨g+1,0,none⟩),.pointer (some ⟨g+3,0,none⟩)],.string x,undef,undef,undef,undef,undef,undef,undef,undef,undef,undef,undef,undef,undef],defers:=[] }) ?hAx ?assign ?body ?done ?stop
 case hO=>have:=HS2.out;intro k hk;simp at hk;omega
 case hC=>have:=HS2.out;rintro k (h|h|h)<;>omega
 case h0=>exact⟨HGB.out,rfl,HBL.out⟩
 case hAx=>rintro x W a' W1 ⟨rfl,-⟩;exact Keeps.refl [] _
 case hI=>
  have h3:=HS2.out
  have h4:=HG.out
  rintro pre W1 W2 ⟨hv,ha,hB⟩ hk
  exact⟨hv.keeps hk (by simp;omega),ha,hB.trans (a0c hk hB.size (fun x hx=>by simp at hx;omega))⟩
 case hIx=>
  have h3:=HS2.out
  have h4:=HG.out
  rintro pre W1 W2 ⟨hv,ha,hB⟩ hk
  exact⟨hv.keeps hk (by simp;omega),ha,hB.trans (a0c hk hB.size (fun x hx=>by simp at hx;omega))⟩
 case assign=>
  intro l' pre x W K hi hsz hK
  have HK:=c1n hK
  clear hK
  dsimp only[strE]
  gi_wp2
  exact HK.out _ _ ⟨rfl,rfl⟩
 case stop=>
  rintro pre W hpre ⟨hv,ha,hB⟩ hD
  have HV:=c1n hv
  have HA:=c1n ha
  have HBW:=c1n hB
  clear hv ha hB
  gi_wp2
  have h3:=HS2.out
  have h4:=HG.out
  refine⟨by simp,.inl ⟨_,_,rfl,run_takeDeferred hD,?_⟩⟩
  have hv:=HV.out.keeps (a0x W w2.heap.size (.deferred none)) (by simp;omega)
  refine⟨_,a2I rfl _ _ g rfl (hv.cell 0),?_,HBW.out.trans (a0c (a0x W w2.heap.size _) HBW.out.size (fun x hx=>by simp at hx;omega))⟩
  have hno:(a2A s.data.toList).all a0S=false:=by
   have hf:=HA.out
   obtain⟨x,hx,hxn⟩:=List.all_eq_false.1 hf
   have hxm:=hpre.subset hx
   obtain⟨y,hy,rfl⟩:=c1N.1 hxm
   rw[List.all_eq_false]
   exact⟨y,hy,by simpa [mkB] using hxn⟩
  unfold nameB
  rw[hno]
  simp
 case done=>
  rintro W ⟨hv,ha,hB⟩ hD
  have HV:=c1n hv
  have HA:=c1n ha
  have HBW:=c1n hB
  clear hv ha hB
  gi_wp2
  refine⟨trivial,rfl,((callsIn_wide (n:=0)).2 (HC.out _)).mono ?_⟩
  rintro _ w5 ⟨i,rfl,hi,hb5⟩
  have h3:=HS2.out
  have h4:=HG.out
  have hvl:=HV.out.lt
  have hv5:Blk w5 g 4 [.bool false]:=(hb5.block g hvl).trans HV.out
  have hD5:w5.heap[w2.heap.size]? =some (.deferred (some [])):=(hb5.block _ (Array.getElem?_eq_some_iff.1 hD).1).trans hD
  have hc5:=hv5.cell 0
  simp only[c1t] at hc5
  have hf5:=hv5.frozen 0
  have HV5:=c1n hv5
  have HI:=c1n hi
  have HB5:=c1n (HBW.out.trans (hb5.mono HBW.out.size))
  clear hv5 hi hb5 hvl h3 h4
  gi_wp2
  have h3:=HS2.out
  have h4:=HG.out
  have hne:w2.heap.size≠g:=by omega
  have hD6:(w5.setCell ⟨g,0,none⟩ (.bool (decide (i<0)))).heap[w2.heap.size]? =some (.deferred (some [])):=(Go.Deep.blk_setCell_other _ _ _ _ (by simpa using hne)).trans hD5
  refine⟨by simp,.inl ⟨_,_,rfl,run_takeDeferred hD6,?_⟩⟩
  have hv6:Blk (w5.setCell ⟨g,0,none⟩ (.bool (decide (i<0)))) g 4 [.bool (decide (i<0))]:=HV5.out.set 0 _
  have hv7:=hv6.keeps (a0x _ w2.heap.size (.deferred none)) (by simp;omega)
  refine⟨_,a2I rfl _ _ g rfl (hv7.cell 0),?_,(HB5.out.setCell (p:=⟨g,0,none⟩) (by simp;omega) _).trans (a0c (a0x _ w2.heap.size _) (by have:=HB5.out.size;simpa [World.setCell] using this) (fun x hx=>by simp at hx;omega))⟩
  have hyes:(a2A s.data.toList).all a0S=true:=by
   rw[List.all_eq_true]
   intro y hy
   have:=List.all_eq_true.1 HA.out (mkB y) (c1N.2 ⟨y,hy,rfl⟩)
   simpa [mkB] using this
  unfold nameB
  rw[hyes,HI.out]
  simp;omega
 case body=>
  rintro pre x W a' W1 W2 ⟨hv,ha,hB⟩ hpl hsz ⟨rfl,rfl⟩ hk2
  have h3:=HS2.out
  have h4:=HG.out
  have hv2:=hv.keeps hk2 (by simp;omega)
  have hc:=hv2.cell 0
  simp only[c1t] at hc
  have hf:=hv2.frozen 0
  have HV2:=c1n hv2
  have HB2:=c1n (hB.trans (a0c hk2 hB.size (fun z hz=>by simp at hz;omega)))
  have HA:=c1n ha
  have hgw:g<W2.heap.size:=hv2.lt
  have hxl:x.toList=x.data.toList:=c1Q x
  have BAD:a0S x.data.toList=false->b2v (fun k=>k=g+2∨k=g+1∨k=g+3) w2.heap.size (fun pre W=>Blk W g 4 [.bool false]/\pre.all (fun x=>a0S x.data.toList)=true/\Below w.heap.size w W)
    (fun pre W=>Blk W g 4 [.bool false]/\pre.all (fun x=>a0S x.data.toList)=false/\Below w.heap.size w W) (pre++[x]) W2 Exit.ret { tmps:=#[],defers:=[] } (W2.setCell ⟨g,0,none⟩ (.bool false)):=fun hb=>by
   refine⟨⟨HV2.out.set 0 _,by rw[List.all_append];simp[hb],HB2.out.setCell (p:=⟨g,0,none⟩) (by simp;omega) _⟩,by simp[World.setCell],fun j hj hj2=>?_⟩
   refine Go.Deep.blk_setCell_other _ _ _ _ (fun e=>?_)
   have e:j=g:=e
   omega
  have HBAD:=c1n BAD
  clear hv ha hB hpl hsz hk2 hv2 h3 h4 BAD
  by_cases q1:x.data.toList=[]
  ·have z1:(x.toList==[])=true:=by rw[hxl,q1];rfl
   have z1':x.toList.isEmpty=true:=by rw[hxl,q1];rfl
   have HP:=c1n (show a0S x.data.toList=false by rw[q1];rfl)
   clear q1 hxl
   gi_wp2
   exact HBAD.out HP.out
  have z1:(x.toList==[])=false:=by rw[hxl];simpa using q1
  have z1':x.toList.isEmpty=false:=by rw[hxl];simpa using q1
  by_cases q2:x.data.toList=[46]
  ·have z2:(x.toList==[46])=true:=by rw[hxl,q2];rfl
   have HP:=c1n (show a0S x.data.toList=false by rw[q2];rfl)
   clear q1 q2 hxl
   gi_wp2
   exact HBAD.out HP.out
  have z2:(x.toList==[46])=false:=by rw[hxl];simpa using q2
  by_cases q3:x.data.toList=[46,46]
  ·have z3:(x.toList==[46,46])=true:=by rw[hxl,q3];rfl
   have HP:=c1n (show a0S x.data.toList=false by rw[q3];rfl)
   clear q1 q2 q3 hxl
   gi_wp2
   exact HBAD.out HP.out
  have z3:(x.toList==[46,46])=false:=by rw[hxl];simpa using q3
  have HP:=c1n (show a0S x.data.toList=true by unfold a0S;rw[c1J.2 q1,c1J.2 q2,c1J.2 q3];rfl)
  clear q1 q2 q3 hxl
  gi_wp2
  refine⟨⟨HV2.out,?_,HB2.out⟩,KeepsOn.of (Keeps.refl [] _) (by simp)⟩
  rw[List.all_append,HA.out]
  simp[HP.out]
end Go.Proofs.YtghjlpechjggjaaGreatDoor
namespace Go.Proofs.YtghjlpechjggjaaGreatDoor
open Go.RowKit
instance decMemBA (s:ByteArray) (l:List ByteArray):Decidable (s∈l):=
 if h:l.any (fun k=>decide (k=s))=true then isTrue (by
  obtain⟨x,hx,he⟩:=List.any_eq_true.1 h
  exact of_decide_eq_true he ▸ hx) else isFalse (fun hm=>h (List.any_eq_true.2 ⟨s,hm,c1Z rfl⟩))
structure ZI where
 name:ByteArray
 size:Int
 packed:Int
 sum:Int
 way:Int
 deriving DecidableEq
structure ZP where
 x:ZI
 fro:Nat
def ZP.len(p:ZP):Nat:=p.x.packed.toNat
def a1h(xs:List Int)(rp:Nat):Nat:=(zget xs (rp+28) 2).toNat
def a3l(xs:List Int)(rp:Nat):ByteArray:=strOfNums (seg xs (rp+46) (a1h xs rp))
def zinf(xs:List Int)(p:Nat)(name:ByteArray):ZI:=⟨name,zget xs (p+18) 4,zget xs (p+14) 4,zget xs (p+10) 4,zget xs (p+4) 2⟩
def zrecI(xs:List Int)(rp:Nat):ZI:=zinf xs (rp+6) (a3l xs rp)
def a8I(xs:List Int)(en rp:Nat):Prop:=
 rp+46<=en/\zget xs rp 4=33639248/\zget xs (rp+8) 2=0/\zget xs (rp+30) 2=0/\zget xs (rp+32) 2=0/\zget xs (rp+34) 2=0/\rp+46+a1h xs rp<=en
instance (xs:List Int) (en rp:Nat):Decidable (a8I xs en rp):=by unfold a8I;infer_instance
def a2v(xs:List Int)(at_:Nat)(x:ZI):Prop:=
 zget xs at_ 4=67324752/\zget xs (at_+6) 2=0/\zget xs (at_+28) 2=0/\zget xs (at_+26) 2=x.name.size/\zinf xs (at_+4) (strOfNums (seg xs (at_+30) x.name.size))=x
instance (xs:List Int) (at_:Nat) (x:ZI):Decidable (a2v xs at_ x):=by unfold a2v;infer_instance
def a1C(xs:List Int)(first en rp at_:Nat)(known:List ByteArray):Int:=
 if ¬a8I xs en rp then 81
 else if a3l xs rp∈known∨nameB (a3l xs rp)=false then 80
 else if ¬((zrecI xs rp).way=0∨(zrecI xs rp).way=8) then 82
 else if 8192<(zrecI xs rp).size∨16384<(zrecI xs rp).packed then 87
 else if ¬(((zrecI xs rp).way=8∨(zrecI xs rp).size=(zrecI xs rp).packed)/\zget xs (rp+42) 4=at_/\((at_+30+a1h xs rp:Nat):Int)+(zrecI xs rp).packed<=first) then 81
 else if ¬a2v xs at_ (zrecI xs rp) then 81
 else 0
def a2u(xs:List Int)(rp at_:Nat):ZP:=⟨zrecI xs rp,at_+30+a1h xs rp⟩
def znames(l:List ZP):List ByteArray:=l.map fun p=>p.x.name
def zloop(xs:List Int)(first en:Nat):Nat->Nat->Nat->List ZP->Int×List ZP
 | 0,rp,at_,acc=>if rp=en/\at_=first then (0,acc) else (81,[])
 | n+1,rp,at_,acc=>
  if a1C xs first en rp at_ (znames acc)=0 then
   zloop xs first en n (rp+46+a1h xs rp) (at_+30+a1h xs rp+(zrecI xs rp).packed.toNat) (acc++[a2u xs rp at_])
  else (a1C xs first en rp at_ (znames acc),[])
def ZEnd(xs:List Int)(en:Nat):Prop:=
 zget xs en 4=101010256/\zget xs (en+4) 2=0/\zget xs (en+6) 2=0/\zget xs (en+8) 2=zget xs (en+10) 2/\zget xs (en+16) 4+zget xs (en+12) 4=en/\zget xs (en+20) 2=0
instance (xs:List Int) (en:Nat):Decidable (ZEnd xs en):=by unfold ZEnd;infer_instance
def zmany(xs:List Int):Nat:=(zget xs (xs.length-22+8) 2).toNat
def zfirst(xs:List Int):Nat:=(zget xs (xs.length-22+16) 4).toNat
def zpieces(xs:List Int):Int×List ZP:=
 if 1048576<xs.length then (2,[])
 else if xs.length<22 then (81,[])
 else if ¬ZEnd xs (xs.length-22) then (81,[])
 else if 64<zmany xs then (86,[])
 else zloop xs (zfirst xs) (xs.length-22) (zmany xs) (zfirst xs) 0 []
def a2B(xs:List Int)(p:ZP):List Int×Int:=
 if p.x.way=8 then
  if (a0O (seg xs p.fro p.len) p.x.size).2.2≠0∨(a0O (seg xs p.fro p.len) p.x.size).2.1≠p.len∨((a0O (seg xs p.fro p.len) p.x.size).1.length:Int)≠p.x.size then ([],84)
  else if ((crcF (a0O (seg xs p.fro p.len) p.x.size).1:Nat):Int)≠p.x.sum then ([],83) else ((a0O (seg xs p.fro p.len) p.x.size).1,0)
 else if ((crcF (seg xs p.fro p.len):Nat):Int)≠p.x.sum then ([],83) else (seg xs p.fro p.len,0)
def zdatas(xs:List Int):List ZP->List (ByteArray×ByteArray)->List (ByteArray×ByteArray)×Int
 | [],acc=>(acc,0)
 | p::l,acc=>if (a2B xs p).2=0 then zdatas xs l (acc++[(p.x.name,strOfNums (a2B xs p).1)]) else ([],(a2B xs p).2)
def a2k(xs:List Int):List (ByteArray×ByteArray)×Int:=if (zpieces xs).1=0 then zdatas xs (zpieces xs).2 [] else ([],(zpieces xs).1)
def zfindL(xs:List Int)(name:ByteArray):List ZP->List Int×Int
 | []=>([],85)
 | p::l=>if p.x.name=name then a2B xs p else zfindL xs name l
def b4t(xs:List Int)(name:ByteArray):List Int×Int:=if (zpieces xs).1=0 then zfindL xs name (zpieces xs).2 else ([],(zpieces xs).1)
theorem b3i{xs:List Int}{first en:Nat}(hnn:∀ rp,0<=(zrecI xs rp).packed):∀ {n rp at_:Nat} {acc l:List ZP},zloop xs first en n rp at_ acc=(0,l)->∀ p∈l,p∈acc∨(p.fro+p.len<=first/\nameB p.x.name=true/\(p.x.way=0∨p.x.way=8)/\p.x.size<=8192/\p.x.packed<=16384/\∃ rp at_,p=a2u xs rp at_)
 | 0,rp,at_,acc,l,h,p,hp=>by
  rw[zloop] at h
  split at h
  ·injection h with h1 h2;subst h2;exact .inl hp
  ·injection h with h1 h2;cases h1
 | n+1,rp,at_,acc,l,h,p,hp=>by
  rw[zloop] at h
  split at h
  ·rename_i h0
   rcases b3i hnn h p hp with h|h
   ·rcases c1F.1 h with h|h
    ·exact .inl h
    ·rw[c1S] at h
     subst h
     unfold a1C at h0
     split at h0;· omega
     split at h0;· omega
     split at h0;· omega
     split at h0;· omega
     split at h0;· omega
     split at h0;· omega
     rename_i a1 a2 a3 a4 a5 a6
     simp only[c1U] at a5
     obtain⟨-,-,b3⟩:=a5
     refine .inr ⟨?_,?_,c1U.1 a3,by show (zrecI xs rp).size<=8192;omega,by show (zrecI xs rp).packed<=16384;omega,_,_,rfl⟩
     ·show at_+30+a1h xs rp+(zrecI xs rp).packed.toNat<=first
      have:=hnn rp
      omega
     ·show nameB (a3l xs rp)=true
      cases hq:nameB (a3l xs rp) with
      | true=>rfl
      | false=>exact absurd (.inr hq) a2
   ·exact .inr h
  ·injection h with h1 h2;contradiction
end Go.Proofs.YtghjlpechjggjaaGreatDoor
namespace Go.Proofs.YtghjlpechjggjaaGreatDoor
open Go.RowKit
theorem a3c{s:ByteArray}(h:nameB s=true):1<=s.size/\s.size<=64:=by
 unfold nameB at h
 rw[Bool.and_eq_true] at h
 exact of_decide_eq_true h.1
theorem a0F(A B:List Int){j k n:Nat}(hj:j=A.length+k):seg (A++B) j n=seg B k n:=by
 subst hj
 unfold seg
 rw[List.take_append,List.drop_append,c1T (by omega),List.drop_eq_nil_of_le (by omega),c1v]
 congr 1
 ·omega
 ·congr 1;omega
theorem b8c(A B:List Int){k n:Nat}(h:k+n<=A.length):seg (A++B) k n=seg A k n:=by
 unfold seg
 rw[List.take_append,show k+n-A.length=0 by omega,c1y,c1E]
theorem a4p(A B:List Int){n:Nat}(h:A.length=n):seg (A++B) 0 n=A:=by
 rw[b8c A B (by omega)]
 unfold seg;rw[Nat.zero_add,c1G,c1T (by omega)]
theorem a0A(A B:List Int){j k n:Nat}(hj:j=A.length+k):zget (A++B) j n=zget B k n:=by unfold zget;rw[a0F A B hj]
theorem b6F(v:Int)(k:Nat):zleB v (k+1)=v%256::zleB (v/256) k:=by
 unfold zleB
 rw[List.range_succ_eq_map,c1w,List.map_map]
 simp only[Int.pow_zero,Int.ediv_one,List.cons.injEq,true_and]
 apply List.map_congr_left
 intro i _
 simp only[Function.comp,Int.pow_succ]
 rw[Int.mul_comm,<-Int.ediv_ediv_of_nonneg (by decide)]
theorem b7w(k:Nat):∀ v:Int,leI (zleB v k)=v%256^k:=by
 induction k with
 | zero=>intro v;simp[zleB,leI,Int.emod_one]
 | succ k ih=>
  intro v
  rw[b6F,leI,ih,Int.pow_succ]
  have h1:=Int.emod_emod_of_dvd v (show (256:Int) ∣ 256^k*256 from⟨256^k,by rw[Int.mul_comm]⟩)
  have h2:v%(256^k*256)/256=v/256%256^k:=by
   have e:v/(256^k*256)=v/256/256^k:=by rw[Int.mul_comm,<-Int.ediv_ediv_of_nonneg (by decide)]
   rw[Int.emod_def,Int.emod_def (v/256),e,Int.mul_comm (256^k) 256,Int.mul_assoc]
   omega
  omega
theorem a0z(v:Int)(B:List Int){k:Nat}(h0:0<=v)(h1:v<256^k):zget (zleB v k++B) 0 k=v:=by
 unfold zget;rw[a4p _ _ (a0L v k),b7w,Int.emod_eq_of_lt h0 h1]
theorem a0o(v:Int)(B:List Int){j k n:Nat}(h:k<=j):zget (zleB v k++B) j n=zget B (j-k) n:=a0A _ _ (by rw[a0L];omega)
theorem a4z(k:Nat)(v:Int)(l:List Int):zlesB k (v::l)=zleB v k++zlesB k l:=rfl
theorem a5E(k:Nat):zlesB k []=[]:=rfl
theorem a7B(way sum bl dl nl:Int)(Z:List Int)(h0:0<=way/\way<65536)(h1:0<=sum/\sum<4294967296)(h2:0<=bl/\bl<4294967296)(h3:0<=dl/\dl<4294967296)(h4:0<=nl/\nl<65536) :
  zget (sharedB way sum bl dl nl++Z) 2 2=0/\zget (sharedB way sum bl dl nl++Z) 4 2=way/\zget (sharedB way sum bl dl nl++Z) 10 4=sum/\zget (sharedB way sum bl dl nl++Z) 14 4=bl/\zget (sharedB way sum bl dl nl++Z) 18 4=dl /\
   zget (sharedB way sum bl dl nl++Z) 22 2=nl/\zget (sharedB way sum bl dl nl++Z) 24 2=0/\∀ j n,zget (sharedB way sum bl dl nl++Z) (26+j) n=zget Z j n:=by
 simp only[sharedB,a4z,a5E,c1q,c1v]
 refine⟨?_,?_,?_,?_,?_,?_,?_,?_⟩
 ·rw[a0o _ _ (by omega),a0z _ _ (by omega) (by omega)]
 ·rw[a0o _ _ (by omega),a0o _ _ (by omega),a0z _ _ (by omega) (by omega)]
 ·iterate 5 rw[a0o _ _ (by omega)]
  rw[a0z _ _ (by omega) (by omega)]
 ·iterate 6 rw[a0o _ _ (by omega)]
  rw[a0z _ _ (by omega) (by omega)]
 ·iterate 7 rw[a0o _ _ (by omega)]
  rw[a0z _ _ (by omega) (by omega)]
 ·iterate 8 rw[a0o _ _ (by omega)]
  rw[a0z _ _ (by omega) (by omega)]
 ·iterate 9 rw[a0o _ _ (by omega)]
  rw[a0z _ _ (by omega) (by omega)]
 ·intro j n
  iterate 10 rw[a0o _ _ (by omega)]
  congr 1
  omega
structure ZG where
 x:ZI
 body:List Int
def ZG.piece(e:ZG):List Int:=(zlesB 4 [67324752]++sharedB e.x.way e.x.sum e.x.packed e.x.size e.x.name.size)++(sb e.x.name++e.body)
def ZG.recd(e:ZG)(at_:Nat):List Int:=zlesB 4 [33639248]++(zlesB 2 [20]++(sharedB e.x.way e.x.sum e.x.packed e.x.size e.x.name.size++(zlesB 2 [0,0,0]++(zlesB 4 [0,(at_:Int)]++sb e.x.name))))
structure ZG.Ok (e:ZG):Prop where
 name:nameB e.x.name=true
 way:e.x.way=0∨e.x.way=8
 size:0<=e.x.size/\e.x.size<=8192
 packed:e.x.packed=e.body.length/\e.x.packed<=8192
 sum:0<=e.x.sum/\e.x.sum<4294967296
 same:e.x.way=8∨e.x.size=e.x.packed
theorem ZG.piece_len(e:ZG):e.piece.length=30+e.x.name.size+e.body.length:=by
 unfold ZG.piece
 simp only[c1o,a1Q,a1f,a1o,c1p,c1u]
 omega
theorem ZG.recd_len(e:ZG)(a:Nat):(e.recd a).length=46+e.x.name.size:=by
 unfold ZG.recd
 simp only[c1o,a1Q,a1f,a1o,c1p,c1u]
 omega
theorem ZG.head_at(e:ZG)(he:e.Ok)(A Z:List Int):a2v (A++(e.piece++Z)) A.length e.x/\seg (A++(e.piece++Z)) (A.length+30+e.x.name.size) e.body.length=e.body:=by
 have hn:=a3c he.name
 have hd:=he.size
 have hb:=he.packed
 have hw:=he.way
 have hc:=he.sum
 have X:e.piece++Z=zleB 67324752 4++(sharedB e.x.way e.x.sum e.x.packed e.x.size e.x.name.size++(sb e.x.name++(e.body++Z))):=by
  simp only[ZG.piece,a4z,a5E,c1q,c1v,c1E]
 obtain⟨g1,g2,g3,g4,g5,g6,g7,g8⟩:=a7B e.x.way e.x.sum e.x.packed e.x.size e.x.name.size (sb e.x.name++(e.body++Z)) (by omega) (by omega) (by omega) (by omega) (by omega)
 have k:∀ j n,zget (A++(e.piece++Z)) (A.length+(4+j)) n=zget (sharedB e.x.way e.x.sum e.x.packed e.x.size e.x.name.size++(sb e.x.name++(e.body++Z))) j n:=by
  intro j n
  rw[a0A _ _ rfl,X,a0o _ _ (by omega)]
  congr 1;omega
 have s:∀ j n,seg (A++(e.piece++Z)) (A.length+(30+j)) n=seg (sb e.x.name++(e.body++Z)) j n:=by
  intro j n
  rw[a0F _ _ rfl,X,a0F (k:=26+j) _ _ (by rw[a0L];omega),a0F (k:=j) _ _ (by rw[a1f])]
 refine⟨⟨?_,?_,?_,?_,?_⟩,?_⟩
 ·rw[a0A (j:=A.length) (k:=0) _ _ rfl,X,a0z _ _ (by omega) (by omega)]
 ·exact (k 2 2).trans g1
 ·exact (k 24 2).trans g7
 ·exact (k 22 2).trans g6
 ·have e1:=(k 18 4).trans g5
  have e2:=(k 14 4).trans g4
  have e3:=(k 10 4).trans g3
  have e4:=(k 4 2).trans g2
  have e5:strOfNums (seg (A++(e.piece++Z)) (A.length+30) e.x.name.size)=e.x.name:=by
   show strOfNums (seg (A++(e.piece++Z)) (A.length+(30+0)) e.x.name.size)=e.x.name
   rw[s,a4p _ _ (a1o _)]
   exact a8A _
  unfold zinf
  rw[e5,show A.length+4+18=A.length+(4+18) from rfl,show A.length+4+14=A.length+(4+14) from rfl,show A.length+4+10=A.length+(4+10) from rfl,show A.length+4+4=A.length+(4+4) from rfl,e1,e2,e3,e4]
 ·rw[Nat.add_assoc,s,a0F (k:=0) _ _ (by rw[a1o];rfl),a4p _ _ rfl]
theorem ZG.rec_at(e:ZG)(he:e.Ok)(A Z:List Int)(at_:Nat)(ha:at_<4294967296) :
  zget (A++(e.recd at_++Z)) A.length 4=33639248/\zget (A++(e.recd at_++Z)) (A.length+8) 2=0/\zget (A++(e.recd at_++Z)) (A.length+30) 2=0/\zget (A++(e.recd at_++Z)) (A.length+32) 2=0/\zget (A++(e.recd at_++Z)) (A.length+34) 2=0 /\
   a1h (A++(e.recd at_++Z)) A.length=e.x.name.size/\zrecI (A++(e.recd at_++Z)) A.length=e.x/\zget (A++(e.recd at_++Z)) (A.length+42) 4=at_:=by
 have hn:=a3c he.name
 have hd:=he.size
 have hb:=he.packed
 have hw:=he.way
 have hc:=he.sum
 have X:e.recd at_++Z=zleB 33639248 4++(zleB 20 2++(sharedB e.x.way e.x.sum e.x.packed e.x.size e.x.name.size++(zleB 0 2++(zleB 0 2++(zleB 0 2++(zleB 0 4++(zleB at_ 4++(sb e.x.name++Z)))))))):=by
  simp only[ZG.recd,a4z,a5E,c1q,c1v,c1E]
 obtain⟨g1,g2,g3,g4,g5,g6,g7,g8⟩:=a7B e.x.way e.x.sum e.x.packed e.x.size e.x.name.size (zleB 0 2++(zleB 0 2++(zleB 0 2++(zleB 0 4++(zleB at_ 4++(sb e.x.name++Z)))))) (by omega) (by omega) (by omega) (by omega) (by omega)
 have k:∀ j n,zget (A++(e.recd at_++Z)) (A.length+(6+j)) n=zget (sharedB e.x.way e.x.sum e.x.packed e.x.size e.x.name.size++(zleB 0 2++(zleB 0 2++(zleB 0 2++(zleB 0 4++(zleB at_ 4++(sb e.x.name++Z))))))) j n:=by
  intro j n
  rw[a0A _ _ rfl,X,a0o _ _ (by omega),a0o _ _ (by omega)]
  congr 1;omega
 have k2:∀ j n,zget (A++(e.recd at_++Z)) (A.length+(32+j)) n=zget (zleB 0 2++(zleB 0 2++(zleB 0 2++(zleB 0 4++(zleB at_ 4++(sb e.x.name++Z)))))) j n:=by
  intro j n
  rw[show A.length+(32+j)=A.length+(6+(26+j)) by omega,k,g8]
 have s:seg (A++(e.recd at_++Z)) (A.length+46) e.x.name.size=sb e.x.name:=by
  rw[a0F _ _ rfl,X,a0F (k:=42) _ _ (by rw[a0L]),a0F (k:=40) _ _ (by rw[a0L]),a0F (k:=14) _ _ (by rw[a1f]),a0F (k:=12) _ _ (by rw[a0L]),
   a0F (k:=10) _ _ (by rw[a0L]),a0F (k:=8) _ _ (by rw[a0L]),a0F (k:=4) _ _ (by rw[a0L]),a0F (k:=0) _ _ (by rw[a0L]),a4p _ _ (a1o _)]
 have hl:a1h (A++(e.recd at_++Z)) A.length=e.x.name.size:=by
  have:=(k 22 2).trans g6
  unfold a1h
  rw[show A.length+28=A.length+(6+22) from rfl,this]
  omega
 refine⟨?_,(k 2 2).trans g1,(k 24 2).trans g7,?_,?_,hl,?_,?_⟩
 ·rw[a0A (j:=A.length) (k:=0) _ _ rfl,X,a0z _ _ (by omega) (by omega)]
 ·exact (k2 0 2).trans (a0z _ _ (by omega) (by omega))
 ·refine (k2 2 2).trans ?_
  rw[a0o _ _ (by omega),a0z _ _ (by omega) (by omega)]
 ·have e1:=(k 18 4).trans g5
  have e2:=(k 14 4).trans g4
  have e3:=(k 10 4).trans g3
  have e4:=(k 4 2).trans g2
  unfold zrecI zinf a3l
  rw[hl,s,a8A,show A.length+6+18=A.length+(6+18) from rfl,show A.length+6+14=A.length+(6+14) from rfl,show A.length+6+10=A.length+(6+10) from rfl,show A.length+6+4=A.length+(6+4) from rfl,e1,e2,e3,e4]
 ·refine (k2 10 4).trans ?_
  iterate 4 rw[a0o _ _ (by omega)]
  rw[a0z _ _ (by omega) (by omega)]
def zPs(l:List ZG):List Int:=l.flatMap ZG.piece
def zRs:Nat->List ZG->List Int
 | _,[]=>[]
 | a,e::l=>e.recd a++zRs (a+e.piece.length) l
def zpcs:Nat->List ZG->List ZP
 | _,[]=>[]
 | a,e::l=>⟨e.x,a+30+e.x.name.size⟩::zpcs (a+e.piece.length) l
def zendB(n r p:Int):List Int:=zlesB 4 [101010256]++(zlesB 2 [0,0,n,n]++(zlesB 4 [r,p]++zlesB 2 [0]))
theorem a4y(n r p:Int):(zendB n r p).length=22:=by simp[zendB,a1Q]
def zfileB(l:List ZG):List Int:=zPs l++(zRs 0 l++zendB l.length (zRs 0 l).length (zPs l).length)
theorem b6I (e:ZG) (he:e.Ok) (A Z B W:List Int) (first en rp at_:Nat) (known:List ByteArray) (hx:A++(e.piece++Z)=B++(e.recd at_++W)) (hrp:rp=B.length) (hat:at_=A.length) (hen:rp+46+e.x.name.size<=en) (hf:at_+e.piece.length<=first)
  (h32:at_<4294967296) (hk:e.x.name∉known):a1C (A++(e.piece++Z)) first en rp at_ known=0/\a1h (A++(e.piece++Z)) rp=e.x.name.size/\zrecI (A++(e.piece++Z)) rp=e.x:=by
 obtain⟨h1,-⟩:=e.head_at he A Z
 obtain⟨r1,r2,r3,r4,r5,r6,r7,r8⟩:=e.rec_at he B W at_ h32
 rw[<-hx,<-hrp] at r1 r2 r3 r4 r5 r6 r7 r8
 have hn:a3l (A++(e.piece++Z)) rp=e.x.name:=congrArg ZI.name r7
 have hpl:=e.piece_len
 have hb:=he.packed
 have hd:=he.size
 have hw:=he.way
 refine⟨?_,r6,r7⟩
 rw[hat] at r8 hf ⊢
 unfold a1C
 rw[hn,r7,if_neg (fun h=>h ⟨by omega,r1,r2,r3,r4,r5,by rw[r6];exact hen⟩),if_neg (fun h=>by
  rcases h with h|h
  ·exact hk h
  ·rw[he.name] at h;cases h),if_neg (fun h=>h hw),if_neg (fun h=>by
   omega),if_neg (fun h=>h ⟨he.same,r8,by
     rw[r6]
     omega⟩),if_neg (fun h=>h h1)]
theorem a0K(e:ZG)(l:List ZG):zPs (e::l)=e.piece++zPs l:=rfl
theorem a1s(e:ZG)(l:List ZG)(a:Nat):zRs a (e::l)=e.recd a++zRs (a+e.piece.length) l:=rfl
theorem a7O:∀ (l:List ZG) (A B E:List Int) (first en rp at_:Nat) (acc:List ZP),(∀ e∈l,e.Ok)->(∀ e∈l,e.x.name∉znames acc)->(l.map (fun e:ZG=>e.x.name)).Nodup->at_=A.length->first=A.length+(zPs l).length->rp=first+B.length ->
  en=rp+(zRs at_ l).length->first<4294967296->zloop (A++(zPs l++(B++(zRs at_ l++E)))) first en l.length rp at_ acc=(0,acc++zpcs at_ l)
 | [],A,B,E,first,en,rp,at_,acc,_,_,_,h1,h2,h3,h4,_=>by
  simp only[zPs,c1K,c1u,zRs] at h2 h4
  rw[c1u,zloop,if_pos ⟨by omega,by omega⟩,zpcs,c1E]
 | e::l,A,B,E,first,en,rp,at_,acc,hok,hnew,hnd,h1,h2,h3,h4,h5=>by
  have he:=hok e c1r
  have hpl:=e.piece_len
  have hrl:=e.recd_len at_
  rw[a0K] at h2 ⊢
  rw[a1s] at h4 ⊢
  rw[c1o] at h2 h4
  have X:A++((e.piece++zPs l)++(B++((e.recd at_++zRs (at_+e.piece.length) l)++E)))=A++(e.piece++(zPs l++(B++(e.recd at_++(zRs (at_+e.piece.length) l++E))))):=by simp only[c1q]
  have Y:A++(e.piece++(zPs l++(B++(e.recd at_++(zRs (at_+e.piece.length) l++E)))))=(A++(e.piece++(zPs l++B)))++(e.recd at_++(zRs (at_+e.piece.length) l++E)):=by simp only[c1q]
  have V:A++(e.piece++(zPs l++(B++(e.recd at_++(zRs (at_+e.piece.length) l++E)))))=(A++e.piece)++(zPs l++((B++e.recd at_)++(zRs (at_+e.piece.length) l++E))):=by simp only[c1q]
  obtain⟨w0,w1,w2⟩:=b6I e he A _ (A++(e.piece++(zPs l++B))) _ first en rp at_ (znames acc) Y (by simp only[c1o];omega) h1 (by omega) (by omega) (by omega) (hnew e c1r)
  rw[X,c1p,zloop,if_pos w0]
  have e1:a2u (A++(e.piece++(zPs l++(B++(e.recd at_++(zRs (at_+e.piece.length) l++E)))))) rp at_=⟨e.x,at_+30+e.x.name.size⟩:=by unfold a2u;rw[w1,w2]
  have e2:e.x.packed.toNat=e.body.length:=by rw[he.packed.1];exact c1A _
  rw[e1,w1,w2,e2,show at_+30+e.x.name.size+e.body.length=at_+e.piece.length by omega,V]
  rw[c1w,List.nodup_cons] at hnd
  rw[a7O l (A++e.piece) (B++e.recd at_) E first en (rp+46+e.x.name.size) (at_+e.piece.length) _ (fun x hx=>hok x (c1s _ hx)) (fun x hx hm=>by
   unfold znames at hm
   rw[List.map_append,c1F] at hm
   rcases hm with hm|hm
   ·exact hnew x (c1s _ hx) hm
   ·rw[List.map_singleton,c1S] at hm
    exact hnd.1 (c1N.2 ⟨x,hx,hm⟩)) hnd.2 (by rw[c1o];omega) (by rw[c1o];omega) (by rw[c1o];omega) (by omega) h5]
  rw[zpcs,c1q];rfl
theorem b6D(n r p:Int)(A:List Int)(hn:0<=n/\n<65536)(hr:0<=r/\r<4294967296)(hp:0<=p/\p<4294967296) :
  zget (A++zendB n r p) A.length 4=101010256/\zget (A++zendB n r p) (A.length+4) 2=0/\zget (A++zendB n r p) (A.length+6) 2=0/\zget (A++zendB n r p) (A.length+8) 2=n/\zget (A++zendB n r p) (A.length+10) 2=n /\
   zget (A++zendB n r p) (A.length+12) 4=r/\zget (A++zendB n r p) (A.length+16) 4=p/\zget (A++zendB n r p) (A.length+20) 2=0:=by
 have e:zendB n r p=zleB 101010256 4++(zleB 0 2++(zleB 0 2++(zleB n 2++(zleB n 2++(zleB r 4++(zleB p 4++(zleB 0 2++[]))))))):=by
  simp only[zendB,a4z,a5E,c1q,c1v,c1E]
 rw[e]
 refine⟨?_,?_,?_,?_,?_,?_,?_,?_⟩
 ·rw[a0A (j:=A.length) (k:=0) _ _ rfl,a0z _ _ (by omega) (by omega)]
 ·rw[a0A _ _ rfl,a0o _ _ (by omega),a0z _ _ (by omega) (by omega)]
 ·rw[a0A _ _ rfl];iterate 2 rw[a0o _ _ (by omega)]
  rw[a0z _ _ (by omega) (by omega)]
 ·rw[a0A _ _ rfl];iterate 3 rw[a0o _ _ (by omega)]
  rw[a0z _ _ (by omega) (by omega)]
 ·rw[a0A _ _ rfl];iterate 4 rw[a0o _ _ (by omega)]
  rw[a0z _ _ (by omega) (by omega)]
 ·rw[a0A _ _ rfl];iterate 5 rw[a0o _ _ (by omega)]
  rw[a0z _ _ (by omega) (by omega)]
 ·rw[a0A _ _ rfl];iterate 6 rw[a0o _ _ (by omega)]
  rw[a0z _ _ (by omega) (by omega)]
 ·rw[a0A _ _ rfl];iterate 7 rw[a0o _ _ (by omega)]
  rw[a0z _ _ (by omega) (by omega)]
structure ZOk (l:List ZG):Prop where
 ok:∀ e∈l,e.Ok
 nodup:(l.map (fun e:ZG=>e.x.name)).Nodup
 len:l.length<=64
theorem a6A{l:List ZG}(h:∀ e∈l,e.Ok):(zPs l).length<=l.length*8286/\∀ a,(zRs a l).length<=l.length*110:=by
 induction l with
 | nil=>exact⟨by simp[zPs],fun a=>by simp[zRs]⟩
 | cons e l ih=>
  obtain⟨i1,i2⟩:=ih (fun x hx=>h x (c1s _ hx))
  have he:=h e c1r
  have hn:=a3c he.name
  have hd:=he.size
  have hb:=he.packed
  have hpl:=e.piece_len
  refine⟨by rw[a0K,c1o,c1p];omega,fun a=>?_⟩
  have:=i2 (a+e.piece.length)
  rw[a1s,c1o,c1p,e.recd_len];omega
theorem a1q(l:List ZG):(zfileB l).length=(zPs l).length+(zRs 0 l).length+22:=by
 unfold zfileB;rw[c1o,c1o,a4y];omega
theorem a2O{l:List ZG}(h:ZOk l):(zfileB l).length<=600000:=by
 have h1:=(a6A h.ok).1
 have h2:=(a6A h.ok).2 0
 have h3:=h.len
 rw[a1q]
 omega
theorem b0s{l:List ZG}(h:ZOk l):ZEnd (zfileB l) ((zfileB l).length-22)/\zmany (zfileB l)=l.length/\zfirst (zfileB l)=(zPs l).length:=by
 have h1:=(a6A h.ok).1
 have h2:=(a6A h.ok).2 0
 have h3:=h.len
 have hl:=a1q l
 have e:zfileB l=(zPs l++zRs 0 l)++zendB l.length (zRs 0 l).length (zPs l).length:=by unfold zfileB;rw[c1q]
 obtain⟨a1,a2,a3,a4,a5,a6,a7,a8⟩:=b6D l.length (zRs 0 l).length (zPs l).length (zPs l++zRs 0 l) (by omega) (by omega) (by omega)
 rw[<-e,c1o] at a1 a2 a3 a4 a5 a6 a7 a8
 unfold zmany zfirst
 rw[hl,show (zPs l).length+(zRs 0 l).length+22-22=(zPs l).length+(zRs 0 l).length by omega]
 refine⟨⟨a1,a2,a3,a4.trans a5.symm,by rw[a6,a7];omega,a8⟩,by rw[a4];omega,by rw[a7];omega⟩
theorem a2r{l:List ZG}(h:ZOk l):zpieces (zfileB l)=(0,zpcs 0 l):=by
 obtain⟨e1,e2,e3⟩:=b0s h
 have hs:=a2O h
 have hl:=a1q l
 have h3:=h.len
 unfold zpieces
 rw[if_neg (by omega),if_neg (by omega),if_neg (fun x=>x e1),e2,e3,if_neg (by omega)]
 have:=a7O l [] [] (zendB l.length (zRs 0 l).length (zPs l).length) (zPs l).length ((zfileB l).length-22) (zPs l).length 0 [] h.ok (fun _ _=>by simp[znames]) h.nodup rfl (by simp) (by simp) (by omega) (by omega)
 rw[c1v,c1v,c1v] at this
 exact this
theorem a4w(e:ZG)(l:List ZG)(n:Nat):zPs ((e::l).take (n+1))=e.piece++zPs (l.take n):=by rw[c1x,a0K]
theorem b8d{xs:List Int}{m j n:Nat}(h:j+n<=m):seg (xs.take m) j n=seg xs j n:=by
 unfold seg;rw[List.take_take,Nat.min_eq_left h]
theorem a3k{xs:List Int}{m j n:Nat}(h:j+n<=m):zget (xs.take m) j n=zget xs j n:=by unfold zget;rw[b8d h]
theorem a7E(xs:List Int):(strOfNums xs).size=xs.length:=strOfNums_size xs
theorem a3P{xs:List Int}{first en rp at_:Nat}{known:List ByteArray}(h:a1C xs first en rp at_ known=0) :
  a8I xs en rp/\nameB (a3l xs rp)=true/\((zrecI xs rp).way=0∨(zrecI xs rp).way=8)/\(zrecI xs rp).size<=8192/\(zrecI xs rp).packed<=16384/\((at_+30+a1h xs rp:Nat):Int)+(zrecI xs rp).packed<=first/\a2v xs at_ (zrecI xs rp)/\a3l xs rp∉known:=by
 unfold a1C at h
 split at h;· omega
 split at h;· omega
 split at h;· omega
 split at h;· omega
 split at h;· omega
 split at h;· omega
 rename_i a1 a2 a3 a4 a5 a6
 simp only[c1U] at a1 a3 a5 a6
 refine⟨a1,?_,a3,by omega,by omega,a5.2.2,a6,fun h=>a2 (.inl h)⟩
 cases hq:nameB (a3l xs rp) with
 | true=>rfl
 | false=>exact absurd (.inr hq) a2
theorem b0o(xs xs':List Int)(m first en:Nat)(hm:xs'=xs.take m)(hml:xs'.length=m)(hfe:first<=en)(hem:en<=m)(hnn:∀ rp,0<=(zrecI xs' rp).packed):∀ (l:List ZG) (n:Nat) (A R:List Int) (rp at_:Nat) (acc l':List ZP),(∀ e∈l,e.Ok)->xs=A++(zPs l++R)->zget R 0 4≠67324752->at_=A.length ->
  zloop xs' first en n rp at_ acc=(0,l')->n<=l.length/\first=at_+(zPs (l.take n)).length/\en=rp+(zRs at_ (l.take n)).length
 | l,0,A,R,rp,at_,acc,l',hok,hx,hR,ha,h=>by
  rw[zloop] at h
  split at h
  ·rename_i hq
   refine⟨Nat.zero_le _,?_,?_⟩
   ·rw[c1y,zPs,c1K,c1u];omega
   ·rw[c1y,zRs,c1u];omega
  ·injection h with h1 h2;cases h1
 | l,n+1,A,R,rp,at_,acc,l',hok,hx,hR,ha,h=>by
  rw[zloop] at h
  split at h
  ·rename_i hw
   obtain⟨q1,q2,q3,q4,q5,q6,q7,-⟩:=a3P hw
   have hpk:=hnn rp
   obtain⟨b1,b2,b3,b4,b5⟩:=q7
   have hz:zget xs' at_ 4=zget xs at_ 4:=by rw[hm];exact a3k (by omega)
   cases l with
   | nil=>
    exfalso
    rw[hz,hx,a0A (k:=0) _ _ (by omega),zPs,c1K,c1v] at b1
    exact hR b1
   | cons e l=>
    have he:=hok e c1r
    have hX:xs=A++(e.piece++(zPs l++R)):=by rw[hx,a0K];simp only[c1q]
    obtain⟨⟨c1,c2,c3,c4,c5⟩,-⟩:=e.head_at he A (zPs l++R)
    rw[<-hX,<-ha] at c1 c2 c3 c4 c5
    have hnl:(a3l xs' rp).size=a1h xs' rp:=by
     unfold a3l
     rw[a7E,a4M (by rw[hml];have:=q1.2.2.2.2.2.2;omega)]
    have hnm:(zrecI xs' rp).name.size=e.x.name.size:=by
     have:zget xs' (at_+26) 2=zget xs (at_+26) 2:=by rw[hm];exact a3k (by omega)
     rw[this,c4] at b4
     omega
    have hnz:a1h xs' rp=e.x.name.size:=by rw[<-hnl];exact hnm
    have hpp:(zrecI xs' rp).packed=e.x.packed:=by
     have e1:(zinf xs' (at_+4) (strOfNums (seg xs' (at_+30) (zrecI xs' rp).name.size))).packed=(zrecI xs' rp).packed:=by rw[b5]
     have e2:(zinf xs (at_+4) (strOfNums (seg xs (at_+30) e.x.name.size))).packed=e.x.packed:=by rw[c5]
     rw[<-e1,<-e2]
     show zget xs' (at_+4+14) 4=zget xs (at_+4+14) 4
     rw[hm];exact a3k (by omega)
    have hpb:e.x.packed.toNat=e.body.length:=by rw[he.packed.1];exact c1A _
    rw[hnz,hpp,hpb] at h
    have hpl:=e.piece_len
    have hrl:=e.recd_len at_
    obtain⟨r1,r2,r3⟩:=b0o xs xs' m first en hm hml hfe hem hnn l n (A++e.piece) R (rp+46+e.x.name.size) (at_+30+e.x.name.size+e.body.length) _ l' (fun x hx=>hok x (c1s _ hx)) (by rw[hX,c1q]) hR (by rw[c1o];omega) h
    refine⟨by rw[c1p];omega,?_,?_⟩
    ·rw[a4w,c1o];omega
    ·rw[c1x,a1s,c1o,hrl,show at_+e.piece.length=at_+30+e.x.name.size+e.body.length by omega];omega
  ·injection h with h1 h2;contradiction
theorem b3d{l:List ZG}(e:ZG)(he:e.Ok)(A Z:List Int):zget (A++(zPs (e::l)++Z)) A.length 4=67324752:=by
 rw[a0K,c1q]
 exact (e.head_at he A _).1.1
theorem b0z{xs:List Int}(h:(zpieces xs).1=0):xs.length<=1048576/\22<=xs.length/\ZEnd xs (xs.length-22)/\zmany xs<=64/\zpieces xs=zloop xs (zfirst xs) (xs.length-22) (zmany xs) (zfirst xs) 0 []:=by
 unfold zpieces at h ⊢
 split at h;· cases h
 split at h;· cases h
 split at h;· cases h
 split at h;· cases h
 rename_i a1 a2 a3 a4
 refine⟨by omega,by omega,c1U.1 a3,by omega,?_⟩
 rw[if_neg a1,if_neg a2,if_neg a3,if_neg a4]
theorem zcut{l:List ZG}(h:ZOk l){m:Nat}(hm:m<(zfileB l).length)(hnn:∀ p n,0<=zget ((zfileB l).take m) p n):(zpieces ((zfileB l).take m)).1≠0:=by
 intro h0
 obtain⟨z1,z2,z3,z4,z5⟩:=b0z h0
 have hl:((zfileB l).take m).length=m:=by rw[List.length_take];omega
 rw[hl] at z1 z2 z3 z5
 obtain⟨t1,t2,t3,t4,t5,t6⟩:=z3
 have p1:=hnn (m-22+16) 4
 have p2:=hnn (m-22+12) 4
 have hfz:zfirst ((zfileB l).take m)=(zget ((zfileB l).take m) (m-22+16) 4).toNat:=by unfold zfirst;rw[hl]
 have hfe:zfirst ((zfileB l).take m)<=m-22:=by omega
 obtain⟨l',hl'⟩:∃ l',zloop ((zfileB l).take m) (zfirst ((zfileB l).take m)) (m-22) (zmany ((zfileB l).take m)) (zfirst ((zfileB l).take m)) 0 []=(0,l'):=by
  rw[z5] at h0
  exact⟨_,Prod.ext h0 rfl⟩
 have hR:zget (zRs 0 l++zendB l.length (zRs 0 l).length (zPs l).length) 0 4≠67324752:=by
  cases l with
  | nil=>
   have:=(b6D 0 0 0 [] (by omega) (by omega) (by omega)).1
   intro hc
   have e:zRs 0 []++zendB (List.length ([]:List ZG)) (zRs 0 []).length (zPs []).length=zendB 0 0 0:=rfl
   rw[e] at hc
   rw[c1v,c1u,hc] at this
   omega
  | cons e l=>
   have:=(e.rec_at (h.ok e c1r) [] (zRs (0+e.piece.length) l++zendB (e::l).length (zRs 0 (e::l)).length (zPs (e::l)).length) 0 (by omega)).1
   rw[c1v,c1u] at this
   intro hc
   have e0:zRs 0 (e::l)++zendB (e::l).length (zRs 0 (e::l)).length (zPs (e::l)).length=e.recd 0++(zRs (0+e.piece.length) l++zendB (e::l).length (zRs 0 (e::l)).length (zPs (e::l)).length):=by
    rw[<-c1q,<-a1s]
   rw[e0,this] at hc
   omega
 obtain⟨k1,k2,k3⟩:=b0o (zfileB l) _ m _ _ rfl hl hfe (by omega) (fun rp=>hnn _ _) l _ [] _ _ _ _ l' h.ok rfl hR rfl hl'
 rw[c1u,Nat.zero_add] at k2
 rw[c1u] at k3
 have hlen:=a1q l
 by_cases hn:zmany ((zfileB l).take m)=0
 ·rw[hn,c1y,zPs,c1K,c1u] at k2
  rw[hn,c1y,zRs,c1u] at k3
  cases l with
  | nil=>simp[zPs,zRs] at hlen;omega
  | cons e l=>
   have:=b3d (l:=l) e (h.ok e c1r) [] (zRs 0 (e::l)++zendB (e::l).length (zRs 0 (e::l)).length (zPs (e::l)).length)
   rw[c1v] at this
   rw[show m-22=0 by omega,a3k (by omega)] at t1
   have e0:zget (zfileB (e::l)) 0 4=67324752:=this
   omega
 ·by_cases hlt:zmany ((zfileB l).take m)<l.length
  ·rw[z5] at h0
   obtain⟨n',hn'⟩:∃ n',zmany ((zfileB l).take m)=n'+1:=⟨_,(Nat.succ_pred hn).symm⟩
   rw[hn',zloop] at hl'
   split at hl'
   ·rename_i hw
    have q1:=(a3P hw).1
    have q2:=q1.2.1
    have q3:=q1.1
    rw[a3k (by omega)] at q2
    have hsplit:zPs l=zPs (l.take (zmany ((zfileB l).take m)))++zPs (l.drop (zmany ((zfileB l).take m))):=by
     unfold zPs;rw[<-List.flatMap_append,c1X]
    cases hd:l.drop (zmany ((zfileB l).take m)) with
    | nil=>have:=congrArg List.length hd;rw[List.length_drop,c1u] at this;omega
    | cons e t=>
     have hmem:e∈l:=List.mem_of_mem_drop (by rw[hd];exact c1r)
     have:=b3d (l:=t) e (h.ok e hmem) (zPs (l.take (zmany ((zfileB l).take m)))) (zRs 0 l++zendB l.length (zRs 0 l).length (zPs l).length)
     rw[<-hd,<-c1q,<-hsplit,<-k2] at this
     have e0:zget (zfileB l) (zfirst ((zfileB l).take m)) 4=67324752:=this
     omega
   ·injection hl' with h1 h2;contradiction
  ·have heq:zmany ((zfileB l).take m)=l.length:=by omega
   rw[heq,List.take_length] at k2 k3
   omega
theorem b8b(x:Int)(xs:List Int)(j n:Nat):seg (x::xs) (j+1) n=seg xs j n:=a0F [x] xs (by rw[List.length_singleton];omega)
theorem c0U{l:List ZG}(h:ZOk l)(v:Int):(zpieces (v::zfileB l)).1=81:=by
 obtain⟨⟨t1,t2,t3,t4,t5,t6⟩,e2,e3⟩:=b0s h
 have hs:=a2O h
 have hl:=a1q l
 have hc:(v::zfileB l).length=(zfileB l).length+1:=c1p
 unfold zpieces
 rw[hc,if_neg (by omega),if_neg (by omega),if_pos (fun hz=>?_)]
 obtain⟨u1,u2,u3,u4,u5,u6⟩:=hz
 have g:∀ j n,zget (v::zfileB l) ((zfileB l).length+1-22+j) n=zget (zfileB l) ((zfileB l).length-22+j) n:=by
  intro j n
  unfold zget
  rw[show (zfileB l).length+1-22+j=((zfileB l).length-22+j)+1 by omega,b8b]
 rw[g,g] at u5
 omega
theorem b2f:∀ (l:List ZG) (A R:List Int),(∀ e∈l,e.Ok)->∀ (i:Nat) (hi:i<(zpcs A.length l).length) (hi2:i<l.length),(zpcs A.length l)[i].x=l[i].x/\seg (A++(zPs l++R)) (zpcs A.length l)[i].fro (zpcs A.length l)[i].len=l[i].body
 | [],_,_,_,i,hi,hi2=>by simp at hi2
 | e::l,A,R,hok,i,hi,hi2=>by
  have he:=hok e c1r
  have hpb:e.x.packed.toNat=e.body.length:=by rw[he.packed.1];exact c1A _
  have hX:A++(zPs (e::l)++R)=A++(e.piece++(zPs l++R)):=by rw[a0K];simp only[c1q]
  have hY:A++(zPs (e::l)++R)=(A++e.piece)++(zPs l++R):=by rw[hX,c1q]
  cases i with
  | zero=>
   refine⟨rfl,?_⟩
   rw[hX]
   show seg _ (A.length+30+e.x.name.size) e.x.packed.toNat=e.body
   rw[hpb]
   exact (e.head_at he A (zPs l++R)).2
  | succ i=>
   rw[hY]
   have:=b2f l (A++e.piece) R (fun x hx=>hok x (c1s _ hx)) i (by simp only[zpcs,c1p] at hi;rw[c1o];omega) (by rw[c1p] at hi2;omega)
   simp only[c1o] at this
   exact this
theorem a4A:∀ (l:List ZG) (a:Nat),(zpcs a l).length=l.length
 | [],_=>rfl
 | e::l,a=>by rw[zpcs,c1p,a4A,c1p]
def ZG.data(e:ZG):List Int×Int:=
 if e.x.way=8 then
  if (a0O e.body e.x.size).2.2≠0∨(a0O e.body e.x.size).2.1≠e.body.length∨((a0O e.body e.x.size).1.length:Int)≠e.x.size then ([],84)
  else if ((crcF (a0O e.body e.x.size).1:Nat):Int)≠e.x.sum then ([],83) else ((a0O e.body e.x.size).1,0)
 else if ((crcF e.body:Nat):Int)≠e.x.sum then ([],83) else (e.body,0)
def zoutL:List ZG->List (ByteArray×ByteArray)->List (ByteArray×ByteArray)×Int
 | [],acc=>(acc,0)
 | e::l,acc=>if e.data.2=0 then zoutL l (acc++[(e.x.name,strOfNums e.data.1)]) else ([],e.data.2)
def zlookL(name:ByteArray):List ZG->List Int×Int
 | []=>([],85)
 | e::l=>if e.x.name=name then e.data else zlookL name l
theorem b3g{xs:List Int}{p:ZP}{e:ZG}(he:e.Ok)(h1:p.x=e.x)(h2:seg xs p.fro p.len=e.body):a2B xs p=e.data:=by
 have hl:p.len=e.body.length:=by unfold ZP.len;rw[h1,he.packed.1];exact c1A _
 unfold a2B ZG.data
 rw[h2,hl,h1]
theorem b0p:∀ (l:List ZG) (A R:List Int) (acc:List (ByteArray×ByteArray)),(∀ e∈l,e.Ok)->zdatas (A++(zPs l++R)) (zpcs A.length l) acc=zoutL l acc
 | [],_,_,_,_=>rfl
 | e::l,A,R,acc,hok=>by
  have he:=hok e c1r
  have h0:=b2f (e::l) A R hok 0 (by rw[a4A,c1p];omega) (by rw[c1p];omega)
  have hY:A++(zPs (e::l)++R)=(A++e.piece)++(zPs l++R):=by rw[a0K];simp only[c1q]
  have hd:=b3g (xs:=A++(zPs (e::l)++R)) (p:=(zpcs A.length (e::l))[0]'(by rw[a4A,c1p];omega)) (e:=e) he h0.1 h0.2
  have hd':a2B (A++(zPs (e::l)++R)) ⟨e.x,A.length+30+e.x.name.size⟩=e.data:=hd
  have hi:=b0p l (A++e.piece) R (acc++[(e.x.name,strOfNums e.data.1)]) (fun x hx=>hok x (c1s _ hx))
  rw[c1o,<-hY] at hi
  rw[zpcs,zdatas,hd',zoutL,hi]
theorem b0t(name:ByteArray):∀ (l:List ZG) (A R:List Int),(∀ e∈l,e.Ok)->zfindL (A++(zPs l++R)) name (zpcs A.length l)=zlookL name l
 | [],_,_,_=>rfl
 | e::l,A,R,hok=>by
  have he:=hok e c1r
  have h0:=b2f (e::l) A R hok 0 (by rw[a4A,c1p];omega) (by rw[c1p];omega)
  have hY:A++(zPs (e::l)++R)=(A++e.piece)++(zPs l++R):=by rw[a0K];simp only[c1q]
  have hd:=b3g (xs:=A++(zPs (e::l)++R)) (p:=(zpcs A.length (e::l))[0]'(by rw[a4A,c1p];omega)) (e:=e) he h0.1 h0.2
  have hd':a2B (A++(zPs (e::l)++R)) ⟨e.x,A.length+30+e.x.name.size⟩=e.data:=hd
  have hi:=b0t name l (A++e.piece) R (fun x hx=>hok x (c1s _ hx))
  rw[c1o,<-hY] at hi
  rw[zpcs,zfindL,hd',zlookL,hi]
theorem a7Q{l:List ZG}(h:ZOk l):a2k (zfileB l)=zoutL l []:=by
 have e:=a2r h
 unfold a2k
 rw[e,if_pos rfl]
 exact b0p l [] _ [] h.ok
theorem a4Y{l:List ZG}(h:ZOk l)(name:ByteArray):b4t (zfileB l) name=zlookL name l:=by
 have e:=a2r h
 unfold b4t
 rw[e,if_pos rfl]
 exact b0t name l [] _ h.ok
end Go.Proofs.YtghjlpechjggjaaGreatDoor
namespace Go.Proofs.YtghjlpechjggjaaGreatDoor
open Go.RowKit
def b6E(way:Int)(body data:List Int)(name:ByteArray):List Int:=zlesB 4 [67324752]++sharedB way (crcF data:Nat) body.length data.length name.size
def a6W(way:Int)(body data:List Int)(name:ByteArray):List Int:=b6E way body data name++(sb name++body)
def zrec(way:Int)(body data:List Int)(name:ByteArray)(at_:Int):List Int:=zlesB 4 [33639248]++(zlesB 2 [20]++(sharedB way (crcF data:Nat) body.length data.length name.size++(zlesB 2 [0,0,0]++(zlesB 4 [0,at_]++sb name))))
def zway(data ys:List Int):Int:=if ys.length<data.length then 8 else 0
def a3O(data ys:List Int):List Int:=if ys.length<data.length then ys else data
structure ZE where
 name:ByteArray
 dat:ByteArray
 ys:List Int
def ZE.way(e:ZE):Int:=zway (sb e.dat) e.ys
def ZE.body(e:ZE):List Int:=a3O (sb e.dat) e.ys
def ZE.g(e:ZE):ZG:=⟨⟨e.name,e.dat.size,e.body.length,(crcF (sb e.dat):Nat),e.way⟩,e.body⟩
theorem ZE.way08(e:ZE):e.way=0∨e.way=8:=by unfold ZE.way zway;split<;>simp
theorem ZE.body_le(e:ZE):e.body.length<=e.dat.size/\(e.way=0->e.body=sb e.dat)/\(e.way=8->e.body=e.ys/\e.ys.length<e.dat.size):=by
 have:=a1o e.dat
 unfold ZE.body a3O ZE.way zway
 by_cases h:e.ys.length<(sb e.dat).length
 ·simp only[if_pos h];refine⟨by omega,by omega,fun _=>⟨trivial,by omega⟩⟩
 ·simp only[if_neg h];refine⟨by omega,fun _=>trivial,by omega⟩
structure ZE.Ok (e:ZE):Prop where
 name:nameB e.name=true
 dat:e.dat.size<=8192
 defl:Defl (sb e.dat) e.ys
theorem ZE.Ok.g{e:ZE}(h:e.Ok):e.g.Ok:=by
 have hb:=e.body_le
 have hd:=h.dat
 have hc:=b0M (a5q e.dat)
 refine⟨h.name,e.way08,⟨Int.natCast_nonneg _,?_⟩,⟨rfl,?_⟩,⟨Int.natCast_nonneg _,?_⟩,?_⟩
 ·show (e.dat.size:Int)<=8192;omega
 ·show (e.body.length:Int)<=8192;omega
 ·show ((crcF (sb e.dat):Nat):Int)<4294967296;omega
 ·rcases e.way08 with h0|h8
  ·right
   show (e.dat.size:Int)=e.body.length
   rw[hb.2.1 h0,a1o]
  ·exact .inl h8
theorem ZE.piece_eq(e:ZE):e.g.piece=a6W (zway (sb e.dat) e.ys) (a3O (sb e.dat) e.ys) (sb e.dat) e.name:=by
 unfold a6W b6E;rw[a1o];rfl
theorem ZE.recd_eq(e:ZE)(a:Nat):e.g.recd a=zrec (zway (sb e.dat) e.ys) (a3O (sb e.dat) e.ys) (sb e.dat) e.name a:=by
 unfold zrec;rw[a1o];rfl
theorem ZE.Ok.data{e:ZE}(h:e.Ok):e.g.data=(sb e.dat,0):=by
 have hb:=e.body_le
 have hd:=h.dat
 have hs:=a1o e.dat
 unfold ZG.data
 rcases e.way08 with h0|h8
 ·have e1:e.g.body=sb e.dat:=hb.2.1 h0
  have e2:e.g.x.way=0:=h0
  rw[e2,if_neg (by omega),e1,if_neg (fun h=>h rfl)]
 ·have e1:e.g.body=e.ys:=(hb.2.2 h8).1
  have e2:e.g.x.way=8:=h8
  have e3:e.g.x.size=e.dat.size:=rfl
  have hi:a0O e.ys e.g.x.size=(sb e.dat,e.ys.length,0):=h.defl.infl (a5q _) (by omega) (by omega) (by omega)
  rw[e2,if_pos rfl,e1,hi,if_neg (fun h=>by
   rcases h with h|h|h
   ·exact h rfl
   ·exact h rfl
   ·exact h (by show ((sb e.dat).length:Int)=_;rw[e3];omega)),if_neg (fun h=>h rfl)]
theorem a4X(l m:List ZG):zPs (l++m)=zPs l++zPs m:=by unfold zPs;rw[List.flatMap_append]
theorem b1X:∀ (l m:List ZG) (a:Nat),zRs a (l++m)=zRs a l++zRs (a+(zPs l).length) m
 | [],m,a=>by rw[c1v,zRs,c1v,zPs,c1K,c1u,Nat.add_zero]
 | e::l,m,a=>by rw[List.cons_append,a1s,a1s,b1X l m,a0K,c1o,c1q,Nat.add_assoc]
theorem b1W(e:ZG):zPs [e]=e.piece:=by rw[a0K,zPs,c1K,c1E]
theorem b6A(e:ZG)(a:Nat):zRs a [e]=e.recd a:=by rw[a1s,zRs,c1E]
def ZE.out(e:ZE):ByteArray×ByteArray:=(e.name,e.dat)
theorem b6G:∀ (l:List ZE) (acc:List (ByteArray×ByteArray)),(∀ e∈l,e.Ok)->zoutL (l.map ZE.g) acc=(acc++l.map ZE.out,0)
 | [],acc,_=>by rw[List.map_nil,List.map_nil,zoutL,c1E]
 | e::l,acc,h=>by
  have hd:=(h e c1r).data
  rw[c1w,c1w,zoutL,hd,if_pos rfl,b6G l _ (fun x hx=>h x (c1s _ hx)),c1q]
  show (acc++([(e.name,strOfNums (sb e.dat))]++l.map ZE.out),(0:Int))=_
  rw[a8A];rfl
theorem b3h:∀ (l:List ZE) (e:ZE),(∀ e∈l,e.Ok)->(l.map ZE.name).Nodup->e∈l->zlookL e.name (l.map ZE.g)=(sb e.dat,0)
 | [],e,_,_,h=>by cases h
 | f::l,e,hok,hnd,h=>by
  rw[c1w,zlookL]
  rw[c1w,List.nodup_cons] at hnd
  rcases List.mem_cons.1 h with rfl|h
  ·exact (if_pos rfl).trans (hok e c1r).data
  ·refine (if_neg (fun hc=>hnd.1 (c1N.2 ⟨e,h,(show f.name=e.name from hc).symm⟩))).trans ?_
   exact b3h l e (fun x hx=>hok x (c1s _ hx)) hnd.2 h
theorem a7M:∀ (l:List ZE) (name:ByteArray),(∀ e∈l,e.name≠name)->zlookL name (l.map ZE.g)=([],85)
 | [],_,_=>rfl
 | e::l,name,h=>by
  rw[c1w,zlookL]
  refine (if_neg (h e c1r)).trans ?_
  exact a7M l name (fun x hx=>h x (c1s _ hx))
theorem b8Y{l:List ZE}(h:∀ e∈l,e.Ok)(hn:(l.map ZE.name).Nodup)(hl:l.length<=64):ZOk (l.map ZE.g):=
 ⟨fun g hg=>by obtain⟨e,he,rfl⟩:=c1N.1 hg;exact (h e he).g,by rw[List.map_map];exact hn,by rw[List.length_map];exact hl⟩
def ZG.turn(e:ZG)(k:Nat)(v:Int):ZG:=⟨e.x,e.body.set k v⟩
theorem ZG.turn_piece(e:ZG){k:Nat}(v:Int):(e.turn k v).piece=e.piece.set (30+e.x.name.size+k) v:=by
 have e1:(zlesB 4 [67324752]++sharedB e.x.way e.x.sum e.x.packed e.x.size e.x.name.size).length=30:=by simp only[c1o,a1Q,a1f,c1p,c1u]
 have e2:=a1o e.x.name
 unfold ZG.piece
 rw[c1W _ _ (by rw[e1];omega),c1W _ _ (by rw[e1,e2];omega),e1,e2,show 30+e.x.name.size+k-30-e.x.name.size=k by omega]
 rfl
theorem ZG.turn_len(e:ZG)(k:Nat)(v:Int):(e.turn k v).piece.length=e.piece.length:=by rw[ZG.turn_piece,c1R]
theorem b3e:∀ (l:List ZG) (i k:Nat) (v:Int) (hi:i<l.length),k<l[i].body.length->zPs (l.set i (l[i].turn k v))=(zPs l).set ((zPs (l.take i)).length+30+l[i].x.name.size+k) v
 | [],i,_,_,hi,_=>by simp at hi
 | e::l,0,k,v,hi,hk=>by
  have hpl:=e.piece_len
  have hk':k<e.body.length:=hk
  rw[c1M,a0K,a0K]
  show (e.turn k v).piece++zPs l=(e.piece++zPs l).set ((zPs []).length+30+e.x.name.size+k) v
  rw[show (zPs []).length=0 from rfl,Nat.zero_add,List.set_append_left _ _ (by omega),ZG.turn_piece]
 | e::l,i+1,k,v,hi,hk=>by
  have hi':i<l.length:=by rw[c1p] at hi;omega
  have h:=b3e l i k v hi' hk
  rw[c1L,a0K,a0K,a4w]
  show e.piece++zPs (l.set i (l[i].turn k v))=(e.piece++zPs l).set ((e.piece++zPs (l.take i)).length+30+l[i].x.name.size+k) v
  rw[c1W _ _ (by rw[c1o];omega),h]
  congr 2
  rw[c1o];omega
theorem b3f:∀ (l:List ZG) (a i k:Nat) (v:Int) (hi:i<l.length),zRs a (l.set i (l[i].turn k v))=zRs a l
 | [],_,i,_,_,hi=>by simp at hi
 | e::l,a,0,k,v,hi=>by
  rw[c1M,a1s,a1s]
  show (e.turn k v).recd a++zRs (a+(e.turn k v).piece.length) l=_
  rw[ZG.turn_len];rfl
 | e::l,a,i+1,k,v,hi=>by
  have h:=b3f l (a+e.piece.length) i k v (by rw[c1p] at hi;omega)
  rw[c1L,a1s,a1s]
  exact congrArg (e.recd a++·) h
theorem b0y:∀ (l:List ZG) (a i k:Nat) (v:Int) (hi:i<l.length),zpcs a (l.set i (l[i].turn k v))=zpcs a l
 | [],_,i,_,_,hi=>by simp at hi
 | e::l,a,0,k,v,hi=>by
  rw[c1M,zpcs,zpcs]
  show _::zpcs (a+(e.turn k v).piece.length) l=_
  rw[ZG.turn_len];rfl
 | e::l,a,i+1,k,v,hi=>by
  have h:=b0y l (a+e.piece.length) i k v (by rw[c1p] at hi;omega)
  rw[c1L,zpcs,zpcs]
  exact congrArg (_::·) h
theorem b4s(l:List ZG)(i k:Nat)(v:Int)(hi:i<l.length)(hk:k<l[i].body.length):(zfileB l).set ((zPs (l.take i)).length+30+l[i].x.name.size+k) v=zfileB (l.set i (l[i].turn k v)):=by
 have hp:=b3e l i k v hi hk
 have hr:=b3f l 0 i k v hi
 have hlt:(zPs (l.take i)).length+30+l[i].x.name.size+k<(zPs l).length:=by
  have h1:zPs l=zPs (l.take i)++zPs (l.drop i):=by rw[<-a4X,c1X]
  have h2:zPs (l.drop i)=l[i].piece++zPs (l.drop (i+1)):=by rw[List.drop_eq_getElem_cons hi,a0K]
  have hpl:=l[i].piece_len
  rw[h1,h2,c1o,c1o];omega
 unfold zfileB
 rw[hr,hp,c1R,c1R,List.set_append_left _ _ hlt]
theorem b8u{l:List ZG}(h:ZOk l)(i k:Nat)(v:Int)(hi:i<l.length):ZOk (l.set i (l[i].turn k v)):=by
 refine⟨fun g hg=>?_,?_,by rw[c1R];exact h.len⟩
 ·rcases List.mem_or_eq_of_mem_set hg with hg|rfl
  ·exact h.ok g hg
  ·have ho:=h.ok l[i] (c1O hi)
   exact⟨ho.name,ho.way,ho.size,⟨by rw[show (l[i].turn k v).body.length=l[i].body.length from c1R];exact ho.packed.1,ho.packed.2⟩,ho.sum,ho.same⟩
 ·rw[List.map_set]
  have:(l[i].turn k v).x.name=(l.map fun e:ZG=>e.x.name)[i]'(by rw[List.length_map];exact hi):=by rw[List.getElem_map];rfl
  rw[this,List.set_getElem_self]
  exact h.nodup
theorem b6f{xs:List Int}{k:Nat}(hk:k<xs.length)(v:Int):xs=xs.take k++nth xs k::xs.drop (k+1)/\xs.set k v=xs.take k++v::xs.drop (k+1):=by
 refine⟨?_,List.set_eq_take_append_cons_drop.trans (by rw[if_pos hk])⟩
 conv=>lhs;rw[<-c1X k xs,List.drop_eq_getElem_cons hk]
 rw[a0q hk]
theorem ZE.turn_bad{e:ZE}(h:e.Ok)(h0:e.way=0){k:Nat}(hk:k<e.body.length){v:Int}(hv:0<=v/\v<=255)(hne:v≠nth e.body k):(e.g.turn k v).data=([],83):=by
 have hb:=e.body_le
 have e1:e.body=sb e.dat:=hb.2.1 h0
 have e2:(e.g.turn k v).x.way=0:=h0
 obtain⟨s1,s2⟩:=b6f hk v
 unfold ZG.data
 rw[e2,if_neg (by omega),if_pos]
 show ((crcF (e.body.set k v):Nat):Int)≠((crcF (sb e.dat):Nat):Int)
 rw[s2,<-e1]
 conv=>rhs;rw[s1]
 have hu:=a5q e.dat
 rw[<-e1] at hu
 have:=b0N (xs:=e.body.take k) (ys:=e.body.drop (k+1)) (x:=v) (y:=nth e.body k) hv (by rw[a0q hk];exact hu _ (c1O hk)) (fun z hz=>hu z (List.mem_of_mem_take hz)) (fun z hz=>hu z (List.mem_of_mem_drop hz)) hne
 omega
theorem b0x:∀ (l:List ZE) (i k:Nat) (v:Int) (acc:List (ByteArray×ByteArray)) (hi:i<l.length),(∀ e∈l,e.Ok)->(l[i].g.turn k v).data=([],83)->zoutL ((l.map ZE.g).set i (l[i].g.turn k v)) acc=([],83)
 | [],i,_,_,_,hi,_,_=>by simp at hi
 | e::l,0,k,v,acc,hi,hok,hd=>by
  rw[c1w,c1M,zoutL]
  have hd':(e.g.turn k v).data=([],83):=hd
  refine (if_neg (show ¬(e.g.turn k v).data.2=0 by rw[hd'];decide)).trans ?_
  show ([],(e.g.turn k v).data.2)=_
  rw[hd']
 | e::l,i+1,k,v,acc,hi,hok,hd=>by
  rw[c1w,c1L,zoutL,(hok e c1r).data,if_pos rfl]
  exact b0x l i k v _ (by rw[c1p] at hi;omega) (fun x hx=>hok x (c1s _ hx)) hd
theorem a7N:∀ (l:List ZE) (i k:Nat) (v:Int) (hi:i<l.length),(l.map ZE.name).Nodup->(l[i].g.turn k v).data=([],83)->zlookL l[i].name ((l.map ZE.g).set i (l[i].g.turn k v))=([],83)
 | [],i,_,_,hi,_,_=>by simp at hi
 | e::l,0,k,v,hi,hnd,hd=>by
  rw[c1w,c1M,zlookL]
  exact (if_pos rfl).trans hd
 | e::l,i+1,k,v,hi,hnd,hd=>by
  rw[c1w,c1L,zlookL]
  rw[c1w,List.nodup_cons] at hnd
  refine (if_neg (fun hc=>hnd.1 (c1N.2 ⟨l[i]'(by rw[c1p] at hi;omega),c1O _,Eq.symm hc⟩))).trans ?_
  exact a7N l i k v (by rw[c1p] at hi;omega) hnd.2 hd
theorem a9N(way sum bl dl nl:Int):∀ x∈sharedB way sum bl dl nl,0<=x/\x<=255:=by
 intro x hx
 unfold sharedB at hx
 rcases c1F.1 hx with h|h
 ·exact a1B _ _ x h
 ·rcases c1F.1 h with h|h<;>exact a1B _ _ x h
theorem ZG.u8(e:ZG)(hb:∀ x∈e.body,0<=x/\x<=255):(∀ x∈e.piece,0<=x/\x<=255)/\∀ a,∀ x∈e.recd a,0<=x/\x<=255:=by
 refine⟨fun x hx=>?_,fun a x hx=>?_⟩
 ·unfold ZG.piece at hx
  simp only[c1F] at hx
  rcases hx with (h|h)|h|h
  ·exact a1B _ _ x h
  ·exact a9N _ _ _ _ _ x h
  ·exact a5q _ x h
  ·exact hb x h
 ·unfold ZG.recd at hx
  simp only[c1F] at hx
  rcases hx with h|h|h|h|h|h
  ·exact a1B _ _ x h
  ·exact a1B _ _ x h
  ·exact a9N _ _ _ _ _ x h
  ·exact a1B _ _ x h
  ·exact a1B _ _ x h
  ·exact a5q _ x h
theorem b8t{l:List ZG}(h:∀ g∈l,∀ x∈g.body,0<=x/\x<=255):∀ x∈zfileB l,0<=x/\x<=255:=by
 have hP:∀ x∈zPs l,0<=x/\x<=255:=fun x hx=>by
  obtain⟨g,hg,hx⟩:=List.mem_flatMap.1 hx
  exact (g.u8 (h g hg)).1 x hx
 have hR:∀ (l:List ZG),(∀ g∈l,∀ x∈g.body,0<=x/\x<=255)->∀ a,∀ x∈zRs a l,0<=x/\x<=255:=by
  intro l
  induction l with
  | nil=>intro _ a x hx;simp[zRs] at hx
  | cons e l ih=>
   intro h a x hx
   rw[a1s] at hx
   rcases c1F.1 hx with hx|hx
   ·exact (e.u8 (h e c1r)).2 a x hx
   ·exact ih (fun g hg=>h g (c1s _ hg)) _ x hx
 intro x hx
 unfold zfileB zendB at hx
 simp only[c1F] at hx
 rcases hx with h1|h1|h1|h1|h1|h1
 ·exact hP x h1
 ·exact hR l h 0 x h1
 ·exact a1B _ _ x h1
 ·exact a1B _ _ x h1
 ·exact a1B _ _ x h1
 ·exact a1B _ _ x h1
theorem ZE.Ok.body_u8{e:ZE}(h:e.Ok):∀ x∈e.g.body,0<=x/\x<=255:=by
 have hd:=h.dat
 have hb:=e.body_le
 rcases e.way08 with h0|h8
 ·rw[show e.g.body=sb e.dat from hb.2.1 h0];exact a5q _
 ·rw[show e.g.body=e.ys from (hb.2.2 h8).1];exact h.defl.byte (a5q _) (by rw[a1o];omega)
end Go.Proofs.YtghjlpechjggjaaGreatDoor
namespace Go.Proofs.YtghjlpechjggjaaGreatDoor
open Go.RowKit
def zchk:List EN->List ByteArray->Int
 | [],_=>0
 | e::l,known=>if inL known e.1=true∨nameB e.1=false then 80 else if 8192<e.2.size then 87 else zchk l (known++[e.1])
def a0s(l:List EN):Int:=if 64<l.length then 86 else zchk l []
theorem b6B:∀ {l:List EN} {known:List ByteArray},zchk l known=0->(∀ e∈l,nameB e.1=true/\e.2.size<=8192/\e.1∉known)/\(l.map fun e=>e.1).Nodup
 | [],_,_=>⟨by simp,by simp⟩
 | e::l,known,h=>by
  rw[zchk] at h
  split at h
  ·cases h
  rename_i h1
  split at h
  ·cases h
  rename_i h2
  obtain⟨i1,i2⟩:=b6B h
  have hn:e.1∉known:=fun hm=>h1 (.inl (a5Y.2 hm))
  have hb:nameB e.1=true:=by
   cases hq:nameB e.1 with
   | true=>rfl
   | false=>exact absurd (.inr hq) h1
  refine⟨fun x hx=>?_,?_⟩
  ·rcases List.mem_cons.1 hx with rfl|hx
   ·exact⟨hb,by omega,hn⟩
   ·obtain⟨a,b,c⟩:=i1 x hx
    exact⟨a,b,fun hm=>c (List.mem_append_left _ hm)⟩
  ·rw[c1w,List.nodup_cons]
   refine⟨fun hm=>?_,i2⟩
   obtain⟨x,hx,he⟩:=c1N.1 hm
   exact (i1 x hx).2.2 (List.mem_append_right _ (by rw[c1S];exact he))
theorem a4x{l:List EN}(h:a0s l=0):l.length<=64/\(∀ e∈l,nameB e.1=true/\e.2.size<=8192)/\(l.map fun e=>e.1).Nodup:=by
 unfold a0s at h
 split at h
 ·cases h
 obtain⟨a,b⟩:=b6B h
 exact⟨by omega,fun e he=>⟨(a e he).1,(a e he).2.1⟩,b⟩
structure FileOf (l:List EN) (xs:List Int):Prop where
 out:∃ es:List ZE,es.map ZE.out=l/\(∀ e∈es,Defl (sb e.dat) e.ys)/\xs=zfileB (es.map ZE.g)
theorem b6C:∀ {es fs:List ZE},es.map ZE.out=fs.map ZE.out->(∀ e∈es,Defl (sb e.dat) e.ys)->(∀ e∈fs,Defl (sb e.dat) e.ys)->es=fs
 | [],[],_,_,_=>rfl
 | [],f::fs,h,_,_=>by simp at h
 | e::es,[],h,_,_=>by simp at h
 | e::es,f::fs,h,h1,h2=>by
  rw[c1w,c1w] at h
  injection h with ha hb
  have hd:e=f:=by
   cases e;cases f
   injection ha with q1 q2
   dsimp only at q1 q2
   subst q1;subst q2
   have d1:=h1 _ c1r
   have d2:=h2 _ c1r
   have:=d1.uniq d2
   dsimp only at this
   subst this;rfl
  rw[hd,b6C hb (fun x hx=>h1 x (c1s _ hx)) (fun x hx=>h2 x (c1s _ hx))]
theorem FileOf.uniq{l:List EN}{xs ys:List Int}(h:FileOf l xs)(k:FileOf l ys):xs=ys:=by
 obtain⟨es,a1,a2,rfl⟩:=h.out
 obtain⟨fs,b1,b2,rfl⟩:=k.out
 rw[b6C (a1.trans b1.symm) a2 b2]
theorem b8X{l:List EN}{es:List ZE}(hc:a0s l=0)(h:es.map ZE.out=l)(hd:∀ e∈es,Defl (sb e.dat) e.ys):(∀ e∈es,e.Ok)/\(es.map ZE.name).Nodup/\es.length<=64:=by
 obtain⟨a,b,c⟩:=a4x hc
 subst h
 refine⟨fun e he=>?_,?_,by rw[List.length_map] at a;exact a⟩
 ·obtain⟨x,y⟩:=b e.out (c1N.2 ⟨e,he,rfl⟩)
  exact⟨x,y,hd e he⟩
 ·rw[List.map_map] at c;exact c
end Go.Proofs.YtghjlpechjggjaaGreatDoor
namespace Go.Proofs.YtghjlpechjggjaaGreatDoor
open Go.RowKit
theorem b7l(w:World)(a1 a2:ByteArray)(b1 b2 c1 c2 d1 d2 e1 e2:Int):(binOp .eql 51 (.agg #[.string a1,.int .i64 b1,.int .i64 c1,.int .u32 d1,.int .i64 e1]) (.agg #[.string a2,.int .i64 b2,.int .i64 c2,.int .u32 d2,.int .i64 e2])).run Tryz.prog w=.ok (.bool (decide ((⟨a1,b1,c1,d1,e1⟩:ZI)=⟨a2,b2,c2,d2,e2⟩))) w:=by
 have u3:=Tryz.underlying3
 have u9:=c1P
 have u32:=Tryz.underlying49
 have hS:Tryz.prog.underlying 51=some (.struct (Tryz.prog.fieldsOf 51)):=by kernel_rfl
 have hp:Tryz.prog.stoodInHeld 51=false:=by kernel_rfl
 rw[run_eql_struct,show (10000:Nat)=9999+1 from rfl,run_equalIn_agg w 9999 51 _ _ hS hp]
 simp only[Program.fieldsOf,Tryz.underlying51]
 go_simp
 have ha:a1.toList=a2.toList↔a1=a2:=by
  constructor
  ·intro e
   rw[c1Q,c1Q] at e
   cases a1;cases a2
   simpa using e
  ·rintro rfl;rfl
 by_cases h1:a1=a2<;>by_cases h2:b1=b2<;>by_cases h3:c1=c2<;>by_cases h4:d1=d2<;>by_cases h5:e1=e2<;>simp[h1,h2,h3,h4,h5,ha]
theorem b3x(x y:Operand)(w:World)(a1 a2:ByteArray)(b1 b2 c1 c2 d1 d2 e1 e2:Int):(eqGuard .eql 51 x y (.agg #[.string a1,.int .i64 b1,.int .i64 c1,.int .u32 d1,.int .i64 e1]) (.agg #[.string a2,.int .i64 b2,.int .i64 c2,.int .u32 d2,.int .i64 e2])).run Tryz.prog w=.ok () w:=
 run_eqGuard_agg _ _ _ _ _ _ _ (by kernel_rfl)
theorem b3W {P:Program} {fn:Func} {p:Tmp} {ty:TypeId} (h:fn.results=#[.cell p ty]) (tmps:Array Value) (w:World) (g:Nat) (t:TypeId) (cs:Array Value) (fr:Nat×Nat) (d:TypeDesc)
  (hp:tmps.getD p undef=.pointer (some ⟨g,0,none⟩)) (hg:w.heap[g]? =some (.cells cs t fr))
  (hu:P.underlying ty=some d) (hd:(match d with|.struct _|.array _ _=>true|_=>false)=true) (hi:(P.info? ty).map (·.size)=some cs.size) :
  (results fn tmps).run P w=.ok (.agg cs) w:=by
 have hp':tmps[p]?.getD undef=.pointer (some ⟨g,0,none⟩):=by simpa using hp
 simp[results,h,hp',asAddr,run_loadVar_row w g t ty cs fr d hg hu hd hi]
theorem b3Y:(Tryz.prog.info? 77).map (·.size)=some 6:=by kernel_rfl
theorem b9j{P:Program}{X:Prop}{w:World}(h:wpAny P .any #[] (fun _ _ _=>X) 0 #[] { tmps:=#[],defers:=[] } w):X:=h.2
end Go.Proofs.YtghjlpechjggjaaGreatDoor
namespace Go.Proofs.YtghjlpechjggjaaGreatDoor
open Go.RowKit Go.Maps
structure RDR (w:World) (G:Nat) (A:Option Addr) (n c first en at_ B:Nat):Prop where
 c0:w.cell? ⟨G,0,none⟩=some (.slice A n c)
 c1:w.cell? ⟨G,1,none⟩=some (.int .i64 first)
 c2:w.cell? ⟨G,2,none⟩=some (.int .i64 en)
 c5:w.cell? ⟨G,5,none⟩=some (.int .i64 at_)
 c6:w.cell? ⟨G,6,none⟩=some (.map (some B))
 f5:w.frozen? ⟨G,5,none⟩=false
theorem RDR.only{w w':World}{G:Nat}{A:Option Addr}{n c first en at_ B:Nat}(h:RDR w G A n c first en at_ B)(k:OnlyC G 4 w w'):RDR w' G A n c first en at_ B:=
 ⟨(k.cell 0 (by omega)).trans h.c0,(k.cell 1 (by omega)).trans h.c1,(k.cell 2 (by omega)).trans h.c2,(k.cell 5 (by omega)).trans h.c5,(k.cell 6 (by omega)).trans h.c6,(k.frozen 5).trans h.f5⟩
theorem RDR.lt{w:World}{G:Nat}{A:Option Addr}{n c first en at_ B:Nat}(h:RDR w G A n c first en at_ B):G<w.heap.size:=World.block_lt_of_cell? _ _ h.c0
theorem RDR.keeps{S:List Nat}{w w':World}{G:Nat}{A:Option Addr}{n c first en at_ B:Nat}(h:RDR w G A n c first en at_ B)(k:Keeps S w w')(hG:G∉S):RDR w' G A n c first en at_ B:=by
 have hb:=k.block G h.lt hG
 exact⟨(c1H (a:=⟨G,0,none⟩) hb).trans h.c0,(c1H (a:=⟨G,1,none⟩) hb).trans h.c1,(c1H (a:=⟨G,2,none⟩) hb).trans h.c2,(c1H (a:=⟨G,5,none⟩) hb).trans h.c5,(c1H (a:=⟨G,6,none⟩) hb).trans h.c6,(World.frozen?_of_block (a:=⟨G,5,none⟩) hb).trans h.f5⟩
theorem RDR.moved{w:World}{G:Nat}{A:Option Addr}{n c first en at_ B at':Nat}(h:RDR w G A n c first en at_ B)(v:Int)(hv:v=at'):RDR (w.setCell ⟨G,5,none⟩ (.int .i64 v)) G A n c first en at' B:=
 ⟨(c1z _ _ _ _ (by simp)).trans h.c0,(c1z _ _ _ _ (by simp)).trans h.c1,(c1z _ _ _ _ (by simp)).trans h.c2,by rw[World.cell?_setCell_same _ _ _ h.c5,hv],(c1z _ _ _ _ (by simp)).trans h.c6,(World.frozen?_setCell _ _ _ _).trans h.f5⟩
theorem FD.past5{w:World}{G:Nat}{A:Option Addr}{n c q:Nat}(h:FD w G 3 A n c q)(v:Value):FD (w.setCell ⟨G,5,none⟩ v) G 3 A n c q:=
 ⟨(c1z _ _ _ _ (by simp)).trans h.c0,(c1z _ _ _ _ (by simp)).trans h.c1,(World.frozen?_setCell _ _ _ _).trans h.f1,h.ne⟩
def b0r:List Value:=[.string ⟨#[]⟩,.int .i64 0,.int .i64 0,.int .u32 0,.int .i64 0,.slice none 0 0]
structure NX (w wi:World) (G:Nat) (A:Option Addr) (n c first en at_ B:Nat) (known:List ByteArray) (T q:Nat):Prop where
 rd:RDR wi G A n c first en at_ B
 fd:FD wi G 3 A n c q
 st:SetM wi B known
 tb:Blk wi T 77 b0r
 k:Keeps [G,B] w wi
theorem NX.next{w wi w':World}{G:Nat}{A:Option Addr}{n c first en at_ B:Nat}{known:List ByteArray}{T q q':Nat}(h:NX w wi G A n c first en at_ B known T q)(f:FD w' G 3 A n c q')(o:OnlyC G 4 wi w')(hB:G≠B)(hT:G<T):NX w w' G A n c first en at_ B known T q':=
 ⟨h.rd.only o,f,h.st.keeps o.keeps (by simpa using hB.symm),h.tb.keeps o.keeps (by simp;omega),h.k.trans (o.keeps.mono (by simp))⟩
theorem NX.keeps{w wi w':World}{G:Nat}{A:Option Addr}{n c first en at_ B:Nat}{known:List ByteArray}{T q:Nat}(h:NX w wi G A n c first en at_ B known T q)(hk:Keeps [] wi w'):NX w w' G A n c first en at_ B known T q:=
 ⟨h.rd.keeps hk (by simp),h.fd.keeps hk (by simp),h.st.keeps hk (by simp),h.tb.keeps hk (by simp),h.k.trans (hk.mono (by simp))⟩
theorem NX.keepsO{w wi w':World}{G:Nat}{A:Option Addr}{n c first en at_ B:Nat}{known:List ByteArray}{T q:Nat}{S:List Nat}(h:NX w wi G A n c first en at_ B known T q)(hk:Keeps S wi w')(hS:∀ x∈S,T<x)(hG:G<T)(hB:B<T)(hw:w.heap.size<=T):NX w w' G A n c first en at_ B known T q:=
 ⟨h.rd.keeps hk (fun hm=>by have:=hS _ hm;omega),h.fd.keeps hk (fun hm=>by have:=hS _ hm;omega),h.st.keeps hk (fun hm=>by have:=hS _ hm;omega),h.tb.keeps hk (fun hm=>by have:=hS _ hm;omega),h.k.then hk (fun x hx=>.inr (by have:=hS x hx;omega))⟩
theorem NX.zb{w wi:World}{G:Nat}{A:Option Addr}{n c first en at_ B:Nat}{known:List ByteArray}{T q:Nat}{xs:List Int}(h:NX w wi G A n c first en at_ B known T q)(hz:ZB w A n c xs)(ho:Off [G,B] A):ZB wi A n c xs:=hz.keeps h.k ho
def NextP(w:World)(G:Nat)(A:Option Addr)(n c:Nat)(xs:List Int)(first en rp at_ B:Nat)(known:List ByteArray)(r:Ending)(w':World):Prop:=
 Keeps [G,B] w w'/\((a1C xs first en rp at_ known≠0/\r=.panicked (a7l (a1C xs first en rp at_ known))) ∨
  (a1C xs first en rp at_ known=0/\r=.returned (.agg #[.string (a3l xs rp),.int .i64 (zrecI xs rp).size,.int .i64 (zrecI xs rp).packed,.int .u32 (zrecI xs rp).sum,.int .i64 (zrecI xs rp).way,.slice (cutA A (at_+30+a1h xs rp) c) (zrecI xs rp).packed.toNat (c-(at_+30+a1h xs rp))]) /\
   RDR w' G A n c first en (at_+30+a1h xs rp+(zrecI xs rp).packed.toNat) B/\FD w' G 3 A n c (rp+46+a1h xs rp)/\SetM w' B (known++[a3l xs rp])))
theorem b2e (w:World) (G:Nat) (A:Option Addr) (n c:Nat) (xs:List Int) (first en rp at_ B:Nat) (known:List ByteArray) (hr:RDR w G A n c first en at_ B) (hf:FD w G 3 A n c rp) (hz:ZB w A n c xs) (hm:SetM w B known) (hGB:G≠B) (hAB:∀ a,A=some a->a.block≠B)
  (h1:first<=en) (h2:en<=n) (h3:rp<=en) (h4:at_<=first) (hkn:known.length<=100000) :
  Calls Tryz.prog 76 #[.pointer (some ⟨G,0,none⟩)] w (NextP w G A n c xs first en rp at_ B known):=by
 have HR:=c1n hr
 have HF:=c1n hf
 have HZ:=c1n hz
 have HM:=c1n hm
 have HAB:=c1n hAB
 have hn9:=hz.len
 have HX:=c1n hz.ri.len
 have HGw:=c1n hr.lt
 have HBw:=c1n hm.lt
 have HOF:=c1n hf.off
 have r2:=hr.c2
 have r4:=hf.c1
 clear hr hf hz hm hAB
 have s1:IntKind.i64.wrap ((en:Int)-(rp:Int))=(en:Int)-(rp:Int):=c1C _ (by omega)
 obtain⟨E,hE⟩:∃ z,z=a1C xs first en rp at_ known:=⟨_,rfl⟩
 have HE:=c1n hE
 have BAD:Hid (∀ (e:Int),E=e->e≠0->∀ (w':World),Keeps [G,B] w w'->NextP w G A n c xs first en rp at_ B known (.panicked (a7l e)) w'):=c1n (fun e he h0 w' hk=>by
  rw[HE.out] at he
  subst he
  exact⟨hk,.inl ⟨h0,rfl⟩⟩)
 clear hE
 go_enter Tryz.func76,Tryz.ntmps76
 go_upto_region 2 with (fail)
 obtain⟨T,hT⟩:∃ z,z=w.heap.size:=⟨_,rfl⟩
 obtain⟨w0,hw0⟩:∃ z,z=w.alloc (.cells #[.string ⟨#[]⟩,.int .i64 0,.int .i64 0,.int .u32 0,.int .i64 0,.slice none 0 0] 77):=⟨_,rfl⟩
 rw[<-hw0,<-hT]
 have ka:Keeps [] w w0:=by rw[hw0];exact (Keeps.refl _ w).alloc _
 have T0:Hid (Blk w0 T 77 [.string ⟨#[]⟩,.int .i64 0,.int .i64 0,.int .u32 0,.int .i64 0,.slice none 0 0]):=c1n (by rw[hw0,hT];exact a0d w _ _)
 have hGT:G<T:=by have:=HGw.out;omega
 have hBT:B<T:=by have:=HBw.out;omega
 have hTw:T<w0.heap.size:=T0.out.lt
 have N0:Hid (NX w w0 G A n c first en at_ B known T rp):=c1n ⟨HR.out.keeps ka (by simp),HF.out.keeps ka (by simp),HM.out.keeps ka (by simp),T0.out,ka.mono (by simp)⟩
 have HO:Hid (Off [G,B] A):=c1n (fun a ha hm=>by
  rcases List.mem_cons.1 hm with h|h
  ·exact HOF.out a ha (by rw[h];exact c1r)
  ·rw[c1S] at h;exact HAB.out a ha h)
 have HTT:=c1n hT
 have r2:=N0.out.rd.c2
 have r4:=N0.out.fd.c1
 have K0:=c1n N0.out.k
 clear ka hw0 hT T0 HOF HAB
 by_cases q1:rp+46<=en
 case neg=>
  have HE1:Hid (E=81):=c1n (by rw[HE.out];unfold a1C;rw[if_pos (fun h=>q1 h.1)])
  have t1:decide ((46:Int)<=(en:Int)-(rp:Int))=false:=by simp;omega
  clear q1
  go_region_with (first|(go_at_call 73;refine (a0p _ 81).mono ?_;rintro _ w1 ⟨rfl,rfl⟩;refine b9j (P:=Tryz.prog) (w:=w) ?_))
  all_goals exact⟨rfl,BAD.out 81 HE1.out (by decide) _ (K0.out.trans (by repeat (first|exact Keeps.refl _ _|apply Keeps.drew|apply Keeps.drewN)))⟩
 have t1:decide ((46:Int)<=(en:Int)-(rp:Int))=true:=by simp;omega
 have hTw':w.heap.size<=T:=by have:=HTT.out;omega
 go_quiet (first|(go_at_call 73;exact Calls.quiet_of_same (a1u _ _)))
 obtain⟨w1,hw1⟩:∃ z,z=w0.drewN nq:=⟨_,rfl⟩
 have N1:Hid (NX w w1 G A n c first en at_ B known T rp):=c1n (by rw[hw1];exact N0.out.keeps ((Keeps.refl [] _).drewN _))
 rw[<-hw1]
 clear hw1 r2 r4 t1 K0 N0
 have r4:=N1.out.fd.c1
 go_wp2_with fail
 refine (a0U w1 G 3 A n c xs rp N1.out.fd (N1.out.zb HZ.out HO.out) (by omega)).mono ?_
 rintro _ w2 ⟨rfl,hf2,ho2⟩
 obtain⟨mk,hmk⟩:∃ z,z=zget xs rp 4:=⟨_,rfl⟩
 rw[<-hmk]
 have HMK:=c1n hmk
 obtain⟨P,hP⟩:∃ z,z=rp+4:=⟨_,rfl⟩
 rw[<-hP] at hf2
 have N2:=c1n (N1.out.next hf2 ho2 hGB hGT)
 have r4:=hf2.c1
 have f4:=hf2.f1
 have sP:IntKind.i64.wrap ((P:Int)+2)=(P:Int)+2:=c1C _ (by omega)
 have HP:=c1n hP
 clear hmk hf2 ho2 N1 hP
 go_upto_region 6 with (fail)
 obtain⟨w3,hw3⟩:∃ z,z=w2.setCell ⟨G,3+1,none⟩ (.int .i64 ((P:Int)+2)):=⟨_,rfl⟩
 have ho3:OnlyC G 4 w2 w3:=by rw[hw3];exact (OnlyC.refl w2).set _
 have hf3:FD w3 G 3 A n c (rp+6):=by rw[hw3];exact N2.out.fd.moved (Keeps.refl [] w2) _ (by have:=HP.out;omega)
 have N3:=c1n (N2.out.next hf3 ho3 hGB hGT)
 rw[<-hw3]
 clear hw3 ho3 hf3 r4 f4 sP N2 HP
 go_wp2_with fail
 refine (a3V w3 G 3 A n c xs (rp+6) N3.out.fd (N3.out.zb HZ.out HO.out) (by omega)).mono ?_
 rintro _ w4 ⟨pb,q,rfl,hpb,hq,hqp,hf4,ho4⟩
 have N4:=c1n (N3.out.next hf4 ho4 hGB hGT)
 have hq':Hid (pb=true->q=rp+6+26):=c1n hq
 have HPB:=c1n hpb
 have hw4:w3.heap.size<=w4.heap.size:=ho4.keeps.size
 have hT3:T<w3.heap.size:=N3.out.tb.lt
 obtain⟨vs,hvs⟩:∃ z,z=zget xs (rp+6+18) 4:=⟨_,rfl⟩
 obtain⟨vp,hvp⟩:∃ z:Nat,(z:Int)=zget xs (rp+6+14) 4:=⟨(zget xs (rp+6+14) 4).toNat,Int.toNat_of_nonneg (a2q HZ.out.byte (p:=rp+6+14) (by rw[HX.out];omega)).1⟩
 obtain⟨vc,hvc⟩:∃ z,z=zget xs (rp+6+10) 4:=⟨_,rfl⟩
 obtain⟨vw,hvw⟩:∃ z,z=zget xs (rp+6+4) 2:=⟨_,rfl⟩
 obtain⟨nl,hnl⟩:∃ z:Nat,z=a1h xs rp:=⟨_,rfl⟩
 have hnlI:zget xs (rp+6+22) 2=(nl:Int):=by
  have:=(a2P HZ.out.byte (p:=rp+28) (by rw[HX.out];omega)).1
  rw[hnl];unfold a1h
  show zget xs (rp+28) 2=_
  omega
 rw[<-hvs,<-hvp,<-hvc,<-hvw,hnlI]
 have HVS:=c1n hvs
 have HVP:=c1n hvp
 have HVC:=c1n hvc
 have HVW:=c1n hvw
 have HNL:=c1n hnl
 clear hf4 ho4 N3 hpb hq hvs hvp hvc hvw hnl hnlI
 go_upto_region 7 with (fail)
 obtain⟨X,hX⟩:∃ z,z=w4.heap.size:=⟨_,rfl⟩
 obtain⟨w5,hw5⟩:∃ z,z=w4.alloc (.cells #[.string ⟨#[]⟩,.int .i64 vs,.int .i64 (vp:Int),.int .u32 vc,.int .i64 vw] 51):=⟨_,rfl⟩
 have k5:Keeps [] w4 w5:=by rw[hw5];exact (Keeps.refl [] _).alloc _
 have X5:Hid (Blk w5 X 51 [.string ⟨#[]⟩,.int .i64 vs,.int .i64 (vp:Int),.int .u32 vc,.int .i64 vw]):=c1n (by rw[hw5,hX];exact a0d _ _ _)
 have N5:=c1n (N4.out.keeps k5)
 rw[<-hw5,<-hX]
 have hTX:T<X:=by omega
 have hXG:X≠G:=by omega
 clear hw5 k5 N4 hX
 go_wp2_with fail
 refine (a0P w5 G 3 A n c xs q N5.out.fd (N5.out.zb HZ.out HO.out) (by omega)).mono ?_
 rintro _ w6 ⟨rfl,hf6,ho6⟩
 have N6:=c1n (N5.out.next hf6 ho6 hGB hGT)
 have X6:=c1n (X5.out.keeps ho6.keeps (by simp;omega))
 obtain⟨v9,hv9⟩:∃ z,z=zget xs q 2:=⟨_,rfl⟩
 rw[<-hv9]
 have HV9:=c1n hv9
 clear hf6 ho6 hv9 N5 X5
 go_wp2_with fail
 refine (a0P w6 G 3 A n c xs (q+2) N6.out.fd (N6.out.zb HZ.out HO.out) (by omega)).mono ?_
 rintro _ w7 ⟨rfl,hf7,ho7⟩
 obtain⟨v10,hv10⟩:∃ z,z=zget xs (q+2) 2:=⟨_,rfl⟩
 rw[<-hv10]
 have HV10:=c1n hv10
 obtain⟨P2,hP2⟩:∃ z,z=q+2+2:=⟨_,rfl⟩
 rw[<-hP2] at hf7
 have N7:=c1n (N6.out.next hf7 ho7 hGB hGT)
 have X7:=c1n (X6.out.keeps ho7.keeps (by simp;omega))
 have r4:=hf7.c1
 have f4:=hf7.f1
 have sP:IntKind.i64.wrap ((P2:Int)+6)=(P2:Int)+6:=c1C _ (by omega)
 have HP2:=c1n hP2
 clear hf7 ho7 hv10 N6 X6 hP2
 go_upto_region 9 with (fail)
 obtain⟨w8,hw8⟩:∃ z,z=w7.setCell ⟨G,3+1,none⟩ (.int .i64 ((P2:Int)+6)):=⟨_,rfl⟩
 have ho8:OnlyC G 4 w7 w8:=by rw[hw8];exact (OnlyC.refl w7).set _
 have hf8:FD w8 G 3 A n c (q+10):=by rw[hw8];exact N7.out.fd.moved (Keeps.refl [] w7) _ (by have:=HP2.out;omega)
 have N8:=c1n (N7.out.next hf8 ho8 hGB hGT)
 have X8:=c1n (X7.out.keeps ho8.keeps (by simp;omega))
 rw[<-hw8]
 clear hw8 ho8 hf8 r4 f4 sP N7 X7 HP2
 go_wp2_with fail
 refine (a0U w8 G 3 A n c xs (q+10) N8.out.fd (N8.out.zb HZ.out HO.out) (by omega)).mono ?_
 rintro _ w9 ⟨rfl,hf9,ho9⟩
 have N9:=c1n (N8.out.next hf9 ho9 hGB hGT)
 have X9:=c1n (X8.out.keeps ho9.keeps (by simp;omega))
 obtain⟨v11,hv11⟩:∃ z,z=zget xs (q+10) 4:=⟨_,rfl⟩
 rw[<-hv11]
 have HV11:=c1n hv11
 clear hf9 ho9 hv11 N8 X8
 have r2:=N9.out.rd.c2
 have HCJ:Hid (a8I xs en rp↔mk=33639248/\pb=true/\v9=0/\v10=0/\46+(nl:Int)<=(en:Int)-(rp:Int)):=c1n (by
  have h1:=HMK.out;have h2:=HPB.out;have h3:=hq'.out;have h4:=HV9.out;have h5:=HV10.out;have h6:=HNL.out
  unfold a8I
  rw[<-h6,h1,h4,h5]
  constructor
  ·rintro ⟨_,a,b,c,d,e,f⟩
   have hp:pb=true:=h2.2 ⟨b,c⟩
   have hqe:=h3 hp
   subst hqe
   exact⟨a,hp,d,e,by omega⟩
  ·rintro ⟨a,b,c,d,e⟩
   have hqe:=h3 b
   subst hqe
   obtain⟨f,g⟩:=h2.1 b
   exact⟨q1,a,f,g,c,d,by omega⟩)
 have HBD:Hid (¬a8I xs en rp->E=81):=c1n (fun h=>by rw[HE.out];unfold a1C;rw[if_pos h])
 have hwr:IntKind.i64.wrap (46+(nl:Int))=46+(nl:Int):=c1C _ (by
  have:=(a2P HZ.out.byte (p:=rp+28) (by rw[HX.out];omega)).2
  have h6:=HNL.out
  unfold a1h at h6
  omega)
 by_cases c1:mk=33639248
 case neg=>
  have b1:(mk==33639248)=false:=by simpa using c1
  have HC:=c1n c1
  clear c1
  go_wp2_with fail
  refine (a0p _ 81).mono ?_
  rintro _ _ ⟨rfl,rfl⟩
  exact⟨rfl,BAD.out 81 (HBD.out (fun h=>HC.out (HCJ.out.1 h).1)) (by decide) _ N9.out.k⟩
 have b1:(mk==33639248)=true:=by simpa using c1
 by_cases c2:pb=true
 case neg=>
  have b2:pb=false:=by simpa using c2
  have HC:=c1n c2
  subst b2
  clear c1 c2
  go_wp2_with fail
  refine (a0p _ 81).mono ?_
  rintro _ _ ⟨rfl,rfl⟩
  exact⟨rfl,BAD.out 81 (HBD.out (fun h=>HC.out (HCJ.out.1 h).2.1)) (by decide) _ N9.out.k⟩
 subst c2
 by_cases c3:v9=0
 case neg=>
  have b3:(v9==0)=false:=by simpa using c3
  have HC:=c1n c3
  clear c1 c3
  go_wp2_with fail
  refine (a0p _ 81).mono ?_
  rintro _ _ ⟨rfl,rfl⟩
  exact⟨rfl,BAD.out 81 (HBD.out (fun h=>HC.out (HCJ.out.1 h).2.2.1)) (by decide) _ N9.out.k⟩
 have b3:(v9==0)=true:=by simpa using c3
 by_cases c4:v10=0
 case neg=>
  have b4:(v10==0)=false:=by simpa using c4
  have HC:=c1n c4
  clear c1 c3 c4
  go_wp2_with fail
  refine (a0p _ 81).mono ?_
  rintro _ _ ⟨rfl,rfl⟩
  exact⟨rfl,BAD.out 81 (HBD.out (fun h=>HC.out (HCJ.out.1 h).2.2.2.1)) (by decide) _ N9.out.k⟩
 have b4:(v10==0)=true:=by simpa using c4
 by_cases c5:46+(nl:Int)<=(en:Int)-(rp:Int)
 case neg=>
  have b5:decide (46+(nl:Int)<=(en:Int)-(rp:Int))=false:=by simpa using c5
  have HC:=c1n c5
  clear c1 c3 c4 c5
  go_wp2_with fail
  refine (a0p _ 81).mono ?_
  rintro _ _ ⟨rfl,rfl⟩
  exact⟨rfl,BAD.out 81 (HBD.out (fun h=>absurd (HCJ.out.1 h).2.2.2.2 (by have:=HC.out;omega))) (by decide) _ N9.out.k⟩
 have b5:decide (46+(nl:Int)<=(en:Int)-(rp:Int))=true:=by simpa using c5
 have HRF:Hid (a8I xs en rp):=c1n (HCJ.out.2 ⟨c1,rfl,c3,c4,c5⟩)
 have hqe:q=rp+32:=hq'.out rfl
 subst hqe
 clear c1 c3 c4 HBD HCJ HPB hq'
 go_wp2_with fail
 refine (a1u _ 81).mono ?_
 rintro _ wz ⟨rfl,hwz⟩
 obtain rfl:w9=wz:=hwz.symm
 clear b1 b3 b4 b5 hwr r2
 go_wp2_with fail
 have hnl5:rp+46+nl<=en:=by omega
 refine (a5V w9 G 3 A n c xs (rp+32+10+4) nl N9.out.fd (N9.out.zb HZ.out HO.out) (by omega)).mono ?_
 rintro _ w10 ⟨rfl,hf10,ho10⟩
 have N10:=c1n (N9.out.next hf10 ho10 hGB hGT)
 have X10:=c1n (X9.out.keeps ho10.keeps (by simp;omega))
 obtain⟨name,hname⟩:∃ z,z=a3l xs rp:=⟨_,rfl⟩
 have e1:strOfNums (seg xs (rp+32+10+4) nl)=name:=by rw[hname,HNL.out];rfl
 rw[e1]
 have HNM:=c1n hname
 have hnsz:name.size=nl:=by rw[<-e1,a7E,a4M (by rw[HX.out];omega)]
 have x0:=X10.out.cell 0
 have xf:=X10.out.frozen 0
 simp only[c1t] at x0
 clear hf10 ho10 hname e1 N9 X9 c5
 go_upto_region 12 with (fail)
 obtain⟨w11,hw11⟩:∃ z,z=w10.setCell ⟨X,0,none⟩ (.string name):=⟨_,rfl⟩
 have k11:Keeps [X] w10 w11:=by rw[hw11];exact (Keeps.refl [X] _).setCell (p:=⟨X,0,none⟩) (.inl (by simp)) _
 have X11:Hid (Blk w11 X 51 [.string name,.int .i64 vs,.int .i64 (vp:Int),.int .u32 vc,.int .i64 vw]):=c1n (by rw[hw11];exact X10.out.set 0 _)
 have N11:=c1n (N10.out.keepsO k11 (fun x hx=>by simp at hx;omega) hGT hBT hTw')
 rw[<-hw11]
 have x0:=X11.out.cell 0
 simp only[c1t] at x0
 have r6:=N11.out.rd.c6
 have HSZ:=c1n hnsz
 have hn16:nl<=65535:=by
  have:=(a2P HZ.out.byte (p:=rp+28) (by rw[HX.out];omega)).2
  have h6:=HNL.out
  unfold a1h at h6
  omega
 have hs1:name.size<=1000000000:=by omega
 have hkey:=b8I hs1
 have HLK:∀ w',Keeps [] w11 w'->(Instr.lookup 61 (.map (some B)) (.string name) true).run Tryz.prog w'=.ok (.tuple #[.agg #[],.bool (inL known name)]) w':=fun w' hk=>by
  have hm:=N11.out.st.keeps hk (by simp)
  obtain⟨v,ps,hrun,hv⟩:=World.ownsMap.look_ok hm a4K Tryz.underlying61 (a8H w') unitElem_mk hkey
  obtain⟨rfl,-⟩:=unitElem_inv hv
  rw[b6e] at hrun
  exact hrun
 clear hw11 k11 xf N10 X10 hnsz
 go_cut [12,13] (fun v12 v13 wc=>v13=.bool (inL known name)/\Hid (Keeps [] w11 wc))
 case first=>
  have l1:=HLK w11 (Keeps.refl _ _)
  have l2:=HLK w11.drew (Keeps.refl _ _).drew
  have l3:∀ o,_:=fun o=>HLK (w11.drew.alloc o) ((Keeps.refl _ _).drew.alloc o)
  have l4:∀ o a v,_:=fun o (a:Addr) v=>HLK ((w11.drew.alloc o).setCell ⟨w11.heap.size,0,none⟩ v) (((Keeps.refl _ _).drew.alloc o).setCell (.inr (by simp)) v)
  have l5:∀ o,_:=fun o=>HLK ((w11.alloc o).drew) (((Keeps.refl _ _).alloc o).drew)
  have a1:∀ o,(w11.alloc o).cell? ⟨X,0,none⟩=some (.string name):=fun o=>((Keeps.refl [] w11).alloc o).cell (p:=⟨X,0,none⟩) (by simp) x0
  have a2:∀ o,(w11.alloc o).cell? ⟨G,6,none⟩=some (.map (some B)):=fun o=>((Keeps.refl [] w11).alloc o).cell (p:=⟨G,6,none⟩) (by simp) r6
  clear HLK
  go_region
  go_wp2_with fail
  go_meet
  exact⟨rfl,c1n (by repeat (first|exact Keeps.refl _ _|apply Keeps.drew|apply Keeps.drewN|apply Keeps.alloc|(refine Keeps.setCell ?_ (.inr (by simp)) _)))⟩
 case rest=>
  obtain⟨rfl,HK12⟩:=hcut
  obtain⟨w12,hw12⟩:∃ z:World,z=wc:=⟨_,rfl⟩
  rw[<-hw12] at HK12 ⊢
  have N12:=c1n (N11.out.keeps HK12.out)
  have X12:=c1n (X11.out.keeps HK12.out (by simp))
  have HE2:Hid (E=if inL known name=true∨nameB name=false then 80 else if ¬(vw=0∨vw=8) then 82 else if 8192<vs∨16384<(vp:Int) then 87 else if ¬((vw=8∨vs=(vp:Int))/\v11=at_/\((at_+30+nl:Nat):Int)+(vp:Int)<=first) then 81 else if ¬a2v xs at_ (zrecI xs rp) then 81 else 0):=c1n (by
   rw[HE.out,HNM.out,HVS.out,HVP.out,HVW.out,HV11.out,HNL.out]
   unfold a1C
   rw[if_neg (fun h=>h HRF.out)]
   simp only[<-a5Y]
   rfl)
  clear hw12 N11 X11 HLK x0 r6 HK12 HRF HV11
  have r5:=N12.out.rd.c5
  have sA:IntKind.i64.wrap ((at_:Int)+30)=(at_:Int)+30:=c1C _ (by omega)
  have sB:IntKind.i64.wrap ((at_:Int)+30+(nl:Int))=(at_:Int)+30+(nl:Int):=c1C _ (by omega)
  have x0:=X12.out.cell 0
  simp only[c1t] at x0
  by_cases d1:inL known name=true
  case pos=>
   have HE3:Hid (E=80):=c1n (by rw[HE2.out,if_pos (.inl d1)])
   rw[d1]
   clear d1
   go_wp2_with fail
   refine (a0p _ 80).mono ?_
   rintro _ _ ⟨rfl,rfl⟩
   exact⟨rfl,BAD.out 80 HE3.out (by decide) _ N12.out.k⟩
  have d1':inL known name=false:=by simpa using d1
  rw[d1']
  clear d1
  go_wp2_with fail
  refine (a3t w12 name hs1).mono ?_
  rintro _ w13 ⟨rfl,hb13⟩
  have hk13:=Keeps.of_below hb13 (S:=[])
  have N13:=c1n (N12.out.keeps hk13)
  have X13:=c1n (X12.out.keeps hk13 (by simp))
  clear hb13 hk13 N12 X12 r5 sA sB x0
  cases hnb:nameB name with
  | false=>
   have HE3:Hid (E=80):=c1n (by rw[HE2.out,if_pos (.inr hnb)])
   clear hnb
   go_wp2_with fail
   refine (a0p _ 80).mono ?_
   rintro _ _ ⟨rfl,rfl⟩
   exact⟨rfl,BAD.out 80 HE3.out (by decide) _ N13.out.k⟩
  | true=>
  have HE4:Hid (E=if ¬(vw=0∨vw=8) then 82 else if 8192<vs∨16384<(vp:Int) then 87 else if ¬((vw=8∨vs=(vp:Int))/\v11=at_/\((at_+30+nl:Nat):Int)+(vp:Int)<=first) then 81 else if ¬a2v xs at_ (zrecI xs rp) then 81 else 0):=c1n (by rw[HE2.out,if_neg (by rw[d1',hnb];simp)])
  have HNB:=c1n hnb
  have HNK:=c1n d1'
  clear hnb HE2 d1'
  go_wp2_with fail
  refine (a1u _ 80).mono ?_
  rintro _ wz ⟨rfl,hwz⟩
  obtain rfl:w13=wz:=hwz.symm
  clear hwz
  have x1:=X13.out.cell 1
  have x2:=X13.out.cell 2
  have x4:=X13.out.cell 4
  simp only[c1t,c1D] at x1 x2 x4
  go_upto_region 15 with (fail)
  go_cut [125] (fun u wc=>(vw=0∨vw=8)/\wc=w13)
  case first=>
   by_cases c0:vw=0
   ·have b1:(vw==0)=true:=by simpa using c0
    have HC:=c1n c0
    clear c0
    go_wp2_with fail
    refine (a1u _ 82).mono ?_
    rintro _ wz ⟨rfl,hwz⟩
    obtain rfl:w13=wz:=hwz.symm
    clear hwz
    go_wp2_with fail
    go_meet
    exact⟨.inl HC.out,rfl⟩
   ·have b1:(vw==0)=false:=by simpa using c0
    by_cases c8:vw=8
    ·have b2:(vw==8)=true:=by simpa using c8
     have HC:=c1n c8
     clear c0 c8
     go_wp2_with fail
     refine (a1u _ 82).mono ?_
     rintro _ wz ⟨rfl,hwz⟩
     obtain rfl:w13=wz:=hwz.symm
     clear hwz
     go_wp2_with fail
     go_meet
     exact⟨.inr HC.out,rfl⟩
    ·have b2:(vw==8)=false:=by simpa using c8
     have HE3:Hid (E=82):=c1n (by rw[HE4.out,if_pos (fun h=>by rcases h with h|h;exact c0 h;exact c8 h)])
     clear c0 c8
     go_wp2_with fail
     refine (a0p _ 82).mono ?_
     rintro _ _ ⟨rfl,rfl⟩
     exact⟨rfl,BAD.out 82 HE3.out (by decide) _ N13.out.k⟩
  case rest=>
   obtain⟨hway,hwc⟩:=hcut
   obtain rfl:w13=wc:=hwc.symm
   have HWAY:=c1n hway
   have HE5:Hid (E=if 8192<vs∨16384<(vp:Int) then 87 else if ¬((vw=8∨vs=(vp:Int))/\v11=at_/\((at_+30+nl:Nat):Int)+(vp:Int)<=first) then 81 else if ¬a2v xs at_ (zrecI xs rp) then 81 else 0):=c1n (by rw[HE4.out,if_neg (fun h=>h hway)])
   clear hway HE4 hwc
   all_goals
    by_cases y1:vs<=8192
    case neg=>
     have b1:decide (vs<=8192)=false:=by simpa using y1
     have HE7:Hid (E=87):=c1n (by rw[HE5.out,if_pos (.inl (by omega))])
     clear y1
     go_wp2_with fail
     refine (a0p _ 87).mono ?_
     rintro _ _ ⟨rfl,rfl⟩
     exact⟨rfl,BAD.out 87 HE7.out (by decide) _ N13.out.k⟩
    have b1:decide (vs<=8192)=true:=by simpa using y1
    by_cases y2:(vp:Int)<=16384
    case neg=>
     have b2:decide ((vp:Int)<=16384)=false:=by simp;omega
     have HE7:Hid (E=87):=c1n (by rw[HE5.out,if_pos (.inr (by omega))])
     clear y1 y2
     go_wp2_with fail
     refine (a0p _ 87).mono ?_
     rintro _ _ ⟨rfl,rfl⟩
     exact⟨rfl,BAD.out 87 HE7.out (by decide) _ N13.out.k⟩
    have b2:decide ((vp:Int)<=16384)=true:=by simp;omega
    have HE6:Hid (E=if ¬((vw=8∨vs=(vp:Int))/\v11=at_/\(at_:Int)+30+(nl:Int)+(vp:Int)<=(first:Int)) then 81 else if ¬a2v xs at_ (zrecI xs rp) then 81 else 0):=c1n (by
     rw[HE5.out,if_neg (by omega)]
     have:((at_+30+nl:Nat):Int)=(at_:Int)+30+(nl:Int):=by omega
     rw[this])
    have HB81:Hid (¬((vw=8∨vs=(vp:Int))/\v11=at_/\(at_:Int)+30+(nl:Int)+(vp:Int)<=(first:Int))->E=81):=c1n (fun h=>by rw[HE6.out,if_pos h])
    have hvpl:vp<=16384:=by omega
    have HVS8:=c1n y1
    clear y1 y2 HE5
    go_wp2_with fail
    refine (a1u _ 87).mono ?_
    rintro _ wz ⟨rfl,hwz⟩
    obtain rfl:w13=wz:=hwz.symm
    clear hwz b1 b2
    have r5:=N13.out.rd.c5
    have r1:=N13.out.rd.c1
    have sC:IntKind.i64.wrap ((at_:Int)+30+(nl:Int)+(vp:Int))=(at_:Int)+30+(nl:Int)+(vp:Int):=c1C _ (by omega)
    go_upto_region 17 with (fail)
    go_cut [164] (fun u wc=>((vw=8∨vs=(vp:Int))/\v11=at_/\(at_:Int)+30+(nl:Int)+(vp:Int)<=(first:Int))/\Hid (Keeps [] w13 wc))
    case first=>
     as_aux_lemma=>
      by_cases y8:vw=8
      ·have b8:(vw==8)=true:=by simpa using y8
       have HV8:Hid (vw=8∨vs=(vp:Int)):=c1n (.inl y8)
       clear y8
       by_cases f1:v11=(at_:Int)
       ·have g1:(v11==(at_:Int))=true:=by simpa using f1
        by_cases f2:(at_:Int)+30+(nl:Int)+(vp:Int)<=(first:Int)
        ·have g2:decide ((at_:Int)+30+(nl:Int)+(vp:Int)<=(first:Int))=true:=by simpa using f2
         have HOK:Hid ((vw=8∨vs=(vp:Int))/\v11=at_/\(at_:Int)+30+(nl:Int)+(vp:Int)<=(first:Int)):=c1n ⟨HV8.out,f1,f2⟩
         clear f1 f2
         go_quiet (first|(go_at_call 73;exact Calls.quiet_of_same (a1u _ _)))
         go_wp2_with fail
         go_meet
         exact⟨HOK.out,c1n (by repeat (first|exact Keeps.refl _ _|apply Keeps.drew|apply Keeps.drewN))⟩
        ·have g2:decide ((at_:Int)+30+(nl:Int)+(vp:Int)<=(first:Int))=false:=by simpa using f2
         have HE7:=c1n (HB81.out (fun h=>f2 h.2.2))
         clear f1 f2
         refine a1x 29 (by kernel_rfl) (by kernel_rfl) ?_
         simp only[c1x,c1y,c1B,c1G]
         repeat (go_big_quiet_step (fail))
         refine c1V ?_
         go_wp2_with fail
         refine (a0p _ 81).mono ?_
         rintro _ _ ⟨rfl,rfl⟩
         exact⟨rfl,BAD.out 81 HE7.out (by decide) _ N13.out.k.drew⟩
       ·have g1:(v11==(at_:Int))=false:=by simpa using f1
        have HE7:=c1n (HB81.out (fun h=>f1 h.2.1))
        clear f1
        refine a1x 29 (by kernel_rfl) (by kernel_rfl) ?_
        simp only[c1x,c1y,c1B,c1G]
        repeat (go_big_quiet_step (fail))
        refine c1V ?_
        go_wp2_with fail
        refine (a0p _ 81).mono ?_
        rintro _ _ ⟨rfl,rfl⟩
        exact⟨rfl,BAD.out 81 HE7.out (by decide) _ N13.out.k.drew⟩
      ·have b8:(vw==8)=false:=by simpa using y8
       by_cases y0:vs=(vp:Int)
       ·have b0:(vs==(vp:Int))=true:=by simpa using y0
        have HV8:Hid (vw=8∨vs=(vp:Int)):=c1n (.inr y0)
        clear y8 y0
        by_cases f1:v11=(at_:Int)
        ·have g1:(v11==(at_:Int))=true:=by simpa using f1
         by_cases f2:(at_:Int)+30+(nl:Int)+(vp:Int)<=(first:Int)
         ·have g2:decide ((at_:Int)+30+(nl:Int)+(vp:Int)<=(first:Int))=true:=by simpa using f2
          have HOK:Hid ((vw=8∨vs=(vp:Int))/\v11=at_/\(at_:Int)+30+(nl:Int)+(vp:Int)<=(first:Int)):=c1n ⟨HV8.out,f1,f2⟩
          clear f1 f2
          go_quiet (first|(go_at_call 73;exact Calls.quiet_of_same (a1u _ _)))
          go_wp2_with fail
          go_meet
          exact⟨HOK.out,c1n (by repeat (first|exact Keeps.refl _ _|apply Keeps.drew|apply Keeps.drewN))⟩
         ·have g2:decide ((at_:Int)+30+(nl:Int)+(vp:Int)<=(first:Int))=false:=by simpa using f2
          have HE7:=c1n (HB81.out (fun h=>f2 h.2.2))
          clear f1 f2
          refine a1x 29 (by kernel_rfl) (by kernel_rfl) ?_
          simp only[c1x,c1y,c1B,c1G]
          repeat (go_big_quiet_step (fail))
          refine c1V ?_
          go_wp2_with fail
          refine (a0p _ 81).mono ?_
          rintro _ _ ⟨rfl,rfl⟩
          exact⟨rfl,BAD.out 81 HE7.out (by decide) _ N13.out.k.drew⟩
        ·have g1:(v11==(at_:Int))=false:=by simpa using f1
         have HE7:=c1n (HB81.out (fun h=>f1 h.2.1))
         clear f1
         refine a1x 29 (by kernel_rfl) (by kernel_rfl) ?_
         simp only[c1x,c1y,c1B,c1G]
         repeat (go_big_quiet_step (fail))
         refine c1V ?_
         go_wp2_with fail
         refine (a0p _ 81).mono ?_
         rintro _ _ ⟨rfl,rfl⟩
         exact⟨rfl,BAD.out 81 HE7.out (by decide) _ N13.out.k.drew⟩
       ·have b0:(vs==(vp:Int))=false:=by simpa using y0
        have HE7:=c1n (HB81.out (fun h=>by rcases h.1 with h|h;exact y8 h;exact y0 h))
        clear y8 y0
        refine a1x 29 (by kernel_rfl) (by kernel_rfl) ?_
        simp only[c1x,c1y,c1B,c1G]
        repeat (go_big_quiet_step (fail))
        refine c1V ?_
        go_wp2_with fail
        refine (a0p _ 81).mono ?_
        rintro _ _ ⟨rfl,rfl⟩
        exact⟨rfl,BAD.out 81 HE7.out (by decide) _ N13.out.k.drew⟩
    case rest=>
     obtain⟨hok,HK14⟩:=hcut
     obtain⟨w14,hw14⟩:∃ z:World,z=wc:=⟨_,rfl⟩
     rw[<-hw14] at HK14 ⊢
     have N14:=c1n (N13.out.keeps HK14.out)
     have X14:=c1n (X13.out.keeps HK14.out (by simp))
     have HOK:=c1n hok
     have hfst:at_+30+nl+vp<=first:=by omega
     have HB82:Hid (¬a2v xs at_ (zrecI xs rp)->E=81):=c1n (fun h=>by rw[HE6.out,if_neg (fun hh=>hh HOK.out),if_pos h])
     have HE8:Hid (a2v xs at_ (zrecI xs rp)->E=0):=c1n (fun h=>by rw[HE6.out,if_neg (fun hh=>hh HOK.out),if_neg (fun hh=>hh h)])
     clear hok hw14 HK14 N13 X13 HE6 HB81 r5 r1 sC x1 x2 x4
     have r0:=N14.out.rd.c0
     have r5:=N14.out.rd.c5
     have hT14:T<w14.heap.size:=N14.out.tb.lt
     have hX14:X<w14.heap.size:=X14.out.lt
     go_upto_region 18 with (fail)
     go_cut [15] (fun u wc=>∃ F2:Nat,u=.pointer (some ⟨F2,0,none⟩)/\w14.heap.size<=F2/\Hid (Blk wc F2 118 [.slice A n c,.int .i64 at_])/\Hid (Keeps [] w14 wc))
     case first=>
      have a1:∀ o,(w14.alloc o).cell? ⟨G,0,none⟩=some (.slice A n c):=fun o=>((Keeps.refl [] w14).alloc o).cell (p:=⟨G,0,none⟩) (by simp) r0
      have a2:∀ o,(w14.alloc o).cell? ⟨G,5,none⟩=some (.int .i64 at_):=fun o=>((Keeps.refl [] w14).alloc o).cell (p:=⟨G,5,none⟩) (by simp) r5
      go_region
      all_goals (
       go_wp2_with fail
       go_meet
       exact⟨w14.heap.size,rfl,c1I _,c1n ((a0d w14 118 [.slice A n c,.int .i64 at_]).keeps (S:=[]) ((Keeps.refl [] _).drew) (by simp)),c1n ((Keeps.refl [] w14).alloc _).drew⟩)
     case rest=>
      obtain⟨F2,rfl,hF2,HF2,HK15⟩:=hcut
      obtain⟨w15,hw15⟩:∃ z:World,z=wc:=⟨_,rfl⟩
      rw[<-hw15] at HF2 HK15 ⊢
      have N15:=c1n (N14.out.keeps HK15.out)
      have X15:=c1n (X14.out.keeps HK15.out (by simp))
      have hFD:FD w15 F2 0 A n c at_:=⟨by have:=HF2.out.cell 0;simpa using this,by have:=HF2.out.cell 1;simpa using this,HF2.out.frozen 1,fun a ha he=>by have:=HZ.out.old a ha;omega⟩
      have FD15:=c1n hFD
      clear hw15 HK15 HF2 N14 X14 r0 r5 hFD
      have hTF:T<F2:=by omega
      have hXF:X≠F2:=by omega
      all_goals
       go_wp2_with fail
       refine (a0U w15 F2 0 A n c xs at_ FD15.out (N15.out.zb HZ.out HO.out) (by omega)).mono ?_
       rintro _ w16 ⟨rfl,hf16,ho16⟩
       have F16:=c1n hf16
       have N16:=c1n (N15.out.keepsO ho16.keeps (fun x hx=>by simp at hx;omega) hGT hBT hTw')
       have X16:=c1n (X15.out.keeps ho16.keeps (by simp;omega))
       obtain⟨mk2,hmk2⟩:∃ z,z=zget xs at_ 4:=⟨_,rfl⟩
       rw[<-hmk2]
       have HMK2:=c1n hmk2
       clear hf16 ho16 hmk2 N15 X15 FD15
       go_wp2_with fail
       refine (a3V w16 F2 0 A n c xs (at_+4) F16.out (N16.out.zb HZ.out HO.out) (by omega)).mono ?_
       rintro _ w17 ⟨pb2,q2,rfl,hpb2,hq2,hqp2,hf17,ho17⟩
       have F17:=c1n hf17
       have N17:=c1n (N16.out.keepsO ho17.keeps (fun x hx=>by simp at hx;omega) hGT hBT hTw')
       have X17:=c1n (X16.out.keeps ho17.keeps (by simp;omega))
       have HQ2:Hid (pb2=true->q2=at_+4+26):=c1n hq2
       have HPB2:=c1n hpb2
       have hF17:F2<w17.heap.size:=F17.out.lt
       have hX17:X<w17.heap.size:=X17.out.lt
       have hT17:T<w17.heap.size:=N17.out.tb.lt
       obtain⟨yz,hyz⟩:∃ z,z=zget xs (at_+4+18) 4:=⟨_,rfl⟩
       obtain⟨yp,hyp⟩:∃ z,z=zget xs (at_+4+14) 4:=⟨_,rfl⟩
       obtain⟨yc,hyc⟩:∃ z,z=zget xs (at_+4+10) 4:=⟨_,rfl⟩
       obtain⟨yw,hyw⟩:∃ z,z=zget xs (at_+4+4) 2:=⟨_,rfl⟩
       obtain⟨ln2,hln2⟩:∃ z,z=zget xs (at_+4+22) 2:=⟨_,rfl⟩
       rw[<-hyz,<-hyp,<-hyc,<-hyw,<-hln2]
       have HYZ:=c1n hyz
       have HYP:=c1n hyp
       have HYC:=c1n hyc
       have HYW:=c1n hyw
       have HLN2:=c1n hln2
       clear hf17 ho17 hpb2 hq2 hyz hyp hyc hyw hln2 F16 N16 X16
       go_upto_region 21 with (fail)
       obtain⟨Y,hY⟩:∃ z,z=w17.heap.size:=⟨_,rfl⟩
       obtain⟨w18,hw18⟩:∃ z,z=w17.alloc (.cells #[.string ⟨#[]⟩,.int .i64 yz,.int .i64 yp,.int .u32 yc,.int .i64 yw] 51):=⟨_,rfl⟩
       have k18:Keeps [] w17 w18:=by rw[hw18];exact (Keeps.refl [] _).alloc _
       have Y18:Hid (Blk w18 Y 51 [.string ⟨#[]⟩,.int .i64 yz,.int .i64 yp,.int .u32 yc,.int .i64 yw]):=c1n (by rw[hw18,hY];exact a0d _ _ _)
       have N18:=c1n (N17.out.keeps k18)
       have X18:=c1n (X17.out.keeps k18 (by simp))
       have F18:=c1n (F17.out.keeps k18 (by simp))
       rw[<-hw18,<-hY]
       have hYX:X≠Y:=by omega
       have hYF:F2≠Y:=by omega
       have hTY:T<Y:=by omega
       obtain⟨nm2,hnm2⟩:∃ z,z=strOfNums (seg xs (at_+4+26) nl):=⟨_,rfl⟩
       have HNM2:=c1n hnm2
       clear hw18 k18 N17 X17 F17 hY hnm2
       have HZH:Hid (a2v xs at_ (zrecI xs rp)↔mk2=67324752/\pb2=true/\ln2=(nl:Int)/\(⟨nm2,yz,yp,yc,yw⟩:ZI)=⟨name,vs,(vp:Int),vc,vw⟩):=c1n (by
        have h1:(zrecI xs rp).name.size=nl:=by rw[<-HSZ.out,HNM.out];rfl
        have h2:zrecI xs rp=⟨name,vs,(vp:Int),vc,vw⟩:=by rw[HNM.out,HVS.out,HVP.out,HVC.out,HVW.out];rfl
        unfold a2v
        rw[h1,h2,HMK2.out,HPB2.out,HLN2.out,HNM2.out,HYZ.out,HYP.out,HYC.out,HYW.out]
        constructor
        ·rintro ⟨a,b,c,d,e⟩
         exact⟨a,⟨b,c⟩,d,e⟩
        ·rintro ⟨a,⟨b,c⟩,d,e⟩
         exact⟨a,b,c,d,e⟩)
       have HLB:Hid (¬(mk2=67324752/\pb2=true/\ln2=(nl:Int)/\(⟨nm2,yz,yp,yc,yw⟩:ZI)=⟨name,vs,(vp:Int),vc,vw⟩)->E=81):=c1n (fun h=>HB82.out (fun hh=>h (HZH.out.1 hh)))
       have HLE:Hid (mk2=67324752/\pb2=true/\ln2=(nl:Int)/\(⟨nm2,yz,yp,yc,yw⟩:ZI)=⟨name,vs,(vp:Int),vc,vw⟩->E=0):=c1n (fun h=>HE8.out (HZH.out.2 h))
       clear HZH HB82 HE8
       by_cases m1:mk2=67324752
       case neg=>
        have b1:(mk2==67324752)=false:=by simpa using m1
        have HE7:=c1n (HLB.out (fun h=>m1 h.1))
        clear m1
        go_wp2_with fail
        refine (a0p _ 81).mono ?_
        rintro _ _ ⟨rfl,rfl⟩
        exact⟨rfl,BAD.out 81 HE7.out (by decide) _ N18.out.k⟩
       have b1:(mk2==67324752)=true:=by simpa using m1
       by_cases m2:pb2=true
       case neg=>
        have b2:pb2=false:=by simpa using m2
        have HE7:=c1n (HLB.out (fun h=>m2 h.2.1))
        subst b2
        clear m1 m2
        go_wp2_with fail
        refine (a0p _ 81).mono ?_
        rintro _ _ ⟨rfl,rfl⟩
        exact⟨rfl,BAD.out 81 HE7.out (by decide) _ N18.out.k⟩
       subst m2
       by_cases m3:ln2=(nl:Int)
       case neg=>
        have b3:(ln2==(nl:Int))=false:=by simpa using m3
        have HE7:=c1n (HLB.out (fun h=>m3 h.2.2.1))
        clear m1 m3
        go_wp2_with fail
        refine (a0p _ 81).mono ?_
        rintro _ _ ⟨rfl,rfl⟩
        exact⟨rfl,BAD.out 81 HE7.out (by decide) _ N18.out.k⟩
       have b3:(ln2==(nl:Int))=true:=by simpa using m3
       have hq2:q2=at_+4+26:=HQ2.out rfl
       subst hq2
       have HM13:=c1n (And.intro m1 m3)
       clear m1 m3
       go_wp2_with fail
       refine (a1u _ 81).mono ?_
       rintro _ wz ⟨rfl,hwz⟩
       obtain rfl:w18=wz:=hwz.symm
       clear hwz b1 b3
       go_wp2_with fail
       refine (a5V w18 F2 0 A n c xs (at_+4+26) nl F18.out (N18.out.zb HZ.out HO.out) (by omega)).mono ?_
       rintro _ w19 ⟨rfl,hf19,ho19⟩
       have N19:=c1n (N18.out.keepsO ho19.keeps (fun x hx=>by simp at hx;omega) hGT hBT hTw')
       have X19:=c1n (X18.out.keeps ho19.keeps (by simp;omega))
       have Y19:=c1n (Y18.out.keeps ho19.keeps (by simp;omega))
       rw[<-HNM2.out]
       have y0:=Y19.out.cell 0
       have yf:=Y19.out.frozen 0
       simp only[c1t] at y0
       clear hf19 ho19 N18 X18 Y18 F18
       go_upto_region 23 with (fail)
       obtain⟨w20,hw20⟩:∃ z,z=w19.setCell ⟨Y,0,none⟩ (.string nm2):=⟨_,rfl⟩
       have k20:Keeps [Y] w19 w20:=by rw[hw20];exact (Keeps.refl [Y] _).setCell (p:=⟨Y,0,none⟩) (.inl (by simp)) _
       have Y20:Hid (Blk w20 Y 51 [.string nm2,.int .i64 yz,.int .i64 yp,.int .u32 yc,.int .i64 yw]):=c1n (by rw[hw20];exact Y19.out.set 0 _)
       have N20:=c1n (N19.out.keepsO k20 (fun x hx=>by simp at hx;omega) hGT hBT hTw')
       have X20:=c1n (X19.out.keeps k20 (by simp;omega))
       rw[<-hw20]
       have x0:=X20.out.cell 0
       have x1:=X20.out.cell 1
       have x2:=X20.out.cell 2
       have x3:=X20.out.cell 3
       have x4:=X20.out.cell 4
       have y0:=Y20.out.cell 0
       have y1:=Y20.out.cell 1
       have y2:=Y20.out.cell 2
       have y3:=Y20.out.cell 3
       have y4:=Y20.out.cell 4
       simp only[c1t,c1D] at x0 x1 x2 x3 x4 y0 y1 y2 y3 y4
       have heq:=fun w=>b7l w nm2 name yz vs yp (vp:Int) yc vc yw vw
       have hgd:=fun x y w=>b3x x y w nm2 name yz vs yp (vp:Int) yc vc yw vw
       clear hw20 k20 N19 X19 Y19 yf
       by_cases m4:(⟨nm2,yz,yp,yc,yw⟩:ZI)=⟨name,vs,(vp:Int),vc,vw⟩
       case neg=>
        rw[decide_eq_false m4] at heq
        have HE7:=c1n (HLB.out (fun h=>m4 h.2.2.2))
        clear m4
        go_wp2_with fail
        refine (a0p _ 81).mono ?_
        rintro _ _ ⟨rfl,rfl⟩
        exact⟨rfl,BAD.out 81 HE7.out (by decide) _ N20.out.k⟩
       rw[c1Z m4] at heq
       have HE0:Hid (E=0):=c1n (HLE.out ⟨HM13.out.1,by simp,HM13.out.2,m4⟩)
       clear m4 HLB HLE HM13
       go_wp2_with fail
       refine (a1u _ 81).mono ?_
       rintro _ wz ⟨rfl,hwz⟩
       obtain rfl:w20=wz:=hwz.symm
       clear hwz heq hgd y0 y1 y2 y3 y4
       go_upto_region 24 with (fail)
       have r6:=N20.out.rd.c6
       refine a1x 7 (by kernel_rfl) (by kernel_rfl) ?_
       simp only[c1x,c1y,c1B,c1G]
       repeat (go_big_quiet_step (fail))
       refine c1V ?_
       go_wp2_with (first
        | (at_mapUpdate;refine wpList_mapUpdate_own _ rfl _ _ _ 61 rfl 9 62 a4K Tryz.underlying61 (unitElem (H:=Unit)) B known.length _ rfl (N20.out.st.keeps (Keeps.refl [] w20).drew (by simp)) (by unfold maxLen;omega) _ _ _ rfl rfl hkey _ [] unitElem_mk ?_;intro w21 hown21 hgr21;have k21:Keeps [B] w20 w21:=((Keeps.refl [B] w20).drew).grown hgr21 (fun k hk=>.inl (by injection hk with hk;subst hk;simp));have X21:=X20.out.keeps k21 (by simp;omega);have R21:=N20.out.rd.keeps k21 (by simpa using hGB);have x2:=X21.cell 2;have r5:=R21.c5;have f5:=R21.f5;simp only[c1t,c1D] at x2))
       have M21:=c1n (SetM.snoc hown21)
       have HX21:=c1n X21
       have HR21:=c1n R21
       have FD21:=c1n (N20.out.fd.keeps k21 (by simpa using hGB))
       have T21:=c1n (N20.out.tb.keeps k21 (by simp;omega))
       have K21:=c1n (N20.out.k.trans (k21.mono (S':=[G,B]) (by simp)))
       clear hown21 hgr21 X21 R21 k21 x2 r5 f5 r6 x0 x1 x3 x4 N20 X20 Y20
       have sC:IntKind.i64.wrap ((at_:Int)+30+(nl:Int)+(vp:Int))=(at_:Int)+30+(nl:Int)+(vp:Int):=c1C _ (by omega)
       obtain⟨w22,hw22⟩:∃ z,z=w21.setCell ⟨G,5,none⟩ (.int .i64 ((at_:Int)+30+(nl:Int)+(vp:Int))):=⟨_,rfl⟩
       have k22:Keeps [G] w21 w22:=by rw[hw22];exact (Keeps.refl [G] _).setCell (p:=⟨G,5,none⟩) (.inl (by simp)) _
       have R22:Hid (RDR w22 G A n c first en (at_+30+nl+vp) B):=c1n (by rw[hw22];exact HR21.out.moved _ (by omega))
       have FD22:Hid (FD w22 G 3 A n c (rp+32+10+4+nl)):=c1n (by rw[hw22];exact FD21.out.past5 _)
       have M22:=c1n (M21.out.keeps k22 (by simpa using hGB.symm))
       have T22:=c1n (T21.out.keeps k22 (by simp;omega))
       have X22:=c1n (HX21.out.keeps k22 (by simp;omega))
       have K22:=c1n (K21.out.trans (k22.mono (S':=[G,B]) (by simp)))
       rw[<-hw22]
       clear hw22 k22 M21 HX21 HR21 FD21 T21 K21
       have x0:=X22.out.cell 0
       have x1:=X22.out.cell 1
       have x2:=X22.out.cell 2
       have x3:=X22.out.cell 3
       have x4:=X22.out.cell 4
       simp only[c1t,c1D] at x0 x1 x2 x3 x4
       have r0:=R22.out.c0
       have r5:w22.cell? ⟨G,5,none⟩=some (.int .i64 ((at_:Int)+30+(nl:Int)+(vp:Int))):=by
        have h:=R22.out.c5
        rw[show ((at_+30+nl+vp:Nat):Int)=(at_:Int)+30+(nl:Int)+(vp:Int) by omega] at h
        exact h
       have t0:=T22.out.cell 0
       have t1:=T22.out.cell 1
       have t2:=T22.out.cell 2
       have t3:=T22.out.cell 3
       have t4:=T22.out.cell 4
       have t5:=T22.out.cell 5
       simp only[b0r,c1t,c1D] at t0 t1 t2 t3 t4 t5
       have tf:=T22.out.frozen
       have hsl:=fun w=>a3v w A n c (at_+30+nl) (at_+30+nl+vp) ((at_:Int)+30+(nl:Int)) ((at_:Int)+30+(nl:Int)+(vp:Int)) (by omega) (by omega) (by omega) (by omega) HZ.out.cap
       rw[show at_+30+nl+vp-(at_+30+nl)=vp by omega] at hsl
       obtain⟨CA,hCA⟩:∃ z,z=cutA A (at_+30+nl) c:=⟨_,rfl⟩
       obtain⟨cn,hcn⟩:∃ z,z=c-(at_+30+nl):=⟨_,rfl⟩
       rw[<-hCA,<-hcn] at hsl
       have HCA:=c1n hCA
       have HCN:=c1n hcn
       clear hCA hcn sC
       refine a1x 12 (by kernel_rfl) (by kernel_rfl) ?_
       simp only[c1x,c1y,c1B,c1G]
       repeat (go_big_quiet_step (fail))
       refine c1V ?_
       go_wp2_with fail
       obtain⟨w23,hw23⟩:∃ z,z=((((((w22.setCell ⟨T,0,none⟩ (.string name)).setCell ⟨T,1,none⟩ (.int .i64 vs)).setCell ⟨T,2,none⟩ (.int .i64 (vp:Int))).setCell ⟨T,3,none⟩ (.int .u32 vc)).setCell ⟨T,4,none⟩ (.int .i64 vw)).setCell ⟨T,5,none⟩ (.slice CA vp cn)).drew:=⟨_,rfl⟩
       rw[<-hw23]
       have k23:Keeps [T] w22 w23:=by rw[hw23];exact (((((((Keeps.refl [T] w22).setCell (p:=⟨T,0,none⟩) (.inl (by simp)) _).setCell (p:=⟨T,1,none⟩) (.inl (by simp)) _).setCell (p:=⟨T,2,none⟩) (.inl (by simp)) _).setCell (p:=⟨T,3,none⟩) (.inl (by simp)) _).setCell (p:=⟨T,4,none⟩) (.inl (by simp)) _).setCell (p:=⟨T,5,none⟩) (.inl (by simp)) _).drew
       have b23:Blk w23 T 77 [.string name,.int .i64 vs,.int .i64 (vp:Int),.int .u32 vc,.int .i64 vw,.slice CA vp cn]:=by
        rw[hw23]
        exact ((((((T22.out.set 0 (.string name)).set 1 (.int .i64 vs)).set 2 (.int .i64 (vp:Int))).set 3 (.int .u32 vc)).set 4 (.int .i64 vw)).set 5 (.slice CA vp cn)).keeps (Keeps.refl [] _).drew (by simp)
       refine bodyPost_ret (b3W rfl _ _ T 77 _ (0,0) _ rfl b23 Tryz.underlying77 rfl b3Y) rfl ?_
       have p1:(zrecI xs rp).size=vs:=HVS.out.symm
       have p2:(zrecI xs rp).packed=(vp:Int):=HVP.out.symm
       have p3:(zrecI xs rp).sum=vc:=HVC.out.symm
       have p4:(zrecI xs rp).way=vw:=HVW.out.symm
       have p5:a1h xs rp=nl:=HNL.out.symm
       refine⟨K22.out.then k23 (fun x hx=>.inr (by simp at hx;omega)),.inr ⟨HE.out.symm.trans HE0.out,?_,?_,?_,?_⟩⟩
       ·rw[<-HNM.out,p1,p2,p3,p4,p5,c1A,<-HCA.out,<-HCN.out]
       ·rw[p5,p2,c1A];exact R22.out.keeps k23 (by simp;omega)
       ·rw[p5,show rp+46+nl=rp+32+10+4+nl by omega];exact FD22.out.keeps k23 (by simp;omega)
       ·rw[<-HNM.out];exact M22.out.keeps k23 (by simp;omega)
end Go.Proofs.YtghjlpechjggjaaGreatDoor
