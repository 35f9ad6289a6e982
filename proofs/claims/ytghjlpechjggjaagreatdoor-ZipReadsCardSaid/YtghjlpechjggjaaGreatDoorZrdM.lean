import Derived.Test.YtghjlpechjggjaaGreatDoorZrdA
import Derived.Test.YtghjlpechjggjaaGreatDoorZrdJ
import Derived.Lib.OthersKept
import Derived.Lib.TrimU
import Derived.Laws.RangeAny
import Derived.Laws.Runes
import Derived.Deep.LoopGhost
import Derived.Shelf.Abstract
import Derived.Test.YtghjlpechjggjaaGreatDoorZrdD
import Derived.Test.YtghjlpechjggjaaGreatDoorZrdB
import Derived.Test.YtghjlpechjggjaaGreatDoorZrdF
import Derived.Orders
import Derived.Deep.RegionLaw
set_option linter.defProp false
set_option linter.unnecessarySimpa false
set_option linter.unusedVariables false
set_option linter.unusedSimpArgs false
set_option linter.constructorNameAsVariable false
set_option maxRecDepth 100000
set_option maxHeartbeats 60000000
namespace Go.Proofs.YtghjlpechjggjaaGreatDoor
open Go.RowKit
private def c3o := @Lib.hid
private def c3p := @List.getElem?_cons_zero
private def c3q := @List.length_append
private def c3r := @World.cell?_setCell_other
private def c3s := @List.append_assoc
private def c3t := @List.length_cons
private def c3u := @IntWalk.i64_in
private def c3v := @List.nil_append
private def c3w := @Int.toNat_natCast
private def c3x := @decide_eq_true
private def c3y := @List.mem_cons_self
private def c3z := @List.mem_cons_of_mem
private def c3A := @List.drop_succ_cons
private def c3B := @List.take_succ_cons
private def c3C := @decide_eq_false
private def c3D := @World.cell?_setCell_same
private def c3E := @List.getElem?_cons_succ
private def c3F := @List.append_nil
private def c3G := @List.mem_append
private def c3H := @List.drop_zero
private def c3I := @List.take_zero
private def c3J := @Nat.le_refl
private def c3K := @World.cell?_of_block
private def c3L := @World.block_lt_of_cell?
private def c3M := @beq_eq_false_iff_ne
private def c3N := @List.length_nil
private def c3O := @AllReady.cons
private def c3P := @Tryz.underlying9
private def c3Q := @World.size_alloc
private def c3R := @ByteArray.toList_eq
private def c3S := @List.mem_singleton
private def c3T := @List.take_of_length_le
private def c3U := @Below.refl
private def c3V := @wpQuiet_nil
private def c3W := @List.mem_map
private def c3X := @World.frozen?_setCell
private def c3Y := @List.map_cons
private def c3Z := @AllReady.nil
private def c4a := @wpAny_ready
open Go.RowKit
theorem b3l(r:Int)(w:World):Calls Tryz.prog 86 #[.int .i32 r] w fun e w'=>e=.returned (.bool (decide ((0<=r/\r<55296)∨(57343<r/\r<=1114111))))/\w'=w:=by
 by_cases h1:0<=r
 ·by_cases h2:r<55296
  ·have x1:decide (0<=r)=true:=by simpa using h1
   have x2:decide (r<55296)=true:=by simpa using h2
   have HE:=c3o (show decide ((0<=r/\r<55296)∨(57343<r/\r<=1114111))=true by simp;omega)
   clear h1 h2
   go_enter Tryz.func86,Tryz.ntmps86
   go_wp2
   go_ret
   rw[HE.out];exact⟨rfl,rfl⟩
  ·have x1:decide (0<=r)=true:=by simpa using h1
   have x2:decide (r<55296)=false:=by simpa using h2
   by_cases h3:57343<r
   ·have x3:decide (57343<r)=true:=by simpa using h3
    by_cases h4:r<=1114111
    ·have x4:decide (r<=1114111)=true:=by simpa using h4
     have HE:=c3o (show decide ((0<=r/\r<55296)∨(57343<r/\r<=1114111))=true by simp;omega)
     clear h1 h2 h3 h4
     go_enter Tryz.func86,Tryz.ntmps86
     go_wp2
     go_ret
     rw[HE.out];exact⟨rfl,rfl⟩
    ·have x4:decide (r<=1114111)=false:=by simpa using h4
     have HE:=c3o (show decide ((0<=r/\r<55296)∨(57343<r/\r<=1114111))=false by simp;omega)
     clear h1 h2 h3 h4
     go_enter Tryz.func86,Tryz.ntmps86
     go_wp2
     go_ret
     rw[HE.out];exact⟨rfl,rfl⟩
   ·have x3:decide (57343<r)=false:=by simpa using h3
    have HE:=c3o (show decide ((0<=r/\r<55296)∨(57343<r/\r<=1114111))=false by simp;omega)
    clear h1 h2 h3
    go_enter Tryz.func86,Tryz.ntmps86
    go_wp2
    go_ret
    rw[HE.out];exact⟨rfl,rfl⟩
 ·have x1:decide (0<=r)=false:=by simpa using h1
  by_cases h3:57343<r
  ·omega
  ·have x3:decide (57343<r)=false:=by simpa using h3
   have HE:=c3o (show decide ((0<=r/\r<55296)∨(57343<r/\r<=1114111))=false by simp;omega)
   clear h1 h3
   go_enter Tryz.func86,Tryz.ntmps86
   go_wp2
   go_ret
   rw[HE.out];exact⟨rfl,rfl⟩
def zlets:ByteArray:=⟨#[97,98,99,100,101,102,103,104,105,106,107,108,109,110,111,112,113,114,115,116,117,118,119,120,121,122,48,49,50,51,52,53,54,55,56,57,46,95,45,47]⟩
def okB(x:Nat):Bool:=decide ((97<=x/\x<=122)∨(48<=x/\x<=57)∨x=46∨x=95∨x=45∨x=47)
theorem b9x:∀ x,x<128->decide (0<=Lib.indexByte zlets.data.toList x.toUInt8)=okB x:=by decide +kernel
theorem b5p:∀ b∈zlets.data.toList,b.toNat<128:=by decide
theorem b6Y(c:UInt8)(a:Nat)(hc:128<=c.toNat):Lib.indexByte (zlets.extract a zlets.size).data.toList c=-1:=by
 rw[<-Lib.firstIdx_eq]
 exact firstIdx_ascii zlets a zlets.size c b5p hc
theorem a9q(w:World)(r:Nat)(hr:r<=1114111) :
  Calls Tryz.prog 54 #[.string zlets,.int .i32 r] w fun e w'=>∃ i:Int,e=.returned (.int .i64 i)/\decide (0<=i)=(decide (r<128)&&okB r)/\Below w.heap.size w w':=by
 by_cases h1:r<128
 ·have x0:decide ((0:Int)<=(r:Int))=true:=by simp
  have x1:decide ((r:Int)<128)=true:=by simp;omega
  have s1:IntKind.u8.wrap (r:Int)=(r:Int):=IntWalk.u8_in _ (by omega)
  have HE:Hid (decide (0<=Lib.indexByte zlets.data.toList ((r:Int)).toNat.toUInt8)=(decide (r<128)&&okB r)):=c3o (by rw[c3w,b9x r h1];simp[h1])
  have HC:=c3o (a7H zlets (r:Int))
  obtain⟨I,hI⟩:∃ I,I=Lib.indexByte zlets.data.toList ((r:Int)).toNat.toUInt8:=⟨_,rfl⟩
  rw[<-hI] at HE HC
  clear hI
  generalize zlets=Z at *
  clear h1
  go_enter Tryz.func54,Tryz.ntmps54
  go_wp2_with fail
  refine (HC.out _).mono ?_
  rintro _ w2 ⟨rfl,rfl⟩
  go_wp2_with fail
  go_ret
  exact⟨I,rfl,HE.out,c3U _ _⟩
 have HNO:Hid ((decide (r<128)&&okB r)=false):=c3o (by simp[h1])
 have x0:decide ((0:Int)<=(r:Int))=true:=by simp
 have x1:decide ((r:Int)<128)=false:=by simp;omega
 have hZs:zlets.size=40:=rfl
 have HZA:Hid (∀ pos (h:pos<zlets.size),(zlets[pos]'h).toNat<128):=c3o (by decide)
 by_cases h2:r=65533
 ·have x2:decide ((r:Int)=65533)=true:=by simp;omega
  have x2':((r:Int)==65533)=true:=by simp;omega
  have HNI:=c3o h1
  clear h1 h2
  generalize zlets=Z at *
  go_enter Tryz.func54,Tryz.ntmps54
  go_wp2_with fail
  go_loopg [] 41 (fun gf wx=>∃ pos:Nat,wx.heap[w.heap.size]? =some (.stringIter Z pos)/\Hid (Below w.heap.size w wx)/\40<pos+gf)
  case atStart=>exact⟨0,World.iter_heap w Z 0,c3o ((c3U _ w).alloc (c3J _) _),by omega⟩
  case round=>
   obtain⟨pos,hit,hbw,hleft⟩:=hrel
   by_cases hps:pos<Z.size
   ·obtain⟨g',rfl⟩:∃ g',gk=g'+1:=⟨gk-1,by omega⟩
    have hnx:=fun ty=>Lib.run_next_ascii_at (P:=Tryz.prog) wr w.heap.size Z pos ty hit hps (HZA.out pos hps)
    have hb:=HZA.out pos hps
    have hit2:=Lib.iterAt_heap wr w.heap.size Z pos (pos+1) hit
    have hbw2:=c3o (Lib.below_iterAt hbw.out (k:=w.heap.size) (c3J _) Z (pos+1))
    obtain⟨W,hWd⟩:∃ W,wr.iterAt w.heap.size Z (pos+1)=W:=⟨_,rfl⟩
    rw[hWd] at hnx hit2 hbw2
    obtain⟨b,hbb⟩:∃ b,b=(Z[pos]'hps).toNat:=⟨_,rfl⟩
    rw[<-hbb] at hnx hb
    have y1:((b:Int)==65533)=false:=by simp;omega
    clear hbb
    go_wp2_with fail
    go_roundg g'
    case measure=>omega
    case rel=>exact⟨pos+1,hit2,hbw2,by omega⟩
   ·have hnx:=fun ty=>Lib.run_next_end_at (P:=Tryz.prog) wr w.heap.size Z pos ty hit hps
    go_wp2_with fail
    go_ret
    exact⟨-1,rfl,by rw[HNO.out];rfl,hbw.out⟩
 have x2:decide ((r:Int)=65533)=false:=by simp;omega
 have x2':((r:Int)==65533)=false:=by simp;omega
 have HV:=c3o (b3l (r:Int))
 by_cases h3:((0:Int)<=(r:Int)/\(r:Int)<55296)∨(57343<(r:Int)/\(r:Int)<=1114111)
 ·rw[c3x h3] at HV
  obtain⟨e1,e2,e3⟩:=encode_facts (r:Int) (by rw[validRune_eq];exact c3x h3) (by omega)
  obtain⟨E,hE⟩:∃ E,Utf8.encode (r:Int)=E:=⟨_,rfl⟩
  rw[hE] at e1 e2 e3
  have hcv:∀ w,(convert 21 9 (.int .i32 (r:Int))).run Tryz.prog w=.ok (.string E) w:=fun w=>by
   rw[run_convert_int_string w 21 9 .i32 (r:Int) (by rw[Tryz.underlying21];rfl) c3P,hE]
  obtain⟨m,hm⟩:∃ m,E.size=m+1:=⟨E.size-1,by omega⟩
  have hmE:m<E.size:=by omega
  have hi2:∀ w,(Instr.index 9 (.string E) (.int .i64 (m:Int))).run Tryz.prog w=.ok (.int .u8 ((E[m]'hmE).toNat:Int)) w:=fun w=>by
   rw[run_index_string w 9 E .i64 (m:Int) c3P]
   rw[dif_pos ⟨by omega,by omega⟩]
   simp
  have hc128:128<=(E[m]'hmE).toNat:=by
   have h:=e3 (by omega)
   have:E.size-1=m:=by omega
   simp only[this] at h
   exact h
  have hmZ:m<zlets.size:=by omega
  have hi1:∀ w,(Instr.index 9 (.string zlets) (.int .i64 (m:Int))).run Tryz.prog w=.ok (.int .u8 ((zlets[m]'hmZ).toNat:Int)) w:=fun w=>by
   rw[run_index_string w 9 zlets .i64 (m:Int) c3P]
   rw[dif_pos ⟨by omega,by omega⟩]
   simp
  have hb128:=HZA.out m hmZ
  obtain⟨cb,hcb⟩:∃ cb,cb=E[m]'hmE:=⟨_,rfl⟩
  obtain⟨bb,hbb⟩:∃ bb,bb=(zlets[m]'hmZ).toNat:=⟨_,rfl⟩
  rw[<-hcb] at hi2 hc128
  rw[<-hbb] at hi1 hb128
  have HC:Hid (∀ w:World,Calls Tryz.prog 85 #[.string (zlets.extract (m+1) 40),.int .u8 ((cb.toNat:Nat):Int)] w fun e w'=>e=.returned (.int .i64 (-1))/\w'=w):=c3o (fun w=>by
   have:=a7H (zlets.extract (m+1) zlets.size) ((cb.toNat:Nat):Int) w
   rw[c3w,show cb.toNat.toUInt8=cb by simp,b6Y cb (m+1) hc128] at this
   exact this)
  have s0:IntKind.i64.wrap ((m:Int)+1)=(m:Int)+1:=c3u _ (by omega)
  have sw0:IntKind.i64.wrap (m:Int)=(m:Int):=c3u _ (by omega)
  have sw:wrap64 (m:Int)=(m:Int):=by unfold wrap64;omega
  have y0:decide ((m:Int)<40)=true:=by simp;omega
  have y0':decide (m<40)=true:=by simp;omega
  obtain⟨c,hc⟩:∃ c:Nat,c=cb.toNat:=⟨_,rfl⟩
  rw[<-hc] at hi2 hc128 HC
  have y1:((bb:Int) !=(c:Int))=true:=by simp;omega
  have hsl:∀ w,(Instr.slice 9 (.string zlets) (some (.int .i64 ((m:Int)+1))) none none).run Tryz.prog w=.ok (.string (zlets.extract (m+1) 40)) w:=fun w=>by
   rw[run_slice_string_l w 9 zlets c3P .i64 ((m:Int)+1) (by omega) (by omega)]
   rw[show ((m:Int)+1).toNat=m+1 by omega]
   rfl
  have HNI:=c3o h1
  have HE12:=c3o (And.intro e1 e2)
  clear h1 h3 e1 e2 e3 hE hcb hbb hc hmE hmZ hZs
  have hZs:zlets.size=40:=rfl
  generalize zlets=Z at *
  go_enter Tryz.func54,Tryz.ntmps54
  go_wp2_with fail
  refine (HV.out _).mono ?_
  rintro _ w2 ⟨rfl,rfl⟩
  go_wp2_with fail
  go_step3
  go_wp2_with fail
  refine wp_loop_rounds 1 ?_
  rw[rounds_succ]
  go_wp2_with fail
  go_step3
  go_wp2_with fail
  go_region
  go_wp2_with fail
  go_quiet (first|(go_at_call 85;exact (HC.out _).mono fun _ _ h=>⟨h.1,_,h.2⟩))
  go_wp2_with fail
  rw[Exit.noGoto_ret]
  simp only[Exit.inBlock,Exit.then]
  rw[Exit.noGoto_ret]
  go_ret
  exact⟨-1,rfl,by rw[HNO.out];rfl,⟨rfl,rfl,rfl,c3J _,fun _ _=>rfl⟩⟩
 ·rw[c3C h3] at HV
  have HNI:=c3o h1
  clear h1 h2 h3
  generalize zlets=Z at *
  go_enter Tryz.func54,Tryz.ntmps54
  go_wp2_with fail
  refine (HV.out _).mono ?_
  rintro _ w2 ⟨rfl,rfl⟩
  go_wp2_with fail
  go_ret
  exact⟨-1,rfl,by rw[HNO.out];rfl,c3U _ _⟩
end Go.Proofs.YtghjlpechjggjaaGreatDoor
namespace Go.Proofs.YtghjlpechjggjaaGreatDoor
open Go.RowKit Go.Shelf
def okR(r:Nat):Bool:=decide (r<128)&&okB r
theorem a7Y(w:World)(r:Nat)(hr:r<=1114111) :
  Calls Tryz.prog 33 #[.string zlets,.int .i32 r] w fun e w'=>e=.returned (.bool (okR r))/\Below w.heap.size w w':=by
 have HC:=c3o (a9q w r hr)
 generalize zlets=Z at *
 go_enter Tryz.func33,Tryz.ntmps33
 go_wp2_with fail
 refine HC.out.mono ?_
 rintro _ w2 ⟨i,rfl,hi,hb⟩
 have HB:=c3o hb
 have HI:=c3o hi
 clear hb hi HC
 go_wp2_with fail
 go_ret
 refine⟨?_,HB.out⟩
 have:=HI.out
 show Ending.returned (Value.bool (decide (0<=i)))=_
 rw[this];rfl
theorem a7o(w:World)(r:Nat)(hr:r<=1114111) :
  Calls Tryz.prog 32 #[.int .i32 r] w fun e w'=>e=.returned (.bool (!okR r))/\Below w.heap.size w w':=by
 have hz:zlets=⟨#[97,98,99,100,101,102,103,104,105,106,107,108,109,110,111,112,113,114,115,116,117,118,119,120,121,122,48,49,50,51,52,53,54,55,56,57,46,95,45,47]⟩:=rfl
 have HC:=c3o (a7Y w r hr)
 rw[hz] at HC
 clear hz
 go_enter Tryz.func32,Tryz.ntmps32
 go_wp2_with fail
 refine HC.out.mono ?_
 rintro _ w2 ⟨rfl,hb⟩
 have HB:=c3o hb
 clear hb HC
 go_wp2_with fail
 go_ret
 exact⟨rfl,HB.out⟩
theorem a7a(w:World)(s:ByteArray)(hs:s.size<=1000000000) :
  Calls Tryz.prog 53 #[.string s,.func (.func 32) #[] #[],.bool true] w fun e w'=>∃ i:Int,e=.returned (.int .i64 i)/\decide (i<0)=s.data.toList.all (fun b=>okB b.toNat)/\Below w.heap.size w w':=by
 have hlen:s.data.toList.length=s.size:=by cases s;rfl
 have HL:=c3o hlen
 have HS:=c3o hs
 clear hlen hs
 have eg:∀ args w,(callFunc 32 args).run Tryz.prog w=.ok (.enter 32 args) w:=enters_of Tryz.func32 (by kernel_rfl) rfl
 go_enter Tryz.func53,Tryz.ntmps53
 go_wp2_with fail
 go_loopg [] (s.size+1) (fun gf wx=>∃ pos:Nat,wx.heap[w.heap.size]? =some (.stringIter s pos)/\Hid (Below w.heap.size w wx)/\s.size<pos+gf/\pos<=s.size/\Hid ((s.data.toList.take pos).all (fun b=>okB b.toNat)=true))
 case atStart=>exact⟨0,World.iter_heap w s 0,c3o ((c3U _ w).alloc (c3J _) _),by omega,by omega,c3o (by simp)⟩
 case round=>
  obtain⟨pos,hit,hbw,hleft,hpz,hall⟩:=hrel
  by_cases hps:pos<s.size
  ·obtain⟨g',rfl⟩:∃ g',gk=g'+1:=⟨gk-1,by omega⟩
   have hpl:pos<s.data.toList.length:=by rw[HL.out];exact hps
   have hbe:s[pos]'hps=s.data.toList[pos]'hpl:=by cases s;rfl
   have hnx:=fun ty=>Lib.run_next_any_at (P:=Tryz.prog) wr w.heap.size s pos ty hit hps
   have hR:=Lib.rune_le s pos
   by_cases h128:(s[pos]'hps).toNat<128
   ·rw[decode_ascii s pos hps h128] at hnx
    have hit2:=Lib.iterAt_heap wr w.heap.size s pos (pos+1) hit
    have hbw2:=c3o (Lib.below_iterAt hbw.out (k:=w.heap.size) (c3J _) s (pos+1))
    obtain⟨W,hWd⟩:∃ W,wr.iterAt w.heap.size s (pos+1)=W:=⟨_,rfl⟩
    dsimp only at hnx
    rw[hWd] at hnx hit2 hbw2
    obtain⟨b,hbb⟩:∃ b,b=s[pos]'hps:=⟨_,rfl⟩
    rw[<-hbb] at hnx h128 hbe
    have HC:=c3o (a7o W b.toNat (by omega))
    rw[show okR b.toNat=okB b.toNat by unfold okR;simp[h128]] at HC
    by_cases hok:okB b.toNat=true
    ·rw[hok] at HC
     have HALL:Hid ((s.data.toList.take (pos+1)).all (fun b=>okB b.toNat)=true):=c3o (by
      rw[List.take_succ_eq_append_getElem hpl,List.all_append,hall.out,<-hbe];simp[hok])
     generalize b.toNat=x at *
     clear hbb hbe hok hall hR
     go_wp2_with fail
     refine HC.out.mono ?_
     rintro _ w3 ⟨rfl,hb3⟩
     have hit3:=(hb3.block w.heap.size (Array.getElem?_eq_some_iff.1 hit2).1).trans hit2
     have hbw3:=c3o (hbw2.out.trans (hb3.mono hbw2.out.size))
     clear hb3 hit2 hbw2 HC hnx
     go_wp2_with fail
     go_roundg g'
     case measure=>omega
     case rel=>exact⟨pos+1,hit3,hbw3,by omega,by omega,HALL⟩
    ·have hok':okB b.toNat=false:=by simpa using hok
     rw[hok'] at HC
     have HNO:Hid (s.data.toList.all (fun b=>okB b.toNat)=false):=c3o (by
      rw[List.all_eq_false]
      exact⟨b,by rw[hbe];exact List.getElem_mem _,by simp[hok']⟩)
     generalize b.toNat=x at *
     clear hbb hbe hok hok' hall hR
     go_wp2_with fail
     refine HC.out.mono ?_
     rintro _ w3 ⟨rfl,hb3⟩
     have hbw3:=c3o (hbw2.out.trans (hb3.mono hbw2.out.size))
     clear hb3 hit2 hbw2 HC hnx
     go_wp2_with fail
     go_ret
     exact⟨pos,rfl,by rw[HNO.out];simp,hbw3.out⟩
   ·obtain⟨hr1,hr2⟩:=decode_high s pos hps (by omega)
    obtain⟨R,hRe⟩:∃ R,R=(Utf8.decode s pos).1:=⟨_,rfl⟩
    obtain⟨K,hKe⟩:∃ K,K=(Utf8.decode s pos).2:=⟨_,rfl⟩
    rw[<-hRe,<-hKe] at hnx
    rw[<-hRe] at hr1 hR
    have hit2:=Lib.iterAt_heap wr w.heap.size s pos (pos+K) hit
    have hbw2:=c3o (Lib.below_iterAt hbw.out (k:=w.heap.size) (c3J _) s (pos+K))
    obtain⟨W,hWd⟩:∃ W,wr.iterAt w.heap.size s (pos+K)=W:=⟨_,rfl⟩
    rw[hWd] at hnx hit2 hbw2
    have HC:=c3o (a7o W R hR)
    rw[show okR R=false by unfold okR;simp;intro h;omega] at HC
    have HNO:Hid (s.data.toList.all (fun b=>okB b.toNat)=false):=c3o (by
     rw[List.all_eq_false]
     refine⟨s[pos]'hps,by rw[hbe];exact List.getElem_mem _,?_⟩
     have:okB (s[pos]'hps).toNat=false:=by unfold okB;simp;omega
     simp[this])
    clear hRe hKe hr1 hR hr2 h128 hbe hall
    go_wp2_with fail
    refine HC.out.mono ?_
    rintro _ w3 ⟨rfl,hb3⟩
    have hbw3:=c3o (hbw2.out.trans (hb3.mono hbw2.out.size))
    clear hb3 hit2 hbw2 HC hnx
    go_wp2_with fail
    go_ret
    exact⟨pos,rfl,by rw[HNO.out];simp,hbw3.out⟩
  ·have hnx:=fun ty=>Lib.run_next_end_at (P:=Tryz.prog) wr w.heap.size s pos ty hit hps
   have HALL:Hid (s.data.toList.all (fun b=>okB b.toNat)=true):=c3o (by
    have:=hall.out
    rwa [c3T (by rw[HL.out];omega)] at this)
   clear hall
   go_wp2_with fail
   go_ret
   exact⟨-1,rfl,by rw[HALL.out];rfl,hbw.out⟩
theorem a9p(w:World)(s:ByteArray)(hs:s.size<=1000000000) :
  Calls Tryz.prog 31 #[.string s,.func (.func 32) #[] #[]] w fun e w'=>∃ i:Int,e=.returned (.int .i64 i)/\decide (i<0)=s.data.toList.all (fun b=>okB b.toNat)/\Below w.heap.size w w':=by
 have HC:=c3o (a7a w s hs)
 go_enter Tryz.func31,Tryz.ntmps31
 go_wp2_with fail
 refine HC.out.mono ?_
 rintro _ w2 ⟨i,rfl,hi,hb⟩
 have HB:=c3o hb
 have HI:=c3o hi
 clear hb hi HC
 go_wp2_with fail
 go_ret
 exact⟨i,rfl,HI.out,HB.out⟩
end Go.Proofs.YtghjlpechjggjaaGreatDoor
namespace Go.Proofs.YtghjlpechjggjaaGreatDoor
open Go.RowKit Go.Shelf
attribute [local go_sem] Oper.semAt_some
def a1c(p:List UInt8):Bool:=!(p==[])&&!(p==[46])&&!(p==[46,46])
def nameB(s:ByteArray):Bool:=decide (1<=s.size/\s.size<=64)&&((a2V s.data.toList).all a1c&&s.data.toList.all (fun b=>okB b.toNat))
theorem a8f(w:World)(s:ByteArray) :
  Calls Tryz.prog 30 #[.string s,.string ⟨#[47]⟩] w fun e w'=>e=.returned (.func (.func 82) #[] #[.pointer (some ⟨w.heap.size+1,0,none⟩),.pointer (some ⟨w.heap.size,0,none⟩),.pointer (some ⟨w.heap.size+2,0,none⟩)]) /\
   w'=((w.alloc (.cells #[.string s] 9)).alloc (.cells #[.string ⟨#[47]⟩] 9)).alloc (.cells #[.int .i64 0] 3):=by
 have hmf:∀ (fn:Fn) (first cap:Array Value) (w:World),(Instr.makeFunc fn first cap).run Tryz.prog w=.ok (.func fn first cap) w:=fun _ _ _ _=>rfl
 go_enter Tryz.func30,Tryz.ntmps30
 go_wp2
 go_ret
 exact⟨rfl,rfl⟩
theorem a3f{fn:Func}{p:Tmp}(h:fn.results=#[.cell p 4])(tmps:Array Value)(w:World)(g:Nat){v:Value}(hp:tmps.getD p undef=.pointer (some ⟨g,0,none⟩))(hc:w.cell? ⟨g,0,none⟩=some v) :
  (results fn tmps).run Tryz.prog w=.ok v w:=by
 have hp':tmps[p]?.getD undef=.pointer (some ⟨g,0,none⟩):=by simpa using hp
 have ha:∀ w,(isAgg 4).run Tryz.prog w=.ok false w:=run_isAgg_plain Tryz.underlying4 rfl
 simp[results,h,hp',asAddr,go_sem,hc,ha]
theorem a3W(w:World)(s:ByteArray)(hs:s.size<=1000000000) :
  Calls Tryz.prog 10 #[.string s] w fun e w'=>e=.returned (.bool (nameB s))/\Below w.heap.size w w':=by
 have hlen:s.data.toList.length=s.size:=by cases s;rfl
 have htl:s.toList=s.data.toList:=c3R s
 refine (callsIn_wide (n:=0)).1 (callsIn_of_wp_marks Tryz.func10 rfl trivial ?_ rfl)
 simp only[Tryz.ntmps10,List.size_toArray,c3t,c3N,Nat.reduceAdd,Nat.reduceSub,Array.replicate_succ,Array.replicate_zero,List.push_toArray,List.append_toArray,c3v,List.cons_append]
 by_cases h0:s.size=0
 ·have e0:s.data.toList=[]:=List.eq_nil_of_length_eq_zero (by omega)
  have z1:(s.toList==[])=true:=by rw[htl,e0];rfl
  have z1':s.toList.isEmpty=true:=by rw[htl,e0];rfl
  have HP:=c3o (show nameB s=false by unfold nameB;simp[h0])
  clear e0 htl h0 hlen
  gi_wp2
  have hcell:(w.alloc (.cells #[.bool false] 4)).cell? ⟨w.heap.size,0,none⟩=some (.bool false):=by
   have:=(a0d w 4 [.bool false]).cell 0
   simpa using this
  exact⟨_,a3f rfl _ _ w.heap.size rfl hcell,by rw[HP.out],(c3U _ _).alloc (c3J _) _⟩
 by_cases h64:64<s.size
 ·have z1:(s.toList==[])=false:=by
   rw[htl,c3M];intro e;rw[e] at hlen;simp at hlen;omega
  have z1':s.toList.isEmpty=false:=by
   rw[htl];cases hq:s.data.toList with
   | nil=>rw[hq] at hlen;simp at hlen;omega
   | cons a b=>rfl
  have y1:decide ((64:Int)<(s.size:Int))=true:=by simp;omega
  have y1':decide (64<s.size)=true:=by simp;omega
  have HP:=c3o (show nameB s=false by unfold nameB;simp;omega)
  clear htl h0 hlen h64
  gi_wp2
  have hcell:(w.alloc (.cells #[.bool false] 4)).cell? ⟨w.heap.size,0,none⟩=some (.bool false):=by
   have:=(a0d w 4 [.bool false]).cell 0
   simpa using this
  exact⟨_,a3f rfl _ _ w.heap.size rfl hcell,by rw[HP.out],(c3U _ _).alloc (c3J _) _⟩
 have y0:(s.toList==[])=false:=by
  rw[htl,c3M];intro e;rw[e] at hlen;simp at hlen;omega
 have y0':s.toList.isEmpty=false:=by
  rw[htl];cases hq:s.data.toList with
  | nil=>rw[hq] at hlen;simp at hlen;omega
  | cons a b=>rfl
 have y1:decide ((64:Int)<(s.size:Int))=false:=by simp;omega
 have y1':decide (64<s.size)=false:=by simp;omega
 have HL:=c3o hlen
 have HTL:=c3o htl
 clear hlen htl
 gi_wp2
 obtain⟨g,hg⟩:∃ g,g=w.heap.size:=⟨_,rfl⟩
 rw[<-hg]
 refine⟨trivial,rfl,((callsIn_wide (n:=0)).2 (a8f _ s)).mono ?_⟩
 rintro _ w2 ⟨rfl,hw2⟩
 have hs1:(w.alloc (.cells #[.bool false] 4)).heap.size=g+1:=by rw[hg];simp
 rw[hs1]
 have hka:Keeps [] (w.alloc (.cells #[.bool false] 4)) w2:=by rw[hw2];exact (((Keeps.refl [] _).alloc _).alloc _).alloc _
 have hgb:Blk w2 g 4 [.bool false]:=by rw[hg];exact (a0d w 4 [.bool false]).keeps hka (by simp)
 have hb1:Blk w2 (g+1) 9 [.string s]:=by
  have:=((a0d (w.alloc (.cells #[.bool false] 4)) 9 [.string s]).keeps (S:=[]) ((Keeps.refl [] _).alloc (.cells #[.string ⟨#[47]⟩] 9)) (by simp)).keeps (S:=[]) ((Keeps.refl [] _).alloc (.cells #[.int .i64 0] 3)) (by simp)
  rw[hs1] at this
  rw[hw2];exact this
 have hb2:Blk w2 (g+2) 9 [.string ⟨#[47]⟩]:=by
  have:=((a0d ((w.alloc (.cells #[.bool false] 4)).alloc (.cells #[.string s] 9)) 9 [.string ⟨#[47]⟩])).keeps (S:=[]) ((Keeps.refl [] _).alloc (.cells #[.int .i64 0] 3)) (by simp)
  rw[c3Q,hs1] at this
  rw[hw2];exact this
 have hb3:Blk w2 (g+3) 3 [.int .i64 0]:=by
  have:=(a0d (((w.alloc (.cells #[.bool false] 4)).alloc (.cells #[.string s] 9)).alloc (.cells #[.string ⟨#[47]⟩] 9)) 3 [.int .i64 0])
  rw[c3Q,c3Q,hs1] at this
  rw[hw2];exact this
 have hsz2:w2.heap.size=g+4:=by rw[hw2];simp;omega
 have hbel2:Below w.heap.size w w2:=by
  rw[hw2]
  exact ((((c3U w.heap.size w).alloc (c3J _) _).alloc (by simp) _).alloc (by simp;omega) _).alloc (by simp;omega) _
 have HG:=c3o hg
 have HGB:=c3o hgb
 have HB1:=c3o hb1
 have HB2:=c3o hb2
 have HB3:=c3o hb3
 have HS2:=c3o hsz2
 have HBL:=c3o hbel2
 have HC:=c3o (fun w'=>a9p w' s hs)
 clear hw2 hs1 hka hgb hb1 hb2 hb3 hsz2 hbel2 hg
 gi_wp2
 refine a8B (gf:=82) (lb:=#[.pointer (some ⟨g+2,0,none⟩),.pointer (some ⟨g+1,0,none⟩),.pointer (some ⟨g+3,0,none⟩)]) (encs:=strE) (toks:=a5a s) rfl (enters_of Tryz.func82 (by kernel_rfl) rfl) (O:=[g+1]) (C:=fun k=>k=g+2∨k=g+1∨k=g+3) ?hO ?hC
  (b5L w2 (g+2) (g+1) (g+3) s hs (by omega) (by omega) HB2.out HB1.out HB3.out) (fun _=>rfl)
  (fun pre W=>Blk W g 4 [.bool false]/\pre.all (fun x=>a1c x.data.toList)=true/\Below w.heap.size w W)
  (fun pre W=>Blk W g 4 [.bool false]/\pre.all (fun x=>a1c x.data.toList)=false/\Below w.heap.size w W)
  ?hI ?hIx ?h0 (fun x W a' W1=>W1=W/\a'={ tmps:=#[.string s,undef,.pointer (some ⟨g,0,none⟩),.string x,.string s,.bool false,.bool false,.string s,.int .i64 s.size,.bool false,.bool false,.string s,.func (.func 82) #[] #[.pointer (some ⟨g+2,0,none⟩),.pointer (some ⟨g+1,0,none⟩),.pointer (some ⟨g+3,0,none⟩)],.string x,undef,undef,undef,undef,undef,undef,undef,undef,undef,undef,undef,undef,undef],defers:=[] }) ?hAx ?assign ?body ?done ?stop
 case hO=>have:=HS2.out;intro k hk;simp at hk;omega
 case hC=>have:=HS2.out;rintro k (h|h|h)<;>omega
 case h0=>exact⟨HGB.out,rfl,HBL.out⟩
 case hAx=>rintro x W a' W1 ⟨rfl,-⟩;exact Keeps.refl [] _
 case hI=>
  have h3:=HS2.out
  have h4:=HG.out
  rintro pre W1 W2 ⟨hv,ha,hB⟩ hk
  exact⟨hv.keeps hk (by simp;omega),ha,hB.trans (a0c hk hB.size (fun x hx=>by simp at hx;omega))⟩
 case hIx=>
  have h3:=HS2.out
  have h4:=HG.out
  rintro pre W1 W2 ⟨hv,ha,hB⟩ hk
  exact⟨hv.keeps hk (by simp;omega),ha,hB.trans (a0c hk hB.size (fun x hx=>by simp at hx;omega))⟩
 case assign=>
  intro l' pre x W K hi hsz hK
  have HK:=c3o hK
  clear hK
  dsimp only[strE]
  gi_wp2
  exact HK.out _ _ ⟨rfl,rfl⟩
 case stop=>
  rintro pre W hpre ⟨hv,ha,hB⟩ hD
  have HV:=c3o hv
  have HA:=c3o ha
  have HBW:=c3o hB
  clear hv ha hB
  gi_wp2
  have h3:=HS2.out
  have h4:=HG.out
  refine⟨by simp,.inl ⟨_,_,rfl,run_takeDeferred hD,?_⟩⟩
  have hv:=HV.out.keeps (a0E W w2.heap.size (.deferred none)) (by simp;omega)
  refine⟨_,a3f rfl _ _ g rfl (hv.cell 0),?_,HBW.out.trans (a0c (a0E W w2.heap.size _) HBW.out.size (fun x hx=>by simp at hx;omega))⟩
  have hno:(a2V s.data.toList).all a1c=false:=by
   have hf:=HA.out
   obtain⟨x,hx,hxn⟩:=List.all_eq_false.1 hf
   have hxm:=hpre.subset hx
   obtain⟨y,hy,rfl⟩:=c3W.1 hxm
   rw[List.all_eq_false]
   exact⟨y,hy,by simpa [mkB] using hxn⟩
  unfold nameB
  rw[hno]
  simp
 case done=>
  rintro W ⟨hv,ha,hB⟩ hD
  have HV:=c3o hv
  have HA:=c3o ha
  have HBW:=c3o hB
  clear hv ha hB
  gi_wp2
  refine⟨trivial,rfl,((callsIn_wide (n:=0)).2 (HC.out _)).mono ?_⟩
  rintro _ w5 ⟨i,rfl,hi,hb5⟩
  have h3:=HS2.out
  have h4:=HG.out
  have hvl:=HV.out.lt
  have hv5:Blk w5 g 4 [.bool false]:=(hb5.block g hvl).trans HV.out
  have hD5:w5.heap[w2.heap.size]? =some (.deferred (some [])):=(hb5.block _ (Array.getElem?_eq_some_iff.1 hD).1).trans hD
  have hc5:=hv5.cell 0
  simp only[c3p] at hc5
  have hf5:=hv5.frozen 0
  have HV5:=c3o hv5
  have HI:=c3o hi
  have HB5:=c3o (HBW.out.trans (hb5.mono HBW.out.size))
  clear hv5 hi hb5 hvl h3 h4
  gi_wp2
  have h3:=HS2.out
  have h4:=HG.out
  have hne:w2.heap.size≠g:=by omega
  have hD6:(w5.setCell ⟨g,0,none⟩ (.bool (decide (i<0)))).heap[w2.heap.size]? =some (.deferred (some [])):=(Go.Deep.blk_setCell_other _ _ _ _ (by simpa using hne)).trans hD5
  refine⟨by simp,.inl ⟨_,_,rfl,run_takeDeferred hD6,?_⟩⟩
  have hv6:Blk (w5.setCell ⟨g,0,none⟩ (.bool (decide (i<0)))) g 4 [.bool (decide (i<0))]:=HV5.out.set 0 _
  have hv7:=hv6.keeps (a0E _ w2.heap.size (.deferred none)) (by simp;omega)
  refine⟨_,a3f rfl _ _ g rfl (hv7.cell 0),?_,(HB5.out.setCell (p:=⟨g,0,none⟩) (by simp;omega) _).trans (a0c (a0E _ w2.heap.size _) (by have:=HB5.out.size;simpa [World.setCell] using this) (fun x hx=>by simp at hx;omega))⟩
  have hyes:(a2V s.data.toList).all a1c=true:=by
   rw[List.all_eq_true]
   intro y hy
   have:=List.all_eq_true.1 HA.out (mkB y) (c3W.2 ⟨y,hy,rfl⟩)
   simpa [mkB] using this
  unfold nameB
  rw[hyes,HI.out]
  simp;omega
 case body=>
  rintro pre x W a' W1 W2 ⟨hv,ha,hB⟩ hpl hsz ⟨rfl,rfl⟩ hk2
  have h3:=HS2.out
  have h4:=HG.out
  have hv2:=hv.keeps hk2 (by simp;omega)
  have hc:=hv2.cell 0
  simp only[c3p] at hc
  have hf:=hv2.frozen 0
  have HV2:=c3o hv2
  have HB2:=c3o (hB.trans (a0c hk2 hB.size (fun z hz=>by simp at hz;omega)))
  have HA:=c3o ha
  have hgw:g<W2.heap.size:=hv2.lt
  have hxl:x.toList=x.data.toList:=c3R x
  have BAD:a1c x.data.toList=false->b4b (fun k=>k=g+2∨k=g+1∨k=g+3) w2.heap.size (fun pre W=>Blk W g 4 [.bool false]/\pre.all (fun x=>a1c x.data.toList)=true/\Below w.heap.size w W)
    (fun pre W=>Blk W g 4 [.bool false]/\pre.all (fun x=>a1c x.data.toList)=false/\Below w.heap.size w W) (pre++[x]) W2 Exit.ret { tmps:=#[],defers:=[] } (W2.setCell ⟨g,0,none⟩ (.bool false)):=fun hb=>by
   refine⟨⟨HV2.out.set 0 _,by rw[List.all_append];simp[hb],HB2.out.setCell (p:=⟨g,0,none⟩) (by simp;omega) _⟩,by simp[World.setCell],fun j hj hj2=>?_⟩
   refine Go.Deep.blk_setCell_other _ _ _ _ (fun e=>?_)
   have e:j=g:=e
   omega
  have HBAD:=c3o BAD
  clear hv ha hB hpl hsz hk2 hv2 h3 h4 BAD
  by_cases q1:x.data.toList=[]
  ·have z1:(x.toList==[])=true:=by rw[hxl,q1];rfl
   have z1':x.toList.isEmpty=true:=by rw[hxl,q1];rfl
   have HP:=c3o (show a1c x.data.toList=false by rw[q1];rfl)
   clear q1 hxl
   gi_wp2
   exact HBAD.out HP.out
  have z1:(x.toList==[])=false:=by rw[hxl];simpa using q1
  have z1':x.toList.isEmpty=false:=by rw[hxl];simpa using q1
  by_cases q2:x.data.toList=[46]
  ·have z2:(x.toList==[46])=true:=by rw[hxl,q2];rfl
   have HP:=c3o (show a1c x.data.toList=false by rw[q2];rfl)
   clear q1 q2 hxl
   gi_wp2
   exact HBAD.out HP.out
  have z2:(x.toList==[46])=false:=by rw[hxl];simpa using q2
  by_cases q3:x.data.toList=[46,46]
  ·have z3:(x.toList==[46,46])=true:=by rw[hxl,q3];rfl
   have HP:=c3o (show a1c x.data.toList=false by rw[q3];rfl)
   clear q1 q2 q3 hxl
   gi_wp2
   exact HBAD.out HP.out
  have z3:(x.toList==[46,46])=false:=by rw[hxl];simpa using q3
  have HP:=c3o (show a1c x.data.toList=true by unfold a1c;rw[c3M.2 q1,c3M.2 q2,c3M.2 q3];rfl)
  clear q1 q2 q3 hxl
  gi_wp2
  refine⟨⟨HV2.out,?_,HB2.out⟩,KeepsOn.of (Keeps.refl [] _) (by simp)⟩
  rw[List.all_append,HA.out]
  simp[HP.out]
end Go.Proofs.YtghjlpechjggjaaGreatDoor
namespace Go.Proofs.YtghjlpechjggjaaGreatDoor
open Go.RowKit
instance decMemBA (s:ByteArray) (l:List ByteArray):Decidable (s∈l):=
 if h:l.any (fun k=>decide (k=s))=true then isTrue (by
  obtain⟨x,hx,he⟩:=List.any_eq_true.1 h
  exact of_decide_eq_true he ▸ hx) else isFalse (fun hm=>h (List.any_eq_true.2 ⟨s,hm,c3x rfl⟩))
structure ZI where
 name:ByteArray
 size:Int
 packed:Int
 sum:Int
 way:Int
 deriving DecidableEq
structure ZP where
 x:ZI
 fro:Nat
def ZP.len(p:ZP):Nat:=p.x.packed.toNat
def a0V(xs:List Int)(rp:Nat):Nat:=(zget xs (rp+28) 2).toNat
def a2N(xs:List Int)(rp:Nat):ByteArray:=strOfNums (seg xs (rp+46) (a0V xs rp))
def zinf(xs:List Int)(p:Nat)(name:ByteArray):ZI:=⟨name,zget xs (p+18) 4,zget xs (p+14) 4,zget xs (p+10) 4,zget xs (p+4) 2⟩
def zrecI(xs:List Int)(rp:Nat):ZI:=zinf xs (rp+6) (a2N xs rp)
def a8Y(xs:List Int)(en rp:Nat):Prop:=
 rp+46<=en/\zget xs rp 4=33639248/\zget xs (rp+8) 2=0/\zget xs (rp+30) 2=0/\zget xs (rp+32) 2=0/\zget xs (rp+34) 2=0/\rp+46+a0V xs rp<=en
instance (xs:List Int) (en rp:Nat):Decidable (a8Y xs en rp):=by unfold a8Y;infer_instance
def a1E(xs:List Int)(at_:Nat)(x:ZI):Prop:=
 zget xs at_ 4=67324752/\zget xs (at_+6) 2=0/\zget xs (at_+28) 2=0/\zget xs (at_+26) 2=x.name.size/\zinf xs (at_+4) (strOfNums (seg xs (at_+30) x.name.size))=x
instance (xs:List Int) (at_:Nat) (x:ZI):Decidable (a1E xs at_ x):=by unfold a1E;infer_instance
def zwrong(xs:List Int)(first en rp at_:Nat)(known:List ByteArray):Int:=
 if ¬a8Y xs en rp then 81
 else if a2N xs rp∈known∨nameB (a2N xs rp)=false then 80
 else if ¬((zrecI xs rp).way=0∨(zrecI xs rp).way=8) then 82
 else if 8192<(zrecI xs rp).size∨16384<(zrecI xs rp).packed then 87
 else if ¬(((zrecI xs rp).way=8∨(zrecI xs rp).size=(zrecI xs rp).packed)/\zget xs (rp+42) 4=at_/\((at_+30+a0V xs rp:Nat):Int)+(zrecI xs rp).packed<=first) then 81
 else if ¬a1E xs at_ (zrecI xs rp) then 81
 else 0
def a1w(xs:List Int)(rp at_:Nat):ZP:=⟨zrecI xs rp,at_+30+a0V xs rp⟩
def znames(l:List ZP):List ByteArray:=l.map fun p=>p.x.name
def a1n(xs:List Int)(first en:Nat):Nat->Nat->Nat->List ZP->Int×List ZP
 | 0,rp,at_,acc=>if rp=en/\at_=first then (0,acc) else (81,[])
 | n+1,rp,at_,acc=>
  if zwrong xs first en rp at_ (znames acc)=0 then
   a1n xs first en n (rp+46+a0V xs rp) (at_+30+a0V xs rp+(zrecI xs rp).packed.toNat) (acc++[a1w xs rp at_])
  else (zwrong xs first en rp at_ (znames acc),[])
def ZEnd(xs:List Int)(en:Nat):Prop:=
 zget xs en 4=101010256/\zget xs (en+4) 2=0/\zget xs (en+6) 2=0/\zget xs (en+8) 2=zget xs (en+10) 2/\zget xs (en+16) 4+zget xs (en+12) 4=en/\zget xs (en+20) 2=0
instance (xs:List Int) (en:Nat):Decidable (ZEnd xs en):=by unfold ZEnd;infer_instance
def a4z(xs:List Int):Nat:=(zget xs (xs.length-22+8) 2).toNat
def a1U(xs:List Int):Nat:=(zget xs (xs.length-22+16) 4).toNat
def zpieces(xs:List Int):Int×List ZP:=
 if 1048576<xs.length then (2,[])
 else if xs.length<22 then (81,[])
 else if ¬ZEnd xs (xs.length-22) then (81,[])
 else if 64<a4z xs then (86,[])
 else a1n xs (a1U xs) (xs.length-22) (a4z xs) (a1U xs) 0 []
def a1B(xs:List Int)(p:ZP):List Int×Int:=
 if p.x.way=8 then
  if (a0B (seg xs p.fro p.len) p.x.size).2.2≠0∨(a0B (seg xs p.fro p.len) p.x.size).2.1≠p.len∨((a0B (seg xs p.fro p.len) p.x.size).1.length:Int)≠p.x.size then ([],84)
  else if ((crcF (a0B (seg xs p.fro p.len) p.x.size).1:Nat):Int)≠p.x.sum then ([],83) else ((a0B (seg xs p.fro p.len) p.x.size).1,0)
 else if ((crcF (seg xs p.fro p.len):Nat):Int)≠p.x.sum then ([],83) else (seg xs p.fro p.len,0)
def zdatas(xs:List Int):List ZP->List (ByteArray×ByteArray)->List (ByteArray×ByteArray)×Int
 | [],acc=>(acc,0)
 | p::l,acc=>if (a1B xs p).2=0 then zdatas xs l (acc++[(p.x.name,strOfNums (a1B xs p).1)]) else ([],(a1B xs p).2)
def a1K(xs:List Int):List (ByteArray×ByteArray)×Int:=if (zpieces xs).1=0 then zdatas xs (zpieces xs).2 [] else ([],(zpieces xs).1)
def a2Y(xs:List Int)(name:ByteArray):List ZP->List Int×Int
 | []=>([],85)
 | p::l=>if p.x.name=name then a1B xs p else a2Y xs name l
def a2C(xs:List Int)(name:ByteArray):List Int×Int:=if (zpieces xs).1=0 then a2Y xs name (zpieces xs).2 else ([],(zpieces xs).1)
theorem b4N{xs:List Int}{first en:Nat}(hnn:∀ rp,0<=(zrecI xs rp).packed):∀ {n rp at_:Nat} {acc l:List ZP},a1n xs first en n rp at_ acc=(0,l)->∀ p∈l,p∈acc∨(p.fro+p.len<=first/\nameB p.x.name=true/\(p.x.way=0∨p.x.way=8)/\p.x.size<=8192/\p.x.packed<=16384/\∃ rp at_,p=a1w xs rp at_)
 | 0,rp,at_,acc,l,h,p,hp=>by
  rw[a1n] at h
  split at h
  ·injection h with h1 h2;subst h2;exact .inl hp
  ·injection h with h1 h2;cases h1
 | n+1,rp,at_,acc,l,h,p,hp=>by
  rw[a1n] at h
  split at h
  ·rename_i h0
   rcases b4N hnn h p hp with h|h
   ·rcases c3G.1 h with h|h
    ·exact .inl h
    ·rw[c3S] at h
     subst h
     unfold zwrong at h0
     split at h0;· omega
     split at h0;· omega
     split at h0;· omega
     split at h0;· omega
     split at h0;· omega
     split at h0;· omega
     rename_i a1 a2 a3 a4 a5 a6
     simp only[Classical.not_not] at a5
     obtain⟨-,-,b3⟩:=a5
     refine .inr ⟨?_,?_,Classical.not_not.1 a3,by show (zrecI xs rp).size<=8192;omega,by show (zrecI xs rp).packed<=16384;omega,_,_,rfl⟩
     ·show at_+30+a0V xs rp+(zrecI xs rp).packed.toNat<=first
      have:=hnn rp
      omega
     ·show nameB (a2N xs rp)=true
      cases hq:nameB (a2N xs rp) with
      | true=>rfl
      | false=>exact absurd (.inr hq) a2
   ·exact .inr h
  ·injection h with h1 h2;contradiction
end Go.Proofs.YtghjlpechjggjaaGreatDoor
namespace Go.Proofs.YtghjlpechjggjaaGreatDoor
open Go.RowKit
theorem a4U{s:ByteArray}(h:nameB s=true):1<=s.size/\s.size<=64:=by
 unfold nameB at h
 rw[Bool.and_eq_true] at h
 exact of_decide_eq_true h.1
theorem a0U(A B:List Int){j k n:Nat}(hj:j=A.length+k):seg (A++B) j n=seg B k n:=by
 subst hj
 unfold seg
 rw[List.take_append,List.drop_append,c3T (by omega),List.drop_eq_nil_of_le (by omega),c3v]
 congr 1
 ·omega
 ·congr 1;omega
theorem c0d(A B:List Int){k n:Nat}(h:k+n<=A.length):seg (A++B) k n=seg A k n:=by
 unfold seg
 rw[List.take_append,show k+n-A.length=0 by omega,c3I,c3F]
theorem a5g(A B:List Int){n:Nat}(h:A.length=n):seg (A++B) 0 n=A:=by
 rw[c0d A B (by omega)]
 unfold seg;rw[Nat.zero_add,c3H,c3T (by omega)]
theorem a0O(A B:List Int){j k n:Nat}(hj:j=A.length+k):zget (A++B) j n=zget B k n:=by unfold zget;rw[a0U A B hj]
theorem b8y(v:Int)(k:Nat):zleB v (k+1)=v%256::zleB (v/256) k:=by
 unfold zleB
 rw[List.range_succ_eq_map,c3Y,List.map_map]
 simp only[Int.pow_zero,Int.ediv_one,List.cons.injEq,true_and]
 apply List.map_congr_left
 intro i _
 simp only[Function.comp,Int.pow_succ]
 rw[Int.mul_comm,<-Int.ediv_ediv_of_nonneg (by decide)]
theorem b9w(k:Nat):∀ v:Int,leI (zleB v k)=v%256^k:=by
 induction k with
 | zero=>intro v;simp[zleB,leI,Int.emod_one]
 | succ k ih=>
  intro v
  rw[b8y,leI,ih,Int.pow_succ]
  have h1:=Int.emod_emod_of_dvd v (show (256:Int) ∣ 256^k*256 from⟨256^k,by rw[Int.mul_comm]⟩)
  have h2:v%(256^k*256)/256=v/256%256^k:=by
   have e:v/(256^k*256)=v/256/256^k:=by rw[Int.mul_comm,<-Int.ediv_ediv_of_nonneg (by decide)]
   rw[Int.emod_def,Int.emod_def (v/256),e,Int.mul_comm (256^k) 256,Int.mul_assoc]
   omega
  omega
theorem a0H(v:Int)(B:List Int){k:Nat}(h0:0<=v)(h1:v<256^k):zget (zleB v k++B) 0 k=v:=by
 unfold zget;rw[a5g _ _ (a1V v k),b9w,Int.emod_eq_of_lt h0 h1]
theorem a0q(v:Int)(B:List Int){j k n:Nat}(h:k<=j):zget (zleB v k++B) j n=zget B (j-k) n:=a0O _ _ (by rw[a1V];omega)
theorem a5r(k:Nat)(v:Int)(l:List Int):zlesB k (v::l)=zleB v k++zlesB k l:=rfl
theorem a6z(k:Nat):zlesB k []=[]:=rfl
theorem a8F(way sum bl dl nl:Int)(Z:List Int)(h0:0<=way/\way<65536)(h1:0<=sum/\sum<4294967296)(h2:0<=bl/\bl<4294967296)(h3:0<=dl/\dl<4294967296)(h4:0<=nl/\nl<65536) :
  zget (sharedB way sum bl dl nl++Z) 2 2=0/\zget (sharedB way sum bl dl nl++Z) 4 2=way/\zget (sharedB way sum bl dl nl++Z) 10 4=sum/\zget (sharedB way sum bl dl nl++Z) 14 4=bl/\zget (sharedB way sum bl dl nl++Z) 18 4=dl /\
   zget (sharedB way sum bl dl nl++Z) 22 2=nl/\zget (sharedB way sum bl dl nl++Z) 24 2=0/\∀ j n,zget (sharedB way sum bl dl nl++Z) (26+j) n=zget Z j n:=by
 simp only[sharedB,a5r,a6z,c3s,c3v]
 refine⟨?_,?_,?_,?_,?_,?_,?_,?_⟩
 ·rw[a0q _ _ (by omega),a0H _ _ (by omega) (by omega)]
 ·rw[a0q _ _ (by omega),a0q _ _ (by omega),a0H _ _ (by omega) (by omega)]
 ·iterate 5 rw[a0q _ _ (by omega)]
  rw[a0H _ _ (by omega) (by omega)]
 ·iterate 6 rw[a0q _ _ (by omega)]
  rw[a0H _ _ (by omega) (by omega)]
 ·iterate 7 rw[a0q _ _ (by omega)]
  rw[a0H _ _ (by omega) (by omega)]
 ·iterate 8 rw[a0q _ _ (by omega)]
  rw[a0H _ _ (by omega) (by omega)]
 ·iterate 9 rw[a0q _ _ (by omega)]
  rw[a0H _ _ (by omega) (by omega)]
 ·intro j n
  iterate 10 rw[a0q _ _ (by omega)]
  congr 1
  omega
structure ZG where
 x:ZI
 body:List Int
def ZG.piece(e:ZG):List Int:=(zlesB 4 [67324752]++sharedB e.x.way e.x.sum e.x.packed e.x.size e.x.name.size)++(sb e.x.name++e.body)
def ZG.recd(e:ZG)(at_:Nat):List Int:=zlesB 4 [33639248]++(zlesB 2 [20]++(sharedB e.x.way e.x.sum e.x.packed e.x.size e.x.name.size++(zlesB 2 [0,0,0]++(zlesB 4 [0,(at_:Int)]++sb e.x.name))))
structure ZG.Ok (e:ZG):Prop where
 name:nameB e.x.name=true
 way:e.x.way=0∨e.x.way=8
 size:0<=e.x.size/\e.x.size<=8192
 packed:e.x.packed=e.body.length/\e.x.packed<=8192
 sum:0<=e.x.sum/\e.x.sum<4294967296
 same:e.x.way=8∨e.x.size=e.x.packed
theorem ZG.piece_len(e:ZG):e.piece.length=30+e.x.name.size+e.body.length:=by
 unfold ZG.piece
 simp only[c3q,a5q,a3h,a2m,c3t,c3N]
 omega
theorem ZG.recd_len(e:ZG)(a:Nat):(e.recd a).length=46+e.x.name.size:=by
 unfold ZG.recd
 simp only[c3q,a5q,a3h,a2m,c3t,c3N]
 omega
theorem ZG.head_at(e:ZG)(he:e.Ok)(A Z:List Int):a1E (A++(e.piece++Z)) A.length e.x/\seg (A++(e.piece++Z)) (A.length+30+e.x.name.size) e.body.length=e.body:=by
 have hn:=a4U he.name
 have hd:=he.size
 have hb:=he.packed
 have hw:=he.way
 have hc:=he.sum
 have X:e.piece++Z=zleB 67324752 4++(sharedB e.x.way e.x.sum e.x.packed e.x.size e.x.name.size++(sb e.x.name++(e.body++Z))):=by
  simp only[ZG.piece,a5r,a6z,c3s,c3v,c3F]
 obtain⟨g1,g2,g3,g4,g5,g6,g7,g8⟩:=a8F e.x.way e.x.sum e.x.packed e.x.size e.x.name.size (sb e.x.name++(e.body++Z)) (by omega) (by omega) (by omega) (by omega) (by omega)
 have k:∀ j n,zget (A++(e.piece++Z)) (A.length+(4+j)) n=zget (sharedB e.x.way e.x.sum e.x.packed e.x.size e.x.name.size++(sb e.x.name++(e.body++Z))) j n:=by
  intro j n
  rw[a0O _ _ rfl,X,a0q _ _ (by omega)]
  congr 1;omega
 have s:∀ j n,seg (A++(e.piece++Z)) (A.length+(30+j)) n=seg (sb e.x.name++(e.body++Z)) j n:=by
  intro j n
  rw[a0U _ _ rfl,X,a0U (k:=26+j) _ _ (by rw[a1V];omega),a0U (k:=j) _ _ (by rw[a3h])]
 refine⟨⟨?_,?_,?_,?_,?_⟩,?_⟩
 ·rw[a0O (j:=A.length) (k:=0) _ _ rfl,X,a0H _ _ (by omega) (by omega)]
 ·exact (k 2 2).trans g1
 ·exact (k 24 2).trans g7
 ·exact (k 22 2).trans g6
 ·have e1:=(k 18 4).trans g5
  have e2:=(k 14 4).trans g4
  have e3:=(k 10 4).trans g3
  have e4:=(k 4 2).trans g2
  have e5:strOfNums (seg (A++(e.piece++Z)) (A.length+30) e.x.name.size)=e.x.name:=by
   show strOfNums (seg (A++(e.piece++Z)) (A.length+(30+0)) e.x.name.size)=e.x.name
   rw[s,a5g _ _ (a2m _)]
   exact a9W _
  unfold zinf
  rw[e5,show A.length+4+18=A.length+(4+18) from rfl,show A.length+4+14=A.length+(4+14) from rfl,show A.length+4+10=A.length+(4+10) from rfl,show A.length+4+4=A.length+(4+4) from rfl,e1,e2,e3,e4]
 ·rw[Nat.add_assoc,s,a0U (k:=0) _ _ (by rw[a2m];rfl),a5g _ _ rfl]
theorem ZG.rec_at(e:ZG)(he:e.Ok)(A Z:List Int)(at_:Nat)(ha:at_<4294967296) :
  zget (A++(e.recd at_++Z)) A.length 4=33639248/\zget (A++(e.recd at_++Z)) (A.length+8) 2=0/\zget (A++(e.recd at_++Z)) (A.length+30) 2=0/\zget (A++(e.recd at_++Z)) (A.length+32) 2=0/\zget (A++(e.recd at_++Z)) (A.length+34) 2=0 /\
   a0V (A++(e.recd at_++Z)) A.length=e.x.name.size/\zrecI (A++(e.recd at_++Z)) A.length=e.x/\zget (A++(e.recd at_++Z)) (A.length+42) 4=at_:=by
 have hn:=a4U he.name
 have hd:=he.size
 have hb:=he.packed
 have hw:=he.way
 have hc:=he.sum
 have X:e.recd at_++Z=zleB 33639248 4++(zleB 20 2++(sharedB e.x.way e.x.sum e.x.packed e.x.size e.x.name.size++(zleB 0 2++(zleB 0 2++(zleB 0 2++(zleB 0 4++(zleB at_ 4++(sb e.x.name++Z)))))))):=by
  simp only[ZG.recd,a5r,a6z,c3s,c3v,c3F]
 obtain⟨g1,g2,g3,g4,g5,g6,g7,g8⟩:=a8F e.x.way e.x.sum e.x.packed e.x.size e.x.name.size (zleB 0 2++(zleB 0 2++(zleB 0 2++(zleB 0 4++(zleB at_ 4++(sb e.x.name++Z)))))) (by omega) (by omega) (by omega) (by omega) (by omega)
 have k:∀ j n,zget (A++(e.recd at_++Z)) (A.length+(6+j)) n=zget (sharedB e.x.way e.x.sum e.x.packed e.x.size e.x.name.size++(zleB 0 2++(zleB 0 2++(zleB 0 2++(zleB 0 4++(zleB at_ 4++(sb e.x.name++Z))))))) j n:=by
  intro j n
  rw[a0O _ _ rfl,X,a0q _ _ (by omega),a0q _ _ (by omega)]
  congr 1;omega
 have k2:∀ j n,zget (A++(e.recd at_++Z)) (A.length+(32+j)) n=zget (zleB 0 2++(zleB 0 2++(zleB 0 2++(zleB 0 4++(zleB at_ 4++(sb e.x.name++Z)))))) j n:=by
  intro j n
  rw[show A.length+(32+j)=A.length+(6+(26+j)) by omega,k,g8]
 have s:seg (A++(e.recd at_++Z)) (A.length+46) e.x.name.size=sb e.x.name:=by
  rw[a0U _ _ rfl,X,a0U (k:=42) _ _ (by rw[a1V]),a0U (k:=40) _ _ (by rw[a1V]),a0U (k:=14) _ _ (by rw[a3h]),a0U (k:=12) _ _ (by rw[a1V]),
   a0U (k:=10) _ _ (by rw[a1V]),a0U (k:=8) _ _ (by rw[a1V]),a0U (k:=4) _ _ (by rw[a1V]),a0U (k:=0) _ _ (by rw[a1V]),a5g _ _ (a2m _)]
 have hl:a0V (A++(e.recd at_++Z)) A.length=e.x.name.size:=by
  have:=(k 22 2).trans g6
  unfold a0V
  rw[show A.length+28=A.length+(6+22) from rfl,this]
  omega
 refine⟨?_,(k 2 2).trans g1,(k 24 2).trans g7,?_,?_,hl,?_,?_⟩
 ·rw[a0O (j:=A.length) (k:=0) _ _ rfl,X,a0H _ _ (by omega) (by omega)]
 ·exact (k2 0 2).trans (a0H _ _ (by omega) (by omega))
 ·refine (k2 2 2).trans ?_
  rw[a0q _ _ (by omega),a0H _ _ (by omega) (by omega)]
 ·have e1:=(k 18 4).trans g5
  have e2:=(k 14 4).trans g4
  have e3:=(k 10 4).trans g3
  have e4:=(k 4 2).trans g2
  unfold zrecI zinf a2N
  rw[hl,s,a9W,show A.length+6+18=A.length+(6+18) from rfl,show A.length+6+14=A.length+(6+14) from rfl,show A.length+6+10=A.length+(6+10) from rfl,show A.length+6+4=A.length+(6+4) from rfl,e1,e2,e3,e4]
 ·refine (k2 10 4).trans ?_
  iterate 4 rw[a0q _ _ (by omega)]
  rw[a0H _ _ (by omega) (by omega)]
def zPs(l:List ZG):List Int:=l.flatMap ZG.piece
def zRs:Nat->List ZG->List Int
 | _,[]=>[]
 | a,e::l=>e.recd a++zRs (a+e.piece.length) l
def zpcs:Nat->List ZG->List ZP
 | _,[]=>[]
 | a,e::l=>⟨e.x,a+30+e.x.name.size⟩::zpcs (a+e.piece.length) l
def a3N(n r p:Int):List Int:=zlesB 4 [101010256]++(zlesB 2 [0,0,n,n]++(zlesB 4 [r,p]++zlesB 2 [0]))
theorem b8w(n r p:Int):(a3N n r p).length=22:=by simp[a3N,a5q]
def zfileB(l:List ZG):List Int:=zPs l++(zRs 0 l++a3N l.length (zRs 0 l).length (zPs l).length)
theorem b8E (e:ZG) (he:e.Ok) (A Z B W:List Int) (first en rp at_:Nat) (known:List ByteArray) (hx:A++(e.piece++Z)=B++(e.recd at_++W)) (hrp:rp=B.length) (hat:at_=A.length) (hen:rp+46+e.x.name.size<=en) (hf:at_+e.piece.length<=first)
  (h32:at_<4294967296) (hk:e.x.name∉known):zwrong (A++(e.piece++Z)) first en rp at_ known=0/\a0V (A++(e.piece++Z)) rp=e.x.name.size/\zrecI (A++(e.piece++Z)) rp=e.x:=by
 obtain⟨h1,-⟩:=e.head_at he A Z
 obtain⟨r1,r2,r3,r4,r5,r6,r7,r8⟩:=e.rec_at he B W at_ h32
 rw[<-hx,<-hrp] at r1 r2 r3 r4 r5 r6 r7 r8
 have hn:a2N (A++(e.piece++Z)) rp=e.x.name:=congrArg ZI.name r7
 have hpl:=e.piece_len
 have hb:=he.packed
 have hd:=he.size
 have hw:=he.way
 refine⟨?_,r6,r7⟩
 rw[hat] at r8 hf ⊢
 unfold zwrong
 rw[hn,r7,if_neg (fun h=>h ⟨by omega,r1,r2,r3,r4,r5,by rw[r6];exact hen⟩),if_neg (fun h=>by
  rcases h with h|h
  ·exact hk h
  ·rw[he.name] at h;cases h),if_neg (fun h=>h hw),if_neg (fun h=>by
   omega),if_neg (fun h=>h ⟨he.same,r8,by
     rw[r6]
     omega⟩),if_neg (fun h=>h h1)]
theorem a3Z(e:ZG)(l:List ZG):zPs (e::l)=e.piece++zPs l:=rfl
theorem a4a(e:ZG)(l:List ZG)(a:Nat):zRs a (e::l)=e.recd a++zRs (a+e.piece.length) l:=rfl
theorem a8U:∀ (l:List ZG) (A B E:List Int) (first en rp at_:Nat) (acc:List ZP),(∀ e∈l,e.Ok)->(∀ e∈l,e.x.name∉znames acc)->(l.map (fun e:ZG=>e.x.name)).Nodup->at_=A.length->first=A.length+(zPs l).length->rp=first+B.length ->
  en=rp+(zRs at_ l).length->first<4294967296->a1n (A++(zPs l++(B++(zRs at_ l++E)))) first en l.length rp at_ acc=(0,acc++zpcs at_ l)
 | [],A,B,E,first,en,rp,at_,acc,_,_,_,h1,h2,h3,h4,_=>by
  simp only[zPs,List.flatMap_nil,c3N,zRs] at h2 h4
  rw[c3N,a1n,if_pos ⟨by omega,by omega⟩,zpcs,c3F]
 | e::l,A,B,E,first,en,rp,at_,acc,hok,hnew,hnd,h1,h2,h3,h4,h5=>by
  have he:=hok e c3y
  have hpl:=e.piece_len
  have hrl:=e.recd_len at_
  rw[a3Z] at h2 ⊢
  rw[a4a] at h4 ⊢
  rw[c3q] at h2 h4
  have X:A++((e.piece++zPs l)++(B++((e.recd at_++zRs (at_+e.piece.length) l)++E)))=A++(e.piece++(zPs l++(B++(e.recd at_++(zRs (at_+e.piece.length) l++E))))):=by simp only[c3s]
  have Y:A++(e.piece++(zPs l++(B++(e.recd at_++(zRs (at_+e.piece.length) l++E)))))=(A++(e.piece++(zPs l++B)))++(e.recd at_++(zRs (at_+e.piece.length) l++E)):=by simp only[c3s]
  have V:A++(e.piece++(zPs l++(B++(e.recd at_++(zRs (at_+e.piece.length) l++E)))))=(A++e.piece)++(zPs l++((B++e.recd at_)++(zRs (at_+e.piece.length) l++E))):=by simp only[c3s]
  obtain⟨w0,w1,w2⟩:=b8E e he A _ (A++(e.piece++(zPs l++B))) _ first en rp at_ (znames acc) Y (by simp only[c3q];omega) h1 (by omega) (by omega) (by omega) (hnew e c3y)
  rw[X,c3t,a1n,if_pos w0]
  have e1:a1w (A++(e.piece++(zPs l++(B++(e.recd at_++(zRs (at_+e.piece.length) l++E)))))) rp at_=⟨e.x,at_+30+e.x.name.size⟩:=by unfold a1w;rw[w1,w2]
  have e2:e.x.packed.toNat=e.body.length:=by rw[he.packed.1];exact c3w _
  rw[e1,w1,w2,e2,show at_+30+e.x.name.size+e.body.length=at_+e.piece.length by omega,V]
  rw[c3Y,List.nodup_cons] at hnd
  rw[a8U l (A++e.piece) (B++e.recd at_) E first en (rp+46+e.x.name.size) (at_+e.piece.length) _ (fun x hx=>hok x (c3z _ hx)) (fun x hx hm=>by
   unfold znames at hm
   rw[List.map_append,c3G] at hm
   rcases hm with hm|hm
   ·exact hnew x (c3z _ hx) hm
   ·rw[List.map_singleton,c3S] at hm
    exact hnd.1 (c3W.2 ⟨x,hx,hm⟩)) hnd.2 (by rw[c3q];omega) (by rw[c3q];omega) (by rw[c3q];omega) (by omega) h5]
  rw[zpcs,c3s];rfl
theorem c2b(n r p:Int)(A:List Int)(hn:0<=n/\n<65536)(hr:0<=r/\r<4294967296)(hp:0<=p/\p<4294967296) :
  zget (A++a3N n r p) A.length 4=101010256/\zget (A++a3N n r p) (A.length+4) 2=0/\zget (A++a3N n r p) (A.length+6) 2=0/\zget (A++a3N n r p) (A.length+8) 2=n/\zget (A++a3N n r p) (A.length+10) 2=n /\
   zget (A++a3N n r p) (A.length+12) 4=r/\zget (A++a3N n r p) (A.length+16) 4=p/\zget (A++a3N n r p) (A.length+20) 2=0:=by
 have e:a3N n r p=zleB 101010256 4++(zleB 0 2++(zleB 0 2++(zleB n 2++(zleB n 2++(zleB r 4++(zleB p 4++(zleB 0 2++[]))))))):=by
  simp only[a3N,a5r,a6z,c3s,c3v,c3F]
 rw[e]
 refine⟨?_,?_,?_,?_,?_,?_,?_,?_⟩
 ·rw[a0O (j:=A.length) (k:=0) _ _ rfl,a0H _ _ (by omega) (by omega)]
 ·rw[a0O _ _ rfl,a0q _ _ (by omega),a0H _ _ (by omega) (by omega)]
 ·rw[a0O _ _ rfl];iterate 2 rw[a0q _ _ (by omega)]
  rw[a0H _ _ (by omega) (by omega)]
 ·rw[a0O _ _ rfl];iterate 3 rw[a0q _ _ (by omega)]
  rw[a0H _ _ (by omega) (by omega)]
 ·rw[a0O _ _ rfl];iterate 4 rw[a0q _ _ (by omega)]
  rw[a0H _ _ (by omega) (by omega)]
 ·rw[a0O _ _ rfl];iterate 5 rw[a0q _ _ (by omega)]
  rw[a0H _ _ (by omega) (by omega)]
 ·rw[a0O _ _ rfl];iterate 6 rw[a0q _ _ (by omega)]
  rw[a0H _ _ (by omega) (by omega)]
 ·rw[a0O _ _ rfl];iterate 7 rw[a0q _ _ (by omega)]
  rw[a0H _ _ (by omega) (by omega)]
structure ZOk (l:List ZG):Prop where
 ok:∀ e∈l,e.Ok
 nodup:(l.map (fun e:ZG=>e.x.name)).Nodup
 len:l.length<=64
theorem a8A{l:List ZG}(h:∀ e∈l,e.Ok):(zPs l).length<=l.length*8286/\∀ a,(zRs a l).length<=l.length*110:=by
 induction l with
 | nil=>exact⟨by simp[zPs],fun a=>by simp[zRs]⟩
 | cons e l ih=>
  obtain⟨i1,i2⟩:=ih (fun x hx=>h x (c3z _ hx))
  have he:=h e c3y
  have hn:=a4U he.name
  have hd:=he.size
  have hb:=he.packed
  have hpl:=e.piece_len
  refine⟨by rw[a3Z,c3q,c3t];omega,fun a=>?_⟩
  have:=i2 (a+e.piece.length)
  rw[a4a,c3q,c3t,e.recd_len];omega
theorem a2X(l:List ZG):(zfileB l).length=(zPs l).length+(zRs 0 l).length+22:=by
 unfold zfileB;rw[c3q,c3q,b8w];omega
theorem a4y{l:List ZG}(h:ZOk l):(zfileB l).length<=600000:=by
 have h1:=(a8A h.ok).1
 have h2:=(a8A h.ok).2 0
 have h3:=h.len
 rw[a2X]
 omega
theorem b8x{l:List ZG}(h:ZOk l):ZEnd (zfileB l) ((zfileB l).length-22)/\a4z (zfileB l)=l.length/\a1U (zfileB l)=(zPs l).length:=by
 have h1:=(a8A h.ok).1
 have h2:=(a8A h.ok).2 0
 have h3:=h.len
 have hl:=a2X l
 have e:zfileB l=(zPs l++zRs 0 l)++a3N l.length (zRs 0 l).length (zPs l).length:=by unfold zfileB;rw[c3s]
 obtain⟨a1,a2,a3,a4,a5,a6,a7,a8⟩:=c2b l.length (zRs 0 l).length (zPs l).length (zPs l++zRs 0 l) (by omega) (by omega) (by omega)
 rw[<-e,c3q] at a1 a2 a3 a4 a5 a6 a7 a8
 unfold a4z a1U
 rw[hl,show (zPs l).length+(zRs 0 l).length+22-22=(zPs l).length+(zRs 0 l).length by omega]
 refine⟨⟨a1,a2,a3,a4.trans a5.symm,by rw[a6,a7];omega,a8⟩,by rw[a4];omega,by rw[a7];omega⟩
theorem b1W{l:List ZG}(h:ZOk l):zpieces (zfileB l)=(0,zpcs 0 l):=by
 obtain⟨e1,e2,e3⟩:=b8x h
 have hs:=a4y h
 have hl:=a2X l
 have h3:=h.len
 unfold zpieces
 rw[if_neg (by omega),if_neg (by omega),if_neg (fun x=>x e1),e2,e3,if_neg (by omega)]
 have:=a8U l [] [] (a3N l.length (zRs 0 l).length (zPs l).length) (zPs l).length ((zfileB l).length-22) (zPs l).length 0 [] h.ok (fun _ _=>by simp[znames]) h.nodup rfl (by simp) (by simp) (by omega) (by omega)
 rw[c3v,c3v,c3v] at this
 exact this
theorem a8I(xs:List Int):(strOfNums xs).size=xs.length:=strOfNums_size xs
theorem b3M{xs:List Int}{first en rp at_:Nat}{known:List ByteArray}(h:zwrong xs first en rp at_ known=0) :
  a8Y xs en rp/\nameB (a2N xs rp)=true/\((zrecI xs rp).way=0∨(zrecI xs rp).way=8)/\(zrecI xs rp).size<=8192/\(zrecI xs rp).packed<=16384/\((at_+30+a0V xs rp:Nat):Int)+(zrecI xs rp).packed<=first/\a1E xs at_ (zrecI xs rp)/\a2N xs rp∉known:=by
 unfold zwrong at h
 split at h;· omega
 split at h;· omega
 split at h;· omega
 split at h;· omega
 split at h;· omega
 split at h;· omega
 rename_i a1 a2 a3 a4 a5 a6
 simp only[Classical.not_not] at a1 a3 a5 a6
 refine⟨a1,?_,a3,by omega,by omega,a5.2.2,a6,fun h=>a2 (.inl h)⟩
 cases hq:nameB (a2N xs rp) with
 | true=>rfl
 | false=>exact absurd (.inr hq) a2
theorem b8C:∀ (l:List ZG) (A R:List Int),(∀ e∈l,e.Ok)->∀ (i:Nat) (hi:i<(zpcs A.length l).length) (hi2:i<l.length),(zpcs A.length l)[i].x=l[i].x/\seg (A++(zPs l++R)) (zpcs A.length l)[i].fro (zpcs A.length l)[i].len=l[i].body
 | [],_,_,_,i,hi,hi2=>by simp at hi2
 | e::l,A,R,hok,i,hi,hi2=>by
  have he:=hok e c3y
  have hpb:e.x.packed.toNat=e.body.length:=by rw[he.packed.1];exact c3w _
  have hX:A++(zPs (e::l)++R)=A++(e.piece++(zPs l++R)):=by rw[a3Z];simp only[c3s]
  have hY:A++(zPs (e::l)++R)=(A++e.piece)++(zPs l++R):=by rw[hX,c3s]
  cases i with
  | zero=>
   refine⟨rfl,?_⟩
   rw[hX]
   show seg _ (A.length+30+e.x.name.size) e.x.packed.toNat=e.body
   rw[hpb]
   exact (e.head_at he A (zPs l++R)).2
  | succ i=>
   rw[hY]
   have:=b8C l (A++e.piece) R (fun x hx=>hok x (c3z _ hx)) i (by simp only[zpcs,c3t] at hi;rw[c3q];omega) (by rw[c3t] at hi2;omega)
   simp only[c3q] at this
   exact this
theorem b0f:∀ (l:List ZG) (a:Nat),(zpcs a l).length=l.length
 | [],_=>rfl
 | e::l,a=>by rw[zpcs,c3t,b0f,c3t]
def ZG.data(e:ZG):List Int×Int:=
 if e.x.way=8 then
  if (a0B e.body e.x.size).2.2≠0∨(a0B e.body e.x.size).2.1≠e.body.length∨((a0B e.body e.x.size).1.length:Int)≠e.x.size then ([],84)
  else if ((crcF (a0B e.body e.x.size).1:Nat):Int)≠e.x.sum then ([],83) else ((a0B e.body e.x.size).1,0)
 else if ((crcF e.body:Nat):Int)≠e.x.sum then ([],83) else (e.body,0)
def zoutL:List ZG->List (ByteArray×ByteArray)->List (ByteArray×ByteArray)×Int
 | [],acc=>(acc,0)
 | e::l,acc=>if e.data.2=0 then zoutL l (acc++[(e.x.name,strOfNums e.data.1)]) else ([],e.data.2)
theorem c0s{xs:List Int}{p:ZP}{e:ZG}(he:e.Ok)(h1:p.x=e.x)(h2:seg xs p.fro p.len=e.body):a1B xs p=e.data:=by
 have hl:p.len=e.body.length:=by unfold ZP.len;rw[h1,he.packed.1];exact c3w _
 unfold a1B ZG.data
 rw[h2,hl,h1]
theorem b1R:∀ (l:List ZG) (A R:List Int) (acc:List (ByteArray×ByteArray)),(∀ e∈l,e.Ok)->zdatas (A++(zPs l++R)) (zpcs A.length l) acc=zoutL l acc
 | [],_,_,_,_=>rfl
 | e::l,A,R,acc,hok=>by
  have he:=hok e c3y
  have h0:=b8C (e::l) A R hok 0 (by rw[b0f,c3t];omega) (by rw[c3t];omega)
  have hY:A++(zPs (e::l)++R)=(A++e.piece)++(zPs l++R):=by rw[a3Z];simp only[c3s]
  have hd:=c0s (xs:=A++(zPs (e::l)++R)) (p:=(zpcs A.length (e::l))[0]'(by rw[b0f,c3t];omega)) (e:=e) he h0.1 h0.2
  have hd':a1B (A++(zPs (e::l)++R)) ⟨e.x,A.length+30+e.x.name.size⟩=e.data:=hd
  have hi:=b1R l (A++e.piece) R (acc++[(e.x.name,strOfNums e.data.1)]) (fun x hx=>hok x (c3z _ hx))
  rw[c3q,<-hY] at hi
  rw[zpcs,zdatas,hd',zoutL,hi]
theorem b6d{l:List ZG}(h:ZOk l):a1K (zfileB l)=zoutL l []:=by
 have e:=b1W h
 unfold a1K
 rw[e,if_pos rfl]
 exact b1R l [] _ [] h.ok
end Go.Proofs.YtghjlpechjggjaaGreatDoor
namespace Go.Proofs.YtghjlpechjggjaaGreatDoor
open Go.RowKit
def c0u(way:Int)(body data:List Int)(name:ByteArray):List Int:=zlesB 4 [67324752]++sharedB way (crcF data:Nat) body.length data.length name.size
def a8V(way:Int)(body data:List Int)(name:ByteArray):List Int:=c0u way body data name++(sb name++body)
def zrec(way:Int)(body data:List Int)(name:ByteArray)(at_:Int):List Int:=zlesB 4 [33639248]++(zlesB 2 [20]++(sharedB way (crcF data:Nat) body.length data.length name.size++(zlesB 2 [0,0,0]++(zlesB 4 [0,at_]++sb name))))
def zway(data ys:List Int):Int:=if ys.length<data.length then 8 else 0
def a6k(data ys:List Int):List Int:=if ys.length<data.length then ys else data
structure ZE where
 name:ByteArray
 dat:ByteArray
 ys:List Int
def ZE.way(e:ZE):Int:=zway (sb e.dat) e.ys
def ZE.body(e:ZE):List Int:=a6k (sb e.dat) e.ys
def ZE.g(e:ZE):ZG:=⟨⟨e.name,e.dat.size,e.body.length,(crcF (sb e.dat):Nat),e.way⟩,e.body⟩
theorem ZE.way08(e:ZE):e.way=0∨e.way=8:=by unfold ZE.way zway;split<;>simp
theorem ZE.body_le(e:ZE):e.body.length<=e.dat.size/\(e.way=0->e.body=sb e.dat)/\(e.way=8->e.body=e.ys/\e.ys.length<e.dat.size):=by
 have:=a2m e.dat
 unfold ZE.body a6k ZE.way zway
 by_cases h:e.ys.length<(sb e.dat).length
 ·simp only[if_pos h];refine⟨by omega,by omega,fun _=>⟨trivial,by omega⟩⟩
 ·simp only[if_neg h];refine⟨by omega,fun _=>trivial,by omega⟩
structure ZE.Ok (e:ZE):Prop where
 name:nameB e.name=true
 dat:e.dat.size<=8192
 defl:Defl (sb e.dat) e.ys
theorem ZE.Ok.g{e:ZE}(h:e.Ok):e.g.Ok:=by
 have hb:=e.body_le
 have hd:=h.dat
 have hc:=b6E (a9S e.dat)
 refine⟨h.name,e.way08,⟨Int.natCast_nonneg _,?_⟩,⟨rfl,?_⟩,⟨Int.natCast_nonneg _,?_⟩,?_⟩
 ·show (e.dat.size:Int)<=8192;omega
 ·show (e.body.length:Int)<=8192;omega
 ·show ((crcF (sb e.dat):Nat):Int)<4294967296;omega
 ·rcases e.way08 with h0|h8
  ·right
   show (e.dat.size:Int)=e.body.length
   rw[hb.2.1 h0,a2m]
  ·exact .inl h8
theorem ZE.piece_eq(e:ZE):e.g.piece=a8V (zway (sb e.dat) e.ys) (a6k (sb e.dat) e.ys) (sb e.dat) e.name:=by
 unfold a8V c0u;rw[a2m];rfl
theorem ZE.recd_eq(e:ZE)(a:Nat):e.g.recd a=zrec (zway (sb e.dat) e.ys) (a6k (sb e.dat) e.ys) (sb e.dat) e.name a:=by
 unfold zrec;rw[a2m];rfl
theorem ZE.Ok.data{e:ZE}(h:e.Ok):e.g.data=(sb e.dat,0):=by
 have hb:=e.body_le
 have hd:=h.dat
 have hs:=a2m e.dat
 unfold ZG.data
 rcases e.way08 with h0|h8
 ·have e1:e.g.body=sb e.dat:=hb.2.1 h0
  have e2:e.g.x.way=0:=h0
  rw[e2,if_neg (by omega),e1,if_neg (fun h=>h rfl)]
 ·have e1:e.g.body=e.ys:=(hb.2.2 h8).1
  have e2:e.g.x.way=8:=h8
  have e3:e.g.x.size=e.dat.size:=rfl
  have hi:a0B e.ys e.g.x.size=(sb e.dat,e.ys.length,0):=h.defl.infl (a9S _) (by omega) (by omega) (by omega)
  rw[e2,if_pos rfl,e1,hi,if_neg (fun h=>by
   rcases h with h|h|h
   ·exact h rfl
   ·exact h rfl
   ·exact h (by show ((sb e.dat).length:Int)=_;rw[e3];omega)),if_neg (fun h=>h rfl)]
theorem c1X(l m:List ZG):zPs (l++m)=zPs l++zPs m:=by unfold zPs;rw[List.flatMap_append]
theorem b8u:∀ (l m:List ZG) (a:Nat),zRs a (l++m)=zRs a l++zRs (a+(zPs l).length) m
 | [],m,a=>by rw[c3v,zRs,c3v,zPs,List.flatMap_nil,c3N,Nat.add_zero]
 | e::l,m,a=>by rw[List.cons_append,a4a,a4a,b8u l m,a3Z,c3q,c3s,Nat.add_assoc]
theorem c1Y(e:ZG):zPs [e]=e.piece:=by rw[a3Z,zPs,List.flatMap_nil,c3F]
theorem c1Z(e:ZG)(a:Nat):zRs a [e]=e.recd a:=by rw[a4a,zRs,c3F]
def ZE.out(e:ZE):ByteArray×ByteArray:=(e.name,e.dat)
theorem b8A:∀ (l:List ZE) (acc:List (ByteArray×ByteArray)),(∀ e∈l,e.Ok)->zoutL (l.map ZE.g) acc=(acc++l.map ZE.out,0)
 | [],acc,_=>by rw[List.map_nil,List.map_nil,zoutL,c3F]
 | e::l,acc,h=>by
  have hd:=(h e c3y).data
  rw[c3Y,c3Y,zoutL,hd,if_pos rfl,b8A l _ (fun x hx=>h x (c3z _ hx)),c3s]
  show (acc++([(e.name,strOfNums (sb e.dat))]++l.map ZE.out),(0:Int))=_
  rw[a9W];rfl
theorem c0U{l:List ZE}(h:∀ e∈l,e.Ok)(hn:(l.map ZE.name).Nodup)(hl:l.length<=64):ZOk (l.map ZE.g):=
 ⟨fun g hg=>by obtain⟨e,he,rfl⟩:=c3W.1 hg;exact (h e he).g,by rw[List.map_map];exact hn,by rw[List.length_map];exact hl⟩
theorem b1n(way sum bl dl nl:Int):∀ x∈sharedB way sum bl dl nl,0<=x/\x<=255:=by
 intro x hx
 unfold sharedB at hx
 rcases c3G.1 hx with h|h
 ·exact a1W _ _ x h
 ·rcases c3G.1 h with h|h<;>exact a1W _ _ x h
theorem ZG.u8(e:ZG)(hb:∀ x∈e.body,0<=x/\x<=255):(∀ x∈e.piece,0<=x/\x<=255)/\∀ a,∀ x∈e.recd a,0<=x/\x<=255:=by
 refine⟨fun x hx=>?_,fun a x hx=>?_⟩
 ·unfold ZG.piece at hx
  simp only[c3G] at hx
  rcases hx with (h|h)|h|h
  ·exact a1W _ _ x h
  ·exact b1n _ _ _ _ _ x h
  ·exact a9S _ x h
  ·exact hb x h
 ·unfold ZG.recd at hx
  simp only[c3G] at hx
  rcases hx with h|h|h|h|h|h
  ·exact a1W _ _ x h
  ·exact a1W _ _ x h
  ·exact b1n _ _ _ _ _ x h
  ·exact a1W _ _ x h
  ·exact a1W _ _ x h
  ·exact a9S _ x h
theorem c0t{l:List ZG}(h:∀ g∈l,∀ x∈g.body,0<=x/\x<=255):∀ x∈zfileB l,0<=x/\x<=255:=by
 have hP:∀ x∈zPs l,0<=x/\x<=255:=fun x hx=>by
  obtain⟨g,hg,hx⟩:=List.mem_flatMap.1 hx
  exact (g.u8 (h g hg)).1 x hx
 have hR:∀ (l:List ZG),(∀ g∈l,∀ x∈g.body,0<=x/\x<=255)->∀ a,∀ x∈zRs a l,0<=x/\x<=255:=by
  intro l
  induction l with
  | nil=>intro _ a x hx;simp[zRs] at hx
  | cons e l ih=>
   intro h a x hx
   rw[a4a] at hx
   rcases c3G.1 hx with hx|hx
   ·exact (e.u8 (h e c3y)).2 a x hx
   ·exact ih (fun g hg=>h g (c3z _ hg)) _ x hx
 intro x hx
 unfold zfileB a3N at hx
 simp only[c3G] at hx
 rcases hx with h1|h1|h1|h1|h1|h1
 ·exact hP x h1
 ·exact hR l h 0 x h1
 ·exact a1W _ _ x h1
 ·exact a1W _ _ x h1
 ·exact a1W _ _ x h1
 ·exact a1W _ _ x h1
theorem ZE.Ok.body_u8{e:ZE}(h:e.Ok):∀ x∈e.g.body,0<=x/\x<=255:=by
 have hd:=h.dat
 have hb:=e.body_le
 rcases e.way08 with h0|h8
 ·rw[show e.g.body=sb e.dat from hb.2.1 h0];exact a9S _
 ·rw[show e.g.body=e.ys from (hb.2.2 h8).1];exact h.defl.byte (a9S _) (by rw[a2m];omega)
end Go.Proofs.YtghjlpechjggjaaGreatDoor
namespace Go.Proofs.YtghjlpechjggjaaGreatDoor
open Go.RowKit
def zchk:List EN->List ByteArray->Int
 | [],_=>0
 | e::l,known=>if inL known e.1=true∨nameB e.1=false then 80 else if 8192<e.2.size then 87 else zchk l (known++[e.1])
def a1k(l:List EN):Int:=if 64<l.length then 86 else zchk l []
theorem b8v:∀ {l:List EN} {known:List ByteArray},zchk l known=0->(∀ e∈l,nameB e.1=true/\e.2.size<=8192/\e.1∉known)/\(l.map fun e=>e.1).Nodup
 | [],_,_=>⟨by simp,by simp⟩
 | e::l,known,h=>by
  rw[zchk] at h
  split at h
  ·cases h
  rename_i h1
  split at h
  ·cases h
  rename_i h2
  obtain⟨i1,i2⟩:=b8v h
  have hn:e.1∉known:=fun hm=>h1 (.inl (a6Y.2 hm))
  have hb:nameB e.1=true:=by
   cases hq:nameB e.1 with
   | true=>rfl
   | false=>exact absurd (.inr hq) h1
  refine⟨fun x hx=>?_,?_⟩
  ·rcases List.mem_cons.1 hx with rfl|hx
   ·exact⟨hb,by omega,hn⟩
   ·obtain⟨a,b,c⟩:=i1 x hx
    exact⟨a,b,fun hm=>c (List.mem_append_left _ hm)⟩
  ·rw[c3Y,List.nodup_cons]
   refine⟨fun hm=>?_,i2⟩
   obtain⟨x,hx,he⟩:=c3W.1 hm
   exact (i1 x hx).2.2 (List.mem_append_right _ (by rw[c3S];exact he))
theorem a5p{l:List EN}(h:a1k l=0):l.length<=64/\(∀ e∈l,nameB e.1=true/\e.2.size<=8192)/\(l.map fun e=>e.1).Nodup:=by
 unfold a1k at h
 split at h
 ·cases h
 obtain⟨a,b⟩:=b8v h
 exact⟨by omega,fun e he=>⟨(a e he).1,(a e he).2.1⟩,b⟩
structure FileOf (l:List EN) (xs:List Int):Prop where
 out:∃ es:List ZE,es.map ZE.out=l/\(∀ e∈es,Defl (sb e.dat) e.ys)/\xs=zfileB (es.map ZE.g)
theorem c0T{l:List EN}{es:List ZE}(hc:a1k l=0)(h:es.map ZE.out=l)(hd:∀ e∈es,Defl (sb e.dat) e.ys):(∀ e∈es,e.Ok)/\(es.map ZE.name).Nodup/\es.length<=64:=by
 obtain⟨a,b,c⟩:=a5p hc
 subst h
 refine⟨fun e he=>?_,?_,by rw[List.length_map] at a;exact a⟩
 ·obtain⟨x,y⟩:=b e.out (c3W.2 ⟨e,he,rfl⟩)
  exact⟨x,y,hd e he⟩
 ·rw[List.map_map] at c;exact c
end Go.Proofs.YtghjlpechjggjaaGreatDoor
namespace Go.Proofs.YtghjlpechjggjaaGreatDoor
open Go.RowKit
theorem b9k(w:World)(a1 a2:ByteArray)(b1 b2 c1 c2 d1 d2 e1 e2:Int):(binOp .eql 51 (.agg #[.string a1,.int .i64 b1,.int .i64 c1,.int .u32 d1,.int .i64 e1]) (.agg #[.string a2,.int .i64 b2,.int .i64 c2,.int .u32 d2,.int .i64 e2])).run Tryz.prog w=.ok (.bool (decide ((⟨a1,b1,c1,d1,e1⟩:ZI)=⟨a2,b2,c2,d2,e2⟩))) w:=by
 have u3:=Tryz.underlying3
 have u9:=c3P
 have u32:=Tryz.underlying49
 have hS:Tryz.prog.underlying 51=some (.struct (Tryz.prog.fieldsOf 51)):=by kernel_rfl
 have hp:Tryz.prog.stoodInHeld 51=false:=by kernel_rfl
 rw[run_eql_struct,show (10000:Nat)=9999+1 from rfl,run_equalIn_agg w 9999 51 _ _ hS hp]
 simp only[Program.fieldsOf,Tryz.underlying51]
 go_simp
 have ha:a1.toList=a2.toList↔a1=a2:=by
  constructor
  ·intro e
   rw[c3R,c3R] at e
   cases a1;cases a2
   simpa using e
  ·rintro rfl;rfl
 by_cases h1:a1=a2<;>by_cases h2:b1=b2<;>by_cases h3:c1=c2<;>by_cases h4:d1=d2<;>by_cases h5:e1=e2<;>simp[h1,h2,h3,h4,h5,ha]
theorem b5i(x y:Operand)(w:World)(a1 a2:ByteArray)(b1 b2 c1 c2 d1 d2 e1 e2:Int):(eqGuard .eql 51 x y (.agg #[.string a1,.int .i64 b1,.int .i64 c1,.int .u32 d1,.int .i64 e1]) (.agg #[.string a2,.int .i64 b2,.int .i64 c2,.int .u32 d2,.int .i64 e2])).run Tryz.prog w=.ok () w:=
 run_eqGuard_agg _ _ _ _ _ _ _ (by kernel_rfl)
theorem b5H {P:Program} {fn:Func} {p:Tmp} {ty:TypeId} (h:fn.results=#[.cell p ty]) (tmps:Array Value) (w:World) (g:Nat) (t:TypeId) (cs:Array Value) (fr:Nat×Nat) (d:TypeDesc)
  (hp:tmps.getD p undef=.pointer (some ⟨g,0,none⟩)) (hg:w.heap[g]? =some (.cells cs t fr))
  (hu:P.underlying ty=some d) (hd:(match d with|.struct _|.array _ _=>true|_=>false)=true) (hi:(P.info? ty).map (·.size)=some cs.size) :
  (results fn tmps).run P w=.ok (.agg cs) w:=by
 have hp':tmps[p]?.getD undef=.pointer (some ⟨g,0,none⟩):=by simpa using hp
 simp[results,h,hp',asAddr,run_loadVar_row w g t ty cs fr d hg hu hd hi]
theorem b5J:(Tryz.prog.info? 77).map (·.size)=some 6:=by kernel_rfl
theorem c1f{P:Program}{X:Prop}{w:World}(h:wpAny P .any #[] (fun _ _ _=>X) 0 #[] { tmps:=#[],defers:=[] } w):X:=h.2
end Go.Proofs.YtghjlpechjggjaaGreatDoor
namespace Go.Proofs.YtghjlpechjggjaaGreatDoor
open Go.RowKit Go.Maps
structure RDR (w:World) (G:Nat) (A:Option Addr) (n c first en at_ B:Nat):Prop where
 c0:w.cell? ⟨G,0,none⟩=some (.slice A n c)
 c1:w.cell? ⟨G,1,none⟩=some (.int .i64 first)
 c2:w.cell? ⟨G,2,none⟩=some (.int .i64 en)
 c5:w.cell? ⟨G,5,none⟩=some (.int .i64 at_)
 c6:w.cell? ⟨G,6,none⟩=some (.map (some B))
 f5:w.frozen? ⟨G,5,none⟩=false
theorem RDR.only{w w':World}{G:Nat}{A:Option Addr}{n c first en at_ B:Nat}(h:RDR w G A n c first en at_ B)(k:OnlyC G 4 w w'):RDR w' G A n c first en at_ B:=
 ⟨(k.cell 0 (by omega)).trans h.c0,(k.cell 1 (by omega)).trans h.c1,(k.cell 2 (by omega)).trans h.c2,(k.cell 5 (by omega)).trans h.c5,(k.cell 6 (by omega)).trans h.c6,(k.frozen 5).trans h.f5⟩
theorem RDR.lt{w:World}{G:Nat}{A:Option Addr}{n c first en at_ B:Nat}(h:RDR w G A n c first en at_ B):G<w.heap.size:=c3L _ _ h.c0
theorem RDR.keeps{S:List Nat}{w w':World}{G:Nat}{A:Option Addr}{n c first en at_ B:Nat}(h:RDR w G A n c first en at_ B)(k:Keeps S w w')(hG:G∉S):RDR w' G A n c first en at_ B:=by
 have hb:=k.block G h.lt hG
 exact⟨(c3K (a:=⟨G,0,none⟩) hb).trans h.c0,(c3K (a:=⟨G,1,none⟩) hb).trans h.c1,(c3K (a:=⟨G,2,none⟩) hb).trans h.c2,(c3K (a:=⟨G,5,none⟩) hb).trans h.c5,(c3K (a:=⟨G,6,none⟩) hb).trans h.c6,(World.frozen?_of_block (a:=⟨G,5,none⟩) hb).trans h.f5⟩
theorem RDR.moved{w:World}{G:Nat}{A:Option Addr}{n c first en at_ B at':Nat}(h:RDR w G A n c first en at_ B)(v:Int)(hv:v=at'):RDR (w.setCell ⟨G,5,none⟩ (.int .i64 v)) G A n c first en at' B:=
 ⟨(c3r _ _ _ _ (by simp)).trans h.c0,(c3r _ _ _ _ (by simp)).trans h.c1,(c3r _ _ _ _ (by simp)).trans h.c2,by rw[c3D _ _ _ h.c5,hv],(c3r _ _ _ _ (by simp)).trans h.c6,(c3X _ _ _ _).trans h.f5⟩
theorem FD.past5{w:World}{G:Nat}{A:Option Addr}{n c q:Nat}(h:FD w G 3 A n c q)(v:Value):FD (w.setCell ⟨G,5,none⟩ v) G 3 A n c q:=
 ⟨(c3r _ _ _ _ (by simp)).trans h.c0,(c3r _ _ _ _ (by simp)).trans h.c1,(c3X _ _ _ _).trans h.f1,h.ne⟩
def b1T:List Value:=[.string ⟨#[]⟩,.int .i64 0,.int .i64 0,.int .u32 0,.int .i64 0,.slice none 0 0]
structure NX (w wi:World) (G:Nat) (A:Option Addr) (n c first en at_ B:Nat) (known:List ByteArray) (T q:Nat):Prop where
 rd:RDR wi G A n c first en at_ B
 fd:FD wi G 3 A n c q
 st:SetM wi B known
 tb:Blk wi T 77 b1T
 k:Keeps [G,B] w wi
theorem NX.next{w wi w':World}{G:Nat}{A:Option Addr}{n c first en at_ B:Nat}{known:List ByteArray}{T q q':Nat}(h:NX w wi G A n c first en at_ B known T q)(f:FD w' G 3 A n c q')(o:OnlyC G 4 wi w')(hB:G≠B)(hT:G<T):NX w w' G A n c first en at_ B known T q':=
 ⟨h.rd.only o,f,h.st.keeps o.keeps (by simpa using hB.symm),h.tb.keeps o.keeps (by simp;omega),h.k.trans (o.keeps.mono (by simp))⟩
theorem NX.keeps{w wi w':World}{G:Nat}{A:Option Addr}{n c first en at_ B:Nat}{known:List ByteArray}{T q:Nat}(h:NX w wi G A n c first en at_ B known T q)(hk:Keeps [] wi w'):NX w w' G A n c first en at_ B known T q:=
 ⟨h.rd.keeps hk (by simp),h.fd.keeps hk (by simp),h.st.keeps hk (by simp),h.tb.keeps hk (by simp),h.k.trans (hk.mono (by simp))⟩
theorem NX.keepsO{w wi w':World}{G:Nat}{A:Option Addr}{n c first en at_ B:Nat}{known:List ByteArray}{T q:Nat}{S:List Nat}(h:NX w wi G A n c first en at_ B known T q)(hk:Keeps S wi w')(hS:∀ x∈S,T<x)(hG:G<T)(hB:B<T)(hw:w.heap.size<=T):NX w w' G A n c first en at_ B known T q:=
 ⟨h.rd.keeps hk (fun hm=>by have:=hS _ hm;omega),h.fd.keeps hk (fun hm=>by have:=hS _ hm;omega),h.st.keeps hk (fun hm=>by have:=hS _ hm;omega),h.tb.keeps hk (fun hm=>by have:=hS _ hm;omega),h.k.then hk (fun x hx=>.inr (by have:=hS x hx;omega))⟩
theorem NX.zb{w wi:World}{G:Nat}{A:Option Addr}{n c first en at_ B:Nat}{known:List ByteArray}{T q:Nat}{xs:List Int}(h:NX w wi G A n c first en at_ B known T q)(hz:ZB w A n c xs)(ho:Off [G,B] A):ZB wi A n c xs:=hz.keeps h.k ho
def NextP(w:World)(G:Nat)(A:Option Addr)(n c:Nat)(xs:List Int)(first en rp at_ B:Nat)(known:List ByteArray)(r:Ending)(w':World):Prop:=
 Keeps [G,B] w w'/\((zwrong xs first en rp at_ known≠0/\r=.panicked (a8k (zwrong xs first en rp at_ known))) ∨
  (zwrong xs first en rp at_ known=0/\r=.returned (.agg #[.string (a2N xs rp),.int .i64 (zrecI xs rp).size,.int .i64 (zrecI xs rp).packed,.int .u32 (zrecI xs rp).sum,.int .i64 (zrecI xs rp).way,.slice (cutA A (at_+30+a0V xs rp) c) (zrecI xs rp).packed.toNat (c-(at_+30+a0V xs rp))]) /\
   RDR w' G A n c first en (at_+30+a0V xs rp+(zrecI xs rp).packed.toNat) B/\FD w' G 3 A n c (rp+46+a0V xs rp)/\SetM w' B (known++[a2N xs rp])))
theorem b3K (w:World) (G:Nat) (A:Option Addr) (n c:Nat) (xs:List Int) (first en rp at_ B:Nat) (known:List ByteArray) (hr:RDR w G A n c first en at_ B) (hf:FD w G 3 A n c rp) (hz:ZB w A n c xs) (hm:SetM w B known) (hGB:G≠B) (hAB:∀ a,A=some a->a.block≠B)
  (h1:first<=en) (h2:en<=n) (h3:rp<=en) (h4:at_<=first) (hkn:known.length<=100000) :
  Calls Tryz.prog 76 #[.pointer (some ⟨G,0,none⟩)] w (NextP w G A n c xs first en rp at_ B known):=by
 have HR:=c3o hr
 have HF:=c3o hf
 have HZ:=c3o hz
 have HM:=c3o hm
 have HAB:=c3o hAB
 have hn9:=hz.len
 have HX:=c3o hz.ri.len
 have HGw:=c3o hr.lt
 have HBw:=c3o hm.lt
 have HOF:=c3o hf.off
 have r2:=hr.c2
 have r4:=hf.c1
 clear hr hf hz hm hAB
 have s1:IntKind.i64.wrap ((en:Int)-(rp:Int))=(en:Int)-(rp:Int):=c3u _ (by omega)
 obtain⟨E,hE⟩:∃ z,z=zwrong xs first en rp at_ known:=⟨_,rfl⟩
 have HE:=c3o hE
 have BAD:Hid (∀ (e:Int),E=e->e≠0->∀ (w':World),Keeps [G,B] w w'->NextP w G A n c xs first en rp at_ B known (.panicked (a8k e)) w'):=c3o (fun e he h0 w' hk=>by
  rw[HE.out] at he
  subst he
  exact⟨hk,.inl ⟨h0,rfl⟩⟩)
 clear hE
 go_enter Tryz.func76,Tryz.ntmps76
 go_upto_region 2 with (fail)
 obtain⟨T,hT⟩:∃ z,z=w.heap.size:=⟨_,rfl⟩
 obtain⟨w0,hw0⟩:∃ z,z=w.alloc (.cells #[.string ⟨#[]⟩,.int .i64 0,.int .i64 0,.int .u32 0,.int .i64 0,.slice none 0 0] 77):=⟨_,rfl⟩
 rw[<-hw0,<-hT]
 have ka:Keeps [] w w0:=by rw[hw0];exact (Keeps.refl _ w).alloc _
 have T0:Hid (Blk w0 T 77 [.string ⟨#[]⟩,.int .i64 0,.int .i64 0,.int .u32 0,.int .i64 0,.slice none 0 0]):=c3o (by rw[hw0,hT];exact a0d w _ _)
 have hGT:G<T:=by have:=HGw.out;omega
 have hBT:B<T:=by have:=HBw.out;omega
 have hTw:T<w0.heap.size:=T0.out.lt
 have N0:Hid (NX w w0 G A n c first en at_ B known T rp):=c3o ⟨HR.out.keeps ka (by simp),HF.out.keeps ka (by simp),HM.out.keeps ka (by simp),T0.out,ka.mono (by simp)⟩
 have HO:Hid (Off [G,B] A):=c3o (fun a ha hm=>by
  rcases List.mem_cons.1 hm with h|h
  ·exact HOF.out a ha (by rw[h];exact c3y)
  ·rw[c3S] at h;exact HAB.out a ha h)
 have HTT:=c3o hT
 have r2:=N0.out.rd.c2
 have r4:=N0.out.fd.c1
 have K0:=c3o N0.out.k
 clear ka hw0 hT T0 HOF HAB
 by_cases q1:rp+46<=en
 case neg=>
  have HE1:Hid (E=81):=c3o (by rw[HE.out];unfold zwrong;rw[if_pos (fun h=>q1 h.1)])
  have t1:decide ((46:Int)<=(en:Int)-(rp:Int))=false:=by simp;omega
  clear q1
  go_region_with (first|(go_at_call 73;refine (a0s _ 81).mono ?_;rintro _ w1 ⟨rfl,rfl⟩;refine c1f (P:=Tryz.prog) (w:=w) ?_))
  all_goals exact⟨rfl,BAD.out 81 HE1.out (by decide) _ (K0.out.trans (by repeat (first|exact Keeps.refl _ _|apply Keeps.drew|apply Keeps.drewN)))⟩
 have t1:decide ((46:Int)<=(en:Int)-(rp:Int))=true:=by simp;omega
 have hTw':w.heap.size<=T:=by have:=HTT.out;omega
 go_quiet (first|(go_at_call 73;exact Calls.quiet_of_same (a1J _ _)))
 obtain⟨w1,hw1⟩:∃ z,z=w0.drewN nq:=⟨_,rfl⟩
 have N1:Hid (NX w w1 G A n c first en at_ B known T rp):=c3o (by rw[hw1];exact N0.out.keeps ((Keeps.refl [] _).drewN _))
 rw[<-hw1]
 clear hw1 r2 r4 t1 K0 N0
 have r4:=N1.out.fd.c1
 go_wp2_with fail
 refine (a1f w1 G 3 A n c xs rp N1.out.fd (N1.out.zb HZ.out HO.out) (by omega)).mono ?_
 rintro _ w2 ⟨rfl,hf2,ho2⟩
 obtain⟨mk,hmk⟩:∃ z,z=zget xs rp 4:=⟨_,rfl⟩
 rw[<-hmk]
 have HMK:=c3o hmk
 obtain⟨P,hP⟩:∃ z,z=rp+4:=⟨_,rfl⟩
 rw[<-hP] at hf2
 have N2:=c3o (N1.out.next hf2 ho2 hGB hGT)
 have r4:=hf2.c1
 have f4:=hf2.f1
 have sP:IntKind.i64.wrap ((P:Int)+2)=(P:Int)+2:=c3u _ (by omega)
 have HP:=c3o hP
 clear hmk hf2 ho2 N1 hP
 go_upto_region 6 with (fail)
 obtain⟨w3,hw3⟩:∃ z,z=w2.setCell ⟨G,3+1,none⟩ (.int .i64 ((P:Int)+2)):=⟨_,rfl⟩
 have ho3:OnlyC G 4 w2 w3:=by rw[hw3];exact (OnlyC.refl w2).set _
 have hf3:FD w3 G 3 A n c (rp+6):=by rw[hw3];exact N2.out.fd.moved (Keeps.refl [] w2) _ (by have:=HP.out;omega)
 have N3:=c3o (N2.out.next hf3 ho3 hGB hGT)
 rw[<-hw3]
 clear hw3 ho3 hf3 r4 f4 sP N2 HP
 go_wp2_with fail
 refine (a4J w3 G 3 A n c xs (rp+6) N3.out.fd (N3.out.zb HZ.out HO.out) (by omega)).mono ?_
 rintro _ w4 ⟨pb,q,rfl,hpb,hq,hqp,hf4,ho4⟩
 have N4:=c3o (N3.out.next hf4 ho4 hGB hGT)
 have hq':Hid (pb=true->q=rp+6+26):=c3o hq
 have HPB:=c3o hpb
 have hw4:w3.heap.size<=w4.heap.size:=ho4.keeps.size
 have hT3:T<w3.heap.size:=N3.out.tb.lt
 obtain⟨vs,hvs⟩:∃ z,z=zget xs (rp+6+18) 4:=⟨_,rfl⟩
 obtain⟨vp,hvp⟩:∃ z:Nat,(z:Int)=zget xs (rp+6+14) 4:=⟨(zget xs (rp+6+14) 4).toNat,Int.toNat_of_nonneg (a1C HZ.out.byte (p:=rp+6+14) (by rw[HX.out];omega)).1⟩
 obtain⟨vc,hvc⟩:∃ z,z=zget xs (rp+6+10) 4:=⟨_,rfl⟩
 obtain⟨vw,hvw⟩:∃ z,z=zget xs (rp+6+4) 2:=⟨_,rfl⟩
 obtain⟨nl,hnl⟩:∃ z:Nat,z=a0V xs rp:=⟨_,rfl⟩
 have hnlI:zget xs (rp+6+22) 2=(nl:Int):=by
  have:=(a2u HZ.out.byte (p:=rp+28) (by rw[HX.out];omega)).1
  rw[hnl];unfold a0V
  show zget xs (rp+28) 2=_
  omega
 rw[<-hvs,<-hvp,<-hvc,<-hvw,hnlI]
 have HVS:=c3o hvs
 have HVP:=c3o hvp
 have HVC:=c3o hvc
 have HVW:=c3o hvw
 have HNL:=c3o hnl
 clear hf4 ho4 N3 hpb hq hvs hvp hvc hvw hnl hnlI
 go_upto_region 7 with (fail)
 obtain⟨X,hX⟩:∃ z,z=w4.heap.size:=⟨_,rfl⟩
 obtain⟨w5,hw5⟩:∃ z,z=w4.alloc (.cells #[.string ⟨#[]⟩,.int .i64 vs,.int .i64 (vp:Int),.int .u32 vc,.int .i64 vw] 51):=⟨_,rfl⟩
 have k5:Keeps [] w4 w5:=by rw[hw5];exact (Keeps.refl [] _).alloc _
 have X5:Hid (Blk w5 X 51 [.string ⟨#[]⟩,.int .i64 vs,.int .i64 (vp:Int),.int .u32 vc,.int .i64 vw]):=c3o (by rw[hw5,hX];exact a0d _ _ _)
 have N5:=c3o (N4.out.keeps k5)
 rw[<-hw5,<-hX]
 have hTX:T<X:=by omega
 have hXG:X≠G:=by omega
 clear hw5 k5 N4 hX
 go_wp2_with fail
 refine (a0Z w5 G 3 A n c xs q N5.out.fd (N5.out.zb HZ.out HO.out) (by omega)).mono ?_
 rintro _ w6 ⟨rfl,hf6,ho6⟩
 have N6:=c3o (N5.out.next hf6 ho6 hGB hGT)
 have X6:=c3o (X5.out.keeps ho6.keeps (by simp;omega))
 obtain⟨v9,hv9⟩:∃ z,z=zget xs q 2:=⟨_,rfl⟩
 rw[<-hv9]
 have HV9:=c3o hv9
 clear hf6 ho6 hv9 N5 X5
 go_wp2_with fail
 refine (a0Z w6 G 3 A n c xs (q+2) N6.out.fd (N6.out.zb HZ.out HO.out) (by omega)).mono ?_
 rintro _ w7 ⟨rfl,hf7,ho7⟩
 obtain⟨v10,hv10⟩:∃ z,z=zget xs (q+2) 2:=⟨_,rfl⟩
 rw[<-hv10]
 have HV10:=c3o hv10
 obtain⟨P2,hP2⟩:∃ z,z=q+2+2:=⟨_,rfl⟩
 rw[<-hP2] at hf7
 have N7:=c3o (N6.out.next hf7 ho7 hGB hGT)
 have X7:=c3o (X6.out.keeps ho7.keeps (by simp;omega))
 have r4:=hf7.c1
 have f4:=hf7.f1
 have sP:IntKind.i64.wrap ((P2:Int)+6)=(P2:Int)+6:=c3u _ (by omega)
 have HP2:=c3o hP2
 clear hf7 ho7 hv10 N6 X6 hP2
 go_upto_region 9 with (fail)
 obtain⟨w8,hw8⟩:∃ z,z=w7.setCell ⟨G,3+1,none⟩ (.int .i64 ((P2:Int)+6)):=⟨_,rfl⟩
 have ho8:OnlyC G 4 w7 w8:=by rw[hw8];exact (OnlyC.refl w7).set _
 have hf8:FD w8 G 3 A n c (q+10):=by rw[hw8];exact N7.out.fd.moved (Keeps.refl [] w7) _ (by have:=HP2.out;omega)
 have N8:=c3o (N7.out.next hf8 ho8 hGB hGT)
 have X8:=c3o (X7.out.keeps ho8.keeps (by simp;omega))
 rw[<-hw8]
 clear hw8 ho8 hf8 r4 f4 sP N7 X7 HP2
 go_wp2_with fail
 refine (a1f w8 G 3 A n c xs (q+10) N8.out.fd (N8.out.zb HZ.out HO.out) (by omega)).mono ?_
 rintro _ w9 ⟨rfl,hf9,ho9⟩
 have N9:=c3o (N8.out.next hf9 ho9 hGB hGT)
 have X9:=c3o (X8.out.keeps ho9.keeps (by simp;omega))
 obtain⟨v11,hv11⟩:∃ z,z=zget xs (q+10) 4:=⟨_,rfl⟩
 rw[<-hv11]
 have HV11:=c3o hv11
 clear hf9 ho9 hv11 N8 X8
 have r2:=N9.out.rd.c2
 have HCJ:Hid (a8Y xs en rp↔mk=33639248/\pb=true/\v9=0/\v10=0/\46+(nl:Int)<=(en:Int)-(rp:Int)):=c3o (by
  have h1:=HMK.out;have h2:=HPB.out;have h3:=hq'.out;have h4:=HV9.out;have h5:=HV10.out;have h6:=HNL.out
  unfold a8Y
  rw[<-h6,h1,h4,h5]
  constructor
  ·rintro ⟨_,a,b,c,d,e,f⟩
   have hp:pb=true:=h2.2 ⟨b,c⟩
   have hqe:=h3 hp
   subst hqe
   exact⟨a,hp,d,e,by omega⟩
  ·rintro ⟨a,b,c,d,e⟩
   have hqe:=h3 b
   subst hqe
   obtain⟨f,g⟩:=h2.1 b
   exact⟨q1,a,f,g,c,d,by omega⟩)
 have HBD:Hid (¬a8Y xs en rp->E=81):=c3o (fun h=>by rw[HE.out];unfold zwrong;rw[if_pos h])
 have hwr:IntKind.i64.wrap (46+(nl:Int))=46+(nl:Int):=c3u _ (by
  have:=(a2u HZ.out.byte (p:=rp+28) (by rw[HX.out];omega)).2
  have h6:=HNL.out
  unfold a0V at h6
  omega)
 by_cases c1:mk=33639248
 case neg=>
  have b1:(mk==33639248)=false:=by simpa using c1
  have HC:=c3o c1
  clear c1
  go_wp2_with fail
  refine (a0s _ 81).mono ?_
  rintro _ _ ⟨rfl,rfl⟩
  exact⟨rfl,BAD.out 81 (HBD.out (fun h=>HC.out (HCJ.out.1 h).1)) (by decide) _ N9.out.k⟩
 have b1:(mk==33639248)=true:=by simpa using c1
 by_cases c2:pb=true
 case neg=>
  have b2:pb=false:=by simpa using c2
  have HC:=c3o c2
  subst b2
  clear c1 c2
  go_wp2_with fail
  refine (a0s _ 81).mono ?_
  rintro _ _ ⟨rfl,rfl⟩
  exact⟨rfl,BAD.out 81 (HBD.out (fun h=>HC.out (HCJ.out.1 h).2.1)) (by decide) _ N9.out.k⟩
 subst c2
 by_cases c3:v9=0
 case neg=>
  have b3:(v9==0)=false:=by simpa using c3
  have HC:=c3o c3
  clear c1 c3
  go_wp2_with fail
  refine (a0s _ 81).mono ?_
  rintro _ _ ⟨rfl,rfl⟩
  exact⟨rfl,BAD.out 81 (HBD.out (fun h=>HC.out (HCJ.out.1 h).2.2.1)) (by decide) _ N9.out.k⟩
 have b3:(v9==0)=true:=by simpa using c3
 by_cases c4:v10=0
 case neg=>
  have b4:(v10==0)=false:=by simpa using c4
  have HC:=c3o c4
  clear c1 c3 c4
  go_wp2_with fail
  refine (a0s _ 81).mono ?_
  rintro _ _ ⟨rfl,rfl⟩
  exact⟨rfl,BAD.out 81 (HBD.out (fun h=>HC.out (HCJ.out.1 h).2.2.2.1)) (by decide) _ N9.out.k⟩
 have b4:(v10==0)=true:=by simpa using c4
 by_cases c5:46+(nl:Int)<=(en:Int)-(rp:Int)
 case neg=>
  have b5:decide (46+(nl:Int)<=(en:Int)-(rp:Int))=false:=by simpa using c5
  have HC:=c3o c5
  clear c1 c3 c4 c5
  go_wp2_with fail
  refine (a0s _ 81).mono ?_
  rintro _ _ ⟨rfl,rfl⟩
  exact⟨rfl,BAD.out 81 (HBD.out (fun h=>absurd (HCJ.out.1 h).2.2.2.2 (by have:=HC.out;omega))) (by decide) _ N9.out.k⟩
 have b5:decide (46+(nl:Int)<=(en:Int)-(rp:Int))=true:=by simpa using c5
 have HRF:Hid (a8Y xs en rp):=c3o (HCJ.out.2 ⟨c1,rfl,c3,c4,c5⟩)
 have hqe:q=rp+32:=hq'.out rfl
 subst hqe
 clear c1 c3 c4 HBD HCJ HPB hq'
 go_wp2_with fail
 refine (a1J _ 81).mono ?_
 rintro _ wz ⟨rfl,hwz⟩
 obtain rfl:w9=wz:=hwz.symm
 clear b1 b3 b4 b5 hwr r2
 go_wp2_with fail
 have hnl5:rp+46+nl<=en:=by omega
 refine (a6T w9 G 3 A n c xs (rp+32+10+4) nl N9.out.fd (N9.out.zb HZ.out HO.out) (by omega)).mono ?_
 rintro _ w10 ⟨rfl,hf10,ho10⟩
 have N10:=c3o (N9.out.next hf10 ho10 hGB hGT)
 have X10:=c3o (X9.out.keeps ho10.keeps (by simp;omega))
 obtain⟨name,hname⟩:∃ z,z=a2N xs rp:=⟨_,rfl⟩
 have e1:strOfNums (seg xs (rp+32+10+4) nl)=name:=by rw[hname,HNL.out];rfl
 rw[e1]
 have HNM:=c3o hname
 have hnsz:name.size=nl:=by rw[<-e1,a8I,a3g (by rw[HX.out];omega)]
 have x0:=X10.out.cell 0
 have xf:=X10.out.frozen 0
 simp only[c3p] at x0
 clear hf10 ho10 hname e1 N9 X9 c5
 go_upto_region 12 with (fail)
 obtain⟨w11,hw11⟩:∃ z,z=w10.setCell ⟨X,0,none⟩ (.string name):=⟨_,rfl⟩
 have k11:Keeps [X] w10 w11:=by rw[hw11];exact (Keeps.refl [X] _).setCell (p:=⟨X,0,none⟩) (.inl (by simp)) _
 have X11:Hid (Blk w11 X 51 [.string name,.int .i64 vs,.int .i64 (vp:Int),.int .u32 vc,.int .i64 vw]):=c3o (by rw[hw11];exact X10.out.set 0 _)
 have N11:=c3o (N10.out.keepsO k11 (fun x hx=>by simp at hx;omega) hGT hBT hTw')
 rw[<-hw11]
 have x0:=X11.out.cell 0
 simp only[c3p] at x0
 have r6:=N11.out.rd.c6
 have HSZ:=c3o hnsz
 have hn16:nl<=65535:=by
  have:=(a2u HZ.out.byte (p:=rp+28) (by rw[HX.out];omega)).2
  have h6:=HNL.out
  unfold a0V at h6
  omega
 have hs1:name.size<=1000000000:=by omega
 have hkey:=c0H hs1
 have HLK:∀ w',Keeps [] w11 w'->(Instr.lookup 61 (.map (some B)) (.string name) true).run Tryz.prog w'=.ok (.tuple #[.agg #[],.bool (inL known name)]) w':=fun w' hk=>by
  have hm:=N11.out.st.keeps hk (by simp)
  obtain⟨v,ps,hrun,hv⟩:=World.ownsMap.look_ok hm a5B Tryz.underlying61 (b0e w') unitElem_mk hkey
  obtain⟨rfl,-⟩:=unitElem_inv hv
  rw[b7V] at hrun
  exact hrun
 clear hw11 k11 xf N10 X10 hnsz
 go_cut [12,13] (fun v12 v13 wc=>v13=.bool (inL known name)/\Hid (Keeps [] w11 wc))
 case first=>
  have l1:=HLK w11 (Keeps.refl _ _)
  have l2:=HLK w11.drew (Keeps.refl _ _).drew
  have l3:∀ o,_:=fun o=>HLK (w11.drew.alloc o) ((Keeps.refl _ _).drew.alloc o)
  have l4:∀ o a v,_:=fun o (a:Addr) v=>HLK ((w11.drew.alloc o).setCell ⟨w11.heap.size,0,none⟩ v) (((Keeps.refl _ _).drew.alloc o).setCell (.inr (by simp)) v)
  have l5:∀ o,_:=fun o=>HLK ((w11.alloc o).drew) (((Keeps.refl _ _).alloc o).drew)
  have a1:∀ o,(w11.alloc o).cell? ⟨X,0,none⟩=some (.string name):=fun o=>((Keeps.refl [] w11).alloc o).cell (p:=⟨X,0,none⟩) (by simp) x0
  have a2:∀ o,(w11.alloc o).cell? ⟨G,6,none⟩=some (.map (some B)):=fun o=>((Keeps.refl [] w11).alloc o).cell (p:=⟨G,6,none⟩) (by simp) r6
  clear HLK
  go_region
  go_wp2_with fail
  go_meet
  exact⟨rfl,c3o (by repeat (first|exact Keeps.refl _ _|apply Keeps.drew|apply Keeps.drewN|apply Keeps.alloc|(refine Keeps.setCell ?_ (.inr (by simp)) _)))⟩
 case rest=>
  obtain⟨rfl,HK12⟩:=hcut
  obtain⟨w12,hw12⟩:∃ z:World,z=wc:=⟨_,rfl⟩
  rw[<-hw12] at HK12 ⊢
  have N12:=c3o (N11.out.keeps HK12.out)
  have X12:=c3o (X11.out.keeps HK12.out (by simp))
  have HE2:Hid (E=if inL known name=true∨nameB name=false then 80 else if ¬(vw=0∨vw=8) then 82 else if 8192<vs∨16384<(vp:Int) then 87 else if ¬((vw=8∨vs=(vp:Int))/\v11=at_/\((at_+30+nl:Nat):Int)+(vp:Int)<=first) then 81 else if ¬a1E xs at_ (zrecI xs rp) then 81 else 0):=c3o (by
   rw[HE.out,HNM.out,HVS.out,HVP.out,HVW.out,HV11.out,HNL.out]
   unfold zwrong
   rw[if_neg (fun h=>h HRF.out)]
   simp only[<-a6Y]
   rfl)
  clear hw12 N11 X11 HLK x0 r6 HK12 HRF HV11
  have r5:=N12.out.rd.c5
  have sA:IntKind.i64.wrap ((at_:Int)+30)=(at_:Int)+30:=c3u _ (by omega)
  have sB:IntKind.i64.wrap ((at_:Int)+30+(nl:Int))=(at_:Int)+30+(nl:Int):=c3u _ (by omega)
  have x0:=X12.out.cell 0
  simp only[c3p] at x0
  by_cases d1:inL known name=true
  case pos=>
   have HE3:Hid (E=80):=c3o (by rw[HE2.out,if_pos (.inl d1)])
   rw[d1]
   clear d1
   go_wp2_with fail
   refine (a0s _ 80).mono ?_
   rintro _ _ ⟨rfl,rfl⟩
   exact⟨rfl,BAD.out 80 HE3.out (by decide) _ N12.out.k⟩
  have d1':inL known name=false:=by simpa using d1
  rw[d1']
  clear d1
  go_wp2_with fail
  refine (a3W w12 name hs1).mono ?_
  rintro _ w13 ⟨rfl,hb13⟩
  have hk13:=Keeps.of_below hb13 (S:=[])
  have N13:=c3o (N12.out.keeps hk13)
  have X13:=c3o (X12.out.keeps hk13 (by simp))
  clear hb13 hk13 N12 X12 r5 sA sB x0
  cases hnb:nameB name with
  | false=>
   have HE3:Hid (E=80):=c3o (by rw[HE2.out,if_pos (.inr hnb)])
   clear hnb
   go_wp2_with fail
   refine (a0s _ 80).mono ?_
   rintro _ _ ⟨rfl,rfl⟩
   exact⟨rfl,BAD.out 80 HE3.out (by decide) _ N13.out.k⟩
  | true=>
  have HE4:Hid (E=if ¬(vw=0∨vw=8) then 82 else if 8192<vs∨16384<(vp:Int) then 87 else if ¬((vw=8∨vs=(vp:Int))/\v11=at_/\((at_+30+nl:Nat):Int)+(vp:Int)<=first) then 81 else if ¬a1E xs at_ (zrecI xs rp) then 81 else 0):=c3o (by rw[HE2.out,if_neg (by rw[d1',hnb];simp)])
  have HNB:=c3o hnb
  have HNK:=c3o d1'
  clear hnb HE2 d1'
  go_wp2_with fail
  refine (a1J _ 80).mono ?_
  rintro _ wz ⟨rfl,hwz⟩
  obtain rfl:w13=wz:=hwz.symm
  clear hwz
  have x1:=X13.out.cell 1
  have x2:=X13.out.cell 2
  have x4:=X13.out.cell 4
  simp only[c3p,c3E] at x1 x2 x4
  go_upto_region 15 with (fail)
  go_cut [125] (fun u wc=>(vw=0∨vw=8)/\wc=w13)
  case first=>
   by_cases c0:vw=0
   ·have b1:(vw==0)=true:=by simpa using c0
    have HC:=c3o c0
    clear c0
    go_wp2_with fail
    refine (a1J _ 82).mono ?_
    rintro _ wz ⟨rfl,hwz⟩
    obtain rfl:w13=wz:=hwz.symm
    clear hwz
    go_wp2_with fail
    go_meet
    exact⟨.inl HC.out,rfl⟩
   ·have b1:(vw==0)=false:=by simpa using c0
    by_cases c8:vw=8
    ·have b2:(vw==8)=true:=by simpa using c8
     have HC:=c3o c8
     clear c0 c8
     go_wp2_with fail
     refine (a1J _ 82).mono ?_
     rintro _ wz ⟨rfl,hwz⟩
     obtain rfl:w13=wz:=hwz.symm
     clear hwz
     go_wp2_with fail
     go_meet
     exact⟨.inr HC.out,rfl⟩
    ·have b2:(vw==8)=false:=by simpa using c8
     have HE3:Hid (E=82):=c3o (by rw[HE4.out,if_pos (fun h=>by rcases h with h|h;exact c0 h;exact c8 h)])
     clear c0 c8
     go_wp2_with fail
     refine (a0s _ 82).mono ?_
     rintro _ _ ⟨rfl,rfl⟩
     exact⟨rfl,BAD.out 82 HE3.out (by decide) _ N13.out.k⟩
  case rest=>
   obtain⟨hway,hwc⟩:=hcut
   obtain rfl:w13=wc:=hwc.symm
   have HWAY:=c3o hway
   have HE5:Hid (E=if 8192<vs∨16384<(vp:Int) then 87 else if ¬((vw=8∨vs=(vp:Int))/\v11=at_/\((at_+30+nl:Nat):Int)+(vp:Int)<=first) then 81 else if ¬a1E xs at_ (zrecI xs rp) then 81 else 0):=c3o (by rw[HE4.out,if_neg (fun h=>h hway)])
   clear hway HE4 hwc
   all_goals
    by_cases y1:vs<=8192
    case neg=>
     have b1:decide (vs<=8192)=false:=by simpa using y1
     have HE7:Hid (E=87):=c3o (by rw[HE5.out,if_pos (.inl (by omega))])
     clear y1
     go_wp2_with fail
     refine (a0s _ 87).mono ?_
     rintro _ _ ⟨rfl,rfl⟩
     exact⟨rfl,BAD.out 87 HE7.out (by decide) _ N13.out.k⟩
    have b1:decide (vs<=8192)=true:=by simpa using y1
    by_cases y2:(vp:Int)<=16384
    case neg=>
     have b2:decide ((vp:Int)<=16384)=false:=by simp;omega
     have HE7:Hid (E=87):=c3o (by rw[HE5.out,if_pos (.inr (by omega))])
     clear y1 y2
     go_wp2_with fail
     refine (a0s _ 87).mono ?_
     rintro _ _ ⟨rfl,rfl⟩
     exact⟨rfl,BAD.out 87 HE7.out (by decide) _ N13.out.k⟩
    have b2:decide ((vp:Int)<=16384)=true:=by simp;omega
    have HE6:Hid (E=if ¬((vw=8∨vs=(vp:Int))/\v11=at_/\(at_:Int)+30+(nl:Int)+(vp:Int)<=(first:Int)) then 81 else if ¬a1E xs at_ (zrecI xs rp) then 81 else 0):=c3o (by
     rw[HE5.out,if_neg (by omega)]
     have:((at_+30+nl:Nat):Int)=(at_:Int)+30+(nl:Int):=by omega
     rw[this])
    have HB81:Hid (¬((vw=8∨vs=(vp:Int))/\v11=at_/\(at_:Int)+30+(nl:Int)+(vp:Int)<=(first:Int))->E=81):=c3o (fun h=>by rw[HE6.out,if_pos h])
    have hvpl:vp<=16384:=by omega
    have HVS8:=c3o y1
    clear y1 y2 HE5
    go_wp2_with fail
    refine (a1J _ 87).mono ?_
    rintro _ wz ⟨rfl,hwz⟩
    obtain rfl:w13=wz:=hwz.symm
    clear hwz b1 b2
    have r5:=N13.out.rd.c5
    have r1:=N13.out.rd.c1
    have sC:IntKind.i64.wrap ((at_:Int)+30+(nl:Int)+(vp:Int))=(at_:Int)+30+(nl:Int)+(vp:Int):=c3u _ (by omega)
    go_upto_region 17 with (fail)
    go_cut [164] (fun u wc=>((vw=8∨vs=(vp:Int))/\v11=at_/\(at_:Int)+30+(nl:Int)+(vp:Int)<=(first:Int))/\Hid (Keeps [] w13 wc))
    case first=>
     as_aux_lemma=>
      by_cases y8:vw=8
      ·have b8:(vw==8)=true:=by simpa using y8
       have HV8:Hid (vw=8∨vs=(vp:Int)):=c3o (.inl y8)
       clear y8
       by_cases f1:v11=(at_:Int)
       ·have g1:(v11==(at_:Int))=true:=by simpa using f1
        by_cases f2:(at_:Int)+30+(nl:Int)+(vp:Int)<=(first:Int)
        ·have g2:decide ((at_:Int)+30+(nl:Int)+(vp:Int)<=(first:Int))=true:=by simpa using f2
         have HOK:Hid ((vw=8∨vs=(vp:Int))/\v11=at_/\(at_:Int)+30+(nl:Int)+(vp:Int)<=(first:Int)):=c3o ⟨HV8.out,f1,f2⟩
         clear f1 f2
         go_quiet (first|(go_at_call 73;exact Calls.quiet_of_same (a1J _ _)))
         go_wp2_with fail
         go_meet
         exact⟨HOK.out,c3o (by repeat (first|exact Keeps.refl _ _|apply Keeps.drew|apply Keeps.drewN))⟩
        ·have g2:decide ((at_:Int)+30+(nl:Int)+(vp:Int)<=(first:Int))=false:=by simpa using f2
         have HE7:=c3o (HB81.out (fun h=>f2 h.2.2))
         clear f1 f2
         refine a0L 29 (by kernel_rfl) (by kernel_rfl) ?_
         simp only[c3B,c3I,c3A,c3H]
         repeat (go_big_quiet_step (fail))
         refine c3V ?_
         go_wp2_with fail
         refine (a0s _ 81).mono ?_
         rintro _ _ ⟨rfl,rfl⟩
         exact⟨rfl,BAD.out 81 HE7.out (by decide) _ N13.out.k.drew⟩
       ·have g1:(v11==(at_:Int))=false:=by simpa using f1
        have HE7:=c3o (HB81.out (fun h=>f1 h.2.1))
        clear f1
        refine a0L 29 (by kernel_rfl) (by kernel_rfl) ?_
        simp only[c3B,c3I,c3A,c3H]
        repeat (go_big_quiet_step (fail))
        refine c3V ?_
        go_wp2_with fail
        refine (a0s _ 81).mono ?_
        rintro _ _ ⟨rfl,rfl⟩
        exact⟨rfl,BAD.out 81 HE7.out (by decide) _ N13.out.k.drew⟩
      ·have b8:(vw==8)=false:=by simpa using y8
       by_cases y0:vs=(vp:Int)
       ·have b0:(vs==(vp:Int))=true:=by simpa using y0
        have HV8:Hid (vw=8∨vs=(vp:Int)):=c3o (.inr y0)
        clear y8 y0
        by_cases f1:v11=(at_:Int)
        ·have g1:(v11==(at_:Int))=true:=by simpa using f1
         by_cases f2:(at_:Int)+30+(nl:Int)+(vp:Int)<=(first:Int)
         ·have g2:decide ((at_:Int)+30+(nl:Int)+(vp:Int)<=(first:Int))=true:=by simpa using f2
          have HOK:Hid ((vw=8∨vs=(vp:Int))/\v11=at_/\(at_:Int)+30+(nl:Int)+(vp:Int)<=(first:Int)):=c3o ⟨HV8.out,f1,f2⟩
          clear f1 f2
          go_quiet (first|(go_at_call 73;exact Calls.quiet_of_same (a1J _ _)))
          go_wp2_with fail
          go_meet
          exact⟨HOK.out,c3o (by repeat (first|exact Keeps.refl _ _|apply Keeps.drew|apply Keeps.drewN))⟩
         ·have g2:decide ((at_:Int)+30+(nl:Int)+(vp:Int)<=(first:Int))=false:=by simpa using f2
          have HE7:=c3o (HB81.out (fun h=>f2 h.2.2))
          clear f1 f2
          refine a0L 29 (by kernel_rfl) (by kernel_rfl) ?_
          simp only[c3B,c3I,c3A,c3H]
          repeat (go_big_quiet_step (fail))
          refine c3V ?_
          go_wp2_with fail
          refine (a0s _ 81).mono ?_
          rintro _ _ ⟨rfl,rfl⟩
          exact⟨rfl,BAD.out 81 HE7.out (by decide) _ N13.out.k.drew⟩
        ·have g1:(v11==(at_:Int))=false:=by simpa using f1
         have HE7:=c3o (HB81.out (fun h=>f1 h.2.1))
         clear f1
         refine a0L 29 (by kernel_rfl) (by kernel_rfl) ?_
         simp only[c3B,c3I,c3A,c3H]
         repeat (go_big_quiet_step (fail))
         refine c3V ?_
         go_wp2_with fail
         refine (a0s _ 81).mono ?_
         rintro _ _ ⟨rfl,rfl⟩
         exact⟨rfl,BAD.out 81 HE7.out (by decide) _ N13.out.k.drew⟩
       ·have b0:(vs==(vp:Int))=false:=by simpa using y0
        have HE7:=c3o (HB81.out (fun h=>by rcases h.1 with h|h;exact y8 h;exact y0 h))
        clear y8 y0
        refine a0L 29 (by kernel_rfl) (by kernel_rfl) ?_
        simp only[c3B,c3I,c3A,c3H]
        repeat (go_big_quiet_step (fail))
        refine c3V ?_
        go_wp2_with fail
        refine (a0s _ 81).mono ?_
        rintro _ _ ⟨rfl,rfl⟩
        exact⟨rfl,BAD.out 81 HE7.out (by decide) _ N13.out.k.drew⟩
    case rest=>
     obtain⟨hok,HK14⟩:=hcut
     obtain⟨w14,hw14⟩:∃ z:World,z=wc:=⟨_,rfl⟩
     rw[<-hw14] at HK14 ⊢
     have N14:=c3o (N13.out.keeps HK14.out)
     have X14:=c3o (X13.out.keeps HK14.out (by simp))
     have HOK:=c3o hok
     have hfst:at_+30+nl+vp<=first:=by omega
     have HB82:Hid (¬a1E xs at_ (zrecI xs rp)->E=81):=c3o (fun h=>by rw[HE6.out,if_neg (fun hh=>hh HOK.out),if_pos h])
     have HE8:Hid (a1E xs at_ (zrecI xs rp)->E=0):=c3o (fun h=>by rw[HE6.out,if_neg (fun hh=>hh HOK.out),if_neg (fun hh=>hh h)])
     clear hok hw14 HK14 N13 X13 HE6 HB81 r5 r1 sC x1 x2 x4
     have r0:=N14.out.rd.c0
     have r5:=N14.out.rd.c5
     have hT14:T<w14.heap.size:=N14.out.tb.lt
     have hX14:X<w14.heap.size:=X14.out.lt
     go_upto_region 18 with (fail)
     go_cut [15] (fun u wc=>∃ F2:Nat,u=.pointer (some ⟨F2,0,none⟩)/\w14.heap.size<=F2/\Hid (Blk wc F2 118 [.slice A n c,.int .i64 at_])/\Hid (Keeps [] w14 wc))
     case first=>
      have a1:∀ o,(w14.alloc o).cell? ⟨G,0,none⟩=some (.slice A n c):=fun o=>((Keeps.refl [] w14).alloc o).cell (p:=⟨G,0,none⟩) (by simp) r0
      have a2:∀ o,(w14.alloc o).cell? ⟨G,5,none⟩=some (.int .i64 at_):=fun o=>((Keeps.refl [] w14).alloc o).cell (p:=⟨G,5,none⟩) (by simp) r5
      go_region
      all_goals (
       go_wp2_with fail
       go_meet
       exact⟨w14.heap.size,rfl,c3J _,c3o ((a0d w14 118 [.slice A n c,.int .i64 at_]).keeps (S:=[]) ((Keeps.refl [] _).drew) (by simp)),c3o ((Keeps.refl [] w14).alloc _).drew⟩)
     case rest=>
      obtain⟨F2,rfl,hF2,HF2,HK15⟩:=hcut
      obtain⟨w15,hw15⟩:∃ z:World,z=wc:=⟨_,rfl⟩
      rw[<-hw15] at HF2 HK15 ⊢
      have N15:=c3o (N14.out.keeps HK15.out)
      have X15:=c3o (X14.out.keeps HK15.out (by simp))
      have hFD:FD w15 F2 0 A n c at_:=⟨by have:=HF2.out.cell 0;simpa using this,by have:=HF2.out.cell 1;simpa using this,HF2.out.frozen 1,fun a ha he=>by have:=HZ.out.old a ha;omega⟩
      have FD15:=c3o hFD
      clear hw15 HK15 HF2 N14 X14 r0 r5 hFD
      have hTF:T<F2:=by omega
      have hXF:X≠F2:=by omega
      all_goals
       go_wp2_with fail
       refine (a1f w15 F2 0 A n c xs at_ FD15.out (N15.out.zb HZ.out HO.out) (by omega)).mono ?_
       rintro _ w16 ⟨rfl,hf16,ho16⟩
       have F16:=c3o hf16
       have N16:=c3o (N15.out.keepsO ho16.keeps (fun x hx=>by simp at hx;omega) hGT hBT hTw')
       have X16:=c3o (X15.out.keeps ho16.keeps (by simp;omega))
       obtain⟨mk2,hmk2⟩:∃ z,z=zget xs at_ 4:=⟨_,rfl⟩
       rw[<-hmk2]
       have HMK2:=c3o hmk2
       clear hf16 ho16 hmk2 N15 X15 FD15
       go_wp2_with fail
       refine (a4J w16 F2 0 A n c xs (at_+4) F16.out (N16.out.zb HZ.out HO.out) (by omega)).mono ?_
       rintro _ w17 ⟨pb2,q2,rfl,hpb2,hq2,hqp2,hf17,ho17⟩
       have F17:=c3o hf17
       have N17:=c3o (N16.out.keepsO ho17.keeps (fun x hx=>by simp at hx;omega) hGT hBT hTw')
       have X17:=c3o (X16.out.keeps ho17.keeps (by simp;omega))
       have HQ2:Hid (pb2=true->q2=at_+4+26):=c3o hq2
       have HPB2:=c3o hpb2
       have hF17:F2<w17.heap.size:=F17.out.lt
       have hX17:X<w17.heap.size:=X17.out.lt
       have hT17:T<w17.heap.size:=N17.out.tb.lt
       obtain⟨yz,hyz⟩:∃ z,z=zget xs (at_+4+18) 4:=⟨_,rfl⟩
       obtain⟨yp,hyp⟩:∃ z,z=zget xs (at_+4+14) 4:=⟨_,rfl⟩
       obtain⟨yc,hyc⟩:∃ z,z=zget xs (at_+4+10) 4:=⟨_,rfl⟩
       obtain⟨yw,hyw⟩:∃ z,z=zget xs (at_+4+4) 2:=⟨_,rfl⟩
       obtain⟨ln2,hln2⟩:∃ z,z=zget xs (at_+4+22) 2:=⟨_,rfl⟩
       rw[<-hyz,<-hyp,<-hyc,<-hyw,<-hln2]
       have HYZ:=c3o hyz
       have HYP:=c3o hyp
       have HYC:=c3o hyc
       have HYW:=c3o hyw
       have HLN2:=c3o hln2
       clear hf17 ho17 hpb2 hq2 hyz hyp hyc hyw hln2 F16 N16 X16
       go_upto_region 21 with (fail)
       obtain⟨Y,hY⟩:∃ z,z=w17.heap.size:=⟨_,rfl⟩
       obtain⟨w18,hw18⟩:∃ z,z=w17.alloc (.cells #[.string ⟨#[]⟩,.int .i64 yz,.int .i64 yp,.int .u32 yc,.int .i64 yw] 51):=⟨_,rfl⟩
       have k18:Keeps [] w17 w18:=by rw[hw18];exact (Keeps.refl [] _).alloc _
       have Y18:Hid (Blk w18 Y 51 [.string ⟨#[]⟩,.int .i64 yz,.int .i64 yp,.int .u32 yc,.int .i64 yw]):=c3o (by rw[hw18,hY];exact a0d _ _ _)
       have N18:=c3o (N17.out.keeps k18)
       have X18:=c3o (X17.out.keeps k18 (by simp))
       have F18:=c3o (F17.out.keeps k18 (by simp))
       rw[<-hw18,<-hY]
       have hYX:X≠Y:=by omega
       have hYF:F2≠Y:=by omega
       have hTY:T<Y:=by omega
       obtain⟨nm2,hnm2⟩:∃ z,z=strOfNums (seg xs (at_+4+26) nl):=⟨_,rfl⟩
       have HNM2:=c3o hnm2
       clear hw18 k18 N17 X17 F17 hY hnm2
       have HZH:Hid (a1E xs at_ (zrecI xs rp)↔mk2=67324752/\pb2=true/\ln2=(nl:Int)/\(⟨nm2,yz,yp,yc,yw⟩:ZI)=⟨name,vs,(vp:Int),vc,vw⟩):=c3o (by
        have h1:(zrecI xs rp).name.size=nl:=by rw[<-HSZ.out,HNM.out];rfl
        have h2:zrecI xs rp=⟨name,vs,(vp:Int),vc,vw⟩:=by rw[HNM.out,HVS.out,HVP.out,HVC.out,HVW.out];rfl
        unfold a1E
        rw[h1,h2,HMK2.out,HPB2.out,HLN2.out,HNM2.out,HYZ.out,HYP.out,HYC.out,HYW.out]
        constructor
        ·rintro ⟨a,b,c,d,e⟩
         exact⟨a,⟨b,c⟩,d,e⟩
        ·rintro ⟨a,⟨b,c⟩,d,e⟩
         exact⟨a,b,c,d,e⟩)
       have HLB:Hid (¬(mk2=67324752/\pb2=true/\ln2=(nl:Int)/\(⟨nm2,yz,yp,yc,yw⟩:ZI)=⟨name,vs,(vp:Int),vc,vw⟩)->E=81):=c3o (fun h=>HB82.out (fun hh=>h (HZH.out.1 hh)))
       have HLE:Hid (mk2=67324752/\pb2=true/\ln2=(nl:Int)/\(⟨nm2,yz,yp,yc,yw⟩:ZI)=⟨name,vs,(vp:Int),vc,vw⟩->E=0):=c3o (fun h=>HE8.out (HZH.out.2 h))
       clear HZH HB82 HE8
       by_cases m1:mk2=67324752
       case neg=>
        have b1:(mk2==67324752)=false:=by simpa using m1
        have HE7:=c3o (HLB.out (fun h=>m1 h.1))
        clear m1
        go_wp2_with fail
        refine (a0s _ 81).mono ?_
        rintro _ _ ⟨rfl,rfl⟩
        exact⟨rfl,BAD.out 81 HE7.out (by decide) _ N18.out.k⟩
       have b1:(mk2==67324752)=true:=by simpa using m1
       by_cases m2:pb2=true
       case neg=>
        have b2:pb2=false:=by simpa using m2
        have HE7:=c3o (HLB.out (fun h=>m2 h.2.1))
        subst b2
        clear m1 m2
        go_wp2_with fail
        refine (a0s _ 81).mono ?_
        rintro _ _ ⟨rfl,rfl⟩
        exact⟨rfl,BAD.out 81 HE7.out (by decide) _ N18.out.k⟩
       subst m2
       by_cases m3:ln2=(nl:Int)
       case neg=>
        have b3:(ln2==(nl:Int))=false:=by simpa using m3
        have HE7:=c3o (HLB.out (fun h=>m3 h.2.2.1))
        clear m1 m3
        go_wp2_with fail
        refine (a0s _ 81).mono ?_
        rintro _ _ ⟨rfl,rfl⟩
        exact⟨rfl,BAD.out 81 HE7.out (by decide) _ N18.out.k⟩
       have b3:(ln2==(nl:Int))=true:=by simpa using m3
       have hq2:q2=at_+4+26:=HQ2.out rfl
       subst hq2
       have HM13:=c3o (And.intro m1 m3)
       clear m1 m3
       go_wp2_with fail
       refine (a1J _ 81).mono ?_
       rintro _ wz ⟨rfl,hwz⟩
       obtain rfl:w18=wz:=hwz.symm
       clear hwz b1 b3
       go_wp2_with fail
       refine (a6T w18 F2 0 A n c xs (at_+4+26) nl F18.out (N18.out.zb HZ.out HO.out) (by omega)).mono ?_
       rintro _ w19 ⟨rfl,hf19,ho19⟩
       have N19:=c3o (N18.out.keepsO ho19.keeps (fun x hx=>by simp at hx;omega) hGT hBT hTw')
       have X19:=c3o (X18.out.keeps ho19.keeps (by simp;omega))
       have Y19:=c3o (Y18.out.keeps ho19.keeps (by simp;omega))
       rw[<-HNM2.out]
       have y0:=Y19.out.cell 0
       have yf:=Y19.out.frozen 0
       simp only[c3p] at y0
       clear hf19 ho19 N18 X18 Y18 F18
       go_upto_region 23 with (fail)
       obtain⟨w20,hw20⟩:∃ z,z=w19.setCell ⟨Y,0,none⟩ (.string nm2):=⟨_,rfl⟩
       have k20:Keeps [Y] w19 w20:=by rw[hw20];exact (Keeps.refl [Y] _).setCell (p:=⟨Y,0,none⟩) (.inl (by simp)) _
       have Y20:Hid (Blk w20 Y 51 [.string nm2,.int .i64 yz,.int .i64 yp,.int .u32 yc,.int .i64 yw]):=c3o (by rw[hw20];exact Y19.out.set 0 _)
       have N20:=c3o (N19.out.keepsO k20 (fun x hx=>by simp at hx;omega) hGT hBT hTw')
       have X20:=c3o (X19.out.keeps k20 (by simp;omega))
       rw[<-hw20]
       have x0:=X20.out.cell 0
       have x1:=X20.out.cell 1
       have x2:=X20.out.cell 2
       have x3:=X20.out.cell 3
       have x4:=X20.out.cell 4
       have y0:=Y20.out.cell 0
       have y1:=Y20.out.cell 1
       have y2:=Y20.out.cell 2
       have y3:=Y20.out.cell 3
       have y4:=Y20.out.cell 4
       simp only[c3p,c3E] at x0 x1 x2 x3 x4 y0 y1 y2 y3 y4
       have heq:=fun w=>b9k w nm2 name yz vs yp (vp:Int) yc vc yw vw
       have hgd:=fun x y w=>b5i x y w nm2 name yz vs yp (vp:Int) yc vc yw vw
       clear hw20 k20 N19 X19 Y19 yf
       by_cases m4:(⟨nm2,yz,yp,yc,yw⟩:ZI)=⟨name,vs,(vp:Int),vc,vw⟩
       case neg=>
        rw[c3C m4] at heq
        have HE7:=c3o (HLB.out (fun h=>m4 h.2.2.2))
        clear m4
        go_wp2_with fail
        refine (a0s _ 81).mono ?_
        rintro _ _ ⟨rfl,rfl⟩
        exact⟨rfl,BAD.out 81 HE7.out (by decide) _ N20.out.k⟩
       rw[c3x m4] at heq
       have HE0:Hid (E=0):=c3o (HLE.out ⟨HM13.out.1,by simp,HM13.out.2,m4⟩)
       clear m4 HLB HLE HM13
       go_wp2_with fail
       refine (a1J _ 81).mono ?_
       rintro _ wz ⟨rfl,hwz⟩
       obtain rfl:w20=wz:=hwz.symm
       clear hwz heq hgd y0 y1 y2 y3 y4
       go_upto_region 24 with (fail)
       have r6:=N20.out.rd.c6
       refine a0L 7 (by kernel_rfl) (by kernel_rfl) ?_
       simp only[c3B,c3I,c3A,c3H]
       repeat (go_big_quiet_step (fail))
       refine c3V ?_
       go_wp2_with (first
        | (at_mapUpdate;refine wpList_mapUpdate_own _ rfl _ _ _ 61 rfl 9 62 a5B Tryz.underlying61 (unitElem (H:=Unit)) B known.length _ rfl (N20.out.st.keeps (Keeps.refl [] w20).drew (by simp)) (by unfold maxLen;omega) _ _ _ rfl rfl hkey _ [] unitElem_mk ?_;intro w21 hown21 hgr21;have k21:Keeps [B] w20 w21:=((Keeps.refl [B] w20).drew).grown hgr21 (fun k hk=>.inl (by injection hk with hk;subst hk;simp));have X21:=X20.out.keeps k21 (by simp;omega);have R21:=N20.out.rd.keeps k21 (by simpa using hGB);have x2:=X21.cell 2;have r5:=R21.c5;have f5:=R21.f5;simp only[c3p,c3E] at x2))
       have M21:=c3o (SetM.snoc hown21)
       have HX21:=c3o X21
       have HR21:=c3o R21
       have FD21:=c3o (N20.out.fd.keeps k21 (by simpa using hGB))
       have T21:=c3o (N20.out.tb.keeps k21 (by simp;omega))
       have K21:=c3o (N20.out.k.trans (k21.mono (S':=[G,B]) (by simp)))
       clear hown21 hgr21 X21 R21 k21 x2 r5 f5 r6 x0 x1 x3 x4 N20 X20 Y20
       have sC:IntKind.i64.wrap ((at_:Int)+30+(nl:Int)+(vp:Int))=(at_:Int)+30+(nl:Int)+(vp:Int):=c3u _ (by omega)
       obtain⟨w22,hw22⟩:∃ z,z=w21.setCell ⟨G,5,none⟩ (.int .i64 ((at_:Int)+30+(nl:Int)+(vp:Int))):=⟨_,rfl⟩
       have k22:Keeps [G] w21 w22:=by rw[hw22];exact (Keeps.refl [G] _).setCell (p:=⟨G,5,none⟩) (.inl (by simp)) _
       have R22:Hid (RDR w22 G A n c first en (at_+30+nl+vp) B):=c3o (by rw[hw22];exact HR21.out.moved _ (by omega))
       have FD22:Hid (FD w22 G 3 A n c (rp+32+10+4+nl)):=c3o (by rw[hw22];exact FD21.out.past5 _)
       have M22:=c3o (M21.out.keeps k22 (by simpa using hGB.symm))
       have T22:=c3o (T21.out.keeps k22 (by simp;omega))
       have X22:=c3o (HX21.out.keeps k22 (by simp;omega))
       have K22:=c3o (K21.out.trans (k22.mono (S':=[G,B]) (by simp)))
       rw[<-hw22]
       clear hw22 k22 M21 HX21 HR21 FD21 T21 K21
       have x0:=X22.out.cell 0
       have x1:=X22.out.cell 1
       have x2:=X22.out.cell 2
       have x3:=X22.out.cell 3
       have x4:=X22.out.cell 4
       simp only[c3p,c3E] at x0 x1 x2 x3 x4
       have r0:=R22.out.c0
       have r5:w22.cell? ⟨G,5,none⟩=some (.int .i64 ((at_:Int)+30+(nl:Int)+(vp:Int))):=by
        have h:=R22.out.c5
        rw[show ((at_+30+nl+vp:Nat):Int)=(at_:Int)+30+(nl:Int)+(vp:Int) by omega] at h
        exact h
       have t0:=T22.out.cell 0
       have t1:=T22.out.cell 1
       have t2:=T22.out.cell 2
       have t3:=T22.out.cell 3
       have t4:=T22.out.cell 4
       have t5:=T22.out.cell 5
       simp only[b1T,c3p,c3E] at t0 t1 t2 t3 t4 t5
       have tf:=T22.out.frozen
       have hsl:=fun w=>a2c w A n c (at_+30+nl) (at_+30+nl+vp) ((at_:Int)+30+(nl:Int)) ((at_:Int)+30+(nl:Int)+(vp:Int)) (by omega) (by omega) (by omega) (by omega) HZ.out.cap
       rw[show at_+30+nl+vp-(at_+30+nl)=vp by omega] at hsl
       obtain⟨CA,hCA⟩:∃ z,z=cutA A (at_+30+nl) c:=⟨_,rfl⟩
       obtain⟨cn,hcn⟩:∃ z,z=c-(at_+30+nl):=⟨_,rfl⟩
       rw[<-hCA,<-hcn] at hsl
       have HCA:=c3o hCA
       have HCN:=c3o hcn
       clear hCA hcn sC
       refine a0L 12 (by kernel_rfl) (by kernel_rfl) ?_
       simp only[c3B,c3I,c3A,c3H]
       repeat (go_big_quiet_step (fail))
       refine c3V ?_
       go_wp2_with fail
       obtain⟨w23,hw23⟩:∃ z,z=((((((w22.setCell ⟨T,0,none⟩ (.string name)).setCell ⟨T,1,none⟩ (.int .i64 vs)).setCell ⟨T,2,none⟩ (.int .i64 (vp:Int))).setCell ⟨T,3,none⟩ (.int .u32 vc)).setCell ⟨T,4,none⟩ (.int .i64 vw)).setCell ⟨T,5,none⟩ (.slice CA vp cn)).drew:=⟨_,rfl⟩
       rw[<-hw23]
       have k23:Keeps [T] w22 w23:=by rw[hw23];exact (((((((Keeps.refl [T] w22).setCell (p:=⟨T,0,none⟩) (.inl (by simp)) _).setCell (p:=⟨T,1,none⟩) (.inl (by simp)) _).setCell (p:=⟨T,2,none⟩) (.inl (by simp)) _).setCell (p:=⟨T,3,none⟩) (.inl (by simp)) _).setCell (p:=⟨T,4,none⟩) (.inl (by simp)) _).setCell (p:=⟨T,5,none⟩) (.inl (by simp)) _).drew
       have b23:Blk w23 T 77 [.string name,.int .i64 vs,.int .i64 (vp:Int),.int .u32 vc,.int .i64 vw,.slice CA vp cn]:=by
        rw[hw23]
        exact ((((((T22.out.set 0 (.string name)).set 1 (.int .i64 vs)).set 2 (.int .i64 (vp:Int))).set 3 (.int .u32 vc)).set 4 (.int .i64 vw)).set 5 (.slice CA vp cn)).keeps (Keeps.refl [] _).drew (by simp)
       refine bodyPost_ret (b5H rfl _ _ T 77 _ (0,0) _ rfl b23 Tryz.underlying77 rfl b5J) rfl ?_
       have p1:(zrecI xs rp).size=vs:=HVS.out.symm
       have p2:(zrecI xs rp).packed=(vp:Int):=HVP.out.symm
       have p3:(zrecI xs rp).sum=vc:=HVC.out.symm
       have p4:(zrecI xs rp).way=vw:=HVW.out.symm
       have p5:a0V xs rp=nl:=HNL.out.symm
       refine⟨K22.out.then k23 (fun x hx=>.inr (by simp at hx;omega)),.inr ⟨HE.out.symm.trans HE0.out,?_,?_,?_,?_⟩⟩
       ·rw[<-HNM.out,p1,p2,p3,p4,p5,c3w,<-HCA.out,<-HCN.out]
       ·rw[p5,p2,c3w];exact R22.out.keeps k23 (by simp;omega)
       ·rw[p5,show rp+46+nl=rp+32+10+4+nl by omega];exact FD22.out.keeps k23 (by simp;omega)
       ·rw[<-HNM.out];exact M22.out.keeps k23 (by simp;omega)
end Go.Proofs.YtghjlpechjggjaaGreatDoor
namespace Go.Proofs.YtghjlpechjggjaaGreatDoor
open Go.RowKit Go.Maps
def pcz(A:Option Addr)(c:Nat)(p:ZP):List Value:=[.string p.x.name,.int .i64 p.x.size,.int .i64 p.x.packed,.int .u32 p.x.sum,.int .i64 p.x.way,.slice (cutA A p.fro c) p.len (c-p.fro)]
theorem a4o(A:Option Addr)(c:Nat)(p:ZP):(pcz A c p).length=6:=rfl
def PcsP(w:World)(A:Option Addr)(c:Nat)(xs:List Int)(r:Ending)(w':World):Prop:=
 ∃ v,r=.returned (.tuple #[v,.int .i64 (zpieces xs).1])/\((zpieces xs).1≠0->v=.slice none 0 0)/\((zpieces xs).1=0->w'.ownsRow w.heap.size 77 6 v (zpieces xs).2.length ((zpieces xs).2.flatMap (pcz A c)))/\Below w.heap.size w w'
structure OE (w:World) (O E:Nat):Prop where
 o:∃ v,w.cell? ⟨O,0,none⟩=some v
 e:∃ v,w.cell? ⟨E,0,none⟩=some v
 fo:w.frozen? ⟨O,0,none⟩=false
 fe:w.frozen? ⟨E,0,none⟩=false
theorem OE.keeps{S:List Nat}{w w':World}{O E:Nat}(h:OE w O E)(hk:Keeps S w w')(hO:O∉S)(hE:E∉S):OE w' O E:=by
 obtain⟨⟨v,hv⟩,⟨u,hu⟩,f1,f2⟩:=h
 exact⟨⟨v,hk.cell (p:=⟨O,0,none⟩) hO hv⟩,⟨u,hk.cell (p:=⟨E,0,none⟩) hE hu⟩,(hk.frozen (p:=⟨O,0,none⟩) (c3L _ _ hv) hO).trans f1,(hk.frozen (p:=⟨E,0,none⟩) (c3L _ _ hu) hE).trans f2⟩
def c0q:WT 73 77 6:=⟨.agg #[.string ⟨#[]⟩,.int .i64 0,.int .i64 0,.int .u32 0,.int .i64 0,.slice none 0 0],72,by kernel_rfl,Tryz.underlying73,rfl,by decide,by decide⟩
theorem c1E(A:Option Addr)(c:Nat)(p:ZP):∀ v∈pcz A c p,v.oneCell'=true:=by
 intro v hv
 unfold pcz at hv
 simp only[List.mem_cons,List.not_mem_nil,or_false] at hv
 rcases hv with rfl|rfl|rfl|rfl|rfl|rfl<;>rfl
def a8R(O E:Nat):Deferred:={ target:=.fn (.func 72) #[.pointer (some ⟨O,0,none⟩),.pointer (some ⟨E,0,none⟩)],args:=#[] }
theorem a0u {W:World} {O E:Nat} {e:Int} {tmps:Array Value} {R:Ending->World->Prop} (h2:tmps.getD 2 undef=.pointer (some ⟨O,0,none⟩)) (h3:tmps.getD 3 undef=.pointer (some ⟨E,0,none⟩)) (hoe:OE W O E) (hne:O≠E)
  (hR:∀ w',Keeps [O,E] W w'->R (.returned (.tuple #[.slice none 0 0,.int .i64 e])) w'):bodyPostD Tryz.prog Tryz.f47 R (Exit.panic (a8k e)) { tmps:=tmps,defers:=[a8R O E] } W:=by
 obtain⟨⟨v,hv⟩,⟨u,hu⟩,f1,f2⟩:=hoe
 refine leaves_cons (f:=72) (args:=#[.pointer (some ⟨O,0,none⟩),.pointer (some ⟨E,0,none⟩)]) (by simp[a8R]) (by simp[a8R,go_sem]) ?_
 refine (b2g O E e _ v u hv hu f1 f2 hne).mono ?_
 rintro _ u' w'' ⟨rfl,rfl,rfl⟩
 have c1:((W.setCell ⟨O,0,none⟩ (.slice none 0 0)).setCell ⟨E,0,none⟩ (.int .i64 e)).cell? ⟨O,0,none⟩=some (.slice none 0 0):=(c3r _ _ _ _ (by simpa using hne.symm)).trans (c3D _ _ _ hv)
 have c2:((W.setCell ⟨O,0,none⟩ (.slice none 0 0)).setCell ⟨E,0,none⟩ (.int .i64 e)).cell? ⟨E,0,none⟩=some (.int .i64 e):=c3D _ _ _ ((c3r _ _ _ _ (by simpa using hne)).trans hu)
 have hr:=hR _ (((Keeps.refl [O,E] W).setCell (p:=⟨O,0,none⟩) (.inl (by simp)) (.slice none 0 0)).setCell (p:=⟨E,0,none⟩) (.inl (by simp)) (.int .i64 e))
 have h2':tmps[2]?.getD undef=.pointer (some ⟨O,0,none⟩):=by simpa using h2
 have h3':tmps[3]?.getD undef=.pointer (some ⟨E,0,none⟩):=by simpa using h3
 have ha:∀ w,(isAgg 73).run Tryz.prog w=.ok false w:=run_isAgg_plain Tryz.underlying73 rfl
 have hb:∀ w,(isAgg 27).run Tryz.prog w=.ok false w:=run_isAgg_plain Tryz.underlying27 rfl
 simp[Leaves,settle,results,Tryz.results47,go_sem,h2',h3',asAddr,ha,hb,c1,c2]
 exact hr
theorem b1f {W:World} {O E:Nat} {v u:Value} {tmps:Array Value} {R:Ending->World->Prop} (h2:tmps.getD 2 undef=.pointer (some ⟨O,0,none⟩)) (h3:tmps.getD 3 undef=.pointer (some ⟨E,0,none⟩)) (hv:W.cell? ⟨O,0,none⟩=some v) (hu:W.cell? ⟨E,0,none⟩=some u)
  (hR:R (.returned (.tuple #[v,u])) W):bodyPostD Tryz.prog Tryz.f47 R Exit.ret { tmps:=tmps,defers:=[a8R O E] } W:=by
 have h2':tmps[2]?.getD undef=.pointer (some ⟨O,0,none⟩):=by simpa using h2
 have h3':tmps[3]?.getD undef=.pointer (some ⟨E,0,none⟩):=by simpa using h3
 have ha:∀ w,(isAgg 73).run Tryz.prog w=.ok false w:=run_isAgg_plain Tryz.underlying73 rfl
 have hb:∀ w,(isAgg 27).run Tryz.prog w=.ok false w:=run_isAgg_plain Tryz.underlying27 rfl
 refine leaves_cons (f:=72) (args:=#[.pointer (some ⟨O,0,none⟩),.pointer (some ⟨E,0,none⟩)]) (by simp[a8R]) (by simp[a8R,go_sem]) ?_
 refine (b4T O E _).mono ?_
 rintro _ u' w'' ⟨rfl,rfl,rfl⟩
 simp[Leaves,settle,results,Tryz.results47,go_sem,h2',h3',asAddr,ha,hb,hv,hu]
 exact hR
theorem a3I(w:World)(A:Option Addr)(n c:Nat)(xs:List Int)(hz:ZB w A n c xs) :
  Calls Tryz.prog 47 #[.slice A n c] w (PcsP w A c xs):=by
 have hmf:∀ (fn:Fn) (first cap:Array Value) (w:World),(Instr.makeFunc fn first cap).run Tryz.prog w=.ok (.func fn first cap) w:=fun _ _ _ _=>rfl
 have HZ:=c3o hz
 have hn9:=hz.len
 have HX:=c3o hz.ri.len
 clear hz
 obtain⟨O,hO⟩:∃ z,z=w.heap.size:=⟨_,rfl⟩
 obtain⟨E,hE⟩:∃ z,z=O+1:=⟨_,rfl⟩
 have hne:O≠E:=by omega
 have BADP:Hid (∀ e,zpieces xs=(e,[])->e≠0->∀ W,Below w.heap.size w W->∀ w',Keeps [O,E] W w'->PcsP w A c xs (.returned (.tuple #[.slice none 0 0,.int .i64 e])) w'):=c3o (fun e he h0 W hb w' hk=>by
  have hb2:Below w.heap.size w w':=hb.trans (a0c hk hb.size (fun x hx=>by simp at hx;omega))
  exact⟨.slice none 0 0,by rw[he],fun _=>rfl,fun h=>absurd (by rw[he] at h;exact h) h0,hb2⟩)
 obtain⟨w2,hw2⟩:∃ z,z=(w.alloc (.cells #[.slice none 0 0] 73)).alloc (.cells #[.int .i64 0] 27):=⟨_,rfl⟩
 have O2:Hid (Blk w2 O 73 [.slice none 0 0]):=c3o (by rw[hw2,hO];exact (a0d w 73 [.slice none 0 0]).keeps (S:=[]) ((Keeps.refl [] _).alloc _) (by simp))
 have E2:Hid (Blk w2 E 27 [.int .i64 0]):=c3o (by
  have:=a0d (w.alloc (.cells #[.slice none 0 0] 73)) 27 [.int .i64 0]
  rw[c3Q,<-hO,<-hE] at this
  rw[hw2];exact this)
 have B2:Hid (Below w.heap.size w w2):=c3o (by rw[hw2];exact ((c3U _ w).alloc (c3J _) _).alloc (by simp) _)
 have hs2:w2.heap.size=E+1:=by rw[hw2];simp;omega
 have HOO:=c3o hO
 have HEE:=c3o hE
 have P2:Hid (OE w2 O E):=c3o ⟨⟨_,O2.out.cell 0⟩,⟨_,E2.out.cell 0⟩,O2.out.frozen 0,E2.out.frozen 0⟩
 have HS2:=c3o hs2
 clear hs2
 go_enter_defers Tryz.func47,Tryz.ntmps47
 go_upto_region 2 with (fail)
 rw[<-hw2,<-hO,<-hE]
 clear hw2 hO hE
 by_cases q1:n<=1048576
 case neg=>
  have HP:Hid (zpieces xs=(2,[])):=c3o (by unfold zpieces;rw[if_pos (by rw[HX.out];omega)])
  have t1:decide ((n:Int)<=1048576)=false:=c3C (by omega)
  have t1':decide (n<=1048576)=false:=c3C q1
  clear q1
  go_wp2_with fail
  refine (a0s _ 2).mono ?_
  rintro _ _ ⟨rfl,rfl⟩
  exact a0u rfl rfl P2.out hne (BADP.out 2 HP.out (by decide) _ B2.out)
 have t1:decide ((n:Int)<=1048576)=true:=c3x (by omega)
 have t1':decide (n<=1048576)=true:=c3x q1
 go_wp2_with fail
 refine (a1J _ 2).mono ?_
 rintro _ wz ⟨rfl,hwz⟩
 obtain rfl:w2=wz:=hwz.symm
 clear hwz t1 t1'
 by_cases q2:22<=n
 case neg=>
  have HP:Hid (zpieces xs=(81,[])):=c3o (by unfold zpieces;rw[if_neg (by rw[HX.out];omega),if_pos (by rw[HX.out];omega)])
  have t1:decide ((22:Int)<=(n:Int))=false:=c3C (by omega)
  have t1':decide (22<=n)=false:=c3C q2
  clear q1 q2
  go_wp2_with fail
  refine (a0s _ 81).mono ?_
  rintro _ _ ⟨rfl,rfl⟩
  exact a0u rfl rfl P2.out hne (BADP.out 81 HP.out (by decide) _ B2.out)
 have t1:decide ((22:Int)<=(n:Int))=true:=c3x (by omega)
 have t1':decide (22<=n)=true:=c3x q2
 obtain⟨en,hen⟩:∃ z,z=n-22:=⟨_,rfl⟩
 have s1:IntKind.i64.wrap ((n:Int)-22)=(en:Int):=by rw[c3u _ (by omega)];omega
 have s1':(n:Int)-22=(en:Int):=by omega
 have hn22:n=en+22:=by omega
 have HEN:=c3o hen
 have HZ1:Hid (zpieces xs=if ¬ZEnd xs en then (81,[]) else if 64<a4z xs then (86,[]) else a1n xs (a1U xs) en (a4z xs) (a1U xs) 0 []):=c3o (by
  unfold zpieces
  rw[if_neg (by rw[HX.out];omega),if_neg (by rw[HX.out];omega),HX.out,<-hen])
 have HN22:=c3o hn22
 clear hen hn22
 go_wp2_with fail
 refine (a1J _ 81).mono ?_
 rintro _ wz ⟨rfl,hwz⟩
 obtain rfl:w2=wz:=hwz.symm
 clear hwz t1 t1'
 go_upto_region 6 with (fail)
 obtain⟨F,hF⟩:∃ z,z=w2.heap.size:=⟨_,rfl⟩
 obtain⟨w3,hw3⟩:∃ z,z=w2.alloc (.cells #[.slice A n c,.int .i64 en] 118):=⟨_,rfl⟩
 have K3:Hid (Keeps [] w2 w3):=c3o (by rw[hw3];exact (Keeps.refl [] _).alloc _)
 have hFB:Blk w3 F 118 [.slice A n c,.int .i64 en]:=by rw[hw3,hF];exact a0d _ _ _
 have F3:Hid (FD w3 F 0 A n c en):=c3o ⟨by have:=hFB.cell 0;simpa using this,by have:=hFB.cell 1;simpa using this,hFB.frozen 1,fun a ha he=>by have h1:=HZ.out.old a ha;have h2:=B2.out.size;omega⟩
 have HF:=c3o hF
 have Z2:=c3o (HZ.out.keeps (Keeps.of_below B2.out (S:=[])) (a0a _))
 rw[<-hw3,<-hF]
 have hFge:w2.heap.size<=F:=by omega
 have h22:en+22<=n:=by have:=HN22.out;omega
 have h22':n<=en+22:=by have:=HN22.out;omega
 clear hw3 hFB hF s1 s1'
 go_wp2_with fail
 refine (a1f w3 F 0 A n c xs en F3.out (Z2.out.keeps K3.out (a0a _)) (by omega)).mono ?_
 rintro _ w4 ⟨rfl,hf,ho⟩
 have F4:=c3o hf
 have K4:=c3o (K3.out.then ho.keeps (fun x hx=>.inr (by simp at hx;omega)))
 obtain⟨v0,hv⟩:∃ z,z=zget xs en 4:=⟨_,rfl⟩
 rw[<-hv]
 have V0:=c3o hv
 clear hf ho hv F3 K3
 go_wp2_with fail
 refine (a0Z w4 F 0 A n c xs (en+4) F4.out (Z2.out.keeps K4.out (a0a _)) (by omega)).mono ?_
 rintro _ w5 ⟨rfl,hf,ho⟩
 have F5:=c3o hf
 have K5:=c3o (K4.out.then ho.keeps (fun x hx=>.inr (by simp at hx;omega)))
 obtain⟨v1,hv⟩:∃ z,z=zget xs (en+4) 2:=⟨_,rfl⟩
 rw[<-hv]
 have V1:=c3o hv
 clear hf ho hv F4 K4
 go_wp2_with fail
 refine (a0Z w5 F 0 A n c xs (en+4+2) F5.out (Z2.out.keeps K5.out (a0a _)) (by omega)).mono ?_
 rintro _ w6 ⟨rfl,hf,ho⟩
 have F6:=c3o hf
 have K6:=c3o (K5.out.then ho.keeps (fun x hx=>.inr (by simp at hx;omega)))
 obtain⟨v2,hv⟩:∃ z,z=zget xs (en+4+2) 2:=⟨_,rfl⟩
 rw[<-hv]
 have V2:=c3o hv
 clear hf ho hv F5 K5
 go_wp2_with fail
 refine (a0Z w6 F 0 A n c xs (en+4+2+2) F6.out (Z2.out.keeps K6.out (a0a _)) (by omega)).mono ?_
 rintro _ w7 ⟨rfl,hf,ho⟩
 have F7:=c3o hf
 have K7:=c3o (K6.out.then ho.keeps (fun x hx=>.inr (by simp at hx;omega)))
 obtain⟨v3,hv⟩:∃ z,z=zget xs (en+4+2+2) 2:=⟨_,rfl⟩
 rw[<-hv]
 have V3:=c3o hv
 clear hf ho hv F6 K6
 go_wp2_with fail
 refine (a0Z w7 F 0 A n c xs (en+4+2+2+2) F7.out (Z2.out.keeps K7.out (a0a _)) (by omega)).mono ?_
 rintro _ w8 ⟨rfl,hf,ho⟩
 have F8:=c3o hf
 have K8:=c3o (K7.out.then ho.keeps (fun x hx=>.inr (by simp at hx;omega)))
 obtain⟨v4,hv⟩:∃ z,z=zget xs (en+4+2+2+2) 2:=⟨_,rfl⟩
 rw[<-hv]
 have V4:=c3o hv
 clear hf ho hv F7 K7
 go_wp2_with fail
 refine (a1f w8 F 0 A n c xs (en+4+2+2+2+2) F8.out (Z2.out.keeps K8.out (a0a _)) (by omega)).mono ?_
 rintro _ w9 ⟨rfl,hf,ho⟩
 have F9:=c3o hf
 have K9:=c3o (K8.out.then ho.keeps (fun x hx=>.inr (by simp at hx;omega)))
 obtain⟨v5,hv⟩:∃ z,z=zget xs (en+4+2+2+2+2) 4:=⟨_,rfl⟩
 rw[<-hv]
 have V5:=c3o hv
 clear hf ho hv F8 K8
 go_wp2_with fail
 refine (a1f w9 F 0 A n c xs (en+4+2+2+2+2+4) F9.out (Z2.out.keeps K9.out (a0a _)) (by omega)).mono ?_
 rintro _ w10 ⟨rfl,hf,ho⟩
 have F10:=c3o hf
 have K10:=c3o (K9.out.then ho.keeps (fun x hx=>.inr (by simp at hx;omega)))
 obtain⟨v6,hv⟩:∃ z,z=zget xs (en+4+2+2+2+2+4) 4:=⟨_,rfl⟩
 rw[<-hv]
 have V6:=c3o hv
 clear hf ho hv F9 K9
 go_wp2_with fail
 refine (a0Z w10 F 0 A n c xs (en+4+2+2+2+2+4+4) F10.out (Z2.out.keeps K10.out (a0a _)) (by omega)).mono ?_
 rintro _ w11 ⟨rfl,hf,ho⟩
 have F11:=c3o hf
 have K11:=c3o (K10.out.then ho.keeps (fun x hx=>.inr (by simp at hx;omega)))
 obtain⟨v7,hv⟩:∃ z,z=zget xs (en+4+2+2+2+2+4+4) 2:=⟨_,rfl⟩
 rw[<-hv]
 have V7:=c3o hv
 clear hf ho hv F10 K10
 have HZE:Hid (ZEnd xs en↔v0=101010256/\v1=0/\v2=0/\v3=v4/\v6+v5=(en:Int)/\v7=0):=c3o (by
  unfold ZEnd
  rw[V0.out,V1.out,V2.out,V3.out,V4.out,V5.out,V6.out,V7.out])
 have HBE:Hid (¬(v0=101010256/\v1=0/\v2=0/\v3=v4/\v6+v5=(en:Int)/\v7=0)->zpieces xs=(81,[])):=c3o (fun h=>by rw[HZ1.out,if_pos (fun hh=>h (HZE.out.1 hh))])
 have hb3:=a2u HZ.out.byte (p:=en+4+2+2) (by rw[HX.out];omega)
 have hb5:=a1C HZ.out.byte (p:=en+4+2+2+2+2) (by rw[HX.out];omega)
 have hb6:=a1C HZ.out.byte (p:=en+4+2+2+2+2+4) (by rw[HX.out];omega)
 have hb3':0<=v3/\v3<65536:=by rw[V3.out];exact hb3
 have hb5':0<=v5/\v5<4294967296:=by rw[V5.out];exact hb5
 have hb6':0<=v6/\v6<4294967296:=by rw[V6.out];exact hb6
 clear hb3 hb5 hb6
 have sS:IntKind.i64.wrap (v6+v5)=v6+v5:=c3u _ (by omega)
 have P11:Hid (OE w11 O E):=c3o (P2.out.keeps K11.out (by simp) (by simp))
 have B11:Hid (Below w.heap.size w w11):=c3o (B2.out.trans (a0c K11.out B2.out.size (by simp)))
 have HV3:=c3o hb3'
 have HV6:=c3o hb6'
 clear hb3' hb5' hb6'
 by_cases c0:v0=101010256
 case neg=>
  have b0:(v0==101010256)=false:=by simpa using c0
  have HP:=c3o (HBE.out (fun h=>c0 h.1))
  clear c0
  go_wp2_with fail
  refine (a0s _ 81).mono ?_
  rintro _ _ ⟨rfl,rfl⟩
  exact a0u rfl rfl P11.out hne (BADP.out 81 HP.out (by decide) _ B11.out)
 have b0:(v0==101010256)=true:=by simpa using c0
 by_cases c1:v1=0
 case neg=>
  have b1:(v1==0)=false:=by simpa using c1
  have HP:=c3o (HBE.out (fun h=>c1 h.2.1))
  clear c0 c1
  go_wp2_with fail
  refine (a0s _ 81).mono ?_
  rintro _ _ ⟨rfl,rfl⟩
  exact a0u rfl rfl P11.out hne (BADP.out 81 HP.out (by decide) _ B11.out)
 have b1:(v1==0)=true:=by simpa using c1
 by_cases c2:v2=0
 case neg=>
  have b2:(v2==0)=false:=by simpa using c2
  have HP:=c3o (HBE.out (fun h=>c2 h.2.2.1))
  clear c0 c1 c2
  go_wp2_with fail
  refine (a0s _ 81).mono ?_
  rintro _ _ ⟨rfl,rfl⟩
  exact a0u rfl rfl P11.out hne (BADP.out 81 HP.out (by decide) _ B11.out)
 have b2:(v2==0)=true:=by simpa using c2
 by_cases c3:v3=v4
 case neg=>
  have b3:(v3==v4)=false:=by simpa using c3
  have HP:=c3o (HBE.out (fun h=>c3 h.2.2.2.1))
  clear c0 c1 c2 c3
  go_wp2_with fail
  refine (a0s _ 81).mono ?_
  rintro _ _ ⟨rfl,rfl⟩
  exact a0u rfl rfl P11.out hne (BADP.out 81 HP.out (by decide) _ B11.out)
 have b3:(v3==v4)=true:=by simpa using c3
 by_cases c4:v6+v5=(en:Int)
 case neg=>
  have b4:(v6+v5==(en:Int))=false:=by simpa using c4
  have HP:=c3o (HBE.out (fun h=>c4 h.2.2.2.2.1))
  clear c0 c1 c2 c3 c4
  go_wp2_with fail
  refine (a0s _ 81).mono ?_
  rintro _ _ ⟨rfl,rfl⟩
  exact a0u rfl rfl P11.out hne (BADP.out 81 HP.out (by decide) _ B11.out)
 have b4:(v6+v5==(en:Int))=true:=by simpa using c4
 by_cases c5:v7=0
 case neg=>
  have b5:(v7==0)=false:=by simpa using c5
  have HP:=c3o (HBE.out (fun h=>c5 h.2.2.2.2.2))
  clear c0 c1 c2 c3 c4 c5
  go_wp2_with fail
  refine (a0s _ 81).mono ?_
  rintro _ _ ⟨rfl,rfl⟩
  exact a0u rfl rfl P11.out hne (BADP.out 81 HP.out (by decide) _ B11.out)
 have b5:(v7==0)=true:=by simpa using c5
 have HEND:Hid (ZEnd xs en):=c3o (HZE.out.2 ⟨c0,c1,c2,c3,c4,c5⟩)
 have H4:=c3o c4
 clear c0 c1 c2 c3 c4 c5 HBE HZE
 go_wp2_with fail
 refine (a1J _ 81).mono ?_
 rintro _ wz ⟨rfl,hwz⟩
 obtain rfl:w11=wz:=hwz.symm
 clear hwz b0 b1 b2 b3 b4 b5 sS
 obtain⟨N,hN⟩:∃ z:Nat,(z:Int)=v3:=⟨v3.toNat,Int.toNat_of_nonneg HV3.out.1⟩
 obtain⟨fs,hfs⟩:∃ z:Nat,(z:Int)=v6:=⟨v6.toNat,Int.toNat_of_nonneg HV6.out.1⟩
 rw[<-hN,<-hfs]
 have HNM:Hid (a4z xs=N):=c3o (by
  unfold a4z
  rw[HX.out,<-HEN.out,show en+8=en+4+2+2 from rfl,<-V3.out,<-hN]
  exact c3w _)
 have HFS:Hid (a1U xs=fs):=c3o (by
  unfold a1U
  rw[HX.out,<-HEN.out,show en+16=en+4+2+2+2+2+4 from rfl,<-V6.out,<-hfs]
  exact c3w _)
 have hfe:fs<=en:=by
  have h1:=H4.out
  have h2:=(a1C HZ.out.byte (p:=en+4+2+2+2+2) (by rw[HX.out];omega)).1
  rw[<-V5.out] at h2
  omega
 have HZ2:Hid (zpieces xs=if 64<N then (86,[]) else a1n xs fs en N fs 0 []):=c3o (by rw[HZ1.out,if_neg (fun h=>h HEND.out),HNM.out,HFS.out])
 clear hN hfs HV3 HV6 HZ1 H4
 by_cases q64:N<=64
 case neg=>
  have HP:Hid (zpieces xs=(86,[])):=c3o (by rw[HZ2.out,if_pos (by omega)])
  have t1:decide ((N:Int)<=64)=false:=c3C (by omega)
  have t1':decide (N<=64)=false:=c3C q64
  clear q64
  go_wp2_with fail
  refine (a0s _ 86).mono ?_
  rintro _ _ ⟨rfl,rfl⟩
  exact a0u rfl rfl P11.out hne (BADP.out 86 HP.out (by decide) _ B11.out)
 have t1:decide ((N:Int)<=64)=true:=c3x (by omega)
 have t1':decide (N<=64)=true:=c3x q64
 have HZ3:Hid (zpieces xs=a1n xs fs en N fs 0 []):=c3o (by rw[HZ2.out,if_neg (by omega)])
 have hmm:=@run_makeMap Tryz.prog
 clear HZ2
 go_wp2_with fail
 refine (a1J _ 86).mono ?_
 rintro _ wz ⟨rfl,hwz⟩
 obtain rfl:w11=wz:=hwz.symm
 clear hwz t1 t1'
 go_wp2_with fail
 obtain⟨B,hB⟩:∃ z,z=w11.heap.size:=⟨_,rfl⟩
 obtain⟨G,hG⟩:∃ z,z=B+1:=⟨_,rfl⟩
 obtain⟨w12,hw12⟩:∃ z,z=(w11.alloc (.map #[] 0)).alloc (.cells #[.slice A n c,.int .i64 fs,.int .i64 en,.slice A n c,.int .i64 fs,.int .i64 0,.map (some w11.heap.size)] 122):=⟨_,rfl⟩
 have k12:Keeps [] w11 w12:=by rw[hw12];exact ((Keeps.refl [] _).alloc _).alloc _
 have G12:Blk w12 G 122 [.slice A n c,.int .i64 fs,.int .i64 en,.slice A n c,.int .i64 fs,.int .i64 0,.map (some B)]:=by
  have:=a0d (w11.alloc (.map #[] 0)) 122 [.slice A n c,.int .i64 fs,.int .i64 en,.slice A n c,.int .i64 fs,.int .i64 0,.map (some w11.heap.size)]
  rw[c3Q,<-hB,<-hG] at this
  rw[hw12,<-hB];exact this
 have M12:Hid (SetM w12 B []):=c3o (by rw[hw12,hB];exact (b4v w11).keeps (S:=[]) ((Keeps.refl [] _).alloc _) (by simp))
 have R12:Hid (RDR w12 G A n c fs en 0 B):=c3o ⟨G12.cell 0,G12.cell 1,G12.cell 2,G12.cell 5,G12.cell 6,G12.frozen 5⟩
 have hEw:E<w2.heap.size:=E2.out.lt
 have hw11:w2.heap.size<=w11.heap.size:=K11.out.size
 have hAold:∀ a,A=some a->a.block<w.heap.size:=HZ.out.old
 have hw0:w.heap.size<=w2.heap.size:=B2.out.size
 have F12:Hid (FD w12 G 3 A n c fs):=c3o ⟨G12.cell 3,G12.cell 4,G12.frozen 4,fun a ha he=>by have h1:=hAold a ha;omega⟩
 have O12:Hid (Blk w12 O 73 [.slice none 0 0]):=c3o (O2.out.keeps (K11.out.trans k12) (by simp))
 have E12:Hid (Blk w12 E 27 [.int .i64 0]):=c3o (E2.out.keeps (K11.out.trans k12) (by simp))
 have B12:Hid (Below w.heap.size w w12):=c3o (B11.out.trans (a0c k12 B11.out.size (by simp)))
 have hGw:G<w12.heap.size:=G12.lt
 have hEB:E<B:=by omega
 have hOE2:O<E:=by have:=HEE.out;omega
 have hwO:w.heap.size<=O:=by have:=HOO.out;omega
 have hAB:∀ a,A=some a->a.block<O:=fun a ha=>by have:=hAold a ha;omega
 have HAB:=c3o hAB
 have hGB:B<G:=by omega
 rw[<-hw12,<-hB,<-hG]
 clear hw12 k12 G12 hB hG hEw hw11 hAold hw0 hAB O2 E2 P2 P11 B11 K11 Z2 F11 hmm
 go_loopw [78] (fun iv wr=>∃ (i rp at_:Nat) (acc:List ZP) (AO:Option Addr) (cO:Nat),i<=N/\iv=.int .i64 i/\rp<=en/\at_<=fs/\acc.length=i/\Hid (zpieces xs=a1n xs fs en (N-i) rp at_ acc)/\Hid (RDR wr G A n c fs en at_ B)/\Hid (FD wr G 3 A n c rp)/\Hid (SetM wr B (znames acc))/\Hid (Blk wr O 73 [.slice AO i cO]) /\
  Hid (wr.ownsRow (G+1) 77 6 (.slice AO i cO) i (acc.flatMap (pcz A c)))/\Hid (Blk wr E 27 [.int .i64 0])/\Hid (Below w.heap.size w wr)/\G<wr.heap.size) (fun iv _=>N-(intOf iv).toNat)
 case atStart=>exact⟨0,fs,0,[],none,0,by omega,rfl,by omega,by omega,rfl,HZ3,R12,F12,M12,O12,c3o (World.ownsRow_nil _ _ _ _),E12,B12,hGw⟩
 case round=>
  clear HZ3 R12 F12 M12 O12 E12 B12 hGw
  obtain⟨i,rp,at_,acc,AO,cO,hi,rfl,hrp,hat,hal,HZL,HR,HF,HM,HO,HOW,HE,HB,hGw⟩:=hrel
  have POE:Hid (OE wr O E):=c3o ⟨⟨_,HO.out.cell 0⟩,⟨_,HE.out.cell 0⟩,HO.out.frozen 0,HE.out.frozen 0⟩
  have hkn:(znames acc).length<=100000:=by unfold znames;rw[List.length_map];omega
  by_cases hlt:i<N
  ·have e0:decide (i<N)=true:=c3x hlt
   have HZS:Hid (zpieces xs=if zwrong xs fs en rp at_ (znames acc)=0 then a1n xs fs en (N-(i+1)) (rp+46+a0V xs rp) (at_+30+a0V xs rp+(zrecI xs rp).packed.toNat) (acc++[a1w xs rp at_]) else (zwrong xs fs en rp at_ (znames acc),[])):=c3o (by
    rw[HZL.out,show N-i=(N-(i+1))+1 by omega,a1n])
   have NC:Hid (∀ w',Keeps [] wr w'->Calls Tryz.prog 76 #[.pointer (some ⟨G,0,none⟩)] w' (NextP w' G A n c xs fs en rp at_ B (znames acc))):=c3o (fun w' hk=>
    b3K w' G A n c xs fs en rp at_ B (znames acc) (HR.out.keeps hk (by simp)) (HF.out.keeps hk (by simp)) ((HZ.out.keeps (Keeps.of_below HB.out (S:=[])) (a0a _)).keeps hk (a0a _)) (HM.out.keeps hk (by simp)) (by omega) (fun a ha=>by have:=HAB.out a ha;omega) hfe (by omega) hrp hat hkn)
   have o0:=HO.out.cell 0
   have of:=HO.out.frozen 0
   simp only[c3p] at o0
   clear HZL
   go_upto_region 12 with (fail)
   by_cases hz0:zwrong xs fs en rp at_ (znames acc)=0
   ·obtain⟨z1,z2,z3,z4,z5,z6,z7,z8⟩:=b3M hz0
    have hrl:rp+46+a0V xs rp<=en:=z1.2.2.2.2.2.2
    have hpk:0<=(zrecI xs rp).packed:=(a1C HZ.out.byte (p:=rp+6+14) (by rw[HX.out];omega)).1
    have hat2:at_+30+a0V xs rp+(zrecI xs rp).packed.toNat<=fs:=by omega
    have HZT:Hid (zpieces xs=a1n xs fs en (N-(i+1)) (rp+46+a0V xs rp) (at_+30+a0V xs rp+(zrecI xs rp).packed.toNat) (acc++[a1w xs rp at_])):=c3o (by rw[HZS.out,if_pos hz0])
    have hzn:znames (acc++[a1w xs rp at_])=znames acc++[a2N xs rp]:=by unfold znames;rw[List.map_append];rfl
    obtain⟨nm,hnm⟩:∃ z,z=a2N xs rp:=⟨_,rfl⟩
    obtain⟨a1,ha1⟩:∃ z,z=(zrecI xs rp).size:=⟨_,rfl⟩
    obtain⟨a2,ha2⟩:∃ z,z=(zrecI xs rp).packed:=⟨_,rfl⟩
    obtain⟨a3,ha3⟩:∃ z,z=(zrecI xs rp).sum:=⟨_,rfl⟩
    obtain⟨a4,ha4⟩:∃ z,z=(zrecI xs rp).way:=⟨_,rfl⟩
    obtain⟨CA,hCA⟩:∃ z,z=cutA A (at_+30+a0V xs rp) c:=⟨_,rfl⟩
    obtain⟨cn,hcn⟩:∃ z,z=c-(at_+30+a0V xs rp):=⟨_,rfl⟩
    obtain⟨ln,hln⟩:∃ z,z=(zrecI xs rp).packed.toNat:=⟨_,rfl⟩
    have HPC:Hid (pcz A c (a1w xs rp at_)=[.string nm,.int .i64 a1,.int .i64 a2,.int .u32 a3,.int .i64 a4,.slice CA ln cn]):=c3o (by
     rw[hnm,ha1,ha2,ha3,ha4,hCA,hcn,hln];rfl)
    have HOK:Hid (∀ w',Keeps [] wr w'->Calls Tryz.prog 76 #[.pointer (some ⟨G,0,none⟩)] w' fun r w2=>r=.returned (.agg #[.string nm,.int .i64 a1,.int .i64 a2,.int .u32 a3,.int .i64 a4,.slice CA ln cn])/\Keeps [G,B] wr w2 /\
      Hid (RDR w2 G A n c fs en (at_+30+a0V xs rp+(zrecI xs rp).packed.toNat) B)/\Hid (FD w2 G 3 A n c (rp+46+a0V xs rp))/\Hid (SetM w2 B (znames (acc++[a1w xs rp at_])))):=c3o (fun w' hk=>by
     refine (NC.out w' hk).mono ?_
     rintro r w2 ⟨hk2,⟨h0,-⟩|⟨-,rfl,h1,h2,h3⟩⟩
     ·exact absurd hz0 h0
     ·rw[hzn,hnm,ha1,ha2,ha3,ha4,hCA,hcn,hln]
      exact⟨rfl,(hk.mono (by simp)).trans hk2,c3o h1,c3o h2,c3o h3⟩)
    obtain⟨p,hp⟩:∃ z,z=a1w xs rp at_:=⟨_,rfl⟩
    obtain⟨at2,hat⟩:∃ z,z=at_+30+a0V xs rp+(zrecI xs rp).packed.toNat:=⟨_,rfl⟩
    obtain⟨rp2,hrp2⟩:∃ z,z=rp+46+a0V xs rp:=⟨_,rfl⟩
    rw[<-hp] at HPC HOK HZT
    rw[<-hat] at HOK HZT hat2
    rw[<-hrp2] at HOK HZT hrl
    clear z1 z2 z3 z4 z5 z6 z7 z8 hz0 HZS hzn hnm ha1 ha2 ha3 ha4 hCA hcn hln hp hat hrp2 NC hpk
    have hO1:O≠G:=by omega
    have REL:Hid (∀ w2 w3 g3 c3,Keeps [G,B] wr w2->Hid (RDR w2 G A n c fs en at2 B)->Hid (FD w2 G 3 A n c rp2)->Hid (SetM w2 B (znames (acc++[p])))->Keeps (Value.slice AO i cO).ownBlock.toList w2 w3->w3.ownsRow (G+1) 77 6 (.slice (some ⟨g3,0,none⟩) (i+1) c3) (i+1) ((acc++[p]).flatMap (pcz A c)) ->
      Hid (RDR (w3.setCell ⟨O,0,none⟩ (.slice (some ⟨g3,0,none⟩) (i+1) c3)) G A n c fs en at2 B)/\Hid (FD (w3.setCell ⟨O,0,none⟩ (.slice (some ⟨g3,0,none⟩) (i+1) c3)) G 3 A n c rp2)/\Hid (SetM (w3.setCell ⟨O,0,none⟩ (.slice (some ⟨g3,0,none⟩) (i+1) c3)) B (znames (acc++[p])))/\Hid (Blk (w3.setCell ⟨O,0,none⟩ (.slice (some ⟨g3,0,none⟩) (i+1) c3)) O 73 [.slice (some ⟨g3,0,none⟩) (i+1) c3]) /\
      Hid ((w3.setCell ⟨O,0,none⟩ (.slice (some ⟨g3,0,none⟩) (i+1) c3)).ownsRow (G+1) 77 6 (.slice (some ⟨g3,0,none⟩) (i+1) c3) (i+1) ((acc++[p]).flatMap (pcz A c)))/\Hid (Blk (w3.setCell ⟨O,0,none⟩ (.slice (some ⟨g3,0,none⟩) (i+1) c3)) E 27 [.int .i64 0])/\Hid (Below w.heap.size w (w3.setCell ⟨O,0,none⟩ (.slice (some ⟨g3,0,none⟩) (i+1) c3)))/\G<(w3.setCell ⟨O,0,none⟩ (.slice (some ⟨g3,0,none⟩) (i+1) c3)).heap.size):=c3o (fun w2 w3 g3 c3 hk2 hR2 hF2 hM2 k3 ho3=>by
     have hlo:∀ x∈(Value.slice AO i cO).ownBlock.toList,G+1<=x:=fun x hx=>a0j HOW.out x (Option.mem_toList.1 hx)
     have kO:Keeps [O] w3 (w3.setCell ⟨O,0,none⟩ (.slice (some ⟨g3,0,none⟩) (i+1) c3)):=(Keeps.refl [O] w3).setCell (p:=⟨O,0,none⟩) (.inl (by simp)) _
     refine⟨c3o ((hR2.out.keeps k3 (fun hm=>by have:=hlo G hm;omega)).keeps kO (by simp;omega)),c3o ((hF2.out.keeps k3 (fun hm=>by have:=hlo G hm;omega)).keeps kO (by simp;omega)),c3o ((hM2.out.keeps k3 (fun hm=>by have:=hlo B hm;omega)).keeps kO (by simp;omega)),
      c3o (((HO.out.keeps hk2 (by simp;omega)).keeps k3 (fun hm=>by have:=hlo O hm;omega)).set 0 _),c3o (a0b ho3 kO (fun g hg hm=>by have:=a0j ho3 g hg;simp at hm;omega)),c3o (((HE.out.keeps hk2 (by simp;omega)).keeps k3 (fun hm=>by have:=hlo E hm;omega)).keeps kO (by simp;omega)),c3o ?_,?_⟩
     ·have b2:=HB.out.trans (a0c hk2 HB.out.size (fun x hx=>by simp at hx;omega))
      have b3:=b2.trans (a0c k3 b2.size (fun x hx=>by have:=hlo x hx;omega))
      exact b3.trans (a0c kO b3.size (fun x hx=>by simp at hx;omega))
     ·have h1:=hk2.size;have h2:=k3.size;have h3:=kO.size;omega)
    refine wp_region_noPanic ?_
    go_region_law (first
      | (refine c1M c0q (a4o A c) (c1E A c) rfl (.tmp 80) (.tmp 83) rfl (G+1) _ i acc rfl (a0b HOW.out (hk2.alloc _) (fun g hg hm=>by have:=a0j HOW.out g hg;simp at hm;omega)) w2.heap.size p rfl (fun j hj=>by rw[HPC.out];exact (a0d w2 77 [.string nm,.int .i64 a1,.int .i64 a2,.int .u32 a3,.int .i64 a4,.slice CA ln cn]).cell j) (by omega) (by have:=hk2.size;simp;omega) ?_;intro g3 c3 w3 ho3 hg3;have k3:Keeps (Value.slice AO i cO).ownBlock.toList w2 w3:=⟨hg3.os,hg3.tape,hg3.output,Nat.le_trans (by simp) hg3.size,fun k hk hm=>(hg3.block k (by simp;omega) (fun e=>hm (Option.mem_toList.2 e.symm))).trans (Below.heap_alloc _ _ _ hk)⟩;have hlo:∀ x∈(Value.slice AO i cO).ownBlock.toList,G+1<=x:=fun x hx=>a0j HOW.out x (Option.mem_toList.1 hx);have q3:=k3.cell (p:=⟨O,0,none⟩) (fun hm=>by have:=hlo O hm;omega) q1;have q4:=(k3.frozen (p:=⟨O,0,none⟩) (c3L _ _ q1) (fun hm=>by have:=hlo O hm;omega)).trans q2)
      | (refine a7N (f:=76) (args:=#[.pointer (some ⟨G,0,none⟩)]) rfl (by first|kernel_rfl|(simp[go_sem];done)|go_simp) ?_;refine (HOK.out _ (by repeat (first|exact Keeps.refl _ _|apply Keeps.drewN|apply Keeps.drew))).mono ?_;rintro _ w2 ⟨rfl,hk2,HR2,HF2,HM2⟩;refine⟨_,rfl,?_⟩;have q1:=hk2.cell (p:=⟨O,0,none⟩) (by simp;omega) o0;have q2:=(hk2.frozen (p:=⟨O,0,none⟩) HO.out.lt (by simp;omega)).trans of;have q6:∀ o,(w2.alloc o).cell? ⟨O,0,none⟩=some (.slice AO i cO):=fun o=>((Keeps.refl [] w2).alloc o).cell (p:=⟨O,0,none⟩) (by simp) q1))
    all_goals (
     refine NoPanic.normal ?_
     obtain⟨RL1,RL2,RL3,RL4,RL5,RL6,RL7,RL8⟩:=REL.out w2 w3 g3 c3 hk2 HR2 HF2 HM2 k3 ho3
     clear REL HOK HR HF HM HO HOW HE HB POE
     go_wp2_with fail
     go_roundw
     case rel=>exact⟨i+1,rp2,at2,acc++[p],some ⟨g3,0,none⟩,c3,by omega,by go_num,hrl,hat2,by rw[c3q,hal];rfl,HZT,RL1,RL2,RL3,RL4,RL5,RL6,RL7,RL8⟩
     case measure=>simp[intOf];omega)
   ·have HP:Hid (zpieces xs=(zwrong xs fs en rp at_ (znames acc),[])):=c3o (by rw[HZS.out,if_neg hz0])
    have HZN:=c3o hz0
    clear hz0 HZS
    refine wp_region_any (by kernel_rfl) ?_
    change wpAny _ _ _ _ _ _ _ (World.drew _)
    refine c4a (rs:=[0,1]) (by kernel_rfl) (by simp) ?_
    refine c3O rfl (fun K hK=>?_) ?_
    ·go_simp
     refine hK _ _ ?_
     clear hK K
     refine c4a (rs:=[1]) (by kernel_rfl) (by simp) ?_
     refine c3O rfl (fun K hK=>?_) ?_
     ·go_simp
      refine hK _ _ ?_
      clear hK K
      refine c4a (rs:=[2]) (by kernel_rfl) (by simp) ?_
      refine c3O rfl (fun K hK=>?_) ?_
      ·go_simp
       refine (NC.out _ (by repeat (first|exact Keeps.refl _ _|apply Keeps.drew|apply Keeps.drewN))).mono ?_
       rintro r wp ⟨hk,hor⟩
       rcases hor with⟨h0,rfl⟩|⟨h0,-⟩
       rotate_left
       ·exact absurd h0 HZN.out
       exact a0u rfl rfl ((POE.out.keeps (S:=[]) ((Keeps.refl [] wr).drew) (by simp) (by simp)).keeps hk (by simp;omega) (by simp;omega)) hne (BADP.out _ HP.out HZN.out _ (HB.out.trans (a0c (((Keeps.refl [G,B] wr).drew).trans hk) HB.out.size (fun x hx=>by simp at hx;omega))))
      exact c3Z
     exact c3Z
    refine c3O rfl (fun K hK=>?_) ?_
    ·go_simp
     refine hK _ _ ?_
     clear hK K
     refine c4a (rs:=[0,2]) (by kernel_rfl) (by simp) ?_
     refine c3O rfl (fun K hK=>?_) ?_
     ·go_simp
      refine hK _ _ ?_
      clear hK K
      refine c4a (rs:=[2]) (by kernel_rfl) (by simp) ?_
      refine c3O rfl (fun K hK=>?_) ?_
      ·go_simp
       refine (NC.out _ (by repeat (first|exact Keeps.refl _ _|apply Keeps.drew|apply Keeps.drewN))).mono ?_
       rintro r wp ⟨hk,hor⟩
       rcases hor with⟨h0,rfl⟩|⟨h0,-⟩
       rotate_left
       ·exact absurd h0 HZN.out
       exact a0u rfl rfl ((POE.out.keeps (S:=[]) ((Keeps.refl [] wr).drew) (by simp) (by simp)).keeps hk (by simp;omega) (by simp;omega)) hne (BADP.out _ HP.out HZN.out _ (HB.out.trans (a0c (((Keeps.refl [G,B] wr).drew).trans hk) HB.out.size (fun x hx=>by simp at hx;omega))))
      exact c3Z
     refine c3O rfl (fun K hK=>?_) ?_
     ·go_simp
      refine (NC.out _ (by repeat (first|exact Keeps.refl _ _|apply Keeps.drew|apply Keeps.drewN))).mono ?_
      rintro r wp ⟨hk,hor⟩
      rcases hor with⟨h0,rfl⟩|⟨h0,-⟩
      rotate_left
      ·exact absurd h0 HZN.out
      exact a0u rfl rfl ((POE.out.keeps (S:=[]) ((Keeps.refl [] wr).drew) (by simp) (by simp)).keeps hk (by simp;omega) (by simp;omega)) hne (BADP.out _ HP.out HZN.out _ (HB.out.trans (a0c (((Keeps.refl [G,B] wr).drew).trans hk) HB.out.size (fun x hx=>by simp at hx;omega))))
     exact c3Z
    exact c3Z
  ·have hiN:i=N:=by omega
   have e0:decide (i<N)=false:=c3C hlt
   have HZF:Hid (zpieces xs=if rp=en/\at_=fs then (0,acc) else (81,[])):=c3o (by rw[HZL.out,hiN,Nat.sub_self,a1n])
   have r4:=HF.out.c1
   have r5:=HR.out.c5
   have o0:=HO.out.cell 0
   have of:=HO.out.frozen 0
   have ee:=HE.out.cell 0
   have ef:=HE.out.frozen 0
   simp only[c3p] at o0 ee
   clear hiN HZL
   by_cases y1:rp=en
   case neg=>
    have b1:((rp:Int)==(en:Int))=false:=by simp;omega
    have HP:Hid (zpieces xs=(81,[])):=c3o (by rw[HZF.out,if_neg (fun h=>y1 h.1)])
    clear y1
    go_wp2_with fail
    refine (a0s _ 81).mono ?_
    rintro _ _ ⟨rfl,rfl⟩
    exact a0u rfl rfl POE.out hne (BADP.out 81 HP.out (by decide) _ HB.out)
   have b1:((rp:Int)==(en:Int))=true:=by simp;omega
   by_cases y2:at_=fs
   case neg=>
    have b2:((at_:Int)==(fs:Int))=false:=by simp;omega
    have HP:Hid (zpieces xs=(81,[])):=c3o (by rw[HZF.out,if_neg (fun h=>y2 h.2)])
    clear y1 y2
    go_wp2_with fail
    refine (a0s _ 81).mono ?_
    rintro _ _ ⟨rfl,rfl⟩
    exact a0u rfl rfl POE.out hne (BADP.out 81 HP.out (by decide) _ HB.out)
   have b2:((at_:Int)==(fs:Int))=true:=by simp;omega
   have HP:Hid (zpieces xs=(0,acc)):=c3o (by rw[HZF.out,if_pos ⟨y1,y2⟩])
   clear y1 y2 HZF
   go_wp2_with fail
   refine (a1J _ 81).mono ?_
   rintro _ wz ⟨rfl,hwz⟩
   obtain rfl:wr=wz:=hwz.symm
   clear hwz b1 b2
   have kE:∀ v,(wr.setCell ⟨O,0,none⟩ v).cell? ⟨E,0,none⟩=some (.int .i64 0):=fun v=>(c3r _ _ _ _ (by simpa using hne)).trans ee
   have fE:∀ v,(wr.setCell ⟨O,0,none⟩ v).frozen? ⟨E,0,none⟩=false:=fun v=>(c3X _ _ _ _).trans ef
   go_wp2_with fail
   have kk:Keeps [O,E] wr ((wr.setCell ⟨O,0,none⟩ (.slice AO i cO)).setCell ⟨E,0,none⟩ (.int .i64 0)):=((Keeps.refl [O,E] wr).setCell (p:=⟨O,0,none⟩) (.inl (by simp)) _).setCell (p:=⟨E,0,none⟩) (.inl (by simp)) _
   refine b1f rfl rfl (v:=.slice AO i cO) (u:=.int .i64 0) ((c3r _ _ _ _ (by simpa using hne.symm)).trans (c3D _ _ _ o0)) (c3D _ _ _ (kE _)) ?_
   refine⟨.slice AO i cO,by rw[HP.out],fun h=>absurd (by rw[HP.out]) h,fun _=>?_,HB.out.trans (a0c kk HB.out.size (fun x hx=>by simp at hx;omega))⟩
   rw[HP.out]
   dsimp only
   rw[hal]
   exact a0b (a1b HOW.out (by omega)) kk (fun g hg hm=>by have:=a0j HOW.out g hg;simp at hm;omega)
end Go.Proofs.YtghjlpechjggjaaGreatDoor
