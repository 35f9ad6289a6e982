import Derived.Test.YtghjlpechjggjaaGreatDoorZshD
set_option linter.defProp false
set_option linter.unnecessarySimpa false
set_option linter.unusedVariables false
set_option linter.unusedSimpArgs false
set_option linter.constructorNameAsVariable false
set_option maxRecDepth 100000
set_option maxHeartbeats 60000000
namespace Go.Proofs.YtghjlpechjggjaaGreatDoor
open Go.RowKit
theorem b4D {ops:Array Oper} {rest:List Oper} {o:Oper} {a:Act} {Q:Exit->Act->World->Prop} {w:World} (hgd:o.guard=none) (sl x:Operand)
  (ho:o.op=.call { callee:=.builtin .append,args:=#[sl,x],argTypes:=#[26,9] })
  (base:Nat) (v:Value) (n:Nat) (xs:List Int) (hs:a.eval sl=v) (hown:w.ownsRow base 5 1 v n (ints .u8 xs)) (s:ByteArray) (hx:a.eval x=.string s)
  (hn:n+s.size<=8000000000) (hbase:base<=w.heap.size)
  (h:∀ v' w',w'.ownsRow base 5 1 v' (n+s.size) (ints .u8 (xs++sb s))->w.grownBy w' v.ownBlock->wpList Tryz.prog ops Q rest (a.put o.dst v') w'):wpList Tryz.prog ops Q (o::rest) a w:=by
 obtain⟨i0,hi,hz0,hz1,hz2⟩:=info_parts a2F
 obtain⟨v',w',hrun,ho',hg,-⟩:=Lib.run_append_own_string (P:=Tryz.prog) w base 26 9 o.type 5 i0 Tryz.underlying26 Tryz.underlying9 hi hz0 hz1 hz2 v n (ints .u8 xs) hown s (by unfold maxLen;omega) (by omega) hbase
 refine wpList_plain hgd fun K hK=>?_
 unfold Oper.wp execOp
 simp only[ho,resolve,invoke,builtin,Sem.run_bind,Sem.run_pure,Result.andThen_ok,List.map_toArray,List.map_cons,List.map_nil,hs,hx,hrun]
 have e:ints .u8 (xs++sb s)=ints .u8 xs++Lib.strCells s:=by rw[b2N];simp[ints]
 exact hK _ _ (h v' w' (by rw[e];exact ho') hg)
end Go.Proofs.YtghjlpechjggjaaGreatDoor
