import Derived.Test.YtghjlpechjggjaaGreatDoorZshC
import Derived.Test.YtghjlpechjggjaaGreatDoorCards
import Derived.Test.YtghjlpechjggjaaGreatDoorTie
import Derived.Test.YtghjlpechjggjaaGreatDoorZshB
import Derived.ProofKit
import Derived.OpenShut
import Derived.ChangeOld
import Derived.Deep.DeepHandedRow
import Derived.Deep.DeepLaidRun
import Derived.Lib.LaidTab
import Derived.Test.YtghjlpechjggjaaGreatDoorZshH
import Derived.Test.YtghjlpechjggjaaGreatDoorZshA
import Derived.Laws.BytesArg
set_option linter.defProp false
set_option linter.unnecessarySimpa false
set_option linter.unusedVariables false
set_option linter.unusedSimpArgs false
set_option linter.constructorNameAsVariable false
set_option maxRecDepth 100000
set_option maxHeartbeats 60000000
namespace Go.Proofs.YtghjlpechjggjaaGreatDoor
open Go.RowKit
open Go.ChangeShapes Go.WideShapes Go.ChangeAt Go.RowKit
theorem slice_to8(w:World)(A:Option Addr)(n c l:Nat)(li:Int)(hli:li=l)(hl:l<=n)(hc:CapOk A n c) :
  (Instr.slice 26 (.slice A n c) none (some (.int .i64 li)) none).run Tryz.prog w=.ok (.slice A l c) w:=by
 obtain⟨h1,-,h3⟩:=hc
 subst hli
 rw[run_slice_h w 26 A n c (by kernel_rfl) .i64 l (by omega) (by omega)]
 have hs:(sizeOf (Tryz.prog.elem 26)).run Tryz.prog w=.ok 1 w:=by kernel_rfl
 rw[hs]
 by_cases h0:c=0
 ·subst h0
  simp[Result.andThen,sliced]
 ·obtain⟨b,o,rfl⟩:=h3 (by omega)
  simp[Result.andThen,sliced,a0t]
theorem laidOut:laidOutB Tryz.prog=true:=by kernel_rfl
end Go.Proofs.YtghjlpechjggjaaGreatDoor
namespace Go.Proofs.YtghjlpechjggjaaGreatDoor
open Go.RowKit
theorem by_all{xs:List Int}(h:xs.all (fun x=>decide (0<=x)&&decide (x<=255))=true)(j:Nat):0<=nth xs j/\nth xs j<=255:=by
 by_cases hj:j<xs.length
 ·have:=List.all_eq_true.1 h (nth xs j) (by rw[a0q hj];exact List.getElem_mem _)
  simpa using this
 ·simp[nth,List.getD,List.getElem?_eq_none (Nat.le_of_not_lt hj)]
theorem conv_str{w:World}{A:Option Addr}{n c:Nat}{xs:List Int}(h:RI .u8 w A n xs)(h1:0<n)(s:ByteArray)(hs:strOfNums xs=s):(convert 26 9 (.slice A n c)).run Tryz.prog w=.ok (.string s) w:=by
 subst hs
 obtain⟨b,o,rfl⟩:=h.hd h1
 exact run_convert_bytes_arg w 26 5 Tryz.underlying26 Tryz.underlying5 b o n c xs h.len (fun i hi=>h.cell b o rfl i hi) 9 Tryz.underlying9
theorem lit_bytes(w:World)(xs:List Int):RI .u8 (w.alloc (.cells (ints .u8 xs).toArray 5)) (some ⟨w.heap.size,0,none⟩) xs.length xs:=by
 have:=Blk.ri (xs:=xs) (ys:=[]) (k:=.u8) (by simpa using a0d w 5 (ints .u8 xs))
 exact this
theorem byte_ofwf{zs:List Int}(h:∀ x∈zs,(Lit.int .u8 x).wf=true)(j:Nat):0<=nth zs j/\nth zs j<=255:=by
 by_cases hj:j<zs.length
 ·have:=h (nth zs j) (by rw[a0q hj];exact List.getElem_mem _)
  simp[Lit.wf] at this
  rwa [show IntKind.u8.min=0 from rfl,show IntKind.u8.max=255 from rfl] at this
 ·simp[nth,List.getD,List.getElem?_eq_none (Nat.le_of_not_lt hj)]
theorem int_ofwf{k:Int}(hk:(Lit.int .i64 k).wf=true):-9223372036854775808<=k/\k<=9223372036854775807:=by
 simp[Lit.wf] at hk
 first
  | exact hk
  | rwa [show IntKind.i64.min=-9223372036854775808 from rfl,show IntKind.i64.max=9223372036854775807 from rfl] at hk
end Go.Proofs.YtghjlpechjggjaaGreatDoor
