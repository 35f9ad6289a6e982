/-
  Names are taken just as the document says: of any text.
-/
import Derived.Test.YtghjlpechjggjaaGreatDoorZshP
import Derived.Test.YtghjlpechjggjaaGreatDoorZshO
import Derived.Test.YtghjlpechjggjaaGreatDoorZshH
set_option linter.defProp false
set_option linter.unnecessarySimpa false
set_option linter.unusedVariables false
set_option linter.unusedSimpArgs false
set_option linter.constructorNameAsVariable false
set_option maxRecDepth 100000
set_option maxHeartbeats 60000000
namespace Go.Proofs.YtghjlpechjggjaaGreatDoor
open Go.RowKit
theorem zipNames_walk(w:World)(s:ByteArray)(hT:Tabz w)(hs:s.size<=9223372036854775807) :
  Calls Tryz.prog 3 #[.string s] w fun e w'=>e=.returned (.bool true)/\Keeps [] w w':=by
 have HT:=Lib.hid hT
 clear hT
 by_cases h:16777216<s.size
 ·have e0:decide ((16777216:Int)<(s.size:Int))=true:=decide_eq_true (by omega)
  have e0':decide (16777216<s.size)=true:=decide_eq_true h
  clear h
  go_enter Tryz.func3,Tryz.ntmps3
  go_wp2_with fail
  refine (b8w w HT.out).mono ?_
  rintro _ w1 ⟨rfl,hk⟩
  go_wp2_with fail
  go_ret
  exact⟨rfl,hk⟩
 ·have e0:decide ((16777216:Int)<(s.size:Int))=false:=decide_eq_false (by omega)
  have e0':decide (16777216<s.size)=false:=decide_eq_false h
  have hs2:s.size<=1000000000:=by omega
  go_enter Tryz.func3,Tryz.ntmps3
  go_wp2_with fail
  refine (b8w w HT.out).mono ?_
  rintro _ w1 ⟨rfl,hk⟩
  have K1:=Lib.hid hk
  clear hk
  go_wp2_with fail
  refine (a3t w1 s hs2).mono ?_
  rintro _ w2 ⟨rfl,hb⟩
  have K2:=Lib.hid (K1.out.trans (Keeps.of_below hb (S:=[])))
  clear hb K1
  go_wp2_with fail
  refine (b1m w2 s hs2).mono ?_
  rintro _ wz ⟨rfl,hwz⟩
  obtain rfl:w2=wz:=hwz.symm
  clear hwz
  have t0:(nameB s==nameB s)=true:=by simp
  generalize nameB s=b at *
  go_wp2_with fail
  go_ret
  exact⟨rfl,K2.out⟩
end Go.Proofs.YtghjlpechjggjaaGreatDoor
/-
 Names are taken just as the document says: of any text.
-/
namespace Go.Proofs.YtghjlpechjggjaaGreatDoor.zipNames
open Go.ChangeShapes Go.WideShapes Go.ChangeAt Go.RowKit
theorem contract (H:Type) (enc:TypeId×Value->H) (W:World) (base:Nat) (args:Array Value) (ds gs:List (DataW H)) (before:List MemPlace)
  (hval:∀ (j:Nat) t v,Tryz.f3.params[j]? =some t->args[j]? =some v->Value.okWide Tryz.prog W .any base t v)
  (hW:DataW.Whole enc Tryz.prog Tryz.f3.params.toList Rows.zipNamesSpec.vars false W args.toList ds gs before) (hL:laidMetH Tryz.prog Rows.zipNamesRow.laid W) :
  Calls Tryz.prog 3 args W fun e W'=>∃ v,e=.returned v/\Rows.zipNamesSpec.post enc Tryz.prog Tryz.f3 false true false false W args v W':=by
 have hT : Tabz W := c1j (laidMet.filter (fun x => x.1 == "haversack/lens.order" || x.1 == "haversack/lens.wide" || x.1 == "haversack/lens.from") hL) (laidMet.filter (fun x => x.1 == "haversack/little.steps") hL)
 have hW':=hW
 obtain⟨p,q,hA0,hV,rfl,hfz,hnd⟩:=hW
 have hA:DataW.TrodAll enc Tryz.prog W 0 (fun _=>true) true Tryz.f3.params.toList args.toList ds p:=hA0
 rw[Tryz.params3] at hA hval
 obtain⟨v0,vs0,d0,ds0,p0,q0,hargs,rfl,rfl,h0,r0⟩:=trodAll_cons hA
 obtain⟨rfl,rfl,rfl⟩:=trodAll_nil r0
 obtain rfl:args=#[v0]:=by cases args;simp_all
 obtain⟨rfl,rfl⟩:=trodVars_none hV
 obtain⟨a0,rfl,rfl,rfl,w0⟩:=Go.ChangeMaps.open_string Tryz.underlying9 (hval 0 9 v0 rfl rfl) h0
 clear hA0
 refine (zipNames_walk W a0 hT w0).mono fun e W' ⟨he,hk⟩=>?_
 have bel:=hk.below
 subst he
 exact⟨_,rfl,_,_,_,[],_,[],hW',trodAll_mk1 (shut_bool Tryz.underlying4 _),(trodAll_cons_mk (Go.ChangeMaps.shut_string Tryz.underlying9 w0) trodAll_mk0),rfl,bel.frame _,fun h=>by cases h⟩
theorem reads(os:Os){H:Type}(enc:TypeId×Value->H):∃ places,DataW.whole enc Tryz.prog ((laidWorldZ os).forCall (fun _ _=>0) ⟨#[],#[.string ⟨#[]⟩],[]⟩).memory Tryz.f3.params.toList Rows.zipNamesSpec.vars false #[Value.string ⟨#[]⟩].toList 8=some ([.lit (.string [])],[],places):=
 ⟨[],by kernel_rfl⟩
theorem lifted(os:Os)(started:os.Started)(H:Type)(enc:TypeId×Value->H)(F:Stop.Interp) :
  ReturnsInHanded {} Tryz.checked os 3 .any ((OpenSpec.ofChange Rows.zipNamesSpec).preRow enc Tryz.prog Tryz.f3 Rows.zipNamesRow.domain false Rows.zipNamesRow.laid) (((OpenSpec.ofChange Rows.zipNamesSpec).at F).post enc Tryz.prog Tryz.f3 false true false false):=by
 obtain⟨places,hx⟩:=reads os enc
 refine returnsInHanded_of_row (C:=Tryz.checked) (s:=OpenSpec.ofChange Rows.zipNamesSpec) own started (by kernel_rfl) Tryz.func3
  (witness_row_at (enc:=enc) (C:=Tryz.checked) false (laidWorldZ os) #[.string ⟨#[]⟩] rfl (by kernel_rfl) (by kernel_rfl) (by kernel_rfl)
   (OpenSpec.preRow_of_cond 8 hx (by kernel_rfl) (fun k hk=>by cases hk) (by kernel_rfl) (c0y os _))) ?_
 intro W base args ds gs before hval hW _ _ _ hL _ _
 exact contract H enc W base args ds gs before hval hW hL
theorem said:Rows.ZipNamesSaid:=
 OpenClaim.holds_of_cond 3 Tryz.f3 rfl rfl rfl rfl rfl rfl rfl ⟨rfl,rfl,rfl,rfl,rfl⟩ rfl rfl rfl rfl rfl (by kernel_rfl) Tryz.func3 (by kernel_rfl)
  (of_decide_eq_true (by kernel_rfl)) (by unfold Func.isWrapper;first|(rw[if_pos (by decide +kernel)];kernel_rfl)|(rw[if_neg (by decide +kernel)];exact⟨rfl,rfl⟩))
  (fun os started H enc _ F=>by rw[OpenClaim.pre_eq_preRow];exact lifted os started H enc F)
theorem plain (f : FuncId) (fn : Func) (hf : Tryz.pinned.checked.prog.funcNamed "haversack/haversacklaw08.ZipNames" = some f) (hfn : Tryz.pinned.checked.prog.funcs[f]? = some fn) :
  true=Tryz.pinned.checked.prog.looks []/\∀ (j:Nat) t,fn.params[j]? =some t->Tryz.pinned.checked.prog.wantsStandIn t=false:=by
 obtain rfl : f = 3 := Option.some.inj ((show Tryz.prog.funcNamed "haversack/haversacklaw08.ZipNames" = some 3 by kernel_rfl).symm.trans hf) |>.symm
 obtain rfl:fn=Tryz.f3:=(Option.some.inj (Tryz.func3.symm.trans hfn)).symm
 refine⟨by kernel_rfl,fun j t ht=>?_⟩
 rw[Tryz.params3] at ht
 have hm:=Array.mem_of_getElem? ht
 obtain rfl:t=9:=by simpa using hm
 exact (show Tryz.prog.wantsStandIn 9=false by kernel_rfl)
theorem card:Rows.ZipNamesCardSaid:=
 Claim7.holds_tied_plain_at .later [] _ _ _ _ said (fun _ h=>by cases h) (by kernel_rfl) (fun _ h=>by cases h) zipNames_row_tie rfl ⟨rfl,rfl⟩ (by kernel_rfl) rfl plain (by kernel_rfl)
#print axioms card
end Go.Proofs.YtghjlpechjggjaaGreatDoor.zipNames
