import Derived.Test.YtapdelkomkpgmaaGreatDoorRows
import Derived.Test.YtapdelkomkpgmaaGreatDoorQbb
import Derived.Below
import Derived.Test.YtapdelkomkpgmaaGreatDoorTopOver
import Derived.Test.YtapdelkomkpgmaaGreatDoorTopF6
import Derived.Test.YtapdelkomkpgmaaGreatDoorTopF8
import Derived.Test.YtapdelkomkpgmaaGreatDoorTopF9
import Derived.Test.YtapdelkomkpgmaaGreatDoorTopF10
import Derived.Test.YtapdelkomkpgmaaGreatDoorTopF11
import Derived.Test.YtapdelkomkpgmaaGreatDoorCards
import Derived.Test.YtapdelkomkpgmaaGreatDoorTie
import Derived.SevenTiedAt
import Derived.LaidMore
import Derived.OpenShut
import Derived.Stop.Joined
import Derived.ProofKit
namespace Go.Proofs.YtapdelkomkpgmaaGreatDoor.topApart
open Go.Proofs.Tryz
set_option linter.all false
open Go.ChangeShapes Go.WideShapes Go.ChangeAt Go.RowKit Go.Proofs.YtapdelkomkpgmaaGreatDoor
set_option linter.unusedVariables false
def own:ownKnob Aa.godebug=none:=by kernel_rfl
def laidOut:laidOutB Aa=true:=by kernel_rfl
set_option maxRecDepth 100000 in
def lifted(os:Os)(c:os.Started)(H:Type)(enc:AQ×Ap->H):
  ReturnsInHanded {} checked os 3 .any (fun w args=>(Rows.topApartSpec.pre enc Aa f3 Rows.topApartRow.domain false w args/\laidMetH Aa Rows.topApartRow.laid w)/\sizedMet enc Aa f3 (OpenSpec.ofChange Rows.topApartSpec) false w args)
   (Rows.topApartSpec.post enc Aa f3 false true false false):=by
 refine returnsInHanded_of_change_and (C:= checked) (X:=fun w _=>laidMetH Aa Rows.topApartRow.laid w) (fun _ _ _ hh h=>h.of_heap hh) own c (by kernel_rfl) func3
  (ChangeSpec.witness_shaped (enc:=enc) (C:= checked) (os:=os) (X:=fun w _=>laidMetH Aa Rows.topApartRow.laid w) false (World.doorLaid Aa 400 os) FE 8 rfl (JqM os) (JnD os) (by kernel_rfl) (by kernel_rfl) (Qd0 os _)) ?_
 intro W base args ds gs k d L _ _ _ _;have a:∀(j:Nat) t v,f3.params[j]? =some t->args[j]? =some v->Value.okWide Aa W .any base t v:=d;have J:=L;obtain⟨p,q,i,V,rfl,T,ad⟩:=L;have N:DataW.TrodAll enc Aa W 0 (fun _=>true) true f3.params.toList args.toList ds p:=i;rw[params3]at N a;obtain⟨r,Z,d0,ab,p0,q0,E,rfl,rfl,u,r0⟩:=trodAll_cons N;obtain⟨z,S,d1,aa,p1,q1,rfl,rfl,rfl,G,r1⟩:=trodAll_cons r0;obtain⟨s,ah,d2,ag,Q,q2,rfl,rfl,rfl,K,P⟩:=trodAll_cons r1;obtain⟨n,ae,d3,af,p3,q3,rfl,rfl,rfl,I,r3⟩:=trodAll_cons P;obtain⟨M,ai,d4,ac,p4,q4,rfl,rfl,rfl,F,R⟩:=trodAll_cons r3;obtain⟨rfl,rfl,rfl⟩:=trodAll_nil R;obtain rfl:args= #[r,z,s,n,M]:=by cases args;simp_all
 obtain⟨rfl,rfl⟩:=trodVars_none V;have o:∀x∈p0,x.block<W.heap.size:=by obtain⟨m,g⟩:=u;exact DataW.trod_lt m _ _ _ g
 obtain⟨Y,w0,i0⟩:=Jga (a 0 25 r rfl rfl) u;have B:∀x∈p1,x.block<W.heap.size:=by obtain⟨m,g⟩:=G;exact DataW.trod_lt m _ _ _ g
 obtain⟨l1,w1,i1⟩:=JiP (a 1 26 z rfl rfl) G;have y:∀x∈Q,x.block<W.heap.size:=by obtain⟨m,g⟩:=K;exact DataW.trod_lt m _ _ _ g
 obtain⟨l2,w2,U⟩:=Jga (a 2 25 s rfl rfl) K;have l:∀x∈p3,x.block<W.heap.size:=by obtain⟨m,g⟩:=I;exact DataW.trod_lt m _ _ _ g
 obtain⟨l3,w3,i3⟩:=JiP (a 3 26 n rfl rfl) I;have D:∀x∈p4,x.block<W.heap.size:=by obtain⟨m,g⟩:=F;exact DataW.trod_lt m _ _ _ g
 obtain⟨O,e4⟩:=JxI (a 4 3 M rfl rfl) F;subst e4;clear i d;refine(JoE Y r l1 z l2 s l3 n O W w0 i0 w1 i1 w2 U w3 i3).mono fun e W' ⟨he,b⟩=> ?_;subst he;exact⟨_,rfl,_,_,_,[],_,[],J,trodAll_mk1 (shut_bool underlying4 _),(trodAll_cons_mk (Below.trod laidOut (by kernel_rfl) (L8 (by kernel_rfl)) u b o) (trodAll_cons_mk (Below.trod laidOut (by kernel_rfl) (L8 (by kernel_rfl)) G b B) (trodAll_cons_mk (Below.trod laidOut (by kernel_rfl) (L8 (by kernel_rfl)) K b y) (trodAll_cons_mk (Below.trod laidOut (by kernel_rfl) (L8 (by kernel_rfl)) I b l) (trodAll_cons_mk (Below.trod laidOut (by kernel_rfl) (L8 (by kernel_rfl)) F b D) trodAll_mk0))))),rfl,b.frame _,fun h=>by cases h⟩
def proved:Rows.TopApartCardSaid:=
 Claim7.holds_tied_plain_at .later [] [.data,.data,.data,.handle] true (true, "356362d32cd495f107608f2c32aff5ad721ff1b3e5bba0016c9ffc02b42eaef6") true
  (Jwf lifted) (fun _ h=>by cases h) JqE (fun _ h=>by cases h) topApart_row_tie rfl ⟨rfl,rfl⟩ Jpw rfl
  (fun f fn b a=>by
   obtain rfl:f= 3 :=Option.some.inj (JiV.symm.trans b)|>.symm;obtain rfl:fn= f3 :=(Option.some.inj (func3.symm.trans a)).symm;exact⟨QdL,fun j t ht=>by
    rw[params3]at ht;have c:t∈[25,26,25,26,3]:=by simpa using Array.mem_of_getElem? ht
    exact(show Aa.wantsStandIn t=false by simpa using Ew.1 Qbk t c)⟩)
  Jtr
end Go.Proofs.YtapdelkomkpgmaaGreatDoor.topApart
