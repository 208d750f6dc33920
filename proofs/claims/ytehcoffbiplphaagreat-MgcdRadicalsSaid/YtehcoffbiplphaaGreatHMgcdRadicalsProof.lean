import Derived.Test.YtehcoffbiplphaaGreatHRadC
import Derived.ShutString
import Derived.Test.YtehcoffbiplphaaGreatHOpenT
set_option linter.all false
namespace Go.Proofs.YtehcoffbiplphaaGreat.mgcdRadicals
open Go.Proofs.Tryz
open Go.ChangeShapes Go.WideShapes Go.ChangeAt Go.RowKit
set_option maxRecDepth 100000
def own:ownKnob prog.godebug=none:=by kernel_rfl
def laidOut:laidOutB prog=true:=by kernel_rfl
def lifted (os:Os) (started:os.Started) (H:Type) (enc:TypeId×Value->H):
 ReturnsInHanded {} checked os 4 .any (Rows.mgcdRadicalsSpec.pre6 enc prog Tryz.f4 Rows.mgcdRadicalsRow.domain false) (Rows.mgcdRadicalsSpec.post enc prog Tryz.f4 false true false false):=by
 refine returnsInHanded_of_change_sized (C:=checked) own started (by kernel_rfl) func4
  (ChangeSpec.witness6 (enc:=enc) (C:=checked) false ⟨#[],#[.int .i64 0,.slice none 0 0],[]⟩ 8 (by kernel_rfl) (by kernel_rfl) (by kernel_rfl) (by kernel_rfl)) ?_
 intro W base args ds gs before aii hW hcnd apJ _;have hval:∀(j:Nat) t v,Tryz.f4.params[j]? =some t->args[j]? =some v->Value.okWide prog W .any base t v:=aii;have hW':=hW;have hsz:(DataW.weightsEach prog (Tryz.f4.params.toList++Rows.mgcdRadicalsSpec.plain.varTypes prog) (ds++gs)).all (· <=reachBytes)=true:=apJ;obtain ⟨p,q,hA0,hV,rfl,EX,hnd⟩:=hW;have hA:DataW.TrodAll enc prog W 0 (fun _=>true) true Tryz.f4.params.toList args.toList ds p:=hA0;rw [Tryz.params4] at hA hval hsz;obtain ⟨v0,vs0,d0,ds0,p0,q0,aEZ,rfl,rfl,h0,r0⟩:=trodAll_cons hA;obtain ⟨v1,vs1,d1,ds1,p1,q1,rfl,rfl,rfl,h1,r1⟩:=trodAll_cons r0;obtain ⟨rfl,rfl,rfl⟩:=trodAll_nil r1;obtain rfl:args=#[v0,v1]:=by cases args;simp_all
 obtain ⟨rfl,rfl⟩:=trodVars_none hV;obtain ⟨a0,rfl,rfl,rfl,w0⟩:=open_int underlying3 (hval 0 3 v0 rfl rfl) h0;obtain ⟨lo0,rT⟩:=bounds_i64 w0;have k1:=h1;have lt1:∀x∈p1,x.block<W.heap.size:=by obtain ⟨m,hm⟩:=k1;exact DataW.trod_lt m _ _ _ hm
 obtain ⟨A1,n1,c1,xs1,rfl,w1,y1,z1⟩:=SL underlying22 underlying44 (by kernel_rfl) rfl rfl (by kernel_rfl) (by kernel_rfl) underlying41 rfl rfl (by kernel_rfl) (by kernel_rfl) underlying4 underlying39 underlying38 (by kernel_rfl) underlying42 underlying3 (by kernel_rfl) (hval 1 22 v1 rfl rfl) h1;clear hA0 aii apJ hsz;refine (ER a0 A1 n1 c1 xs1 W lo0 rT w1 y1 z1).mono fun e W' ⟨he,aC⟩=> ?_;subst he;exact ⟨_,rfl,_,_,_,[],_,[],hW',trodAll_mk1 (shut_bool underlying4 _),(trodAll_cons_mk (shut_int underlying3 w0) (trodAll_cons_mk (Below.trod laidOut (by kernel_rfl) (FC (by kernel_rfl)) k1 aC lt1) trodAll_mk0)),rfl,aC.frame _,fun h=>by cases h⟩
def over:Rows.mgcdRadicalsRow.holds Tryz.pinned (OpenSpec.ofChange Rows.mgcdRadicalsSpec):=
 OpenClaim.holds_of_wide 4 Tryz.f4 rfl rfl rfl rfl rfl rfl rfl ⟨rfl,rfl,rfl,rfl,rfl⟩ rfl rfl rfl rfl rfl (by kernel_rfl) func4 (by kernel_rfl)
  (FC (by kernel_rfl)) (by unfold Func.isWrapper;first | (rw [aM (by decide+kernel)];kernel_rfl) | (rw [aY (by decide+kernel)];exact ⟨rfl,rfl⟩))
  (fun os started H enc _=>lifted os started H enc)
theorem proved:Rows.MgcdRadicalsSaid:=over
#print axioms proved
