import Derived.Test.YtehcoffbiplphaaGreatGTrM
import Derived.ShutString
import Derived.Test.YtehcoffbiplphaaGreatGOpenT
set_option linter.all false
namespace Go.Proofs.YtehcoffbiplphaaGreat.mgcdGcds
open Go.Proofs.Tryz
open Go.ChangeShapes Go.WideShapes Go.ChangeAt Go.RowKit
set_option maxRecDepth 100000
def own:ownKnob prog.godebug=none:=by kernel_rfl
def laidOut:laidOutB prog=true:=by kernel_rfl
def lifted (os:Os) (started:os.Started) (H:Type) (enc:TypeId×Value->H):
 ReturnsInHanded {} checked os 3 .any (Rows.mgcdGcdsSpec.pre6 enc prog Tryz.f3 Rows.mgcdGcdsRow.domain false) (Rows.mgcdGcdsSpec.post enc prog Tryz.f3 false true false false):=by
 refine returnsInHanded_of_change_sized (C:=checked) own started (by kernel_rfl) func3
  (ChangeSpec.witness6 (enc:=enc) (C:=checked) false ⟨#[],#[.int .i64 0,.slice none 0 0,.slice none 0 0],[]⟩ 8 (by kernel_rfl) (by kernel_rfl) (by kernel_rfl) (by kernel_rfl)) ?_
 intro W base args ds gs before agM hW hcnd aoh _;have hval:∀(j:Nat) t v,Tryz.f3.params[j]? =some t->args[j]? =some v->Value.okWide prog W .any base t v:=agM;have hW':=hW;have hsz:(DataW.weightsEach prog (Tryz.f3.params.toList++Rows.mgcdGcdsSpec.plain.varTypes prog) (ds++gs)).all (· <=reachBytes)=true:=aoh;obtain ⟨p,q,hA0,hV,rfl,Bk,hnd⟩:=hW;have hA:DataW.TrodAll enc prog W 0 (fun _=>true) true Tryz.f3.params.toList args.toList ds p:=hA0;rw [Tryz.params3] at hA hval hsz;obtain ⟨v0,vs0,d0,ds0,p0,q0,aDc,rfl,rfl,h0,r0⟩:=trodAll_cons hA;obtain ⟨v1,vs1,d1,ds1,p1,q1,rfl,rfl,rfl,h1,r1⟩:=trodAll_cons r0;obtain ⟨v2,vs2,d2,wh,p2,q2,rfl,rfl,rfl,h2,r2⟩:=trodAll_cons r1;obtain ⟨rfl,rfl,rfl⟩:=trodAll_nil r2;obtain rfl:args=#[v0,v1,v2]:=by cases args;simp_all
 obtain ⟨rfl,rfl⟩:=trodVars_none hV;obtain ⟨a0,rfl,rfl,rfl,w0⟩:=open_int underlying3 (hval 0 3 v0 rfl rfl) h0;obtain ⟨lo0,uA⟩:=bounds_i64 w0;have k1:=h1;have lt1:∀x∈p1,x.block<W.heap.size:=by obtain ⟨m,hm⟩:=k1;exact DataW.trod_lt m _ _ _ hm
 obtain ⟨A1,n1,c1,xs1,rfl,w1,y1,z1⟩:=Gj underlying22 underlying44 (by kernel_rfl) rfl rfl (by kernel_rfl) (by kernel_rfl) underlying41 rfl rfl (by kernel_rfl) (by kernel_rfl) underlying4 underlying39 underlying38 (by kernel_rfl) underlying42 underlying3 (by kernel_rfl) (hval 1 22 v1 rfl rfl) h1;have k2:=h2;have lt2:∀x∈p2,x.block<W.heap.size:=by obtain ⟨m,hm⟩:=k2;exact DataW.trod_lt m _ _ _ hm
 obtain ⟨A2,n2,c2,xs2,rfl,w2,y2,z2⟩:=Gj underlying22 underlying44 (by kernel_rfl) rfl rfl (by kernel_rfl) (by kernel_rfl) underlying41 rfl rfl (by kernel_rfl) (by kernel_rfl) underlying4 underlying39 underlying38 (by kernel_rfl) underlying42 underlying3 (by kernel_rfl) (hval 2 22 v2 rfl rfl) h2;clear hA0 agM aoh hsz;refine (MU a0 A1 n1 c1 xs1 A2 n2 c2 xs2 W lo0 uA w1 y1 z1 w2 y2 z2).mono fun e W' ⟨he,aB⟩=> ?_;subst he;exact ⟨_,rfl,_,_,_,[],_,[],hW',trodAll_mk1 (shut_bool underlying4 _),(Ss (shut_int underlying3 w0) (Ss (Below.trod laidOut (by kernel_rfl) (LG (by kernel_rfl)) k1 aB lt1) (Ss (Below.trod laidOut (by kernel_rfl) (LG (by kernel_rfl)) k2 aB lt2) trodAll_mk0))),rfl,aB.frame _,fun h=>by cases h⟩
def over:Rows.mgcdGcdsRow.holds Tryz.pinned (OpenSpec.ofChange Rows.mgcdGcdsSpec):=
 OpenClaim.holds_of_wide 3 Tryz.f3 rfl rfl rfl rfl rfl rfl rfl ⟨rfl,rfl,rfl,rfl,rfl⟩ rfl rfl rfl rfl rfl (by kernel_rfl) func3 (by kernel_rfl)
  (LG (by kernel_rfl)) (by unfold Func.isWrapper;first | (rw [aM (by decide+kernel)];kernel_rfl) | (rw [af (by decide+kernel)];exact ⟨rfl,rfl⟩))
  (fun os started H enc _=>lifted os started H enc)
theorem proved:Rows.MgcdGcdsSaid:=over
#print axioms proved
