/- MgcdSquares: the statement: for every input the call returns true, and each argument reads behind it as it read before. -/
import Derived.Test.YtehcoffbiplphaaGreatSMgcdSquares
import Derived.SizedLaws
import Derived.ProofKit
import Derived.OpenShut
import Derived.ShutString
import Derived.ChangeOld
import Derived.Below
import Derived.Test.YtehcoffbiplphaaGreatSOpenT
set_option linter.unusedVariables false
set_option linter.unusedSimpArgs false
namespace Go.Proofs.YtehcoffbiplphaaGreat.mgcdSquares
open Go.ChangeShapes Go.WideShapes Go.ChangeAt Go.RowKit Cl
set_option linter.unusedVariables false
set_option maxRecDepth 100000
theorem own:ownKnob Tryz.prog.godebug=none:=by kernel_rfl
theorem laidOut:laidOutB Tryz.prog=true:=by kernel_rfl
theorem lifted (os:Os) (started:os.Started) (H:Type) (enc:TypeId×Value→H):
 ReturnsInHanded {} Tryz.checked os 7 .any (Rows.mgcdSquaresSpec.pre6 enc Tryz.prog Tryz.f7 Rows.mgcdSquaresRow.domain false) (Rows.mgcdSquaresSpec.post enc Tryz.prog Tryz.f7 false true false false):=by
 refine returnsInHanded_of_change_sized (C:=Tryz.checked) own started (by kernel_rfl) Tryz.func7
  (ChangeSpec.witness6 (enc:=enc) (C:=Tryz.checked) false ⟨#[],#[.int .i64 0,.slice none 0 0],[]⟩ 8 (by kernel_rfl) (by kernel_rfl) (by kernel_rfl) (by kernel_rfl)) ?_
 intro W base args ds gs before hval0 hW hcnd hsz0 _
 have hval:∀(j:Nat) t v,Tryz.f7.params[j]? =some t→args[j]? =some v→Value.okWide Tryz.prog W .any base t v:=hval0
 have hW':=hW
 have hsz:(DataW.weightsEach Tryz.prog (Tryz.f7.params.toList++Rows.mgcdSquaresSpec.plain.varTypes Tryz.prog) (ds++gs)).all (· ≤reachBytes)=true:=hsz0
 obtain ⟨p,q,hA0,hV,rfl,hfz,hnd⟩:=hW
 have hA:DataW.TrodAll enc Tryz.prog W 0 (fun _=>true) true Tryz.f7.params.toList args.toList ds p:=hA0
 rw [Tryz.params7] at hA hval hsz
 obtain ⟨v0,vs0,d0,ds0,p0,q0,hargs,rfl,rfl,h0,r0⟩:=trodAll_cons hA
 obtain ⟨v1,vs1,d1,ds1,p1,q1,rfl,rfl,rfl,h1,r1⟩:=trodAll_cons r0
 obtain ⟨rfl,rfl,rfl⟩:=trodAll_nil r1
 obtain rfl:args=#[v0,v1]:=by cases args;simp_all
 obtain ⟨rfl,rfl⟩:=trodVars_none hV
 obtain ⟨a0,rfl,rfl,rfl,w0⟩:=open_int Tryz.underlying3 (hval 0 3 v0 rfl rfl) h0
 obtain ⟨lo0,hi0⟩:=bounds_i64 w0
 have k1:=h1
 have lt1:∀x∈p1,x.block<W.heap.size:=by obtain ⟨m,hm⟩:=k1;exact DataW.trod_lt m _ _ _ hm
 obtain ⟨A1,n1,c1,xs1,rfl,w1,y1,z1⟩:=open_terms Tryz.underlying22 Tryz.underlying44 (by kernel_rfl) rfl rfl (by kernel_rfl) (by kernel_rfl) Tryz.underlying41 rfl rfl (by kernel_rfl) (by kernel_rfl) Tryz.underlying4 Tryz.underlying39 Tryz.underlying38 (by kernel_rfl) Tryz.underlying42 Tryz.underlying3 (by kernel_rfl) (hval 1 22 v1 rfl rfl) h1
 clear hA0 hval0 hsz0 hsz
 refine (law_MgcdSquares a0 A1 n1 c1 xs1 W lo0 hi0 w1 y1 z1).mono fun e W' ⟨he,bel⟩=> ?_
 subst he
 exact ⟨_,rfl,_,_,_,[],_,[],hW',trodAll_mk1 (shut_bool Tryz.underlying4 _),(trodAll_cons_mk (shut_int Tryz.underlying3 w0) (trodAll_cons_mk (Below.trod laidOut (by kernel_rfl) (of_decide_eq_true (by kernel_rfl)) k1 bel lt1) trodAll_mk0)),rfl,bel.frame _,fun h=>by cases h⟩
theorem over:Rows.mgcdSquaresRow.holds Tryz.pinned (OpenSpec.ofChange Rows.mgcdSquaresSpec):=
 OpenClaim.holds_of_wide 7 Tryz.f7 rfl rfl rfl rfl rfl rfl rfl ⟨rfl,rfl,rfl,rfl,rfl⟩ rfl rfl rfl rfl rfl (by kernel_rfl) Tryz.func7 (by kernel_rfl)
  (of_decide_eq_true (by kernel_rfl)) (by unfold Func.isWrapper;first | (rw [if_pos (by decide+kernel)];kernel_rfl) | (rw [if_neg (by decide+kernel)];exact ⟨rfl,rfl⟩))
  (fun os started H enc _=>lifted os started H enc)
theorem proved:Rows.MgcdSquaresSaid:=over
#print axioms proved
end Go.Proofs.YtehcoffbiplphaaGreat.mgcdSquares
