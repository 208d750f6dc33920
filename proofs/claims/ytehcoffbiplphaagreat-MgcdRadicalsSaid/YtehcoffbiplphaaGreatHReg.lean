import Derived.Test.YtehcoffbiplphaaGreatHAl
import Derived.Deep.RegionHeld3
set_option linter.all false
namespace Go.Proofs.YtehcoffbiplphaaGreat
section
variable {P : Program} {ops : Array Oper} {Q : Exit -> Act -> World -> Prop} {md : Region.Mode} {S : World -> Prop}
def waits (md:Region.Mode) (ops:Array Oper) (z i:Nat):Bool:=match ops[z]? with
 | some o=>o.after.any fun e=>Region.binds md e && e.on==i
 | none=>true
def lN (P:Program) (md:Region.Mode) (ops:Array Oper) (Q:Exit->Act->World->Prop) (S:World->Prop) (z:Nat):Nat->Array Bool->Act->World->Prop
 | 0,listed,a,w=>Region.ready md ops listed=[]∧Q .normal a w
 | fuel+1,listed,a,w=>
   (Region.ready md ops listed=[]->Q .normal a w)∧
   ∀i∈Region.ready md ops listed,wpOp P ops Q i (fun a' w'=>(i≠z->S w')∧lN P md ops Q S z fuel (listed.setIfInBounds i true) a' w') a w
def KY {z:Nat}:∀(fuel:Nat) (listed:Array Bool) (a:Act) (w:World),lN P md ops Q S z fuel listed a w->wpAny P md ops Q fuel listed a w
 | 0,_,_,_,h=>h
 | fuel+1,_,_,_,h=>⟨h.1,fun i hi=>wpOp_mono (fun a' w' h'=>KY fuel _ a' w' h'.2) (h.2 i hi)⟩
def MD {z i:Nat}(hz:waits md ops z i=true) {oi:Oper} {v:Value}(hi:ops[i]? =some oi) (apO:∀(j:Nat) (o:Oper) cs b,ops[j]? =some o->o.op≠ .select cs b)
 (hQ:∀c a w,Q (.panic c) (a.put oi.dst v) w->Q (.panic c) a w):
 ∀(fuel:Nat) (listed:Array Bool) (a:Act) (w:World),
  (∀j oj,ops[j]? =some oj->j≠i->listed.getD j true=false->(∀e∈oj.after,Region.binds md e=true->e.on≠i)->oi.apart ops oj=true)->
  i∈Region.ready md ops listed->YieldsIf P ops S oi v a->S w->
  lN P md ops Q S z fuel (listed.setIfInBounds i true) (a.put oi.dst v) w->lN P md ops Q S z (fuel+1) listed a w:=by
 intro fuel;induction fuel with
 | zero=>
   intro listed a w _ hr hy hS H;refine ⟨fun h=>(by rw [h] at hr;cases hr),fun j hj=> ?_⟩;by_cases hji:j=i
   . subst hji;exact hy.wpOp hi hS ⟨fun _=>hS,H⟩
   . have:=ready_mono hj hji
     rw [H.1] at this;cases this
 | succ fuel ih=>
   intro listed a w aiv hr hy hS H;refine ⟨fun h=>(by rw [h] at hr;cases hr),fun j hj=> ?_⟩;by_cases hji:j=i
   . subst hji;exact hy.wpOp hi hS ⟨fun _=>hS,H⟩
   . have h1:=H.2 j (ready_mono hj hji)
     obtain ⟨aqF,oj,hoj,eR⟩:=mem_ready.1 hj;have YC:∀e∈oj.after,Region.binds md e=true->e.on≠i:=fun e he hb heq=>by
      have h1:=eR e he hb;have h0:=(mem_ready.1 hr).1;rw [heq] at h1;rcases pT i listed.size with h' | h'
      . simp [h'] at h0 h1;rw [h0] at h1;cases h1
      . simp [Ye h'] at h1
     have h2:=wpOp_putIf hoj (aiv j oj hoj hji aqF YC) (fun cs b=>apO i oi cs b hi) (fun cs b=>apO j oj cs b hoj) hQ hy h1;have alA:∀k ok,ops[k]? =some ok->k≠i->(listed.setIfInBounds j true).getD k true=false->
      (∀e∈ok.after,Region.binds md e=true->e.on≠i)->oi.apart ops ok=true:=fun k ok hk hki hun hno=>by
      refine aiv k ok hk hki ?_ hno;by_cases hjk:j=k
      . subst hjk;exact aqF
      . rw [getD_set_ne true hjk] at hun;exact hun
     have hri:i∈Region.ready md ops (listed.setIfInBounds j true):=ready_mono hr (Ne.symm hji);have hjz:j≠z:=fun e=>by
      subst e;unfold waits at hz;rw [hoj] at hz;simp only [ass] at hz;obtain ⟨e,he,h5⟩:=hz;simp only [wY,Qy] at h5;exact YC e he h5.1 h5.2
     refine wpOp_mono (fun a' w' h3=>⟨fun _=>h3.2.1 hjz,ih (listed.setIfInBounds j true) a' w' alA hri h3.1 (h3.2.1 hjz) ?_⟩) h2;rw [Array.setIfInBounds_comm _ _ hji];exact h3.2.2
def OQ (z i:Nat) {oi:Oper} {v:Value} {fuel:Nat} {listed:Array Bool} {a:Act} {w:World}(hi:ops[i]? =some oi)
 (hs:Region.noSelect ops=true) (hf:Region.free md ops listed i=true) (hr:(Region.ready md ops listed).contains i=true) (hz:waits md ops z i=true)
 (hQ:∀c a w,Q (.panic c) (a.put oi.dst v) w->Q (.panic c) a w) (hy:YieldsIf P ops S oi v a) (hS:S w)
 (h:lN P md ops Q S z fuel (listed.setIfInBounds i true) (a.put oi.dst v) w):lN P md ops Q S z (fuel+1) listed a w:=
 MD hz hi (Region.noSelect_spec hs) hQ fuel listed a w (Region.free_spec hi hf) (by simpa using hr) hy hS h
def aK (P:Program) (md:Region.Mode) (ops:Array Oper) (Q:Exit->Act->World->Prop) (S:World->Prop) (z:Nat) (fuel:Nat) (listed:Array Bool) (a:Act) (w:World) (rs:List Nat):Prop:=
 ∀i∈rs,wpOp P ops Q i (fun a' w'=>(i≠z->S w')∧lN P md ops Q S z fuel (listed.setIfInBounds i true) a' w') a w
section
variable {z fuel:Nat} {listed:Array Bool} {a:Act} {w:World}
include z fuel listed a w
theorem aK.nil:aK P md ops Q S z fuel listed a w []:=fun _ h=>by cases h
theorem aK.cons {i:Nat} {o:Oper} {rs:List Nat}(ho:ops[i]? =some o) (hi:i≠z)
 (h:∀K':Act->World->Prop,Shut (∀a w,S w->(S w->lN P md ops Q S z fuel (listed.setIfInBounds i true) a w)->K' a w)->if Region.wanted o (yielded ops a.tmps)=true then Oper.wp P o a w K' Q else K' (a.put o.dst undef) w)
 (hs:aK P md ops Q S z fuel listed a w rs):aK P md ops Q S z fuel listed a w (i::rs):=fun j hj=>by
 rcases iH.1 hj with rfl | hj
 . exact wpOp_step ho (fun K' hK=>h K' (fun a w hS hW=>hK a w ⟨fun _=>hS,hW hS⟩))
 . exact hs j hj
theorem aK.last {o:Oper}(ho:ops[z]? =some o)
 (h:∀K':Act->World->Prop,Shut (∀a w,lN P md ops Q S z fuel (listed.setIfInBounds z true) a w->K' a w)->if Region.wanted o (yielded ops a.tmps)=true then Oper.wp P o a w K' Q else K' (a.put o.dst undef) w):aK P md ops Q S z fuel listed a w [z]:=fun j hj=>by
 rcases iH.1 hj with rfl | hj
 . exact wpOp_step ho (fun K' hK=>h K' (fun a w hW=>hK a w ⟨fun h=>absurd rfl h,hW⟩))
 . cases hj
end
def aT {rs:List Nat} {z fuel:Nat} {listed:Array Bool} {a:Act} {w:World}(hr:Region.ready md ops listed=rs) (hne:rs≠ [])
 (h:aK P md ops Q S z fuel listed a w rs):lN P md ops Q S z (fuel+1) listed a w:=⟨fun h0=>absurd (hr ▸ h0) hne,hr ▸ h⟩
def fE {z:Nat} {listed:Array Bool} {a:Act} {w:World}(hr:Region.ready md ops listed=[]) (h:Q .normal a w):∀fuel,lN P md ops Q S z fuel listed a w
 | 0=>⟨hr,h⟩
 | _+1=>⟨fun _=>h,by rw [hr];simp⟩
def fh {z id:Nat} {a:Act} {w:World}(hm:P.follows .mixedOrders=true)
 (h:lN P .any ops Q S z ops.size (Array.replicate ops.size false) a w.drew):(Code.region id ops true).wp P Q a w:=wp_region_any hm (KY _ _ _ _ h)
