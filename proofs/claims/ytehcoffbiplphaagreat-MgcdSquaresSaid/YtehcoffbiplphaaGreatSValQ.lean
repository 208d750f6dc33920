/- Values of sums and products; Leibniz's law; degrees of products. No program in sight. -/
import Derived.Test.YtehcoffbiplphaaGreatSMvs
set_option linter.unusedVariables false
set_option linter.unusedSimpArgs false
namespace Cl
section
variable {n i : Nat}
theorem nth_addI {a b:Plc}(ha:a.length=n) (hb:b.length=n) (hi:i<n):nth (addP a b) i=nth a i+nth b i:=by
 unfold addP nth
 simp [List.getD,ha,hb,hi]
theorem addP_set {a b:Plc}(ha:a.length=n) (hb:b.length=n) (hi:i<n) (u:Int):addP (a.set i u) b=(addP a b).set i (u+nth b i):=list_ext (by rw [List.length_set,addP_length (by rw [List.length_set];exact ha) hb,addP_length ha hb]) fun j hj=>by
 rw [addP_length (n:=n) (by rw [List.length_set];exact ha) hb] at hj
 rw [nth_addI (n:=n) (by rw [List.length_set];exact ha) hb hj,nth_set (by rw [ha];exact hi),nth_set (by rw [addP_length ha hb];exact hi),nth_addI ha hb hj]
 by_cases e:j=i
 · subst e;rw [if_pos rfl,if_pos rfl]
 · rw [if_neg e,if_neg e]
def derM (i:Nat) (L:Mv):Mv:=mapM (fun p=>p.set i (max (nth p i - 1) 0)) (fun p=>nth p i) L
theorem der_len {L:Mv}(h:LenM n L):LenM n (derM i L):=mapM_len h fun p hp=>by rw [List.length_set];exact hp
theorem der_mulN {L M:Mv}(hi:i<n) (hL:LenM n L) (hM:LenM n M) (bL:∀t∈L,∀x∈t.1,0≤x) (bM:∀t∈M,∀x∈t.1,0≤x):EqM n (derM i (mulM L M)) (mulM (derM i L) M++mulM L (derM i M)):=fun p _=>by
 have e1:coM (derM i (mulM L M)) p=sumL (fun a:Trm=>sumL (fun b:Trm=>a.2*b.2*(if (addP a.1 b.1).set i (max (nth (addP a.1 b.1) i - 1) 0)=p then nth (addP a.1 b.1) i else 0)) M) L:=by
  unfold derM;rw [coM_map];unfold mulM;rw [sumL_flat];exact sumL_congr fun a _=>sumL_map _ _ _
 have e2:coM (mulM (derM i L) M) p=sumL (fun a:Trm=>sumL (fun b:Trm=>if addP (a.1.set i (max (nth a.1 i - 1) 0)) b.1=p then a.2*nth a.1 i*b.2 else 0) M) L:=by
  rw [coM_mul];unfold derM mapM;rw [sumL_map]
 have e3:coM (mulM L (derM i M)) p=sumL (fun a:Trm=>sumL (fun b:Trm=>if addP a.1 (b.1.set i (max (nth b.1 i - 1) 0))=p then a.2*(b.2*nth b.1 i) else 0) M) L:=by
  rw [coM_mul];refine sumL_congr fun a _=> ?_;unfold derM mapM;rw [sumL_map]
 rw [coM_append,e1,e2,e3,← sumL_add]
 refine sumL_congr fun a ha=> ?_
 rw [← sumL_add]
 refine sumL_congr fun b hb=> ?_
 have la:=hL a ha
 have lb:=hM b hb
 have ka:=bL a ha _ (nth_mem (xs:=a.1) (i:=i) (by rw [la];exact hi))
 have kb:=bM b hb _ (nth_mem (xs:=b.1) (i:=i) (by rw [lb];exact hi))
 rw [nth_addI la lb hi,addP_set la lb hi,addP_comm a.1 (b.1.set i _),addP_set lb la hi,addP_comm b.1 a.1]
 by_cases ha0:nth a.1 i=0
 · by_cases hb0:nth b.1 i=0
   · rw [ha0,hb0];simp
   · rw [ha0,show max (0+nth b.1 i - 1) 0=nth b.1 i - 1 by omega,show max (nth b.1 i - 1) 0+0=nth b.1 i - 1 by omega]
     simp;split
     · ac_rfl
     · rw [Int.mul_zero]
 · by_cases hb0:nth b.1 i=0
   · rw [hb0,show max (nth a.1 i+0 - 1) 0=nth a.1 i - 1 by omega,show max (nth a.1 i - 1) 0+0=nth a.1 i - 1 by omega]
     simp;split
     · ac_rfl
     · rw [Int.mul_zero]
   · rw [show max (nth a.1 i+nth b.1 i - 1) 0=nth a.1 i+nth b.1 i - 1 by omega,show max (nth a.1 i - 1) 0+nth b.1 i=nth a.1 i+nth b.1 i - 1 by omega,show max (nth b.1 i - 1) 0+nth a.1 i=nth a.1 i+nth b.1 i - 1 by omega]
     split
     · rw [Int.mul_add]
       congr 1
       · ac_rfl
       · ac_rfl
     · rw [Int.mul_zero];rfl
end
end Cl
