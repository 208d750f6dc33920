import Derived.Test.YtehcoffbiplphaaGreatHZKa
set_option linter.all false
set_option maxRecDepth 100000
namespace Go.Proofs.YtehcoffbiplphaaGreat
open Go.RowKit
def aoN (x:Int) (w:World) (h0:0<=x) (h1:x<=9223372036854775807):
 aB 73 #[.int .i64 x] w (pX w x 1):=by
 have Cn:=aA (fun W (h:aD W (some ⟨w.heap.size+1,0,none⟩) 1 [x])=>MZ false (some ⟨w.heap.size+1,0,none⟩) 1 1 [x] W h (by omega) (by omega) (by omega));have hv:Hid (aI false [x]=x):=by
  show ((limbs [x]:Nat):Int)=x;show ((x.toNat+2^64*0:Nat):Int)=x;omega
 rw [hv.o] at Cn;have hd:=(Duo.new w (.bool false) (.slice none 0 0)).aC (aU.alloc aL (.cells #[.int .u64 x] 38));have uG:=aD.one (w.alloc (.cells #[.bool false,.slice none 0 0] 41)) 38 h0 (x:=x) (by omega);rw [aJ] at uG;have Hlm:=aA uG;have Hd:=aA hd;have LM:¬x<0:=by omega
 clear hd uG;go_enter Tryz.func73,Tryz.ntmps73
 go_wp2_with fail
 refine (Cn.o _ (by exact Hlm.o)).mono ?_;rintro e w1 ⟨s1,A1,k1,c1,ls,rfl,g1,g2,g3,g4,g5,hb⟩;have jQ:=Hd.o.aC hb;have k0:=jQ.cell0;have GZ:=jQ.cell1;have f0:=jQ.frozen 0;have f1:=jQ.frozen 1;have cN:Below w.heap.size w w1:=(((Below.refl _ w).alloc aL _).alloc (by simp) _).trans (hb.mono (by simp;omega));have Jn:=aA jQ;have G5:=aA g5;clear jQ hb g5;go_wp2
 exact bK (dO (fn:=Tryz.f73) rfl _ _ _ _ _ _ _ rfl (Jn.o.set _ _) Tryz.underlying41 rfl bQ) rfl
  ⟨s1,A1,k1,c1,ls,rfl,g1,g2,g3,Jn.o.limbs _ _ rfl rfl g4,G5.o,(cN.setCell (p:=⟨w.heap.size,0,none⟩) aL _).setCell (p:=⟨w.heap.size,1,none⟩) aL _⟩
