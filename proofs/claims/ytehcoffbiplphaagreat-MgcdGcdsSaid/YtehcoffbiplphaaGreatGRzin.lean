import Derived.Test.YtehcoffbiplphaaGreatGDvA
import Derived.Test.YtehcoffbiplphaaGreatGZks
set_option linter.all false
set_option maxHeartbeats 1000000
set_option maxRecDepth 100000
namespace Go.Proofs.YtehcoffbiplphaaGreat
open Go.Proofs.Tryz
open Go.RowKit
variable {ls:List Int} {z:Int}
def UE {neg:Bool} {xs:List Int}(h:bX ls) (e:limbs ls=limbs xs) {k:Nat}(hk:ls.length=k):bW (neg && decide (0<(k:Int))) ls (aF neg xs):=by
 have hi:=h.iY;refine ⟨h,?_,fun hn=> ?_⟩
 . unfold aF
   cases neg
   . simp [e]
   . by_cases h0:0<k
     . have:decide (0<(k:Int))=true:=Ir (by omega)
       rw [this,e];rfl
     . have h1:decide (0<(k:Int))=false:=zC (by omega)
       have h2:=hi.2 (by omega);rw [h1,<- e,h2];rfl
 . cases neg
   . simp at hn
   . have:=LG (by simpa using hn)
     omega
def vK (s:Bool) (A:Option Addr) (n c:Nat) (xs:List Int) (w:World) (hx:aD w A n xs) (hn:n<=c) (hc:c<=9223372036854775807) (Fz:n<=9000000000000):
 aC 67 #[.agg #[.bool s,.slice A n c]] w (tV w (aF s xs) n):=by
 have Cn:=aA (fun W (h:Below w.heap.size w W)=>Yn A n c xs W (hx.aB h) hn hc (by omega));have uw:=(Duo.new w (.bool s) (.slice A n c)).aB (aW.alloc aK (.cells #[.bool false,.slice none 0 0] 41));have hd:=Duo.new (w.alloc (.cells #[.bool s,.slice A n c] 41)) (.bool false) (.slice none 0 0);rw [aJ] at hd;have c0:=uw.cell0;have c1:=uw.cell1;have Hd:=aA hd;have Hd0:=aA uw;clear hd uw hx;go_enter func67,ntmps67
 go_wp2_with fail
 refine (Cn.o _ (by exact (aW.alloc aK _).alloc (by simp) _)).mono ?_;rintro e w1 ⟨A1,k1,u9,l1,rfl,h1,h2,h3,h4,h5,h6,h7⟩;have jU:=Hd.o.aB h7;have XO:=Hd0.o.aB h7;have k0:=jU.cell0;have k1':=jU.cell1;have f0:=jU.frozen 0;have f1:=jU.frozen 1;have c0':=XO.cell0;have ayX:=XO.cell1;have hb:Below w.heap.size w w1:=(((Below.refl _ w).alloc aK _).alloc (by simp) _).trans (h7.mono (by simp;omega));have JP:=aA jU;have hz:=UE (neg:=s) h5 h6 h4.len;have Fin:Hid (∀b:Bool,b=(s && decide (0<(k1:Int)))->tV w (aF s xs) n (.returned (.agg #[.bool b,.slice A1 k1 u9])) ((w1.setCell ⟨w.heap.size+1,0,none⟩ (.bool b)).setCell ⟨w.heap.size+1,1,none⟩ (.slice A1 k1 u9))):=fun b qw=>by
  subst qw;exact ⟨_,A1,k1,u9,l1,rfl,h1,h2,h3,jU.limbs _ _ rfl rfl h4,hz,(hb.setCell (p:=⟨w.heap.size+1,0,none⟩) (by simp) _).setCell (p:=⟨w.heap.size+1,1,none⟩) (by simp) _⟩
 clear jU XO h4 h5 h6 h7 hz hb;cases s with
 | false=>
   go_wp2
   exact ax (cI (fn:=f67) rfl _ _ _ _ _ _ _ rfl (JP.o.set _ _) underlying41 rfl aT) rfl (Fin.o _ rfl)
 | true=>
   go_wp2
   exact ax (cI (fn:=f67) rfl _ _ _ _ _ _ _ rfl (JP.o.set _ _) underlying41 rfl aT) rfl (Fin.o _ (by simp))
def agx (s:Bool) (A:Option Addr) (n c:Nat) (xs:List Int) (w:World) (hx:aD w A n xs) (hn:n<=c) (hc:c<=9223372036854775807) (Fz:n<=9000000000000):
 aC 92 #[.agg #[.bool s,.slice A n c]] w (tV w (((limbs xs:Nat):Int)) n):=by
 have Cn:=aA (fun W (h:Below w.heap.size w W)=>vK (false) A n c xs W (hx.aB h) hn hc Fz);rw [show aF false xs=((limbs xs:Nat):Int) from rfl] at Cn;have uw:=(Duo.new w (.bool s) (.slice A n c)).aB (aW.alloc aK (.cells #[.bool false,.slice none 0 0] 41));have hd:=Duo.new (w.alloc (.cells #[.bool s,.slice A n c] 41)) (.bool false) (.slice none 0 0);rw [aJ] at hd;have c0:=uw.cell0;have c1:=uw.cell1;have Hd:=aA hd;clear hd uw hx;go_enter func92,ntmps92
 go_wp2_with fail
 refine (Cn.o _ (by exact (aW.alloc aK _).alloc (by simp) _)).mono ?_;rintro e w1 ⟨s1,A1,k1,u9,ls,rfl,h1,h2,h3,h4,h5,h6⟩;have jU:=Hd.o.aB h6;have k0:=jU.cell0;have k1':=jU.cell1;have f0:=jU.frozen 0;have f1:=jU.frozen 1;have hb:Below w.heap.size w w1:=(((Below.refl _ w).alloc aK _).alloc (by simp) _).trans (h6.mono (by simp;omega));have JP:=aA jU;have H5:=aA h5;clear jU h6 h5;go_wp2
 exact ax (cI (fn:=f92) rfl _ _ _ _ _ _ _ rfl (JP.o.set _ _) underlying41 rfl aT) rfl
  ⟨s1,A1,k1,u9,ls,rfl,h1,h2,h3,JP.o.limbs _ _ rfl rfl h4,H5.o,(hb.setCell (p:=⟨w.heap.size+1,0,none⟩) (by simp) _).setCell (p:=⟨w.heap.size+1,1,none⟩) (by simp) _⟩
def Lq (z:Int):Int:=if z<0 then -1 else if 0<z then 1 else 0
def adI {s:Bool} (h:bW s ls z) (hs:s=true):Lq z= -1:=by
 have h1:=h.nz hs;have h2:=h.pl.iY;have h3:=h.eq;subst hs;unfold aF at h3;simp only [rJ] at h3;unfold Lq;rw [aM (by omega)]
def adH (h:bW false ls z):Lq z=if 0<(ls.length:Int) then 1 else 0:=by
 have h2:=h.pl.iY;have h3:=h.eq;unfold aF at h3;simp only [ET,vr] at h3;unfold Lq;rw [af (by omega)];by_cases h0:0<ls.length
 . rw [aM (by omega),aM (by omega)]
 . rw [af (by omega),af (by omega)]
def Qz (s:Bool) (A:Option Addr) (n c:Nat) (xs:List Int) (w:World) (hx:aD w A n xs) (hn:n<=c) (hc:c<=9223372036854775807) (Fz:n<=9000000000000):
 aC 68 #[.agg #[.bool s,.slice A n c]] w fun e w'=>e=.returned (.int .i64 (Lq (aF s xs)))∧Below w.heap.size w w':=by
 have Cn:=aA (fun W (h:Below w.heap.size w W)=>vK s A n c xs W (hx.aB h) hn hc Fz);have uw:=Duo.new w (.bool s) (.slice A n c);have c0:=uw.cell0;have c1:=uw.cell1;clear uw hx;generalize aF s xs=z at*
 go_enter func68,ntmps68
 go_wp2_with fail
 refine (Cn.o _ (by exact aW.alloc aK _)).mono ?_;rintro e w1 ⟨s1,A1,k1,u9,ls,rfl,h1,h2,h3,h4,h5,h6⟩;have hb:Below w.heap.size w w1:=((Below.refl _ w).alloc aK _).trans (h6.mono (by simp));have hl:=h4.len;have Hb:=aA (fun o=>hb.alloc hb.size o);cases s1 with
 | true=>
   have Hs:=aA (adI h5 rfl);clear h4 h5 h6 hb hl;go_wp2
   go_ret;rw [Hs.o];exact ⟨rfl,Hb.o _⟩
 | false=>
   have hs:=adH h5;rw [hl] at hs;by_cases h0:0<k1
   . rw [aM (by omega)] at hs
     (have h0':(0:Int)<(k1:Int):=by omega);have Hs:=aA hs;clear h4 h5 h6 hb hl hs;(go_wp2);go_ret;rw [Hs.o];exact ⟨rfl,Hb.o _⟩
   . rw [af (by omega)] at hs
     (have h0':¬(0:Int)<(k1:Int):=by omega);have Hs:=aA hs;clear h4 h5 h6 hb hl hs;(go_wp2);go_ret;rw [Hs.o];exact ⟨rfl,Hb.o _⟩
def Yf (w:World):
 aC 73 #[.int .i64 (-1)] w (tV w (-1) 1):=by
 have Cn:=aA (fun W (h:aD W (some ⟨w.heap.size+1,0,none⟩) 1 [1])=>vK true (some ⟨w.heap.size+1,0,none⟩) 1 1 [1] W h (by omega) (by omega) (by omega));have hv:Hid (aF true [1]= -1):=by
  show -((limbs [1]:Nat):Int)= -1;rfl
 rw [hv.o] at Cn;have hd:=(Duo.new w (.bool false) (.slice none 0 0)).aB (aW.alloc aK (.cells #[.int .u64 1] 38));have oL:=aD.one (w.alloc (.cells #[.bool false,.slice none 0 0] 41)) 38 (x:=1) (by omega) (by omega);rw [aJ] at oL;have Hlm:=aA oL;have Hd:=aA hd;clear hd oL;go_enter func73,ntmps73
 go_wp2_with fail
 refine (Cn.o _ (by exact Hlm.o)).mono ?_;rintro e w1 ⟨s1,A1,k1,c1,ls,rfl,g1,g2,g3,g4,g5,hb⟩;have jU:=Hd.o.aB hb;have k0:=jU.cell0;have k1':=jU.cell1;have f0:=jU.frozen 0;have f1:=jU.frozen 1;have cU:Below w.heap.size w w1:=(((Below.refl _ w).alloc aK _).alloc (by simp) _).trans (hb.mono (by simp;omega));have JP:=aA jU;have G5:=aA g5;clear jU hb g5;go_wp2
 exact ax (cI (fn:=f73) rfl _ _ _ _ _ _ _ rfl (JP.o.set _ _) underlying41 rfl aT) rfl
  ⟨s1,A1,k1,c1,ls,rfl,g1,g2,g3,JP.o.limbs _ _ rfl rfl g4,G5.o,(cU.setCell (p:=⟨w.heap.size,0,none⟩) aK _).setCell (p:=⟨w.heap.size,1,none⟩) aK _⟩
