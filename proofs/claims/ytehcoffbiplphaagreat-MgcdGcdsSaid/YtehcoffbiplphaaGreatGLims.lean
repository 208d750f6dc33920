import Derived.Test.YtehcoffbiplphaaGreatGBase
import Derived.WalkSpells
import Derived.WalkLawsBesides
import Derived.Lib.Hide
import Derived.Lib.BitFns
import Derived.Deep.LoopGhost
import Derived.BigQuiet
import Derived.Laws.CopyOwn
import Derived.Test.YtehcoffbiplphaaGreatGPlains
set_option linter.all false
set_option maxRecDepth 100000
namespace Go.Proofs.YtehcoffbiplphaaGreat
open Go.Proofs.Tryz
variable {f:Nat->Int} {n i k m base:Nat} {x z:Int} {xs a b ys ds:List Int} {w w':World} {A:Option Addr} {P:Nat->Value->Prop} {e:TypeId} {S T:Nat->Prop}
def DM (f:Nat->Int):Nat->Nat
 | 0=>0
 | n+1=>if f n=0 then DM f n else n+1
def adQ (f:Nat->Int) (n:Nat):DM f n<=n:=by
 induction n with
 | zero=>exact aK
 | succ n ih=>unfold DM;split<;>omega
def OT {n:Nat}(h:0<DM f n):f (DM f n-1)≠0:=by
 induction n with
 | zero=>unfold DM at h;omega
 | succ n ih=>
   unfold DM at h ⊢;split at h
   . next h0=>rw [aM h0];exact ih h
   . next h0=>rw [af h0];exact h0
def rj (h:f n=0):DM f (n+1)=DM f n:=by
 conv=>lhs;unfold DM
 rw [aM h]
def ri (h:f n≠0):DM f (n+1)=n+1:=by
 conv=>lhs;unfold DM
 rw [af h]
def limbs:List Int->Nat
 | []=>0
 | x::xs=>x.toNat+2^64*limbs xs
def aQ (l:List Int):Prop:=∀i,0<=nth l i∧nth l i<18446744073709551616
def mz (x:Int) (l:List Int):nth (x::l) 0=x:=rfl
def Ji (x:Int) (l:List Int) (i:Nat):nth (x::l) (i+1)=nth l i:=rfl
def aQ.tail {l:List Int}(h:aQ (x::l)):aQ l:=fun i=>h (i+1)
def eH {l:List Int}(h:aQ l):limbs l<2^(64*l.length):=by
 induction l with
 | nil=>decide
 | cons x l ih=>
   have hx:=h 0;rw [mz] at hx;have:=ih h.tail;show x.toNat+2^64*limbs l<2^(64*(l.length+1));rw [NP,xZ (64*l.length),iH];have h1:2^64*(limbs l+1)<=2^64*2^(64*l.length):=bl _ this;have h2:x.toNat<2^64:=by omega
   omega
open Go.RowKit
def au (xs:List Int):List Value:=xs.map (Value.int .u64)
def gF (xs:List Int):(au xs).length=xs.length:=by simp [au]
def BP (h:i<xs.length):(au xs)[i]? =some (.int .u64 (nth xs i)):=by
 simp [au,gJ h,h]
def iL (xs:List Int):∀u∈au xs,u.oneCell'=true:=by
 intro u hu;simp only [au,aj] at hu;obtain ⟨x,_,rfl⟩:=hu;rfl
structure aD (w:World) (A:Option Addr) (n:Nat) (xs:List Int):Prop where
 len:xs.length=n
 at_:0<n->∃b o,A=some ⟨b,o,none⟩∧b<w.heap.size∧∀i,i<n->w.cell? ⟨b,o+i,none⟩=some (.int .u64 (nth xs i))
 ok:aQ xs
section
variable {w w' : World} {A : Option Addr} {n : Nat} {xs : List Int}
def aD.keep (h:aD w A n xs) (hs:w.heap.size<=w'.heap.size) (hk:∀p:Addr,p.block<w.heap.size->w'.cell? p=w.cell? p):aD w' A n xs:=
 ⟨h.len,fun hn=>by
   obtain ⟨b,o,e,hb,hc⟩:=h.at_ hn;exact ⟨b,o,e,by omega,fun i hi=>(hk ⟨b,o+i,none⟩ hb).trans (hc i hi)⟩,h.ok⟩
def aD.below (h:aD w A n xs) {B:Nat}(hb:Below B w w') (hB:w.heap.size<=B):aD w' A n xs:=h.keep hb.size fun _ hp=>hb.cell (by omega)
def aD.aB (h:aD w A n xs) (hb:Below w.heap.size w w'):aD w' A n xs:=h.below hb aK
def aD.drew (h:aD w A n xs):aD w.drew A n xs:=⟨h.len,h.at_,h.ok⟩
def aD.alloc (h:aD w A n xs) (o:Obj):aD (w.alloc o) A n xs:=h.keep (by simp) fun p hp=>vg w o p hp
def aQ.take {xs:List Int}(h:aQ xs) (k:Nat):aQ (xs.take k):=fun i=>by
 by_cases hi:i<k
 . have:nth (xs.take k) i=nth xs i:=by unfold nth;simp [List.getD,hi]
   rw [this];exact h i
 . rw [cW (by simp;omega)];omega
def mq {xs:List Int} {k i:Nat}(hi:i<k):nth (xs.take k) i=nth xs i:=by unfold nth;simp [List.getD,hi]
def aD.take (h:aD w A n xs) {k:Nat}(hk:k<=n):aD w A k (xs.take k):=
 ⟨by rw [cS,h.len];omega,fun h0=>by
   obtain ⟨b,o,e,hb,hc⟩:=h.at_ (by omega);exact ⟨b,o,e,hb,fun i hi=>by rw [mq hi];exact hc i (by omega)⟩,h.ok.take k⟩
def aD.nil (w:World) (A:Option Addr):aD w A 0 []:=⟨rfl,fun h=>absurd h (by omega),fun i=>by rw [cW (by simp)];omega⟩
def aD.reads (h:aD w A n xs):Reads w w.heap.size 1 A n (au xs):=
 ⟨by rw [gF,h.len,bg],fun h0=>by
   obtain ⟨b,o,e,hb,hc⟩:=h.at_ h0;refine ⟨_,e,hb,fun j u hu=> ?_⟩;have hj:j<n:=by
    have:=(FU.1 hu).1;rw [gF,h.len] at this;exact this
   rw [BP (by rw [h.len];exact hj)] at hu;injection hu with hu
   rw [<- hu];have:(⟨b,o,none⟩:Addr).add j=⟨b,o+j,none⟩:=by
    unfold Addr.add;split
    . rename_i e;subst e;rfl
    . rfl
   rw [this];exact hc j hj⟩
def aD.gi {base:Nat} {e:TypeId} {c:Nat}(h:w.ownsRow base e 1 (.slice A n c) n (au xs)) (lH:aQ xs):aD w A n xs:=by
 have hl:=h.1;rw [gF,bg] at hl;refine ⟨hl,fun hn=> ?_,lH⟩;rcases h.2 with ⟨h',h0⟩ | ⟨g,cap,cur,hv,_,hg,ig,wS,hcs,Kq⟩
 . omega
 . simp only [Sz] at hv
   obtain ⟨rfl,_,rfl⟩:=hv;refine ⟨g,0,rfl,(jf.1 hg).1,fun i hi=> ?_⟩;rw [ct,dA w g i cur e (0,0) hg];have:=BP (xs:=xs) (i:=i) (by omega);rw [<- Kq,Vj,aM (by omega)] at this;simpa using this
def aD.one (w:World) (t:TypeId) {x:Int}(h0:0<=x) (h1:x<18446744073709551616):aD (w.alloc (.cells #[.int .u64 x] t)) (some ⟨w.heap.size,0,none⟩) 1 [x]:=
 ⟨rfl,fun _=>⟨_,0,rfl,by simp,fun i hi=>by
   obtain rfl:i=0:=by omega
   exact K4 w _ t⟩,fun i=>by
   match i with
   | 0=>exact ⟨h0,h1⟩
   | i+1=>rw [cW (by simp)];omega⟩
end
def bu (xs:List Int) (n:Nat):Nat:=DM (nth xs) n
def bS (xs:List Int) (n:Nat):bu xs n<=n:=adQ _ _
def iM (xs ys:List Int):limbs (xs++ys)=limbs xs+2^(64*xs.length)*limbs ys:=by
 induction xs with
 | nil=>simp [limbs]
 | cons x xs ih=>
   show x.toNat+2^64*limbs (xs++ys)=x.toNat+2^64*limbs xs+2^(64*(xs.length+1))*limbs ys;rw [ih,NP,xZ (64*xs.length),iH,ak,cn];omega
def nO (h:k<xs.length):limbs (xs.take (k+1))=limbs (xs.take k)+2^(64*k)*(nth xs k).toNat:=by
 have e:xs.take (k+1)=xs.take k++[nth xs k]:=by rw [gJ h];exact lu h
 rw [e,iM,cS,pF (by omega)];show _+_*((nth xs k).toNat+2^64*0)=_;rw [jv,je]
def Kf {n:Nat}(hn:n<=xs.length):limbs (xs.take (bu xs n))=limbs (xs.take n):=by
 induction n with
 | zero=>rfl
 | succ n ih=>
   unfold bu;by_cases h:nth xs n=0
   . rw [rj h,nO (by omega),h]
     show _=_+_*0;rw [jv,je];exact ih (by omega)
   . rw [ri h]
def O4 (hn:xs.length=n) (h:bu xs n=0):limbs xs=0:=by
 have:=Kf (xs:=xs) (n:=n) (by omega);rw [h,gZ (i:=n) (by omega)] at this;rw [<- this];rfl
def Dd {x:Nat}(h:x<2^64):x<2^Lib.bitLen x:=by
 unfold Lib.bitLen;revert h;generalize 64=f;induction f generalizing x with
 | zero=>intro h;simpa [Lib.bitLenAux] using h
 | succ f ih=>
   intro h;unfold Lib.bitLenAux;split
   . rename_i e;subst e;decide
   . rw [kR] at h
     have:=ih (x:=x / 2) (by omega);rw [iH];omega
def cN:(prog.info? 38).map (fun i=>(i.zero,i.size,i.bytes))=some (some (.int .u64 0),1,8):=by kernel_rfl
def zq (w:World) (xs:List Int) (e:Ending) (w':World):Prop:=
 ∃A c,e=.returned (.slice A xs.length c)∧xs.length<=c∧c<=9223372036854775807∧aD w' A xs.length xs∧Below w.heap.size w w'
def bK (A:Option Addr) (n c:Nat) (xs:List Int) (w:World) (hx:aD w A n xs) (hn:n<=c) (hc:c<=9223372036854775807):
 aC 112 #[.slice A n c] w fun e w'=>e=.returned (.slice A (bu xs n) c)∧w'=w:=by
 go_enter func112,ntmps112
 obtain ⟨wo,rfl⟩:∃wo:World,wo=w:=⟨_,rfl⟩;go_wp2
 go_loopg [0] (n+1) (fun gk s wr=>∃m:Nat,m<=n∧m<gk∧s=.slice A m c∧Hid (bu xs n=bu xs m)∧wr=wo)
 case atStart=>exact ⟨n,by omega,by omega,rfl,rfl,rfl⟩
 case round=>
  obtain ⟨m,hm,Mh,rfl,th,rfl⟩:=hrel;cases m with
  | zero=>
    have tR:Hid (bu xs n=0):=th.o;(go_wp2);go_ret;refine ⟨?_,rfl⟩;rw [tR.o];rfl
  | succ m=>
    obtain ⟨b,o,rfl,hb,hc'⟩:=hx.at_ (by omega);have hcy:=hc' m (by omega);clear hc';(have hmc:m<=c:=by omega);(have ajC:(m:Int)<=(c:Int):=by omega);(have hmp:(0:Int)<(m:Int)+1:=by omega);by_cases hz:nth xs m=0
    . rw [hz] at hcy
      have Hz:=aA hz;clear hz;(go_wp2);go_roundg (gk-1)
      case measure=>omega
      case rel=>exact ⟨m,by omega,by omega,rfl,by show _=_;rw [th.o];exact rj Hz.o,rfl⟩
    . have Ko:(nth xs m==0)=false:=jD.2 hz
      have tR:Hid (bu xs n=m+1):=th.o.trans (ri hz);clear hz;(go_wp2);go_ret;refine ⟨?_,rfl⟩;rw [tR.o];rfl
def Un (w:World) (a:Option Addr) (n c n' c':Nat):(binOp .eql 39 (.slice a n c) (.slice none n' c')).run prog w=.ok (.bool a.isNone) w:=
 Lib.run_eql_slice_nil w _ _ a n c n' c' underlying39
def RP (A:Option Addr) (n c:Nat) (xs:List Int) (w:World) (hx:aD w A n xs) (hn:n*8<=140737488355328):
 aC 111 #[.slice A n c] w (zq w xs):=by
 obtain rfl:=hx.len;have hr:=aA hx.reads;have lH:=aA hx.ok;have q22:=Un;obtain ⟨i0,hi,iQ,iC,iP⟩:=dJ cN;rcases A with _ | ad
 . have h0:xs.length=0:=by
    rcases jJ xs.length with h | h
    . exact h
    . obtain ⟨b,o,e,_⟩:=hx.at_ h
      cases e
   have tR:Hid (zq w xs (.returned (.slice none 0 0)) w):=by
    refine ⟨none,0,by rw [h0],by omega,by omega,?_,aW⟩;rw [lz h0];exact aD.nil _ _
   clear h0 hx;go_enter func111,ntmps111
   go_wp2
   go_ret;exact tR.o
 . go_enter func111,ntmps111
   go_wp2_with (at_builtin;refine bN (w:=w.alloc (.cells #[] 38)) rfl _ _ 39 rfl w.heap.size 38 i0 (.int .u64 0) 1 8 underlying39 hi iQ iC iP rfl (by decide) _ 0 [] rfl (bB w 38 aK) w.heap.size (some ad) xs.length c (au xs) rfl (hr.o.alloc aK _) (iL xs) (by unfold maxLen;omega) (by omega) (by simp) ?_;intro v' w1 aY aX gO)
   have bL:w1.ownsRow w.heap.size 38 1 v' xs.length (au xs):=by simpa using aY
   have hb:Below w.heap.size w w1:=((Below.refl _ w).alloc aK _).grown aX (by simp) (fun k hk=>((bB w 38 aK).lt k hk).1);go_wp2
   go_ret;obtain ⟨A',c',rfl⟩:=eM bL;have hcc:xs.length<=c'∧c'<=9223372036854775807:=by
    rcases bL.2 with ⟨hv,h0⟩ | ⟨g,cap,cur,hv,_,_,ig,wS,_⟩
    . injection hv;omega
    . injection hv with _ _ e
      unfold maxLen at wS;omega
   exact ⟨A',c',rfl,hcc.1,hcc.2,aD.gi bL lH.o,hb⟩
def DY (A:Option Addr) (n c:Nat) (xs:List Int) (w:World) (hx:aD w A n xs) (hn:n<=c) (hc:c<=9223372036854775807) (Fz:n*8<=140737488355328):
 aC 81 #[.slice A n c] w (zq w (xs.take (bu xs n))):=by
 have hl:=bS xs n;go_enter func81,ntmps81
 go_wp2_with fail
 refine (bK A n c xs _ hx hn hc).mono ?_;rintro e w' ⟨rfl,rfl⟩;go_wp2_with fail
 refine (RP A _ c _ _ (hx.take hl) (by omega)).mono ?_;rintro e w1 ⟨A1,c1,rfl,h1,h2,h3,h4⟩;go_wp2
 go_ret;refine ⟨A1,c1,?_,h1,h2,h3,h4⟩;rw [cS];rfl
def CX (w:World) (neg:Bool) (xs:List Int) (e:Ending) (w':World):Prop:=
 ∃A c,e=.returned (.agg #[.bool neg,.slice A xs.length c])∧xs.length<=c∧c<=9223372036854775807∧aD w' A xs.length xs∧Below w.heap.size w w'
def aT:(prog.info? 41).map (·.size)=some 2:=by kernel_rfl
def Duo (w:World) (g:Nat) (u v:Value):Prop:=w.heap[g]? =some (.cells #[u,v] 41 (0,0))
section
variable {w w' : World} {g : Nat} {u v : Value}
def Duo.lt (h:Duo w g u v):g<w.heap.size:=(jf.1 h).1
def Duo.cell0 (h:Duo w g u v):w.cell? ⟨g,0,none⟩=some u:=by rw [dA w g 0 _ _ (0,0) h];rfl
def Duo.cell1 (h:Duo w g u v):w.cell? ⟨g,1,none⟩=some v:=by rw [dA w g 1 _ _ (0,0) h];rfl
def Duo.frozen (h:Duo w g u v) (i:Nat):w.frozen? ⟨g,i,none⟩=false:=by unfold Duo at h;simp [World.frozen?,h]
def Duo.keep (h:Duo w g u v) (hk:w'.heap[g]? =w.heap[g]?):Duo w' g u v:=hk.trans h
def Duo.aB (h:Duo w g u v) (hb:Below w.heap.size w w'):Duo w' g u v:=h.keep (hb.block g h.lt)
def Duo.set (h:Duo w g u v) (a b:Value):Duo ((w.setCell ⟨g,0,none⟩ a).setCell ⟨g,1,none⟩ b) g a b:=by
 unfold Duo at h ⊢;simp [World.setCell,wI,h]
def Duo.new (w:World) (u v:Value):Duo (w.alloc (.cells #[u,v] 41)) w.heap.size u v:=bO w _
def Duo.limbs (h:Duo w g u v) (a b:Value) {A:Option Addr} {n c:Nat} {s:Bool}(hu:u=.bool s) (hv:v=.slice A n c) {B:Option Addr} {m:Nat} {ys:List Int}(hi:aD w B m ys):aD ((w.setCell ⟨g,0,none⟩ a).setCell ⟨g,1,none⟩ b) B m ys:=by
 refine ⟨hi.len,fun hm=> ?_,hi.ok⟩;obtain ⟨bb,o,e,hb,hc⟩:=hi.at_ hm;refine ⟨bb,o,e,by simpa using hb,fun i hlt=> ?_⟩;have hne:bb≠g∨(o+i≠0∧o+i≠1):=by
  by_cases e1:bb=g
  . subst e1
    refine .inr ⟨fun e2=> ?_,fun e2=> ?_⟩
    . have:=hc i hlt
      rw [e2,h.cell0,hu] at this;cases this
    . have:=hc i hlt
      rw [e2,h.cell1,hv] at this;cases this
  . exact .inl e1
 rw [iF _ _ _ _ (fun e=>by injection e;omega),iF _ _ _ _ (fun e=>by injection e;omega)];exact hc i hlt
def stZ (w:World) (s:Bool) (A:Option Addr) (n c:Nat) (t:Bool) (B:Option Addr) (m d:Nat):
 Below w.heap.size w (w.alloc (.cells #[.bool s,.slice A n c] 41))∧Below w.heap.size w ((w.alloc (.cells #[.bool s,.slice A n c] 41)).alloc (.cells #[.bool t,.slice B m d] 41))∧Below w.heap.size w (((w.alloc (.cells #[.bool s,.slice A n c] 41)).alloc (.cells #[.bool t,.slice B m d] 41)).alloc (.cells #[.bool false,.slice none 0 0] 41))∧Duo (((w.alloc (.cells #[.bool s,.slice A n c] 41)).alloc (.cells #[.bool t,.slice B m d] 41)).alloc (.cells #[.bool false,.slice none 0 0] 41)) w.heap.size (.bool s) (.slice A n c)∧Duo (((w.alloc (.cells #[.bool s,.slice A n c] 41)).alloc (.cells #[.bool t,.slice B m d] 41)).alloc (.cells #[.bool false,.slice none 0 0] 41)) (w.heap.size+1) (.bool t) (.slice B m d)∧Duo (((w.alloc (.cells #[.bool s,.slice A n c] 41)).alloc (.cells #[.bool t,.slice B m d] 41)).alloc (.cells #[.bool false,.slice none 0 0] 41)) (w.heap.size+1+1) (.bool false) (.slice none 0 0)∧(((w.alloc (.cells #[.bool s,.slice A n c] 41)).alloc (.cells #[.bool t,.slice B m d] 41)).alloc (.cells #[.bool false,.slice none 0 0] 41)).heap.size=w.heap.size+1+1+1:=by
 have b1:Below w.heap.size w (w.alloc (.cells #[.bool s,.slice A n c] 41)):=aW.alloc aK _;have b2:Below w.heap.size w ((w.alloc (.cells #[.bool s,.slice A n c] 41)).alloc (.cells #[.bool t,.slice B m d] 41)):=b1.alloc (by simp) _;have da:=((Duo.new w (.bool s) (.slice A n c)).aB (aW.alloc aK (.cells #[.bool t,.slice B m d] 41))).aB (aW.alloc aK (.cells #[.bool false,.slice none 0 0] 41));have db:=(Duo.new (w.alloc (.cells #[.bool s,.slice A n c] 41)) (.bool t) (.slice B m d)).aB (aW.alloc aK (.cells #[.bool false,.slice none 0 0] 41));have dr:=Duo.new ((w.alloc (.cells #[.bool s,.slice A n c] 41)).alloc (.cells #[.bool t,.slice B m d] 41)) (.bool false) (.slice none 0 0);rw [aJ] at db;rw [aJ,aJ] at dr;have b3:Below w.heap.size w (((w.alloc (.cells #[.bool s,.slice A n c] 41)).alloc (.cells #[.bool t,.slice B m d] 41)).alloc (.cells #[.bool false,.slice none 0 0] 41)):=b2.alloc (by simp;omega) _;exact ⟨b1,b2,b3,da,db,dr,by simp⟩
def BS {w wt:World} {s:Bool} {A:Option Addr} {n c:Nat} {t:Bool} {B:Option Addr} {m d:Nat} (la:w.heap.size<wt.heap.size) (lb:w.heap.size+1<wt.heap.size) (a0:wt.cell? ⟨w.heap.size,0,none⟩=some (.bool s)) (a1:wt.cell? ⟨w.heap.size,1,none⟩=some (.slice A n c)) (e0:wt.cell? ⟨w.heap.size+1,0,none⟩=some (.bool t)) (e1:wt.cell? ⟨w.heap.size+1,1,none⟩=some (.slice B m d)):Hid (∀W,Below wt.heap.size wt W->W.cell? ⟨w.heap.size,0,none⟩=some (.bool s)∧W.cell? ⟨w.heap.size,1,none⟩=some (.slice A n c)∧W.cell? ⟨w.heap.size+1,0,none⟩=some (.bool t)∧W.cell? ⟨w.heap.size+1,1,none⟩=some (.slice B m d)):=fun W hW=>
  ⟨(hW.cell (p:=⟨w.heap.size,0,none⟩) la).trans a0,(hW.cell (p:=⟨w.heap.size,1,none⟩) la).trans a1,(hW.cell (p:=⟨w.heap.size+1,0,none⟩) lb).trans e0,(hW.cell (p:=⟨w.heap.size+1,1,none⟩) lb).trans e1⟩
def OG {w wt:World} (lr:w.heap.size+1+1<wt.heap.size) (r0:wt.cell? ⟨w.heap.size+1+1,0,none⟩=some (.bool false)) (r1:wt.cell? ⟨w.heap.size+1+1,1,none⟩=some (.slice none 0 0)) (Dr:Hid (Duo wt (w.heap.size+1+1) (.bool false) (.slice none 0 0))):Hid (∀W,Below wt.heap.size wt W->W.cell? ⟨w.heap.size+1+1,0,none⟩=some (.bool false)∧W.cell? ⟨w.heap.size+1+1,1,none⟩=some (.slice none 0 0)∧W.frozen? ⟨w.heap.size+1+1,0,none⟩=false∧W.frozen? ⟨w.heap.size+1+1,1,none⟩=false):=fun W hW=>
  ⟨(hW.cell (p:=⟨w.heap.size+1+1,0,none⟩) lr).trans r0,(hW.cell (p:=⟨w.heap.size+1+1,1,none⟩) lr).trans r1,(Dr.o.aB hW).frozen 0,(Dr.o.aB hW).frozen 1⟩
end
def Jx (neg:Bool) (A:Option Addr) (n c:Nat) (xs:List Int) (w:World) (hx:aD w A n xs) (hn:n<=c) (hc:c<=9223372036854775807) (Fz:n*8<=140737488355328):
 aC 80 #[.bool neg,.slice A n c] w (CX w (neg && decide (0<bu xs n)) (xs.take (bu xs n))):=by
 have hl:=bS xs n;have hlen:(xs.take (bu xs n)).length=bu xs n:=by rw [cS,hx.len];omega
 have yo:=aA hlen;have Cn:=aA (fun W (h:Below w.heap.size w W)=>DY A n c xs W (hx.aB h) hn hc Fz);have hd:=Duo.new w (.bool false) (.slice none 0 0);clear hlen hx;go_enter func80,ntmps80
 go_wp2_with fail
 refine (Cn.o _ (by exact aW.alloc aK _)).mono ?_;rintro e w1 ⟨A1,c1,rfl,h1,h2,h3,h4⟩;rw [yo.o] at h1 h3 ⊢;have jU:=hd.aB h4;have c0:=jU.cell0;have u9:=jU.cell1;have f0:=jU.frozen 0;have f1:=jU.frozen 1;have hb:Below w.heap.size w w1:=((Below.refl _ w).alloc aK _).trans (h4.mono (by simp));have Hd:=aA jU;clear hd jU h4;have fin:∀b:Bool,CX w b (xs.take (bu xs n)) (.returned (.agg #[.bool b,.slice A1 (bu xs n) c1])) ((w1.setCell ⟨w.heap.size,0,none⟩ (.bool b)).setCell ⟨w.heap.size,1,none⟩ (.slice A1 (bu xs n) c1)):=fun b=>by
  refine ⟨A1,c1,?_,?_,h2,?_,(hb.setCell (p:=⟨w.heap.size,0,none⟩) aK _).setCell (p:=⟨w.heap.size,1,none⟩) aK _⟩
  . rw [yo.o]
  . rw [yo.o];exact h1
  . rw [yo.o];exact Hd.o.limbs _ _ rfl rfl h3
 have Fin:=aA fin;clear fin;cases neg with
 | false=>
   go_wp2
   exact ax (v:=.agg #[.bool false,.slice A1 (bu xs n) c1]) (cI (fn:=f80) rfl _ _ _ _ _ _ _ rfl (Hd.o.set (.bool false) (.slice A1 (bu xs n) c1)) underlying41 rfl aT) rfl (Fin.o _)
 | true=>
   go_wp2
   exact ax (v:=.agg #[.bool (decide (0<bu xs n)),.slice A1 (bu xs n) c1]) (cI (fn:=f80) rfl _ _ _ _ _ _ _ rfl (Hd.o.set (.bool (decide (0<bu xs n))) (.slice A1 (bu xs n) c1)) underlying41 rfl aT) rfl (Fin.o _)
def Vz (neg:Bool) (A:Option Addr) (n c:Nat) (xs:List Int) (w:World) (hx:aD w A n xs) (hn:n<=c) (hc:c<=9223372036854775807) (Fz:n*8<=140737488355328):
 aC 105 #[.agg #[.bool neg,.slice A n c]] w (CX w (neg && decide (0<bu xs n)) (xs.take (bu xs n))):=by
 have Cn:=aA (fun W (h:Below w.heap.size w W)=>Jx neg A n c xs W (hx.aB h) hn hc Fz);have uw:=(Duo.new w (.bool neg) (.slice A n c)).aB (aW.alloc aK (.cells #[.bool false,.slice none 0 0] 41));have hd:=Duo.new (w.alloc (.cells #[.bool neg,.slice A n c] 41)) (.bool false) (.slice none 0 0);rw [aJ] at hd;have c0:=uw.cell0;have c1:=uw.cell1;have Hd:=aA hd;clear hd uw hx;go_enter func105,ntmps105
 go_wp2_with fail
 refine (Cn.o _ (by exact (aW.alloc aK _).alloc (by simp) _)).mono ?_;rintro e w1 ⟨A1,u9,rfl,h1,h2,h3,h4⟩;have jU:=Hd.o.aB h4;have k0:=jU.cell0;have k1:=jU.cell1;have f0:=jU.frozen 0;have f1:=jU.frozen 1;have hb:Below w.heap.size w w1:=(((Below.refl _ w).alloc aK _).alloc (by simp) _).trans (h4.mono (by simp;omega));have JP:=aA jU;clear jU h4;go_wp2
 exact ax (cI (fn:=f105) rfl _ _ _ _ _ _ _ rfl (JP.o.set _ _) underlying41 rfl aT) rfl
  ⟨A1,u9,by rw [cS],h1,h2,JP.o.limbs _ _ rfl rfl h3,(hb.setCell (p:=⟨w.heap.size+1,0,none⟩) (by simp) _).setCell (p:=⟨w.heap.size+1,1,none⟩) (by simp) _⟩
def xC (neg:Bool):Nat->Int
 | 0=>0
 | _+1=>if neg then -1 else 1
def xx (neg:Bool) (A:Option Addr) (n c:Nat) (xs:List Int) (w:World) (hx:aD w A n xs) (hn:n<=c) (hc:c<=9223372036854775807) (Fz:n*8<=140737488355328):
 aC 72 #[.agg #[.bool neg,.slice A n c]] w (fun e w'=>e=.returned (.int .i64 (xC neg (bu xs n)))∧Below w.heap.size w w'):=by
 have hl:=bS xs n;have hlen:(xs.take (bu xs n)).length=bu xs n:=by rw [cS,hx.len];omega
 have yo:=aA hlen;have Cn:=aA (fun W (h:Below w.heap.size w W)=>Vz neg A n c xs W (hx.aB h) hn hc Fz);have hd:=Duo.new w (.bool neg) (.slice A n c);have k0:=hd.cell0;have k1:=hd.cell1;have Hd:=aA hd;clear hd hlen hx;go_enter func72,ntmps72
 go_wp2_with fail
 refine (Cn.o _ (by exact aW.alloc aK _)).mono ?_;rintro e w1 ⟨A1,c1,rfl,h1,h2,h3,h4⟩;rw [yo.o] at h1 h3 ⊢;have jU:=Hd.o.aB h4;have c0:=jU.cell0;have u9:=jU.cell1;have f0:=jU.frozen 0;have f1:=jU.frozen 1;have hb:Below w.heap.size w w1:=((Below.refl _ w).alloc aK _).trans (h4.mono (by simp));have VK:∀u v,Below w.heap.size w ((w1.setCell ⟨w.heap.size,0,none⟩ u).setCell ⟨w.heap.size,1,none⟩ v):=fun u v=>(hb.setCell (p:=⟨w.heap.size,0,none⟩) aK _).setCell (p:=⟨w.heap.size,1,none⟩) aK _;have Hb:=aA VK;clear jU h4 hb VK;clear Hd k0 k1 h3 yo;obtain ⟨L,hL⟩:∃L,bu xs n=L:=⟨_,rfl⟩;have HL:=aA hL;rw [hL] at h1 ⊢;clear hL Cn hl;rcases L with _ | L
 . cases neg<;>(go_wp2;go_ret;exact ⟨by rw [HL.o];rfl,Hb.o _ _⟩)
 . have Jm:(0:Int)<(L:Int)+1:=by omega
   cases neg<;>(go_wp2;go_ret;exact ⟨by rw [HL.o];rfl,Hb.o _ _⟩)
def adn (x:Int) (w:World) (h0:0<=x) (h1:x<=9223372036854775807):
 aC 46 #[.int .i64 x] w (CX w false ([x].take (bu [x] 1))):=by
 have Cn:=aA (fun W (h:aD W (some ⟨w.heap.size+1,0,none⟩) 1 [x])=>Jx false (some ⟨w.heap.size+1,0,none⟩) 1 1 [x] W h (by omega) (by omega) (by omega));have hd:=(Duo.new w (.bool false) (.slice none 0 0)).aB (aW.alloc aK (.cells #[.int .u64 x] 38));have oL:=aD.one (w.alloc (.cells #[.bool false,.slice none 0 0] 41)) 38 h0 (x:=x) (by omega);rw [aJ] at oL;have Hlm:=aA oL;have Hd:=aA hd;clear hd oL;go_enter func46,ntmps46
 go_wp2_with fail
 refine (Cn.o _ (by exact Hlm.o)).mono ?_;rintro e w1 ⟨A1,c1,rfl,h2,h3,h4,h5⟩;have jU:=Hd.o.aB h5;have k0:=jU.cell0;have k1:=jU.cell1;have f0:=jU.frozen 0;have f1:=jU.frozen 1;have hb:Below w.heap.size w w1:=(((Below.refl _ w).alloc aK _).alloc (by simp) _).trans (h5.mono (by simp;omega));have JP:=aA jU;clear jU h5;go_wp2
 exact ax (cI (fn:=Tryz.f46) rfl _ _ _ _ _ _ _ rfl (JP.o.set _ _) underlying41 rfl aT) rfl
  ⟨A1,c1,by rw [cS];rfl,h2,h3,JP.o.limbs _ _ rfl rfl h4,(hb.setCell (p:=⟨w.heap.size,0,none⟩) aK _).setCell (p:=⟨w.heap.size,1,none⟩) aK _⟩
def aN (f:Nat->Nat->Nat×Nat):Nat->List Int×Nat
 | 0=>([],0)
 | n+1=>((aN f n).1++[((f n (aN f n).2).1:Int)],(f n (aN f n).2).2)
def bh (f:Nat->Nat->Nat×Nat):∀n,(aN f n).1.length=n
 | 0=>rfl
 | n+1=>by show ((aN f n).1++[_]).length=_;rw [eF,bh f n];rfl
def zh (f:Nat->Nat->Nat×Nat) (n:Nat):limbs (aN f (n+1)).1=limbs (aN f n).1+2^(64*n)*(f n (aN f n).2).1:=by
 show limbs ((aN f n).1++[_])=_;rw [iM,bh];show _+_*(((f n (aN f n).2).1:Int).toNat+2^64*0)=_;rw [jv,je,jY]
def od {f:Nat->Nat->Nat×Nat}(h:∀k c,(f k c).1<18446744073709551616):∀n,aQ (aN f n).1
 | 0=>fun i=>by show 0<=nth [] i∧nth [] i<_;rw [cW (by simp)];omega
 | n+1=>fun i=>by
   have ih:=od h n i;show 0<=nth ((aN f n).1++[_]) i∧nth ((aN f n).1++[_]) i<_;by_cases hi:i<n
   . rw [nE (by rw [bh];exact hi)];exact ih
   . rw [nH (by rw [bh];omega),bh]
     by_cases e:i=n
     . subst e
       rw [pT];have:=h i (aN f i).2;show 0<=((f i (aN f i).2).1:Int)∧_<_;exact ⟨by omega,by show ((f i (aN f i).2).1:Int)<_;omega⟩
     . rw [cW (by simp;omega)];omega
def fk (xs:List Int) (k:Nat):limbs (xs.take (k+1))=limbs (xs.take k)+2^(64*k)*(nth xs k).toNat:=by
 by_cases h:k<xs.length
 . exact nO h
 . rw [gZ (i:=k+1) (by omega),gZ (i:=k) (by omega),cW (by omega)]
   show _=_+_*0;rw [jv,je]
def fL (h:xs.length<=n):limbs (xs.take n)=limbs xs:=by rw [gZ h]
def sP (n:Nat):2^(64*(n+1))=2^(64*n)*18446744073709551616:=by
 rw [NP,iH]
def jd (a b:List Int) (k c:Nat):Nat×Nat:=(((nth a k).toNat+(nth b k).toNat+c) % 18446744073709551616,((nth a k).toNat+(nth b k).toNat+c) / 18446744073709551616)
def Vb (a b:List Int) (k c:Nat):(jd a b k c).1<18446744073709551616:=jO _ (by omega)
def CH (ha:aQ a) (hb:aQ b):∀n,(aN (jd a b) n).2<=1∧limbs (aN (jd a b) n).1+2^(64*n)*(aN (jd a b) n).2=limbs (a.take n)+limbs (b.take n)
 | 0=>⟨by show 0<=1;omega,by simp [aN,limbs]⟩
 | n+1=>by
   obtain ⟨h1,h2⟩:=CH ha hb n;have a1:=ha n;have b1:=hb n;rw [zh,fk,fk,sP];show (jd a b n (aN (jd a b) n).2).2<=1∧_+_*(jd a b n (aN (jd a b) n).2).1+_*(jd a b n (aN (jd a b) n).2).2=_;generalize (aN (jd a b) n).2=c at*
   generalize limbs (aN (jd a b) n).1=L at*
   unfold jd;generalize hs:(nth a n).toNat+(nth b n).toNat+c=s;have hd:=sr s 18446744073709551616;show s / 18446744073709551616<=1∧_+_*(s % 18446744073709551616)+_*(s / 18446744073709551616)=_;refine ⟨by omega,?_⟩;generalize 2^(64*n)=P at*
   have h3:P*(s % 18446744073709551616)+P*18446744073709551616*(s / 18446744073709551616)=P*s:=by
    rw [cn,<- ak];congr 1;omega
   have h4:P*s=P*(nth a n).toNat+P*(nth b n).toNat+P*c:=by rw [<- hs,ak,ak]
   omega
def jL (a b:List Int) (k c:Nat):Nat×Nat:=(((nth a k).toNat+18446744073709551616-(nth b k).toNat-c) % 18446744073709551616,if (nth a k).toNat<(nth b k).toNat+c then 1 else 0)
def Ll (a b:List Int) (k c:Nat):(jL a b k c).1<18446744073709551616:=jO _ (by omega)
def AU (ha:aQ a) (hb:aQ b):∀n,(aN (jL a b) n).2<=1∧limbs (aN (jL a b) n).1+limbs (b.take n)=limbs (a.take n)+2^(64*n)*(aN (jL a b) n).2
 | 0=>⟨by show 0<=1;omega,by simp [aN,limbs]⟩
 | n+1=>by
   obtain ⟨h1,h2⟩:=AU ha hb n;have a1:=ha n;have b1:=hb n;rw [zh,fk,fk,sP];show (jL a b n (aN (jL a b) n).2).2<=1∧_+_*(jL a b n (aN (jL a b) n).2).1+_=_+_*(jL a b n (aN (jL a b) n).2).2;generalize (aN (jL a b) n).2=c at*
   generalize limbs (aN (jL a b) n).1=L at*
   unfold jL;generalize hx:(nth a n).toNat=x at*
   generalize hy:(nth b n).toNat=y at*
   generalize 2^(64*n)=P at*
   show (if x<y+c then 1 else 0)<=1∧_+P*((x+18446744073709551616-y-c) % 18446744073709551616)+_=_+P*18446744073709551616*(if x<y+c then 1 else 0);by_cases h:x<y+c
   . rw [aM h]
     refine ⟨by omega,?_⟩;have e:(x+18446744073709551616-y-c) % 18446744073709551616=x+18446744073709551616-y-c:=FT (by omega);rw [e];have h3:P*(x+18446744073709551616-y-c)+P*y+P*c=P*x+P*18446744073709551616:=by
      rw [<- ak,<- ak,<- ak];congr 1;omega
     omega
   . rw [af h]
     refine ⟨by omega,?_⟩;have e:(x+18446744073709551616-y-c) % 18446744073709551616=x-y-c:=by
      rw [show x+18446744073709551616-y-c=x-y-c+18446744073709551616 by omega,Nat.add_mod_right];exact FT (by omega)
     rw [e];have h3:P*(x-y-c)+P*y+P*c=P*x:=by
      rw [<- ak,<- ak];congr 1;omega
     omega
def gm (a:List Int) (x k c:Nat):Nat×Nat:=(((nth a k).toNat*x+c) % 18446744073709551616,((nth a k).toNat*x+c) / 18446744073709551616)
def Fm (a:List Int) (x k c:Nat):(gm a x k c).1<18446744073709551616:=jO _ (by omega)
def ue (ha:aQ a) {x:Nat}(hx:x<18446744073709551616):∀n,(aN (gm a x) n).2<18446744073709551616∧limbs (aN (gm a x) n).1+2^(64*n)*(aN (gm a x) n).2=limbs (a.take n)*x
 | 0=>⟨by show 0<_;omega,by simp [aN,limbs]⟩
 | n+1=>by
   obtain ⟨h1,h2⟩:=ue ha hx n;have a1:=ha n;rw [zh,fk,sP];show (gm a x n (aN (gm a x) n).2).2<_∧_+_*(gm a x n (aN (gm a x) n).2).1+_*(gm a x n (aN (gm a x) n).2).2=_;generalize (aN (gm a x) n).2=c at*
   generalize limbs (aN (gm a x) n).1=L at*
   unfold gm;generalize hy:(nth a n).toNat=y at*
   generalize hs:y*x+c=s;have hd:=sr s 18446744073709551616;show s / 18446744073709551616<_∧_+_*(s % 18446744073709551616)+_*(s / 18446744073709551616)=_;have h5:y*x<=18446744073709551615*18446744073709551615:=dN (by omega) (by omega);refine ⟨by omega,?_⟩;generalize 2^(64*n)=P at*
   have h3:P*(s % 18446744073709551616)+P*18446744073709551616*(s / 18446744073709551616)=P*s:=by
    rw [cn,<- ak];congr 1;omega
   have h4:P*s=P*y*x+P*c:=by rw [<- hs,ak,cn]
   rw [bQ];omega
def vT (xs:List Int) (x:Int):limbs (xs++[x])=limbs xs+2^(64*xs.length)*x.toNat:=by
 rw [iM];show _+_*(x.toNat+2^64*0)=_;rw [jv,je]
def aQ.snoc (h:aQ xs) (h0:0<=x) (h1:x<18446744073709551616):aQ (xs++[x]):=fun i=>by
 by_cases hi:i<xs.length
 . rw [nE hi];exact h i
 . rw [nH (by omega)]
   by_cases e:i-xs.length=0
   . rw [e];exact ⟨h0,h1⟩
   . rw [cW (by simp;omega)];omega
def W6 {xs:List Int}(h:aQ xs) {i:Nat}(hi:i<xs.length) {v:Int}(_hv:0<=v):limbs (xs.set i v)+2^(64*i)*(nth xs i).toNat=limbs xs+2^(64*i)*v.toNat:=by
 induction xs generalizing i with
 | nil=>exact absurd hi (by simp)
 | cons x xs ih=>
   match i with
   | 0=>
     show v.toNat+2^64*limbs xs+2^(64*0)*x.toNat=x.toNat+2^64*limbs xs+2^(64*0)*v.toNat
     rw [jv,wH];omega
   | i+1=>
     have h1:=ih h.tail (i:=i) (by simpa using hi);show x.toNat+2^64*limbs (xs.set i v)+2^(64*(i+1))*(nth xs i).toNat=x.toNat+2^64*limbs xs+2^(64*(i+1))*v.toNat
     rw [NP,xZ (64*i),iH,cn,cn];(have h2:2^64*(limbs (xs.set i v)+2^(64*i)*(nth xs i).toNat)=2^64*(limbs xs+2^(64*i)*v.toNat):=by rw [h1]);rw [ak,ak] at h2;omega
def aQ.set (h:aQ xs) (i:Nat) {v:Int}(h0:0<=v) (h1:v<18446744073709551616):aQ (xs.set i v):=fun j=>by
 by_cases hi:i<xs.length
 . rw [iX hi]
   split
   . exact ⟨h0,h1⟩
   . exact h j
 . rw [NN (by omega)];exact h j
def nQ (n:Nat):limbs (List.replicate n 0)=0:=by
 induction n with
 | zero=>rfl
 | succ n ih=>rw [JB];show (0:Int).toNat+2^64*limbs _=0;rw [ih];rfl
def Kg:∀{xs ys:List Int},aQ xs->aQ ys->xs.length=ys.length->limbs xs=limbs ys->xs=ys
 | [],[],_,_,_,_=>rfl
 | x::xs,y::ys,hx,hy,hl,h=>by
   have h1:=hx 0;have h2:=hy 0;rw [mz] at h1 h2;have h3:x.toNat+2^64*limbs xs=y.toNat+2^64*limbs ys:=h;have h4:x=y:=by omega
   subst h4;rw [Kg hx.tail hy.tail (by simpa using hl) (by omega)]
def bX (xs:List Int):Prop:=aQ xs∧(0<xs.length->nth xs (xs.length-1)≠0)
def bX.low (h:bX xs) (hl:0<xs.length):2^(64*(xs.length-1))<=limbs xs:=by
 obtain ⟨k,hk⟩:∃k,xs.length=k+1:=⟨xs.length-1,by omega⟩;have h1:=h.2 hl;have h2:=h.1 k;rw [hk,vt] at h1 ⊢;rw [<- fL (n:=k+1) (by omega),fk];have h3:1<=(nth xs k).toNat:=by omega
 have h4:2^(64*k)*1<=2^(64*k)*(nth xs k).toNat:=bl _ h3;omega
def bX.inj (hx:bX xs) (hy:bX ys) (h:limbs xs=limbs ys):xs=ys:=by
 have key:∀{a b:List Int},bX a->bX b->limbs a=limbs b->¬a.length<b.length:=fun {a b} ha hb e hl=>by
  have h1:=hb.low (by omega);have h2:=eH ha.1;have h3:2^(64*a.length)<=2^(64*(b.length-1)):=fM (by omega) (by omega);omega
 have h1:=key hx hy h;have h2:=key hy hx h.symm;exact Kg hx.1 hy.1 (by omega) h
def bF (h:aQ xs) (hn:xs.length=n):bX (xs.take (bu xs n))∧limbs (xs.take (bu xs n))=limbs xs:=by
 have h1:=bS xs n;refine ⟨⟨h.take _,fun h0=> ?_⟩,by rw [Kf (by omega),fL (by omega)]⟩;rw [cS,pF (by omega)] at h0 ⊢;rw [mq (by omega)];exact OT h0
def aF (neg:Bool) (xs:List Int):Int:=if neg then -(limbs xs:Int) else (limbs xs:Int)
structure bW (neg:Bool) (xs:List Int) (z:Int):Prop where
 pl:bX xs
 eq:aF neg xs=z
 nz:neg=true->0<xs.length
def bX.iY {xs:List Int}(h:bX xs):limbs xs=0↔xs.length=0:=by
 constructor
 . intro h0
   rcases jJ xs.length with h1 | h1
   . exact h1
   . have:=h.low h1
     have:=lC (64*(xs.length-1));omega
 . intro h0
   rw [lz h0];rfl
def bW.unique {s t:Bool} (h:bW s xs z) (k:bW t ys z):s=t∧xs=ys:=by
 have e:aF s xs=aF t ys:=h.eq.trans k.eq.symm;have h1:=h.pl.iY;have k1:=k.pl.iY;have h2:=h.nz;have k2:=k.nz;unfold aF at e;cases s<;>cases t<;>simp at e h2 k2
 . exact ⟨rfl,h.pl.inj k.pl (by omega)⟩
 . exfalso;omega
 . exfalso;omega
 . exact ⟨rfl,h.pl.inj k.pl (by omega)⟩
def bW.Np {s:Bool} (h:bW s xs z):z=0↔xs.length=0:=by
 have e:=h.eq;have h1:=h.pl.iY;unfold aF at e;cases s<;>simp at e<;>omega
def dU (xs ys:List Int):au (xs++ys)=au xs++au ys:=by simp [au]
def Zr (xs:List Int) (i:Nat) (v:Int):(au xs).set i (.int .u64 v)=au (xs.set i v):=by simp [au,JE]
def aD.drewN (h:aD w A n xs) (k:Nat):aD (w.drewN k) A n xs:=h.aB (below_drewN aW k)
def eR (w:World) (g:Nat) (t:TypeId) (xs:List Int):Prop:=w.heap[g]? =some (.cells (au xs).toArray t (0,0))
section
variable {w w' : World} {g : Nat} {t : TypeId} {xs : List Int}
def eR.lt (h:eR w g t xs):g<w.heap.size:=(jf.1 h).1
def eR.cell (h:eR w g t xs) {i:Nat}(hi:i<xs.length):w.cell? ⟨g,i,none⟩=some (.int .u64 (nth xs i)):=by
 rw [dA w g i _ _ (0,0) h];have:=BP hi;simpa using this
def eR.frozen (h:eR w g t xs) (i:Nat):w.frozen? ⟨g,i,none⟩=false:=by
 unfold eR at h;simp [World.frozen?,h]
def eR.set (h:eR w g t xs) (i:Nat) (v:Int):eR (w.setCell ⟨g,i,none⟩ (.int .u64 v)) g t (xs.set i v):=by
 unfold eR at h ⊢;simp [World.setCell,wI,h,<- Zr]
def eR.below {B:Nat}(h:eR w g t xs) (hb:Below B w w') (hg:g<B):eR w' g t xs:=(hb.block g hg).trans h
def eR.aB (h:eR w g t xs) (hb:Below w.heap.size w w'):eR w' g t xs:=h.below hb h.lt
def eR.new (w:World) (t:TypeId) (xs:List Int):eR (w.alloc (.cells (au xs).toArray t)) w.heap.size t xs:=bO w _
def eR.own (h:eR w g t xs) {base n:Nat}(hb:base<=g) (hn:n<=xs.length) (hm:xs.length<=maxLen):
 w.ownsRow base t 1 (.slice (some ⟨g,0,none⟩) n xs.length) n (au (xs.take n)):=
 ⟨by simp [gF,hn],.inr ⟨g,xs.length,_,rfl,hb,h,hn,hm,by simp [gF],by simp [au,QD]⟩⟩
def eR.limbs (h:eR w g t xs) (lH:aQ xs):aD w (some ⟨g,0,none⟩) xs.length xs:=
 ⟨rfl,fun _=>⟨g,0,rfl,h.lt,fun i hi=>by rw [ct];exact h.cell hi⟩,lH⟩
end
def ej {P:Program} {t:TypeId} {i:TypeInfo}(ht:P.underlying t=some (.slice e)) (hi:P.info? e=some i) (hz:i.zero=some (.int .u64 0)) (hs:i.size=1) (hb:i.bytes=8)
 (n:Nat) (hn:n*8<=281474976710656) (w:World):
 (Instr.makeSlice t (.int .i64 (n:Int)) (.int .i64 (n:Int))).run P w=.ok (.slice (some ⟨w.heap.size,0,none⟩) n n) (w.alloc (.cells (au (List.replicate n 0)).toArray e)):=by
 have hr:=run_make (P:=P) w t e i (.int .u64 0) ht hi hz .i64 .i64 n n (by omega) (by omega) (by rw [hb];omega) (by omega);have e1:madeCells (Value.int .u64 0).cells (n*1)=(au (List.replicate n 0)).toArray:=by
  apply Array.toList_inj.1;show (madeCells #[Value.int .u64 0] (n*1)).toList=_;rw [abY,bg];simp [au]
 simp only [jY,hs] at hr;rw [hr,e1]
def rR (f:Nat->Nat->Nat×Nat) (n k:Nat):List Int:=(aN f k).1++List.replicate (n-k) 0
def qg (f:Nat->Nat->Nat×Nat) (hk:k<=n):(rR f n k).length=n:=by
 unfold rR;rw [eF,bh,gI];omega
def um (f:Nat->Nat->Nat×Nat) (n:Nat):rR f n 0=List.replicate n 0:=by unfold rR;show []++_=_;rw [kY];rfl
def uo (f:Nat->Nat->Nat×Nat) (n:Nat):rR f n n=(aN f n).1:=by unfold rR;rw [pT];simp
def xN (f:Nat->Nat->Nat×Nat) (hk:k<n):(rR f n k).set k ((f k (aN f k).2).1:Int)=rR f n (k+1):=by
 unfold rR;rw [NM _ _ (by rw [bh];omega),bh,pT];obtain ⟨m,hm⟩:∃m,n-k=m+1:=⟨n-k-1,by omega⟩;rw [hm,JB,Te,show n-(k+1)=m by omega];show _=((aN f k).1++[((f k (aN f k).2).1:Int)])++_;rw [vA];rfl
def xq (w:World) (xs:List Int) (e:Ending) (w':World):Prop:=
 ∃A c,e=.returned (.slice A xs.length c)∧xs.length<=c∧c<=9223372036854775807∧aD w' A xs.length xs∧Below w.heap.size w w'∧(0<xs.length->∀y,A=some y->w.heap.size<=y.block)
def ya (w:World) (neg:Bool) (xs:List Int) (e:Ending) (w':World):Prop:=
 ∃A c,e=.returned (.agg #[.bool neg,.slice A xs.length c])∧xs.length<=c∧c<=9223372036854775807∧aD w' A xs.length xs∧Below w.heap.size w w'∧(0<xs.length->∀y,A=some y->w.heap.size<=y.block)
def zu (w:World) (xs:List Int) (e:Ending) (w':World):Prop:=
 ∃A c,e=.returned (.slice A xs.length c)∧xs.length<=c∧c<=9223372036854775807∧Ints w' A xs.length xs∧Below w.heap.size w w'∧(0<xs.length->∀y,A=some y->w.heap.size<=y.block)
def sD:(prog.info? 3).map (fun i=>(i.zero,i.size,i.bytes))=some (some (.int .i64 0),1,8):=by kernel_rfl
def iN (xs:List Int):∀v∈ints xs,v.oneCell'=true:=by
 intro v hv;obtain ⟨x,_,rfl⟩:=aj.1 hv;rfl
def aeE (w:World) (a:Option Addr) (n c n' c':Nat):(binOp .eql 42 (.slice a n c) (.slice none n' c')).run prog w=.ok (.bool a.isNone) w:=
 Lib.run_eql_slice_nil w _ _ a n c n' c' underlying42
def ZP (A:Option Addr) (n c:Nat) (xs:List Int) (w:World) (hx:aD w A n xs) (hn:n*8<=140737488355328):
 aC 111 #[.slice A n c] w (xq w xs):=by
 obtain rfl:=hx.len;have hr:=aA hx.reads;have lH:=aA hx.ok;have q22:=Un;obtain ⟨i0,hi,iQ,iC,iP⟩:=dJ cN;rcases A with _ | ad
 . have h0:xs.length=0:=by
    rcases jJ xs.length with h | h
    . exact h
    . obtain ⟨b,o,e,_⟩:=hx.at_ h
      cases e
   have tR:Hid (xq w xs (.returned (.slice none 0 0)) w):=by
    refine ⟨none,0,by rw [h0],by omega,by omega,?_,aW,fun _ y hy=>by cases hy⟩;rw [lz h0];exact aD.nil _ _
   clear h0 hx;go_enter func111,ntmps111
   go_wp2
   go_ret;exact tR.o
 . go_enter func111,ntmps111
   go_wp2_with (at_builtin;refine bN (w:=w.alloc (.cells #[] 38)) rfl _ _ 39 rfl w.heap.size 38 i0 (.int .u64 0) 1 8 underlying39 hi iQ iC iP rfl (by decide) _ 0 [] rfl (bB w 38 aK) w.heap.size (some ad) xs.length c (au xs) rfl (hr.o.alloc aK _) (iL xs) (by unfold maxLen;omega) (by omega) (by simp) ?_;intro v' w1 aY aX gO)
   have bL:w1.ownsRow w.heap.size 38 1 v' xs.length (au xs):=by simpa using aY
   have hb:Below w.heap.size w w1:=((Below.refl _ w).alloc aK _).grown aX (by simp) (fun k hk=>((bB w 38 aK).lt k hk).1);go_wp2
   go_ret;obtain ⟨A',c',rfl⟩:=eM bL;have hcc:xs.length<=c'∧c'<=9223372036854775807:=by
    rcases bL.2 with ⟨hv,h0⟩ | ⟨g,cap,cur,hv,_,_,ig,wS,_⟩
    . injection hv;omega
    . injection hv with _ _ e
      unfold maxLen at wS;omega
   exact ⟨A',c',rfl,hcc.1,hcc.2,aD.gi bL lH.o,hb,fun _ y hy=>(bL.lt y.block (by subst hy;rfl)).1⟩
def Z4 (A:Option Addr) (n c:Nat) (xs:List Int) (w:World) (hx:Ints w A n xs) (hn:n*8<=140737488355328):
 aC 107 #[.slice A n c] w (zu w xs):=by
 obtain rfl:=hx.len;have hr:=aA hx.reads;have lH:=aA hx.ok;have q22:=aeE;obtain ⟨i0,hi,iQ,iC,iP⟩:=dJ sD;rcases A with _ | ad
 . have h0:xs.length=0:=by
    rcases jJ xs.length with h | h
    . exact h
    . obtain ⟨b,o,e,_⟩:=hx.at_ h
      cases e
   have tR:Hid (zu w xs (.returned (.slice none 0 0)) w):=by
    refine ⟨none,0,by rw [h0],by omega,by omega,?_,aW,fun _ y hy=>by cases hy⟩;rw [lz h0];exact ⟨rfl,fun h=>absurd h (by decide),fun i=>by rw [cW (by simp)];exact C7.zero⟩
   clear h0 hx;go_enter func107,ntmps107
   go_wp2
   go_ret;exact tR.o
 . go_enter func107,ntmps107
   go_wp2_with (at_builtin;refine bN (w:=w.alloc (.cells #[] 3)) rfl _ _ 42 rfl w.heap.size 3 i0 (.int .i64 0) 1 8 underlying42 hi iQ iC iP rfl (by decide) _ 0 [] rfl (bB w 3 aK) w.heap.size (some ad) xs.length c (ints xs) rfl (hr.o.alloc aK _) (iN xs) (by unfold maxLen;omega) (by omega) (by simp) ?_;intro v' w1 aY aX gO)
   have bL:w1.ownsRow w.heap.size 3 1 v' xs.length (ints xs):=by simpa using aY
   have hb:Below w.heap.size w w1:=((Below.refl _ w).alloc aK _).grown aX (by simp) (fun k hk=>((bB w 3 aK).lt k hk).1);go_wp2
   go_ret;obtain ⟨A',c',rfl⟩:=eM bL;have hcc:xs.length<=c'∧c'<=9223372036854775807:=by
    rcases bL.2 with ⟨hv,h0⟩ | ⟨g,cap,cur,hv,_,_,ig,wS,_⟩
    . injection hv;omega
    . injection hv with _ _ e
      unfold maxLen at wS;omega
   exact ⟨A',c',rfl,hcc.1,hcc.2,Ints.gi bL lH.o,hb,fun _ y hy=>(bL.lt y.block (by subst hy;rfl)).1⟩
def Uk (A:Option Addr) (n c:Nat) (xs:List Int) (w:World) (hx:aD w A n xs) (hn:n<=c) (hc:c<=9223372036854775807) (Fz:n*8<=140737488355328):
 aC 81 #[.slice A n c] w (xq w (xs.take (bu xs n))):=by
 have hl:=bS xs n;go_enter func81,ntmps81
 go_wp2_with fail
 refine (bK A n c xs _ hx hn hc).mono ?_;rintro e w' ⟨rfl,rfl⟩;go_wp2_with fail
 refine (ZP A _ c _ _ (hx.take hl) (by omega)).mono ?_;rintro e w1 ⟨A1,c1,rfl,h1,h2,h3,h4,h5⟩;go_wp2
 go_ret;refine ⟨A1,c1,?_,h1,h2,h3,h4,h5⟩;rw [cS];rfl
def UF (neg:Bool) (A:Option Addr) (n c:Nat) (xs:List Int) (w:World) (hx:aD w A n xs) (hn:n<=c) (hc:c<=9223372036854775807) (Fz:n*8<=140737488355328):
 aC 80 #[.bool neg,.slice A n c] w (ya w (neg && decide (0<bu xs n)) (xs.take (bu xs n))):=by
 have hl:=bS xs n;have hlen:(xs.take (bu xs n)).length=bu xs n:=by rw [cS,hx.len];omega
 have yo:=aA hlen;have Cn:=aA (fun W (h:Below w.heap.size w W)=>Uk A n c xs W (hx.aB h) hn hc Fz);have hd:=Duo.new w (.bool false) (.slice none 0 0);clear hlen hx;go_enter func80,ntmps80
 go_wp2_with fail
 refine (Cn.o _ (by exact aW.alloc aK _)).mono ?_;rintro e w1 ⟨A1,c1,rfl,h1,h2,h3,h4,h5⟩;rw [yo.o] at h1 h3 h5 ⊢;have H5:Hid (0<bu xs n->∀y,A1=some y->w.heap.size<=y.block):=fun h0 y hy=>by have:=h5 h0 y hy;simp at this;omega
 clear h5;have jU:=hd.aB h4;have c0:=jU.cell0;have u9:=jU.cell1;have f0:=jU.frozen 0;have f1:=jU.frozen 1;have hb:Below w.heap.size w w1:=((Below.refl _ w).alloc aK _).trans (h4.mono (by simp));have Hd:=aA jU;clear hd jU h4;have fin:∀b:Bool,ya w b (xs.take (bu xs n)) (.returned (.agg #[.bool b,.slice A1 (bu xs n) c1])) ((w1.setCell ⟨w.heap.size,0,none⟩ (.bool b)).setCell ⟨w.heap.size,1,none⟩ (.slice A1 (bu xs n) c1)):=fun b=>by
  refine ⟨A1,c1,?_,?_,h2,?_,(hb.setCell (p:=⟨w.heap.size,0,none⟩) aK _).setCell (p:=⟨w.heap.size,1,none⟩) aK _,by rw [yo.o];exact H5.o⟩
  . rw [yo.o]
  . rw [yo.o];exact h1
  . rw [yo.o];exact Hd.o.limbs _ _ rfl rfl h3
 have Fin:=aA fin;clear fin;cases neg with
 | false=>
   go_wp2
   exact ax (v:=.agg #[.bool false,.slice A1 (bu xs n) c1]) (cI (fn:=f80) rfl _ _ _ _ _ _ _ rfl (Hd.o.set (.bool false) (.slice A1 (bu xs n) c1)) underlying41 rfl aT) rfl (Fin.o _)
 | true=>
   go_wp2
   exact ax (v:=.agg #[.bool (decide (0<bu xs n)),.slice A1 (bu xs n) c1]) (cI (fn:=f80) rfl _ _ _ _ _ _ _ rfl (Hd.o.set (.bool (decide (0<bu xs n))) (.slice A1 (bu xs n) c1)) underlying41 rfl aT) rfl (Fin.o _)
def ado (neg:Bool) (A:Option Addr) (n c:Nat) (xs:List Int) (w:World) (hx:aD w A n xs) (hn:n<=c) (hc:c<=9223372036854775807) (Fz:n*8<=140737488355328):
 aC 105 #[.agg #[.bool neg,.slice A n c]] w (ya w (neg && decide (0<bu xs n)) (xs.take (bu xs n))):=by
 have Cn:=aA (fun W (h:Below w.heap.size w W)=>UF neg A n c xs W (hx.aB h) hn hc Fz);have uw:=(Duo.new w (.bool neg) (.slice A n c)).aB (aW.alloc aK (.cells #[.bool false,.slice none 0 0] 41));have hd:=Duo.new (w.alloc (.cells #[.bool neg,.slice A n c] 41)) (.bool false) (.slice none 0 0);rw [aJ] at hd;have c0:=uw.cell0;have c1:=uw.cell1;have Hd:=aA hd;clear hd uw hx;go_enter func105,ntmps105
 go_wp2_with fail
 refine (Cn.o _ (by exact (aW.alloc aK _).alloc (by simp) _)).mono ?_;rintro e w1 ⟨A1,u9,rfl,h1,h2,h3,h4,h5⟩;have H5:Hid (0<(xs.take (bu xs n)).length->∀y,A1=some y->w.heap.size<=y.block):=fun h0 y hy=>by have:=h5 h0 y hy;simp at this;omega
 clear h5;have jU:=Hd.o.aB h4;have k0:=jU.cell0;have k1:=jU.cell1;have f0:=jU.frozen 0;have f1:=jU.frozen 1;have hb:Below w.heap.size w w1:=(((Below.refl _ w).alloc aK _).alloc (by simp) _).trans (h4.mono (by simp;omega));have JP:=aA jU;clear jU h4;go_wp2
 exact ax (cI (fn:=f105) rfl _ _ _ _ _ _ _ rfl (JP.o.set _ _) underlying41 rfl aT) rfl
  ⟨A1,u9,by rw [cS],h1,h2,JP.o.limbs _ _ rfl rfl h3,(hb.setCell (p:=⟨w.heap.size+1,0,none⟩) (by simp) _).setCell (p:=⟨w.heap.size+1,1,none⟩) (by simp) _,H5.o⟩
open aG
def lV (h:aD w A n xs) (ho:Only S w w') (hA:0<n->∀y,A=some y->¬S y.block):aD w' A n xs:=
 ⟨h.len,fun hn=>by
   obtain ⟨b,o,e,hb,hc⟩:=h.at_ hn;refine ⟨b,o,e,gh hb ho.size,fun i hi=> ?_⟩;rw [ho.cell (p:=⟨b,o+i,none⟩) hb (hA hn ⟨b,o,none⟩ e)];exact hc i hi,h.ok⟩
def bW.cap {s:Bool} {xs:List Int} {K:Nat}(h:bW s xs z) (hz:z.natAbs<2^(64*K)):xs.length<=K:=by
 rcases qz K xs.length with hlt | wZ
 . exfalso
   have h1:=h.pl.low (by omega);have h2:2^(64*K)<=2^(64*(xs.length-1)):=fM (by omega) (by omega);have h3:z.natAbs=limbs xs:=by
    rw [<- h.eq];unfold aF;cases s<;>simp
   omega
 . exact wZ
def bG (s:Bool) (A:Option Addr) (k c:Nat) (B:Option Addr) (m d:Nat):Value:=.agg #[.bool s,.slice A k c,.slice B m d]
def Kid (P:Value->Prop) (w:World) (b o i:Nat):Prop:=∃s A k c B m d,w.cell? ⟨b,o+i*3,none⟩=some (.bool s)∧w.cell? ⟨b,o+i*3+1,none⟩=some (.slice A k c)∧w.cell? ⟨b,o+i*3+2,none⟩=some (.slice B m d)∧P (bG s A k c B m d)
def RowK (S:Nat->Prop) (P:Nat->Value->Prop) (w:World) (A:Option Addr) (m:Nat):Prop:=0<m->∃b o,A=some ⟨b,o,none⟩∧S b∧b<w.heap.size∧∀i,i<m->Kid (P i) w b o i
def aO (S:Nat->Prop):(n:Nat)->World->Value->Pn n->Prop
 | 0,w,v,z=>∃s A k c ls,v=bG s A k c none 0 0∧k<=c∧c<=9223372036854775807∧aD w A k ls∧bW s ls (vG z)∧(0<k->∀y,A=some y->S y.block)
 | n+1,w,v,f=>∃B c,v=bG false none 0 0 B (kids f).len c∧(kids f).len<=c∧c<=9223372036854775807∧RowK S (fun i u=>aO S n w u ((kids f).co i)) w B (kids f).len
def Kid.imp {P Q:Value->Prop} {b o:Nat}(h:Kid P w b o i) (hc:∀j,w'.cell? ⟨b,j,none⟩=w.cell? ⟨b,j,none⟩) (hp:∀v,P v->Q v):Kid Q w' b o i:=by
 obtain ⟨s,A,k,c,B,m,d,h1,h2,h3,h4⟩:=h;exact ⟨s,A,k,c,B,m,d,(hc _).trans h1,(hc _).trans h2,(hc _).trans h3,hp _ h4⟩
def RowK.imp {Q:Nat->Value->Prop} (h:RowK S P w A m) (hs:∀b,S b->T b) (hz:w.heap.size<=w'.heap.size) (hc:∀b j,S b->b<w.heap.size->w'.cell? ⟨b,j,none⟩=w.cell? ⟨b,j,none⟩) (hp:∀i v,i<m->P i v->Q i v):RowK T Q w' A m:=fun hm=>by
 obtain ⟨b,o,e,hb,hl,hk⟩:=h hm;exact ⟨b,o,e,hs b hb,gh hl hz,fun i hi=>(hk i hi).imp (fun j=>hc b j hb hl) fun v=>hp i v hi⟩
def aO.only {Q:Nat->Prop} (ho:Only Q w w') (hq:∀b,S b->¬Q b) (hs:∀b,S b->T b):∀{n:Nat} {v:Value} {f:Pn n},aO S n w v f->aO T n w' v f
 | 0,v,z,h=>by
   obtain ⟨s,A,k,c,ls,h1,h2,h3,h4,h5,h6⟩:=h;exact ⟨s,A,k,c,ls,h1,h2,h3,lV h4 ho fun h0 y hy=>hq _ (h6 h0 y hy),h5,fun h0 y hy=>hs _ (h6 h0 y hy)⟩
 | n+1,v,f,h=>by
   obtain ⟨B,c,h1,h2,h3,h4⟩:=h;exact ⟨B,c,h1,h2,h3,h4.imp hs ho.size (fun b j hb hl=>ho.cell (p:=⟨b,j,none⟩) hl (hq b hb)) fun i v _ hv=>aO.only ho hq hs hv⟩
def aO.mono {v:Value} {f:Pn n}(h:aO S n w v f) (hs:∀b,S b->T b):aO T n w v f:=h.only (Only.refl (fun _=>False) w) (fun _ _ h=>h) hs
def aO.here:∀{n:Nat} {v:Value} {f:Pn n},aO S n w v f->aO (fun b=>S b∧b<w.heap.size) n w v f
 | 0,v,z,h=>by
   obtain ⟨s,A,k,c,ls,h1,h2,h3,h4,h5,h6⟩:=h;refine ⟨s,A,k,c,ls,h1,h2,h3,h4,h5,fun h0 y hy=>⟨h6 h0 y hy,?_⟩⟩;obtain ⟨b,o,e,hb,_⟩:=h4.at_ h0;rw [e] at hy;injection hy with hy
   rw [<- hy];exact hb
 | n+1,v,f,h=>by
   obtain ⟨B,c,h1,h2,h3,h4⟩:=h;refine ⟨B,c,h1,h2,h3,fun hm=> ?_⟩;obtain ⟨b,o,e,hb,hl,hk⟩:=h4 hm;exact ⟨b,o,e,⟨hb,hl⟩,hl,fun i hi=>(hk i hi).imp (fun _=>rfl) fun v hv=>aO.here hv⟩
def aO.aB {v:Value} {f:Pn n}(h:aO S n w v f) (hb:Below w.heap.size w w'):aO S n w' v f:=
 h.here.only (Only.bY hb) (fun b pL hq=>by have:=pL.2;omega) fun b pL=>pL.1
def aO.num {s:Bool} {c:Nat} {ls:List Int} {z:Pn 0}(h1:k<=c) (h2:c<=9223372036854775807) (h3:aD w A k ls) (h4:bW s ls (vG z)) (h5:0<k->∀y,A=some y->S y.block):aO S 0 w (bG s A k c none 0 0) z:=⟨s,A,k,c,ls,rfl,h1,h2,h3,h4,h5⟩
def aO.nought (S:Nat->Prop) (w:World):∀n:Nat,aO S n w (bG false none 0 0 none 0 0) (0:Pn n)
 | 0=>⟨false,none,0,0,[],rfl,aK,by omega,⟨rfl,fun h=>absurd h (by omega),fun i=>by show 0<=nth [] i∧nth [] i<18446744073709551616;rw [cW (by simp)];omega⟩,⟨⟨fun i=>by show 0<=nth [] i∧nth [] i<18446744073709551616;rw [cW (by simp)];omega,fun h=>absurd h (by simp)⟩,rfl,fun h=>by cases h⟩,fun h=>absurd h (by omega)⟩
 | n+1=>by
   have e:(kids (0:Pn (n+1))).len=0:=by rw [Kh];exact Poly.fo
   refine ⟨none,0,?_,by rw [e];exact aK,by omega,fun h=>absurd h (by omega)⟩;rw [e]
def bV (S:Nat->Prop) (w:World) (n:Nat) (f:Pn n) (e:Ending) (w':World):Prop:=
 ∃s A k c B m d,e=.returned (bG s A k c B m d)∧aO (fun b=>S b∨w.heap.size<=b) n w' (bG s A k c B m d) f∧Below w.heap.size w w'
def aO.shape:∀{n:Nat} {v:Value} {f:Pn n},aO S n w v f->∃s A k c B m d,v=bG s A k c B m d
 | 0,_,_,⟨s,A,k,c,_,h,_⟩=>⟨s,A,k,c,none,0,0,h⟩
 | _+1,_,_,⟨B,c,h,_⟩=>⟨false,none,0,0,B,_,c,h⟩
def RowK.aB {g:Nat->Pn n} (h:RowK S (fun i u=>aO S n w u (g i)) w A m) (hb:Below w.heap.size w w'):RowK S (fun i u=>aO S n w' u (g i)) w' A m:=
 h.imp (fun _ h=>h) hb.size (fun b j _ hl=>hb.cell (p:=⟨b,j,none⟩) hl) fun _ _ _ hv=>hv.aB hb
def RowK.le (h:RowK S P w A m) (hk:k<=m):RowK S P w A k:=fun h0=>by
 obtain ⟨b,o,e,hb,hl,F3⟩:=h (by omega);exact ⟨b,o,e,hb,hl,fun i hi=>F3 i (by omega)⟩
structure KE where
 s:Bool
 A:Option Addr
 k:Nat
 c:Nat
 B:Option Addr
 m:Nat
 d:Nat
def KE.v (e:KE):Value:=bG e.s e.A e.k e.c e.B e.m e.d
def xT (e:KE):List Value:=[.bool e.s,.slice e.A e.k e.c,.slice e.B e.m e.d]
def iB (L:List KE):List Value:=L.flatMap xT
def oG (x:KE) (L:List KE):iB (x::L)=xT x++iB L:=by simp [iB]
def E6 (L:List KE) (x:KE):iB (L++[x])=iB L++xT x:=by simp [iB,Ed]
def pq (L:List KE):(iB L).length=L.length*3:=by
 induction L with
 | nil=>rfl
 | cons x L ih=>rw [oG,eF,ih,rI];show 3+_=_;omega
def vV:∀{L:List KE} {i:Nat}(h:i<L.length),(iB L)[i*3]? =some (.bool (L[i]).s)∧(iB L)[i*3+1]? =some (.slice (L[i]).A (L[i]).k (L[i]).c)∧(iB L)[i*3+2]? =some (.slice (L[i]).B (L[i]).m (L[i]).d)
 | x::L,0,_=>by rw [oG];exact ⟨rfl,rfl,rfl⟩
 | x::L,i+1,h=>by
   have ih:=vV (L:=L) (i:=i) (Eb h);rw [oG];have hl:(xT x).length=3:=rfl;rw [CK (by rw [hl];omega),CK (by rw [hl];omega),CK (by rw [hl];omega),hl,show (i+1)*3-3=i*3 by omega,show (i+1)*3+1-3=i*3+1 by omega,show (i+1)*3+2-3=i*3+2 by omega];exact ih
def kU {sz:Nat} {v:Value} {xs:List Value}(h:w.ownsRow base e sz v n xs) (ho:Only S w w') (hv:∀k,v.ownBlock=some k->¬S k):w'.ownsRow base e sz v n xs:=by
 refine ⟨h.1,?_⟩;rcases h.2 with hn | ⟨g,cap,cur,hvv,hg,hh,hc,hmx,aag⟩
 . exact .inl hn
 . refine .inr ⟨g,cap,cur,hvv,hg,?_,hc,hmx,aag⟩
   have hlt:=(jf.1 hh).1;rw [ho.block g hlt (hv g (by rw [hvv];rfl))];exact hh
structure jx (T:TypeId) (S X:Nat->Prop) (w0:World) (H:Nat) (wr:World) (n:Nat) (v:Value) (E:List KE) (g:Nat->Pn n):Prop where
 lo:w0.heap.size<=H
 own:wr.ownsRow H T 3 v E.length (iB E)
 ok:∀i (h:i<E.length),aO (fun b=>(S b∨w0.heap.size<=b)∧v.ownBlock≠some b∧¬X b) n wr (E[i]).v (g i)
 aB:Below w0.heap.size w0 wr
section
variable {T : TypeId} {S X : Nat -> Prop} {w0 wr wt : World} {H n : Nat} {v : Value} {E : List KE} {g : Nat -> Pn n}
def jx.start (T:TypeId) (S X:Nat->Prop) (g:Nat->Pn n) (h:Below w0.heap.size w0 wr) (hH:w0.heap.size<=H):jx T S X w0 H wr n (.slice none 0 0) [] g:=
 ⟨hH,nu _ _ _ _,fun i h=>absurd h (tG i),h⟩
def jx.ji (h:jx T S X w0 H wr n v E g) (hb:Below wr.heap.size wr wt):jx T S X w0 H wt n v E g:=
 ⟨h.lo,kU h.own (Only.bY hb) fun k hk hq=>by have:=(h.own.lt k hk).2;omega,fun i hi=>(h.ok i hi).aB hb,h.aB.tm hb⟩
def jx.box (h:jx T S X w0 H wr n v E g) (ho:Only X wr wt) (hX:∀b,X b->w0.heap.size<=b∧b<H):jx T S X w0 H wt n v E g:=
 ⟨h.lo,kU h.own ho fun k hk hq=>by have h1:=(hX k hq).2;have h2:=(h.own.lt k hk).1;omega,fun i hi=>(h.ok i hi).only ho (fun b hb hq=>hb.2.2 hq) fun b hb=>hb,h.aB.trans (ho.below h.aB.size fun b hb=>(hX b hb).1)⟩
def jx.next {w2 w3:World} {gg cap H2:Nat} {x:KE} {o:Obj}(h:jx T S X w0 H wr n v E g) (hS:∀b,S b->b<w0.heap.size) (hX:∀b,X b->w0.heap.size<=b∧b<wr.heap.size) (cU:Below wr.heap.size wr w2) (hx:aO (fun b=>S b∨wr.heap.size<=b) n w2 x.v (g E.length))
 (aY:w3.ownsRow H T 3 (.slice (some ⟨gg,0,none⟩) (E.length+1) cap) (E.length+1) (iB E++xT x)) (rE:(w2.alloc o).grownBy w3 v.ownBlock) (gO:v.ownBlock=some gg∨gg=H2) (hH:H2=w2.heap.size+1):jx T S X w0 H w3 n (.slice (some ⟨gg,0,none⟩) (E.length+1) cap) (E++[x]) g:=by
 subst hH;have wX:∀k,v.ownBlock=some k->H<=k∧k<wr.heap.size:=fun k hk=>h.own.lt k hk;have FC:=h.lo;have uW:=cU.size;have b3:Below w2.heap.size w2 (w2.alloc o):=aW.alloc aK _;have o3:Only (fun k=>v.ownBlock=some k) (w2.alloc o) w3:=(Only.fH rE).mono (fun i hi=>by first | exact hi | exact hi.symm);have hgg:∀b,v.ownBlock≠some b->b<w2.heap.size->(Value.slice (some ⟨gg,0,none⟩) (E.length+1) cap).ownBlock≠some b:=fun b h1 h2 e=>by
  have e2:gg=b:=by injection e
  rcases gO with h3 | h3
  . exact h1 (by rw [h3,e2])
  . omega
 have all:∀{S':Nat->Prop} {u:Value} {f:Pn n},aO S' n w2 u f->(∀b,S' b->b<w2.heap.size->(S b∨w0.heap.size<=b)∧v.ownBlock≠some b∧¬X b)->aO (fun b=>(S b∨w0.heap.size<=b)∧(Value.slice (some ⟨gg,0,none⟩) (E.length+1) cap).ownBlock≠some b∧¬X b) n w3 u f:=fun {S' u f} hu hq=>by
  have h1:=hu.here;have h2:=h1.aB b3;exact h2.only o3 (fun b hb hk=>(hq b hb.1 hb.2).2.1 hk) fun b hb=>⟨(hq b hb.1 hb.2).1,hgg b (hq b hb.1 hb.2).2.1 hb.2,(hq b hb.1 hb.2).2.2⟩
 refine ⟨FC,by rw [eF,E6];exact aY,fun i hi=> ?_,?_⟩
 . rw [eF] at hi
   rcases qz i E.length with hl | hl
   . have e:(E++[x])[i]'(by rw [eF];exact hi)=E[i]:=Ti hl
     rw [e];exact all ((h.ok i hl).aB cU) fun b hb _=>hb
   . have yh:i=E.length:=by
      have:[x].length=1:=rfl;omega
     subst yh;(have e:(E++[x])[E.length]'(by rw [eF];exact hi)=x:=by simp);rw [e];refine all hx fun b hb hlt=> ?_;rcases hb with hb | hb
     . have:=hS b hb
       exact ⟨.inl hb,fun e2=>by have:=wX b e2;omega,fun e2=>by have:=hX b e2;omega⟩
     . have:=h.aB.size
       exact ⟨.inr (by omega),fun e2=>by have:=wX b e2;omega,fun e2=>by have:=hX b e2;omega⟩
 . have ux:Below w0.heap.size w0 w2:=h.aB.tm cU
   exact (ux.alloc ux.size o).grown rE (by have:=ux.size;simp;omega) (fun k hk=>aH FC (wX k hk).1)
def jx.row (h:jx T S X w0 H wr n v E g) (hX:∀b,X b->b<H):∃B d,v=.slice B E.length d∧E.length<=d∧d<=9223372036854775807∧RowK (fun b=>(S b∨w0.heap.size<=b)∧¬X b) (fun i u=>aO (fun b=>(S b∨w0.heap.size<=b)∧¬X b) n wr u (g i)) wr B E.length:=by
 rcases h.own.2 with ⟨hv,h0⟩ | ⟨gg,cap,cur,hv,hg,hh,hc,hmx,aag⟩
 . rw [h0]
   exact ⟨none,0,hv,aK,by omega,fun hm=>absurd hm (by omega)⟩
 . refine ⟨_,cap,hv,by omega,by (have:maxLen<=9223372036854775807:=by unfold maxLen;omega);omega,fun h0=>⟨gg,0,rfl,⟨.inr (aH h.lo hg),fun e=>by have:=hX _ e;omega⟩,(jf.1 hh).1,fun i hi=> ?_⟩⟩
   have hk:=(h.ok i hi).mono (T:=fun b=>(S b∨w0.heap.size<=b)∧¬X b) fun b hb=>⟨hb.1,hb.2.2⟩;have ho:=h.own;subst hv;obtain ⟨t0,t1,t2⟩:=vV hi;have c0:=ho.cells (g:=gg) rfl (i*3) _ t0;have c1:=ho.cells (g:=gg) rfl (i*3+1) _ t1;have c2:=ho.cells (g:=gg) rfl (i*3+2) _ t2;rw [kI] at c0 c1 c2;exact ⟨_,_,_,_,_,_,_,c0,c1,c2,hk⟩
end
def Hu:∀(L:List KE) (i:Nat) (x:KE),i<L.length->iB (L.set i x)=(((iB L).set (i*3) (.bool x.s)).set (i*3+1) (.slice x.A x.k x.c)).set (i*3+2) (.slice x.B x.m x.d)
 | [],i,x,h=>absurd h (tG i)
 | y::L,0,x,_=>rfl
 | y::L,i+1,x,h=>by
   have ih:=Hu L i x (Eb h);rw [JF,oG,oG,ih,show (i+1)*3=i*3+1+1+1 by omega];rfl
def KE.nought:KE:=⟨false,none,0,0,none,0,0⟩
def H8 (m:Nat):iB (List.replicate m KE.nought)=(List.replicate m [Value.bool false,.slice none 0 0,.slice none 0 0]).flatten:=by
 induction m with
 | zero=>rfl
 | succ m ih=>rw [JB,oG,ih,JB,List.flatten_cons];rfl
def vN {size:Nat} {g cap:Nat} {xs:List Value}(h:w.ownsRow base e size (.slice (some ⟨g,0,none⟩) n cap) n xs) (j:Nat) (u:Value):(w.setCell ⟨g,j,none⟩ u).ownsRow base e size (.slice (some ⟨g,0,none⟩) n cap) n (xs.set j u):=by
 refine ⟨by rw [gH];exact h.1,?_⟩;rcases h.2 with h2 | ⟨g',cap',cur,hv,h1,h2,h3,h4,h5,h6⟩
 . exact absurd h2.1 (by intro e;injection e with e;injection e)
 . have hv':=hv
   injection hv with e1 e2 e3
   injection e1 with e1
   injection e1 with e1
   subst e1;refine .inr ⟨g,cap',cur.setIfInBounds j u,hv',h1,?_,h3,h4,?_,?_⟩
   . simp [World.setCell,wI,h2]
   . rw [JC];exact h5
   . rw [Array.toList_setIfInBounds,List.take_set,h6]
def jx.put {T:TypeId} {X:Nat->Prop} {w0 wr:World} {H gg cap:Nat} {E:List KE} {g:Nat->Pn n}(h:jx T S X w0 H wr n (.slice (some ⟨gg,0,none⟩) E.length cap) E g) (hH:w0.heap.size<=gg) (i:Nat) (hi:i<E.length) (x:KE) (f:Pn n)
 (hx:aO (fun b=>(S b∨w0.heap.size<=b)∧(Value.slice (some ⟨gg,0,none⟩) E.length cap).ownBlock≠some b∧¬X b) n wr x.v f):
 jx T S X w0 H (((wr.setCell ⟨gg,i*3,none⟩ (.bool x.s)).setCell ⟨gg,i*3+1,none⟩ (.slice x.A x.k x.c)).setCell ⟨gg,i*3+2,none⟩ (.slice x.B x.m x.d)) n (.slice (some ⟨gg,0,none⟩) E.length cap) (E.set i x) (fun j=>if j=i then f else g j):=by
 have ho:Only (fun b=>b=gg) wr (((wr.setCell ⟨gg,i*3,none⟩ (.bool x.s)).setCell ⟨gg,i*3+1,none⟩ (.slice x.A x.k x.c)).setCell ⟨gg,i*3+2,none⟩ (.slice x.B x.m x.d)):=
  (((Only.refl (fun b=>b=gg) wr).setCell (p:=⟨gg,i*3,none⟩) rfl _).setCell (p:=⟨gg,i*3+1,none⟩) rfl _).setCell (p:=⟨gg,i*3+2,none⟩) rfl _
 have keep:∀{u:Value} {k:Pn n},aO (fun b=>(S b∨w0.heap.size<=b)∧(Value.slice (some ⟨gg,0,none⟩) E.length cap).ownBlock≠some b∧¬X b) n wr u k->aO (fun b=>(S b∨w0.heap.size<=b)∧(Value.slice (some ⟨gg,0,none⟩) E.length cap).ownBlock≠some b∧¬X b) n (((wr.setCell ⟨gg,i*3,none⟩ (.bool x.s)).setCell ⟨gg,i*3+1,none⟩ (.slice x.A x.k x.c)).setCell ⟨gg,i*3+2,none⟩ (.slice x.B x.m x.d)) u k:=fun hk=>
  hk.only ho (fun b hb e=>hb.2.1 (by rw [e];rfl)) fun b hb=>hb
 refine ⟨h.lo,?_,fun j hj=> ?_,h.aB.trans (ho.below h.aB.size fun b hb=>by omega)⟩
 . rw [gH,Hu E i x hi]
   exact vN (vN (vN h.own _ _) _ _) _ _
 . rw [gH] at hj
   by_cases e:j=i
   . subst e
     rw [acy,aM rfl];exact keep hx
   . rw [Td (fun h=>e h.symm),af e]
     exact keep (h.ok j hj)
def v32:List Int->Nat
 | []=>0
 | d::ds=>d.toNat+4294967296*v32 ds
def fS (ds:List Int):Prop:=∀i,0<=nth ds i∧nth ds i<4294967296
def fS.lm (h:fS ds):aQ ds:=fun i=>by have:=h i;omega
def fS.take (h:fS xs) (k:Nat):fS (xs.take k):=fun i=>by
 by_cases hi:i<k
 . rw [mq hi];exact h i
 . rw [cW (by simp;omega)];omega
def fS.nil:fS []:=fun i=>by rw [cW (by simp)];omega
def fS.cons {d:Int} (h:fS ds) (h0:0<=d) (h1:d<4294967296):fS (d::ds):=fun i=>by
 match i with
 | 0=>exact ⟨h0,h1⟩
 | i+1=>rw [Ji];exact h i
def fS.snoc (h:fS xs) (h0:0<=x) (h1:x<4294967296):fS (xs++[x]):=fun i=>by
 by_cases hi:i<xs.length
 . rw [nE hi];exact h i
 . rw [nH (by omega)]
   by_cases e:i-xs.length=0
   . rw [e];exact ⟨h0,h1⟩
   . rw [cW (by simp;omega)];omega
def fS.set (h:fS xs) (i:Nat) {v:Int}(h0:0<=v) (h1:v<4294967296):fS (xs.set i v):=fun j=>by
 by_cases hi:i<xs.length
 . rw [iX hi]
   split
   . exact ⟨h0,h1⟩
   . exact h j
 . rw [NN (by omega)];exact h j
def fS.rep (n:Nat):fS (List.replicate n 0):=fun i=>by
 unfold nth;rw [acr,acq];split<;>simp
def GL (xs ys:List Int):v32 (xs++ys)=v32 xs+4294967296^xs.length*v32 ys:=by
 induction xs with
 | nil=>simp [v32]
 | cons x xs ih=>
   show x.toNat+4294967296*v32 (xs++ys)=x.toNat+4294967296*v32 xs+4294967296^(xs.length+1)*v32 ys;rw [ih,kR,ak,aq (4294967296^xs.length) 4294967296,cn];omega
def AH (xs:List Int) (x:Int):v32 (xs++[x])=v32 xs+4294967296^xs.length*x.toNat:=by
 rw [GL];show _+_*(x.toNat+4294967296*0)=_;rw [jv,je]
def dS (xs:List Int) (k:Nat):v32 (xs.take (k+1))=v32 (xs.take k)+4294967296^k*(nth xs k).toNat:=by
 by_cases h:k<xs.length
 . have e:xs.take (k+1)=xs.take k++[nth xs k]:=by rw [gJ h];exact lu h
   rw [e,AH,cS,pF (by omega)]
 . rw [gZ (i:=k+1) (by omega),gZ (i:=k) (by omega),cW (by omega)]
   show _=_+_*0;rw [jv,je]
def dh (h:xs.length<=n):v32 (xs.take n)=v32 xs:=by rw [gZ h]
def qJ (h:fS xs):∀k,v32 (xs.take k)<4294967296^k
 | 0=>by show 0<1;omega
 | k+1=>by
   have ih:=qJ h k;have h1:=h k;rw [dS,kR];have h2:4294967296^k*(nth xs k).toNat<=4294967296^k*4294967295:=bl _ (by omega);generalize 4294967296^k=P at*
   omega
def Qm (h:fS xs):v32 xs<4294967296^xs.length:=by
 have:=qJ h xs.length;rwa [dh aK] at this
def LR {xs:List Int} {i:Nat}(hi:i<xs.length) (v:Int):v32 (xs.set i v)+4294967296^i*(nth xs i).toNat=v32 xs+4294967296^i*v.toNat:=by
 induction xs generalizing i with
 | nil=>exact absurd hi (by simp)
 | cons x xs ih=>
   match i with
   | 0=>
     show v.toNat+4294967296*v32 xs+4294967296^0*x.toNat=x.toNat+4294967296*v32 xs+4294967296^0*v.toNat
     rw [wH];omega
   | i+1=>
     have h1:=ih (i:=i) (by simpa using hi);show x.toNat+4294967296*v32 (xs.set i v)+4294967296^(i+1)*(nth xs i).toNat=x.toNat+4294967296*v32 xs+4294967296^(i+1)*v.toNat
     rw [kR,aq (4294967296^i) 4294967296,cn,cn];(have h2:4294967296*(v32 (xs.set i v)+4294967296^i*(nth xs i).toNat)=4294967296*(v32 xs+4294967296^i*v.toNat):=by rw [h1]);rw [ak,ak] at h2;omega
def UH (n:Nat):v32 (List.replicate n 0)=0:=by
 induction n with
 | zero=>rfl
 | succ n ih=>rw [JB];show (0:Int).toNat+4294967296*v32 _=0;rw [ih];rfl
def Pr:List Int->List Int
 | []=> []
 | x::xs=>x % 4294967296::x / 4294967296::Pr xs
def IY:∀xs ys:List Int,Pr (xs++ys)=Pr xs++Pr ys
 | [],_=>rfl
 | x::xs,ys=>by show _::_::Pr (xs++ys)=_;rw [IY xs ys];rfl
def abp:∀{xs:List Int},aQ xs->fS (Pr xs)
 | [],_=>fS.nil
 | x::xs,h=>by
   have h1:=h 0;rw [mz] at h1;exact ((abp h.tail).cons (d:=x / 4294967296) (by omega) (by omega)).cons (by omega) (by omega)
def UI:∀{xs:List Int},aQ xs->v32 (Pr xs)=limbs xs
 | [],_=>rfl
 | x::xs,h=>by
   have h1:=h 0;rw [mz] at h1;show (x % 4294967296).toNat+4294967296*((x / 4294967296).toNat+4294967296*v32 (Pr xs))=x.toNat+2^64*limbs xs;rw [UI h.tail];omega
def Js (h:k<xs.length):Pr (xs.take (k+1))=Pr (xs.take k)++[nth xs k % 4294967296,nth xs k / 4294967296]:=by
 have e:xs.take (k+1)=xs.take k++[nth xs k]:=by rw [gJ h];exact lu h
 rw [e,IY];rfl
structure YG (ds:List Int):Prop where
 ok:fS ds
 top:0<ds.length->nth ds (ds.length-1)≠0
def ads {n:Nat}(hn:n<=xs.length):v32 (xs.take (bu xs n))=v32 (xs.take n):=by
 induction n with
 | zero=>rfl
 | succ n ih=>
   unfold bu;by_cases h:nth xs n=0
   . rw [rj h,dS,h]
     show _=_+_*0;rw [jv,je];exact ih (by omega)
   . rw [ri h]
def Gi (h:fS xs) (hn:xs.length=n):YG (xs.take (bu xs n))∧v32 (xs.take (bu xs n))=v32 xs:=by
 have h1:=bS xs n;refine ⟨⟨h.take _,fun h0=> ?_⟩,by rw [ads (by omega),dh (by omega)]⟩;rw [cS,pF (by omega)] at h0 ⊢;rw [mq (by omega)];exact OT h0
def YG.low (h:YG xs) (hl:0<xs.length):4294967296^(xs.length-1)<=v32 xs:=by
 obtain ⟨k,hk⟩:∃k,xs.length=k+1:=⟨xs.length-1,by omega⟩;have h1:=h.top hl;have h2:=h.ok k;rw [hk,vt] at h1 ⊢;rw [<- dh (n:=k+1) (by omega),dS];have h3:1<=(nth xs k).toNat:=by omega
 have h4:4294967296^k*1<=4294967296^k*(nth xs k).toNat:=bl _ h3;omega
def YG.iY {xs:List Int}(h:YG xs):v32 xs=0↔xs.length=0:=by
 constructor
 . intro h0
   rcases jJ xs.length with h1 | h1
   . exact h1
   . have:=h.low h1
     have:=iG (n:=xs.length-1) (show 0<4294967296 by omega);omega
 . intro h0
   rw [lz h0];rfl
def YG.bU {xs ys:List Int}(hx:YG xs) (hy:YG ys) (h:v32 ys<=v32 xs):ys.length<=xs.length:=by
 rcases qz xs.length ys.length with hl | hl
 . exfalso
   have h1:=hy.low (by omega);have h2:=Qm hx.ok;have h3:4294967296^xs.length<=4294967296^(ys.length-1):=fM (by omega) (by omega);omega
 . exact hl
def Nr (hx:fS xs) (_hy:fS ys) (hk:nth xs k<nth ys k) {M:Nat}(h:∀j,k<j->j<M->nth xs j=nth ys j) (hkM:k<M) (h1:xs.length<=M) (h2:ys.length<=M):v32 xs<v32 ys:=by
 rw [<- dh h1,<- dh h2];clear h1 h2;induction M with
 | zero=>omega
 | succ M ih=>
   rw [dS,dS];by_cases e:k=M
   . subst e
     have a1:=qJ hx k;have a2:=hx k;have a3:4294967296^k*((nth xs k).toNat+1)<=4294967296^k*(nth ys k).toNat:=bl _ (by omega);rw [ak] at a3;omega
   . have:=ih (fun j h1 h2=>h j h1 (by omega)) (by omega)
     rw [h M (by omega) (by omega)];omega
def YK {M:Nat}(h:∀j,j<M->nth xs j=nth ys j) (h1:xs.length<=M) (h2:ys.length<=M):v32 xs=v32 ys:=by
 rw [<- dh h1,<- dh h2];clear h1 h2;induction M with
 | zero=>rfl
 | succ M ih=>rw [dS,dS,ih (fun j hj=>h j (by omega)),h M (by omega)]
def LS (f:Nat->Nat->Nat×Nat) (n:Nat):v32 (aN f (n+1)).1=v32 (aN f n).1+4294967296^n*(f n (aN f n).2).1:=by
 show v32 ((aN f n).1++[_])=_;rw [AH,bh,jY]
def CB {f:Nat->Nat->Nat×Nat}(h:∀k c,(f k c).1<4294967296):∀n,fS (aN f n).1
 | 0=>fS.nil
 | n+1=>by
   have:=h n (aN f n).2;show fS ((aN f n).1++[((f n (aN f n).2).1:Int)]);exact (CB h n).snoc (by omega) (by omega)
def oh (a b:List Int) (k c:Nat):Nat×Nat:=(((nth a k).toNat+(nth b k).toNat+c) % 4294967296,((nth a k).toNat+(nth b k).toNat+c) / 4294967296)
def afU (a b:List Int) (k c:Nat):(oh a b k c).1<4294967296:=jO _ (by omega)
def Ip (ha:fS a) (hb:fS b):∀n,(aN (oh a b) n).2<=1∧v32 (aN (oh a b) n).1+4294967296^n*(aN (oh a b) n).2=v32 (a.take n)+v32 (b.take n)
 | 0=>⟨by show 0<=1;omega,by simp [aN,v32]⟩
 | n+1=>by
   obtain ⟨h1,h2⟩:=Ip ha hb n;have a1:=ha n;have b1:=hb n;rw [LS,dS,dS,kR];show (oh a b n (aN (oh a b) n).2).2<=1∧_+_*(oh a b n (aN (oh a b) n).2).1+_*(oh a b n (aN (oh a b) n).2).2=_;generalize (aN (oh a b) n).2=c at*
   generalize v32 (aN (oh a b) n).1=L at*
   unfold oh;generalize hs:(nth a n).toNat+(nth b n).toNat+c=s;have hd:=sr s 4294967296;show s / 4294967296<=1∧_+_*(s % 4294967296)+_*(s / 4294967296)=_;refine ⟨by omega,?_⟩;generalize 4294967296^n=P at*
   have h3:P*(s % 4294967296)+P*4294967296*(s / 4294967296)=P*s:=by
    rw [cn,<- ak];congr 1;omega
   have h4:P*s=P*(nth a n).toNat+P*(nth b n).toNat+P*c:=by rw [<- hs,ak,ak]
   omega
def Sl (ha:fS a) (hb:fS b) {M:Nat}(h1:a.length<=M) (h2:b.length<=M):v32 (aN (oh a b) (M+1)).1=v32 a+v32 b:=by
 obtain ⟨h3,h4⟩:=Ip ha hb M;rw [dh h1,dh h2] at h4;have e:(oh a b M (aN (oh a b) M).2).1=(aN (oh a b) M).2:=by
  show ((nth a M).toNat+(nth b M).toNat+_) % 4294967296=_;rw [cW h1,cW h2];show (0+0+_) % 4294967296=_;rw [ct,FT (by omega)]
 rw [LS,e,<- h4]
def oz (a b:List Int) (k c:Nat):Nat×Nat:=(((nth a k).toNat+4294967296-(nth b k).toNat-c) % 4294967296,1-((nth a k).toNat+4294967296-(nth b k).toNat-c) / 4294967296)
def U4 (a b:List Int) (k c:Nat):(oz a b k c).1<4294967296:=jO _ (by omega)
def G0 (ha:fS a) (hb:fS b):∀n,(aN (oz a b) n).2<=1∧v32 (aN (oz a b) n).1+v32 (b.take n)=v32 (a.take n)+4294967296^n*(aN (oz a b) n).2
 | 0=>⟨by show 0<=1;omega,by simp [aN,v32]⟩
 | n+1=>by
   obtain ⟨h1,h2⟩:=G0 ha hb n;have a1:=ha n;have b1:=hb n;rw [LS,dS,dS,kR];show (oz a b n (aN (oz a b) n).2).2<=1∧_+_*(oz a b n (aN (oz a b) n).2).1+_=_+_*(oz a b n (aN (oz a b) n).2).2;generalize (aN (oz a b) n).2=c at*
   generalize v32 (aN (oz a b) n).1=L at*
   unfold oz;generalize hx:(nth a n).toNat=x at*
   generalize hy:(nth b n).toNat=y at*
   generalize 4294967296^n=P at*
   obtain ⟨s,hs⟩:∃s,s=x+4294967296-y-c:=⟨_,rfl⟩;show 1-(x+4294967296-y-c) / 4294967296<=1∧_+P*((x+4294967296-y-c) % 4294967296)+_=_+P*4294967296*(1-(x+4294967296-y-c) / 4294967296);rw [<- hs];refine ⟨by omega,?_⟩;have e:s+y+c=x+4294967296:=by omega
   have h3:P*s+P*y+P*c=P*x+P*4294967296:=by
    rw [<- ak,<- ak,<- ak];congr 1
   have h5:s / 4294967296<=1:=by omega
   have h6:P*(s % 4294967296)+P*4294967296*(s / 4294967296)=P*s:=by
    rw [cn,<- ak];congr 1;omega
   rw [Nat.mul_sub];have h7:P*4294967296*(s / 4294967296)<=P*4294967296*1:=bl _ h5;omega
def Rf (ha:fS a) (hb:fS b) (h1:b.length<=a.length) (h2:v32 b<=v32 a):v32 (aN (oz a b) a.length).1=v32 a-v32 b:=by
 obtain ⟨h3,h4⟩:=G0 ha hb a.length;rw [dh h1,dh aK] at h4;have h5:=Qm (CB (U4 a b) a.length);rw [bh] at h5;generalize (aN (oz a b) a.length).2=c at*
 match c,h3 with
 | 0,_=>omega
 | 1,_=>omega
def GS (k:Nat) (f:Nat->Int):tab (k+1) f=tab k f++[f k]:=by
 unfold tab;rw [zn,jK];rfl
def QZ (ds:List Int) (k:Nat):Int:=nth ds (2*k)+nth ds (2*k+1)*4294967296
def Yv (h:fS ds) (k:Nat):0<=QZ ds k∧QZ ds k<18446744073709551616:=by
 have h1:=h (2*k);have h2:=h (2*k+1);unfold QZ;omega
def anu (h:fS ds) (k:Nat):aQ (tab k (QZ ds)):=fun i=>by
 rw [adX];split
 . exact Yv h i
 . omega
def Yu (h:fS ds):∀k,limbs (tab k (QZ ds))=v32 (ds.take (2*k))
 | 0=>rfl
 | k+1=>by
   have h1:=h (2*k);have h2:=h (2*k+1);rw [GS,vT,Yu h k,Qp,show 2*(k+1)=2*k+1+1 by omega,dS,dS];have e:(2:Nat)^(64*k)=4294967296^(2*k):=by
    rw [show (4294967296:Nat)=2^32 by decide,<- uT];congr 1;omega
   rw [e,kR];generalize 4294967296^(2*k)=P;have e2:(QZ ds k).toNat=(nth ds (2*k)).toNat+4294967296*(nth ds (2*k+1)).toNat:=by unfold QZ;omega
   rw [e2,ak,cn];omega
def Yt (h:fS ds) (hk:ds.length<=2*k):limbs (tab k (QZ ds))=v32 ds:=by rw [Yu h,dh hk]
