import Derived.Test.YtehcoffbiplphaaGreatHBase
import Derived.WalkSpells
import Derived.WalkLawsBesides
import Derived.Lib.Hide
import Derived.Lib.BitFns
import Derived.Deep.LoopGhost
import Derived.BigQuiet
import Derived.Laws.CopyOwn
import Derived.Test.YtehcoffbiplphaaGreatHPlains
set_option linter.all false
set_option maxRecDepth 100000
namespace Go.Proofs.YtehcoffbiplphaaGreat
open Go.Proofs.Tryz
variable {f:Nat->Int} {n i k m base:Nat} {x z:Int} {xs a b ys ds:List Int} {w w':World} {A:Option Addr} {P:Nat->Value->Prop} {e:TypeId} {S T:Nat->Prop}
def EC (f:Nat->Int):Nat->Nat
 | 0=>0
 | n+1=>if f n=0 then EC f n else n+1
def afc (f:Nat->Int) (n:Nat):EC f n<=n:=by
 induction n with
 | zero=>exact aL
 | succ n ih=>unfold EC;split<;>omega
def O6 {n:Nat}(h:0<EC f n):f (EC f n-1)≠0:=by
 induction n with
 | zero=>unfold EC at h;omega
 | succ n ih=>
   unfold EC at h ⊢;split at h
   . next h0=>rw [aM h0];exact ih h
   . next h0=>rw [aY h0];exact h0
def uf (h:f n=0):EC f (n+1)=EC f n:=by
 conv=>lhs;unfold EC
 rw [aM h]
def ue (h:f n≠0):EC f (n+1)=n+1:=by
 conv=>lhs;unfold EC
 rw [aY h]
def limbs:List Int->Nat
 | []=>0
 | x::xs=>x.toNat+2^64*limbs xs
def aQ (l:List Int):Prop:=∀i,0<=nth l i∧nth l i<18446744073709551616
def nL (x:Int) (l:List Int):nth (x::l) 0=x:=rfl
def J8 (x:Int) (l:List Int) (i:Nat):nth (x::l) (i+1)=nth l i:=rfl
def aQ.tail {l:List Int}(h:aQ (x::l)):aQ l:=fun i=>h (i+1)
def dc {l:List Int}(h:aQ l):limbs l<2^(64*l.length):=by
 induction l with
 | nil=>decide
 | cons x l ih=>
   have hx:=h 0;rw [nL] at hx;have:=ih h.tail;show x.toNat+2^64*limbs l<2^(64*(l.length+1));rw [WW,xk (64*l.length),iD];have h1:2^64*(limbs l+1)<=2^64*2^(64*l.length):=bn _ this;have h2:x.toNat<2^64:=by omega
   omega
open Go.RowKit
def bI (xs:List Int):List Value:=xs.map (Value.int .u64)
def gO (xs:List Int):(bI xs).length=xs.length:=by simp [bI]
def Bl (h:i<xs.length):(bI xs)[i]? =some (.int .u64 (nth xs i)):=by
 simp [bI,fV h,h]
def jU (xs:List Int):∀u∈bI xs,u.oneCell'=true:=by
 intro u hu;simp only [bI,af] at hu;obtain ⟨x,_,rfl⟩:=hu;rfl
structure aD (w:World) (A:Option Addr) (n:Nat) (xs:List Int):Prop where
 len:xs.length=n
 at_:0<n->∃b o,A=some ⟨b,o,none⟩∧b<w.heap.size∧∀i,i<n->w.cell? ⟨b,o+i,none⟩=some (.int .u64 (nth xs i))
 ok:aQ xs
section
variable {w w' : World} {A : Option Addr} {n : Nat} {xs : List Int}
def aD.keep (h:aD w A n xs) (hs:w.heap.size<=w'.heap.size) (hk:∀p:Addr,p.block<w.heap.size->w'.cell? p=w.cell? p):aD w' A n xs:=
 ⟨h.len,fun hn=>by
   obtain ⟨b,o,e,hb,hc⟩:=h.at_ hn;exact ⟨b,o,e,by omega,fun i hi=>(hk ⟨b,o+i,none⟩ hb).trans (hc i hi)⟩,h.ok⟩
def aD.below (h:aD w A n xs) {B:Nat}(hb:Below B w w') (hB:w.heap.size<=B):aD w' A n xs:=h.keep hb.size fun _ hp=>hb.cell (by omega)
def aD.aC (h:aD w A n xs) (hb:Below w.heap.size w w'):aD w' A n xs:=h.below hb aL
def aD.drew (h:aD w A n xs):aD w.drew A n xs:=⟨h.len,h.at_,h.ok⟩
def aD.alloc (h:aD w A n xs) (o:Obj):aD (w.alloc o) A n xs:=h.keep (by simp) fun p hp=>vt w o p hp
def aQ.take {xs:List Int}(h:aQ xs) (k:Nat):aQ (xs.take k):=fun i=>by
 by_cases hi:i<k
 . have:nth (xs.take k) i=nth xs i:=by unfold nth;simp [List.getD,hi]
   rw [this];exact h i
 . rw [bw (by simp;omega)];omega
def nK {xs:List Int} {k i:Nat}(hi:i<k):nth (xs.take k) i=nth xs i:=by unfold nth;simp [List.getD,hi]
def aD.take (h:aD w A n xs) {k:Nat}(hk:k<=n):aD w A k (xs.take k):=
 ⟨by rw [cQ,h.len];omega,fun h0=>by
   obtain ⟨b,o,e,hb,hc⟩:=h.at_ (by omega);exact ⟨b,o,e,hb,fun i hi=>by rw [nK hi];exact hc i (by omega)⟩,h.ok.take k⟩
def aD.nil (w:World) (A:Option Addr):aD w A 0 []:=⟨rfl,fun h=>absurd h (by omega),fun i=>by rw [bw (by simp)];omega⟩
def aD.reads (h:aD w A n xs):Reads w w.heap.size 1 A n (bI xs):=
 ⟨by rw [gO,h.len,bl],fun h0=>by
   obtain ⟨b,o,e,hb,hc⟩:=h.at_ h0;refine ⟨_,e,hb,fun j u hu=> ?_⟩;have hj:j<n:=by
    have:=(F3.1 hu).1;rw [gO,h.len] at this;exact this
   rw [Bl (by rw [h.len];exact hj)] at hu;injection hu with hu
   rw [<- hu];have:(⟨b,o,none⟩:Addr).add j=⟨b,o+j,none⟩:=by
    unfold Addr.add;split
    . rename_i e;subst e;rfl
    . rfl
   rw [this];exact hc j hj⟩
def aD.ia {base:Nat} {e:TypeId} {c:Nat}(h:w.ownsRow base e 1 (.slice A n c) n (bI xs)) (oH:aQ xs):aD w A n xs:=by
 have hl:=h.1;rw [gO,bl] at hl;refine ⟨hl,fun hn=> ?_,oH⟩;rcases h.2 with ⟨h',h0⟩ | ⟨g,cap,cur,hv,_,hg,jV,zA,hcs,LN⟩
 . omega
 . simp only [UC] at hv
   obtain ⟨rfl,_,rfl⟩:=hv;refine ⟨g,0,rfl,(jm.1 hg).1,fun i hi=> ?_⟩;rw [bh,dQ w g i cur e (0,0) hg];have:=Bl (xs:=xs) (i:=i) (by omega);rw [<- LN,We,aM (by omega)] at this;simpa using this
def aD.one (w:World) (t:TypeId) {x:Int}(h0:0<=x) (h1:x<18446744073709551616):aD (w.alloc (.cells #[.int .u64 x] t)) (some ⟨w.heap.size,0,none⟩) 1 [x]:=
 ⟨rfl,fun _=>⟨_,0,rfl,by simp,fun i hi=>by
   obtain rfl:i=0:=by omega
   exact Le w _ t⟩,fun i=>by
   match i with
   | 0=>exact ⟨h0,h1⟩
   | i+1=>rw [bw (by simp)];omega⟩
end
def cU (xs:List Int) (n:Nat):Nat:=EC (nth xs) n
def cS (xs:List Int) (n:Nat):cU xs n<=n:=afc _ _
def iP (xs ys:List Int):limbs (xs++ys)=limbs xs+2^(64*xs.length)*limbs ys:=by
 induction xs with
 | nil=>simp [limbs]
 | cons x xs ih=>
   show x.toNat+2^64*limbs (xs++ys)=x.toNat+2^64*limbs xs+2^(64*(xs.length+1))*limbs ys;rw [ih,WW,xk (64*xs.length),iD,ak,dA];omega
def nV (h:k<xs.length):limbs (xs.take (k+1))=limbs (xs.take k)+2^(64*k)*(nth xs k).toNat:=by
 have e:xs.take (k+1)=xs.take k++[nth xs k]:=by rw [fV h];exact kG h
 rw [e,iP,cQ,oz (by omega)];show _+_*((nth xs k).toNat+2^64*0)=_;rw [jZ,ja]
def LB {n:Nat}(hn:n<=xs.length):limbs (xs.take (cU xs n))=limbs (xs.take n):=by
 induction n with
 | zero=>rfl
 | succ n ih=>
   unfold cU;by_cases h:nth xs n=0
   . rw [uf h,nV (by omega),h]
     show _=_+_*0;rw [jZ,ja];exact ih (by omega)
   . rw [ue h]
def Po (hn:xs.length=n) (h:cU xs n=0):limbs xs=0:=by
 have:=LB (xs:=xs) (n:=n) (by omega);rw [h,iC (i:=n) (by omega)] at this;rw [<- this];rfl
def EM {x:Nat}(h:x<2^64):x<2^Lib.bitLen x:=by
 unfold Lib.bitLen;revert h;generalize 64=f;induction f generalizing x with
 | zero=>intro h;simpa [Lib.bitLenAux] using h
 | succ f ih=>
   intro h;unfold Lib.bitLenAux;split
   . rename_i e;subst e;decide
   . rw [kY] at h
     have:=ih (x:=x / 2) (by omega);rw [iD];omega
def fN:(prog.info? 38).map (fun i=>(i.zero,i.size,i.bytes))=some (some (.int .u64 0),1,8):=by kernel_rfl
def AX (w:World) (xs:List Int) (e:Ending) (w':World):Prop:=
 ∃A c,e=.returned (.slice A xs.length c)∧xs.length<=c∧c<=9223372036854775807∧aD w' A xs.length xs∧Below w.heap.size w w'
def cH (A:Option Addr) (n c:Nat) (xs:List Int) (w:World) (hx:aD w A n xs) (hn:n<=c) (hc:c<=9223372036854775807):
 aB 112 #[.slice A n c] w fun e w'=>e=.returned (.slice A (cU xs n) c)∧w'=w:=by
 go_enter func112,ntmps112
 obtain ⟨wo,rfl⟩:∃wo:World,wo=w:=⟨_,rfl⟩;go_wp2
 go_loopg [0] (n+1) (fun gk s wr=>∃m:Nat,m<=n∧m<gk∧s=.slice A m c∧Hid (cU xs n=cU xs m)∧wr=wo)
 case atStart=>exact ⟨n,by omega,by omega,rfl,rfl,rfl⟩
 case round=>
  obtain ⟨m,hm,OE,rfl,qm,rfl⟩:=hrel;cases m with
  | zero=>
    have wH:Hid (cU xs n=0):=qm.o;(go_wp2);go_ret;refine ⟨?_,rfl⟩;rw [wH.o];rfl
  | succ m=>
    obtain ⟨b,o,rfl,hb,hc'⟩:=hx.at_ (by omega);have hcy:=hc' m (by omega);clear hc';(have hmc:m<=c:=by omega);(have aqn:(m:Int)<=(c:Int):=by omega);(have hmp:(0:Int)<(m:Int)+1:=by omega);by_cases hz:nth xs m=0
    . rw [hz] at hcy
      have Hz:=aA hz;clear hz;(go_wp2);go_roundg (gk-1)
      case measure=>omega
      case rel=>exact ⟨m,by omega,by omega,rfl,by show _=_;rw [qm.o];exact uf Hz.o,rfl⟩
    . have Vx:(nth xs m==0)=false:=mD.2 hz
      have wH:Hid (cU xs n=m+1):=qm.o.trans (ue hz);clear hz;(go_wp2);go_ret;refine ⟨?_,rfl⟩;rw [wH.o];rfl
def Vd (w:World) (a:Option Addr) (n c n' c':Nat):(binOp .eql 39 (.slice a n c) (.slice none n' c')).run prog w=.ok (.bool a.isNone) w:=
 Lib.run_eql_slice_nil w _ _ a n c n' c' underlying39
def SP (A:Option Addr) (n c:Nat) (xs:List Int) (w:World) (hx:aD w A n xs) (hn:n*8<=140737488355328):
 aB 111 #[.slice A n c] w (AX w xs):=by
 obtain rfl:=hx.len;have hr:=aA hx.reads;have oH:=aA hx.ok;have q22:=Vd;obtain ⟨i0,hi,jE,jD,jJ⟩:=eG fN;rcases A with _ | ad
 . have h0:xs.length=0:=by
    rcases jM xs.length with h | h
    . exact h
    . obtain ⟨b,o,e,_⟩:=hx.at_ h
      cases e
   have wH:Hid (AX w xs (.returned (.slice none 0 0)) w):=by
    refine ⟨none,0,by rw [h0],by omega,by omega,?_,aU⟩;rw [lK h0];exact aD.nil _ _
   clear h0 hx;go_enter func111,ntmps111
   go_wp2
   go_ret;exact wH.o
 . go_enter func111,ntmps111
   go_wp2_with (at_builtin;refine bU (w:=w.alloc (.cells #[] 38)) rfl _ _ 39 rfl w.heap.size 38 i0 (.int .u64 0) 1 8 underlying39 hi jE jD jJ rfl (by decide) _ 0 [] rfl (bA w 38 aL) w.heap.size (some ad) xs.length c (bI xs) rfl (hr.o.alloc aL _) (jU xs) (by unfold maxLen;omega) (by omega) (by simp) ?_;intro v' w1 aa aW gZ)
   have bp:w1.ownsRow w.heap.size 38 1 v' xs.length (bI xs):=by simpa using aa
   have hb:Below w.heap.size w w1:=((Below.refl _ w).alloc aL _).grown aW (by simp) (fun k hk=>((bA w 38 aL).lt k hk).1);go_wp2
   go_ret;obtain ⟨A',c',rfl⟩:=fD bp;have hcc:xs.length<=c'∧c'<=9223372036854775807:=by
    rcases bp.2 with ⟨hv,h0⟩ | ⟨g,cap,cur,hv,_,_,jV,zA,_⟩
    . injection hv;omega
    . injection hv with _ _ e
      unfold maxLen at zA;omega
   exact ⟨A',c',rfl,hcc.1,hcc.2,aD.ia bp oH.o,hb⟩
def EJ (A:Option Addr) (n c:Nat) (xs:List Int) (w:World) (hx:aD w A n xs) (hn:n<=c) (hc:c<=9223372036854775807) (Dp:n*8<=140737488355328):
 aB 81 #[.slice A n c] w (AX w (xs.take (cU xs n))):=by
 have hl:=cS xs n;go_enter func81,ntmps81
 go_wp2_with fail
 refine (cH A n c xs _ hx hn hc).mono ?_;rintro e w' ⟨rfl,rfl⟩;go_wp2_with fail
 refine (SP A _ c _ _ (hx.take hl) (by omega)).mono ?_;rintro e w1 ⟨A1,c1,rfl,h1,h2,h3,h4⟩;go_wp2
 go_ret;refine ⟨A1,c1,?_,h1,h2,h3,h4⟩;rw [cQ];rfl
def DZ (w:World) (neg:Bool) (xs:List Int) (e:Ending) (w':World):Prop:=
 ∃A c,e=.returned (.agg #[.bool neg,.slice A xs.length c])∧xs.length<=c∧c<=9223372036854775807∧aD w' A xs.length xs∧Below w.heap.size w w'
def bQ:(prog.info? 41).map (·.size)=some 2:=by kernel_rfl
def Duo (w:World) (g:Nat) (u v:Value):Prop:=w.heap[g]? =some (.cells #[u,v] 41 (0,0))
section
variable {w w' : World} {g : Nat} {u v : Value}
def Duo.lt (h:Duo w g u v):g<w.heap.size:=(jm.1 h).1
def Duo.cell0 (h:Duo w g u v):w.cell? ⟨g,0,none⟩=some u:=by rw [dQ w g 0 _ _ (0,0) h];rfl
def Duo.cell1 (h:Duo w g u v):w.cell? ⟨g,1,none⟩=some v:=by rw [dQ w g 1 _ _ (0,0) h];rfl
def Duo.frozen (h:Duo w g u v) (i:Nat):w.frozen? ⟨g,i,none⟩=false:=by unfold Duo at h;simp [World.frozen?,h]
def Duo.keep (h:Duo w g u v) (hk:w'.heap[g]? =w.heap[g]?):Duo w' g u v:=hk.trans h
def Duo.aC (h:Duo w g u v) (hb:Below w.heap.size w w'):Duo w' g u v:=h.keep (hb.block g h.lt)
def Duo.set (h:Duo w g u v) (a b:Value):Duo ((w.setCell ⟨g,0,none⟩ a).setCell ⟨g,1,none⟩ b) g a b:=by
 unfold Duo at h ⊢;simp [World.setCell,wR,h]
def Duo.new (w:World) (u v:Value):Duo (w.alloc (.cells #[u,v] 41)) w.heap.size u v:=bM w _
def Duo.limbs (h:Duo w g u v) (a b:Value) {A:Option Addr} {n c:Nat} {s:Bool}(hu:u=.bool s) (hv:v=.slice A n c) {B:Option Addr} {m:Nat} {ys:List Int}(hi:aD w B m ys):aD ((w.setCell ⟨g,0,none⟩ a).setCell ⟨g,1,none⟩ b) B m ys:=by
 refine ⟨hi.len,fun hm=> ?_,hi.ok⟩;obtain ⟨bb,o,e,hb,hc⟩:=hi.at_ hm;refine ⟨bb,o,e,by simpa using hb,fun i hlt=> ?_⟩;have hne:bb≠g∨(o+i≠0∧o+i≠1):=by
  by_cases e1:bb=g
  . subst e1
    refine .inr ⟨fun e2=> ?_,fun e2=> ?_⟩
    . have:=hc i hlt
      rw [e2,h.cell0,hu] at this;cases this
    . have:=hc i hlt
      rw [e2,h.cell1,hv] at this;cases this
  . exact .inl e1
 rw [jk _ _ _ _ (fun e=>by injection e;omega),jk _ _ _ _ (fun e=>by injection e;omega)];exact hc i hlt
def stZ (w:World) (s:Bool) (A:Option Addr) (n c:Nat) (t:Bool) (B:Option Addr) (m d:Nat):
 Below w.heap.size w (w.alloc (.cells #[.bool s,.slice A n c] 41))∧Below w.heap.size w ((w.alloc (.cells #[.bool s,.slice A n c] 41)).alloc (.cells #[.bool t,.slice B m d] 41))∧Below w.heap.size w (((w.alloc (.cells #[.bool s,.slice A n c] 41)).alloc (.cells #[.bool t,.slice B m d] 41)).alloc (.cells #[.bool false,.slice none 0 0] 41))∧Duo (((w.alloc (.cells #[.bool s,.slice A n c] 41)).alloc (.cells #[.bool t,.slice B m d] 41)).alloc (.cells #[.bool false,.slice none 0 0] 41)) w.heap.size (.bool s) (.slice A n c)∧Duo (((w.alloc (.cells #[.bool s,.slice A n c] 41)).alloc (.cells #[.bool t,.slice B m d] 41)).alloc (.cells #[.bool false,.slice none 0 0] 41)) (w.heap.size+1) (.bool t) (.slice B m d)∧Duo (((w.alloc (.cells #[.bool s,.slice A n c] 41)).alloc (.cells #[.bool t,.slice B m d] 41)).alloc (.cells #[.bool false,.slice none 0 0] 41)) (w.heap.size+1+1) (.bool false) (.slice none 0 0)∧(((w.alloc (.cells #[.bool s,.slice A n c] 41)).alloc (.cells #[.bool t,.slice B m d] 41)).alloc (.cells #[.bool false,.slice none 0 0] 41)).heap.size=w.heap.size+1+1+1:=by
 have b1:Below w.heap.size w (w.alloc (.cells #[.bool s,.slice A n c] 41)):=aU.alloc aL _;have b2:Below w.heap.size w ((w.alloc (.cells #[.bool s,.slice A n c] 41)).alloc (.cells #[.bool t,.slice B m d] 41)):=b1.alloc (by simp) _;have da:=((Duo.new w (.bool s) (.slice A n c)).aC (aU.alloc aL (.cells #[.bool t,.slice B m d] 41))).aC (aU.alloc aL (.cells #[.bool false,.slice none 0 0] 41));have db:=(Duo.new (w.alloc (.cells #[.bool s,.slice A n c] 41)) (.bool t) (.slice B m d)).aC (aU.alloc aL (.cells #[.bool false,.slice none 0 0] 41));have dr:=Duo.new ((w.alloc (.cells #[.bool s,.slice A n c] 41)).alloc (.cells #[.bool t,.slice B m d] 41)) (.bool false) (.slice none 0 0);rw [aJ] at db;rw [aJ,aJ] at dr;have b3:Below w.heap.size w (((w.alloc (.cells #[.bool s,.slice A n c] 41)).alloc (.cells #[.bool t,.slice B m d] 41)).alloc (.cells #[.bool false,.slice none 0 0] 41)):=b2.alloc (by simp;omega) _;exact ⟨b1,b2,b3,da,db,dr,by simp⟩
def LF {w wt:World} {s:Bool} {A:Option Addr} {n c:Nat} {t:Bool} {B:Option Addr} {m d:Nat} (la:w.heap.size<wt.heap.size) (lb:w.heap.size+1<wt.heap.size) (a0:wt.cell? ⟨w.heap.size,0,none⟩=some (.bool s)) (a1:wt.cell? ⟨w.heap.size,1,none⟩=some (.slice A n c)) (e0:wt.cell? ⟨w.heap.size+1,0,none⟩=some (.bool t)) (e1:wt.cell? ⟨w.heap.size+1,1,none⟩=some (.slice B m d)):Hid (∀W,Below wt.heap.size wt W->W.cell? ⟨w.heap.size,0,none⟩=some (.bool s)∧W.cell? ⟨w.heap.size,1,none⟩=some (.slice A n c)∧W.cell? ⟨w.heap.size+1,0,none⟩=some (.bool t)∧W.cell? ⟨w.heap.size+1,1,none⟩=some (.slice B m d)):=fun W hW=>
  ⟨(hW.cell (p:=⟨w.heap.size,0,none⟩) la).trans a0,(hW.cell (p:=⟨w.heap.size,1,none⟩) la).trans a1,(hW.cell (p:=⟨w.heap.size+1,0,none⟩) lb).trans e0,(hW.cell (p:=⟨w.heap.size+1,1,none⟩) lb).trans e1⟩
def Zg {w wt:World} (lr:w.heap.size+1+1<wt.heap.size) (r0:wt.cell? ⟨w.heap.size+1+1,0,none⟩=some (.bool false)) (r1:wt.cell? ⟨w.heap.size+1+1,1,none⟩=some (.slice none 0 0)) (Dr:Hid (Duo wt (w.heap.size+1+1) (.bool false) (.slice none 0 0))):Hid (∀W,Below wt.heap.size wt W->W.cell? ⟨w.heap.size+1+1,0,none⟩=some (.bool false)∧W.cell? ⟨w.heap.size+1+1,1,none⟩=some (.slice none 0 0)∧W.frozen? ⟨w.heap.size+1+1,0,none⟩=false∧W.frozen? ⟨w.heap.size+1+1,1,none⟩=false):=fun W hW=>
  ⟨(hW.cell (p:=⟨w.heap.size+1+1,0,none⟩) lr).trans r0,(hW.cell (p:=⟨w.heap.size+1+1,1,none⟩) lr).trans r1,(Dr.o.aC hW).frozen 0,(Dr.o.aC hW).frozen 1⟩
def aaX (w:World) (gr gb:Nat) (s:Bool) (A:Option Addr) (n c:Nat) (t:Bool) (B:Option Addr) (m d:Nat) (RS:gr≠w.heap.size) (RQ:gr≠gb):∀(W:World) (u v:Value),(W.cell? ⟨w.heap.size,0,none⟩=some (.bool s)∧W.cell? ⟨w.heap.size,1,none⟩=some (.slice A n c)∧W.cell? ⟨gb,0,none⟩=some (.bool t)∧W.cell? ⟨gb,1,none⟩=some (.slice B m d))->(((W.setCell ⟨gr,0,none⟩ u).setCell ⟨gr,1,none⟩ v).cell? ⟨w.heap.size,0,none⟩=some (.bool s)∧((W.setCell ⟨gr,0,none⟩ u).setCell ⟨gr,1,none⟩ v).cell? ⟨w.heap.size,1,none⟩=some (.slice A n c)∧((W.setCell ⟨gr,0,none⟩ u).setCell ⟨gr,1,none⟩ v).cell? ⟨gb,0,none⟩=some (.bool t)∧((W.setCell ⟨gr,0,none⟩ u).setCell ⟨gr,1,none⟩ v).cell? ⟨gb,1,none⟩=some (.slice B m d)):=by
 rintro W u v ⟨k1,k2,k3,k4⟩;refine ⟨?_,?_,?_,?_⟩
 all_goals
  rw [jk _ _ _ _ (fun e=>by injection e with e1;first | exact RS e1.symm | exact RQ e1.symm | exact RS e1 | exact RQ e1),jk _ _ _ _ (fun e=>by injection e with e1;first | exact RS e1.symm | exact RQ e1.symm | exact RS e1 | exact RQ e1)];assumption
end
def KX (neg:Bool) (A:Option Addr) (n c:Nat) (xs:List Int) (w:World) (hx:aD w A n xs) (hn:n<=c) (hc:c<=9223372036854775807) (Dp:n*8<=140737488355328):
 aB 80 #[.bool neg,.slice A n c] w (DZ w (neg && decide (0<cU xs n)) (xs.take (cU xs n))):=by
 have hl:=cS xs n;have hlen:(xs.take (cU xs n)).length=cU xs n:=by rw [cQ,hx.len];omega
 have zC:=aA hlen;have Cn:=aA (fun W (h:Below w.heap.size w W)=>EJ A n c xs W (hx.aC h) hn hc Dp);have hd:=Duo.new w (.bool false) (.slice none 0 0);clear hlen hx;go_enter func80,ntmps80
 go_wp2_with fail
 refine (Cn.o _ (by exact aU.alloc aL _)).mono ?_;rintro e w1 ⟨A1,c1,rfl,h1,h2,h3,h4⟩;rw [zC.o] at h1 h3 ⊢;have jQ:=hd.aC h4;have c0:=jQ.cell0;have rP:=jQ.cell1;have f0:=jQ.frozen 0;have f1:=jQ.frozen 1;have hb:Below w.heap.size w w1:=((Below.refl _ w).alloc aL _).trans (h4.mono (by simp));have Hd:=aA jQ;clear hd jQ h4;have fin:∀b:Bool,DZ w b (xs.take (cU xs n)) (.returned (.agg #[.bool b,.slice A1 (cU xs n) c1])) ((w1.setCell ⟨w.heap.size,0,none⟩ (.bool b)).setCell ⟨w.heap.size,1,none⟩ (.slice A1 (cU xs n) c1)):=fun b=>by
  refine ⟨A1,c1,?_,?_,h2,?_,(hb.setCell (p:=⟨w.heap.size,0,none⟩) aL _).setCell (p:=⟨w.heap.size,1,none⟩) aL _⟩
  . rw [zC.o]
  . rw [zC.o];exact h1
  . rw [zC.o];exact Hd.o.limbs _ _ rfl rfl h3
 have Fin:=aA fin;clear fin;cases neg with
 | false=>
   go_wp2
   exact bK (v:=.agg #[.bool false,.slice A1 (cU xs n) c1]) (dO (fn:=f80) rfl _ _ _ _ _ _ _ rfl (Hd.o.set (.bool false) (.slice A1 (cU xs n) c1)) underlying41 rfl bQ) rfl (Fin.o _)
 | true=>
   go_wp2
   exact bK (v:=.agg #[.bool (decide (0<cU xs n)),.slice A1 (cU xs n) c1]) (dO (fn:=f80) rfl _ _ _ _ _ _ _ rfl (Hd.o.set (.bool (decide (0<cU xs n))) (.slice A1 (cU xs n) c1)) underlying41 rfl bQ) rfl (Fin.o _)
def Ww (neg:Bool) (A:Option Addr) (n c:Nat) (xs:List Int) (w:World) (hx:aD w A n xs) (hn:n<=c) (hc:c<=9223372036854775807) (Dp:n*8<=140737488355328):
 aB 105 #[.agg #[.bool neg,.slice A n c]] w (DZ w (neg && decide (0<cU xs n)) (xs.take (cU xs n))):=by
 have Cn:=aA (fun W (h:Below w.heap.size w W)=>KX neg A n c xs W (hx.aC h) hn hc Dp);have vh:=(Duo.new w (.bool neg) (.slice A n c)).aC (aU.alloc aL (.cells #[.bool false,.slice none 0 0] 41));have hd:=Duo.new (w.alloc (.cells #[.bool neg,.slice A n c] 41)) (.bool false) (.slice none 0 0);rw [aJ] at hd;have c0:=vh.cell0;have c1:=vh.cell1;have Hd:=aA hd;clear hd vh hx;go_enter func105,ntmps105
 go_wp2_with fail
 refine (Cn.o _ (by exact (aU.alloc aL _).alloc (by simp) _)).mono ?_;rintro e w1 ⟨A1,rP,rfl,h1,h2,h3,h4⟩;have jQ:=Hd.o.aC h4;have k0:=jQ.cell0;have k1:=jQ.cell1;have f0:=jQ.frozen 0;have f1:=jQ.frozen 1;have hb:Below w.heap.size w w1:=(((Below.refl _ w).alloc aL _).alloc (by simp) _).trans (h4.mono (by simp;omega));have Jn:=aA jQ;clear jQ h4;go_wp2
 exact bK (dO (fn:=f105) rfl _ _ _ _ _ _ _ rfl (Jn.o.set _ _) underlying41 rfl bQ) rfl
  ⟨A1,rP,by rw [cQ],h1,h2,Jn.o.limbs _ _ rfl rfl h3,(hb.setCell (p:=⟨w.heap.size+1,0,none⟩) (by simp) _).setCell (p:=⟨w.heap.size+1,1,none⟩) (by simp) _⟩
def zI (neg:Bool):Nat->Int
 | 0=>0
 | _+1=>if neg then -1 else 1
def yI (neg:Bool) (A:Option Addr) (n c:Nat) (xs:List Int) (w:World) (hx:aD w A n xs) (hn:n<=c) (hc:c<=9223372036854775807) (Dp:n*8<=140737488355328):
 aB 72 #[.agg #[.bool neg,.slice A n c]] w (fun e w'=>e=.returned (.int .i64 (zI neg (cU xs n)))∧Below w.heap.size w w'):=by
 have hl:=cS xs n;have hlen:(xs.take (cU xs n)).length=cU xs n:=by rw [cQ,hx.len];omega
 have zC:=aA hlen;have Cn:=aA (fun W (h:Below w.heap.size w W)=>Ww neg A n c xs W (hx.aC h) hn hc Dp);have hd:=Duo.new w (.bool neg) (.slice A n c);have k0:=hd.cell0;have k1:=hd.cell1;have Hd:=aA hd;clear hd hlen hx;go_enter func72,ntmps72
 go_wp2_with fail
 refine (Cn.o _ (by exact aU.alloc aL _)).mono ?_;rintro e w1 ⟨A1,c1,rfl,h1,h2,h3,h4⟩;rw [zC.o] at h1 h3 ⊢;have jQ:=Hd.o.aC h4;have c0:=jQ.cell0;have rP:=jQ.cell1;have f0:=jQ.frozen 0;have f1:=jQ.frozen 1;have hb:Below w.heap.size w w1:=((Below.refl _ w).alloc aL _).trans (h4.mono (by simp));have hbf:∀u v,Below w.heap.size w ((w1.setCell ⟨w.heap.size,0,none⟩ u).setCell ⟨w.heap.size,1,none⟩ v):=fun u v=>(hb.setCell (p:=⟨w.heap.size,0,none⟩) aL _).setCell (p:=⟨w.heap.size,1,none⟩) aL _;have Hb:=aA hbf;clear jQ h4 hb hbf;clear Hd k0 k1 h3 zC;obtain ⟨L,hL⟩:∃L,cU xs n=L:=⟨_,rfl⟩;have HL:=aA hL;rw [hL] at h1 ⊢;clear hL Cn hl;rcases L with _ | L
 . cases neg<;>(go_wp2;go_ret;exact ⟨by rw [HL.o];rfl,Hb.o _ _⟩)
 . have Gb:(0:Int)<(L:Int)+1:=by omega
   cases neg<;>(go_wp2;go_ret;exact ⟨by rw [HL.o];rfl,Hb.o _ _⟩)
def aet (x:Int) (w:World) (h0:0<=x) (h1:x<=9223372036854775807):
 aB 46 #[.int .i64 x] w (DZ w false ([x].take (cU [x] 1))):=by
 have Cn:=aA (fun W (h:aD W (some ⟨w.heap.size+1,0,none⟩) 1 [x])=>KX false (some ⟨w.heap.size+1,0,none⟩) 1 1 [x] W h (by omega) (by omega) (by omega));have hd:=(Duo.new w (.bool false) (.slice none 0 0)).aC (aU.alloc aL (.cells #[.int .u64 x] 38));have uG:=aD.one (w.alloc (.cells #[.bool false,.slice none 0 0] 41)) 38 h0 (x:=x) (by omega);rw [aJ] at uG;have Hlm:=aA uG;have Hd:=aA hd;clear hd uG;go_enter func46,ntmps46
 go_wp2_with fail
 refine (Cn.o _ (by exact Hlm.o)).mono ?_;rintro e w1 ⟨A1,c1,rfl,h2,h3,h4,h5⟩;have jQ:=Hd.o.aC h5;have k0:=jQ.cell0;have k1:=jQ.cell1;have f0:=jQ.frozen 0;have f1:=jQ.frozen 1;have hb:Below w.heap.size w w1:=(((Below.refl _ w).alloc aL _).alloc (by simp) _).trans (h5.mono (by simp;omega));have Jn:=aA jQ;clear jQ h5;go_wp2
 exact bK (dO (fn:=Tryz.f46) rfl _ _ _ _ _ _ _ rfl (Jn.o.set _ _) underlying41 rfl bQ) rfl
  ⟨A1,c1,by rw [cQ];rfl,h2,h3,Jn.o.limbs _ _ rfl rfl h4,(hb.setCell (p:=⟨w.heap.size,0,none⟩) aL _).setCell (p:=⟨w.heap.size,1,none⟩) aL _⟩
def ah (f:Nat->Nat->Nat×Nat):Nat->List Int×Nat
 | 0=>([],0)
 | n+1=>((ah f n).1++[((f n (ah f n).2).1:Int)],(f n (ah f n).2).2)
def cn (f:Nat->Nat->Nat×Nat):∀n,(ah f n).1.length=n
 | 0=>rfl
 | n+1=>by show ((ah f n).1++[_]).length=_;rw [eC,cn f n];rfl
def AG (f:Nat->Nat->Nat×Nat) (n:Nat):limbs (ah f (n+1)).1=limbs (ah f n).1+2^(64*n)*(f n (ah f n).2).1:=by
 show limbs ((ah f n).1++[_])=_;rw [iP,cn];show _+_*(((f n (ah f n).2).1:Int).toNat+2^64*0)=_;rw [jZ,ja,jc]
def rW {f:Nat->Nat->Nat×Nat}(h:∀k c,(f k c).1<18446744073709551616):∀n,aQ (ah f n).1
 | 0=>fun i=>by show 0<=nth [] i∧nth [] i<_;rw [bw (by simp)];omega
 | n+1=>fun i=>by
   have ih:=rW h n i;show 0<=nth ((ah f n).1++[_]) i∧nth ((ah f n).1++[_]) i<_;by_cases hi:i<n
   . rw [nN (by rw [cn];exact hi)];exact ih
   . rw [nO (by rw [cn];omega),cn]
     by_cases e:i=n
     . subst e
       rw [vC];have:=h i (ah f i).2;show 0<=((f i (ah f i).2).1:Int)∧_<_;exact ⟨by omega,by show ((f i (ah f i).2).1:Int)<_;omega⟩
     . rw [bw (by simp;omega)];omega
def gH (xs:List Int) (k:Nat):limbs (xs.take (k+1))=limbs (xs.take k)+2^(64*k)*(nth xs k).toNat:=by
 by_cases h:k<xs.length
 . exact nV h
 . rw [iC (i:=k+1) (by omega),iC (i:=k) (by omega),bw (by omega)]
   show _=_+_*0;rw [jZ,ja]
def fT (h:xs.length<=n):limbs (xs.take n)=limbs xs:=by rw [iC h]
def sO (n:Nat):2^(64*(n+1))=2^(64*n)*18446744073709551616:=by
 rw [WW,iD]
def mA (a b:List Int) (k c:Nat):Nat×Nat:=(((nth a k).toNat+(nth b k).toNat+c) % 18446744073709551616,((nth a k).toNat+(nth b k).toNat+c) / 18446744073709551616)
def WT (a b:List Int) (k c:Nat):(mA a b k c).1<18446744073709551616:=jy _ (by omega)
def DI (ha:aQ a) (hb:aQ b):∀n,(ah (mA a b) n).2<=1∧limbs (ah (mA a b) n).1+2^(64*n)*(ah (mA a b) n).2=limbs (a.take n)+limbs (b.take n)
 | 0=>⟨by show 0<=1;omega,by simp [ah,limbs]⟩
 | n+1=>by
   obtain ⟨h1,h2⟩:=DI ha hb n;have a1:=ha n;have b1:=hb n;rw [AG,gH,gH,sO];show (mA a b n (ah (mA a b) n).2).2<=1∧_+_*(mA a b n (ah (mA a b) n).2).1+_*(mA a b n (ah (mA a b) n).2).2=_;generalize (ah (mA a b) n).2=c at*
   generalize limbs (ah (mA a b) n).1=L at*
   unfold mA;generalize hs:(nth a n).toNat+(nth b n).toNat+c=s;have hd:=su s 18446744073709551616;show s / 18446744073709551616<=1∧_+_*(s % 18446744073709551616)+_*(s / 18446744073709551616)=_;refine ⟨by omega,?_⟩;generalize 2^(64*n)=P at*
   have h3:P*(s % 18446744073709551616)+P*18446744073709551616*(s / 18446744073709551616)=P*s:=by
    rw [dA,<- ak];congr 1;omega
   have h4:P*s=P*(nth a n).toNat+P*(nth b n).toNat+P*c:=by rw [<- hs,ak,ak]
   omega
def lS (a b:List Int) (k c:Nat):Nat×Nat:=(((nth a k).toNat+18446744073709551616-(nth b k).toNat-c) % 18446744073709551616,if (nth a k).toNat<(nth b k).toNat+c then 1 else 0)
def VI (a b:List Int) (k c:Nat):(lS a b k c).1<18446744073709551616:=jy _ (by omega)
def Gy (ha:aQ a) (hb:aQ b):∀n,(ah (lS a b) n).2<=1∧limbs (ah (lS a b) n).1+limbs (b.take n)=limbs (a.take n)+2^(64*n)*(ah (lS a b) n).2
 | 0=>⟨by show 0<=1;omega,by simp [ah,limbs]⟩
 | n+1=>by
   obtain ⟨h1,h2⟩:=Gy ha hb n;have a1:=ha n;have b1:=hb n;rw [AG,gH,gH,sO];show (lS a b n (ah (lS a b) n).2).2<=1∧_+_*(lS a b n (ah (lS a b) n).2).1+_=_+_*(lS a b n (ah (lS a b) n).2).2;generalize (ah (lS a b) n).2=c at*
   generalize limbs (ah (lS a b) n).1=L at*
   unfold lS;generalize hx:(nth a n).toNat=x at*
   generalize hy:(nth b n).toNat=y at*
   generalize 2^(64*n)=P at*
   show (if x<y+c then 1 else 0)<=1∧_+P*((x+18446744073709551616-y-c) % 18446744073709551616)+_=_+P*18446744073709551616*(if x<y+c then 1 else 0);by_cases h:x<y+c
   . rw [aM h]
     refine ⟨by omega,?_⟩;have e:(x+18446744073709551616-y-c) % 18446744073709551616=x+18446744073709551616-y-c:=Fz (by omega);rw [e];have h3:P*(x+18446744073709551616-y-c)+P*y+P*c=P*x+P*18446744073709551616:=by
      rw [<- ak,<- ak,<- ak];congr 1;omega
     omega
   . rw [aY h]
     refine ⟨by omega,?_⟩;have e:(x+18446744073709551616-y-c) % 18446744073709551616=x-y-c:=by
      rw [show x+18446744073709551616-y-c=x-y-c+18446744073709551616 by omega,Nat.add_mod_right];exact Fz (by omega)
     rw [e];have h3:P*(x-y-c)+P*y+P*c=P*x:=by
      rw [<- ak,<- ak];congr 1;omega
     omega
def jP (a:List Int) (x k c:Nat):Nat×Nat:=(((nth a k).toNat*x+c) % 18446744073709551616,((nth a k).toNat*x+c) / 18446744073709551616)
def MV (a:List Int) (x k c:Nat):(jP a x k c).1<18446744073709551616:=jy _ (by omega)
def BJ (ha:aQ a) {x:Nat}(hx:x<18446744073709551616):∀n,(ah (jP a x) n).2<18446744073709551616∧limbs (ah (jP a x) n).1+2^(64*n)*(ah (jP a x) n).2=limbs (a.take n)*x
 | 0=>⟨by show 0<_;omega,by simp [ah,limbs]⟩
 | n+1=>by
   obtain ⟨h1,h2⟩:=BJ ha hx n;have a1:=ha n;rw [AG,gH,sO];show (jP a x n (ah (jP a x) n).2).2<_∧_+_*(jP a x n (ah (jP a x) n).2).1+_*(jP a x n (ah (jP a x) n).2).2=_;generalize (ah (jP a x) n).2=c at*
   generalize limbs (ah (jP a x) n).1=L at*
   unfold jP;generalize hy:(nth a n).toNat=y at*
   generalize hs:y*x+c=s;have hd:=su s 18446744073709551616;show s / 18446744073709551616<_∧_+_*(s % 18446744073709551616)+_*(s / 18446744073709551616)=_;have h5:y*x<=18446744073709551615*18446744073709551615:=ct (by omega) (by omega);refine ⟨by omega,?_⟩;generalize 2^(64*n)=P at*
   have h3:P*(s % 18446744073709551616)+P*18446744073709551616*(s / 18446744073709551616)=P*s:=by
    rw [dA,<- ak];congr 1;omega
   have h4:P*s=P*y*x+P*c:=by rw [<- hs,ak,dA]
   rw [bO];omega
def vZ (xs:List Int) (x:Int):limbs (xs++[x])=limbs xs+2^(64*xs.length)*x.toNat:=by
 rw [iP];show _+_*(x.toNat+2^64*0)=_;rw [jZ,ja]
def aQ.snoc (h:aQ xs) (h0:0<=x) (h1:x<18446744073709551616):aQ (xs++[x]):=fun i=>by
 by_cases hi:i<xs.length
 . rw [nN hi];exact h i
 . rw [nO (by omega)]
   by_cases e:i-xs.length=0
   . rw [e];exact ⟨h0,h1⟩
   . rw [bw (by simp;omega)];omega
def Xw {xs:List Int}(h:aQ xs) {i:Nat}(hi:i<xs.length) {v:Int}(_hv:0<=v):limbs (xs.set i v)+2^(64*i)*(nth xs i).toNat=limbs xs+2^(64*i)*v.toNat:=by
 induction xs generalizing i with
 | nil=>exact absurd hi (by simp)
 | cons x xs ih=>
   match i with
   | 0=>
     show v.toNat+2^64*limbs xs+2^(64*0)*x.toNat=x.toNat+2^64*limbs xs+2^(64*0)*v.toNat
     rw [jZ,wQ];omega
   | i+1=>
     have h1:=ih h.tail (i:=i) (by simpa using hi);show x.toNat+2^64*limbs (xs.set i v)+2^(64*(i+1))*(nth xs i).toNat=x.toNat+2^64*limbs xs+2^(64*(i+1))*v.toNat
     rw [WW,xk (64*i),iD,dA,dA];(have h2:2^64*(limbs (xs.set i v)+2^(64*i)*(nth xs i).toNat)=2^64*(limbs xs+2^(64*i)*v.toNat):=by rw [h1]);rw [ak,ak] at h2;omega
def aQ.set (h:aQ xs) (i:Nat) {v:Int}(h0:0<=v) (h1:v<18446744073709551616):aQ (xs.set i v):=fun j=>by
 by_cases hi:i<xs.length
 . rw [gK hi]
   split
   . exact ⟨h0,h1⟩
   . exact h j
 . rw [WV (by omega)];exact h j
def nW (n:Nat):limbs (List.replicate n 0)=0:=by
 induction n with
 | zero=>rfl
 | succ n ih=>rw [Qv];show (0:Int).toNat+2^64*limbs _=0;rw [ih];rfl
def LC:∀{xs ys:List Int},aQ xs->aQ ys->xs.length=ys.length->limbs xs=limbs ys->xs=ys
 | [],[],_,_,_,_=>rfl
 | x::xs,y::ys,hx,hy,hl,h=>by
   have h1:=hx 0;have h2:=hy 0;rw [nL] at h1 h2;have h3:x.toNat+2^64*limbs xs=y.toNat+2^64*limbs ys:=h;have h4:x=y:=by omega
   subst h4;rw [LC hx.tail hy.tail (by simpa using hl) (by omega)]
def bY (xs:List Int):Prop:=aQ xs∧(0<xs.length->nth xs (xs.length-1)≠0)
def bY.low (h:bY xs) (hl:0<xs.length):2^(64*(xs.length-1))<=limbs xs:=by
 obtain ⟨k,hk⟩:∃k,xs.length=k+1:=⟨xs.length-1,by omega⟩;have h1:=h.2 hl;have h2:=h.1 k;rw [hk,DK] at h1 ⊢;rw [<- fT (n:=k+1) (by omega),gH];have h3:1<=(nth xs k).toNat:=by omega
 have h4:2^(64*k)*1<=2^(64*k)*(nth xs k).toNat:=bn _ h3;omega
def bY.inj (hx:bY xs) (hy:bY ys) (h:limbs xs=limbs ys):xs=ys:=by
 have key:∀{a b:List Int},bY a->bY b->limbs a=limbs b->¬a.length<b.length:=fun {a b} ha hb e hl=>by
  have h1:=hb.low (by omega);have h2:=dc ha.1;have h3:2^(64*a.length)<=2^(64*(b.length-1)):=fP (by omega) (by omega);omega
 have h1:=key hx hy h;have h2:=key hy hx h.symm;exact LC hx.1 hy.1 (by omega) h
def bF (h:aQ xs) (hn:xs.length=n):bY (xs.take (cU xs n))∧limbs (xs.take (cU xs n))=limbs xs:=by
 have h1:=cS xs n;refine ⟨⟨h.take _,fun h0=> ?_⟩,by rw [LB (by omega),fT (by omega)]⟩;rw [cQ,oz (by omega)] at h0 ⊢;rw [nK (by omega)];exact O6 h0
def aI (neg:Bool) (xs:List Int):Int:=if neg then -(limbs xs:Int) else (limbs xs:Int)
structure dN (neg:Bool) (xs:List Int) (z:Int):Prop where
 pl:bY xs
 eq:aI neg xs=z
 nz:neg=true->0<xs.length
def bY.kN {xs:List Int}(h:bY xs):limbs xs=0↔xs.length=0:=by
 constructor
 . intro h0
   rcases jM xs.length with h1 | h1
   . exact h1
   . have:=h.low h1
     have:=lJ (64*(xs.length-1));omega
 . intro h0
   rw [lK h0];rfl
def dN.unique {s t:Bool} (h:dN s xs z) (k:dN t ys z):s=t∧xs=ys:=by
 have e:aI s xs=aI t ys:=h.eq.trans k.eq.symm;have h1:=h.pl.kN;have k1:=k.pl.kN;have h2:=h.nz;have k2:=k.nz;unfold aI at e;cases s<;>cases t<;>simp at e h2 k2
 . exact ⟨rfl,h.pl.inj k.pl (by omega)⟩
 . exfalso;omega
 . exfalso;omega
 . exact ⟨rfl,h.pl.inj k.pl (by omega)⟩
def dN.OP {s:Bool} (h:dN s xs z):z=0↔xs.length=0:=by
 have e:=h.eq;have h1:=h.pl.kN;unfold aI at e;cases s<;>simp at e<;>omega
def fH (xs ys:List Int):bI (xs++ys)=bI xs++bI ys:=by simp [bI]
def aaQ (xs:List Int) (i:Nat) (v:Int):(bI xs).set i (.int .u64 v)=bI (xs.set i v):=by simp [bI,Jf]
def aD.drewN (h:aD w A n xs) (k:Nat):aD (w.drewN k) A n xs:=h.aC (below_drewN aU k)
def iJ (w:World) (g:Nat) (t:TypeId) (xs:List Int):Prop:=w.heap[g]? =some (.cells (bI xs).toArray t (0,0))
section
variable {w w' : World} {g : Nat} {t : TypeId} {xs : List Int}
def iJ.lt (h:iJ w g t xs):g<w.heap.size:=(jm.1 h).1
def iJ.cell (h:iJ w g t xs) {i:Nat}(hi:i<xs.length):w.cell? ⟨g,i,none⟩=some (.int .u64 (nth xs i)):=by
 rw [dQ w g i _ _ (0,0) h];have:=Bl hi;simpa using this
def iJ.frozen (h:iJ w g t xs) (i:Nat):w.frozen? ⟨g,i,none⟩=false:=by
 unfold iJ at h;simp [World.frozen?,h]
def iJ.set (h:iJ w g t xs) (i:Nat) (v:Int):iJ (w.setCell ⟨g,i,none⟩ (.int .u64 v)) g t (xs.set i v):=by
 unfold iJ at h ⊢;simp [World.setCell,wR,h,<- aaQ]
def iJ.below {B:Nat}(h:iJ w g t xs) (hb:Below B w w') (hg:g<B):iJ w' g t xs:=(hb.block g hg).trans h
def iJ.aC (h:iJ w g t xs) (hb:Below w.heap.size w w'):iJ w' g t xs:=h.below hb h.lt
def iJ.new (w:World) (t:TypeId) (xs:List Int):iJ (w.alloc (.cells (bI xs).toArray t)) w.heap.size t xs:=bM w _
def iJ.own (h:iJ w g t xs) {base n:Nat}(hb:base<=g) (hn:n<=xs.length) (hm:xs.length<=maxLen):
 w.ownsRow base t 1 (.slice (some ⟨g,0,none⟩) n xs.length) n (bI (xs.take n)):=
 ⟨by simp [gO,hn],.inr ⟨g,xs.length,_,rfl,hb,h,hn,hm,by simp [gO],by simp [bI,JQ]⟩⟩
def iJ.limbs (h:iJ w g t xs) (oH:aQ xs):aD w (some ⟨g,0,none⟩) xs.length xs:=
 ⟨rfl,fun _=>⟨g,0,rfl,h.lt,fun i hi=>by rw [bh];exact h.cell hi⟩,oH⟩
end
def iQ {P:Program} {t:TypeId} {i:TypeInfo}(ht:P.underlying t=some (.slice e)) (hi:P.info? e=some i) (hz:i.zero=some (.int .u64 0)) (hs:i.size=1) (hb:i.bytes=8)
 (n:Nat) (hn:n*8<=281474976710656) (w:World):
 (Instr.makeSlice t (.int .i64 (n:Int)) (.int .i64 (n:Int))).run P w=.ok (.slice (some ⟨w.heap.size,0,none⟩) n n) (w.alloc (.cells (bI (List.replicate n 0)).toArray e)):=by
 have hr:=run_make (P:=P) w t e i (.int .u64 0) ht hi hz .i64 .i64 n n (by omega) (by omega) (by rw [hb];omega) (by omega);have e1:madeCells (Value.int .u64 0).cells (n*1)=(bI (List.replicate n 0)).toArray:=by
  apply Array.toList_inj.1;show (madeCells #[Value.int .u64 0] (n*1)).toList=_;rw [adh,bl];simp [bI]
 simp only [jc,hs] at hr;rw [hr,e1]
def GF (f:Nat->Nat->Nat×Nat) (n k:Nat):List Int:=(ah f k).1++List.replicate (n-k) 0
def PY (f:Nat->Nat->Nat×Nat) (hk:k<=n):(GF f n k).length=n:=by
 unfold GF;rw [eC,cn,fQ];omega
def Xn (f:Nat->Nat->Nat×Nat) (n:Nat):GF f n 0=List.replicate n 0:=by unfold GF;show []++_=_;rw [og];rfl
def Xo (f:Nat->Nat->Nat×Nat) (n:Nat):GF f n n=(ah f n).1:=by unfold GF;rw [vC];simp
def aaG (f:Nat->Nat->Nat×Nat) (hk:k<n):(GF f n k).set k ((f k (ah f k).2).1:Int)=GF f n (k+1):=by
 unfold GF;rw [WU _ _ (by rw [cn];omega),cn,vC];obtain ⟨m,hm⟩:∃m,n-k=m+1:=⟨n-k-1,by omega⟩;rw [hm,Qv,acY,show n-(k+1)=m by omega];show _=((ah f k).1++[((f k (ah f k).2).1:Int)])++_;rw [vD];rfl
def yF (w:World) (xs:List Int) (e:Ending) (w':World):Prop:=
 ∃A c,e=.returned (.slice A xs.length c)∧xs.length<=c∧c<=9223372036854775807∧aD w' A xs.length xs∧Below w.heap.size w w'∧(0<xs.length->∀y,A=some y->w.heap.size<=y.block)
def yw (w:World) (neg:Bool) (xs:List Int) (e:Ending) (w':World):Prop:=
 ∃A c,e=.returned (.agg #[.bool neg,.slice A xs.length c])∧xs.length<=c∧c<=9223372036854775807∧aD w' A xs.length xs∧Below w.heap.size w w'∧(0<xs.length->∀y,A=some y->w.heap.size<=y.block)
def AY (w:World) (xs:List Int) (e:Ending) (w':World):Prop:=
 ∃A c,e=.returned (.slice A xs.length c)∧xs.length<=c∧c<=9223372036854775807∧Ints w' A xs.length xs∧Below w.heap.size w w'∧(0<xs.length->∀y,A=some y->w.heap.size<=y.block)
def pI:(prog.info? 3).map (fun i=>(i.zero,i.size,i.bytes))=some (some (.int .i64 0),1,8):=by kernel_rfl
def gi (xs:List Int):∀v∈ints xs,v.oneCell'=true:=by
 intro v hv;obtain ⟨x,_,rfl⟩:=af.1 hv;rfl
def afS (w:World) (a:Option Addr) (n c n' c':Nat):(binOp .eql 42 (.slice a n c) (.slice none n' c')).run prog w=.ok (.bool a.isNone) w:=
 Lib.run_eql_slice_nil w _ _ a n c n' c' underlying42
def aaj (A:Option Addr) (n c:Nat) (xs:List Int) (w:World) (hx:aD w A n xs) (hn:n*8<=140737488355328):
 aB 111 #[.slice A n c] w (yF w xs):=by
 obtain rfl:=hx.len;have hr:=aA hx.reads;have oH:=aA hx.ok;have q22:=Vd;obtain ⟨i0,hi,jE,jD,jJ⟩:=eG fN;rcases A with _ | ad
 . have h0:xs.length=0:=by
    rcases jM xs.length with h | h
    . exact h
    . obtain ⟨b,o,e,_⟩:=hx.at_ h
      cases e
   have wH:Hid (yF w xs (.returned (.slice none 0 0)) w):=by
    refine ⟨none,0,by rw [h0],by omega,by omega,?_,aU,fun _ y hy=>by cases hy⟩;rw [lK h0];exact aD.nil _ _
   clear h0 hx;go_enter func111,ntmps111
   go_wp2
   go_ret;exact wH.o
 . go_enter func111,ntmps111
   go_wp2_with (at_builtin;refine bU (w:=w.alloc (.cells #[] 38)) rfl _ _ 39 rfl w.heap.size 38 i0 (.int .u64 0) 1 8 underlying39 hi jE jD jJ rfl (by decide) _ 0 [] rfl (bA w 38 aL) w.heap.size (some ad) xs.length c (bI xs) rfl (hr.o.alloc aL _) (jU xs) (by unfold maxLen;omega) (by omega) (by simp) ?_;intro v' w1 aa aW gZ)
   have bp:w1.ownsRow w.heap.size 38 1 v' xs.length (bI xs):=by simpa using aa
   have hb:Below w.heap.size w w1:=((Below.refl _ w).alloc aL _).grown aW (by simp) (fun k hk=>((bA w 38 aL).lt k hk).1);go_wp2
   go_ret;obtain ⟨A',c',rfl⟩:=fD bp;have hcc:xs.length<=c'∧c'<=9223372036854775807:=by
    rcases bp.2 with ⟨hv,h0⟩ | ⟨g,cap,cur,hv,_,_,jV,zA,_⟩
    . injection hv;omega
    . injection hv with _ _ e
      unfold maxLen at zA;omega
   exact ⟨A',c',rfl,hcc.1,hcc.2,aD.ia bp oH.o,hb,fun _ y hy=>(bp.lt y.block (by subst hy;rfl)).1⟩
def aba (A:Option Addr) (n c:Nat) (xs:List Int) (w:World) (hx:Ints w A n xs) (hn:n*8<=140737488355328):
 aB 107 #[.slice A n c] w (AY w xs):=by
 obtain rfl:=hx.len;have hr:=aA hx.reads;have oH:=aA hx.ok;have q22:=afS;obtain ⟨i0,hi,jE,jD,jJ⟩:=eG pI;rcases A with _ | ad
 . have h0:xs.length=0:=by
    rcases jM xs.length with h | h
    . exact h
    . obtain ⟨b,o,e,_⟩:=hx.at_ h
      cases e
   have wH:Hid (AY w xs (.returned (.slice none 0 0)) w):=by
    refine ⟨none,0,by rw [h0],by omega,by omega,?_,aU,fun _ y hy=>by cases hy⟩;rw [lK h0];exact ⟨rfl,fun h=>absurd h (by decide),fun i=>by rw [bw (by simp)];exact DX.zero⟩
   clear h0 hx;go_enter func107,ntmps107
   go_wp2
   go_ret;exact wH.o
 . go_enter func107,ntmps107
   go_wp2_with (at_builtin;refine bU (w:=w.alloc (.cells #[] 3)) rfl _ _ 42 rfl w.heap.size 3 i0 (.int .i64 0) 1 8 underlying42 hi jE jD jJ rfl (by decide) _ 0 [] rfl (bA w 3 aL) w.heap.size (some ad) xs.length c (ints xs) rfl (hr.o.alloc aL _) (gi xs) (by unfold maxLen;omega) (by omega) (by simp) ?_;intro v' w1 aa aW gZ)
   have bp:w1.ownsRow w.heap.size 3 1 v' xs.length (ints xs):=by simpa using aa
   have hb:Below w.heap.size w w1:=((Below.refl _ w).alloc aL _).grown aW (by simp) (fun k hk=>((bA w 3 aL).lt k hk).1);go_wp2
   go_ret;obtain ⟨A',c',rfl⟩:=fD bp;have hcc:xs.length<=c'∧c'<=9223372036854775807:=by
    rcases bp.2 with ⟨hv,h0⟩ | ⟨g,cap,cur,hv,_,_,jV,zA,_⟩
    . injection hv;omega
    . injection hv with _ _ e
      unfold maxLen at zA;omega
   exact ⟨A',c',rfl,hcc.1,hcc.2,Ints.ia bp oH.o,hb,fun _ y hy=>(bp.lt y.block (by subst hy;rfl)).1⟩
def Va (A:Option Addr) (n c:Nat) (xs:List Int) (w:World) (hx:aD w A n xs) (hn:n<=c) (hc:c<=9223372036854775807) (Dp:n*8<=140737488355328):
 aB 81 #[.slice A n c] w (yF w (xs.take (cU xs n))):=by
 have hl:=cS xs n;go_enter func81,ntmps81
 go_wp2_with fail
 refine (cH A n c xs _ hx hn hc).mono ?_;rintro e w' ⟨rfl,rfl⟩;go_wp2_with fail
 refine (aaj A _ c _ _ (hx.take hl) (by omega)).mono ?_;rintro e w1 ⟨A1,c1,rfl,h1,h2,h3,h4,h5⟩;go_wp2
 go_ret;refine ⟨A1,c1,?_,h1,h2,h3,h4,h5⟩;rw [cQ];rfl
def U6 (neg:Bool) (A:Option Addr) (n c:Nat) (xs:List Int) (w:World) (hx:aD w A n xs) (hn:n<=c) (hc:c<=9223372036854775807) (Dp:n*8<=140737488355328):
 aB 80 #[.bool neg,.slice A n c] w (yw w (neg && decide (0<cU xs n)) (xs.take (cU xs n))):=by
 have hl:=cS xs n;have hlen:(xs.take (cU xs n)).length=cU xs n:=by rw [cQ,hx.len];omega
 have zC:=aA hlen;have Cn:=aA (fun W (h:Below w.heap.size w W)=>Va A n c xs W (hx.aC h) hn hc Dp);have hd:=Duo.new w (.bool false) (.slice none 0 0);clear hlen hx;go_enter func80,ntmps80
 go_wp2_with fail
 refine (Cn.o _ (by exact aU.alloc aL _)).mono ?_;rintro e w1 ⟨A1,c1,rfl,h1,h2,h3,h4,h5⟩;rw [zC.o] at h1 h3 h5 ⊢;have H5:Hid (0<cU xs n->∀y,A1=some y->w.heap.size<=y.block):=fun h0 y hy=>by have:=h5 h0 y hy;simp at this;omega
 clear h5;have jQ:=hd.aC h4;have c0:=jQ.cell0;have rP:=jQ.cell1;have f0:=jQ.frozen 0;have f1:=jQ.frozen 1;have hb:Below w.heap.size w w1:=((Below.refl _ w).alloc aL _).trans (h4.mono (by simp));have Hd:=aA jQ;clear hd jQ h4;have fin:∀b:Bool,yw w b (xs.take (cU xs n)) (.returned (.agg #[.bool b,.slice A1 (cU xs n) c1])) ((w1.setCell ⟨w.heap.size,0,none⟩ (.bool b)).setCell ⟨w.heap.size,1,none⟩ (.slice A1 (cU xs n) c1)):=fun b=>by
  refine ⟨A1,c1,?_,?_,h2,?_,(hb.setCell (p:=⟨w.heap.size,0,none⟩) aL _).setCell (p:=⟨w.heap.size,1,none⟩) aL _,by rw [zC.o];exact H5.o⟩
  . rw [zC.o]
  . rw [zC.o];exact h1
  . rw [zC.o];exact Hd.o.limbs _ _ rfl rfl h3
 have Fin:=aA fin;clear fin;cases neg with
 | false=>
   go_wp2
   exact bK (v:=.agg #[.bool false,.slice A1 (cU xs n) c1]) (dO (fn:=f80) rfl _ _ _ _ _ _ _ rfl (Hd.o.set (.bool false) (.slice A1 (cU xs n) c1)) underlying41 rfl bQ) rfl (Fin.o _)
 | true=>
   go_wp2
   exact bK (v:=.agg #[.bool (decide (0<cU xs n)),.slice A1 (cU xs n) c1]) (dO (fn:=f80) rfl _ _ _ _ _ _ _ rfl (Hd.o.set (.bool (decide (0<cU xs n))) (.slice A1 (cU xs n) c1)) underlying41 rfl bQ) rfl (Fin.o _)
def aeu (neg:Bool) (A:Option Addr) (n c:Nat) (xs:List Int) (w:World) (hx:aD w A n xs) (hn:n<=c) (hc:c<=9223372036854775807) (Dp:n*8<=140737488355328):
 aB 105 #[.agg #[.bool neg,.slice A n c]] w (yw w (neg && decide (0<cU xs n)) (xs.take (cU xs n))):=by
 have Cn:=aA (fun W (h:Below w.heap.size w W)=>U6 neg A n c xs W (hx.aC h) hn hc Dp);have vh:=(Duo.new w (.bool neg) (.slice A n c)).aC (aU.alloc aL (.cells #[.bool false,.slice none 0 0] 41));have hd:=Duo.new (w.alloc (.cells #[.bool neg,.slice A n c] 41)) (.bool false) (.slice none 0 0);rw [aJ] at hd;have c0:=vh.cell0;have c1:=vh.cell1;have Hd:=aA hd;clear hd vh hx;go_enter func105,ntmps105
 go_wp2_with fail
 refine (Cn.o _ (by exact (aU.alloc aL _).alloc (by simp) _)).mono ?_;rintro e w1 ⟨A1,rP,rfl,h1,h2,h3,h4,h5⟩;have H5:Hid (0<(xs.take (cU xs n)).length->∀y,A1=some y->w.heap.size<=y.block):=fun h0 y hy=>by have:=h5 h0 y hy;simp at this;omega
 clear h5;have jQ:=Hd.o.aC h4;have k0:=jQ.cell0;have k1:=jQ.cell1;have f0:=jQ.frozen 0;have f1:=jQ.frozen 1;have hb:Below w.heap.size w w1:=(((Below.refl _ w).alloc aL _).alloc (by simp) _).trans (h4.mono (by simp;omega));have Jn:=aA jQ;clear jQ h4;go_wp2
 exact bK (dO (fn:=f105) rfl _ _ _ _ _ _ _ rfl (Jn.o.set _ _) underlying41 rfl bQ) rfl
  ⟨A1,rP,by rw [cQ],h1,h2,Jn.o.limbs _ _ rfl rfl h3,(hb.setCell (p:=⟨w.heap.size+1,0,none⟩) (by simp) _).setCell (p:=⟨w.heap.size+1,1,none⟩) (by simp) _,H5.o⟩
open aF
def lZ (h:aD w A n xs) (ho:Only S w w') (hA:0<n->∀y,A=some y->¬S y.block):aD w' A n xs:=
 ⟨h.len,fun hn=>by
   obtain ⟨b,o,e,hb,hc⟩:=h.at_ hn;refine ⟨b,o,e,iE hb ho.size,fun i hi=> ?_⟩;rw [ho.cell (p:=⟨b,o+i,none⟩) hb (hA hn ⟨b,o,none⟩ e)];exact hc i hi,h.ok⟩
def dN.cap {s:Bool} {xs:List Int} {K:Nat}(h:dN s xs z) (hz:z.natAbs<2^(64*K)):xs.length<=K:=by
 rcases pT K xs.length with hlt | xC
 . exfalso
   have h1:=h.pl.low (by omega);have h2:2^(64*K)<=2^(64*(xs.length-1)):=fP (by omega) (by omega);have h3:z.natAbs=limbs xs:=by
    rw [<- h.eq];unfold aI;cases s<;>simp
   omega
 . exact xC
def bE (s:Bool) (A:Option Addr) (k c:Nat) (B:Option Addr) (m d:Nat):Value:=.agg #[.bool s,.slice A k c,.slice B m d]
def Kid (P:Value->Prop) (w:World) (b o i:Nat):Prop:=∃s A k c B m d,w.cell? ⟨b,o+i*3,none⟩=some (.bool s)∧w.cell? ⟨b,o+i*3+1,none⟩=some (.slice A k c)∧w.cell? ⟨b,o+i*3+2,none⟩=some (.slice B m d)∧P (bE s A k c B m d)
def RowK (S:Nat->Prop) (P:Nat->Value->Prop) (w:World) (A:Option Addr) (m:Nat):Prop:=0<m->∃b o,A=some ⟨b,o,none⟩∧S b∧b<w.heap.size∧∀i,i<m->Kid (P i) w b o i
def aO (S:Nat->Prop):(n:Nat)->World->Value->Pn n->Prop
 | 0,w,v,z=>∃s A k c ls,v=bE s A k c none 0 0∧k<=c∧c<=9223372036854775807∧aD w A k ls∧dN s ls (vM z)∧(0<k->∀y,A=some y->S y.block)
 | n+1,w,v,f=>∃B c,v=bE false none 0 0 B (kids f).len c∧(kids f).len<=c∧c<=9223372036854775807∧RowK S (fun i u=>aO S n w u ((kids f).co i)) w B (kids f).len
def Kid.imp {P Q:Value->Prop} {b o:Nat}(h:Kid P w b o i) (hc:∀j,w'.cell? ⟨b,j,none⟩=w.cell? ⟨b,j,none⟩) (hp:∀v,P v->Q v):Kid Q w' b o i:=by
 obtain ⟨s,A,k,c,B,m,d,h1,h2,h3,h4⟩:=h;exact ⟨s,A,k,c,B,m,d,(hc _).trans h1,(hc _).trans h2,(hc _).trans h3,hp _ h4⟩
def RowK.imp {Q:Nat->Value->Prop} (h:RowK S P w A m) (hs:∀b,S b->T b) (hz:w.heap.size<=w'.heap.size) (hc:∀b j,S b->b<w.heap.size->w'.cell? ⟨b,j,none⟩=w.cell? ⟨b,j,none⟩) (hp:∀i v,i<m->P i v->Q i v):RowK T Q w' A m:=fun hm=>by
 obtain ⟨b,o,e,hb,hl,hk⟩:=h hm;exact ⟨b,o,e,hs b hb,iE hl hz,fun i hi=>(hk i hi).imp (fun j=>hc b j hb hl) fun v=>hp i v hi⟩
def aO.only {Q:Nat->Prop} (ho:Only Q w w') (hq:∀b,S b->¬Q b) (hs:∀b,S b->T b):∀{n:Nat} {v:Value} {f:Pn n},aO S n w v f->aO T n w' v f
 | 0,v,z,h=>by
   obtain ⟨s,A,k,c,ls,h1,h2,h3,h4,h5,h6⟩:=h;exact ⟨s,A,k,c,ls,h1,h2,h3,lZ h4 ho fun h0 y hy=>hq _ (h6 h0 y hy),h5,fun h0 y hy=>hs _ (h6 h0 y hy)⟩
 | n+1,v,f,h=>by
   obtain ⟨B,c,h1,h2,h3,h4⟩:=h;exact ⟨B,c,h1,h2,h3,h4.imp hs ho.size (fun b j hb hl=>ho.cell (p:=⟨b,j,none⟩) hl (hq b hb)) fun i v _ hv=>aO.only ho hq hs hv⟩
def aO.mono {v:Value} {f:Pn n}(h:aO S n w v f) (hs:∀b,S b->T b):aO T n w v f:=h.only (Only.refl (fun _=>False) w) (fun _ _ h=>h) hs
def aO.here:∀{n:Nat} {v:Value} {f:Pn n},aO S n w v f->aO (fun b=>S b∧b<w.heap.size) n w v f
 | 0,v,z,h=>by
   obtain ⟨s,A,k,c,ls,h1,h2,h3,h4,h5,h6⟩:=h;refine ⟨s,A,k,c,ls,h1,h2,h3,h4,h5,fun h0 y hy=>⟨h6 h0 y hy,?_⟩⟩;obtain ⟨b,o,e,hb,_⟩:=h4.at_ h0;rw [e] at hy;injection hy with hy
   rw [<- hy];exact hb
 | n+1,v,f,h=>by
   obtain ⟨B,c,h1,h2,h3,h4⟩:=h;refine ⟨B,c,h1,h2,h3,fun hm=> ?_⟩;obtain ⟨b,o,e,hb,hl,hk⟩:=h4 hm;exact ⟨b,o,e,⟨hb,hl⟩,hl,fun i hi=>(hk i hi).imp (fun _=>rfl) fun v hv=>aO.here hv⟩
def aO.aC {v:Value} {f:Pn n}(h:aO S n w v f) (hb:Below w.heap.size w w'):aO S n w' v f:=
 h.here.only (Only.bZ hb) (fun b nI hq=>by have:=nI.2;omega) fun b nI=>nI.1
def aO.num {s:Bool} {c:Nat} {ls:List Int} {z:Pn 0}(h1:k<=c) (h2:c<=9223372036854775807) (h3:aD w A k ls) (h4:dN s ls (vM z)) (h5:0<k->∀y,A=some y->S y.block):aO S 0 w (bE s A k c none 0 0) z:=⟨s,A,k,c,ls,rfl,h1,h2,h3,h4,h5⟩
def aO.nought (S:Nat->Prop) (w:World):∀n:Nat,aO S n w (bE false none 0 0 none 0 0) (0:Pn n)
 | 0=>⟨false,none,0,0,[],rfl,aL,by omega,⟨rfl,fun h=>absurd h (by omega),fun i=>by show 0<=nth [] i∧nth [] i<18446744073709551616;rw [bw (by simp)];omega⟩,⟨⟨fun i=>by show 0<=nth [] i∧nth [] i<18446744073709551616;rw [bw (by simp)];omega,fun h=>absurd h (by simp)⟩,rfl,fun h=>by cases h⟩,fun h=>absurd h (by omega)⟩
 | n+1=>by
   have e:(kids (0:Pn (n+1))).len=0:=by rw [LD];exact Poly.gI
   refine ⟨none,0,?_,by rw [e];exact aL,by omega,fun h=>absurd h (by omega)⟩;rw [e]
def bW (S:Nat->Prop) (w:World) (n:Nat) (f:Pn n) (e:Ending) (w':World):Prop:=
 ∃s A k c B m d,e=.returned (bE s A k c B m d)∧aO (fun b=>S b∨w.heap.size<=b) n w' (bE s A k c B m d) f∧Below w.heap.size w w'
def aO.shape:∀{n:Nat} {v:Value} {f:Pn n},aO S n w v f->∃s A k c B m d,v=bE s A k c B m d
 | 0,_,_,⟨s,A,k,c,_,h,_⟩=>⟨s,A,k,c,none,0,0,h⟩
 | _+1,_,_,⟨B,c,h,_⟩=>⟨false,none,0,0,B,_,c,h⟩
def RowK.aC {g:Nat->Pn n} (h:RowK S (fun i u=>aO S n w u (g i)) w A m) (hb:Below w.heap.size w w'):RowK S (fun i u=>aO S n w' u (g i)) w' A m:=
 h.imp (fun _ h=>h) hb.size (fun b j _ hl=>hb.cell (p:=⟨b,j,none⟩) hl) fun _ _ _ hv=>hv.aC hb
def RowK.le (h:RowK S P w A m) (hk:k<=m):RowK S P w A k:=fun h0=>by
 obtain ⟨b,o,e,hb,hl,Gc⟩:=h (by omega);exact ⟨b,o,e,hb,hl,fun i hi=>Gc i (by omega)⟩
structure KE where
 s:Bool
 A:Option Addr
 k:Nat
 c:Nat
 B:Option Addr
 m:Nat
 d:Nat
def KE.v (e:KE):Value:=bE e.s e.A e.k e.c e.B e.m e.d
def xX (e:KE):List Value:=[.bool e.s,.slice e.A e.k e.c,.slice e.B e.m e.d]
def iL (L:List KE):List Value:=L.flatMap xX
def oF (x:KE) (L:List KE):iL (x::L)=xX x++iL L:=by simp [iL]
def Fh (L:List KE) (x:KE):iL (L++[x])=iL L++xX x:=by simp [iL,Lt]
def pz (L:List KE):(iL L).length=L.length*3:=by
 induction L with
 | nil=>rfl
 | cons x L ih=>rw [oF,eC,ih,rL];show 3+_=_;omega
def vg:∀{L:List KE} {i:Nat}(h:i<L.length),(iL L)[i*3]? =some (.bool (L[i]).s)∧(iL L)[i*3+1]? =some (.slice (L[i]).A (L[i]).k (L[i]).c)∧(iL L)[i*3+2]? =some (.slice (L[i]).B (L[i]).m (L[i]).d)
 | x::L,0,_=>by rw [oF];exact ⟨rfl,rfl,rfl⟩
 | x::L,i+1,h=>by
   have ih:=vg (L:=L) (i:=i) (FI h);rw [oF];have hl:(xX x).length=3:=rfl;rw [DL (by rw [hl];omega),DL (by rw [hl];omega),DL (by rw [hl];omega),hl,show (i+1)*3-3=i*3 by omega,show (i+1)*3+1-3=i*3+1 by omega,show (i+1)*3+2-3=i*3+2 by omega];exact ih
def ki {sz:Nat} {v:Value} {xs:List Value}(h:w.ownsRow base e sz v n xs) (ho:Only S w w') (hv:∀k,v.ownBlock=some k->¬S k):w'.ownsRow base e sz v n xs:=by
 refine ⟨h.1,?_⟩;rcases h.2 with hn | ⟨g,cap,cur,hvv,hg,hh,hc,hmx,abl⟩
 . exact .inl hn
 . refine .inr ⟨g,cap,cur,hvv,hg,?_,hc,hmx,abl⟩
   have hlt:=(jm.1 hh).1;rw [ho.block g hlt (hv g (by rw [hvv];rfl))];exact hh
structure j6 (T:TypeId) (S X:Nat->Prop) (w0:World) (H:Nat) (wr:World) (n:Nat) (v:Value) (E:List KE) (g:Nat->Pn n):Prop where
 lo:w0.heap.size<=H
 own:wr.ownsRow H T 3 v E.length (iL E)
 ok:∀i (h:i<E.length),aO (fun b=>(S b∨w0.heap.size<=b)∧v.ownBlock≠some b∧¬X b) n wr (E[i]).v (g i)
 aC:Below w0.heap.size w0 wr
section
variable {T : TypeId} {S X : Nat -> Prop} {w0 wr wt : World} {H n : Nat} {v : Value} {E : List KE} {g : Nat -> Pn n}
def j6.start (T:TypeId) (S X:Nat->Prop) (g:Nat->Pn n) (h:Below w0.heap.size w0 wr) (hH:w0.heap.size<=H):j6 T S X w0 H wr n (.slice none 0 0) [] g:=
 ⟨hH,nv _ _ _ _,fun i h=>absurd h (rK i),h⟩
def j6.jX (h:j6 T S X w0 H wr n v E g) (hb:Below wr.heap.size wr wt):j6 T S X w0 H wt n v E g:=
 ⟨h.lo,ki h.own (Only.bZ hb) fun k hk hq=>by have:=(h.own.lt k hk).2;omega,fun i hi=>(h.ok i hi).aC hb,h.aC.tm hb⟩
def j6.box (h:j6 T S X w0 H wr n v E g) (ho:Only X wr wt) (hX:∀b,X b->w0.heap.size<=b∧b<H):j6 T S X w0 H wt n v E g:=
 ⟨h.lo,ki h.own ho fun k hk hq=>by have h1:=(hX k hq).2;have h2:=(h.own.lt k hk).1;omega,fun i hi=>(h.ok i hi).only ho (fun b hb hq=>hb.2.2 hq) fun b hb=>hb,h.aC.trans (ho.below h.aC.size fun b hb=>(hX b hb).1)⟩
def j6.next {w2 w3:World} {gg cap H2:Nat} {x:KE} {o:Obj}(h:j6 T S X w0 H wr n v E g) (hS:∀b,S b->b<w0.heap.size) (hX:∀b,X b->w0.heap.size<=b∧b<wr.heap.size) (cN:Below wr.heap.size wr w2) (hx:aO (fun b=>S b∨wr.heap.size<=b) n w2 x.v (g E.length))
 (aa:w3.ownsRow H T 3 (.slice (some ⟨gg,0,none⟩) (E.length+1) cap) (E.length+1) (iL E++xX x)) (rD:(w2.alloc o).grownBy w3 v.ownBlock) (gZ:v.ownBlock=some gg∨gg=H2) (hH:H2=w2.heap.size+1):j6 T S X w0 H w3 n (.slice (some ⟨gg,0,none⟩) (E.length+1) cap) (E++[x]) g:=by
 subst hH;have tV:∀k,v.ownBlock=some k->H<=k∧k<wr.heap.size:=fun k hk=>h.own.lt k hk;have Fl:=h.lo;have vH:=cN.size;have b3:Below w2.heap.size w2 (w2.alloc o):=aU.alloc aL _;have o3:Only (fun k=>v.ownBlock=some k) (w2.alloc o) w3:=(Only.fK rD).mono (fun i hi=>by first | exact hi | exact hi.symm);have hgg:∀b,v.ownBlock≠some b->b<w2.heap.size->(Value.slice (some ⟨gg,0,none⟩) (E.length+1) cap).ownBlock≠some b:=fun b h1 h2 e=>by
  have e2:gg=b:=by injection e
  rcases gZ with h3 | h3
  . exact h1 (by rw [h3,e2])
  . omega
 have all:∀{S':Nat->Prop} {u:Value} {f:Pn n},aO S' n w2 u f->(∀b,S' b->b<w2.heap.size->(S b∨w0.heap.size<=b)∧v.ownBlock≠some b∧¬X b)->aO (fun b=>(S b∨w0.heap.size<=b)∧(Value.slice (some ⟨gg,0,none⟩) (E.length+1) cap).ownBlock≠some b∧¬X b) n w3 u f:=fun {S' u f} hu hq=>by
  have h1:=hu.here;have h2:=h1.aC b3;exact h2.only o3 (fun b hb hk=>(hq b hb.1 hb.2).2.1 hk) fun b hb=>⟨(hq b hb.1 hb.2).1,hgg b (hq b hb.1 hb.2).2.1 hb.2,(hq b hb.1 hb.2).2.2⟩
 refine ⟨Fl,by rw [eC,Fh];exact aa,fun i hi=> ?_,?_⟩
 . rw [eC] at hi
   rcases pT i E.length with hl | hl
   . have e:(E++[x])[i]'(by rw [eC];exact hi)=E[i]:=Up hl
     rw [e];exact all ((h.ok i hl).aC cN) fun b hb _=>hb
   . have yz:i=E.length:=by
      have:[x].length=1:=rfl;omega
     subst yz;(have e:(E++[x])[E.length]'(by rw [eC];exact hi)=x:=by simp);rw [e];refine all hx fun b hb hlt=> ?_;rcases hb with hb | hb
     . have:=hS b hb
       exact ⟨.inl hb,fun e2=>by have:=tV b e2;omega,fun e2=>by have:=hX b e2;omega⟩
     . have:=h.aC.size
       exact ⟨.inr (by omega),fun e2=>by have:=tV b e2;omega,fun e2=>by have:=hX b e2;omega⟩
 . have ux:Below w0.heap.size w0 w2:=h.aC.tm cN
   exact (ux.alloc ux.size o).grown rD (by have:=ux.size;simp;omega) (fun k hk=>aG Fl (tV k hk).1)
def j6.row (h:j6 T S X w0 H wr n v E g) (hX:∀b,X b->b<H):∃B d,v=.slice B E.length d∧E.length<=d∧d<=9223372036854775807∧RowK (fun b=>(S b∨w0.heap.size<=b)∧¬X b) (fun i u=>aO (fun b=>(S b∨w0.heap.size<=b)∧¬X b) n wr u (g i)) wr B E.length:=by
 rcases h.own.2 with ⟨hv,h0⟩ | ⟨gg,cap,cur,hv,hg,hh,hc,hmx,abl⟩
 . rw [h0]
   exact ⟨none,0,hv,aL,by omega,fun hm=>absurd hm (by omega)⟩
 . refine ⟨_,cap,hv,by omega,by (have:maxLen<=9223372036854775807:=by unfold maxLen;omega);omega,fun h0=>⟨gg,0,rfl,⟨.inr (aG h.lo hg),fun e=>by have:=hX _ e;omega⟩,(jm.1 hh).1,fun i hi=> ?_⟩⟩
   have hk:=(h.ok i hi).mono (T:=fun b=>(S b∨w0.heap.size<=b)∧¬X b) fun b hb=>⟨hb.1,hb.2.2⟩;have ho:=h.own;subst hv;obtain ⟨t0,t1,t2⟩:=vg hi;have c0:=ho.cells (g:=gg) rfl (i*3) _ t0;have c1:=ho.cells (g:=gg) rfl (i*3+1) _ t1;have c2:=ho.cells (g:=gg) rfl (i*3+2) _ t2;rw [j5] at c0 c1 c2;exact ⟨_,_,_,_,_,_,_,c0,c1,c2,hk⟩
end
def Io:∀(L:List KE) (i:Nat) (x:KE),i<L.length->iL (L.set i x)=(((iL L).set (i*3) (.bool x.s)).set (i*3+1) (.slice x.A x.k x.c)).set (i*3+2) (.slice x.B x.m x.d)
 | [],i,x,h=>absurd h (rK i)
 | y::L,0,x,_=>rfl
 | y::L,i+1,x,h=>by
   have ih:=Io L i x (FI h);rw [Jj,oF,oF,ih,show (i+1)*3=i*3+1+1+1 by omega];rfl
def KE.nought:KE:=⟨false,none,0,0,none,0,0⟩
def Ip (m:Nat):iL (List.replicate m KE.nought)=(List.replicate m [Value.bool false,.slice none 0 0,.slice none 0 0]).flatten:=by
 induction m with
 | zero=>rfl
 | succ m ih=>rw [Qv,oF,ih,Qv,List.flatten_cons];rfl
def vT {size:Nat} {g cap:Nat} {xs:List Value}(h:w.ownsRow base e size (.slice (some ⟨g,0,none⟩) n cap) n xs) (j:Nat) (u:Value):(w.setCell ⟨g,j,none⟩ u).ownsRow base e size (.slice (some ⟨g,0,none⟩) n cap) n (xs.set j u):=by
 refine ⟨by rw [fW];exact h.1,?_⟩;rcases h.2 with h2 | ⟨g',cap',cur,hv,h1,h2,h3,h4,h5,h6⟩
 . exact absurd h2.1 (by intro e;injection e with e;injection e)
 . have hv':=hv
   injection hv with e1 e2 e3
   injection e1 with e1
   injection e1 with e1
   subst e1;refine .inr ⟨g,cap',cur.setIfInBounds j u,hv',h1,?_,h3,h4,?_,?_⟩
   . simp [World.setCell,wR,h2]
   . rw [Ji];exact h5
   . rw [Array.toList_setIfInBounds,List.take_set,h6]
def j6.put {T:TypeId} {X:Nat->Prop} {w0 wr:World} {H gg cap:Nat} {E:List KE} {g:Nat->Pn n}(h:j6 T S X w0 H wr n (.slice (some ⟨gg,0,none⟩) E.length cap) E g) (hH:w0.heap.size<=gg) (i:Nat) (hi:i<E.length) (x:KE) (f:Pn n)
 (hx:aO (fun b=>(S b∨w0.heap.size<=b)∧(Value.slice (some ⟨gg,0,none⟩) E.length cap).ownBlock≠some b∧¬X b) n wr x.v f):
 j6 T S X w0 H (((wr.setCell ⟨gg,i*3,none⟩ (.bool x.s)).setCell ⟨gg,i*3+1,none⟩ (.slice x.A x.k x.c)).setCell ⟨gg,i*3+2,none⟩ (.slice x.B x.m x.d)) n (.slice (some ⟨gg,0,none⟩) E.length cap) (E.set i x) (fun j=>if j=i then f else g j):=by
 have ho:Only (fun b=>b=gg) wr (((wr.setCell ⟨gg,i*3,none⟩ (.bool x.s)).setCell ⟨gg,i*3+1,none⟩ (.slice x.A x.k x.c)).setCell ⟨gg,i*3+2,none⟩ (.slice x.B x.m x.d)):=
  (((Only.refl (fun b=>b=gg) wr).setCell (p:=⟨gg,i*3,none⟩) rfl _).setCell (p:=⟨gg,i*3+1,none⟩) rfl _).setCell (p:=⟨gg,i*3+2,none⟩) rfl _
 have keep:∀{u:Value} {k:Pn n},aO (fun b=>(S b∨w0.heap.size<=b)∧(Value.slice (some ⟨gg,0,none⟩) E.length cap).ownBlock≠some b∧¬X b) n wr u k->aO (fun b=>(S b∨w0.heap.size<=b)∧(Value.slice (some ⟨gg,0,none⟩) E.length cap).ownBlock≠some b∧¬X b) n (((wr.setCell ⟨gg,i*3,none⟩ (.bool x.s)).setCell ⟨gg,i*3+1,none⟩ (.slice x.A x.k x.c)).setCell ⟨gg,i*3+2,none⟩ (.slice x.B x.m x.d)) u k:=fun hk=>
  hk.only ho (fun b hb e=>hb.2.1 (by rw [e];rfl)) fun b hb=>hb
 refine ⟨h.lo,?_,fun j hj=> ?_,h.aC.trans (ho.below h.aC.size fun b hb=>by omega)⟩
 . rw [fW,Io E i x hi]
   exact vT (vT (vT h.own _ _) _ _) _ _
 . rw [fW] at hj
   by_cases e:j=i
   . subst e
     rw [adG,aM rfl];exact keep hx
   . rw [Uo (fun h=>e h.symm),aY e]
     exact keep (h.ok j hj)
def v32:List Int->Nat
 | []=>0
 | d::ds=>d.toNat+4294967296*v32 ds
def fZ (ds:List Int):Prop:=∀i,0<=nth ds i∧nth ds i<4294967296
def fZ.lm (h:fZ ds):aQ ds:=fun i=>by have:=h i;omega
def fZ.take (h:fZ xs) (k:Nat):fZ (xs.take k):=fun i=>by
 by_cases hi:i<k
 . rw [nK hi];exact h i
 . rw [bw (by simp;omega)];omega
def fZ.nil:fZ []:=fun i=>by rw [bw (by simp)];omega
def fZ.cons {d:Int} (h:fZ ds) (h0:0<=d) (h1:d<4294967296):fZ (d::ds):=fun i=>by
 match i with
 | 0=>exact ⟨h0,h1⟩
 | i+1=>rw [J8];exact h i
def fZ.snoc (h:fZ xs) (h0:0<=x) (h1:x<4294967296):fZ (xs++[x]):=fun i=>by
 by_cases hi:i<xs.length
 . rw [nN hi];exact h i
 . rw [nO (by omega)]
   by_cases e:i-xs.length=0
   . rw [e];exact ⟨h0,h1⟩
   . rw [bw (by simp;omega)];omega
def fZ.set (h:fZ xs) (i:Nat) {v:Int}(h0:0<=v) (h1:v<4294967296):fZ (xs.set i v):=fun j=>by
 by_cases hi:i<xs.length
 . rw [gK hi]
   split
   . exact ⟨h0,h1⟩
   . exact h j
 . rw [WV (by omega)];exact h j
def fZ.rep (n:Nat):fZ (List.replicate n 0):=fun i=>by
 unfold nth;rw [adF,adE];split<;>simp
def Gp (xs ys:List Int):v32 (xs++ys)=v32 xs+4294967296^xs.length*v32 ys:=by
 induction xs with
 | nil=>simp [v32]
 | cons x xs ih=>
   show x.toNat+4294967296*v32 (xs++ys)=x.toNat+4294967296*v32 xs+4294967296^(xs.length+1)*v32 ys;rw [ih,kY,ak,aq (4294967296^xs.length) 4294967296,dA];omega
def Am (xs:List Int) (x:Int):v32 (xs++[x])=v32 xs+4294967296^xs.length*x.toNat:=by
 rw [Gp];show _+_*(x.toNat+4294967296*0)=_;rw [jZ,ja]
def dV (xs:List Int) (k:Nat):v32 (xs.take (k+1))=v32 (xs.take k)+4294967296^k*(nth xs k).toNat:=by
 by_cases h:k<xs.length
 . have e:xs.take (k+1)=xs.take k++[nth xs k]:=by rw [fV h];exact kG h
   rw [e,Am,cQ,oz (by omega)]
 . rw [iC (i:=k+1) (by omega),iC (i:=k) (by omega),bw (by omega)]
   show _=_+_*0;rw [jZ,ja]
def eE (h:xs.length<=n):v32 (xs.take n)=v32 xs:=by rw [iC h]
def qH (h:fZ xs):∀k,v32 (xs.take k)<4294967296^k
 | 0=>by show 0<1;omega
 | k+1=>by
   have ih:=qH h k;have h1:=h k;rw [dV,kY];have h2:4294967296^k*(nth xs k).toNat<=4294967296^k*4294967295:=bn _ (by omega);generalize 4294967296^k=P at*
   omega
def Rk (h:fZ xs):v32 xs<4294967296^xs.length:=by
 have:=qH h xs.length;rwa [eE aL] at this
def ME {xs:List Int} {i:Nat}(hi:i<xs.length) (v:Int):v32 (xs.set i v)+4294967296^i*(nth xs i).toNat=v32 xs+4294967296^i*v.toNat:=by
 induction xs generalizing i with
 | nil=>exact absurd hi (by simp)
 | cons x xs ih=>
   match i with
   | 0=>
     show v.toNat+4294967296*v32 xs+4294967296^0*x.toNat=x.toNat+4294967296*v32 xs+4294967296^0*v.toNat
     rw [wQ];omega
   | i+1=>
     have h1:=ih (i:=i) (by simpa using hi);show x.toNat+4294967296*v32 (xs.set i v)+4294967296^(i+1)*(nth xs i).toNat=x.toNat+4294967296*v32 xs+4294967296^(i+1)*v.toNat
     rw [kY,aq (4294967296^i) 4294967296,dA,dA];(have h2:4294967296*(v32 (xs.set i v)+4294967296^i*(nth xs i).toNat)=4294967296*(v32 xs+4294967296^i*v.toNat):=by rw [h1]);rw [ak,ak] at h2;omega
def U9 (n:Nat):v32 (List.replicate n 0)=0:=by
 induction n with
 | zero=>rfl
 | succ n ih=>rw [Qv];show (0:Int).toNat+4294967296*v32 _=0;rw [ih];rfl
def Qd:List Int->List Int
 | []=> []
 | x::xs=>x % 4294967296::x / 4294967296::Qd xs
def JB:∀xs ys:List Int,Qd (xs++ys)=Qd xs++Qd ys
 | [],_=>rfl
 | x::xs,ys=>by show _::_::Qd (xs++ys)=_;rw [JB xs ys];rfl
def acw:∀{xs:List Int},aQ xs->fZ (Qd xs)
 | [],_=>fZ.nil
 | x::xs,h=>by
   have h1:=h 0;rw [nL] at h1;exact ((acw h.tail).cons (d:=x / 4294967296) (by omega) (by omega)).cons (by omega) (by omega)
def VA:∀{xs:List Int},aQ xs->v32 (Qd xs)=limbs xs
 | [],_=>rfl
 | x::xs,h=>by
   have h1:=h 0;rw [nL] at h1;show (x % 4294967296).toNat+4294967296*((x / 4294967296).toNat+4294967296*v32 (Qd xs))=x.toNat+2^64*limbs xs;rw [VA h.tail];omega
def KQ (h:k<xs.length):Qd (xs.take (k+1))=Qd (xs.take k)++[nth xs k % 4294967296,nth xs k / 4294967296]:=by
 have e:xs.take (k+1)=xs.take k++[nth xs k]:=by rw [fV h];exact kG h
 rw [e,JB];rfl
structure Y9 (ds:List Int):Prop where
 ok:fZ ds
 top:0<ds.length->nth ds (ds.length-1)≠0
def aez {n:Nat}(hn:n<=xs.length):v32 (xs.take (cU xs n))=v32 (xs.take n):=by
 induction n with
 | zero=>rfl
 | succ n ih=>
   unfold cU;by_cases h:nth xs n=0
   . rw [uf h,dV,h]
     show _=_+_*0;rw [jZ,ja];exact ih (by omega)
   . rw [ue h]
def II (h:fZ xs) (hn:xs.length=n):Y9 (xs.take (cU xs n))∧v32 (xs.take (cU xs n))=v32 xs:=by
 have h1:=cS xs n;refine ⟨⟨h.take _,fun h0=> ?_⟩,by rw [aez (by omega),eE (by omega)]⟩;rw [cQ,oz (by omega)] at h0 ⊢;rw [nK (by omega)];exact O6 h0
def Y9.low (h:Y9 xs) (hl:0<xs.length):4294967296^(xs.length-1)<=v32 xs:=by
 obtain ⟨k,hk⟩:∃k,xs.length=k+1:=⟨xs.length-1,by omega⟩;have h1:=h.top hl;have h2:=h.ok k;rw [hk,DK] at h1 ⊢;rw [<- eE (n:=k+1) (by omega),dV];have h3:1<=(nth xs k).toNat:=by omega
 have h4:4294967296^k*1<=4294967296^k*(nth xs k).toNat:=bn _ h3;omega
def Y9.kN {xs:List Int}(h:Y9 xs):v32 xs=0↔xs.length=0:=by
 constructor
 . intro h0
   rcases jM xs.length with h1 | h1
   . exact h1
   . have:=h.low h1
     have:=iN (n:=xs.length-1) (show 0<4294967296 by omega);omega
 . intro h0
   rw [lK h0];rfl
def Y9.bV {xs ys:List Int}(hx:Y9 xs) (hy:Y9 ys) (h:v32 ys<=v32 xs):ys.length<=xs.length:=by
 rcases pT xs.length ys.length with hl | hl
 . exfalso
   have h1:=hy.low (by omega);have h2:=Rk hx.ok;have h3:4294967296^xs.length<=4294967296^(ys.length-1):=fP (by omega) (by omega);omega
 . exact hl
def OS (hx:fZ xs) (_hy:fZ ys) (hk:nth xs k<nth ys k) {M:Nat}(h:∀j,k<j->j<M->nth xs j=nth ys j) (hkM:k<M) (h1:xs.length<=M) (h2:ys.length<=M):v32 xs<v32 ys:=by
 rw [<- eE h1,<- eE h2];clear h1 h2;induction M with
 | zero=>omega
 | succ M ih=>
   rw [dV,dV];by_cases e:k=M
   . subst e
     have a1:=qH hx k;have a2:=hx k;have a3:4294967296^k*((nth xs k).toNat+1)<=4294967296^k*(nth ys k).toNat:=bn _ (by omega);rw [ak] at a3;omega
   . have:=ih (fun j h1 h2=>h j h1 (by omega)) (by omega)
     rw [h M (by omega) (by omega)];omega
def ZL {M:Nat}(h:∀j,j<M->nth xs j=nth ys j) (h1:xs.length<=M) (h2:ys.length<=M):v32 xs=v32 ys:=by
 rw [<- eE h1,<- eE h2];clear h1 h2;induction M with
 | zero=>rfl
 | succ M ih=>rw [dV,dV,ih (fun j hj=>h j (by omega)),h M (by omega)]
def MF (f:Nat->Nat->Nat×Nat) (n:Nat):v32 (ah f (n+1)).1=v32 (ah f n).1+4294967296^n*(f n (ah f n).2).1:=by
 show v32 ((ah f n).1++[_])=_;rw [Am,cn,jc]
def DB {f:Nat->Nat->Nat×Nat}(h:∀k c,(f k c).1<4294967296):∀n,fZ (ah f n).1
 | 0=>fZ.nil
 | n+1=>by
   have:=h n (ah f n).2;show fZ ((ah f n).1++[((f n (ah f n).2).1:Int)]);exact (DB h n).snoc (by omega) (by omega)
def od (a b:List Int) (k c:Nat):Nat×Nat:=(((nth a k).toNat+(nth b k).toNat+c) % 4294967296,((nth a k).toNat+(nth b k).toNat+c) / 4294967296)
def ahk (a b:List Int) (k c:Nat):(od a b k c).1<4294967296:=jy _ (by omega)
def JO (ha:fZ a) (hb:fZ b):∀n,(ah (od a b) n).2<=1∧v32 (ah (od a b) n).1+4294967296^n*(ah (od a b) n).2=v32 (a.take n)+v32 (b.take n)
 | 0=>⟨by show 0<=1;omega,by simp [ah,v32]⟩
 | n+1=>by
   obtain ⟨h1,h2⟩:=JO ha hb n;have a1:=ha n;have b1:=hb n;rw [MF,dV,dV,kY];show (od a b n (ah (od a b) n).2).2<=1∧_+_*(od a b n (ah (od a b) n).2).1+_*(od a b n (ah (od a b) n).2).2=_;generalize (ah (od a b) n).2=c at*
   generalize v32 (ah (od a b) n).1=L at*
   unfold od;generalize hs:(nth a n).toNat+(nth b n).toNat+c=s;have hd:=su s 4294967296;show s / 4294967296<=1∧_+_*(s % 4294967296)+_*(s / 4294967296)=_;refine ⟨by omega,?_⟩;generalize 4294967296^n=P at*
   have h3:P*(s % 4294967296)+P*4294967296*(s / 4294967296)=P*s:=by
    rw [dA,<- ak];congr 1;omega
   have h4:P*s=P*(nth a n).toNat+P*(nth b n).toNat+P*c:=by rw [<- hs,ak,ak]
   omega
def Tt (ha:fZ a) (hb:fZ b) {M:Nat}(h1:a.length<=M) (h2:b.length<=M):v32 (ah (od a b) (M+1)).1=v32 a+v32 b:=by
 obtain ⟨h3,h4⟩:=JO ha hb M;rw [eE h1,eE h2] at h4;have e:(od a b M (ah (od a b) M).2).1=(ah (od a b) M).2:=by
  show ((nth a M).toNat+(nth b M).toNat+_) % 4294967296=_;rw [bw h1,bw h2];show (0+0+_) % 4294967296=_;rw [bh,Fz (by omega)]
 rw [MF,e,<- h4]
def oq (a b:List Int) (k c:Nat):Nat×Nat:=(((nth a k).toNat+4294967296-(nth b k).toNat-c) % 4294967296,1-((nth a k).toNat+4294967296-(nth b k).toNat-c) / 4294967296)
def Vp (a b:List Int) (k c:Nat):(oq a b k c).1<4294967296:=jy _ (by omega)
def Ij (ha:fZ a) (hb:fZ b):∀n,(ah (oq a b) n).2<=1∧v32 (ah (oq a b) n).1+v32 (b.take n)=v32 (a.take n)+4294967296^n*(ah (oq a b) n).2
 | 0=>⟨by show 0<=1;omega,by simp [ah,v32]⟩
 | n+1=>by
   obtain ⟨h1,h2⟩:=Ij ha hb n;have a1:=ha n;have b1:=hb n;rw [MF,dV,dV,kY];show (oq a b n (ah (oq a b) n).2).2<=1∧_+_*(oq a b n (ah (oq a b) n).2).1+_=_+_*(oq a b n (ah (oq a b) n).2).2;generalize (ah (oq a b) n).2=c at*
   generalize v32 (ah (oq a b) n).1=L at*
   unfold oq;generalize hx:(nth a n).toNat=x at*
   generalize hy:(nth b n).toNat=y at*
   generalize 4294967296^n=P at*
   obtain ⟨s,hs⟩:∃s,s=x+4294967296-y-c:=⟨_,rfl⟩;show 1-(x+4294967296-y-c) / 4294967296<=1∧_+P*((x+4294967296-y-c) % 4294967296)+_=_+P*4294967296*(1-(x+4294967296-y-c) / 4294967296);rw [<- hs];refine ⟨by omega,?_⟩;have e:s+y+c=x+4294967296:=by omega
   have h3:P*s+P*y+P*c=P*x+P*4294967296:=by
    rw [<- ak,<- ak,<- ak];congr 1
   have h5:s / 4294967296<=1:=by omega
   have h6:P*(s % 4294967296)+P*4294967296*(s / 4294967296)=P*s:=by
    rw [dA,<- ak];congr 1;omega
   rw [Nat.mul_sub];have h7:P*4294967296*(s / 4294967296)<=P*4294967296*1:=bn _ h5;omega
def Sc (ha:fZ a) (hb:fZ b) (h1:b.length<=a.length) (h2:v32 b<=v32 a):v32 (ah (oq a b) a.length).1=v32 a-v32 b:=by
 obtain ⟨h3,h4⟩:=Ij ha hb a.length;rw [eE h1,eE aL] at h4;have h5:=Rk (DB (Vp a b) a.length);rw [cn] at h5;generalize (ah (oq a b) a.length).2=c at*
 match c,h3 with
 | 0,_=>omega
 | 1,_=>omega
def Gv (k:Nat) (f:Nat->Int):tab (k+1) f=tab k f++[f k]:=by
 unfold tab;rw [AR,ij];rfl
def RP (ds:List Int) (k:Nat):Int:=nth ds (2*k)+nth ds (2*k+1)*4294967296
def Zt (h:fZ ds) (k:Nat):0<=RP ds k∧RP ds k<18446744073709551616:=by
 have h1:=h (2*k);have h2:=h (2*k+1);unfold RP;omega
def aoX (h:fZ ds) (k:Nat):aQ (tab k (RP ds)):=fun i=>by
 rw [afl];split
 . exact Zt h i
 . omega
def Zr (h:fZ ds):∀k,limbs (tab k (RP ds))=v32 (ds.take (2*k))
 | 0=>rfl
 | k+1=>by
   have h1:=h (2*k);have h2:=h (2*k+1);rw [Gv,vZ,Zr h k,Ro,show 2*(k+1)=2*k+1+1 by omega,dV,dV];have e:(2:Nat)^(64*k)=4294967296^(2*k):=by
    rw [show (4294967296:Nat)=2^32 by decide,<- uW];congr 1;omega
   rw [e,kY];generalize 4294967296^(2*k)=P;have e2:(RP ds k).toNat=(nth ds (2*k)).toNat+4294967296*(nth ds (2*k+1)).toNat:=by unfold RP;omega
   rw [e2,ak,dA];omega
def Zq (h:fZ ds) (hk:ds.length<=2*k):limbs (tab k (RP ds))=v32 ds:=by rw [Zr h,eE hk]
