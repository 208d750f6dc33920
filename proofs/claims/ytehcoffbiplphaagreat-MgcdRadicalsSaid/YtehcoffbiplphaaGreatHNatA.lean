import Derived.Test.YtehcoffbiplphaaGreatHLims
import Derived.Shelf.Spec.BitsCarry
import Derived.Test.YtehcoffbiplphaaGreatHMul64
set_option linter.all false
set_option maxHeartbeats 4000000
set_option maxRecDepth 100000
namespace Go.Proofs.YtehcoffbiplphaaGreat
open Go.Proofs.Tryz
open Go.RowKit
variable {xs ys:List Int} {P:Program} {w:World} {A:Option Addr} {n c a b k p h o:Nat}
def yq (x y c:Nat) (hc:c<=1) (w:World):(callFunc 123 #[.int .u64 (x:Int),.int .u64 (y:Int),.int .u64 (c:Int)]).run prog w=
 .ok (.value (.tuple #[.int .u64 (((x+y+c) % 18446744073709551616:Nat):Int),.int .u64 (((x+y+c) / 18446744073709551616:Nat):Int)])) w:=by
 rw [adf func123 (by kernel_rfl) (by kernel_rfl) (by kernel_rfl) (e:=add64Entry) (by kernel_rfl),run_add64 x y c (by omega) (by omega) (by omega) (by omega)];simp only [Result.andThen];congr 5<;>omega
def XH (x y b:Nat) (hb:b<=1) (w:World):(callFunc 127 #[.int .u64 (x:Int),.int .u64 (y:Int),.int .u64 (b:Int)]).run prog w=
 .ok (.value (.tuple #[.int .u64 (((x+18446744073709551616-y-b) % 18446744073709551616:Nat):Int),.int .u64 ((if x<y+b then 1 else 0:Nat):Int)])) w:=by
 rw [adf func127 (by kernel_rfl) (by kernel_rfl) (by kernel_rfl) (e:=sub64Entry) (by kernel_rfl),run_sub64 x y b hb];rfl
def IV (A:Option Addr) (n c:Nat) (xs:List Int) (k:Nat) (w:World) (hx:aD w A n xs) (hn:n<=9223372036854775807) (hk:k<=9223372036854775807):
 aB 124 #[.slice A n c,.int .i64 (k:Int)] w fun e w'=>e=.returned (.int .u64 (nth xs k))∧w=w':=by
 by_cases hlt:k<n
 . obtain ⟨b,o,rfl,hb,hc⟩:=hx.at_ (by omega)
   have h1:=hc k hlt;have dH:(k:Int)<(n:Int):=by omega
   have wT:(0:Int)<=(k:Int):=by omega
   clear hc hx;go_enter func124,ntmps124
   go_wp2
   go_ret;exact ⟨rfl,rfl⟩
 . have dH:¬(k:Int)<(n:Int):=by omega
   have hz:Hid (nth xs k=0):=bw (by rw [hx.len];omega);clear hx;go_enter func124,ntmps124
   go_wp2
   go_ret;rw [hz.o];exact ⟨rfl,rfl⟩
def aat (A B:Option Addr) (n m c d ga gb:Nat) (xs ys:List Int) (k q:Nat) (w:World) (ha:w.cell? ⟨ga,0,none⟩=some (.slice A n c)) (hb:w.cell? ⟨gb,0,none⟩=some (.slice B m d)) (hx:aD w A n xs) (hy:aD w B m ys)
 (hn:n<=9223372036854775807) (hm:m<=9223372036854775807) (hk:k<=9223372036854775807) (hq:q<=1):
 aB 122 #[.int .i64 (k:Int),.int .u64 (q:Int),.pointer (some ⟨ga,0,none⟩),.pointer (some ⟨gb,0,none⟩)] w fun e w'=>e=.returned (.tuple #[.int .u64 ((mA xs ys k q).1:Int),.int .u64 ((mA xs ys k q).2:Int)])∧∃j,w'=w.drewN j:=by
 have C1:=aA (fun W (h:aD W A n xs)=>IV A n c xs k W h hn hk);have C2:=aA (fun W (h:aD W B m ys)=>IV B m d ys k W h hm hk);have h1:=hx.ok k;have h2:=hy.ok k;obtain ⟨u,hu⟩:∃u:Nat,nth xs k=(u:Int):=⟨(nth xs k).toNat,by omega⟩;obtain ⟨v,hv⟩:∃v:Nat,nth ys k=(v:Int):=⟨(nth ys k).toNat,by omega⟩;have qa:∀W,(callFunc 123 #[.int .u64 (u:Int),.int .u64 (v:Int),.int .u64 (q:Int)]).run prog W=.ok (.value (.tuple #[.int .u64 ((mA xs ys k q).1:Int),.int .u64 ((mA xs ys k q).2:Int)])) W:=fun W=>by
  rw [yq u v q hq W];unfold mA;simp only [hu,hv,jc]
 rw [hu] at C1;rw [hv] at C2;generalize (mA xs ys k q).1=r1 at*
 generalize (mA xs ys k q).2=r2 at*
 have Hx:=aA hx;have Hy:=aA hy;clear hu hv h1 h2 hx hy;go_enter func122,ntmps122
 go_wp2_with fail
 go_quiet (first
  | ((go_at_call 124);(with_reducible show Calls _ _ #[.slice A n c,_] _ _);first | exact gG (C1.o _ (Hx.o.drewN _)) | exact jf (C1.o _ (Hx.o.drewN _)))
  | ((go_at_call 124);(with_reducible show Calls _ _ #[.slice B m d,_] _ _);first | exact gG (C2.o _ (Hy.o.drewN _)) | exact jf (C2.o _ (Hy.o.drewN _))))
 go_wp2_with fail
 go_ret2;exact ⟨rfl,_,rfl⟩
def aak (A B:Option Addr) (n m c d ga gb:Nat) (xs ys:List Int) (k q:Nat) (w:World) (ha:w.cell? ⟨ga,0,none⟩=some (.slice A n c)) (hb:w.cell? ⟨gb,0,none⟩=some (.slice B m d)) (hx:aD w A n xs) (hy:aD w B m ys)
 (hn:n<=9223372036854775807) (hm:m<=9223372036854775807) (hk:k<=9223372036854775807) (hq:q<=1):
 aB 126 #[.int .i64 (k:Int),.int .u64 (q:Int),.pointer (some ⟨ga,0,none⟩),.pointer (some ⟨gb,0,none⟩)] w fun e w'=>e=.returned (.tuple #[.int .u64 ((lS xs ys k q).1:Int),.int .u64 ((lS xs ys k q).2:Int)])∧∃j,w'=w.drewN j:=by
 have C1:=aA (fun W (h:aD W A n xs)=>IV A n c xs k W h hn hk);have C2:=aA (fun W (h:aD W B m ys)=>IV B m d ys k W h hm hk);have h1:=hx.ok k;have h2:=hy.ok k;obtain ⟨u,hu⟩:∃u:Nat,nth xs k=(u:Int):=⟨(nth xs k).toNat,by omega⟩;obtain ⟨v,hv⟩:∃v:Nat,nth ys k=(v:Int):=⟨(nth ys k).toNat,by omega⟩;have qa:∀W,(callFunc 127 #[.int .u64 (u:Int),.int .u64 (v:Int),.int .u64 (q:Int)]).run prog W=.ok (.value (.tuple #[.int .u64 ((lS xs ys k q).1:Int),.int .u64 ((lS xs ys k q).2:Int)])) W:=fun W=>by
  rw [XH u v q hq W];unfold lS;simp only [hu,hv,jc]
 rw [hu] at C1;rw [hv] at C2;generalize (lS xs ys k q).1=r1 at*
 generalize (lS xs ys k q).2=r2 at*
 have Hx:=aA hx;have Hy:=aA hy;clear hu hv h1 h2 hx hy;go_enter func126,ntmps126
 go_wp2_with fail
 go_quiet (first
  | ((go_at_call 124);(with_reducible show Calls _ _ #[.slice A n c,_] _ _);first | exact gG (C1.o _ (Hx.o.drewN _)) | exact jf (C1.o _ (Hx.o.drewN _)))
  | ((go_at_call 124);(with_reducible show Calls _ _ #[.slice B m d,_] _ _);first | exact gG (C2.o _ (Hy.o.drewN _)) | exact jf (C2.o _ (Hy.o.drewN _))))
 go_wp2_with fail
 go_ret2;exact ⟨rfl,_,rfl⟩
def qZ (C:FuncId) (hC:C=122∨C=126∨C=144∨C=142∨C=145) (p1 p2:Option Addr) (f:Nat->Nat->Nat×Nat) (n cb:Nat) (w:World) (hn:n<=17500000000000) (hfc:∀k,k<=n->(ah f k).2<cb)
 (hF:∀(k c:Nat) (W:World),k<n->c<cb->Below w.heap.size w W->aB C #[.int .i64 (k:Int),.int .u64 (c:Int),.pointer p1,.pointer p2] W fun e w'=>e=.returned (.tuple #[.int .u64 ((f k c).1:Int),.int .u64 ((f k c).2:Int)])∧∃j,w'=W.drewN j):
 aB 121 #[.int .i64 (n:Int),.func (.func C) #[] #[.pointer p1,.pointer p2]] w fun e w'=>e=.returned (.tuple #[.slice (some ⟨w.heap.size,0,none⟩) n n,.int .u64 ((ah f n).2:Int)])∧iJ w' w.heap.size 38 (ah f n).1∧Below w.heap.size w w':=by
 obtain ⟨i0,hi,jE,jD,jJ⟩:=eG fN;have KI:=iQ underlying39 hi jE jD jJ n (by omega) w;have HF:=aA hF;have Hfc:=aA hfc;have CH:Hid (iJ (w.alloc (.cells (bI (List.replicate n 0)).toArray 38)) w.heap.size 38 (GF f n 0)):=by
  show iJ _ _ _ _;rw [Xn];exact iJ.new w _ _
 have rF:Below w.heap.size w (w.alloc (.cells (bI (List.replicate n 0)).toArray 38)):=aU.alloc aL _;clear hF hfc;generalize (bI (List.replicate n 0)).toArray=cs at*
 rcases hC with rfl | rfl | rfl | rfl | rfl;all_goals
  go_enter func121,ntmps121
  go_wp2_with fail
  clear KI;go_loopw [7,13] (fun cv i wr=>∃k:Nat,k<=n∧cv=.int .u64 ((ah f k).2:Int)∧i=.int .i64 (k:Int)∧Hid (iJ wr w.heap.size 38 (GF f n k))∧Below w.heap.size w wr) (fun _ i _=>n-(intOf i).toNat)
  case atStart=>exact ⟨0,by omega,rfl,rfl,CH,rF⟩
  case round=>
   obtain ⟨k,hk,rfl,rfl,fM,bC⟩:=hrel;by_cases hlt:k<n
   . have dH:(k:Int)<(n:Int):=by omega
     (have wT:(0:Int)<=(k:Int):=by omega);have hc:=Hfc.o k hk;have C:=aA (HF.o k (ah f k).2 wr hlt hc bC);have e2:Hid ((ah f (k+1)).2=(f k (ah f k).2).2):=rfl;have ur:=fM.o.set k ((f k (ah f k).2).1:Int);rw [aaG f hlt] at ur;have yD:=aA ur;have EX:=fM.o.frozen k;have OI:=fM.o.cell (i:=k) (by rw [PY f hk];exact hlt);have hbs:=bC.setCell (p:=⟨w.heap.size,k,none⟩) aL (.int .u64 ((f k (ah f k).2).1:Int));clear ur;generalize hcc:(ah f k).2=q at*
     (go_wp2_with fail);refine C.o.mono ?_;rintro e w1 ⟨rfl,j,rfl⟩;have aKY:(wr.drewN j).frozen? ⟨w.heap.size,k,none⟩=false:=EX;have aLl:(wr.drewN j).cell? ⟨w.heap.size,k,none⟩=some (.int .u64 (nth (GF f n k) k)):=OI;(go_wp2_with fail);go_roundw
     case rel=>exact ⟨k+1,by omega,by rw [e2.o],by go_num,by first | exact yD | exact yD.o.drewN j,by first | exact hbs | exact below_drewN hbs _⟩
     case measure=>simp [intOf];omega
   . obtain rfl:k=n:=by omega
     (have dH:¬(k:Int)<(k:Int):=by omega);have hr:=fM.o;rw [Xo] at hr;have Hr:=aA hr;clear hr fM;(go_wp2_with fail);go_ret2;exact ⟨rfl,Hr.o,bC⟩
def qw (w:World) (xs:List Int) (e:Ending) (w':World):Prop:=
 ∃A n c,e=.returned (.slice A n c)∧n<=c∧c<=9223372036854775807∧aD w' A n xs∧(∀x,A=some x->w.heap.size<=x.block)∧Below w.heap.size w w'
def DD (xs ys:List Int):List Int:=
 let r:=ah (mA xs ys) (max xs.length ys.length)
 let z:=r.1++[(r.2:Int)]
 z.take (cU z (max xs.length ys.length+1))
def sF (hx:aQ xs) (hy:aQ ys):bY (DD xs ys)∧limbs (DD xs ys)=limbs xs+limbs ys∧(DD xs ys).length<=max xs.length ys.length+1:=by
 obtain ⟨h1,h2⟩:=DI hx hy (max xs.length ys.length);rw [fT (Lz _ _),fT (Lv _ _)] at h2;have hl:=cn (mA xs ys) (max xs.length ys.length);have oH:=rW (WT xs ys) (max xs.length ys.length);unfold DD;generalize ah (mA xs ys) (max xs.length ys.length)=r at*
 obtain ⟨u,v⟩:=r;simp only at h1 h2 hl oH ⊢;have hz:aQ (u++[(v:Int)]):=oH.snoc (by omega) (by omega);obtain ⟨p1,p2⟩:=bF hz (n:=max xs.length ys.length+1) (by rw [eC,hl];rfl);refine ⟨p1,by rw [p2,vZ,hl,jc,h2],?_⟩;have:=cS (u++[(v:Int)]) (max xs.length ys.length+1);rw [cQ];omega
def BH (w:World) (ts:Array TypeId) (t:TypeId) (k k':IntKind) (x y:Int):(Builtin.max_ ts t #[.int k x,.int k' y]).run P w=.ok (.int k (max x y)) w:=by
 rw [anc,show max x y=if y>x then y else x by split<;>omega]
section
attribute [-go_sem] run_max_int2
attribute [local go_sem] BH
def Bd (A B:Option Addr) (n m c d:Nat) (xs ys:List Int) (w:World) (hx:aD w A n xs) (hy:aD w B m ys) (hn:n<=8500000000000) (hm:m<=8500000000000):
 aB 87 #[.slice A n c,.slice B m d] w (qw w (DD xs ys)):=by
 obtain ⟨i0,hi,jE,jD,jJ⟩:=eG fN;have kR:=hx.len;have wM:=hy.len;obtain ⟨k,hk⟩:∃k:Nat,k=max n m:=⟨_,rfl⟩;have hk8:k<=8500000000000:=by omega
 have hval:=aA (DI hx.ok hy.ok k);have oH:=aA (rW (WT xs ys) k);have hlen:=aA (cn (mA xs ys) k);have KG:Hid (DD xs ys=((ah (mA xs ys) k).1++[((ah (mA xs ys) k).2:Int)]).take (cU ((ah (mA xs ys) k).1++[((ah (mA xs ys) k).2:Int)]) (k+1))):=by
  show _=_;unfold DD;rw [kR,wM,<- hk]
 have X8:Hid (bY (DD xs ys)):=(sF hx.ok hy.ok).1;have vk:Below w.heap.size w ((w.alloc (.cells #[.slice A n c] 39)).alloc (.cells #[.slice B m d] 39)):=(aU.alloc aL _).alloc (by simp) _;have ca:((w.alloc (.cells #[.slice A n c] 39)).alloc (.cells #[.slice B m d] 39)).cell? ⟨w.heap.size,0,none⟩=some (.slice A n c):=u9 _ _ _ _;have cb:((w.alloc (.cells #[.slice A n c] 39)).alloc (.cells #[.slice B m d] 39)).cell? ⟨w.heap.size+1,0,none⟩=some (.slice B m d):=vA _ _ _ _;have Hx:=aA (hx.aC vk);have Hy:=aA (hy.aC vk);have Wn:=aA ca;have Uy:=aA cb;have C:Hid (aB 121 #[.int .i64 (k:Int),.func (.func 122) #[] #[.pointer (some ⟨w.heap.size,0,none⟩),.pointer (some ⟨w.heap.size+1,0,none⟩)]] ((w.alloc (.cells #[.slice A n c] 39)).alloc (.cells #[.slice B m d] 39)) fun e w'=>e=.returned (.tuple #[.slice (some ⟨w.heap.size+1+1,0,none⟩) k k,.int .u64 ((ah (mA xs ys) k).2:Int)])∧iJ w' (w.heap.size+1+1) 38 (ah (mA xs ys) k).1∧Below (w.heap.size+1+1) ((w.alloc (.cells #[.slice A n c] 39)).alloc (.cells #[.slice B m d] 39)) w'):=by
  have h:=qZ _ (.inl rfl) (some ⟨w.heap.size,0,none⟩) (some ⟨w.heap.size+1,0,none⟩) (mA xs ys) k 2 ((w.alloc (.cells #[.slice A n c] 39)).alloc (.cells #[.slice B m d] 39)) (by omega) (fun j hj=>by have:=(DI hx.ok hy.ok j).1;omega) (fun j q W hj hq hW=> ?_)
  . simp only [aJ] at h
    exact h
  . have hs:=hW.size
    simp only [aJ] at hs hW;exact aat A B n m c d w.heap.size (w.heap.size+1) xs ys j q W ((hW.cell (p:=⟨w.heap.size,0,none⟩) (by show w.heap.size<_;omega)).trans Wn.o) ((hW.cell (p:=⟨w.heap.size+1,0,none⟩) (by show w.heap.size+1<_;omega)).trans Uy.o) (Hx.o.below hW (by simp)) (Hy.o.below hW (by simp)) (by omega) (by omega) (by omega) (by omega)
 clear hx hy kR wM ca cb Wn Uy;have hmx:max (n:Int) (m:Int)=(k:Int):=by omega
 clear hk;go_enter func87,ntmps87
 go_wp2_with fail
 refine C.o.mono ?_;rintro e w1 ⟨rfl,fM,cZ⟩;have GM:Below w.heap.size w w1:=vk.trans (cZ.mono (by omega));have WB:(ah (mA xs ys) k).2<18446744073709551616:=by have:=hval.o.1;omega
 have ahr:=aA fM;have uF:w.heap.size+1+1<w1.heap.size:=fM.lt;have ox:Hid (w1.ownsRow (w.heap.size+1+1) 38 1 (.slice (some ⟨w.heap.size+1+1,0,none⟩) k k) k (bI (ah (mA xs ys) k).1)):=by
  have h:=fM.own aL (n:=k) (by rw [hlen.o];exact aL) (by rw [hlen.o];unfold maxLen;omega);rw [hlen.o,iC (by rw [hlen.o];exact aL)] at h;exact h
 clear C fM Hx Hy;generalize (ah (mA xs ys) k).2=q at*
 generalize (ah (mA xs ys) k).1=us at*
 go_wp2_with (at_builtin;refine rG _ (by rfl) _ _ _ (by rfl) (w.heap.size+1+1) 38 i0 _ 1 8 underlying39 hi jE jD jJ rfl (by omega) (.slice (some ⟨w.heap.size+1+1,0,none⟩) k k) k (bI us) (by rfl) (ox.o.alloc _) ⟨w1.heap.size,0,none⟩ 1 1 [.int .u64 (q:Int)] (by rfl) (by rfl) (gw (cs:=#[.int .u64 (q:Int)]) (t:=38) (fr:=(0,0)) (bM w1 _)) (by simp [Value.oneCell']) (by omega) (by unfold maxLen;omega) (by omega) (by simp;omega) (w1.heap.size+1) (by simp) ?_;intro gg cap w2 bp aW gZ CK)
 have alV:Below w.heap.size w w2:=((GM.alloc GM.size _)).grown aW (by simp;omega) (fun j hj=>by have:=(ox.o.lt j hj).1;omega);have Vw:bI us++[.int .u64 (q:Int)]=bI (us++[(q:Int)]):=by rw [fH];rfl
 rw [Vw] at bp;have hL2:aD w2 (some ⟨gg,0,none⟩) (k+1) (us++[(q:Int)]):=aD.ia bp (oH.o.snoc (by omega) (by omega));have CV:k+1<=cap∧cap<=9223372036854775807:=by
  rcases bp.2 with ⟨hv,h0⟩ | ⟨g',cap',cur,hv,_,_,jV,zA,_⟩
  . omega
  . injection hv with _ _ e
    unfold maxLen at zA;omega
 have ayN:=(bp.lt gg rfl).1;have HL2:=aA hL2;clear bp aW gZ CK Vw hL2 hval;go_wp2_with fail
 refine (cH (some ⟨gg,0,none⟩) (k+1) cap (us++[(q:Int)]) w2 HL2.o CV.1 CV.2).mono ?_;rintro e w3 ⟨rfl,rfl⟩;have uG:=cS (us++[(q:Int)]) (k+1);go_wp2_with fail
 go_ret;refine ⟨some ⟨gg,0,none⟩,_,cap,rfl,by omega,CV.2,?_,fun x hx=> ?_,alV⟩
 . rw [KG.o]
   exact HL2.o.take uG
 . injection hx with hx
   rw [<- hx];show w.heap.size<=gg;omega
end
def sH (xs ys:List Int):List Int:=
 (ah (lS xs ys) (max xs.length ys.length)).1.take (cU (ah (lS xs ys) (max xs.length ys.length)).1 (max xs.length ys.length))
def pF {xs ys:List Int}(hx:aQ xs) (hy:aQ ys) (h:limbs ys<=limbs xs):(ah (lS xs ys) (max xs.length ys.length)).2=0∧bY (sH xs ys)∧limbs (sH xs ys)=limbs xs-limbs ys∧(sH xs ys).length<=max xs.length ys.length:=by
 obtain ⟨h1,h2⟩:=Gy hx hy (max xs.length ys.length);rw [fT (Lz _ _),fT (Lv _ _)] at h2;have hl:=cn (lS xs ys) (max xs.length ys.length);have oH:=rW (VI xs ys) (max xs.length ys.length);have hlt:=dc oH;rw [hl] at hlt;have h0:(ah (lS xs ys) (max xs.length ys.length)).2=0:=by
  rcases jM (ah (lS xs ys) (max xs.length ys.length)).2 with h3 | h3
  . exact h3
  . have h4:(ah (lS xs ys) (max xs.length ys.length)).2=1:=by omega
    rw [h4,bl] at h2;omega
 rw [h0,jZ,ja] at h2;unfold sH;obtain ⟨p1,p2⟩:=bF oH (n:=max xs.length ys.length) hl;refine ⟨h0,p1,by rw [p2];omega,?_⟩;have:=cS (ah (lS xs ys) (max xs.length ys.length)).1 (max xs.length ys.length);rw [cQ];omega
def Ym (w:World) (xs:List Int) (e:Ending) (w':World):Prop:=
 ∃A n c,e=.returned (.tuple #[.slice A n c,.int .i64 0])∧n<=c∧c<=9223372036854775807∧aD w' A n xs∧w'.ownsRow w.heap.size 38 1 (.slice A n c) n (bI xs)∧(∀x,A=some x->w.heap.size<=x.block)∧Below w.heap.size w w'
section
attribute [-go_sem] run_max_int2
attribute [local go_sem] BH
def PM (A B:Option Addr) (n m c d:Nat) (xs ys:List Int) (w:World) (hx:aD w A n xs) (hy:aD w B m ys) (hn:n<=8500000000000) (hm:m<=8500000000000) (mj:limbs ys<=limbs xs):
 aB 89 #[.slice A n c,.slice B m d] w (Ym w (sH xs ys)):=by
 obtain ⟨i0,hi,jE,jD,jJ⟩:=eG fN;have kR:=hx.len;have wM:=hy.len;obtain ⟨k,hk⟩:∃k:Nat,k=max n m:=⟨_,rfl⟩;have hk8:k<=8500000000000:=by omega
 have oH:=aA (rW (VI xs ys) k);have hlen:=aA (cn (lS xs ys) k);have KG:Hid (sH xs ys=(ah (lS xs ys) k).1.take (cU (ah (lS xs ys) k).1 k)):=by
  show _=_;unfold sH;rw [kR,wM,<- hk]
 have rF:Hid ((ah (lS xs ys) k).2=0):=by
  have h:=(pF hx.ok hy.ok mj).1;rw [kR,wM,<- hk] at h;exact h
 have vk:Below w.heap.size w ((w.alloc (.cells #[.slice A n c] 39)).alloc (.cells #[.slice B m d] 39)):=(aU.alloc aL _).alloc (by simp) _;have ca:((w.alloc (.cells #[.slice A n c] 39)).alloc (.cells #[.slice B m d] 39)).cell? ⟨w.heap.size,0,none⟩=some (.slice A n c):=u9 _ _ _ _;have cb:((w.alloc (.cells #[.slice A n c] 39)).alloc (.cells #[.slice B m d] 39)).cell? ⟨w.heap.size+1,0,none⟩=some (.slice B m d):=vA _ _ _ _;have Hx:=aA (hx.aC vk);have Hy:=aA (hy.aC vk);have Wn:=aA ca;have Uy:=aA cb;have C:Hid (aB 121 #[.int .i64 (k:Int),.func (.func 126) #[] #[.pointer (some ⟨w.heap.size,0,none⟩),.pointer (some ⟨w.heap.size+1,0,none⟩)]] ((w.alloc (.cells #[.slice A n c] 39)).alloc (.cells #[.slice B m d] 39)) fun e w'=>e=.returned (.tuple #[.slice (some ⟨w.heap.size+1+1,0,none⟩) k k,.int .u64 0])∧iJ w' (w.heap.size+1+1) 38 (ah (lS xs ys) k).1∧Below (w.heap.size+1+1) ((w.alloc (.cells #[.slice A n c] 39)).alloc (.cells #[.slice B m d] 39)) w'):=by
  have h:=qZ _ (.inr (.inl rfl)) (some ⟨w.heap.size,0,none⟩) (some ⟨w.heap.size+1,0,none⟩) (lS xs ys) k 2 ((w.alloc (.cells #[.slice A n c] 39)).alloc (.cells #[.slice B m d] 39)) (by omega) (fun j hj=>by have:=(Gy hx.ok hy.ok j).1;omega) (fun j q W hj hq hW=> ?_)
  . simp only [aJ] at h
    rw [rF.o] at h;exact h
  . have hs:=hW.size
    simp only [aJ] at hs hW;exact aak A B n m c d w.heap.size (w.heap.size+1) xs ys j q W ((hW.cell (p:=⟨w.heap.size,0,none⟩) (by show w.heap.size<_;omega)).trans Wn.o) ((hW.cell (p:=⟨w.heap.size+1,0,none⟩) (by show w.heap.size+1<_;omega)).trans Uy.o) (Hx.o.below hW (by simp)) (Hy.o.below hW (by simp)) (by omega) (by omega) (by omega) (by omega)
 clear hx hy kR wM ca cb Wn Uy rF mj;have hmx:max (n:Int) (m:Int)=(k:Int):=by omega
 clear hk;go_enter func89,ntmps89
 go_wp2_with fail
 refine C.o.mono ?_;rintro e w1 ⟨rfl,fM,cZ⟩;have GM:Below w.heap.size w w1:=vk.trans (cZ.mono (by omega));have hL1:=fM.limbs oH.o;rw [hlen.o] at hL1;have HL1:=aA hL1;have ahr:=aA fM;clear C fM Hx Hy hL1;generalize (ah (lS xs ys) k).1=us at*
 go_wp2_with fail
 refine (cH (some ⟨w.heap.size+1+1,0,none⟩) k k us w1 HL1.o aL (by omega)).mono ?_;rintro e w3 ⟨rfl,rfl⟩;have uG:=cS us k;go_wp2_with fail
 go_ret2;refine ⟨some ⟨w.heap.size+1+1,0,none⟩,_,k,rfl,uG,by omega,?_,?_,fun x hx=> ?_,GM⟩
 . rw [KG.o]
   exact HL1.o.take uG
 . have h:=ahr.o.own (base:=w.heap.size) (by omega) (n:=cU us k) (by rw [hlen.o];exact uG) (by rw [hlen.o];unfold maxLen;omega)
   rw [hlen.o,<- KG.o] at h;exact h
 . injection hx with hx
   rw [<- hx];show w.heap.size<=w.heap.size+1+1;omega
end
def GW (A B:Option Addr) (n m c d:Nat) (xs ys:List Int) (w:World) (hx:aD w A n xs) (hy:aD w B m ys) (hn:n<=8500000000000) (hm:m<=8500000000000) (mj:limbs ys<=limbs xs):
 aB 89 #[.slice A n c,.slice B m d] w fun e w'=>∃A' k c',e=.returned (.tuple #[.slice A' k c',.int .i64 0])∧k<=c'∧c'<=9223372036854775807∧aD w' A' k (sH xs ys)∧(∀x,A'=some x->w.heap.size<=x.block)∧Below w.heap.size w w':=
 (PM A B n m c d xs ys w hx hy hn hm mj).mono fun _ _ ⟨A',k,c',h1,h2,h3,h4,_,h5,h6⟩=>⟨A',k,c',h1,h2,h3,h4,h5,h6⟩
def aan (A:Option Addr) (n c ga gb:Nat) (xs:List Int) (x k q:Nat) (w:World) (ha:w.cell? ⟨ga,0,none⟩=some (.slice A n c)) (hb:w.cell? ⟨gb,0,none⟩=some (.int .u64 (x:Int))) (hx:aD w A n xs)
 (hk:k<n) (hn:n<=8500000000000) (kR:x<18446744073709551616) (hq:q<18446744073709551616):
 aB 144 #[.int .i64 (k:Int),.int .u64 (q:Int),.pointer (some ⟨ga,0,none⟩),.pointer (some ⟨gb,0,none⟩)] w fun e w'=>e=.returned (.tuple #[.int .u64 ((jP xs x k q).1:Int),.int .u64 ((jP xs x k q).2:Int)])∧∃j,w'=w.drewN j:=by
 have h1:=hx.ok k;obtain ⟨u,hu⟩:∃u:Nat,nth xs k=(u:Int):=⟨(nth xs k).toNat,by omega⟩;have hul:u<18446744073709551616:=by omega
 obtain ⟨b,o,rfl,I4,hc⟩:=hx.at_ (by omega);have CP:=hc k hk;rw [hu] at CP;have C:=fun W=>JM u x hul kR W;have hm:u*x<=18446744073709551615*18446744073709551615:=ct (by omega) (by omega);obtain ⟨hi,hhi⟩:∃v,v=u*x / 18446744073709551616:=⟨_,rfl⟩;obtain ⟨lo,Fl⟩:∃v,v=u*x % 18446744073709551616:=⟨_,rfl⟩;rw [<- hhi,<- Fl] at C;have axW:lo<18446744073709551616:=by rw [Fl];exact jy _ (by omega)
 have qa:=fun W=>yq lo q 0 (by omega) W;obtain ⟨s,hs⟩:∃v,v=(lo+q+0) % 18446744073709551616:=⟨_,rfl⟩;obtain ⟨m,hmm⟩:∃v,v=(lo+q+0) / 18446744073709551616:=⟨_,rfl⟩;rw [<- hs,<- hmm] at qa;have hF:Hid (jP xs x k q=(s,hi+m)):=by
  show _=_;unfold jP;simp only [hu,jc];have hd:=su (u*x) 18446744073709551616;rw [<- hhi,<- Fl] at hd;refine WY ?_ ?_
  . show (u*x+q) % 18446744073709551616=s
    rw [hs];omega
  . show (u*x+q) / 18446744073709551616=hi+m
    rw [hmm];omega
 have CD:Hid (hi+m<18446744073709551616):=by
  have hd:=su (u*x) 18446744073709551616;rw [<- hhi,<- Fl] at hd;show _<_;rw [hmm];omega
 have hw:IntKind.u64.wrap ((hi:Int)+(m:Int))=((hi+m:Nat):Int):=by rw [IntKind.wrap_u64];have:=CD.o;omega
 have wT:(0:Int)<=(k:Int):=by omega
 have hkn:(k:Int)<(n:Int):=by omega
 rw [hF.o];have CC:=aA C;have z0:((0:Nat):Int)=0:=rfl;rw [z0] at qa;clear hu h1 hc hx hhi Fl hs hmm hm hul kR hq axW hF C;go_enter func144,ntmps144
 go_wp2_with fail
 go_quiet ((go_at_call 143;first | exact gG ((CC.o _).mono fun e w' h=>⟨h.1,h.2.symm⟩) | exact jf ((CC.o _).mono fun e w' h=>⟨h.1,h.2.symm⟩)))
 go_wp2_with fail
 go_ret2;exact ⟨rfl,_,rfl⟩
def aD.only {w':World} {S:Nat->Prop} (h:aD w A n xs) (ho:Only S w w') (hA:∀y,A=some y->¬S y.block):aD w' A n xs:=
 ⟨h.len,fun hn=>by
   obtain ⟨b,o,e,hb,hc⟩:=h.at_ hn;refine ⟨b,o,e,iE hb ho.size,fun i hi=> ?_⟩;rw [ho.cell (p:=⟨b,o+i,none⟩) hb (hA ⟨b,o,none⟩ e)];exact hc i hi,h.ok⟩
def rA (xs:List Int) (x:Nat):List Int:=(ah (jP xs x) xs.length).1++[((ah (jP xs x) xs.length).2:Int)]
def yM (hx:aQ xs) {x:Nat}(h:x<18446744073709551616):aQ (rA xs x)∧(rA xs x).length=xs.length+1∧limbs (rA xs x)=limbs xs*x:=by
 obtain ⟨h1,h2⟩:=BJ hx h xs.length;rw [fT aL] at h2;have hl:=cn (jP xs x) xs.length;refine ⟨(rW (MV xs x) _).snoc (by omega) (by omega),by unfold rA;rw [eC,hl];rfl,?_⟩;unfold rA;rw [vZ,hl,jc,h2]
def Ol {os:List Int}(ho:aQ os) {j:Nat}(hj:j<os.length) {y q T:Nat}(hy:y<18446744073709551616) (hq:q<=1) (h:limbs os+2^(64*j)*q=T):
 aQ (os.set j ((((nth os j).toNat+y+q) % 18446744073709551616:Nat):Int))∧limbs (os.set j ((((nth os j).toNat+y+q) % 18446744073709551616:Nat):Int))+2^(64*(j+1))*(((nth os j).toNat+y+q) / 18446744073709551616)=T+2^(64*j)*y∧((nth os j).toNat+y+q) / 18446744073709551616<=1:=by
 have h1:=ho j;generalize hs:(nth os j).toNat+y+q=s;have hm:=jy s (show 0<18446744073709551616 by omega);have hd:=su s 18446744073709551616;have h2:=Xw ho hj (v:=((s % 18446744073709551616:Nat):Int)) (by omega);rw [jc] at h2;refine ⟨ho.set j (by omega) (by omega),?_,by omega⟩;rw [sO];generalize limbs (os.set j ((s % 18446744073709551616:Nat):Int))=L at*
 generalize 2^(64*j)=P at*
 generalize limbs os=M at*
 generalize (nth os j).toNat=o at*
 have h3:P*(s % 18446744073709551616)+P*18446744073709551616*(s / 18446744073709551616)=P*s:=by
  rw [dA,<- ak];congr 1;omega
 have h4:P*s=P*o+P*y+P*q:=by rw [<- hs,ak,ak]
 omega
def Ru (hx:aQ xs) (hy:aQ ys) {k q L M:Nat}(h:L+2^(64*(k+(xs.length+1)))*q=M+2^(64*k)*(limbs xs*(nth ys k).toNat)) (hM:M=limbs xs*limbs (ys.take k)) (_hk:k<ys.length):
 q=0∧L=limbs xs*limbs (ys.take (k+1)):=by
 have e1:M+2^(64*k)*(limbs xs*(nth ys k).toNat)=limbs xs*limbs (ys.take (k+1)):=by
  rw [gH,ak,hM];congr 1;rw [oh]
 rw [e1] at h;have h1:=dc hx;have h2:=dc (hy.take (k+1));have h3:(ys.take (k+1)).length<=k+1:=by rw [cQ];omega
 have h4:2^(64*(ys.take (k+1)).length)<=2^(64*(k+1)):=fP (by omega) (by omega);have h5:limbs xs*limbs (ys.take (k+1))<2^(64*xs.length)*2^(64*(k+1)):=Lu h1 (by omega);rw [<- iD,show 64*xs.length+64*(k+1)=64*(k+(xs.length+1)) by omega] at h5;have h6:q=0:=by
  rcases jM q with h6 | h6
  . exact h6
  . have h7:2^(64*(k+(xs.length+1)))*1<=2^(64*(k+(xs.length+1)))*q:=bn _ h6
    omega
 subst h6;exact ⟨rfl,by omega⟩
structure Uv (xs ys zs:List Int):Prop where
 pl:bY zs
 eq:limbs zs=limbs xs*limbs ys
 len:zs.length<=xs.length+ys.length+1
def xO {base:Nat} {e:TypeId} {xs:List Value}(h:w.ownsRow base e 1 (.slice A n c) n xs) (hn:0<n):∃g,A=some ⟨g,0,none⟩∧base<=g∧g<w.heap.size∧n<=c∧c<=maxLen∧∃ex,w.heap[g]? =some (.cells (xs++ex).toArray e (0,0))∧n+ex.length=c:=by
 rcases h.2 with ⟨_,h0⟩ | ⟨g,cap,cur,hv,hb,hg,jV,zA,hcs,ht⟩
 . omega
 . injection hv with h1 h2 h3
   subst h1;subst h3;refine ⟨g,rfl,hb,(jm.1 hg).1,jV,zA,cur.toList.drop n,?_,?_⟩
   . rw [hg,<- ht,bl,DR]
   . rw [xw,WZ];omega
def IU (A:Option Addr) (n c:Nat) (xs:List Int) (x:Nat) (w:World) (hx:aD w A n xs) (hn:n<=8500000000000) (kR:x<18446744073709551616):
 aB 117 #[.slice A n c,.int .u64 (x:Int)] w fun e w'=>∃g cap,e=.returned (.slice (some ⟨g,0,none⟩) (n+1) cap)∧w.heap.size<=g∧n+1<=cap∧cap<=9223372036854775807∧aD w' (some ⟨g,0,none⟩) (n+1) (rA xs x)∧Below w.heap.size w w':=by
 obtain ⟨i0,hi,jE,jD,jJ⟩:=eG fN;obtain rfl:=hx.len;have CE:=aA (yM hx.ok kR);have hval:=aA (BJ hx.ok kR xs.length);have oH:=aA (rW (MV xs x) xs.length);have hlen:=aA (cn (jP xs x) xs.length);have KG:Hid (rA xs x=(ah (jP xs x) xs.length).1++[((ah (jP xs x) xs.length).2:Int)]):=rfl;have vk:Below w.heap.size w ((w.alloc (.cells #[.slice A xs.length c] 39)).alloc (.cells #[.int .u64 (x:Int)] 38)):=(aU.alloc aL _).alloc (by simp) _;have Wn:Hid (((w.alloc (.cells #[.slice A xs.length c] 39)).alloc (.cells #[.int .u64 (x:Int)] 38)).cell? ⟨w.heap.size,0,none⟩=some (.slice A xs.length c)):=u9 _ _ _ _;have Uy:Hid (((w.alloc (.cells #[.slice A xs.length c] 39)).alloc (.cells #[.int .u64 (x:Int)] 38)).cell? ⟨w.heap.size+1,0,none⟩=some (.int .u64 (x:Int))):=vA _ _ _ _;have Hx:=aA (hx.aC vk);obtain ⟨k,hk⟩:∃k,xs.length=k:=⟨_,rfl⟩;have C:Hid (aB 121 #[.int .i64 (xs.length:Int),.func (.func 144) #[] #[.pointer (some ⟨w.heap.size,0,none⟩),.pointer (some ⟨w.heap.size+1,0,none⟩)]] ((w.alloc (.cells #[.slice A xs.length c] 39)).alloc (.cells #[.int .u64 (x:Int)] 38)) fun e w'=>e=.returned (.tuple #[.slice (some ⟨w.heap.size+1+1,0,none⟩) xs.length xs.length,.int .u64 ((ah (jP xs x) xs.length).2:Int)])∧iJ w' (w.heap.size+1+1) 38 (ah (jP xs x) xs.length).1∧Below (w.heap.size+1+1) ((w.alloc (.cells #[.slice A xs.length c] 39)).alloc (.cells #[.int .u64 (x:Int)] 38)) w'):=by
  have h:=qZ _ (.inr (.inr (.inl rfl))) (some ⟨w.heap.size,0,none⟩) (some ⟨w.heap.size+1,0,none⟩) (jP xs x) xs.length 18446744073709551616 ((w.alloc (.cells #[.slice A xs.length c] 39)).alloc (.cells #[.int .u64 (x:Int)] 38)) (by omega) (fun j hj=>(BJ hx.ok kR j).1) (fun j q W hj hq hW=> ?_)
  . simp only [aJ] at h
    exact h
  . have hs:=hW.size
    simp only [aJ] at hs hW;exact aan A xs.length c w.heap.size (w.heap.size+1) xs x j q W ((hW.cell (p:=⟨w.heap.size,0,none⟩) (by show w.heap.size<_;omega)).trans Wn.o) ((hW.cell (p:=⟨w.heap.size+1,0,none⟩) (by show w.heap.size+1<_;omega)).trans Uy.o) (Hx.o.below hW (by simp)) hj hn kR hq
 have hq:(ah (jP xs x) xs.length).2<18446744073709551616:=hval.o.1;clear hx hval Wn Uy Hx kR;rw [hk] at C oH hlen KG vk CE hn hq ⊢;clear hk;go_enter func117,ntmps117
 go_wp2_with fail
 refine C.o.mono ?_;rintro e w1 ⟨rfl,fM,cZ⟩;have GM:Below w.heap.size w w1:=vk.trans (cZ.mono (by omega));have uF:w.heap.size+1+1<w1.heap.size:=fM.lt;have ox:Hid (w1.ownsRow (w.heap.size+1+1) 38 1 (.slice (some ⟨w.heap.size+1+1,0,none⟩) k k) k (bI (ah (jP xs x) k).1)):=by
  have h:=fM.own aL (n:=k) (by rw [hlen.o];exact aL) (by rw [hlen.o];unfold maxLen;omega);rw [hlen.o,iC (by rw [hlen.o];exact aL)] at h;exact h
 clear C fM;generalize (ah (jP xs x) k).2=q at*
 generalize (ah (jP xs x) k).1=us at*
 go_wp2_with (at_builtin;refine rG _ (by rfl) _ _ _ (by rfl) (w.heap.size+1+1) 38 i0 _ 1 8 underlying39 hi jE jD jJ rfl (by omega) (.slice (some ⟨w.heap.size+1+1,0,none⟩) k k) k (bI us) (by rfl) (ox.o.alloc _) ⟨w1.heap.size,0,none⟩ 1 1 [.int .u64 (q:Int)] (by rfl) (by rfl) (gw (cs:=#[.int .u64 (q:Int)]) (t:=38) (fr:=(0,0)) (bM w1 _)) (by simp [Value.oneCell']) (by omega) (by unfold maxLen;omega) (by omega) (by simp;omega) (w1.heap.size+1) (by simp) ?_;intro gg cap w2 bp aW gZ CK)
 have alV:Below w.heap.size w w2:=((GM.alloc GM.size _)).grown aW (by simp;omega) (fun j hj=>by have:=(ox.o.lt j hj).1;omega);have Vw:bI us++[.int .u64 (q:Int)]=bI (us++[(q:Int)]):=by rw [fH];rfl
 rw [Vw] at bp;have hL2:aD w2 (some ⟨gg,0,none⟩) (k+1) (us++[(q:Int)]):=aD.ia bp (oH.o.snoc (by omega) (by omega));have ayN:=(bp.lt gg rfl).1;obtain ⟨_,_,_,_,arc,aiB,_⟩:=xO bp (by omega);unfold maxLen at aiB;rw [<- KG.o] at hL2;have HL2:=aA hL2;clear bp aW gZ CK Vw hL2;go_wp2_with fail
 go_ret;exact ⟨gg,cap,rfl,by omega,arc,by omega,HL2.o,alV⟩
def afp (A:Option Addr) (n c:Nat) (xs:List Int) (x:Nat) (w:World) (hx:aD w A n xs) (hn:n<=8500000000000) (kR:x<18446744073709551616):
 aB 117 #[.slice A n c,.int .u64 (x:Int)] w fun e w'=>∃g cap,e=.returned (.slice (some ⟨g,0,none⟩) (n+1) cap)∧w.heap.size<=g∧aD w' (some ⟨g,0,none⟩) (n+1) (rA xs x)∧Below w.heap.size w w':=
 (IU A n c xs x w hx hn kR).mono fun _ _ ⟨g,cap,h1,h2,_,_,h3,h4⟩=>⟨g,cap,h1,h2,h3,h4⟩
def SQ (A B:Option Addr) (n m c d:Nat) (xs ys:List Int) (w:World) (hx:aD w A n xs) (hy:aD w B m ys) (hn:n<=4000000000000) (hm:m<=4000000000000):
 aB 135 #[.slice A n c,.slice B m d] w fun e w'=>∃zs,Uv xs ys zs∧qw w zs e w':=by
 obtain ⟨i0,hi,jE,jD,jJ⟩:=eG fN;obtain rfl:=hx.len;obtain rfl:=hy.len;have KI:=iQ underlying39 hi jE jD jJ (xs.length+ys.length+1) (by omega) w;rw [show ((xs.length+ys.length+1:Nat):Int)=(xs.length:Int)+(ys.length:Int)+1 from rfl] at KI;have CH:Hid (iJ (w.alloc (.cells (bI (List.replicate (xs.length+ys.length+1) 0)).toArray 38)) w.heap.size 38 (List.replicate (xs.length+ys.length+1) 0)):=iJ.new w _ _;have rF:Below w.heap.size w (w.alloc (.cells (bI (List.replicate (xs.length+ys.length+1) 0)).toArray 38)):=aU.alloc aL _;have xB:Hid ((List.replicate (xs.length+ys.length+1) (0:Int)).length=xs.length+ys.length+1):=fQ;have ho0:Hid (aQ (List.replicate (xs.length+ys.length+1) 0)):=fun i=>by
  have:nth (List.replicate (xs.length+ys.length+1) (0:Int)) i=0:=by unfold nth;by_cases h:i<xs.length+ys.length+1<;>simp [List.getD,h]
  rw [this];omega
 have Vy:Hid (limbs (List.replicate (xs.length+ys.length+1) 0)=limbs xs*limbs (ys.take 0)):=by show _=_;rw [nW];rfl
 have Hx:=aA hx;have Hy:=aA hy;have HxO:=aA hx.ok;have HyO:=aA hy.ok;clear hx hy;generalize List.replicate (xs.length+ys.length+1) (0:Int)=R0 at*
 go_enter func135,ntmps135
 go_wp2_with fail
 clear KI;go_loopw [20] (fun i wr=>∃(k:Nat) (os:List Int),k<=ys.length∧i=.int .i64 (k:Int)∧Hid (iJ wr w.heap.size 38 os)∧Hid (os.length=xs.length+ys.length+1)∧Hid (aQ os)∧Hid (limbs os=limbs xs*limbs (ys.take k))∧Below w.heap.size w wr) (fun i _=>ys.length-(intOf i).toNat)
 case atStart=>exact ⟨0,R0,by omega,rfl,CH,xB,ho0,Vy,rF⟩
 case round=>
  clear CH xB ho0 Vy rF;obtain ⟨k,os,hk,rfl,fM,RX,oH,hval,bC⟩:=hrel;obtain ⟨wo,rfl⟩:∃wo:World,wo=wr:=⟨_,rfl⟩;by_cases hlt:k<ys.length
  . have dH:(k:Int)<(ys.length:Int):=by omega
    (have wT:(0:Int)<=(k:Int):=by omega);obtain ⟨b,o,rfl,hb,hc⟩:=Hy.o.at_ (by omega);have CP:=(bC.cell (p:=⟨b,o+k,none⟩) hb).trans (hc k hlt);have xZ:=HyO.o k;obtain ⟨y,hyy⟩:∃y:Nat,nth ys k=(y:Int):=⟨(nth ys k).toNat,by omega⟩;rw [hyy] at CP;(have wM:y<18446744073709551616:=by omega);have Hyy:=aA hyy;have LP:=fM.o.lt;have Cr:=aA (afp A xs.length c xs y wo (Hx.o.aC bC) (by omega) wM);have Hyl:=aA wM;clear hc hyy xZ wM;(go_wp2_with fail);refine Cr.o.mono ?_;rintro e w1 ⟨gr,cap,rfl,rD,hL1,cZ⟩;have asT:=aA (fM.o.aC cZ);have arD:=aA hL1;(have hne:gr≠w.heap.size:=by omega);have uF:=cZ.size;obtain ⟨rs,YB⟩:∃rs,rs=rA xs y:=⟨_,rfl⟩;have Hsp:=aA (yM HxO.o Hyl.o);rw [<- YB] at arD Hsp;have Jo:=aA (bC.tm cZ);clear hL1 CP Cr YB fM bC cZ;(go_wp2_with fail);go_loopw [8,29] (fun cv i wr=>∃(j q:Nat) (ot:List Int),j<=xs.length+1∧q<=1∧cv=.int .u64 (q:Int)∧i=.int .i64 (j:Int)∧Hid (iJ wr w.heap.size 38 ot)∧Hid (ot.length=xs.length+ys.length+1)∧Hid (aQ ot)∧Hid (limbs ot+2^(64*(k+j))*q=limbs os+2^(64*k)*limbs (rs.take j))∧Hid (Only (fun x=>x=w.heap.size) w1 wr)) (fun _ i _=>xs.length+1-(intOf i).toNat)
    case atStart=>exact ⟨0,0,os,by omega,by omega,rfl,rfl,asT,RX,oH,(by show _=_;rw [jZ];rfl),Only.refl _ _⟩
    case round=>
     obtain ⟨j,q,ot,hj,hq,rfl,rfl,hrt,htl,hto,htv,j7⟩:=hrel;by_cases hjl:j<xs.length+1
     . have abA:(j:Int)<(xs.length:Int)+1:=by omega
       (have RY:(0:Int)<=(j:Int):=by omega);have hLr:=arD.o.only j7.o (fun y' hy' e=>hne (by injection hy' with hy';rw [<- hy'] at e;exact e));obtain ⟨b2,o2,e2,cN,NH⟩:=hLr.at_ (by omega);injection e2 with e2
       injection e2 with e3 e4
       subst e3;subst e4;have hcj:=NH j hjl;rw [bh] at hcj;have Js:=Hsp.o.1 j;obtain ⟨u,hu⟩:∃u:Nat,nth rs j=(u:Int):=⟨(nth rs j).toNat,by omega⟩;rw [hu] at hcj;(have hul:u<18446744073709551616:=by omega);have LR:=hrt.o.cell (i:=k+j) (by rw [htl.o];omega);have hfo:=hrt.o.frozen (k+j);have ho1:=hto.o (k+j);obtain ⟨v,hv⟩:∃v:Nat,nth ot (k+j)=(v:Int):=⟨(nth ot (k+j)).toNat,by omega⟩;rw [hv] at LR;have hst:=Ol hto.o (j:=k+j) (by rw [htl.o];omega) hul hq htv.o;rw [hv,jc] at hst;have qa:=fun W=>yq v u q hq W;generalize (v+u+q) % 18446744073709551616=s at*
       generalize (v+u+q) / 18446744073709551616=q' at*
       obtain ⟨t1,t2,t3⟩:=hst;have T1:=aA t1;have T2:Hid (limbs (ot.set (k+j) (s:Int))+2^(64*(k+(j+1)))*q'=limbs os+2^(64*k)*limbs (rs.take (j+1))):=by
        show _=_;rw [<- jb,t2,gH,hu,jc,show 64*(k+j)=64*k+64*j by omega,iD,ak (2^(64*k)),dA];omega
       have yD:=aA (hrt.o.set (k+j) (s:Int));have GI:=aA (j7.o.setCell (p:=⟨w.heap.size,k+j,none⟩) rfl (.int .u64 (s:Int)));(have axc:Hid ((ot.set (k+j) (s:Int)).length=xs.length+ys.length+1):=by show _=_;rw [fW];exact htl.o);(have hkj:(k:Int)+(j:Int)<(xs.length:Int)+(ys.length:Int)+1:=by omega);(have aKB:(0:Int)<=(k:Int)+(j:Int):=by omega);(have ekj:((k:Int)+(j:Int)).toNat=k+j:=by omega);clear t1 t2 NH hLr hu hv Js ho1 hul htv hto hrt j7 htl;(go_wp2_with fail);go_roundw
       case rel=>exact ⟨j+1,q',_,by omega,t3,rfl,by go_num,yD,axc,T1,T2,GI⟩
       case measure=>simp [intOf];omega
     . obtain rfl:j=xs.length+1:=by omega
       (have abA:¬(xs.length:Int)+1<(xs.length:Int)+1:=by omega);have NB:=Ru HxO.o HyO.o (k:=k) (q:=q) (L:=limbs ot) (M:=limbs os) (by
        have h1:=htv.o;rw [fT (by rw [Hsp.o.2.1];exact aL),Hsp.o.2.2] at h1;rw [Hyy.o,jc];exact h1) hval.o hlt
       have wH:=aA NB.2;have cN:Below w.heap.size w wr:=Jo.o.trans (j7.o.below Jo.o.size (fun x hx=>by omega));clear NB htv;(go_wp2_with fail);go_roundw
       case rel=>exact ⟨k+1,ot,by omega,by go_num,hrt,htl,hto,wH,cN⟩
       case measure=>simp [intOf];omega
  . obtain rfl:k=ys.length:=by omega
    (have dH:¬(ys.length:Int)<(ys.length:Int):=by omega);have hL:=fM.o.limbs oH.o;rw [RX.o] at hL;have HL:=aA hL;obtain ⟨p1,p2⟩:=bF oH.o RX.o;have hval':=hval.o;rw [fT aL] at hval';have uG:=cS os (xs.length+ys.length+1);have Hm:Hid (Uv xs ys (os.take (cU os (xs.length+ys.length+1)))):=⟨p1,by rw [p2];exact hval',by rw [cQ];omega⟩;clear hL p1 p2 hval' hval;(go_wp2_with fail);refine (cH (some ⟨w.heap.size,0,none⟩) (xs.length+ys.length+1) (xs.length+ys.length+1) os wo HL.o aL (by omega)).mono ?_;rintro e w3 ⟨rfl,rfl⟩;(go_wp2_with fail);go_ret;refine ⟨_,Hm.o,some ⟨w.heap.size,0,none⟩,_,xs.length+ys.length+1,rfl,uG,by omega,HL.o.take uG,fun x hx=> ?_,bC⟩;injection hx with hx
    rw [<- hx];exact aL
def ji (a b:Nat):Int:=if a<b then -1 else if b<a then 1 else 0
def NZ (h:a<b):ji a b= -1:=aM h
def WQ (h:b<a):ji a b=1:=by unfold ji;rw [aY (by omega),aM h]
def aha (h:a=b):ji a b=0:=by unfold ji;rw [aY (by omega),aY (by omega)]
def Fb (hx:aQ xs) (hy:aQ ys) (hl:xs.length=ys.length) (hk:k<xs.length) (he:∀j,k<j->nth xs j=nth ys j) (h:nth xs k<nth ys k):limbs xs<limbs ys:=by
 have key:∀n,k+1<=n->limbs (xs.take n)<limbs (ys.take n):=by
  intro n hn;induction n with
  | zero=>omega
  | succ n ih=>
    rw [gH,gH];by_cases e:k=n
    . subst e
      have h1:=dc (hx.take k);have h2:2^(64*(xs.take k).length)<=2^(64*k):=fP (by omega) (by rw [cQ];omega);have h3:=hx k;have h4:=hy k;have h5:2^(64*k)*((nth xs k).toNat+1)<=2^(64*k)*(nth ys k).toNat:=bn _ (by omega);rw [ak,bl] at h5;omega
    . have:=ih (by omega)
      rw [he n (by omega)];omega
 have:=key xs.length hk;rwa [fT aL,fT (by omega)] at this
def Bn (hx:bY xs) (hy:bY ys) (h:xs.length<ys.length):limbs xs<limbs ys:=by
 have h1:=dc hx.1;have h2:=hy.low (by omega);have h3:2^(64*xs.length)<=2^(64*(ys.length-1)):=fP (by omega) (by omega);omega
def JI (x y:Int) (w:World) (h:x<y):aB 125 #[.int .u64 x,.int .u64 y] w fun e w'=>e=.returned (.int .i64 (-1))∧w=w':=by
 have h1:¬x>y:=by omega
 have h2:(x !=x)=false:=by simp
 have h3:(y !=y)=false:=by simp
 go_enter func125,ntmps125
 go_wp2
 go_ret;exact ⟨rfl,rfl⟩
def JJ (x y:Int) (w:World) (h:y<x):aB 125 #[.int .u64 x,.int .u64 y] w fun e w'=>e=.returned (.int .i64 (1))∧w=w':=by
 have h1:¬x<y:=by omega
 have h2:(x !=x)=false:=by simp
 have h3:(y !=y)=false:=by simp
 go_enter func125,ntmps125
 go_wp2
 go_ret;exact ⟨rfl,rfl⟩
def JK (x y:Int) (w:World) (h:x<y):aB 110 #[.int .i64 x,.int .i64 y] w fun e w'=>e=.returned (.int .i64 (-1))∧w=w':=by
 have h1:¬x>y:=by omega
 have h2:(x !=x)=false:=by simp
 have h3:(y !=y)=false:=by simp
 go_enter func110,ntmps110
 go_wp2
 go_ret;exact ⟨rfl,rfl⟩
def JL (x y:Int) (w:World) (h:y<x):aB 110 #[.int .i64 x,.int .i64 y] w fun e w'=>e=.returned (.int .i64 (1))∧w=w':=by
 have h1:¬x<y:=by omega
 have h2:(x !=x)=false:=by simp
 have h3:(y !=y)=false:=by simp
 go_enter func110,ntmps110
 go_wp2
 go_ret;exact ⟨rfl,rfl⟩
def yZ (A B:Option Addr) (n m c d:Nat) (xs ys:List Int) (w:World) (hx:aD w A n xs) (hy:aD w B m ys) (jV:n<=c) (hc:c<=9223372036854775807) (nk:m<=d) (hd:d<=9223372036854775807) (hn:n<=4000000000000) (_hm:m<=4000000000000):
 aB 88 #[.slice A n c,.slice B m d] w fun e w'=>e=.returned (.int .i64 (ji (limbs xs) (limbs ys)))∧∃j,w'=w.drewN j:=by
 have kR:=hx.len;have wM:=hy.len;have l1:=cS xs n;have l2:=cS ys m;obtain ⟨p1,p2⟩:=bF hx.ok kR;obtain ⟨q1,q2⟩:=bF hy.ok wM;have Hx:=aA (hx.take l1);have Hy:=aA (hy.take l2);have C1:=aA (cH A n c xs w hx jV hc);have C2:=aA (cH B m d ys w hy nk hd);have L1:Hid ((xs.take (cU xs n)).length=cU xs n):=by show _=_;rw [cQ,kR];omega
 have L2:Hid ((ys.take (cU ys m)).length=cU ys m):=by show _=_;rw [cQ,wM];omega
 rw [<- p2,<- q2];have P1:=aA p1;have Q1:=aA q1;clear hx hy p1 p2 q1 q2 kR wM;generalize xs.take (cU xs n)=us at*
 generalize ys.take (cU ys m)=vs at*
 generalize cU xs n=u at*
 generalize cU ys m=v at*
 by_cases huv:u=v
 . subst huv
   have hne:((u:Int) !=(u:Int))=false:=by simp
   go_enter func88,ntmps88
   go_wp2_with fail
   refine C1.o.mono ?_;rintro e w' ⟨rfl,rfl⟩;go_wp2_with fail
   refine C2.o.mono ?_;rintro e w' ⟨rfl,rfl⟩;go_wp2_with fail
   obtain ⟨wo,rfl⟩:∃wo:World,wo=w':=⟨_,rfl⟩;go_loopw [5] (fun i wr=>∃k j:Nat,k<=u∧i=.int .i64 ((k:Int)-1)∧Hid (∀j,k<=j->nth us j=nth vs j)∧wr=wo.drewN j) (fun i _=>(intOf i+1).toNat)
   case atStart=>exact ⟨u,0,aL,rfl,fun j hj=>by rw [bw (by rw [L1.o];exact hj),bw (by rw [L2.o];exact hj)],rfl⟩
   case round=>
    obtain ⟨k,j,hk,rfl,QA,rfl⟩:=hrel;cases k with
    | zero=>
      have e0:(((0:Nat):Int)-1)= -1:=rfl;have hf:Hid (ji (limbs us) (limbs vs)=0):=aha (by rw [kW (L1.o.trans L2.o.symm) fun i _=>QA.o i (by omega)]);rw [e0];(go_wp2_with fail);go_ret;exact ⟨oN hf.o.symm,_,rfl⟩
    | succ k=>
      (have e0:(((k+1:Nat):Int)-1)=(k:Int):=by omega);rw [e0];obtain ⟨b,o,rfl,hb,LQ⟩:=Hx.o.at_ (by omega);obtain ⟨b',o',rfl,nI,hcy⟩:=Hy.o.at_ (by omega);have CB:=LQ k (by omega);have xZ:=hcy k (by omega);(have RY:(0:Int)<=(k:Int):=by omega);(have Gd:(k:Int)<(u:Int):=by omega);clear LQ hcy e0;rcases WX (nth us k) (nth vs k) with h | h | h
      . have hf:Hid (ji (limbs us) (limbs vs)= -1):=NZ (Fb P1.o.1 Q1.o.1 (L1.o.trans L2.o.symm) (by rw [L1.o];omega) (fun i hi=>QA.o i (by omega)) h)
        (have h2:(nth us k !=nth vs k)=true:=by simp;omega);have h3:decide (nth us k<nth vs k)=true:=DM h;(go_wp2_with fail);go_quiet (fail)
        (go_wp2_with fail);go_quiet ((go_at_call 125;first | exact gG (JI _ _ _ h) | exact jf (JI _ _ _ h)))
        (go_wp2_with fail);go_ret;exact ⟨oN hf.o.symm,_,by first | rfl | exact fJ _ _ _ | (rw [fJ,fJ])⟩
      . have hf:Hid (∀j,k<=j->nth us j=nth vs j):=fun j hj=>by
         by_cases e:j=k
         . subst e;exact h
         . exact QA.o j (by omega)
        (have h2:(nth us k !=nth vs k)=false:=by simp;omega);clear h QA;(go_wp2_with fail);go_quiet (fail)
        (go_wp2_with fail);go_roundw
        case rel=>exact ⟨k,_,by omega,rfl,hf,by first | rfl | exact fJ _ _ _ | (rw [fJ,fJ])⟩
        case measure=>simp [intOf]
      . have hf:Hid (ji (limbs us) (limbs vs)=1):=WQ (Fb Q1.o.1 P1.o.1 (L2.o.trans L1.o.symm) (by rw [L2.o];omega) (fun i hi=>(QA.o i (by omega)).symm) h)
        (have h2:(nth us k !=nth vs k)=true:=by simp;omega);have h3:decide (nth us k<nth vs k)=false:=uJ (by omega);(go_wp2_with fail);go_quiet (fail)
        (go_wp2_with fail);go_quiet ((go_at_call 125;first | exact gG (JJ _ _ _ h) | exact jf (JJ _ _ _ h)))
        (go_wp2_with fail);go_ret;exact ⟨oN hf.o.symm,_,by first | rfl | exact fJ _ _ _ | (rw [fJ,fJ])⟩
 . have hne:((u:Int) !=(v:Int))=true:=by simp;omega
   go_enter func88,ntmps88
   go_wp2_with fail
   refine C1.o.mono ?_;rintro e w' ⟨rfl,rfl⟩;go_wp2_with fail
   refine C2.o.mono ?_;rintro e w' ⟨rfl,rfl⟩;rcases Nat.lt_or_gt_of_ne huv with h | h
   . have hf:Hid (ji (limbs us) (limbs vs)= -1):=NZ (Bn P1.o Q1.o (by rw [L1.o,L2.o];exact h))
     (have h1:(u:Int)<(v:Int):=by omega);(go_wp2_with fail);refine (JK _ _ _ h1).mono ?_;rintro e w'' ⟨rfl,rfl⟩;(go_wp2_with fail);go_ret;exact ⟨oN hf.o.symm,0,rfl⟩
   . have hf:Hid (ji (limbs us) (limbs vs)=1):=WQ (Bn Q1.o P1.o (by rw [L1.o,L2.o];exact h))
     (have h1:(v:Int)<(u:Int):=by omega);(go_wp2_with fail);refine (JL _ _ _ h1).mono ?_;rintro e w'' ⟨rfl,rfl⟩;(go_wp2_with fail);go_ret;exact ⟨oN hf.o.symm,0,rfl⟩
def awK {a0 a1 b0 b1 l m:Nat}(hl:l=a0*b0) (hh:h=a1*b1) (hm:m=(a0+a1)*(b0+b1)-l-h):l+p*m+p*p*h=(a0+p*a1)*(b0+p*b1):=by
 have e1:(a0+a1)*(b0+b1)=a0*b0+a1*b1+(a0*b1+a1*b0):=by rw [bO,ak,ak];omega
 have e2:m=a0*b1+a1*b0:=by rw [hm,e1,hl,hh];omega
 rw [e2,hl,hh,bO,ak,ak,ak];have e3:a0*(p*b1)=p*(a0*b1):=by ac_rfl
 have e4:p*a1*b0=p*(a1*b0):=by ac_rfl
 have e5:p*a1*(p*b1)=p*p*(a1*b1):=by ac_rfl
 rw [e3,e4,e5];omega
def Fa (k:Nat) (xs:List Int):limbs (List.replicate k 0++xs)=2^(64*k)*limbs xs:=by
 rw [iP,nW,fQ,bh]
def BU (h:aQ xs):aQ (List.replicate k 0++xs):=fun i=>by
 by_cases hi:i<k
 . have e:nth (List.replicate k 0++xs) i=0:=by
    unfold nth;simp [List.getD,hi,Tw]
   rw [e];omega
 . have e:nth (List.replicate k 0++xs) i=nth xs (i-k):=by
    unfold nth;simp only [List.getD];rw [DL (by rw [fQ];omega),fQ]
   rw [e];exact h (i-k)
def ru (xs:List Int) (hk:k<=xs.length):limbs xs=limbs (xs.take k)+2^(64*k)*limbs (xs.drop k):=by
 have h:=iP (xs.take k) (xs.drop k);rw [DR,cQ,oz hk] at h;exact h
def PS (A B:Option Addr) (n m c d:Nat) (xs ys:List Int) (w:World) (hx:aD w A n xs) (hy:aD w B m ys) (hn:n<=8500000000000) (hm:m<=8500000000000) (mj:limbs ys<=limbs xs):
 aB 118 #[.slice A n c,.slice B m d] w (qw w (sH xs ys)):=by
 have C:=aA (GW A B n m c d xs ys w hx hy hn hm mj);clear hx hy mj;go_enter func118,ntmps118
 go_wp2_with fail
 refine C.o.mono ?_;rintro e w1 ⟨A1,k1,c1,rfl,g1,g2,g3,g4,g5⟩;have G3:=aA g3;have G4:=aA g4;have G5:=aA g5;clear g3 g4 g5;go_wp2_with fail
 go_ret;exact ⟨A1,k1,c1,rfl,g1,g2,G3.o,G4.o,G5.o⟩
def Kz (A:Option Addr) (n c:Nat) (xs:List Int) (k:Nat) (w:World) (hx:aD w A n xs) (hn:n<=8500000000000) (hk:k<=8500000000000):
 aB 136 #[.slice A n c,.int .i64 (k:Int)] w (qw w (List.replicate k 0++xs)):=by
 obtain ⟨i0,hi,jE,jD,jJ⟩:=eG fN;have KI:=iQ underlying39 hi jE jD jJ k (by omega) w;have hl:=hx.len;have Hr:=aA hx.reads;have KV:=aA hx.ok;have fM:=iJ.new w 38 (List.replicate k 0);have ox:Hid ((w.alloc (.cells (bI (List.replicate k 0)).toArray 38)).ownsRow w.heap.size 38 1 (.slice (some ⟨w.heap.size,0,none⟩) k k) k (bI (List.replicate k 0))):=by
  have h:=fM.own aL (n:=k) (by rw [fQ];exact aL) (by rw [fQ];unfold maxLen;omega);rw [fQ,iC (by rw [fQ];exact aL)] at h;exact h
 have hn0:(0:Int)<=(k:Int):=by omega
 clear hx hl fM;go_enter func136,ntmps136
 go_wp2_with (at_builtin;go_must (refine bU (w:=w.alloc (.cells (bI (List.replicate k 0)).toArray 38)) rfl _ _ 39 rfl w.heap.size 38 i0 (.int .u64 0) 1 8 underlying39 hi jE jD jJ rfl (by decide) _ k (bI (List.replicate k 0)) rfl ox.o w.heap.size A n c (bI xs) rfl (Hr.o.alloc aL _) (jU xs) (by unfold maxLen;omega) (by omega) (by simp) ?_);intro v' w1 aa aW gZ)
 have bp:w1.ownsRow w.heap.size 38 1 v' (k+n) (bI (List.replicate k 0++xs)):=by rw [fH];exact aa
 have hb:Below w.heap.size w w1:=((Below.refl _ w).alloc aL _).grown aW (by simp) (fun k hk=>(ox.o.lt k hk).1);have zR:=aA bp;have Hb:=aA hb;clear aa aW gZ hb bp;obtain ⟨A',c',rfl⟩:=fD zR.o;go_wp2_with fail
 go_ret;have hcc:k+n<=c'∧c'<=9223372036854775807:=by
  rcases zR.o.2 with ⟨hv,h0⟩ | ⟨g,cap,cur,hv,_,_,jV,zA,_⟩
  . injection hv;omega
  . injection hv with _ _ e
    unfold maxLen at zA;omega
 exact ⟨A',k+n,c',rfl,hcc.1,hcc.2,aD.ia zR.o (BU KV.o),fun y hy=>(zR.o.lt y.block (by subst hy;rfl)).1,Hb.o⟩
def Mt (h:aD w (some ⟨b,o,none⟩) n xs) (hk:k<=n):aD w (some ⟨b,o+k,none⟩) (n-k) (xs.drop k):=
 ⟨by rw [xw,h.len],fun hn=>by
   obtain ⟨b',o',e,hb,hc⟩:=h.at_ (by omega);injection e with e;injection e with e1 e2;subst e1;subst e2
   refine ⟨b,o+k,rfl,hb,fun i hi=> ?_⟩;have e3:nth (xs.drop k) i=nth xs (k+i):=by unfold nth;simp [List.getD]
   rw [e3,jb];exact hc (k+i) (by omega),fun i=>by
   have e3:nth (xs.drop k) i=nth xs (k+i):=by unfold nth;simp [List.getD]
   rw [e3];exact h.ok (k+i)⟩
def Rs {zs:List Int} {u v K:Nat}(h:bY zs) (hz:limbs zs<2^(64*u)*2^(64*v)) (hK:u+v<=K):zs.length<=K:=by
 rcases jM zs.length with h0 | h0
 . omega
 . have h1:=h.low h0
   rw [<- iD] at hz;by_cases hl:zs.length<=K
   . exact hl
   . exfalso
     have h3:2^(64*u+64*v)<=2^(64*(zs.length-1)):=fP (by omega) (by omega);omega
def DW (n m:Nat) (xs ys:List Int) (w:World) (e:Ending) (w':World):Prop:=∃zs,bY zs∧limbs zs=limbs xs*limbs ys∧zs.length<=n+m+1∧qw w zs e w'
def Zb (w:World) (ts:Array TypeId) (t:TypeId) (k k':IntKind) (x y:Int):(Builtin.min_ ts t #[.int k x,.int k' y]).run P w=.ok (.int k (min x y)) w:=by
 rw [run_min_int2,show min x y=if y<x then y else x by split<;>omega]
def Kj (b o p c:Nat):sliced (some ⟨b,o,none⟩) 0 p c 1=.slice (some ⟨b,o,none⟩) p c:=by
 unfold sliced;split
 . rename_i h;subst h;rfl
 . show Value.slice (some ⟨b,o+0*1,none⟩) _ _=_
   simp
def Ii (h:aD w (some ⟨b,o,none⟩) n xs) (hp:p<=n) (hc:n<=c):∃A1,sliced (some ⟨b,o,none⟩) p n c 1=.slice A1 (n-p) (c-p)∧aD w A1 (n-p) (xs.drop p):=by
 have h1:=Mt h hp;unfold sliced;split
 . have e:n-p=0:=by omega
   refine ⟨_,rfl,h1.len,fun hn=>by omega,h1.ok⟩
 . refine ⟨some ⟨b,o+p,none⟩,?_,h1⟩
   show Value.slice (some (Addr.add ⟨b,o,none⟩ (p*1))) _ _=_;rw [bl,j5]
def Ig (hl:xs.length=n) (hp:p=h∧h<=n∨p=n∧n<=h):limbs xs=limbs (xs.take p)+2^(64*h)*limbs (xs.drop p):=by
 rcases hp with ⟨rfl,h2⟩ | ⟨rfl,h2⟩
 . exact ru xs (by omega)
 . rw [<- hl,L4,List.drop_length]
   show _=_+_*0;omega
attribute [-go_sem] run_min_int2 run_max_int2 sliced
attribute [local go_sem] Zb BH
def aao (A B:Option Addr) (n m c d:Nat) (xs ys:List Int) (w:World) (hx:aD w A n xs) (hy:aD w B m ys) (jV:n<=c) (hc:c<=9223372036854775807) (nk:m<=d) (hd:d<=9223372036854775807) (hn:n<=4000000000000) (hm:m<=4000000000000) (hu:8<=cU xs n) (hv:8<=cU ys m)
 (ih:∀(A B:Option Addr) (n' m' c d:Nat) (xs' ys':List Int) (w:World),cU xs' n'+cU ys' m'<cU xs n+cU ys m->aD w A n' xs'->aD w B m' ys'->n'<=c->c<=9223372036854775807->m'<=d->d<=9223372036854775807->n'<=4000000000000->m'<=4000000000000->aB 106 #[.slice A n' c,.slice B m' d] w (DW n' m' xs' ys' w)):
 aB 106 #[.slice A n c,.slice B m d] w (DW n m xs ys w):=by
 have kR:=hx.len;have wM:=hy.len;have l1:=cS xs n;have l2:=cS ys m;obtain ⟨p1,p2⟩:=bF hx.ok kR;obtain ⟨q1,q2⟩:=bF hy.ok wM;have Hx:=aA (hx.take l1);have Hy:=aA (hy.take l2);have C1:=aA (cH A n c xs w hx jV hc);have C2:=aA (cH B m d ys w hy nk hd);have Ih:=aA ih;obtain ⟨b,o,rfl,hb,cN⟩:=hx.at_ (by omega);obtain ⟨b',o',rfl,nI,azt⟩:=hy.at_ (by omega);clear hb cN nI azt;have P2:=aA p2;have Q2:=aA q2;clear hx hy p1 q1 kR wM ih p2 q2;generalize cU xs n=u at*
 generalize cU ys m=v at*
 generalize xs.take u=us at*
 generalize ys.take v=vs at*
 obtain ⟨MN,hMN⟩:∃M:Int,min (u:Int) (v:Int)=M:=⟨_,rfl⟩;obtain ⟨MX,hMX⟩:∃M:Int,max (u:Int) (v:Int)=M:=⟨_,rfl⟩;obtain ⟨h,hh⟩:∃h:Nat,MX / 2=(h:Int):=⟨(max u v) / 2,by omega⟩;obtain ⟨p,hp⟩:∃p:Nat,min (h:Int) (u:Int)=(p:Int):=⟨min h u,by omega⟩;obtain ⟨r,hr⟩:∃r:Nat,min (h:Int) (v:Int)=(r:Int):=⟨min h v,by omega⟩;have hM8:¬MN<8:=by omega
 have hpu:p=h∧h<=u∨p=u∧u<=h:=by omega
 have hrv:r=h∧h<=v∨r=v∧v<=h:=by omega
 have h4:4<=p∧4<=r∧2*h<=max u v∧h<=2000000000000:=by omega
 have afX:p<=u:=by omega
 have afW:r<=v:=by omega
 obtain ⟨A1,e1,Ha1⟩:=Ii Hx.o afX (c:=c) (by omega);obtain ⟨B1,f1,Jo⟩:=Ii Hy.o afW (c:=d) (by omega);have e0:=Kj b o p c;have f0:=Kj b' o' r d;have Cp:Hid (∀N,aB 112 #[.slice (some ⟨b,o,none⟩) p c] (w.drewN N) fun e w2=>e=.returned (.slice (some ⟨b,o,none⟩) (cU (us.take p) p) c)∧w2=w.drewN N):=fun N=>cH _ p c _ _ ((Hx.o.take afX).drewN N) (by omega) hc;have Cq:Hid (∀N,aB 112 #[.slice (some ⟨b',o',none⟩) r d] (w.drewN N) fun e w2=>e=.returned (.slice (some ⟨b',o',none⟩) (cU (vs.take r) r) d)∧w2=w.drewN N):=fun N=>cH _ r d _ _ ((Hy.o.take afW).drewN N) (by omega) hd;have rT:=cS (us.take p) p;have RY:=cS (vs.take r) r;obtain ⟨pa1,pa2⟩:=bF (Hx.o.take afX).ok (n:=p) (by rw [cQ,Hx.o.len];omega);obtain ⟨pb1,pb2⟩:=bF (Hy.o.take afW).ok (n:=r) (by rw [cQ,Hy.o.len];omega);have WE:=(Hx.o.take afX).take rT;have rF:=(Hy.o.take afW).take RY;have eU:Hid (limbs us=limbs ((us.take p).take (cU (us.take p) p))+2^(64*h)*limbs (us.drop p)):=by show _=_;rw [pa2];exact Ig Hx.o.len hpu
 have eV:Hid (limbs vs=limbs ((vs.take r).take (cU (vs.take r) r))+2^(64*h)*limbs (vs.drop r)):=by show _=_;rw [pb2];exact Ig Hy.o.len hrv
 have uLt:Hid (limbs us<2^(64*u)):=by have:=dc Hx.o.ok;rwa [Hx.o.len] at this
 have vLt:Hid (limbs vs<2^(64*v)):=by have:=dc Hy.o.ok;rwa [Hy.o.len] at this
 have sa:=sF WE.ok Ha1.ok;rw [WE.len,Ha1.len] at sa;have saL:=sa.2;have sb:=sF rF.ok Jo.ok;rw [rF.len,Jo.len] at sb;have sbL:=sb.2;have HP:=aA hpu;have HR:=aA hrv;have H4:=aA h4;clear sa sb pa1 pa2 pb1 pb2 Hx Hy hpu hrv h4;generalize (us.take p).take (cU (us.take p) p)=a0s at*
 generalize us.drop p=a1s at*
 generalize cU (us.take p) p=i0 at*
 generalize (vs.take r).take (cU (vs.take r) r)=b0s at*
 generalize vs.drop r=b1s at*
 generalize cU (vs.take r) r=j0 at*
 have Ha0:=aA WE;have Ha1:=aA Ha1;have Hb0:=aA rF;have Jo:=aA Jo;clear WE rF;have g1:(0:Int)<=(p:Int):=by omega
 have g2:(p:Int)<=(c:Int):=by omega
 have g3:(p:Int)<=(u:Int):=by omega
 have g4:(0:Int)<=(r:Int):=by omega
 have g5:(r:Int)<=(d:Int):=by omega
 have g6:(r:Int)<=(v:Int):=by omega
 go_enter func106,ntmps106
 go_wp2_with fail
 refine C1.o.mono ?_;rintro e w' ⟨rfl,rfl⟩;go_wp2_with fail
 refine C2.o.mono ?_;rintro e w' ⟨rfl,rfl⟩;go_wp2_with fail
 rw [hh];go_quiet ((go_at_call 112;first | exact gG ((Cp.o _).mono fun _ _ h=>⟨h.1,h.2.symm⟩) | exact jf ((Cp.o _).mono fun _ _ h=>⟨h.1,h.2.symm⟩)))
 clear e0 e1 hp g1 g2 g3 Cp;obtain ⟨nq1,rfl⟩:∃N:Nat,N=nq:=⟨_,rfl⟩;go_wp2_with fail
 go_quiet ((go_at_call 112;first | exact gG ((Cq.o _).mono fun _ _ h=>⟨h.1,h.2.symm⟩) | exact jf ((Cq.o _).mono fun _ _ h=>⟨h.1,h.2.symm⟩)))
 clear f0 f1 hr g4 g5 g6 Cq;have qp:Below w'.heap.size w' ((w'.drewN nq1).drewN nq):=below_drewN (below_drewN aU _) _;replace Ha0:=aA (Ha0.o.aC qp)
 replace Ha1:=aA (Ha1.o.aC qp)
 replace Hb0:=aA (Hb0.o.aC qp)
 replace Jo:=aA (Jo.o.aC qp)
 have ZB:=aA qp;clear qp;generalize (w'.drewN nq1).drewN nq=w2 at*
 have HA:i0+j0<u+v∧u-p+(v-r)<u+v∧max i0 (u-p)+max j0 (v-r)+2<u+v∧2*h<=4000000000000∧4<=p∧4<=r∧max i0 (u-p)<=2000000000001∧max j0 (v-r)<=2000000000001:=by
  have:=HP.o;have:=HR.o;have:=H4.o;omega
 obtain ⟨jQ,Yt,OH,hd4,hd5,hd6,hd7,hd8⟩:=HA;have Clo:=aA (Ih.o (some ⟨b,o,none⟩) (some ⟨b',o',none⟩) i0 j0 c d a0s b0s w2 (by have:=cS a0s i0;have:=cS b0s j0;omega) Ha0.o Hb0.o (by omega) hc (by omega) hd (by omega) (by omega));go_wp2_with fail
 refine Clo.o.mono ?_;rintro e w3 ⟨lo,lo1,lo2,lo3,A3,n3,c3,rfl,r1,r2,r3,_,r5⟩;clear Clo;have Ch:=aA (Ih.o A1 B1 (u-p) (v-r) (c-p) (d-r) a1s b1s w3 (by have:=cS a1s (u-p);have:=cS b1s (v-r);omega) (Ha1.o.aC r5) (Jo.o.aC r5) (by omega) (by omega) (by omega) (by omega) (by omega) (by omega));have HA0:=aA (Ha0.o.aC r5);have HA1:=aA (Ha1.o.aC r5);have U2:=aA (Hb0.o.aC r5);have wu:=aA (Jo.o.aC r5);have Hlo:=aA r3;have ajH:Hid (Below w'.heap.size w' w3):=ZB.o.tm r5;have Elo:=aA lo2;clear r3 r5 Ha0 Ha1 Hb0 Jo ZB lo2;go_wp2_with fail
 refine Ch.o.mono ?_;rintro e w4 ⟨hi,hi1,V6,hi3,A4,n4,c4,rfl,s1,s2,s3,_,s5⟩;clear Ch;have atd:=aA (Hlo.o.aC s5);have Hhi:=aA s3;have Ehi:=aA V6;have Ca:=aA (Bd (some ⟨b,o,none⟩) A1 i0 (u-p) c (c-p) a0s a1s w4 (HA0.o.aC s5) (HA1.o.aC s5) (by omega) (by omega));have atI:=aA (U2.o.aC s5);have ahB:=aA (wu.o.aC s5);have ajG:Hid (Below w'.heap.size w' w4):=ajH.o.tm s5;clear s3 s5 HA0 HA1 U2 wu Hlo ajH V6;go_wp2_with fail
 refine Ca.o.mono ?_;rintro e w5 ⟨A5,n5,c5,rfl,t1,t2,t3,_,t5⟩;clear Ca;have Cb:=aA (Bd (some ⟨b',o',none⟩) B1 j0 (v-r) d (d-r) b0s b1s w5 (atI.o.aC t5) (ahB.o.aC t5) (by omega) (by omega));have Hsa:=aA t3;have atc:=aA (atd.o.aC t5);have ato:=aA (Hhi.o.aC t5);have ajF:Hid (Below w'.heap.size w' w5):=ajG.o.tm t5;clear t3 t5 atI ahB atd Hhi ajG;go_wp2_with fail
 refine Cb.o.mono ?_;rintro e w6 ⟨A6,n6,c6,rfl,x1,x2,x3,_,x5⟩;clear Cb;have hl5:n5<=max i0 (u-p)+1:=by have:=Hsa.o.len;have:=saL.2;omega
 have hl6:n6<=max j0 (v-r)+1:=by have:=x3.len;have:=sbL.2;omega
 have Cm:=aA (Ih.o A5 A6 n5 n6 c5 c6 (DD a0s a1s) (DD b0s b1s) w6 (by have:=cS (DD a0s a1s) n5;have:=cS (DD b0s b1s) n6;omega) (Hsa.o.aC x5) x3 t1 t2 x1 x2 (by omega) (by omega));have ahs:=aA (atc.o.aC x5);have ank:=aA (ato.o.aC x5);have ajE:Hid (Below w'.heap.size w' w6):=ajF.o.tm x5;clear x3 x5 Hsa atc ato ajF;go_wp2_with fail
 refine Cm.o.mono ?_;rintro e w7 ⟨mm,mm1,mm2,mm3,A7,n7,c7,rfl,y1,y2,y3,_,y5⟩;clear Cm;have em:limbs mm=(limbs a0s+limbs a1s)*(limbs b0s+limbs b1s):=by rw [mm2,saL.1,sbL.1]
 have aqy:limbs lo<=limbs mm:=by rw [em,Elo.o,bO,ak];omega
 have aKr:=ahs.o.len;have aKq:=ank.o.len;have aKp:=y3.len;have Cs:=aA (PS A7 A3 n7 n3 c7 c3 mm lo w7 y3 (ahs.o.aC y5) (by omega) (by omega) aqy);have sp1:=pF mm1.1 lo1.1 aqy;have atb:=aA (ahs.o.aC y5);have anj:=aA (ank.o.aC y5);have ajD:Hid (Below w'.heap.size w' w7):=ajE.o.tm y5;have Em:=aA em;have Sp1:=aA sp1;clear y3 y5 ahs ank ajE em sp1 mm2;go_wp2_with fail
 refine Cs.o.mono ?_;rintro e w8 ⟨A8,n8,c8,rfl,z1,z2,z3,_,z5⟩;clear Cs;have agf:limbs hi<=limbs (sH mm lo):=by rw [Sp1.o.2.2.1,Em.o,Elo.o,Ehi.o,bO,ak,ak];omega
 have aKo:=z3.len;have aKh:=Sp1.o.2.2.2;have Cs:=aA (PS A8 A4 n8 n4 c8 c4 (sH mm lo) hi w8 z3 (anj.o.aC z5) (by omega) (by omega) agf);have Sp2:=aA (pF Sp1.o.2.1.1 hi1.1 agf);have ata:=aA (atb.o.aC z5);have atn:=aA (anj.o.aC z5);have ajC:Hid (Below w'.heap.size w' w8):=ajD.o.tm z5;clear z3 z5 atb anj ajD;go_wp2_with fail
 refine Cs.o.mono ?_;rintro e w9 ⟨A9,n9,c9,rfl,p1,p2,p3,_,p5⟩;clear Cs;have aKn:=p3.len;have aKg:=Sp2.o.2.2.2;have Cv:=aA (Kz A9 n9 c9 (sH (sH mm lo) hi) h w9 p3 (by omega) (by omega));have asZ:=aA (ata.o.aC p5);have atm:=aA (atn.o.aC p5);have ajB:Hid (Below w'.heap.size w' w9):=ajC.o.tm p5;clear p3 p5 ata atn ajC;go_wp2_with fail
 refine Cv.o.mono ?_;rintro e wA ⟨AA,nA,cA,rfl,a1,a2,a3,_,a5⟩;clear Cv;have axY:=a3.len;rw [eC,fQ] at axY;have Cd:=aA (Bd A3 AA n3 nA c3 cA lo _ wA (asZ.o.aC a5) a3 (by omega) (by omega));have Spd:=aA (sF lo1.1 (BU (k:=h) Sp2.o.2.1.1));have atl:=aA (atm.o.aC a5);have ajA:Hid (Below w'.heap.size w' wA):=ajB.o.tm a5;clear a3 a5 asZ atm ajB;go_wp2_with fail
 refine Cd.o.mono ?_;rintro e wB ⟨AB,nB,cB,rfl,b1',b2',b3',_,b5'⟩;clear Cd;have aKm:=b3'.len;have axR:=Spd.o.2.2;rw [eC,fQ] at axR;have hh2:Hid (2*(h:Int)=((2*h:Nat):Int)):=by show _=_;omega
 have hh3:IntKind.i64.wrap (2*(h:Int))=2*(h:Int):=bP _ (by omega);have Cv:=aA (Kz A4 n4 c4 hi (2*h) wB (atl.o.aC b5') (by omega) (by omega));rw [<- hh2.o] at Cv;have HsB:=aA b3';have ajz:Hid (Below w'.heap.size w' wB):=ajA.o.tm b5';clear b3' b5' atl ajA;go_wp2_with fail
 refine Cv.o.mono ?_;rintro e wC ⟨AC,nC,cC,rfl,f1,f2,f3,_,f5⟩;clear Cv;have axX:=f3.len;rw [eC,fQ] at axX;have Cd:=aA (Bd AB AC nB nC cB cC _ _ wC (HsB.o.aC f5) f3 (by omega) (by omega));have Spe:=aA (sF Spd.o.1.1 (BU (k:=2*h) hi1.1));have adO:Hid (Below w'.heap.size w' wC):=ajz.o.tm f5;clear f3 f5 HsB ajz hh3;go_wp2_with fail
 refine Cd.o.mono ?_;rintro e wD ⟨AD,nD,cD,rfl,h1,h2,h3,h4,h5⟩;clear Cd;have Fin:Hid (DW n m xs ys w' (.returned (.slice AD nD cD)) wD):=by
  have ev:limbs (DD (DD lo (List.replicate h 0++sH (sH mm lo) hi)) (List.replicate (2*h) 0++hi))=limbs us*limbs vs:=by
   rw [Spe.o.2.1,Spd.o.2.1,Fa,Fa,Sp2.o.2.2.1,Sp1.o.2.2.1];have hk:=awK (a0:=limbs a0s) (a1:=limbs a1s) (b0:=limbs b0s) (b1:=limbs b1s) (p:=2^(64*h)) (l:=limbs lo) (h:=limbs hi) (m:=limbs mm-limbs lo-limbs hi) Elo.o Ehi.o (by rw [Em.o]);rw [show 2^(64*(2*h))=2^(64*h)*2^(64*h) by rw [<- iD];congr 1;omega,hk,<- eU.o,<- eV.o]
  refine ⟨_,Spe.o.1,by rw [ev,P2.o,Q2.o],?_,AD,nD,cD,rfl,h1,h2,h3,fun x hx=> ?_,adO.o.tm h5⟩
  . exact Rs Spe.o.1 (by rw [ev];exact Lu uLt.o vLt.o) (by omega)
  . have:=h4 x hx;have:=adO.o.size;omega
 clear h3 h4 h5 adO;go_wp2_with fail
 go_ret;exact Fin.o
def aap (A B:Option Addr) (n m c d:Nat) (xs ys:List Int) (w:World) (hx:aD w A n xs) (hy:aD w B m ys) (jV:n<=c) (hc:c<=9223372036854775807) (nk:m<=d) (hd:d<=9223372036854775807) (hn:n<=4000000000000) (hm:m<=4000000000000) (hs:cU xs n<8∨cU ys m<8):
 aB 106 #[.slice A n c,.slice B m d] w fun e w'=>∃zs,bY zs∧limbs zs=limbs xs*limbs ys∧zs.length<=n+m+1∧qw w zs e w':=by
 have kR:=hx.len;have wM:=hy.len;have l1:=cS xs n;have l2:=cS ys m;obtain ⟨p1,p2⟩:=bF hx.ok kR;obtain ⟨q1,q2⟩:=bF hy.ok wM;have Hx:=aA (hx.take l1);have Hy:=aA (hy.take l2);have C1:=aA (cH A n c xs w hx jV hc);have C2:=aA (cH B m d ys w hy nk hd);have Cs:=aA (SQ A B (cU xs n) (cU ys m) c d _ _ w Hx.o Hy.o (by omega) (by omega));have aBr:Hid (∀zs,Uv (xs.take (cU xs n)) (ys.take (cU ys m)) zs->bY zs∧limbs zs=limbs xs*limbs ys∧zs.length<=n+m+1):=fun zs h=>⟨h.pl,by rw [h.eq,p2,q2],by have:=h.len;rw [cQ,cQ] at this;omega⟩;clear hx hy p1 p2 q1 q2 Hx Hy kR wM;generalize cU xs n=u at*
 generalize cU ys m=v at*
 obtain ⟨MN,hMN⟩:∃M:Int,min (u:Int) (v:Int)=M:=⟨_,rfl⟩;have h8:MN<8:=by omega
 clear hs;go_enter func106,ntmps106
 go_wp2_with fail
 refine C1.o.mono ?_;rintro e w' ⟨rfl,rfl⟩;go_wp2_with fail
 refine C2.o.mono ?_;rintro e w' ⟨rfl,rfl⟩;go_wp2_with fail
 refine Cs.o.mono ?_;rintro e w1 ⟨zs,hz,A1,k1,c1,rfl,g1,g2,g3,g4,g5⟩;obtain ⟨r1,r2,r3⟩:=aBr.o zs hz;go_wp2_with fail
 go_ret;exact ⟨zs,r1,r2,r3,A1,k1,c1,rfl,g1,g2,g3,g4,g5⟩
def PR (k:Nat):∀(A B:Option Addr) (n m c d:Nat) (xs ys:List Int) (w:World),cU xs n+cU ys m<k->aD w A n xs->aD w B m ys->n<=c->c<=9223372036854775807->m<=d->d<=9223372036854775807->n<=4000000000000->m<=4000000000000->aB 106 #[.slice A n c,.slice B m d] w (DW n m xs ys w):=by
 induction k with
 | zero=>intro _ _ _ _ _ _ _ _ _ h;omega
 | succ k ih=>
   intro A B n m c d xs ys w hk hx hy jV hc nk hd hn hm;have ih':=fun A B n' m' c d xs' ys' w (h:cU xs' n'+cU ys' m'<cU xs n+cU ys m)=>ih A B n' m' c d xs' ys' w (by omega);by_cases hs:cU xs n<8∨cU ys m<8
   . exact aap A B n m c d xs ys w hx hy jV hc nk hd hn hm hs
   . exact aao A B n m c d xs ys w hx hy jV hc nk hd hn hm (by omega) (by omega) ih'
