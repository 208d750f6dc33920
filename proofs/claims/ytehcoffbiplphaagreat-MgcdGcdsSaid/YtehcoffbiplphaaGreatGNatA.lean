import Derived.Test.YtehcoffbiplphaaGreatGLims
import Derived.Shelf.Spec.BitsCarry
import Derived.Test.YtehcoffbiplphaaGreatGMul64
set_option linter.all false
set_option maxHeartbeats 4000000
set_option maxRecDepth 100000
namespace Go.Proofs.YtehcoffbiplphaaGreat
open Go.Proofs.Tryz
open Go.RowKit
variable {xs ys:List Int} {w:World} {n a b k p h o:Nat} {P:Program}
def yU (x y c:Nat) (hc:c<=1) (w:World):(callFunc 123 #[.int .u64 (x:Int),.int .u64 (y:Int),.int .u64 (c:Int)]).run prog w=
 .ok (.value (.tuple #[.int .u64 (((x+y+c) % 18446744073709551616:Nat):Int),.int .u64 (((x+y+c) / 18446744073709551616:Nat):Int)])) w:=by
 rw [abW func123 (by kernel_rfl) (by kernel_rfl) (by kernel_rfl) (e:=add64Entry) (by kernel_rfl),run_add64 x y c (by omega) (by omega) (by omega) (by omega)];simp only [Result.andThen];congr 5<;>omega
def WL (x y b:Nat) (hb:b<=1) (w:World):(callFunc 127 #[.int .u64 (x:Int),.int .u64 (y:Int),.int .u64 (b:Int)]).run prog w=
 .ok (.value (.tuple #[.int .u64 (((x+18446744073709551616-y-b) % 18446744073709551616:Nat):Int),.int .u64 ((if x<y+b then 1 else 0:Nat):Int)])) w:=by
 rw [abW func127 (by kernel_rfl) (by kernel_rfl) (by kernel_rfl) (e:=sub64Entry) (by kernel_rfl),run_sub64 x y b hb];rfl
def Gr (A:Option Addr) (n c:Nat) (xs:List Int) (k:Nat) (w:World) (hx:aD w A n xs) (hn:n<=9223372036854775807) (hk:k<=9223372036854775807):
 aC 124 #[.slice A n c,.int .i64 (k:Int)] w fun e w'=>e=.returned (.int .u64 (nth xs k))∧w=w':=by
 by_cases hlt:k<n
 . obtain ⟨b,o,rfl,hb,hc⟩:=hx.at_ (by omega)
   have h1:=hc k hlt;have dI:(k:Int)<(n:Int):=by omega
   have wP:(0:Int)<=(k:Int):=by omega
   clear hc hx;go_enter func124,ntmps124
   go_wp2
   go_ret;exact ⟨rfl,rfl⟩
 . have dI:¬(k:Int)<(n:Int):=by omega
   have hz:Hid (nth xs k=0):=cW (by rw [hx.len];omega);clear hx;go_enter func124,ntmps124
   go_wp2
   go_ret;rw [hz.o];exact ⟨rfl,rfl⟩
def ZZ (A B:Option Addr) (n m c d ga gb:Nat) (xs ys:List Int) (k q:Nat) (w:World) (ha:w.cell? ⟨ga,0,none⟩=some (.slice A n c)) (hb:w.cell? ⟨gb,0,none⟩=some (.slice B m d)) (hx:aD w A n xs) (hy:aD w B m ys)
 (hn:n<=9223372036854775807) (hm:m<=9223372036854775807) (hk:k<=9223372036854775807) (hq:q<=1):
 aC 122 #[.int .i64 (k:Int),.int .u64 (q:Int),.pointer (some ⟨ga,0,none⟩),.pointer (some ⟨gb,0,none⟩)] w fun e w'=>e=.returned (.tuple #[.int .u64 ((jd xs ys k q).1:Int),.int .u64 ((jd xs ys k q).2:Int)])∧∃j,w'=w.drewN j:=by
 have C1:=aA (fun W (h:aD W A n xs)=>Gr A n c xs k W h hn hk);have C2:=aA (fun W (h:aD W B m ys)=>Gr B m d ys k W h hm hk);have h1:=hx.ok k;have h2:=hy.ok k;obtain ⟨u,hu⟩:∃u:Nat,nth xs k=(u:Int):=⟨(nth xs k).toNat,by omega⟩;obtain ⟨v,hv⟩:∃v:Nat,nth ys k=(v:Int):=⟨(nth ys k).toNat,by omega⟩;have qa:∀W,(callFunc 123 #[.int .u64 (u:Int),.int .u64 (v:Int),.int .u64 (q:Int)]).run prog W=.ok (.value (.tuple #[.int .u64 ((jd xs ys k q).1:Int),.int .u64 ((jd xs ys k q).2:Int)])) W:=fun W=>by
  rw [yU u v q hq W];unfold jd;simp only [hu,hv,jY]
 rw [hu] at C1;rw [hv] at C2;generalize (jd xs ys k q).1=r1 at*
 generalize (jd xs ys k q).2=r2 at*
 have Hx:=aA hx;have Hy:=aA hy;clear hu hv h1 h2 hx hy;go_enter func122,ntmps122
 go_wp2_with fail
 go_quiet (first
  | ((go_at_call 124);(with_reducible show Calls _ _ #[.slice A n c,_] _ _);first | exact fh (C1.o _ (Hx.o.drewN _)) | exact ja (C1.o _ (Hx.o.drewN _)))
  | ((go_at_call 124);(with_reducible show Calls _ _ #[.slice B m d,_] _ _);first | exact fh (C2.o _ (Hy.o.drewN _)) | exact ja (C2.o _ (Hy.o.drewN _))))
 go_wp2_with fail
 go_ret2;exact ⟨rfl,_,rfl⟩
def Og (A B:Option Addr) (n m c d ga gb:Nat) (xs ys:List Int) (k q:Nat) (w:World) (ha:w.cell? ⟨ga,0,none⟩=some (.slice A n c)) (hb:w.cell? ⟨gb,0,none⟩=some (.slice B m d)) (hx:aD w A n xs) (hy:aD w B m ys)
 (hn:n<=9223372036854775807) (hm:m<=9223372036854775807) (hk:k<=9223372036854775807) (hq:q<=1):
 aC 126 #[.int .i64 (k:Int),.int .u64 (q:Int),.pointer (some ⟨ga,0,none⟩),.pointer (some ⟨gb,0,none⟩)] w fun e w'=>e=.returned (.tuple #[.int .u64 ((jL xs ys k q).1:Int),.int .u64 ((jL xs ys k q).2:Int)])∧∃j,w'=w.drewN j:=by
 have C1:=aA (fun W (h:aD W A n xs)=>Gr A n c xs k W h hn hk);have C2:=aA (fun W (h:aD W B m ys)=>Gr B m d ys k W h hm hk);have h1:=hx.ok k;have h2:=hy.ok k;obtain ⟨u,hu⟩:∃u:Nat,nth xs k=(u:Int):=⟨(nth xs k).toNat,by omega⟩;obtain ⟨v,hv⟩:∃v:Nat,nth ys k=(v:Int):=⟨(nth ys k).toNat,by omega⟩;have qa:∀W,(callFunc 127 #[.int .u64 (u:Int),.int .u64 (v:Int),.int .u64 (q:Int)]).run prog W=.ok (.value (.tuple #[.int .u64 ((jL xs ys k q).1:Int),.int .u64 ((jL xs ys k q).2:Int)])) W:=fun W=>by
  rw [WL u v q hq W];unfold jL;simp only [hu,hv,jY]
 rw [hu] at C1;rw [hv] at C2;generalize (jL xs ys k q).1=r1 at*
 generalize (jL xs ys k q).2=r2 at*
 have Hx:=aA hx;have Hy:=aA hy;clear hu hv h1 h2 hx hy;go_enter func126,ntmps126
 go_wp2_with fail
 go_quiet (first
  | ((go_at_call 124);(with_reducible show Calls _ _ #[.slice A n c,_] _ _);first | exact fh (C1.o _ (Hx.o.drewN _)) | exact ja (C1.o _ (Hx.o.drewN _)))
  | ((go_at_call 124);(with_reducible show Calls _ _ #[.slice B m d,_] _ _);first | exact fh (C2.o _ (Hy.o.drewN _)) | exact ja (C2.o _ (Hy.o.drewN _))))
 go_wp2_with fail
 go_ret2;exact ⟨rfl,_,rfl⟩
section
variable (p1 p2:Option Addr) (f:Nat->Nat->Nat×Nat)
include p1 p2 f
theorem MH (n cb:Nat) (w:World) (hn:n<=17500000000000) (VH:∀k,k<=n->(aN f k).2<cb)
 (hF:∀(k c:Nat) (W:World),k<n->c<cb->Below w.heap.size w W->aC 122 #[.int .i64 (k:Int),.int .u64 (c:Int),.pointer p1,.pointer p2] W fun e w'=>e=.returned (.tuple #[.int .u64 ((f k c).1:Int),.int .u64 ((f k c).2:Int)])∧∃j,w'=W.drewN j):
 aC 121 #[.int .i64 (n:Int),.func (.func 122) #[] #[.pointer p1,.pointer p2]] w fun e w'=>e=.returned (.tuple #[.slice (some ⟨w.heap.size,0,none⟩) n n,.int .u64 ((aN f n).2:Int)])∧eR w' w.heap.size 38 (aN f n).1∧Below w.heap.size w w':=by
 obtain ⟨i0,hi,iQ,iC,iP⟩:=dJ cN;have Ck:=ej underlying39 hi iQ iC iP n (by omega) w;have HF:=aA hF;have Hfc:=aA VH;have oK:Hid (eR (w.alloc (.cells (au (List.replicate n 0)).toArray 38)) w.heap.size 38 (rR f n 0)):=by
  show eR _ _ _ _;rw [um];exact eR.new w _ _
 have ox:Below w.heap.size w (w.alloc (.cells (au (List.replicate n 0)).toArray 38)):=aW.alloc aK _;clear hF VH;generalize (au (List.replicate n 0)).toArray=cs at*
 go_enter func121,ntmps121
 go_wp2_with fail
 clear Ck;go_loopw [7,13] (fun cv i wr=>∃k:Nat,k<=n∧cv=.int .u64 ((aN f k).2:Int)∧i=.int .i64 (k:Int)∧Hid (eR wr w.heap.size 38 (rR f n k))∧Below w.heap.size w wr) (fun _ i _=>n-(intOf i).toNat)
 case atStart=>exact ⟨0,by omega,rfl,rfl,oK,ox⟩
 case round=>
  obtain ⟨k,hk,rfl,rfl,bH,bD⟩:=hrel;by_cases hlt:k<n
  . have dI:(k:Int)<(n:Int):=by omega
    (have wP:(0:Int)<=(k:Int):=by omega);have hc:=Hfc.o k hk;have C:=aA (HF.o k (aN f k).2 wr hlt hc bD);have e2:Hid ((aN f (k+1)).2=(f k (aN f k).2).2):=rfl;have lD:=bH.o.set k ((f k (aN f k).2).1:Int);rw [xN f hlt] at lD;have oq:=aA lD;have Bk:=bH.o.frozen k;have FH:=bH.o.cell (i:=k) (by rw [qg f hk];exact hlt);have VJ:=bD.setCell (p:=⟨w.heap.size,k,none⟩) aK (.int .u64 ((f k (aN f k).2).1:Int));clear lD;generalize hcc:(aN f k).2=q at*
    (go_wp2_with fail);refine C.o.mono ?_;rintro e w1 ⟨rfl,j,rfl⟩;have aeY:(wr.drewN j).frozen? ⟨w.heap.size,k,none⟩=false:=Bk;have afd:(wr.drewN j).cell? ⟨w.heap.size,k,none⟩=some (.int .u64 (nth (rR f n k) k)):=FH;(go_wp2_with fail);go_roundw
    case rel=>exact ⟨k+1,by omega,by rw [e2.o],by go_num,by first | exact oq | exact oq.o.drewN j,by first | exact VJ | exact below_drewN VJ _⟩
    case measure=>simp [intOf];omega
  . obtain rfl:k=n:=by omega
    (have dI:¬(k:Int)<(k:Int):=by omega);have hr:=bH.o;rw [uo] at hr;have Hr:=aA hr;clear hr bH;(go_wp2_with fail);go_ret2;exact ⟨rfl,Hr.o,bD⟩
theorem BG (n cb:Nat) (w:World) (hn:n<=17500000000000) (VH:∀k,k<=n->(aN f k).2<cb)
 (hF:∀(k c:Nat) (W:World),k<n->c<cb->Below w.heap.size w W->aC 126 #[.int .i64 (k:Int),.int .u64 (c:Int),.pointer p1,.pointer p2] W fun e w'=>e=.returned (.tuple #[.int .u64 ((f k c).1:Int),.int .u64 ((f k c).2:Int)])∧∃j,w'=W.drewN j):
 aC 121 #[.int .i64 (n:Int),.func (.func 126) #[] #[.pointer p1,.pointer p2]] w fun e w'=>e=.returned (.tuple #[.slice (some ⟨w.heap.size,0,none⟩) n n,.int .u64 ((aN f n).2:Int)])∧eR w' w.heap.size 38 (aN f n).1∧Below w.heap.size w w':=by
 obtain ⟨i0,hi,iQ,iC,iP⟩:=dJ cN;have Ck:=ej underlying39 hi iQ iC iP n (by omega) w;have HF:=aA hF;have Hfc:=aA VH;have oK:Hid (eR (w.alloc (.cells (au (List.replicate n 0)).toArray 38)) w.heap.size 38 (rR f n 0)):=by
  show eR _ _ _ _;rw [um];exact eR.new w _ _
 have ox:Below w.heap.size w (w.alloc (.cells (au (List.replicate n 0)).toArray 38)):=aW.alloc aK _;clear hF VH;generalize (au (List.replicate n 0)).toArray=cs at*
 go_enter func121,ntmps121
 go_wp2_with fail
 clear Ck;go_loopw [7,13] (fun cv i wr=>∃k:Nat,k<=n∧cv=.int .u64 ((aN f k).2:Int)∧i=.int .i64 (k:Int)∧Hid (eR wr w.heap.size 38 (rR f n k))∧Below w.heap.size w wr) (fun _ i _=>n-(intOf i).toNat)
 case atStart=>exact ⟨0,by omega,rfl,rfl,oK,ox⟩
 case round=>
  obtain ⟨k,hk,rfl,rfl,bH,bD⟩:=hrel;by_cases hlt:k<n
  . have dI:(k:Int)<(n:Int):=by omega
    (have wP:(0:Int)<=(k:Int):=by omega);have hc:=Hfc.o k hk;have C:=aA (HF.o k (aN f k).2 wr hlt hc bD);have e2:Hid ((aN f (k+1)).2=(f k (aN f k).2).2):=rfl;have lD:=bH.o.set k ((f k (aN f k).2).1:Int);rw [xN f hlt] at lD;have oq:=aA lD;have Bk:=bH.o.frozen k;have FH:=bH.o.cell (i:=k) (by rw [qg f hk];exact hlt);have VJ:=bD.setCell (p:=⟨w.heap.size,k,none⟩) aK (.int .u64 ((f k (aN f k).2).1:Int));clear lD;generalize hcc:(aN f k).2=q at*
    (go_wp2_with fail);refine C.o.mono ?_;rintro e w1 ⟨rfl,j,rfl⟩;have aeY:(wr.drewN j).frozen? ⟨w.heap.size,k,none⟩=false:=Bk;have afd:(wr.drewN j).cell? ⟨w.heap.size,k,none⟩=some (.int .u64 (nth (rR f n k) k)):=FH;(go_wp2_with fail);go_roundw
    case rel=>exact ⟨k+1,by omega,by rw [e2.o],by go_num,by first | exact oq | exact oq.o.drewN j,by first | exact VJ | exact below_drewN VJ _⟩
    case measure=>simp [intOf];omega
  . obtain rfl:k=n:=by omega
    (have dI:¬(k:Int)<(k:Int):=by omega);have hr:=bH.o;rw [uo] at hr;have Hr:=aA hr;clear hr bH;(go_wp2_with fail);go_ret2;exact ⟨rfl,Hr.o,bD⟩
theorem BH (n cb:Nat) (w:World) (hn:n<=17500000000000) (VH:∀k,k<=n->(aN f k).2<cb)
 (hF:∀(k c:Nat) (W:World),k<n->c<cb->Below w.heap.size w W->aC 144 #[.int .i64 (k:Int),.int .u64 (c:Int),.pointer p1,.pointer p2] W fun e w'=>e=.returned (.tuple #[.int .u64 ((f k c).1:Int),.int .u64 ((f k c).2:Int)])∧∃j,w'=W.drewN j):
 aC 121 #[.int .i64 (n:Int),.func (.func 144) #[] #[.pointer p1,.pointer p2]] w fun e w'=>e=.returned (.tuple #[.slice (some ⟨w.heap.size,0,none⟩) n n,.int .u64 ((aN f n).2:Int)])∧eR w' w.heap.size 38 (aN f n).1∧Below w.heap.size w w':=by
 obtain ⟨i0,hi,iQ,iC,iP⟩:=dJ cN;have Ck:=ej underlying39 hi iQ iC iP n (by omega) w;have HF:=aA hF;have Hfc:=aA VH;have oK:Hid (eR (w.alloc (.cells (au (List.replicate n 0)).toArray 38)) w.heap.size 38 (rR f n 0)):=by
  show eR _ _ _ _;rw [um];exact eR.new w _ _
 have ox:Below w.heap.size w (w.alloc (.cells (au (List.replicate n 0)).toArray 38)):=aW.alloc aK _;clear hF VH;generalize (au (List.replicate n 0)).toArray=cs at*
 go_enter func121,ntmps121
 go_wp2_with fail
 clear Ck;go_loopw [7,13] (fun cv i wr=>∃k:Nat,k<=n∧cv=.int .u64 ((aN f k).2:Int)∧i=.int .i64 (k:Int)∧Hid (eR wr w.heap.size 38 (rR f n k))∧Below w.heap.size w wr) (fun _ i _=>n-(intOf i).toNat)
 case atStart=>exact ⟨0,by omega,rfl,rfl,oK,ox⟩
 case round=>
  obtain ⟨k,hk,rfl,rfl,bH,bD⟩:=hrel;by_cases hlt:k<n
  . have dI:(k:Int)<(n:Int):=by omega
    (have wP:(0:Int)<=(k:Int):=by omega);have hc:=Hfc.o k hk;have C:=aA (HF.o k (aN f k).2 wr hlt hc bD);have e2:Hid ((aN f (k+1)).2=(f k (aN f k).2).2):=rfl;have lD:=bH.o.set k ((f k (aN f k).2).1:Int);rw [xN f hlt] at lD;have oq:=aA lD;have Bk:=bH.o.frozen k;have FH:=bH.o.cell (i:=k) (by rw [qg f hk];exact hlt);have VJ:=bD.setCell (p:=⟨w.heap.size,k,none⟩) aK (.int .u64 ((f k (aN f k).2).1:Int));clear lD;generalize hcc:(aN f k).2=q at*
    (go_wp2_with fail);refine C.o.mono ?_;rintro e w1 ⟨rfl,j,rfl⟩;have aeY:(wr.drewN j).frozen? ⟨w.heap.size,k,none⟩=false:=Bk;have afd:(wr.drewN j).cell? ⟨w.heap.size,k,none⟩=some (.int .u64 (nth (rR f n k) k)):=FH;(go_wp2_with fail);go_roundw
    case rel=>exact ⟨k+1,by omega,by rw [e2.o],by go_num,by first | exact oq | exact oq.o.drewN j,by first | exact VJ | exact below_drewN VJ _⟩
    case measure=>simp [intOf];omega
  . obtain rfl:k=n:=by omega
    (have dI:¬(k:Int)<(k:Int):=by omega);have hr:=bH.o;rw [uo] at hr;have Hr:=aA hr;clear hr bH;(go_wp2_with fail);go_ret2;exact ⟨rfl,Hr.o,bD⟩
end
def rA (w:World) (xs:List Int) (e:Ending) (w':World):Prop:=
 ∃A n c,e=.returned (.slice A n c)∧n<=c∧c<=9223372036854775807∧aD w' A n xs∧(∀x,A=some x->w.heap.size<=x.block)∧Below w.heap.size w w'
def uQ (xs ys:List Int):List Int:=
 let r:=aN (jd xs ys) (max xs.length ys.length)
 let z:=r.1++[(r.2:Int)]
 z.take (bu z (max xs.length ys.length+1))
def oJ (hx:aQ xs) (hy:aQ ys):bX (uQ xs ys)∧limbs (uQ xs ys)=limbs xs+limbs ys∧(uQ xs ys).length<=max xs.length ys.length+1:=by
 obtain ⟨h1,h2⟩:=CH hx hy (max xs.length ys.length);rw [fL (LI _ _),fL (LH _ _)] at h2;have hl:=bh (jd xs ys) (max xs.length ys.length);have lH:=od (Vb xs ys) (max xs.length ys.length);unfold uQ;generalize aN (jd xs ys) (max xs.length ys.length)=r at*
 obtain ⟨u,v⟩:=r;simp only at h1 h2 hl lH ⊢;have hz:aQ (u++[(v:Int)]):=lH.snoc (by omega) (by omega);obtain ⟨p1,p2⟩:=bF hz (n:=max xs.length ys.length+1) (by rw [eF,hl];rfl);refine ⟨p1,by rw [p2,vT,hl,jY,h2],?_⟩;have:=bS (u++[(v:Int)]) (max xs.length ys.length+1);rw [cS];omega
def vQ (A B:Option Addr) (n m c d:Nat) (xs ys:List Int) (w:World) (hx:aD w A n xs) (hy:aD w B m ys) (hn:n<=8500000000000) (hm:m<=8500000000000):
 aC 87 #[.slice A n c,.slice B m d] w (rA w (uQ xs ys)):=by
 obtain ⟨i0,hi,iQ,iC,iP⟩:=dJ cN;have jq:=hx.len;have uJ:=hy.len;obtain ⟨k,hk⟩:∃k:Nat,k=max n m:=⟨_,rfl⟩;have Bj:k<=8500000000000:=by omega
 have hval:=aA (CH hx.ok hy.ok k);have lH:=aA (od (Vb xs ys) k);have hlen:=aA (bh (jd xs ys) k);have se:Hid (uQ xs ys=((aN (jd xs ys) k).1++[((aN (jd xs ys) k).2:Int)]).take (bu ((aN (jd xs ys) k).1++[((aN (jd xs ys) k).2:Int)]) (k+1))):=by
  show _=_;unfold uQ;rw [jq,uJ,<- hk]
 have XE:Hid (bX (uQ xs ys)):=(oJ hx.ok hy.ok).1;have mW:Below w.heap.size w ((w.alloc (.cells #[.slice A n c] 39)).alloc (.cells #[.slice B m d] 39)):=(aW.alloc aK _).alloc (by simp) _;have ca:((w.alloc (.cells #[.slice A n c] 39)).alloc (.cells #[.slice B m d] 39)).cell? ⟨w.heap.size,0,none⟩=some (.slice A n c):=pN _ _ _ _;have cb:((w.alloc (.cells #[.slice A n c] 39)).alloc (.cells #[.slice B m d] 39)).cell? ⟨w.heap.size+1,0,none⟩=some (.slice B m d):=pO _ _ _ _;have Hx:=aA (hx.aB mW);have Hy:=aA (hy.aB mW);have LN:=aA ca;have Jv:=aA cb;have C:Hid (aC 121 #[.int .i64 (k:Int),.func (.func 122) #[] #[.pointer (some ⟨w.heap.size,0,none⟩),.pointer (some ⟨w.heap.size+1,0,none⟩)]] ((w.alloc (.cells #[.slice A n c] 39)).alloc (.cells #[.slice B m d] 39)) fun e w'=>e=.returned (.tuple #[.slice (some ⟨w.heap.size+1+1,0,none⟩) k k,.int .u64 ((aN (jd xs ys) k).2:Int)])∧eR w' (w.heap.size+1+1) 38 (aN (jd xs ys) k).1∧Below (w.heap.size+1+1) ((w.alloc (.cells #[.slice A n c] 39)).alloc (.cells #[.slice B m d] 39)) w'):=by
  have h:=MH (some ⟨w.heap.size,0,none⟩) (some ⟨w.heap.size+1,0,none⟩) (jd xs ys) k 2 ((w.alloc (.cells #[.slice A n c] 39)).alloc (.cells #[.slice B m d] 39)) (by omega) (fun j hj=>by have:=(CH hx.ok hy.ok j).1;omega) (fun j q W hj hq hW=> ?_)
  . simp only [aJ] at h
    exact h
  . have hs:=hW.size
    simp only [aJ] at hs hW;exact ZZ A B n m c d w.heap.size (w.heap.size+1) xs ys j q W ((hW.cell (p:=⟨w.heap.size,0,none⟩) (by show w.heap.size<_;omega)).trans LN.o) ((hW.cell (p:=⟨w.heap.size+1,0,none⟩) (by show w.heap.size+1<_;omega)).trans Jv.o) (Hx.o.below hW (by simp)) (Hy.o.below hW (by simp)) (by omega) (by omega) (by omega) (by omega)
 clear hx hy jq uJ ca cb LN Jv;rcases Vf m n with X8 | X8 | X8
 . obtain rfl:k=n:=by omega
   have hmx:¬(k:Int)<=(m:Int):=by omega
   have aaq:(m:Int)<(k:Int):=by omega
   clear hk;go_enter func87,ntmps87
   go_wp2_with fail
   refine C.o.mono ?_;rintro e w1 ⟨rfl,bH,dH⟩;have nj:Below w.heap.size w w1:=mW.trans (dH.mono (by omega));have Qf:(aN (jd xs ys) k).2<18446744073709551616:=by have:=hval.o.1;omega
   have Ju:=aA bH;have tZ:w.heap.size+1+1<w1.heap.size:=bH.lt;have jr:Hid (w1.ownsRow (w.heap.size+1+1) 38 1 (.slice (some ⟨w.heap.size+1+1,0,none⟩) k k) k (au (aN (jd xs ys) k).1)):=by
    have h:=bH.own aK (n:=k) (by rw [hlen.o];exact aK) (by rw [hlen.o];unfold maxLen;omega);rw [hlen.o,gZ (by rw [hlen.o];exact aK)] at h;exact h
   clear C bH Hx Hy;generalize (aN (jd xs ys) k).2=q at*
   generalize (aN (jd xs ys) k).1=us at*
   go_wp2_with (at_builtin;refine nv _ (by rfl) _ _ _ (by rfl) (w.heap.size+1+1) 38 i0 _ 1 8 underlying39 hi iQ iC iP rfl (by omega) (.slice (some ⟨w.heap.size+1+1,0,none⟩) k k) k (au us) (by rfl) (jr.o.alloc _) ⟨w1.heap.size,0,none⟩ 1 1 [.int .u64 (q:Int)] (by rfl) (by rfl) (gK (cs:=#[.int .u64 (q:Int)]) (t:=38) (fr:=(0,0)) (bO w1 _)) (by simp [Value.oneCell']) (by omega) (by unfold maxLen;omega) (by omega) (by simp;omega) (w1.heap.size+1) (by simp) ?_;intro gg cap w2 bL aX gO uv)
   have Mp:Below w.heap.size w w2:=((nj.alloc nj.size _)).grown aX (by simp;omega) (fun j hj=>by have:=(jr.o.lt j hj).1;omega);have Ma:au us++[.int .u64 (q:Int)]=au (us++[(q:Int)]):=by rw [dU];rfl
   rw [Ma] at bL;have GC:aD w2 (some ⟨gg,0,none⟩) (k+1) (us++[(q:Int)]):=aD.gi bL (lH.o.snoc (by omega) (by omega));have uB:k+1<=cap∧cap<=9223372036854775807:=by
    rcases bL.2 with ⟨hv,h0⟩ | ⟨g',cap',cur,hv,_,_,ig,wS,_⟩
    . omega
    . injection hv with _ _ e
      unfold maxLen at wS;omega
   have aeW:=(bL.lt gg rfl).1;have Qh:=aA GC;clear bL aX gO uv Ma GC hval;go_wp2_with fail
   refine (bK (some ⟨gg,0,none⟩) (k+1) cap (us++[(q:Int)]) w2 Qh.o uB.1 uB.2).mono ?_;rintro e w3 ⟨rfl,rfl⟩;have oL:=bS (us++[(q:Int)]) (k+1);go_wp2_with fail
   go_ret;refine ⟨some ⟨gg,0,none⟩,_,cap,rfl,by omega,uB.2,?_,fun x hx=> ?_,Mp⟩
   . rw [se.o]
     exact Qh.o.take oL
   . injection hx with hx
     rw [<- hx];show w.heap.size<=gg;omega
 . obtain rfl:k=n:=by omega
   obtain rfl:k=m:=by omega
   have hmx:max (k:Int) (k:Int)=(k:Int):=by omega
   clear hk;go_enter func87,ntmps87
   go_wp2_with fail
   refine C.o.mono ?_;rintro e w1 ⟨rfl,bH,dH⟩;have nj:Below w.heap.size w w1:=mW.trans (dH.mono (by omega));have Qf:(aN (jd xs ys) k).2<18446744073709551616:=by have:=hval.o.1;omega
   have Ju:=aA bH;have tZ:w.heap.size+1+1<w1.heap.size:=bH.lt;have jr:Hid (w1.ownsRow (w.heap.size+1+1) 38 1 (.slice (some ⟨w.heap.size+1+1,0,none⟩) k k) k (au (aN (jd xs ys) k).1)):=by
    have h:=bH.own aK (n:=k) (by rw [hlen.o];exact aK) (by rw [hlen.o];unfold maxLen;omega);rw [hlen.o,gZ (by rw [hlen.o];exact aK)] at h;exact h
   clear C bH Hx Hy;generalize (aN (jd xs ys) k).2=q at*
   generalize (aN (jd xs ys) k).1=us at*
   go_wp2_with (at_builtin;refine nv _ (by rfl) _ _ _ (by rfl) (w.heap.size+1+1) 38 i0 _ 1 8 underlying39 hi iQ iC iP rfl (by omega) (.slice (some ⟨w.heap.size+1+1,0,none⟩) k k) k (au us) (by rfl) (jr.o.alloc _) ⟨w1.heap.size,0,none⟩ 1 1 [.int .u64 (q:Int)] (by rfl) (by rfl) (gK (cs:=#[.int .u64 (q:Int)]) (t:=38) (fr:=(0,0)) (bO w1 _)) (by simp [Value.oneCell']) (by omega) (by unfold maxLen;omega) (by omega) (by simp;omega) (w1.heap.size+1) (by simp) ?_;intro gg cap w2 bL aX gO uv)
   have Mp:Below w.heap.size w w2:=((nj.alloc nj.size _)).grown aX (by simp;omega) (fun j hj=>by have:=(jr.o.lt j hj).1;omega);have Ma:au us++[.int .u64 (q:Int)]=au (us++[(q:Int)]):=by rw [dU];rfl
   rw [Ma] at bL;have GC:aD w2 (some ⟨gg,0,none⟩) (k+1) (us++[(q:Int)]):=aD.gi bL (lH.o.snoc (by omega) (by omega));have uB:k+1<=cap∧cap<=9223372036854775807:=by
    rcases bL.2 with ⟨hv,h0⟩ | ⟨g',cap',cur,hv,_,_,ig,wS,_⟩
    . omega
    . injection hv with _ _ e
      unfold maxLen at wS;omega
   have aeW:=(bL.lt gg rfl).1;have Qh:=aA GC;clear bL aX gO uv Ma GC hval;go_wp2_with fail
   refine (bK (some ⟨gg,0,none⟩) (k+1) cap (us++[(q:Int)]) w2 Qh.o uB.1 uB.2).mono ?_;rintro e w3 ⟨rfl,rfl⟩;have oL:=bS (us++[(q:Int)]) (k+1);go_wp2_with fail
   go_ret;refine ⟨some ⟨gg,0,none⟩,_,cap,rfl,by omega,uB.2,?_,fun x hx=> ?_,Mp⟩
   . rw [se.o]
     exact Qh.o.take oL
   . injection hx with hx
     rw [<- hx];show w.heap.size<=gg;omega
 . obtain rfl:k=m:=by omega
   have hmx:(n:Int)<=(k:Int):=by omega
   have aaq:(n:Int)<(k:Int):=by omega
   have aoK:¬(k:Int)<=(n:Int):=by omega
   have aoJ:¬(k:Int)<(n:Int):=by omega
   clear hk;go_enter func87,ntmps87
   go_wp2_with fail
   refine C.o.mono ?_;rintro e w1 ⟨rfl,bH,dH⟩;have nj:Below w.heap.size w w1:=mW.trans (dH.mono (by omega));have Qf:(aN (jd xs ys) k).2<18446744073709551616:=by have:=hval.o.1;omega
   have Ju:=aA bH;have tZ:w.heap.size+1+1<w1.heap.size:=bH.lt;have jr:Hid (w1.ownsRow (w.heap.size+1+1) 38 1 (.slice (some ⟨w.heap.size+1+1,0,none⟩) k k) k (au (aN (jd xs ys) k).1)):=by
    have h:=bH.own aK (n:=k) (by rw [hlen.o];exact aK) (by rw [hlen.o];unfold maxLen;omega);rw [hlen.o,gZ (by rw [hlen.o];exact aK)] at h;exact h
   clear C bH Hx Hy;generalize (aN (jd xs ys) k).2=q at*
   generalize (aN (jd xs ys) k).1=us at*
   go_wp2_with (at_builtin;refine nv _ (by rfl) _ _ _ (by rfl) (w.heap.size+1+1) 38 i0 _ 1 8 underlying39 hi iQ iC iP rfl (by omega) (.slice (some ⟨w.heap.size+1+1,0,none⟩) k k) k (au us) (by rfl) (jr.o.alloc _) ⟨w1.heap.size,0,none⟩ 1 1 [.int .u64 (q:Int)] (by rfl) (by rfl) (gK (cs:=#[.int .u64 (q:Int)]) (t:=38) (fr:=(0,0)) (bO w1 _)) (by simp [Value.oneCell']) (by omega) (by unfold maxLen;omega) (by omega) (by simp;omega) (w1.heap.size+1) (by simp) ?_;intro gg cap w2 bL aX gO uv)
   have Mp:Below w.heap.size w w2:=((nj.alloc nj.size _)).grown aX (by simp;omega) (fun j hj=>by have:=(jr.o.lt j hj).1;omega);have Ma:au us++[.int .u64 (q:Int)]=au (us++[(q:Int)]):=by rw [dU];rfl
   rw [Ma] at bL;have GC:aD w2 (some ⟨gg,0,none⟩) (k+1) (us++[(q:Int)]):=aD.gi bL (lH.o.snoc (by omega) (by omega));have uB:k+1<=cap∧cap<=9223372036854775807:=by
    rcases bL.2 with ⟨hv,h0⟩ | ⟨g',cap',cur,hv,_,_,ig,wS,_⟩
    . omega
    . injection hv with _ _ e
      unfold maxLen at wS;omega
   have aeW:=(bL.lt gg rfl).1;have Qh:=aA GC;clear bL aX gO uv Ma GC hval;go_wp2_with fail
   refine (bK (some ⟨gg,0,none⟩) (k+1) cap (us++[(q:Int)]) w2 Qh.o uB.1 uB.2).mono ?_;rintro e w3 ⟨rfl,rfl⟩;have oL:=bS (us++[(q:Int)]) (k+1);go_wp2_with fail
   go_ret;refine ⟨some ⟨gg,0,none⟩,_,cap,rfl,by omega,uB.2,?_,fun x hx=> ?_,Mp⟩
   . rw [se.o]
     exact Qh.o.take oL
   . injection hx with hx
     rw [<- hx];show w.heap.size<=gg;omega
def nZ (xs ys:List Int):List Int:=
 (aN (jL xs ys) (max xs.length ys.length)).1.take (bu (aN (jL xs ys) (max xs.length ys.length)).1 (max xs.length ys.length))
def mG {xs ys:List Int}(hx:aQ xs) (hy:aQ ys) (h:limbs ys<=limbs xs):(aN (jL xs ys) (max xs.length ys.length)).2=0∧bX (nZ xs ys)∧limbs (nZ xs ys)=limbs xs-limbs ys∧(nZ xs ys).length<=max xs.length ys.length:=by
 obtain ⟨h1,h2⟩:=AU hx hy (max xs.length ys.length);rw [fL (LI _ _),fL (LH _ _)] at h2;have hl:=bh (jL xs ys) (max xs.length ys.length);have lH:=od (Ll xs ys) (max xs.length ys.length);have hlt:=eH lH;rw [hl] at hlt;have h0:(aN (jL xs ys) (max xs.length ys.length)).2=0:=by
  rcases jJ (aN (jL xs ys) (max xs.length ys.length)).2 with h3 | h3
  . exact h3
  . have h4:(aN (jL xs ys) (max xs.length ys.length)).2=1:=by omega
    rw [h4,bg] at h2;omega
 rw [h0,jv,je] at h2;unfold nZ;obtain ⟨p1,p2⟩:=bF lH (n:=max xs.length ys.length) hl;refine ⟨h0,p1,by rw [p2];omega,?_⟩;have:=bS (aN (jL xs ys) (max xs.length ys.length)).1 (max xs.length ys.length);rw [cS];omega
def BD (A B:Option Addr) (n m c d:Nat) (xs ys:List Int) (w:World) (hx:aD w A n xs) (hy:aD w B m ys) (hn:n<=8500000000000) (hm:m<=8500000000000) (mS:limbs ys<=limbs xs):
 aC 89 #[.slice A n c,.slice B m d] w fun e w'=>∃A' k c',e=.returned (.tuple #[.slice A' k c',.int .i64 0])∧k<=c'∧c'<=9223372036854775807∧aD w' A' k (nZ xs ys)∧(∀x,A'=some x->w.heap.size<=x.block)∧Below w.heap.size w w':=by
 obtain ⟨i0,hi,iQ,iC,iP⟩:=dJ cN;have jq:=hx.len;have uJ:=hy.len;obtain ⟨k,hk⟩:∃k:Nat,k=max n m:=⟨_,rfl⟩;have Bj:k<=8500000000000:=by omega
 have lH:=aA (od (Ll xs ys) k);have hlen:=aA (bh (jL xs ys) k);have se:Hid (nZ xs ys=(aN (jL xs ys) k).1.take (bu (aN (jL xs ys) k).1 k)):=by
  show _=_;unfold nZ;rw [jq,uJ,<- hk]
 have ox:Hid ((aN (jL xs ys) k).2=0):=by
  have h:=(mG hx.ok hy.ok mS).1;rw [jq,uJ,<- hk] at h;exact h
 have mW:Below w.heap.size w ((w.alloc (.cells #[.slice A n c] 39)).alloc (.cells #[.slice B m d] 39)):=(aW.alloc aK _).alloc (by simp) _;have ca:((w.alloc (.cells #[.slice A n c] 39)).alloc (.cells #[.slice B m d] 39)).cell? ⟨w.heap.size,0,none⟩=some (.slice A n c):=pN _ _ _ _;have cb:((w.alloc (.cells #[.slice A n c] 39)).alloc (.cells #[.slice B m d] 39)).cell? ⟨w.heap.size+1,0,none⟩=some (.slice B m d):=pO _ _ _ _;have Hx:=aA (hx.aB mW);have Hy:=aA (hy.aB mW);have LN:=aA ca;have Jv:=aA cb;have C:Hid (aC 121 #[.int .i64 (k:Int),.func (.func 126) #[] #[.pointer (some ⟨w.heap.size,0,none⟩),.pointer (some ⟨w.heap.size+1,0,none⟩)]] ((w.alloc (.cells #[.slice A n c] 39)).alloc (.cells #[.slice B m d] 39)) fun e w'=>e=.returned (.tuple #[.slice (some ⟨w.heap.size+1+1,0,none⟩) k k,.int .u64 0])∧eR w' (w.heap.size+1+1) 38 (aN (jL xs ys) k).1∧Below (w.heap.size+1+1) ((w.alloc (.cells #[.slice A n c] 39)).alloc (.cells #[.slice B m d] 39)) w'):=by
  have h:=BG (some ⟨w.heap.size,0,none⟩) (some ⟨w.heap.size+1,0,none⟩) (jL xs ys) k 2 ((w.alloc (.cells #[.slice A n c] 39)).alloc (.cells #[.slice B m d] 39)) (by omega) (fun j hj=>by have:=(AU hx.ok hy.ok j).1;omega) (fun j q W hj hq hW=> ?_)
  . simp only [aJ] at h
    rw [ox.o] at h;exact h
  . have hs:=hW.size
    simp only [aJ] at hs hW;exact Og A B n m c d w.heap.size (w.heap.size+1) xs ys j q W ((hW.cell (p:=⟨w.heap.size,0,none⟩) (by show w.heap.size<_;omega)).trans LN.o) ((hW.cell (p:=⟨w.heap.size+1,0,none⟩) (by show w.heap.size+1<_;omega)).trans Jv.o) (Hx.o.below hW (by simp)) (Hy.o.below hW (by simp)) (by omega) (by omega) (by omega) (by omega)
 clear hx hy jq uJ ca cb LN Jv ox mS;rcases Vf m n with X8 | X8 | X8
 . obtain rfl:k=n:=by omega
   have hmx:¬(k:Int)<=(m:Int):=by omega
   have aaq:(m:Int)<(k:Int):=by omega
   clear hk;go_enter func89,ntmps89
   go_wp2_with fail
   refine C.o.mono ?_;rintro e w1 ⟨rfl,bH,dH⟩;have nj:Below w.heap.size w w1:=mW.trans (dH.mono (by omega));have C6:=bH.limbs lH.o;rw [hlen.o] at C6;have QS:=aA C6;clear C bH Hx Hy C6;generalize (aN (jL xs ys) k).1=us at*
   go_wp2_with fail
   refine (bK (some ⟨w.heap.size+1+1,0,none⟩) k k us w1 QS.o aK (by omega)).mono ?_;rintro e w3 ⟨rfl,rfl⟩;have oL:=bS us k;go_wp2_with fail
   go_ret2;refine ⟨some ⟨w.heap.size+1+1,0,none⟩,_,k,rfl,oL,by omega,?_,fun x hx=> ?_,nj⟩
   . rw [se.o]
     exact QS.o.take oL
   . injection hx with hx
     rw [<- hx];show w.heap.size<=w.heap.size+1+1;omega
 . obtain rfl:k=n:=by omega
   obtain rfl:k=m:=by omega
   have hmx:max (k:Int) (k:Int)=(k:Int):=by omega
   clear hk;go_enter func89,ntmps89
   go_wp2_with fail
   refine C.o.mono ?_;rintro e w1 ⟨rfl,bH,dH⟩;have nj:Below w.heap.size w w1:=mW.trans (dH.mono (by omega));have C6:=bH.limbs lH.o;rw [hlen.o] at C6;have QS:=aA C6;clear C bH Hx Hy C6;generalize (aN (jL xs ys) k).1=us at*
   go_wp2_with fail
   refine (bK (some ⟨w.heap.size+1+1,0,none⟩) k k us w1 QS.o aK (by omega)).mono ?_;rintro e w3 ⟨rfl,rfl⟩;have oL:=bS us k;go_wp2_with fail
   go_ret2;refine ⟨some ⟨w.heap.size+1+1,0,none⟩,_,k,rfl,oL,by omega,?_,fun x hx=> ?_,nj⟩
   . rw [se.o]
     exact QS.o.take oL
   . injection hx with hx
     rw [<- hx];show w.heap.size<=w.heap.size+1+1;omega
 . obtain rfl:k=m:=by omega
   have hmx:(n:Int)<=(k:Int):=by omega
   have aaq:(n:Int)<(k:Int):=by omega
   have aoK:¬(k:Int)<=(n:Int):=by omega
   have aoJ:¬(k:Int)<(n:Int):=by omega
   clear hk;go_enter func89,ntmps89
   go_wp2_with fail
   refine C.o.mono ?_;rintro e w1 ⟨rfl,bH,dH⟩;have nj:Below w.heap.size w w1:=mW.trans (dH.mono (by omega));have C6:=bH.limbs lH.o;rw [hlen.o] at C6;have QS:=aA C6;clear C bH Hx Hy C6;generalize (aN (jL xs ys) k).1=us at*
   go_wp2_with fail
   refine (bK (some ⟨w.heap.size+1+1,0,none⟩) k k us w1 QS.o aK (by omega)).mono ?_;rintro e w3 ⟨rfl,rfl⟩;have oL:=bS us k;go_wp2_with fail
   go_ret2;refine ⟨some ⟨w.heap.size+1+1,0,none⟩,_,k,rfl,oL,by omega,?_,fun x hx=> ?_,nj⟩
   . rw [se.o]
     exact QS.o.take oL
   . injection hx with hx
     rw [<- hx];show w.heap.size<=w.heap.size+1+1;omega
def Oj (A:Option Addr) (n c ga gb:Nat) (xs:List Int) (x k q:Nat) (w:World) (ha:w.cell? ⟨ga,0,none⟩=some (.slice A n c)) (hb:w.cell? ⟨gb,0,none⟩=some (.int .u64 (x:Int))) (hx:aD w A n xs)
 (hk:k<n) (hn:n<=8500000000000) (jq:x<18446744073709551616) (hq:q<18446744073709551616):
 aC 144 #[.int .i64 (k:Int),.int .u64 (q:Int),.pointer (some ⟨ga,0,none⟩),.pointer (some ⟨gb,0,none⟩)] w fun e w'=>e=.returned (.tuple #[.int .u64 ((gm xs x k q).1:Int),.int .u64 ((gm xs x k q).2:Int)])∧∃j,w'=w.drewN j:=by
 have h1:=hx.ok k;obtain ⟨u,hu⟩:∃u:Nat,nth xs k=(u:Int):=⟨(nth xs k).toNat,by omega⟩;have hul:u<18446744073709551616:=by omega
 obtain ⟨b,o,rfl,IK,hc⟩:=hx.at_ (by omega);have JZ:=hc k hk;rw [hu] at JZ;have C:=fun W=>Il u x hul jq W;have hm:u*x<=18446744073709551615*18446744073709551615:=dN (by omega) (by omega);obtain ⟨hi,hhi⟩:∃v,v=u*x / 18446744073709551616:=⟨_,rfl⟩;obtain ⟨lo,FC⟩:∃v,v=u*x % 18446744073709551616:=⟨_,rfl⟩;rw [<- hhi,<- FC] at C;have avY:lo<18446744073709551616:=by rw [FC];exact jO _ (by omega)
 have qa:=fun W=>yU lo q 0 (by omega) W;obtain ⟨s,hs⟩:∃v,v=(lo+q+0) % 18446744073709551616:=⟨_,rfl⟩;obtain ⟨m,hmm⟩:∃v,v=(lo+q+0) / 18446744073709551616:=⟨_,rfl⟩;rw [<- hs,<- hmm] at qa;have hF:Hid (gm xs x k q=(s,hi+m)):=by
  show _=_;unfold gm;simp only [hu,jY];have hd:=sr (u*x) 18446744073709551616;rw [<- hhi,<- FC] at hd;refine Ve ?_ ?_
  . show (u*x+q) % 18446744073709551616=s
    rw [hs];omega
  . show (u*x+q) / 18446744073709551616=hi+m
    rw [hmm];omega
 have Bh:Hid (hi+m<18446744073709551616):=by
  have hd:=sr (u*x) 18446744073709551616;rw [<- hhi,<- FC] at hd;show _<_;rw [hmm];omega
 have hw:IntKind.u64.wrap ((hi:Int)+(m:Int))=((hi+m:Nat):Int):=by rw [IntKind.wrap_u64];have:=Bh.o;omega
 have wP:(0:Int)<=(k:Int):=by omega
 have hkn:(k:Int)<(n:Int):=by omega
 rw [hF.o];have CC:=aA C;have z0:((0:Nat):Int)=0:=rfl;rw [z0] at qa;clear hu h1 hc hx hhi FC hs hmm hm hul jq hq avY hF C;go_enter func144,ntmps144
 go_wp2_with fail
 go_quiet ((go_at_call 143;first | exact fh ((CC.o _).mono fun e w' h=>⟨h.1,h.2.symm⟩) | exact ja ((CC.o _).mono fun e w' h=>⟨h.1,h.2.symm⟩)))
 go_wp2_with fail
 go_ret2;exact ⟨rfl,_,rfl⟩
def aD.only {w':World} {S:Nat->Prop} {A:Option Addr} (h:aD w A n xs) (ho:Only S w w') (hA:∀y,A=some y->¬S y.block):aD w' A n xs:=
 ⟨h.len,fun hn=>by
   obtain ⟨b,o,e,hb,hc⟩:=h.at_ hn;refine ⟨b,o,e,gh hb ho.size,fun i hi=> ?_⟩;rw [ho.cell (p:=⟨b,o+i,none⟩) hb (hA ⟨b,o,none⟩ e)];exact hc i hi,h.ok⟩
def qW (xs:List Int) (x:Nat):List Int:=(aN (gm xs x) xs.length).1++[((aN (gm xs x) xs.length).2:Int)]
def ud (hx:aQ xs) {x:Nat}(h:x<18446744073709551616):aQ (qW xs x)∧(qW xs x).length=xs.length+1∧limbs (qW xs x)=limbs xs*x:=by
 obtain ⟨h1,h2⟩:=ue hx h xs.length;rw [fL aK] at h2;have hl:=bh (gm xs x) xs.length;refine ⟨(od (Fm xs x) _).snoc (by omega) (by omega),by unfold qW;rw [eF,hl];rfl,?_⟩;unfold qW;rw [vT,hl,jY,h2]
def N8 {os:List Int}(ho:aQ os) {j:Nat}(hj:j<os.length) {y q T:Nat}(hy:y<18446744073709551616) (hq:q<=1) (h:limbs os+2^(64*j)*q=T):
 aQ (os.set j ((((nth os j).toNat+y+q) % 18446744073709551616:Nat):Int))∧limbs (os.set j ((((nth os j).toNat+y+q) % 18446744073709551616:Nat):Int))+2^(64*(j+1))*(((nth os j).toNat+y+q) / 18446744073709551616)=T+2^(64*j)*y∧((nth os j).toNat+y+q) / 18446744073709551616<=1:=by
 have h1:=ho j;generalize hs:(nth os j).toNat+y+q=s;have hm:=jO s (show 0<18446744073709551616 by omega);have hd:=sr s 18446744073709551616;have h2:=W6 ho hj (v:=((s % 18446744073709551616:Nat):Int)) (by omega);rw [jY] at h2;refine ⟨ho.set j (by omega) (by omega),?_,by omega⟩;rw [sP];generalize limbs (os.set j ((s % 18446744073709551616:Nat):Int))=L at*
 generalize 2^(64*j)=P at*
 generalize limbs os=M at*
 generalize (nth os j).toNat=o at*
 have h3:P*(s % 18446744073709551616)+P*18446744073709551616*(s / 18446744073709551616)=P*s:=by
  rw [cn,<- ak];congr 1;omega
 have h4:P*s=P*o+P*y+P*q:=by rw [<- hs,ak,ak]
 omega
def Qu (hx:aQ xs) (hy:aQ ys) {k q L M:Nat}(h:L+2^(64*(k+(xs.length+1)))*q=M+2^(64*k)*(limbs xs*(nth ys k).toNat)) (hM:M=limbs xs*limbs (ys.take k)) (_hk:k<ys.length):
 q=0∧L=limbs xs*limbs (ys.take (k+1)):=by
 have e1:M+2^(64*k)*(limbs xs*(nth ys k).toNat)=limbs xs*limbs (ys.take (k+1)):=by
  rw [fk,ak,hM];congr 1;rw [om]
 rw [e1] at h;have h1:=eH hx;have h2:=eH (hy.take (k+1));have h3:(ys.take (k+1)).length<=k+1:=by rw [cS];omega
 have h4:2^(64*(ys.take (k+1)).length)<=2^(64*(k+1)):=fM (by omega) (by omega);have h5:limbs xs*limbs (ys.take (k+1))<2^(64*xs.length)*2^(64*(k+1)):=QC h1 (by omega);rw [<- iH,show 64*xs.length+64*(k+1)=64*(k+(xs.length+1)) by omega] at h5;have h6:q=0:=by
  rcases jJ q with h6 | h6
  . exact h6
  . have h7:2^(64*(k+(xs.length+1)))*1<=2^(64*(k+(xs.length+1)))*q:=bl _ h6
    omega
 subst h6;exact ⟨rfl,by omega⟩
structure T6 (xs ys zs:List Int):Prop where
 pl:bX zs
 eq:limbs zs=limbs xs*limbs ys
 len:zs.length<=xs.length+ys.length+1
def aeb (A:Option Addr) (n c:Nat) (xs:List Int) (x:Nat) (w:World) (hx:aD w A n xs) (hn:n<=8500000000000) (jq:x<18446744073709551616):
 aC 117 #[.slice A n c,.int .u64 (x:Int)] w fun e w'=>∃g cap,e=.returned (.slice (some ⟨g,0,none⟩) (n+1) cap)∧w.heap.size<=g∧aD w' (some ⟨g,0,none⟩) (n+1) (qW xs x)∧Below w.heap.size w w':=by
 obtain ⟨i0,hi,iQ,iC,iP⟩:=dJ cN;obtain rfl:=hx.len;have Cj:=aA (ud hx.ok jq);have hval:=aA (ue hx.ok jq xs.length);have lH:=aA (od (Fm xs x) xs.length);have hlen:=aA (bh (gm xs x) xs.length);have se:Hid (qW xs x=(aN (gm xs x) xs.length).1++[((aN (gm xs x) xs.length).2:Int)]):=rfl;have mW:Below w.heap.size w ((w.alloc (.cells #[.slice A xs.length c] 39)).alloc (.cells #[.int .u64 (x:Int)] 38)):=(aW.alloc aK _).alloc (by simp) _;have LN:Hid (((w.alloc (.cells #[.slice A xs.length c] 39)).alloc (.cells #[.int .u64 (x:Int)] 38)).cell? ⟨w.heap.size,0,none⟩=some (.slice A xs.length c)):=pN _ _ _ _;have Jv:Hid (((w.alloc (.cells #[.slice A xs.length c] 39)).alloc (.cells #[.int .u64 (x:Int)] 38)).cell? ⟨w.heap.size+1,0,none⟩=some (.int .u64 (x:Int))):=pO _ _ _ _;have Hx:=aA (hx.aB mW);obtain ⟨k,hk⟩:∃k,xs.length=k:=⟨_,rfl⟩;have C:Hid (aC 121 #[.int .i64 (xs.length:Int),.func (.func 144) #[] #[.pointer (some ⟨w.heap.size,0,none⟩),.pointer (some ⟨w.heap.size+1,0,none⟩)]] ((w.alloc (.cells #[.slice A xs.length c] 39)).alloc (.cells #[.int .u64 (x:Int)] 38)) fun e w'=>e=.returned (.tuple #[.slice (some ⟨w.heap.size+1+1,0,none⟩) xs.length xs.length,.int .u64 ((aN (gm xs x) xs.length).2:Int)])∧eR w' (w.heap.size+1+1) 38 (aN (gm xs x) xs.length).1∧Below (w.heap.size+1+1) ((w.alloc (.cells #[.slice A xs.length c] 39)).alloc (.cells #[.int .u64 (x:Int)] 38)) w'):=by
  have h:=BH (some ⟨w.heap.size,0,none⟩) (some ⟨w.heap.size+1,0,none⟩) (gm xs x) xs.length 18446744073709551616 ((w.alloc (.cells #[.slice A xs.length c] 39)).alloc (.cells #[.int .u64 (x:Int)] 38)) (by omega) (fun j hj=>(ue hx.ok jq j).1) (fun j q W hj hq hW=> ?_)
  . simp only [aJ] at h
    exact h
  . have hs:=hW.size
    simp only [aJ] at hs hW;exact Oj A xs.length c w.heap.size (w.heap.size+1) xs x j q W ((hW.cell (p:=⟨w.heap.size,0,none⟩) (by show w.heap.size<_;omega)).trans LN.o) ((hW.cell (p:=⟨w.heap.size+1,0,none⟩) (by show w.heap.size+1<_;omega)).trans Jv.o) (Hx.o.below hW (by simp)) hj hn jq hq
 have hq:(aN (gm xs x) xs.length).2<18446744073709551616:=hval.o.1;clear hx hval LN Jv Hx jq;rw [hk] at C lH hlen se mW Cj hn hq ⊢;clear hk;go_enter func117,ntmps117
 go_wp2_with fail
 refine C.o.mono ?_;rintro e w1 ⟨rfl,bH,dH⟩;have nj:Below w.heap.size w w1:=mW.trans (dH.mono (by omega));have tZ:w.heap.size+1+1<w1.heap.size:=bH.lt;have jr:Hid (w1.ownsRow (w.heap.size+1+1) 38 1 (.slice (some ⟨w.heap.size+1+1,0,none⟩) k k) k (au (aN (gm xs x) k).1)):=by
  have h:=bH.own aK (n:=k) (by rw [hlen.o];exact aK) (by rw [hlen.o];unfold maxLen;omega);rw [hlen.o,gZ (by rw [hlen.o];exact aK)] at h;exact h
 clear C bH;generalize (aN (gm xs x) k).2=q at*
 generalize (aN (gm xs x) k).1=us at*
 go_wp2_with (at_builtin;refine nv _ (by rfl) _ _ _ (by rfl) (w.heap.size+1+1) 38 i0 _ 1 8 underlying39 hi iQ iC iP rfl (by omega) (.slice (some ⟨w.heap.size+1+1,0,none⟩) k k) k (au us) (by rfl) (jr.o.alloc _) ⟨w1.heap.size,0,none⟩ 1 1 [.int .u64 (q:Int)] (by rfl) (by rfl) (gK (cs:=#[.int .u64 (q:Int)]) (t:=38) (fr:=(0,0)) (bO w1 _)) (by simp [Value.oneCell']) (by omega) (by unfold maxLen;omega) (by omega) (by simp;omega) (w1.heap.size+1) (by simp) ?_;intro gg cap w2 bL aX gO uv)
 have Mp:Below w.heap.size w w2:=((nj.alloc nj.size _)).grown aX (by simp;omega) (fun j hj=>by have:=(jr.o.lt j hj).1;omega);have Ma:au us++[.int .u64 (q:Int)]=au (us++[(q:Int)]):=by rw [dU];rfl
 rw [Ma] at bL;have GC:aD w2 (some ⟨gg,0,none⟩) (k+1) (us++[(q:Int)]):=aD.gi bL (lH.o.snoc (by omega) (by omega));have aeW:=(bL.lt gg rfl).1;rw [<- se.o] at GC;have Qh:=aA GC;clear bL aX gO uv Ma GC;go_wp2_with fail
 go_ret;exact ⟨gg,cap,rfl,by omega,Qh.o,Mp⟩
def RQ (A B:Option Addr) (n m c d:Nat) (xs ys:List Int) (w:World) (hx:aD w A n xs) (hy:aD w B m ys) (hn:n<=4000000000000) (hm:m<=4000000000000):
 aC 135 #[.slice A n c,.slice B m d] w fun e w'=>∃zs,T6 xs ys zs∧rA w zs e w':=by
 obtain ⟨i0,hi,iQ,iC,iP⟩:=dJ cN;obtain rfl:=hx.len;obtain rfl:=hy.len;have Ck:=ej underlying39 hi iQ iC iP (xs.length+ys.length+1) (by omega) w;rw [show ((xs.length+ys.length+1:Nat):Int)=(xs.length:Int)+(ys.length:Int)+1 from rfl] at Ck;have oK:Hid (eR (w.alloc (.cells (au (List.replicate (xs.length+ys.length+1) 0)).toArray 38)) w.heap.size 38 (List.replicate (xs.length+ys.length+1) 0)):=eR.new w _ _;have ox:Below w.heap.size w (w.alloc (.cells (au (List.replicate (xs.length+ys.length+1) 0)).toArray 38)):=aW.alloc aK _;have zx:Hid ((List.replicate (xs.length+ys.length+1) (0:Int)).length=xs.length+ys.length+1):=gI;have ho0:Hid (aQ (List.replicate (xs.length+ys.length+1) 0)):=fun i=>by
  have:nth (List.replicate (xs.length+ys.length+1) (0:Int)) i=0:=by unfold nth;by_cases h:i<xs.length+ys.length+1<;>simp [List.getD,h]
  rw [this];omega
 have VB:Hid (limbs (List.replicate (xs.length+ys.length+1) 0)=limbs xs*limbs (ys.take 0)):=by show _=_;rw [nQ];rfl
 have Hx:=aA hx;have Hy:=aA hy;have HxO:=aA hx.ok;have HyO:=aA hy.ok;clear hx hy;generalize List.replicate (xs.length+ys.length+1) (0:Int)=R0 at*
 go_enter func135,ntmps135
 go_wp2_with fail
 clear Ck;go_loopw [20] (fun i wr=>∃(k:Nat) (os:List Int),k<=ys.length∧i=.int .i64 (k:Int)∧Hid (eR wr w.heap.size 38 os)∧Hid (os.length=xs.length+ys.length+1)∧Hid (aQ os)∧Hid (limbs os=limbs xs*limbs (ys.take k))∧Below w.heap.size w wr) (fun i _=>ys.length-(intOf i).toNat)
 case atStart=>exact ⟨0,R0,by omega,rfl,oK,zx,ho0,VB,ox⟩
 case round=>
  clear oK zx ho0 VB ox;obtain ⟨k,os,hk,rfl,bH,Qb,lH,hval,bD⟩:=hrel;obtain ⟨wo,rfl⟩:∃wo:World,wo=wr:=⟨_,rfl⟩;by_cases hlt:k<ys.length
  . have dI:(k:Int)<(ys.length:Int):=by omega
    (have wP:(0:Int)<=(k:Int):=by omega);obtain ⟨b,o,rfl,hb,hc⟩:=Hy.o.at_ (by omega);have JZ:=(bD.cell (p:=⟨b,o+k,none⟩) hb).trans (hc k hlt);have yg:=HyO.o k;obtain ⟨y,hyy⟩:∃y:Nat,nth ys k=(y:Int):=⟨(nth ys k).toNat,by omega⟩;rw [hyy] at JZ;(have uJ:y<18446744073709551616:=by omega);have Hyy:=aA hyy;have Nj:=bH.o.lt;have Cr:=aA (aeb A xs.length c xs y wo (Hx.o.aB bD) (by omega) uJ);have Hyl:=aA uJ;clear hc hyy yg uJ;(go_wp2_with fail);refine Cr.o.mono ?_;rintro e w1 ⟨gr,cap,rfl,rE,C6,dH⟩;have arj:=aA (bH.o.aB dH);have apW:=aA C6;(have hne:gr≠w.heap.size:=by omega);have tZ:=dH.size;obtain ⟨rs,XI⟩:∃rs,rs=qW xs y:=⟨_,rfl⟩;have Hsp:=aA (ud HxO.o Hyl.o);rw [<- XI] at apW Hsp;have JQ:=aA (bD.tm dH);clear C6 JZ Cr XI bH bD dH;(go_wp2_with fail);go_loopw [8,29] (fun cv i wr=>∃(j q:Nat) (ot:List Int),j<=xs.length+1∧q<=1∧cv=.int .u64 (q:Int)∧i=.int .i64 (j:Int)∧Hid (eR wr w.heap.size 38 ot)∧Hid (ot.length=xs.length+ys.length+1)∧Hid (aQ ot)∧Hid (limbs ot+2^(64*(k+j))*q=limbs os+2^(64*k)*limbs (rs.take j))∧Hid (Only (fun x=>x=w.heap.size) w1 wr)) (fun _ i _=>xs.length+1-(intOf i).toNat)
    case atStart=>exact ⟨0,0,os,by omega,by omega,rfl,rfl,arj,Qb,lH,(by show _=_;rw [jv];rfl),Only.refl _ _⟩
    case round=>
     obtain ⟨j,q,ot,hj,hq,rfl,rfl,hrt,htl,hto,htv,j5⟩:=hrel;by_cases hjl:j<xs.length+1
     . have aax:(j:Int)<(xs.length:Int)+1:=by omega
       (have Qd:(0:Int)<=(j:Int):=by omega);have hLr:=apW.o.only j5.o (fun y' hy' e=>hne (by injection hy' with hy';rw [<- hy'] at e;exact e));obtain ⟨b2,o2,e2,cU,Ml⟩:=hLr.at_ (by omega);injection e2 with e2
       injection e2 with e3 e4
       subst e3;subst e4;have hcj:=Ml j hjl;rw [ct] at hcj;have JX:=Hsp.o.1 j;obtain ⟨u,hu⟩:∃u:Nat,nth rs j=(u:Int):=⟨(nth rs j).toNat,by omega⟩;rw [hu] at hcj;(have hul:u<18446744073709551616:=by omega);have Kt:=hrt.o.cell (i:=k+j) (by rw [htl.o];omega);have hfo:=hrt.o.frozen (k+j);have ho1:=hto.o (k+j);obtain ⟨v,hv⟩:∃v:Nat,nth ot (k+j)=(v:Int):=⟨(nth ot (k+j)).toNat,by omega⟩;rw [hv] at Kt;have hst:=N8 hto.o (j:=k+j) (by rw [htl.o];omega) hul hq htv.o;rw [hv,jY] at hst;have qa:=fun W=>yU v u q hq W;generalize (v+u+q) % 18446744073709551616=s at*
       generalize (v+u+q) / 18446744073709551616=q' at*
       obtain ⟨t1,t2,t3⟩:=hst;have T1:=aA t1;have T2:Hid (limbs (ot.set (k+j) (s:Int))+2^(64*(k+(j+1)))*q'=limbs os+2^(64*k)*limbs (rs.take (j+1))):=by
        show _=_;rw [<- j9,t2,fk,hu,jY,show 64*(k+j)=64*k+64*j by omega,iH,ak (2^(64*k)),cn];omega
       have oq:=aA (hrt.o.set (k+j) (s:Int));have Fe:=aA (j5.o.setCell (p:=⟨w.heap.size,k+j,none⟩) rfl (.int .u64 (s:Int)));(have avj:Hid ((ot.set (k+j) (s:Int)).length=xs.length+ys.length+1):=by show _=_;rw [gH];exact htl.o);(have hkj:(k:Int)+(j:Int)<(xs.length:Int)+(ys.length:Int)+1:=by omega);(have aIv:(0:Int)<=(k:Int)+(j:Int):=by omega);(have ekj:((k:Int)+(j:Int)).toNat=k+j:=by omega);clear t1 t2 Ml hLr hu hv JX ho1 hul htv hto hrt j5 htl;(go_wp2_with fail);go_roundw
       case rel=>exact ⟨j+1,q',_,by omega,t3,rfl,by go_num,oq,avj,T1,T2,Fe⟩
       case measure=>simp [intOf];omega
     . obtain rfl:j=xs.length+1:=by omega
       (have aax:¬(xs.length:Int)+1<(xs.length:Int)+1:=by omega);have Mj:=Qu HxO.o HyO.o (k:=k) (q:=q) (L:=limbs ot) (M:=limbs os) (by
        have h1:=htv.o;rw [fL (by rw [Hsp.o.2.1];exact aK),Hsp.o.2.2] at h1;rw [Hyy.o,jY];exact h1) hval.o hlt
       have tR:=aA Mj.2;have cU:Below w.heap.size w wr:=JQ.o.trans (j5.o.below JQ.o.size (fun x hx=>by omega));clear Mj htv;(go_wp2_with fail);go_roundw
       case rel=>exact ⟨k+1,ot,by omega,by go_num,hrt,htl,hto,tR,cU⟩
       case measure=>simp [intOf];omega
  . obtain rfl:k=ys.length:=by omega
    (have dI:¬(ys.length:Int)<(ys.length:Int):=by omega);have hL:=bH.o.limbs lH.o;rw [Qb.o] at hL;have HL:=aA hL;obtain ⟨p1,p2⟩:=bF lH.o Qb.o;have hval':=hval.o;rw [fL aK] at hval';have oL:=bS os (xs.length+ys.length+1);have Hm:Hid (T6 xs ys (os.take (bu os (xs.length+ys.length+1)))):=⟨p1,by rw [p2];exact hval',by rw [cS];omega⟩;clear hL p1 p2 hval' hval;(go_wp2_with fail);refine (bK (some ⟨w.heap.size,0,none⟩) (xs.length+ys.length+1) (xs.length+ys.length+1) os wo HL.o aK (by omega)).mono ?_;rintro e w3 ⟨rfl,rfl⟩;(go_wp2_with fail);go_ret;refine ⟨_,Hm.o,some ⟨w.heap.size,0,none⟩,_,xs.length+ys.length+1,rfl,oL,by omega,HL.o.take oL,fun x hx=> ?_,bD⟩;injection hx with hx
    rw [<- hx];exact aK
def jc (a b:Nat):Int:=if a<b then -1 else if b<a then 1 else 0
def M4 (h:a<b):jc a b= -1:=aM h
def VX (h:b<a):jc a b=1:=by unfold jc;rw [af (by omega),aM h]
def afK (h:a=b):jc a b=0:=by unfold jc;rw [af (by omega),af (by omega)]
def Ez (hx:aQ xs) (hy:aQ ys) (hl:xs.length=ys.length) (hk:k<xs.length) (he:∀j,k<j->nth xs j=nth ys j) (h:nth xs k<nth ys k):limbs xs<limbs ys:=by
 have key:∀n,k+1<=n->limbs (xs.take n)<limbs (ys.take n):=by
  intro n hn;induction n with
  | zero=>omega
  | succ n ih=>
    rw [fk,fk];by_cases e:k=n
    . subst e
      have h1:=eH (hx.take k);have h2:2^(64*(xs.take k).length)<=2^(64*k):=fM (by omega) (by rw [cS];omega);have h3:=hx k;have h4:=hy k;have h5:2^(64*k)*((nth xs k).toNat+1)<=2^(64*k)*(nth ys k).toNat:=bl _ (by omega);rw [ak,bg] at h5;omega
    . have:=ih (by omega)
      rw [he n (by omega)];omega
 have:=key xs.length hk;rwa [fL aK,fL (by omega)] at this
def BQ (hx:bX xs) (hy:bX ys) (h:xs.length<ys.length):limbs xs<limbs ys:=by
 have h1:=eH hx.1;have h2:=hy.low (by omega);have h3:2^(64*xs.length)<=2^(64*(ys.length-1)):=fM (by omega) (by omega);omega
def Ig (x y:Int) (w:World) (h:x<y):aC 125 #[.int .u64 x,.int .u64 y] w fun e w'=>e=.returned (.int .i64 (-1))∧w=w':=by
 have h1:¬x>y:=by omega
 have h2:(x !=x)=false:=by simp
 have h3:(y !=y)=false:=by simp
 go_enter func125,ntmps125
 go_wp2
 go_ret;exact ⟨rfl,rfl⟩
def Ii (x y:Int) (w:World) (h:y<x):aC 125 #[.int .u64 x,.int .u64 y] w fun e w'=>e=.returned (.int .i64 (1))∧w=w':=by
 have h1:¬x<y:=by omega
 have h2:(x !=x)=false:=by simp
 have h3:(y !=y)=false:=by simp
 go_enter func125,ntmps125
 go_wp2
 go_ret;exact ⟨rfl,rfl⟩
def Ij (x y:Int) (w:World) (h:x<y):aC 110 #[.int .i64 x,.int .i64 y] w fun e w'=>e=.returned (.int .i64 (-1))∧w=w':=by
 have h1:¬x>y:=by omega
 have h2:(x !=x)=false:=by simp
 have h3:(y !=y)=false:=by simp
 go_enter func110,ntmps110
 go_wp2
 go_ret;exact ⟨rfl,rfl⟩
def Ik (x y:Int) (w:World) (h:y<x):aC 110 #[.int .i64 x,.int .i64 y] w fun e w'=>e=.returned (.int .i64 (1))∧w=w':=by
 have h1:¬x<y:=by omega
 have h2:(x !=x)=false:=by simp
 have h3:(y !=y)=false:=by simp
 go_enter func110,ntmps110
 go_wp2
 go_ret;exact ⟨rfl,rfl⟩
def yK (A B:Option Addr) (n m c d:Nat) (xs ys:List Int) (w:World) (hx:aD w A n xs) (hy:aD w B m ys) (ig:n<=c) (hc:c<=9223372036854775807) (kX:m<=d) (hd:d<=9223372036854775807) (hn:n<=4000000000000) (_hm:m<=4000000000000):
 aC 88 #[.slice A n c,.slice B m d] w fun e w'=>e=.returned (.int .i64 (jc (limbs xs) (limbs ys)))∧∃j,w'=w.drewN j:=by
 have jq:=hx.len;have uJ:=hy.len;have l1:=bS xs n;have l2:=bS ys m;obtain ⟨p1,p2⟩:=bF hx.ok jq;obtain ⟨q1,q2⟩:=bF hy.ok uJ;have Hx:=aA (hx.take l1);have Hy:=aA (hy.take l2);have C1:=aA (bK A n c xs w hx ig hc);have C2:=aA (bK B m d ys w hy kX hd);have L1:Hid ((xs.take (bu xs n)).length=bu xs n):=by show _=_;rw [cS,jq];omega
 have L2:Hid ((ys.take (bu ys m)).length=bu ys m):=by show _=_;rw [cS,uJ];omega
 rw [<- p2,<- q2];have P1:=aA p1;have Q1:=aA q1;clear hx hy p1 p2 q1 q2 jq uJ;generalize xs.take (bu xs n)=us at*
 generalize ys.take (bu ys m)=vs at*
 generalize bu xs n=u at*
 generalize bu ys m=v at*
 by_cases huv:u=v
 . subst huv
   have hne:((u:Int) !=(u:Int))=false:=by simp
   go_enter func88,ntmps88
   go_wp2_with fail
   refine C1.o.mono ?_;rintro e w' ⟨rfl,rfl⟩;go_wp2_with fail
   refine C2.o.mono ?_;rintro e w' ⟨rfl,rfl⟩;go_wp2_with fail
   obtain ⟨wo,rfl⟩:∃wo:World,wo=w':=⟨_,rfl⟩;go_loopw [5] (fun i wr=>∃k j:Nat,k<=u∧i=.int .i64 ((k:Int)-1)∧Hid (∀j,k<=j->nth us j=nth vs j)∧wr=wo.drewN j) (fun i _=>(intOf i+1).toNat)
   case atStart=>exact ⟨u,0,aK,rfl,fun j hj=>by rw [cW (by rw [L1.o];exact hj),cW (by rw [L2.o];exact hj)],rfl⟩
   case round=>
    obtain ⟨k,j,hk,rfl,PK,rfl⟩:=hrel;cases k with
    | zero=>
      have e0:(((0:Nat):Int)-1)= -1:=rfl;have hf:Hid (jc (limbs us) (limbs vs)=0):=afK (by rw [oT (L1.o.trans L2.o.symm) fun i _=>PK.o i (by omega)]);rw [e0];(go_wp2_with fail);go_ret;exact ⟨oN hf.o.symm,_,rfl⟩
    | succ k=>
      (have e0:(((k+1:Nat):Int)-1)=(k:Int):=by omega);rw [e0];obtain ⟨b,o,rfl,hb,Ks⟩:=Hx.o.at_ (by omega);obtain ⟨b',o',rfl,pL,hcy⟩:=Hy.o.at_ (by omega);have Bg:=Ks k (by omega);have yg:=hcy k (by omega);(have Qd:(0:Int)<=(k:Int):=by omega);(have F7:(k:Int)<(u:Int):=by omega);clear Ks hcy e0;rcases Vd (nth us k) (nth vs k) with h | h | h
      . have hf:Hid (jc (limbs us) (limbs vs)= -1):=M4 (Ez P1.o.1 Q1.o.1 (L1.o.trans L2.o.symm) (by rw [L1.o];omega) (fun i hi=>PK.o i (by omega)) h)
        (have h2:(nth us k !=nth vs k)=true:=by simp;omega);have h3:decide (nth us k<nth vs k)=true:=Ir h;(go_wp2_with fail);go_quiet (fail)
        (go_wp2_with fail);go_quiet ((go_at_call 125;first | exact fh (Ig _ _ _ h) | exact ja (Ig _ _ _ h)))
        (go_wp2_with fail);go_ret;exact ⟨oN hf.o.symm,_,by first | rfl | exact fJ _ _ _ | (rw [fJ,fJ])⟩
      . have hf:Hid (∀j,k<=j->nth us j=nth vs j):=fun j hj=>by
         by_cases e:j=k
         . subst e;exact h
         . exact PK.o j (by omega)
        (have h2:(nth us k !=nth vs k)=false:=by simp;omega);clear h PK;(go_wp2_with fail);go_quiet (fail)
        (go_wp2_with fail);go_roundw
        case rel=>exact ⟨k,_,by omega,rfl,hf,by first | rfl | exact fJ _ _ _ | (rw [fJ,fJ])⟩
        case measure=>simp [intOf]
      . have hf:Hid (jc (limbs us) (limbs vs)=1):=VX (Ez Q1.o.1 P1.o.1 (L2.o.trans L1.o.symm) (by rw [L2.o];omega) (fun i hi=>(PK.o i (by omega)).symm) h)
        (have h2:(nth us k !=nth vs k)=true:=by simp;omega);have h3:decide (nth us k<nth vs k)=false:=zC (by omega);(go_wp2_with fail);go_quiet (fail)
        (go_wp2_with fail);go_quiet ((go_at_call 125;first | exact fh (Ii _ _ _ h) | exact ja (Ii _ _ _ h)))
        (go_wp2_with fail);go_ret;exact ⟨oN hf.o.symm,_,by first | rfl | exact fJ _ _ _ | (rw [fJ,fJ])⟩
 . have hne:((u:Int) !=(v:Int))=true:=by simp;omega
   go_enter func88,ntmps88
   go_wp2_with fail
   refine C1.o.mono ?_;rintro e w' ⟨rfl,rfl⟩;go_wp2_with fail
   refine C2.o.mono ?_;rintro e w' ⟨rfl,rfl⟩;rcases Nat.lt_or_gt_of_ne huv with h | h
   . have hf:Hid (jc (limbs us) (limbs vs)= -1):=M4 (BQ P1.o Q1.o (by rw [L1.o,L2.o];exact h))
     (have h1:(u:Int)<(v:Int):=by omega);(go_wp2_with fail);refine (Ij _ _ _ h1).mono ?_;rintro e w'' ⟨rfl,rfl⟩;(go_wp2_with fail);go_ret;exact ⟨oN hf.o.symm,0,rfl⟩
   . have hf:Hid (jc (limbs us) (limbs vs)=1):=VX (BQ Q1.o P1.o (by rw [L1.o,L2.o];exact h))
     (have h1:(v:Int)<(u:Int):=by omega);(go_wp2_with fail);refine (Ik _ _ _ h1).mono ?_;rintro e w'' ⟨rfl,rfl⟩;(go_wp2_with fail);go_ret;exact ⟨oN hf.o.symm,0,rfl⟩
def auQ {a0 a1 b0 b1 l m:Nat}(hl:l=a0*b0) (hh:h=a1*b1) (hm:m=(a0+a1)*(b0+b1)-l-h):l+p*m+p*p*h=(a0+p*a1)*(b0+p*b1):=by
 have e1:(a0+a1)*(b0+b1)=a0*b0+a1*b1+(a0*b1+a1*b0):=by rw [bQ,ak,ak];omega
 have e2:m=a0*b1+a1*b0:=by rw [hm,e1,hl,hh];omega
 rw [e2,hl,hh,bQ,ak,ak,ak];have e3:a0*(p*b1)=p*(a0*b1):=by ac_rfl
 have e4:p*a1*b0=p*(a1*b0):=by ac_rfl
 have e5:p*a1*(p*b1)=p*p*(a1*b1):=by ac_rfl
 rw [e3,e4,e5];omega
def Ew (k:Nat) (xs:List Int):limbs (List.replicate k 0++xs)=2^(64*k)*limbs xs:=by
 rw [iM,nQ,gI,ct]
def Ak (h:aQ xs):aQ (List.replicate k 0++xs):=fun i=>by
 by_cases hi:i<k
 . have e:nth (List.replicate k 0++xs) i=0:=by
    unfold nth;simp [List.getD,hi,Sr]
   rw [e];omega
 . have e:nth (List.replicate k 0++xs) i=nth xs (i-k):=by
    unfold nth;simp only [List.getD];rw [CK (by rw [gI];omega),gI]
   rw [e];exact h (i-k)
def r9 (xs:List Int) (hk:k<=xs.length):limbs xs=limbs (xs.take k)+2^(64*k)*limbs (xs.drop k):=by
 have h:=iM (xs.take k) (xs.drop k);rw [CO,cS,pF hk] at h;exact h
def Om (A B:Option Addr) (n m c d:Nat) (xs ys:List Int) (w:World) (hx:aD w A n xs) (hy:aD w B m ys) (hn:n<=8500000000000) (hm:m<=8500000000000) (mS:limbs ys<=limbs xs):
 aC 118 #[.slice A n c,.slice B m d] w (rA w (nZ xs ys)):=by
 have C:=aA (BD A B n m c d xs ys w hx hy hn hm mS);clear hx hy mS;go_enter func118,ntmps118
 go_wp2_with fail
 refine C.o.mono ?_;rintro e w1 ⟨A1,k1,c1,rfl,g1,g2,g3,g4,g5⟩;have G3:=aA g3;have G4:=aA g4;have G5:=aA g5;clear g3 g4 g5;go_wp2_with fail
 go_ret;exact ⟨A1,k1,c1,rfl,g1,g2,G3.o,G4.o,G5.o⟩
def KW (A:Option Addr) (n c:Nat) (xs:List Int) (k:Nat) (w:World) (hx:aD w A n xs) (hn:n<=8500000000000) (hk:k<=8500000000000):
 aC 136 #[.slice A n c,.int .i64 (k:Int)] w (rA w (List.replicate k 0++xs)):=by
 obtain ⟨i0,hi,iQ,iC,iP⟩:=dJ cN;have Ck:=ej underlying39 hi iQ iC iP k (by omega) w;have hl:=hx.len;have Hr:=aA hx.reads;have JN:=aA hx.ok;have bH:=eR.new w 38 (List.replicate k 0);have jr:Hid ((w.alloc (.cells (au (List.replicate k 0)).toArray 38)).ownsRow w.heap.size 38 1 (.slice (some ⟨w.heap.size,0,none⟩) k k) k (au (List.replicate k 0))):=by
  have h:=bH.own aK (n:=k) (by rw [gI];exact aK) (by rw [gI];unfold maxLen;omega);rw [gI,gZ (by rw [gI];exact aK)] at h;exact h
 have hn0:(0:Int)<=(k:Int):=by omega
 clear hx hl bH;go_enter func136,ntmps136
 go_wp2_with (at_builtin;go_must (refine bN (w:=w.alloc (.cells (au (List.replicate k 0)).toArray 38)) rfl _ _ 39 rfl w.heap.size 38 i0 (.int .u64 0) 1 8 underlying39 hi iQ iC iP rfl (by decide) _ k (au (List.replicate k 0)) rfl jr.o w.heap.size A n c (au xs) rfl (Hr.o.alloc aK _) (iL xs) (by unfold maxLen;omega) (by omega) (by simp) ?_);intro v' w1 aY aX gO)
 have bL:w1.ownsRow w.heap.size 38 1 v' (k+n) (au (List.replicate k 0++xs)):=by rw [dU];exact aY
 have hb:Below w.heap.size w w1:=((Below.refl _ w).alloc aK _).grown aX (by simp) (fun k hk=>(jr.o.lt k hk).1);have zD:=aA bL;have Hb:=aA hb;clear aY aX gO hb bL;obtain ⟨A',c',rfl⟩:=eM zD.o;go_wp2_with fail
 go_ret;have hcc:k+n<=c'∧c'<=9223372036854775807:=by
  rcases zD.o.2 with ⟨hv,h0⟩ | ⟨g,cap,cur,hv,_,_,ig,wS,_⟩
  . injection hv;omega
  . injection hv with _ _ e
    unfold maxLen at wS;omega
 exact ⟨A',k+n,c',rfl,hcc.1,hcc.2,aD.gi zD.o (Ak JN.o),fun y hy=>(zD.o.lt y.block (by subst hy;rfl)).1,Hb.o⟩
def MS (h:aD w (some ⟨b,o,none⟩) n xs) (hk:k<=n):aD w (some ⟨b,o+k,none⟩) (n-k) (xs.drop k):=
 ⟨by rw [xh,h.len],fun hn=>by
   obtain ⟨b',o',e,hb,hc⟩:=h.at_ (by omega);injection e with e;injection e with e1 e2;subst e1;subst e2
   refine ⟨b,o+k,rfl,hb,fun i hi=> ?_⟩;have e3:nth (xs.drop k) i=nth xs (k+i):=by unfold nth;simp [List.getD]
   rw [e3,j9];exact hc (k+i) (by omega),fun i=>by
   have e3:nth (xs.drop k) i=nth xs (k+i):=by unfold nth;simp [List.getD]
   rw [e3];exact h.ok (k+i)⟩
def Qr {zs:List Int} {u v K:Nat}(h:bX zs) (hz:limbs zs<2^(64*u)*2^(64*v)) (hK:u+v<=K):zs.length<=K:=by
 rcases jJ zs.length with h0 | h0
 . omega
 . have h1:=h.low h0
   rw [<- iH] at hz;by_cases hl:zs.length<=K
   . exact hl
   . exfalso
     have h3:2^(64*u+64*v)<=2^(64*(zs.length-1)):=fM (by omega) (by omega);omega
def CW (n m:Nat) (xs ys:List Int) (w:World) (e:Ending) (w':World):Prop:=∃zs,bX zs∧limbs zs=limbs xs*limbs ys∧zs.length<=n+m+1∧rA w zs e w'
def YZ (w:World) (ts:Array TypeId) (t:TypeId) (k k':IntKind) (x y:Int):(Builtin.min_ ts t #[.int k x,.int k' y]).run P w=.ok (.int k (min x y)) w:=by
 rw [run_min_int2,show min x y=if y<x then y else x by split<;>omega]
def OB (w:World) (ts:Array TypeId) (t:TypeId) (k k':IntKind) (x y:Int):(Builtin.max_ ts t #[.int k x,.int k' y]).run P w=.ok (.int k (max x y)) w:=by
 rw [alH,show max x y=if y>x then y else x by split<;>omega]
def J8 (b o p c:Nat):sliced (some ⟨b,o,none⟩) 0 p c 1=.slice (some ⟨b,o,none⟩) p c:=by
 unfold sliced;split
 . rename_i h;subst h;rfl
 . show Value.slice (some ⟨b,o+0*1,none⟩) _ _=_
   simp
def Gz {c:Nat} (h:aD w (some ⟨b,o,none⟩) n xs) (hp:p<=n) (hc:n<=c):∃A1,sliced (some ⟨b,o,none⟩) p n c 1=.slice A1 (n-p) (c-p)∧aD w A1 (n-p) (xs.drop p):=by
 have h1:=MS h hp;unfold sliced;split
 . have e:n-p=0:=by omega
   refine ⟨_,rfl,h1.len,fun hn=>by omega,h1.ok⟩
 . refine ⟨some ⟨b,o+p,none⟩,?_,h1⟩
   show Value.slice (some (Addr.add ⟨b,o,none⟩ (p*1))) _ _=_;rw [bg,kI]
def Gy (hl:xs.length=n) (hp:p=h∧h<=n∨p=n∧n<=h):limbs xs=limbs (xs.take p)+2^(64*h)*limbs (xs.drop p):=by
 rcases hp with ⟨rfl,h2⟩ | ⟨rfl,h2⟩
 . exact r9 xs (by omega)
 . rw [<- hl,LK,List.drop_length]
   show _=_+_*0;omega
attribute [-go_sem] run_min_int2 run_max_int2 sliced
attribute [local go_sem] YZ OB
def ZU (A B:Option Addr) (n m c d:Nat) (xs ys:List Int) (w:World) (hx:aD w A n xs) (hy:aD w B m ys) (ig:n<=c) (hc:c<=9223372036854775807) (kX:m<=d) (hd:d<=9223372036854775807) (hn:n<=4000000000000) (hm:m<=4000000000000) (hu:8<=bu xs n) (hv:8<=bu ys m)
 (ih:∀(A B:Option Addr) (n' m' c d:Nat) (xs' ys':List Int) (w:World),bu xs' n'+bu ys' m'<bu xs n+bu ys m->aD w A n' xs'->aD w B m' ys'->n'<=c->c<=9223372036854775807->m'<=d->d<=9223372036854775807->n'<=4000000000000->m'<=4000000000000->aC 106 #[.slice A n' c,.slice B m' d] w (CW n' m' xs' ys' w)):
 aC 106 #[.slice A n c,.slice B m d] w (CW n m xs ys w):=by
 have jq:=hx.len;have uJ:=hy.len;have l1:=bS xs n;have l2:=bS ys m;obtain ⟨p1,p2⟩:=bF hx.ok jq;obtain ⟨q1,q2⟩:=bF hy.ok uJ;have Hx:=aA (hx.take l1);have Hy:=aA (hy.take l2);have C1:=aA (bK A n c xs w hx ig hc);have C2:=aA (bK B m d ys w hy kX hd);have Ih:=aA ih;obtain ⟨b,o,rfl,hb,cU⟩:=hx.at_ (by omega);obtain ⟨b',o',rfl,pL,axu⟩:=hy.at_ (by omega);clear hb cU pL axu;have P2:=aA p2;have Q2:=aA q2;clear hx hy p1 q1 jq uJ ih p2 q2;generalize bu xs n=u at*
 generalize bu ys m=v at*
 generalize xs.take u=us at*
 generalize ys.take v=vs at*
 obtain ⟨MN,hMN⟩:∃M:Int,min (u:Int) (v:Int)=M:=⟨_,rfl⟩;obtain ⟨MX,hMX⟩:∃M:Int,max (u:Int) (v:Int)=M:=⟨_,rfl⟩;obtain ⟨h,hh⟩:∃h:Nat,MX / 2=(h:Int):=⟨(max u v) / 2,by omega⟩;obtain ⟨p,hp⟩:∃p:Nat,min (h:Int) (u:Int)=(p:Int):=⟨min h u,by omega⟩;obtain ⟨r,hr⟩:∃r:Nat,min (h:Int) (v:Int)=(r:Int):=⟨min h v,by omega⟩;have hM8:¬MN<8:=by omega
 have hpu:p=h∧h<=u∨p=u∧u<=h:=by omega
 have hrv:r=h∧h<=v∨r=v∧v<=h:=by omega
 have h4:4<=p∧4<=r∧2*h<=max u v∧h<=2000000000000:=by omega
 have aeJ:p<=u:=by omega
 have aeI:r<=v:=by omega
 obtain ⟨A1,e1,Ha1⟩:=Gz Hx.o aeJ (c:=c) (by omega);obtain ⟨B1,f1,JQ⟩:=Gz Hy.o aeI (c:=d) (by omega);have e0:=J8 b o p c;have f0:=J8 b' o' r d;have Cp:Hid (∀N,aC 112 #[.slice (some ⟨b,o,none⟩) p c] (w.drewN N) fun e w2=>e=.returned (.slice (some ⟨b,o,none⟩) (bu (us.take p) p) c)∧w2=w.drewN N):=fun N=>bK _ p c _ _ ((Hx.o.take aeJ).drewN N) (by omega) hc;have Cq:Hid (∀N,aC 112 #[.slice (some ⟨b',o',none⟩) r d] (w.drewN N) fun e w2=>e=.returned (.slice (some ⟨b',o',none⟩) (bu (vs.take r) r) d)∧w2=w.drewN N):=fun N=>bK _ r d _ _ ((Hy.o.take aeI).drewN N) (by omega) hd;have uA:=bS (us.take p) p;have Qd:=bS (vs.take r) r;obtain ⟨pa1,pa2⟩:=bF (Hx.o.take aeJ).ok (n:=p) (by rw [cS,Hx.o.len];omega);obtain ⟨pb1,pb2⟩:=bF (Hy.o.take aeI).ok (n:=r) (by rw [cS,Hy.o.len];omega);have VM:=(Hx.o.take aeJ).take uA;have ox:=(Hy.o.take aeI).take Qd;have eU:Hid (limbs us=limbs ((us.take p).take (bu (us.take p) p))+2^(64*h)*limbs (us.drop p)):=by show _=_;rw [pa2];exact Gy Hx.o.len hpu
 have eV:Hid (limbs vs=limbs ((vs.take r).take (bu (vs.take r) r))+2^(64*h)*limbs (vs.drop r)):=by show _=_;rw [pb2];exact Gy Hy.o.len hrv
 have uLt:Hid (limbs us<2^(64*u)):=by have:=eH Hx.o.ok;rwa [Hx.o.len] at this
 have vLt:Hid (limbs vs<2^(64*v)):=by have:=eH Hy.o.ok;rwa [Hy.o.len] at this
 have sa:=oJ VM.ok Ha1.ok;rw [VM.len,Ha1.len] at sa;have saL:=sa.2;have sb:=oJ ox.ok JQ.ok;rw [ox.len,JQ.len] at sb;have sbL:=sb.2;have HP:=aA hpu;have HR:=aA hrv;have H4:=aA h4;clear sa sb pa1 pa2 pb1 pb2 Hx Hy hpu hrv h4;generalize (us.take p).take (bu (us.take p) p)=a0s at*
 generalize us.drop p=a1s at*
 generalize bu (us.take p) p=i0 at*
 generalize (vs.take r).take (bu (vs.take r) r)=b0s at*
 generalize vs.drop r=b1s at*
 generalize bu (vs.take r) r=j0 at*
 have Ha0:=aA VM;have Ha1:=aA Ha1;have Hb0:=aA ox;have JQ:=aA JQ;clear VM ox;have g1:(0:Int)<=(p:Int):=by omega
 have g2:(p:Int)<=(c:Int):=by omega
 have g3:(p:Int)<=(u:Int):=by omega
 have g4:(0:Int)<=(r:Int):=by omega
 have g5:(r:Int)<=(d:Int):=by omega
 have g6:(r:Int)<=(v:Int):=by omega
 go_enter func106,ntmps106
 go_wp2_with fail
 refine C1.o.mono ?_;rintro e w' ⟨rfl,rfl⟩;go_wp2_with fail
 refine C2.o.mono ?_;rintro e w' ⟨rfl,rfl⟩;go_wp2_with fail
 rw [hh];go_quiet ((go_at_call 112;first | exact fh ((Cp.o _).mono fun _ _ h=>⟨h.1,h.2.symm⟩) | exact ja ((Cp.o _).mono fun _ _ h=>⟨h.1,h.2.symm⟩)))
 clear e0 e1 hp g1 g2 g3 Cp;obtain ⟨nq1,rfl⟩:∃N:Nat,N=nq:=⟨_,rfl⟩;go_wp2_with fail
 go_quiet ((go_at_call 112;first | exact fh ((Cq.o _).mono fun _ _ h=>⟨h.1,h.2.symm⟩) | exact ja ((Cq.o _).mono fun _ _ h=>⟨h.1,h.2.symm⟩)))
 clear f0 f1 hr g4 g5 g6 Cq;have qu:Below w'.heap.size w' ((w'.drewN nq1).drewN nq):=below_drewN (below_drewN aW _) _;replace Ha0:=aA (Ha0.o.aB qu)
 replace Ha1:=aA (Ha1.o.aB qu)
 replace Hb0:=aA (Hb0.o.aB qu)
 replace JQ:=aA (JQ.o.aB qu)
 have Hbw:=aA qu;clear qu;generalize (w'.drewN nq1).drewN nq=w2 at*
 have HA:i0+j0<u+v∧u-p+(v-r)<u+v∧max i0 (u-p)+max j0 (v-r)+2<u+v∧2*h<=4000000000000∧4<=p∧4<=r∧max i0 (u-p)<=2000000000001∧max j0 (v-r)<=2000000000001:=by
  have:=HP.o;have:=HR.o;have:=H4.o;omega
 obtain ⟨jU,XO,XN,hd4,hd5,hd6,hd7,hd8⟩:=HA;have Clo:=aA (Ih.o (some ⟨b,o,none⟩) (some ⟨b',o',none⟩) i0 j0 c d a0s b0s w2 (by have:=bS a0s i0;have:=bS b0s j0;omega) Ha0.o Hb0.o (by omega) hc (by omega) hd (by omega) (by omega));go_wp2_with fail
 refine Clo.o.mono ?_;rintro e w3 ⟨lo,lo1,lo2,lo3,A3,n3,c3,rfl,r1,r2,r3,_,r5⟩;clear Clo;have Ch:=aA (Ih.o A1 B1 (u-p) (v-r) (c-p) (d-r) a1s b1s w3 (by have:=bS a1s (u-p);have:=bS b1s (v-r);omega) (Ha1.o.aB r5) (JQ.o.aB r5) (by omega) (by omega) (by omega) (by omega) (by omega) (by omega));have HA0:=aA (Ha0.o.aB r5);have HA1:=aA (Ha1.o.aB r5);have HB0:=aA (Hb0.o.aB r5);have zz:=aA (JQ.o.aB r5);have Hlo:=aA r3;have ail:Hid (Below w'.heap.size w' w3):=Hbw.o.tm r5;have Elo:=aA lo2;clear r3 r5 Ha0 Ha1 Hb0 JQ Hbw lo2;go_wp2_with fail
 refine Ch.o.mono ?_;rintro e w4 ⟨hi,hi1,XL,hi3,A4,n4,c4,rfl,s1,s2,s3,_,s5⟩;clear Ch;have arv:=aA (Hlo.o.aB s5);have Hhi:=aA s3;have Ehi:=aA XL;have Ca:=aA (vQ (some ⟨b,o,none⟩) A1 i0 (u-p) c (c-p) a0s a1s w4 (HA0.o.aB s5) (HA1.o.aB s5) (by omega) (by omega));have arY:=aA (HB0.o.aB s5);have agn:=aA (zz.o.aB s5);have aik:Hid (Below w'.heap.size w' w4):=ail.o.tm s5;clear s3 s5 HA0 HA1 HB0 zz Hlo ail XL;go_wp2_with fail
 refine Ca.o.mono ?_;rintro e w5 ⟨A5,n5,c5,rfl,t1,t2,t3,_,t5⟩;clear Ca;have Cb:=aA (vQ (some ⟨b',o',none⟩) B1 j0 (v-r) d (d-r) b0s b1s w5 (arY.o.aB t5) (agn.o.aB t5) (by omega) (by omega));have Hsa:=aA t3;have aru:=aA (arv.o.aB t5);have arF:=aA (Hhi.o.aB t5);have aij:Hid (Below w'.heap.size w' w5):=aik.o.tm t5;clear t3 t5 arY agn arv Hhi aik;go_wp2_with fail
 refine Cb.o.mono ?_;rintro e w6 ⟨A6,n6,c6,rfl,x1,x2,x3,_,x5⟩;clear Cb;have hl5:n5<=max i0 (u-p)+1:=by have:=Hsa.o.len;have:=saL.2;omega
 have hl6:n6<=max j0 (v-r)+1:=by have:=x3.len;have:=sbL.2;omega
 have Cm:=aA (Ih.o A5 A6 n5 n6 c5 c6 (uQ a0s a1s) (uQ b0s b1s) w6 (by have:=bS (uQ a0s a1s) n5;have:=bS (uQ b0s b1s) n6;omega) (Hsa.o.aB x5) x3 t1 t2 x1 x2 (by omega) (by omega));have agb:=aA (aru.o.aB x5);have alQ:=aA (arF.o.aB x5);have aii:Hid (Below w'.heap.size w' w6):=aij.o.tm x5;clear x3 x5 Hsa aru arF aij;go_wp2_with fail
 refine Cm.o.mono ?_;rintro e w7 ⟨mm,mm1,mm2,mm3,A7,n7,c7,rfl,y1,y2,y3,_,y5⟩;clear Cm;have em:limbs mm=(limbs a0s+limbs a1s)*(limbs b0s+limbs b1s):=by rw [mm2,saL.1,sbL.1]
 have aoY:limbs lo<=limbs mm:=by rw [em,Elo.o,bQ,ak];omega
 have aIl:=agb.o.len;have aIk:=alQ.o.len;have aIj:=y3.len;have Cs:=aA (Om A7 A3 n7 n3 c7 c3 mm lo w7 y3 (agb.o.aB y5) (by omega) (by omega) aoY);have sp1:=mG mm1.1 lo1.1 aoY;have art:=aA (agb.o.aB y5);have alP:=aA (alQ.o.aB y5);have aih:Hid (Below w'.heap.size w' w7):=aii.o.tm y5;have Em:=aA em;have Sp1:=aA sp1;clear y3 y5 agb alQ aii em sp1 mm2;go_wp2_with fail
 refine Cs.o.mono ?_;rintro e w8 ⟨A8,n8,c8,rfl,z1,z2,z3,_,z5⟩;clear Cs;have aeR:limbs hi<=limbs (nZ mm lo):=by rw [Sp1.o.2.2.1,Em.o,Elo.o,Ehi.o,bQ,ak,ak];omega
 have aIi:=z3.len;have aIb:=Sp1.o.2.2.2;have Cs:=aA (Om A8 A4 n8 n4 c8 c4 (nZ mm lo) hi w8 z3 (alP.o.aB z5) (by omega) (by omega) aeR);have Sp2:=aA (mG Sp1.o.2.1.1 hi1.1 aeR);have ars:=aA (art.o.aB z5);have arE:=aA (alP.o.aB z5);have aif:Hid (Below w'.heap.size w' w8):=aih.o.tm z5;clear z3 z5 art alP aih;go_wp2_with fail
 refine Cs.o.mono ?_;rintro e w9 ⟨A9,n9,c9,rfl,p1,p2,p3,_,p5⟩;clear Cs;have aIh:=p3.len;have aIa:=Sp2.o.2.2.2;have Cv:=aA (KW A9 n9 c9 (nZ (nZ mm lo) hi) h w9 p3 (by omega) (by omega));have arq:=aA (ars.o.aB p5);have arD:=aA (arE.o.aB p5);have aie:Hid (Below w'.heap.size w' w9):=aif.o.tm p5;clear p3 p5 ars arE aif;go_wp2_with fail
 refine Cv.o.mono ?_;rintro e wA ⟨AA,nA,cA,rfl,a1,a2,a3,_,a5⟩;clear Cv;have awa:=a3.len;rw [eF,gI] at awa;have Cd:=aA (vQ A3 AA n3 nA c3 cA lo _ wA (arq.o.aB a5) a3 (by omega) (by omega));have Spd:=aA (oJ lo1.1 (Ak (k:=h) Sp2.o.2.1.1));have arC:=aA (arD.o.aB a5);have aid:Hid (Below w'.heap.size w' wA):=aie.o.tm a5;clear a3 a5 arq arD aie;go_wp2_with fail
 refine Cd.o.mono ?_;rintro e wB ⟨AB,nB,cB,rfl,b1',b2',b3',_,b5'⟩;clear Cd;have aIg:=b3'.len;have avT:=Spd.o.2.2;rw [eF,gI] at avT;have hh2:Hid (2*(h:Int)=((2*h:Nat):Int)):=by show _=_;omega
 have hh3:IntKind.i64.wrap (2*(h:Int))=2*(h:Int):=bR _ (by omega);have Cv:=aA (KW A4 n4 c4 hi (2*h) wB (arC.o.aB b5') (by omega) (by omega));rw [<- hh2.o] at Cv;have HsB:=aA b3';have aic:Hid (Below w'.heap.size w' wB):=aid.o.tm b5';clear b3' b5' arC aid;go_wp2_with fail
 refine Cv.o.mono ?_;rintro e wC ⟨AC,nC,cC,rfl,f1,f2,f3,_,f5⟩;clear Cv;have avZ:=f3.len;rw [eF,gI] at avZ;have Cd:=aA (vQ AB AC nB nC cB cC _ _ wC (HsB.o.aB f5) f3 (by omega) (by omega));have Spe:=aA (oJ Spd.o.1.1 (Ak (k:=2*h) hi1.1));have acI:Hid (Below w'.heap.size w' wC):=aic.o.tm f5;clear f3 f5 HsB aic hh3;go_wp2_with fail
 refine Cd.o.mono ?_;rintro e wD ⟨AD,nD,cD,rfl,h1,h2,h3,h4,h5⟩;clear Cd;have Fin:Hid (CW n m xs ys w' (.returned (.slice AD nD cD)) wD):=by
  have ev:limbs (uQ (uQ lo (List.replicate h 0++nZ (nZ mm lo) hi)) (List.replicate (2*h) 0++hi))=limbs us*limbs vs:=by
   rw [Spe.o.2.1,Spd.o.2.1,Ew,Ew,Sp2.o.2.2.1,Sp1.o.2.2.1];have hk:=auQ (a0:=limbs a0s) (a1:=limbs a1s) (b0:=limbs b0s) (b1:=limbs b1s) (p:=2^(64*h)) (l:=limbs lo) (h:=limbs hi) (m:=limbs mm-limbs lo-limbs hi) Elo.o Ehi.o (by rw [Em.o]);rw [show 2^(64*(2*h))=2^(64*h)*2^(64*h) by rw [<- iH];congr 1;omega,hk,<- eU.o,<- eV.o]
  refine ⟨_,Spe.o.1,by rw [ev,P2.o,Q2.o],?_,AD,nD,cD,rfl,h1,h2,h3,fun x hx=> ?_,acI.o.tm h5⟩
  . exact Qr Spe.o.1 (by rw [ev];exact QC uLt.o vLt.o) (by omega)
  . have:=h4 x hx;have:=acI.o.size;omega
 clear h3 h4 h5 acI;go_wp2_with fail
 go_ret;exact Fin.o
def ZV (A B:Option Addr) (n m c d:Nat) (xs ys:List Int) (w:World) (hx:aD w A n xs) (hy:aD w B m ys) (ig:n<=c) (hc:c<=9223372036854775807) (kX:m<=d) (hd:d<=9223372036854775807) (hn:n<=4000000000000) (hm:m<=4000000000000) (hs:bu xs n<8∨bu ys m<8):
 aC 106 #[.slice A n c,.slice B m d] w fun e w'=>∃zs,bX zs∧limbs zs=limbs xs*limbs ys∧zs.length<=n+m+1∧rA w zs e w':=by
 have jq:=hx.len;have uJ:=hy.len;have l1:=bS xs n;have l2:=bS ys m;obtain ⟨p1,p2⟩:=bF hx.ok jq;obtain ⟨q1,q2⟩:=bF hy.ok uJ;have Hx:=aA (hx.take l1);have Hy:=aA (hy.take l2);have C1:=aA (bK A n c xs w hx ig hc);have C2:=aA (bK B m d ys w hy kX hd);have Cs:=aA (RQ A B (bu xs n) (bu ys m) c d _ _ w Hx.o Hy.o (by omega) (by omega));have azz:Hid (∀zs,T6 (xs.take (bu xs n)) (ys.take (bu ys m)) zs->bX zs∧limbs zs=limbs xs*limbs ys∧zs.length<=n+m+1):=fun zs h=>⟨h.pl,by rw [h.eq,p2,q2],by have:=h.len;rw [cS,cS] at this;omega⟩;clear hx hy p1 p2 q1 q2 Hx Hy jq uJ;generalize bu xs n=u at*
 generalize bu ys m=v at*
 obtain ⟨MN,hMN⟩:∃M:Int,min (u:Int) (v:Int)=M:=⟨_,rfl⟩;have h8:MN<8:=by omega
 clear hs;go_enter func106,ntmps106
 go_wp2_with fail
 refine C1.o.mono ?_;rintro e w' ⟨rfl,rfl⟩;go_wp2_with fail
 refine C2.o.mono ?_;rintro e w' ⟨rfl,rfl⟩;go_wp2_with fail
 refine Cs.o.mono ?_;rintro e w1 ⟨zs,hz,A1,k1,c1,rfl,g1,g2,g3,g4,g5⟩;obtain ⟨r1,r2,r3⟩:=azz.o zs hz;go_wp2_with fail
 go_ret;exact ⟨zs,r1,r2,r3,A1,k1,c1,rfl,g1,g2,g3,g4,g5⟩
def Ol (k:Nat):∀(A B:Option Addr) (n m c d:Nat) (xs ys:List Int) (w:World),bu xs n+bu ys m<k->aD w A n xs->aD w B m ys->n<=c->c<=9223372036854775807->m<=d->d<=9223372036854775807->n<=4000000000000->m<=4000000000000->aC 106 #[.slice A n c,.slice B m d] w (CW n m xs ys w):=by
 induction k with
 | zero=>intro _ _ _ _ _ _ _ _ _ h;omega
 | succ k ih=>
   intro A B n m c d xs ys w hk hx hy ig hc kX hd hn hm;have ih':=fun A B n' m' c d xs' ys' w (h:bu xs' n'+bu ys' m'<bu xs n+bu ys m)=>ih A B n' m' c d xs' ys' w (by omega);by_cases hs:bu xs n<8∨bu ys m<8
   . exact ZV A B n m c d xs ys w hx hy ig hc kX hd hn hm hs
   . exact ZU A B n m c d xs ys w hx hy ig hc kX hd hn hm (by omega) (by omega) ih'
