import Derived.Test.YtehcoffbiplphaaGreatHTrg
import Derived.Test.YtehcoffbiplphaaGreatHTk
set_option linter.all false
set_option maxHeartbeats 16000000
set_option maxRecDepth 100000
namespace Go.Proofs.YtehcoffbiplphaaGreat
open Go.Proofs.Tryz
open Go.RowKit
variable {L L0:Array Bool} {i j d k u n m c z:Nat} {T0 T:Array Value} {v:Value} {V V' w0:World} {B B':Nat->Option Nat} {o:Obj} {Q:Nat->Prop} {val:Nat->Value} {a a0:Act} {s:Bool} {P:Program} {ops:Array Oper} {S:World->Prop} {md:Region.Mode}
def Vr {L:Array Bool} {i:Nat}(h:L.getD i false=true) (k:L.getD i true=false):False:=by
 rw [mz] at h k;cases hq:L[i]? with
 | none=>rw [hq] at h;cases h
 | some b=>rw [hq] at h k;rw [show b=true from h] at k;cases k
def Vq {L:Array Bool} {i:Nat}(k:L.getD i true=false):L.getD i false=false:=by
 cases h:L.getD i false with
 | false=>rfl
 | true=>exact (Vr h k).elim
def Vt {L:Array Bool} {i:Nat}(k:L.getD i true=false):i<L.size:=by
 rcases pT i L.size with h | h
 . exact h
 . rw [mz,Ye h] at k;cases k
def EP (h:j≠i):(L.setIfInBounds i true).getD j false=L.getD j false:=by
 rw [mz,mz,JY (Ne.symm h)]
def GY (h:i<L.size):(L.setIfInBounds i true).getD i false=true:=by
 rw [mz,Ua h];rfl
def afO (h:j≠i):(L.setIfInBounds i true).getD j true=L.getD j true:=by
 rw [mz,mz,JY (Ne.symm h)]
def countP_set:∀(l:List Bool) (k:Nat) (hk:k<l.length),l[k]=false->(l.set k true).countP (fun b=> !b)+1=l.countP (fun b=> !b):=fun l=>by
 induction l with
 | nil=>intro k hk;cases hk
 | cons x l ih2=>
   intro k hk hx;cases k with
   | zero=>
     have Dl:x=false:=hx;subst Dl;simp
   | succ k=>
     have h5:=ih2 k (by simpa using hk) hx;rw [Jj,List.countP_cons,List.countP_cons];omega
def yV {α:Type} {f:α->Nat}:∀{l:List α},(l.map f).Nodup->∀{x y:α},x∈l->y∈l->f x=f y->x=y
 | [],_,_,_,h,_,_=>by cases h
 | p::l,hn,x,y,hx,hy,e=>by
   rw [uK,List.nodup_cons] at hn;rcases iH.1 hx with rfl | hx
   . rcases iH.1 hy with h | hy
     . exact h.symm
     . exact absurd (af.2 ⟨y,hy,e.symm⟩) hn.1
   . rcases iH.1 hy with h | hy
     . exact absurd (af.2 ⟨x,hx,by rw [e,h]⟩) hn.1
     . exact yV hn.2 hx hy e
structure Fr (T0:Array Value) (ds:List Nat) (T:Array Value):Prop where
 size:T.size=T0.size
 o:∀k,k∉ds->T[k]? =T0[k]?
def Fr.put {ds:List Nat}(h:Fr T0 ds T) (hd:d∈ds) (v:Value):Fr T0 ds (T.setIfInBounds d v):=
 ⟨by rw [Ji,h.size],fun k hk=>by
   rw [JY (fun e=>hk (by rw [<- e];exact hd))];exact h.o k hk⟩
def akj {u:Value}(h:d≠k) (e:T[k]? =some u):(T.setIfInBounds d v)[k]? =some u:=by
 rw [JY h];exact e
def Zo (h:d<T.size):(T.setIfInBounds d v)[d]? =some v:=Ua h
def amn:∀{ps:List (Nat×Value)} {T:Array Value},(ps.map (·.1)).Nodup->Fr T0 (ps.map (·.1)) T->(∀p∈ps,T[p.1]? =some p.2)->T=ps.foldr (fun p A=>A.setIfInBounds p.1 p.2) T0
 | ps,T,_,h,hp=>by
   have key:∀(qs:List (Nat×Value)) (k:Nat),(∀p∈qs,p.1=k->T[k]? =some p.2)->(k<T0.size)->(qs.foldr (fun p A=>A.setIfInBounds p.1 p.2) T0)[k]? =if k∈qs.map (·.1) then T[k]? else T0[k]? :=fun qs=>by
    induction qs with
    | nil=>intro k _ _;simp
    | cons q qs ih=>
      intro k hk hlt;have ih':=ih k (fun p hp=>hk p (bX _ hp)) hlt;have hsz:(qs.foldr (fun p A=>A.setIfInBounds p.1 p.2) T0).size=T0.size:=by
       clear ih' ih hk;induction qs with
       | nil=>rfl
       | cons r rs ih=>rw [UZ,Ji,ih]
      rw [UZ];by_cases e:q.1=k
      . rw [e,Ua (by rw [hsz];exact hlt),aM (by simp [e]),hk q aV e]
      . rw [JY e,ih']
        by_cases hm:k∈qs.map (·.1)
        . rw [aM hm,aM (by rw [uK];exact bX _ hm)]
        . rw [aY hm,aY (by rw [uK];intro h;rcases iH.1 h with h | h;exact e h.symm;exact hm h)]
   have hsz:∀qs:List (Nat×Value),(qs.foldr (fun p A=>A.setIfInBounds p.1 p.2) T0).size=T0.size:=fun qs=>by
    induction qs with
    | nil=>rfl
    | cons r rs ih=>rw [UZ,Ji,ih]
   apply Array.ext_getElem?;intro k;by_cases hlt:k<T0.size
   . rw [key ps k (fun p hp2 e=>by rw [<- e];exact hp p hp2) hlt]
     by_cases hm:k∈ps.map (·.1)
     . rw [aM hm]
     . rw [aY hm];exact h.o k hm
   . rw [Ye (by rw [h.size];omega),Ye (by rw [hsz];omega)]
structure Sp where
 i:Nat
 d:Nat
 u:Nat
 K:Value->World->(Nat->Option Nat)->Prop
structure Kp (V V':World) (B B':Nat->Option Nat):Prop where
 only:Only (fun b=>∃j,B j=some b∧B' j≠some b) V V'
 old:∀j g,B' j=some g->g<V.heap.size->B j=some g
 inj:∀j k g,B j=some g->B k=some g->j=k
def Kp.of (h:Below V.heap.size V V') (h1:∀j g,B' j=some g->g<V.heap.size->B j=some g) (h2:∀j k g,B j=some g->B k=some g->j=k):Kp V V' B B':=⟨⟨h.os,h.tape,h.output,h.size,fun k hk _=>h.block k hk⟩,h1,h2⟩
def Kp.look {g:Nat} (h:Kp V V' B B') (hg:∀j,B j=some g->B' j=some g) (l:V.heap[g]? =some o):V'.heap[g]? =some o:=by
 rw [h.only.block g (jm.1 l).1 fun ⟨j,h1,h2⟩=>h2 (hg j h1)];exact l
def Sp.keeps (s:Sp):Prop:=∀(v:Value) (V V':World) (B B':Nat->Option Nat),Kp V V' B B'->(∀g,B s.i=some g->B' s.i=some g)->s.K v V B->s.K v V' B'
structure In (w0:World) (a0:Act) (sp:List Sp) (B:Nat->Option Nat) (L:Array Bool) (a:Act) (V:World):Prop where
 kp:∀s∈sp,s.keeps
 ni:(sp.map Sp.i).Nodup
 nd:(sp.map Sp.d).Nodup
 sl:∀s∈sp,s.d<a0.tmps.size
 aC:Below w0.heap.size w0 V
 no:∀j,L.getD j false=false->B j=none
 lt:∀j g,B j=some g->w0.heap.size<=g∧g<V.heap.size
 inj:∀j k g,B j=some g->B k=some g->j=k
 fr:Fr a0.tmps (sp.map Sp.d) a.tmps
 df:a.defers=a0.defers
 ok:∀s∈sp,L.getD s.i false=true->∃v,a.tmps[s.d]? =some v∧((s.u=s.i∨L.getD s.u false=false)->s.K v V B)
namespace In
variable {w0 V V' : World} {a0 a : Act} {sp : List Sp} {B B' : Nat -> Option Nat} {L : Array Bool}
section
variable (h:In w0 a0 sp B L a V)
include h
theorem get (k:Nat) {i d u:Nat} {K:Value->World->(Nat->Option Nat)->Prop}(hs:sp[k]? =some ⟨i,d,u,K⟩) (hl:L.getD i false=true) (hu:u=i∨L.getD u false=false):∃v,a.tmps[d]? =some v∧K v V B:=by
 obtain ⟨v,h1,h2⟩:=h.ok ⟨i,d,u,K⟩ (Ja hs) hl;exact ⟨v,h1,h2 hu⟩
theorem has (k:Nat) {i d u:Nat} {K:Value->World->(Nat->Option Nat)->Prop}(hs:sp[k]? =some ⟨i,d,u,K⟩) (hl:L.getD i false=true):∃v,a.tmps[d]? =some v:=by
 obtain ⟨v,h1,_⟩:=h.ok ⟨i,d,u,K⟩ (Ja hs) hl;exact ⟨v,h1⟩
theorem old (k:Nat) (hk:(sp.map Sp.d).contains k=false) {v:Value}(e:a0.tmps[k]? =some v):a.tmps[k]? =some v:=(h.fr.o k (by simpa using hk)).trans e
theorem gen (k:Nat) {i d u:Nat} {K:Value->World->(Nat->Option Nat)->Prop}(hs:sp[k]? =some ⟨i,d,u,K⟩) (hr:L.getD i true=false) (hb:Below w0.heap.size w0 V') (hB:∀j g,j≠i->B' j=some g->B j=some g) (hi:∀g,B' i=some g->V.heap.size<=g∧g<V'.heap.size)
 (hp:Kp V V' B B') (hd:∀s∈sp,s.i≠i->s.u≠i->∀g,B s.i=some g->B' s.i=some g) {v:Value} (hn:K v V' B'):In w0 a0 sp B' (L.setIfInBounds i true) { tmps:=a.tmps.setIfInBounds d v,defers:=a.defers } V':=by
 have hm:=Ja hs;have hil:=Vt hr;have Fl:=h.aC.size;have hz:=hp.only.size;refine ⟨h.kp,h.ni,h.nd,h.sl,hb,fun j hj=> ?_,fun j g hj=> ?_,fun j k g hj hk=> ?_,h.fr.put (af.2 ⟨_,hm,rfl⟩) v,h.df,fun s vH hl=> ?_⟩
 . by_cases e:j=i
   . rw [e,GY hil] at hj;cases hj
   . have h1:=h.no j (by rwa [EP e] at hj)
     cases hq:B' j with
     | none=>rfl
     | some g=>rw [hB j g e hq] at h1;cases h1
 . by_cases e:j=i
   . rw [e] at hj;have:=hi g hj;exact ⟨by omega,this.2⟩
   . have:=h.lt j g (hB j g e hj);exact ⟨this.1,by omega⟩
 . by_cases e:j=i
   . by_cases e2:k=i
     . rw [e,e2]
     . rw [e] at hj
       have:=hi g hj;have:=h.lt k g (hB k g e2 hk);omega
   . by_cases e2:k=i
     . rw [e2] at hk
       have:=hi g hk;have:=h.lt j g (hB j g e hj);omega
     . exact h.inj j k g (hB j g e hj) (hB k g e2 hk)
 . by_cases e:s.i=i
   . have e2:s=⟨i,d,u,K⟩:=yV h.ni vH hm e
     subst e2;exact ⟨v,Zo (by rw [h.fr.size];exact h.sl _ hm),fun _=>hn⟩
   . rw [EP e] at hl
     obtain ⟨v',h1,h2⟩:=h.ok s vH hl;refine ⟨v',akj (fun e3=>e ?_) h1,fun hu=> ?_⟩
     . have:s=⟨i,d,u,K⟩:=yV h.nd vH hm e3.symm
       rw [this]
     . have hu2:s.u≠i:=fun e3=>by
        rcases hu with hu | hu
        . exact e (hu.symm.trans e3)
        . rw [e3,GY hil] at hu;cases hu
       exact h.kp s vH v' V V' B B' hp (hd s vH e hu2) (h2 (hu.imp id fun hu=>by rwa [EP hu2] at hu))
theorem put (k:Nat) {i d u:Nat} {K:Value->World->(Nat->Option Nat)->Prop} (hs:sp[k]? =some ⟨i,d,u,K⟩) (hr:L.getD i true=false) (hb:Below V.heap.size V V') {v:Value} (hn:K v V' B):∃B,In w0 a0 sp B (L.setIfInBounds i true) { tmps:=a.tmps.setIfInBounds d v,defers:=a.defers } V':=
 ⟨B,h.gen k hs hr (h.aC.tm hb) (fun _ _ _ e=>e) (fun g e=>by rw [h.no i (Vq hr)] at e;cases e) (.of hb (fun _ _ e _=>e) h.inj) (fun _ _ _ _ _ e=>e) hn⟩
theorem app (k:Nat) {i d u:Nat} {K:Value->World->(Nat->Option Nat)->Prop} (hs:sp[k]? =some ⟨i,d,u,K⟩) (hr:L.getD i true=false) (km:Nat) {im dm:Nat} {KM:Value->World->(Nat->Option Nat)->Prop} (hm:sp[km]? =some ⟨im,dm,i,KM⟩) {g:Nat} (hg:B im=some g) (hb:Below w0.heap.size w0 V') (ho:Only (fun b=>b=g) V V') {v:Value} (hn:K v V' fun j=>if j=im then none else B j):∃B,In w0 a0 sp B (L.setIfInBounds i true) { tmps:=a.tmps.setIfInBounds d v,defers:=a.defers } V':=by
 have hno:=h.no i (Vq hr);have h1:∀j g,(if j=im then none else B j)=some g->B j=some g:=fun j g e=>by
  by_cases e2:j=im
  . rw [aM e2] at e;cases e
  . rwa [aY e2] at e
 refine ⟨_,h.gen k hs hr hb (fun j g _ e=>h1 j g e) (fun g e=> ?_) ⟨ho.mono fun b e=>⟨im,by rw [e,hg],by rw [aM rfl];simp⟩,fun j g e _=>h1 j g e,h.inj⟩ (fun s vH e1 e2 g2 e3=> ?_) hn⟩
 . have h2:=h1 i g e
   rw [hno] at h2;cases h2
 . rw [aY fun e4=>e2 ?_]
   . exact e3
   . rw [yV h.ni vH (Ja hm) e4]
theorem tree {Q:Nat->Prop} {n:Nat} {v:Value} {f:Pn n}(t:aO (fun b=>Q b∧b<w0.heap.size) n w0 v f):aO (fun b=>(Q b∧∀j,B j≠some b)∧b<V.heap.size) n V v f:=
 ((t.aC h.aC).here).mono fun b hb=>⟨⟨hb.1.1,fun j e=>by have:=h.lt j b e;have:=hb.1.2;omega⟩,hb.2⟩
theorem res {Q:Nat->Prop} {n:Nat} {v:Value} {f:Pn n}(hQ:∀b,w0.heap.size<=b->Q b) (t:aO (fun b=>((Q b∧∀j,B j≠some b)∧b<V.heap.size)∨V.heap.size<=b) n V' v f):aO (fun b=>Q b∧∀j,B j≠some b) n V' v f:=
 t.mono fun b hb=>hb.elim (fun h=>h.1) fun h1=>⟨hQ b (aG h.aC.size h1),fun j e=>by have:=h.lt j b e;omega⟩
end
end In
def KB (w0:World) (i:Nat) (o:Obj) (val:Nat->Value) (v:Value) (V:World) (B:Nat->Option Nat):Prop:=∃g,v=val g∧w0.heap.size<=g∧Hid (V.heap[g]? =some o)∧B i=some g
def KR (w0:World) (o:Obj) (val:Nat->Value) (v:Value) (V:World) (B:Nat->Option Nat):Prop:=∃g,v=val g∧w0.heap.size<=g∧Hid (V.heap[g]? =some o)∧∀j,B j≠some g
def KT (Q:Nat->Prop) (n:Nat) (F:Pn n->Prop) (v:Value) (V:World) (B:Nat->Option Nat):Prop:=∃x s A k c C m d,v=bE s A k c C m d∧F x∧Hid (aO (fun b=>Q b∧∀j,B j≠some b) n V (bE s A k c C m d) x)
def KO (w0:World) (Q:Nat->Prop) (n:Nat) (f:Pn n) (T:TypeId) (val:Nat->Value) (v:Value) (V:World) (B:Nat->Option Nat):Prop:=∃g s A k c C m d,v=val g∧w0.heap.size<=g∧Hid (V.heap[g]? =some (.cells #[.bool s,.slice A k c,.slice C m d] T))∧Hid (aO (fun b=>Q b∧∀j,B j≠some b) n V (bE s A k c C m d) f)∧∀j,B j≠some g
def vL (h:Kp V V' B B') {f:Pn n}(t:aO (fun b=>Q b∧∀j,B j≠some b) n V v f):aO (fun b=>Q b∧∀j,B' j≠some b) n V' v f:=
 t.here.only h.only (fun b hb ⟨j,h1,_⟩=>hb.1.2 j h1) fun b hb=>⟨hb.1.1,fun j e=>hb.1.2 j (h.old j b e hb.2)⟩
def KB.keeps:(⟨i,d,u,KB w0 i o val⟩:Sp).keeps:=fun _ _ _ _ _ h h1 ⟨g,a,b,c,e⟩=>⟨g,a,b,h.look (fun j e2=>by rw [h.inj j i g e2 e];exact h1 g e) c,h1 _ e⟩
def KR.keeps:(⟨i,d,u,KR w0 o val⟩:Sp).keeps:=fun _ _ _ _ _ h _ ⟨g,a,b,c,n⟩=>⟨g,a,b,h.look (fun j e=>(n j e).elim) c,fun j e=>n j (h.old j g e (jm.1 c.o).1)⟩
def KT.keeps {F:Pn n->Prop}:(⟨i,d,u,KT Q n F⟩:Sp).keeps:=fun _ _ _ _ _ h _ ⟨x,s,A,k,c,C,m,d,a,b,t⟩=>⟨x,s,A,k,c,C,m,d,a,b,vL h t⟩
def KO.keeps {f:Pn n} {T:TypeId}:(⟨i,d,u,KO w0 Q n f T val⟩:Sp).keeps:=fun _ _ _ _ _ h _ ⟨g,s,A,k,c,C,m,d,a,b,l,t,n⟩=>⟨g,s,A,k,c,C,m,d,a,b,h.look (fun j e=>(n j e).elim) l,vL h t,fun j e=>n j (h.old j g e (jm.1 l.o).1)⟩
def KA (Q:Nat->Prop) (n:Nat) (f:Pn n) (m:Nat) (v:Value) (V:World) (B:Nat->Option Nat):Prop:=∃g cap,v=.slice (some ⟨g,0,none⟩) m cap∧Hid (aO (fun b=>Q b∧∀j,B j≠some b) n V (bE false none 0 0 (some ⟨g,0,none⟩) m cap) f)
def KA.keeps {f:Pn n}:(⟨i,d,u,KA Q n f m⟩:Sp).keeps:=fun _ _ _ _ _ h _ ⟨g,c,a,t⟩=>⟨g,c,a,vL h t⟩
def KA1 (Q:Nat->Prop) (n:Nat) (f:Pn n) (m:Nat) (v:Value) (V:World) (B:Nat->Option Nat):Prop:=∃g cap,v=bE false none 0 0 (some ⟨g,0,none⟩) m cap∧Hid (aO (fun b=>Q b∧∀j,B j≠some b) n V (bE false none 0 0 (some ⟨g,0,none⟩) m cap) f)
def KA1.keeps {f:Pn n}:(⟨i,d,u,KA1 Q n f m⟩:Sp).keeps:=fun _ _ _ _ _ h _ ⟨g,c,a,t⟩=>⟨g,c,a,vL h t⟩
def ev (h:a.tmps[k]? =some v):a.eval (.tmp k)=v:=by
 simp [Act.eval,h]
def In.box {sp:List Sp} (h:In w0 a0 sp B L a V) (k:Nat) (hs:sp[k]? =some ⟨i,d,u,KB w0 i o val⟩) (hr:L.getD i true=false):∃B,In w0 a0 sp B (L.setIfInBounds i true) { tmps:=a.tmps.setIfInBounds d (val V.heap.size),defers:=a.defers } (V.alloc o):=by
 have hb:Below V.heap.size V (V.alloc o):=aU.alloc aL o;refine ⟨fun j=>if j=i then some V.heap.size else B j,h.gen k hs hr (h.aC.alloc h.aC.size o) (fun j g e e2=>by rwa [aY e] at e2) (fun g e=> ?_) (.of hb (fun j g e hl=> ?_) h.inj) (fun s _ e _ g e2=>by rw [aY e];exact e2) ⟨V.heap.size,rfl,h.aC.size,bM V o,aM rfl⟩⟩
 . simp only [tH] at e
   injection e with e
   rw [aJ];omega
 . by_cases e2:j=i
   . simp only [aM e2] at e;injection e with e;omega
   . simp only [aY e2] at e;exact e
def In.row {sp:List Sp} (h:In w0 a0 sp B L a V) (k:Nat) (hs:sp[k]? =some ⟨i,d,u,KR w0 o val⟩) (hr:L.getD i true=false):∃B,In w0 a0 sp B (L.setIfInBounds i true) { tmps:=a.tmps.setIfInBounds d (val V.heap.size),defers:=a.defers } (V.alloc o):=
 h.put k hs hr (aU.alloc aL o) ⟨V.heap.size,rfl,h.aC.size,bM V o,fun j e=>by have:=(h.lt j _ e).2;omega⟩
def In.own {sp:List Sp} (h:In w0 a0 sp B L a V) (k:Nat) {f:Pn n} {T:TypeId} (hs:sp[k]? =some ⟨i,d,u,KO w0 Q n f T val⟩) (hr:L.getD i true=false) {A:Option Addr} {k':Nat} {C:Option Addr} {d':Nat} (t:aO (fun b=>Q b∧∀j,B j≠some b) n V (bE s A k' c C m d') f):∃B,In w0 a0 sp B (L.setIfInBounds i true) { tmps:=a.tmps.setIfInBounds d (val V.heap.size),defers:=a.defers } (V.alloc (.cells #[.bool s,.slice A k' c,.slice C m d'] T)):=
 h.put k hs hr (aU.alloc aL _) ⟨V.heap.size,s,A,k',c,C,m,d',rfl,h.aC.size,bM V _,t.aC (aU.alloc aL _),fun j e=>by have:=(h.lt j _ e).2;omega⟩
def In.act {a0 a:Act} {sp:List Sp} (h:In w0 a0 sp B L a V) (ps:List (Nat×Value)) (e:ps.map (·.1)=sp.map Sp.d) (hp:∀p∈ps,a.tmps[p.1]? =some p.2):a={ tmps:=ps.foldr (fun p A=>A.setIfInBounds p.1 p.2) a0.tmps,defers:=a0.defers } :=by
 have h1:=amn (T0:=a0.tmps) (T:=a.tmps) (by rw [e];exact h.nd) (by rw [e];exact h.fr) hp;have h2:=h.df;cases a
 simp only at h1 h2;rw [h1,h2]
def fc {α:Type} {p:α->Prop} {x:α} {l:List α}(h:p x) (t:∀y∈l,p y):∀y∈x::l,p y:=List.forall_mem_cons.2 ⟨h,t⟩
def fn {α:Type} {p:α->Prop}:∀y∈([]:List α),p y:=List.forall_mem_nil p
def ndB:List Nat->Bool
 | []=>true
 | x::l=> !l.contains x && ndB l
def SN:∀{l:List Nat},ndB l=true->l.Nodup
 | [],_=>List.nodup_nil
 | x::l,h=>by
   simp only [ndB,wY,UY,List.contains_eq_mem,decide_eq_false_iff_not] at h;exact List.nodup_cons.2 ⟨h.1,SN h.2⟩
def eP {Q:Exit->Act->World->Prop} {I:Act->World->Prop} {o:Oper}(ho:ops[i]? =some o) (h:∀K':Act->World->Prop,Shut (∀a w,S w->I a w->K' a w)->if Region.wanted o (yielded ops a.tmps)=true then Oper.wp P o a V K' Q else K' (a.put o.dst undef) V):wpOp P ops Q i (fun a' w'=>(i≠z->S w')∧I a' w') a V:=
 wpOp_step ho fun K' hK=>h K' fun a w hS hI=>hK a w ⟨fun _=>hS,hI⟩
def reach (md:Region.Mode) (ops:Array Oper) (L0:Array Bool):Nat->Nat->Nat->Bool
 | 0,_,_=>false
 | d+1,j,k=>waits md ops j k || (List.range ops.size).any (fun m=> !L0.getD m false && waits md ops j m && reach md ops L0 d m k)
def BO (cl:∀i j,L.getD i false=true->L0.getD i false=false->waits md ops i j=true->L.getD j false=true):∀{d j k:Nat},reach md ops L0 d j k=true->(∀m,waits md ops j m=true->L.getD m false=true)->L.getD k false=true
 | d+1,j,k,h,hj=>by
   simp only [reach,UX,UW,wY,UY] at h;rcases h with h | ⟨m,_,⟨h0,h1⟩,h2⟩
   . exact hj k h
   . exact BO cl h2 fun m2 h3=>cl m m2 (hj m h1) h0 h3
def Ow (hw:∀i j,i<ops.size->waits md ops i j=true->j<i):∀{d j k:Nat},j<ops.size->reach md ops L0 d j k=true->k<j
 | d+1,j,k,hj,h=>by
   simp only [reach,UX,UW,wY] at h;rcases h with h | ⟨m,_,⟨_,h1⟩,h2⟩
   . exact hw j k hj h
   . have h3:=hw j m hj h1
     have:=Ow hw (by omega) h2;omega
def apr (md:Region.Mode) (ops:Array Oper) (is ds:List Nat) (n:Nat) (st:List Nat) (L0 F:Array Bool):Bool:=
 ndB is && ndB ds && ds.all (fun d=>decide (d<n)) && is.all (fun i=> !L0.getD i true) &&
 L0.size==ops.size && F.size==ops.size && ops.toList.zipIdx.all (fun p=>p.1.after.all fun e=> !Region.binds md e || e.on<p.2) &&
 (List.range ops.size).all (fun j=>(if st.contains j then !F.getD j true && !L0.getD j true && (List.range ops.size).all (fun k=>st.contains k || L0.getD k false || reach md ops L0 4 j k) else F.getD j false && (L0.getD j false || is.contains j)))
def o7 {Q:Exit->Act->World->Prop} {w1:World} {L0:Array Bool} {fuel:Nat}(sp:List Sp) (is ds st:List Nat) (F:Array Bool) (n:Nat) (ei:sp.map Sp.i=is) (ed:sp.map Sp.d=ds)
 (hc:apr md ops is ds a0.tmps.size st L0 F=true) (hf:L0.toList.countP (fun b=> !b)=fuel) (hn:F.toList.countP (fun b=> !b)=n) (hb:Below w0.heap.size w0 w1) (hk:∀s∈sp,s.keeps)
 (hs:∀i∈is,∀(L:Array Bool) (a:Act) (V:World) (B:Nat->Option Nat),L.getD i true=false->(∀j,waits md ops i j=true->L.getD j false=true)->In w0 a0 sp B L a V->wpOp P ops Q i (fun a' w'=>(i≠z->S w')∧∃B,In w0 a0 sp B (L.setIfInBounds i true) a' w') a V)
 (he:∀(a:Act) (V:World) (B:Nat->Option Nat),In w0 a0 sp B F a V->lN P md ops Q S z n F a V):lN P md ops Q S z fuel L0 a0 w1:=by
 subst ei ed;simp only [apr,wY,Qy,FA] at hc;obtain ⟨⟨⟨⟨⟨⟨⟨Yt,jQ⟩,OH⟩,hd4⟩,WB⟩,NH⟩,hc3⟩,hc4⟩:=hc;have hst:∀j,j<ops.size->(j∈st->L0.getD j true=false∧F.getD j true=false∧∀k,k<ops.size->k∉st->L0.getD k false=false->reach md ops L0 4 j k=true)∧(j∉st->F.getD j false=true∧(L0.getD j false=true∨j∈sp.map Sp.i)):=fun j hj=>by
  have h:=hc4 j (om.2 hj);by_cases e:j∈st
  . rw [aM (by simpa using e)] at h
    simp only [wY,UY,FA] at h;refine ⟨fun _=>⟨h.1.2,h.1.1,fun k hk hn h0=> ?_⟩,fun h=>absurd e h⟩;have:=h.2 k (om.2 hk);simpa [hn,h0] using this
  . rw [aY (by simpa using e)] at h
    simp only [wY,UX,List.contains_iff_mem] at h;exact ⟨fun h=>absurd h e,fun _=>h⟩
 have wt:∀{i j:Nat} {o:Oper},ops[i]? =some o->waits md ops i j=true->∃e∈o.after,Region.binds md e=true∧e.on=j:=fun {i j o} ho h=>by
  unfold waits at h;rw [ho] at h;simp only [ass,wY,Qy] at h;exact h
 have bk:∀{j:Nat} {o:Oper},ops[j]? =some o->∀e∈o.after,Region.binds md e=true->e.on<j:=fun {j o} ho e he qx=>by
  obtain ⟨hl,ho2⟩:=jm.1 ho;have h:=hc3 (o,j) (by rw [List.mem_zipIdx_iff_getElem?];simpa using ho);rw [Array.all_eq_true'] at h;simpa [qx] using h e he
 have all:∀L:Array Bool,L.size=ops.size->(∀j,L0.getD j false=true->L.getD j false=true)->(∀i,i∉Region.ready md ops L)->∀j,j<ops.size->j∉st->L.getD j false=true:=by
  intro L hsz xB hno j;induction j using Nat.strongRecOn with
  | _ j ih=>
    intro hj hjs;cases hq:L.getD j false with
    | true=>rfl
    | false=>
      refine (hno j (mem_ready.2 ⟨?_,ops[j],pQ hj,fun e he qx=> ?_⟩)).elim
      . rw [mz,pQ (by omega)] at hq ⊢
        exact hq
      . have h1:=bk (pQ hj) e he qx
        refine ih e.on h1 (by omega) fun hes=> ?_;have h3:=Ow (fun i j hi hw=>by
         obtain ⟨e2,he2,cN,rfl⟩:=wt (pQ hi) hw;exact bk (pQ hi) e2 he2 cN) (by omega) (((hst e.on (by omega)).1 hes).2.2 j hj hjs (by cases h0:L0.getD j false with | false=>rfl | true=>rw [xB j h0] at hq;cases hq))
        omega
 have main:∀fuel (L:Array Bool) (a:Act) (w:World) (B:Nat->Option Nat),L.toList.countP (fun b=> !b)=fuel->L.size=ops.size->(∀j∈st,j<ops.size->L.getD j true=false)->(∀j,L0.getD j false=true->L.getD j false=true)->(∀i j,L.getD i false=true->L0.getD i false=false->waits md ops i j=true->L.getD j false=true)->In w0 a0 sp B L a w->lN P md ops Q S z fuel L a w:=by
  intro fuel;induction fuel with
  | zero=>
    intro L a w B hc hsz hu hl OI hI;have hF:∀j,j<ops.size->L.getD j false=true:=fun j hj=>by
     cases hq:L.getD j false with
     | true=>rfl
     | false=>
       rw [mz,pQ (by omega)] at hq;have h3:0<L.toList.countP (fun b=> !b):=List.countP_pos_iff.2 ⟨L[j],by simp,by rw [show L[j]=false from hq];rfl⟩;omega
    have e:L=F:=Array.ext (by omega) fun j h1 h2=>by
     have h3:=hF j (by omega);rw [mz,pQ h1] at h3;by_cases hs:j∈st
     . exact (Vr (hF j (by omega)) (hu j hs (by omega))).elim
     . have h4:=((hst j (by omega)).2 hs).1
       rw [mz,pQ h2] at h4;exact (show L[j]=true from h3).trans (show F[j]=true from h4).symm
    subst e;rw [<- hc,hn];exact he a w B hI
  | succ fuel ih=>
    intro L a w B hc hsz hu hl OI hI;by_cases eR:∀j,j<ops.size->j∉st->L.getD j false=true
    . have e:L=F:=Array.ext (by omega) fun j h1 h2=>by
       by_cases hs:j∈st
       . have h3:=hu j hs (by omega)
         have h4:=((hst j (by omega)).1 hs).2.1;rw [mz,pQ h1] at h3;rw [mz,pQ h2] at h4;exact (show L[j]=false from h3).trans (show F[j]=false from h4).symm
       . have h3:=eR j (by omega) hs
         have h4:=((hst j (by omega)).2 hs).1;rw [mz,pQ h1] at h3;rw [mz,pQ h2] at h4;exact (show L[j]=true from h3).trans (show F[j]=true from h4).symm
      subst e;rw [<- hc,hn];exact he a w B hI
    . refine ⟨fun hr=>(eR (all L hsz hl (fun i hi=>by rw [hr] at hi;cases hi))).elim,fun i hi=> ?_⟩
      obtain ⟨h1,oi,hoi,hd⟩:=mem_ready.1 hi;have hiz:i<ops.size:=(jm.1 hoi).1;have hdw:∀j,waits md ops i j=true->L.getD j false=true:=fun j hw=>by
       obtain ⟨e,he,hb,rfl⟩:=wt hoi hw;exact hd e he hb
      have his:i∉st:=fun hs=>eR fun j hj hjs=>by
       cases h0:L0.getD j false with
       | true=>exact hl j h0
       | false=>exact BO OI (((hst i hiz).1 hs).2.2 j hj hjs h0) hdw
      have him:i∈sp.map Sp.i:=(((hst i hiz).2 his).2).resolve_left fun h=>Vr (hl i h) h1;refine wpOp_mono (fun a' w' h=>⟨h.1,?_⟩) (hs i him L a w B h1 hdw hI);obtain ⟨B',hI'⟩:=h.2;refine ih _ a' w' B' ?_ (by rw [Ji];exact hsz) (fun j hj hjl=> ?_) (fun j hj=> ?_) (fun k j hk h0 hw=> ?_) hI'
      . have hlt:=Vt h1
        have h2:L[i]=false:=by
         rw [mz,pQ hlt] at h1;exact h1
        have h5:=countP_set L.toList i (by simpa using hlt) (by simpa using h2);(have h6:(L.setIfInBounds i true).toList=L.toList.set i true:=by simp);rw [h6];omega
      . rw [afO (fun e=>his (by rw [<- e];exact hj))];exact hu j hj hjl
      . by_cases e:j=i
        . rw [e];exact GY (Vt h1)
        . rw [EP e];exact hl j hj
      . have hj:L.getD j false=true:=by
         by_cases e:k=i
         . rw [e] at hw;exact hdw j hw
         . rw [EP e] at hk;exact OI k j hk h0 hw
        by_cases e:j=i
        . rw [e];exact GY (Vt h1)
        . rw [EP e];exact hj
 refine main fuel L0 a0 w1 (fun _=>none) hf WB (fun j hj hjl=>((hst j hjl).1 hj).1) (fun _ h=>h) (fun i j h h0 _=>by rw [h0] at h;cases h)
  ⟨hk,SN Yt,SN jQ,fun s hs=>by simpa using OH s.d (af.2 ⟨s,hs,rfl⟩),hb,fun _ _=>rfl,fun _ _ h=>(by cases h),fun _ _ _ h=>(by cases h),⟨rfl,fun _ _=>rfl⟩,rfl,fun s hs h=> ?_⟩
 have h2:=hd4 s.i (af.2 ⟨s,hs,rfl⟩);exact (Vr h (by simpa using h2)).elim
open aF
def aO.Vu {S:Nat->Prop} {w:Go.World} {A:Option Go.Addr} {B:Option Go.Addr} {f:Pn (n+1)}(h:aO S (n+1) w (bE s A k c B m d) f):s=false∧A=none∧k=0∧c=0∧m=(kids f).len:=by
 obtain ⟨B',c',e,_⟩:=h;unfold bE at e;simp only [Go.Value.agg.injEq,Array.mk.injEq,UU,Go.Value.bool.injEq,Go.Value.slice.injEq] at e;obtain ⟨e1,⟨e2,e3,e4⟩,⟨_,e5,_⟩,_⟩:=e;exact ⟨e1,e2,e3,e4,e5⟩
def Xb (x:Pn n):aH.nm (mkK (Poly.C x))=aH.nm x:=by
 rw [yX,uE];exact ahU x
def acv {E:Nat->Nat} {x:Pn n}(h:aH.dg E x):aH.dg (Poly.bg 0 E) (mkK (Poly.C x)):=(show Poly.mo (Poly.bg 0 E) (kids (mkK (Poly.C x))) from aiT h)
section
def Ie (w:World) (a:Obj):(w.alloc a).heap[w.heap.size]? =some a:=bM w a
def Xt (w:World) (a b:Obj):((w.alloc a).alloc b).heap[w.heap.size+1]? =some b:=by
 have h:=bM (w.alloc a) b;rwa [aJ] at h
def aaO {w:World} {g:Nat} {o:Obj}(h:w.heap[g]? =some o) (a:Obj):(w.alloc a).heap[g]? =some o:=by
 rw [xo w a (jm.1 h).1];exact h
def aaP {w w':World} {g:Nat} {o:Obj}(hb:Below w.heap.size w w') (h:w.heap[g]? =some o):w'.heap[g]? =some o:=(hb.block g (jm.1 h).1).trans h
def jx {w0 w:World}(h:Below w0.heap.size w0 w) (o:Obj):Below w0.heap.size w0 (w.alloc o):=h.alloc h.size o
def Ea {w0 W w':World} {gM k:Nat}(h:Below w0.heap.size w0 W) (hg:W.grownBy w' (Value.ownBlock (.slice (some ⟨gM,0,none⟩) k k))) (mj:w0.heap.size<=gM):Below w0.heap.size w0 w':=h.grown hg h.size fun j hj=>by
 have e:gM=j:=by injection hj
 rw [<- e];exact mj
def PD {W:World} {g m base:Nat} {T:TypeId}(h:W.heap[g]? =some (.cells (madeCells #[Value.bool false,.slice none 0 0,.slice none 0 0] (m*3)) T (0,0))) (hb:base<=g) (hm:m<=maxLen):W.ownsRow base T 3 (.slice (some ⟨g,0,none⟩) m m) m (iL (List.replicate m KE.nought)):=
 ⟨by rw [pz,fQ],.inr ⟨g,m,_,rfl,hb,h,aL,hm,size_madeCells _ _,by
   rw [Bk];refine iC ?_;rw [pz,fQ];exact aL⟩⟩
def XS {S Q:Nat->Prop} {n:Nat} {W w':World} {T:TypeId} {base g gM k cap:Nat} {x:KE} {c:Pn n}(aa:w'.ownsRow base T 3 (.slice (some ⟨g,0,none⟩) (k+1) cap) (k+1) (iL (List.replicate k KE.nought)++xX x)) (rD:W.grownBy w' (Value.ownBlock (.slice (some ⟨gM,0,none⟩) k k))) (hx:aO S n W x.v c) (hne:∀b,S b->b≠gM) (c0:c≠0) (hQ:∀b,S b->b<W.heap.size->Q b) (hg:Q g):
 aO Q (n+1) w' (bE false none 0 0 (some ⟨g,0,none⟩) (k+1) cap) (mkK (Poly.mono k c)):=by
 have hl:(kids (mkK (Poly.mono k c))).len=k+1:=Poly.Vk c0;have CV:k+1<=cap∧cap<=maxLen:=by
  rcases aa.2 with ⟨hv,_⟩ | ⟨g',cap',cur,hv,_,_,h3,h4,_⟩
  . injection hv with e;cases e
  . injection hv with _ _ e
    subst e;exact ⟨h3,h4⟩
 have hmx:maxLen<=9223372036854775807:=by unfold maxLen;omega
 have hL:(List.replicate k KE.nought++[x]).length=k+1:=by simp
 rw [<- Fh] at aa;refine ⟨some ⟨g,0,none⟩,cap,by rw [hl],by rw [hl];exact CV.1,by omega,fun _=>⟨g,0,rfl,hg,(aa.lt g rfl).2,fun i hi=> ?_⟩⟩;rw [hl] at hi;obtain ⟨t0,t1,t2⟩:=vg (L:=List.replicate k KE.nought++[x]) (i:=i) (by omega);have c0:=aa.cells (g:=g) rfl (i*3) _ t0;have c1:=aa.cells (g:=g) rfl (i*3+1) _ t1;have c2:=aa.cells (g:=g) rfl (i*3+2) _ t2;rw [j5] at c0 c1 c2;refine ⟨_,_,_,_,_,_,_,c0,c1,c2,?_⟩;show aO Q n w' (List.replicate k KE.nought++[x])[i].v ((kids (mkK (Poly.mono k c))).co i);rw [uE,Poly.dZ];by_cases e:i=k
 . subst e
   rw [aM rfl,adv (by simp)];simp only [fQ,vC,UT];have o3:Only (fun b=>gM=b) W w':=(Only.fK rD).mono fun j hj=>by
    (have h5:Value.ownBlock (.slice (some ⟨gM,0,none⟩) i i)=some j:=by first | exact hj | exact hj.symm);injection h5
   exact hx.here.only o3 (fun b hb e=>hne b hb.1 e.symm) fun b hb=>hQ b hb.1 hb.2
 . rw [aY e,Up (by simp;omega),zQ]
   exact aO.nought _ _ n
def In.part {w0 V V':World} {a0 a:Act} {sp:List Sp} {B:Nat->Option Nat} {L:Array Bool} (h:In w0 a0 sp B L a V) (k:Nat) {i d u:Nat} {Q:Nat->Prop} {n m:Nat} {c:Pn n} (hs:sp[k]? =some ⟨i,d,u,KA Q (n+1) (mkK (Poly.mono m c)) (m+1)⟩) (hr:L.getD i true=false) (km:Nat) {im dm:Nat} {KM:Value->World->(Nat->Option Nat)->Prop} (hm:sp[km]? =some ⟨im,dm,i,KM⟩) {g:Nat} (hg:B im=some g) (mj:w0.heap.size<=g) (rD:V.grownBy V' (Value.ownBlock (.slice (some ⟨g,0,none⟩) m m))) {T:TypeId} {x:KE} {base g8 cap:Nat} (aa:V'.ownsRow base T 3 (.slice (some ⟨g8,0,none⟩) (m+1) cap) (m+1) (iL (List.replicate m KE.nought)++xX x)) (gZ:Value.ownBlock (.slice (some ⟨g,0,none⟩) m m)=some g8∨g8=V.heap.size) (t:aO (fun b=>Q b∧∀j,B j≠some b) n V x.v c) (c0:c≠0) (hQ:∀b,w0.heap.size<=b->Q b):∃B,In w0 a0 sp B (L.setIfInBounds i true) { tmps:=a.tmps.setIfInBounds d (.slice (some ⟨g8,0,none⟩) (m+1) cap),defers:=a.defers } V':=by
 have h8:g8=g∨g8=V.heap.size:=gZ.imp (fun e=>by injection e with e;exact e.symm) id;refine h.app k hs hr km hm hg (Ea h.aC rD mj) ((Only.fK rD).mono fun j hj=>by injection hj with hj;exact hj.symm) ⟨g8,cap,rfl,XS aa rD t (fun b hb e=>hb.2 im (e ▸ hg)) c0 (fun b hb _=>⟨hb.1,fun j e=> ?_⟩) ⟨?_,fun j e=> ?_⟩⟩
 . dsimp only at e
   split at e
   . cases e
   . exact hb.2 j e
 . have:=h.aC.size
   rcases h8 with e | e
   . exact hQ _ (by omega)
   . exact hQ _ (by omega)
 . dsimp only at e
   split at e
   . cases e
   . rename_i e2
     rcases h8 with e3 | e3
     . rw [e3] at e;exact e2 (h.inj _ _ _ e hg)
     . have:=(h.lt _ _ e).2;omega
end
def apg (n K:Nat) (hK:K<=3900000000000) (hn:n<=98) (S:Nat->Prop) (w:World) (u v:Value) (f q:Pn (n+1)) (D E:Nat->Nat) (hf:aO S (n+1) w u f) (hq:aO S (n+1) w v q) (q0:q≠0) (df:aH.dg D f) (dq:aH.dg E q) (WG:∀j,D j+((kids f).len+2)*E j<1000000000000) (nq:aH.nm q<2^(64*K)) (hN:(2*aH.nm q)^((kids f).len+1-(kids q).len)*aH.nm f<2^(64*K)):
 aB 54 #[u,.int .i64 ((n:Int)+1),v] w (fun e w'=>∃r k,Poly.RI (kids f) (kids q) D E k (kids r)∧(kids r).len<(kids q).len∧bW S w (n+1) r e w'):=by
 have df':Poly.mo D (kids f):=df;have dq':Poly.mo E (kids q):=dq;have Sx:0<(kids q).len:=uS fun e=>q0 (jC.1 e);have hlf:(kids f).len<1000000000001:=by
  have h1:=Poly.bV df'.1;have h3:=WG 0;have:D 0<=D 0+((kids f).len+2)*E 0:=FB _ _;omega
 have axT:(kids q).len<1000000000001:=by
  have h1:=Poly.bV dq'.1;have h3:=WG 0;have:1*E 0<=((kids f).len+2)*E 0:=bG _ (by omega);omega
 obtain ⟨Bf,cf,rfl,h1,h2,h3⟩:=id hf;obtain ⟨Bq,cq,rfl,i1,i2,i3⟩:=id hq;clear h3 i3;have EY:=hf.here;have hq':=hq.here;have t0:=((aX.new w (.bool false) (.slice none 0 0) (.slice Bf (kids f).len cf)).aC (aU.alloc aL (.cells #[.bool false,.slice none 0 0,.slice Bq (kids q).len cq] 51))).aC (aU.alloc aL (.cells #[.bool false,.slice none 0 0,.slice none 0 0] 51));have t1:=(aX.new (w.alloc (.cells #[.bool false,.slice none 0 0,.slice Bf (kids f).len cf] 51)) (.bool false) (.slice none 0 0) (.slice Bq (kids q).len cq)).aC (aU.alloc aL (.cells #[.bool false,.slice none 0 0,.slice none 0 0] 51));have t2:=aX.new ((w.alloc (.cells #[.bool false,.slice none 0 0,.slice Bf (kids f).len cf] 51)).alloc (.cells #[.bool false,.slice none 0 0,.slice Bq (kids q).len cq] 51)) (.bool false) (.slice none 0 0) (.slice none 0 0);rw [aJ] at t1;rw [aJ,aJ] at t2;have hb:Below w.heap.size w (((w.alloc (.cells #[.bool false,.slice none 0 0,.slice Bf (kids f).len cf] 51)).alloc (.cells #[.bool false,.slice none 0 0,.slice Bq (kids q).len cq] 51)).alloc (.cells #[.bool false,.slice none 0 0,.slice none 0 0] 51)):=((aU.alloc aL _).alloc (by simp) _).alloc (by simp;omega) _;have hsz:(((w.alloc (.cells #[.bool false,.slice none 0 0,.slice Bf (kids f).len cf] 51)).alloc (.cells #[.bool false,.slice none 0 0,.slice Bq (kids q).len cq] 51)).alloc (.cells #[.bool false,.slice none 0 0,.slice none 0 0] 51)).heap.size=w.heap.size+1+1+1:=by simp
 have HF:Hid (aO (fun b=>(S b∧b<w.heap.size)∨w.heap.size+1+1+1<=b) (n+1) (((w.alloc (.cells #[.bool false,.slice none 0 0,.slice Bf (kids f).len cf] 51)).alloc (.cells #[.bool false,.slice none 0 0,.slice Bq (kids q).len cq] 51)).alloc (.cells #[.bool false,.slice none 0 0,.slice none 0 0] 51)) (.agg #[.bool false,.slice none 0 0,.slice Bf (kids f).len cf]) f):=(EY.aC hb).mono fun b hb=> .inl hb;have HQ:=aA hq';have Ddq:=aA dq';have Ddf:=aA df';have HDE:=aA WG;clear hf hq EY hq' df dq df' dq' WG;unfold bE;go_enter func54,ntmps54
 go_wp2_with fail
 generalize je:((w.alloc (.cells #[.bool false,.slice none 0 0,.slice Bf (kids f).len cf] 51)).alloc (.cells #[.bool false,.slice none 0 0,.slice Bq (kids q).len cq] 51)).alloc (.cells #[.bool false,.slice none 0 0,.slice none 0 0] 51)=wt at*
 clear je;have T0:=aA t0;have T1:=aA t1;have T2:=aA t2;have HB:=aA hb;clear t0 t1 t2 hb;go_loopg [] ((kids f).len+1) (fun gk wr=>∃(f':Pn (n+1)) (k:Nat) (Bp:Option Addr) (cp:Nat),(kids f').len<gk∧Hid (Poly.RI (kids f) (kids q) D E k (kids f'))∧Hid (aX wr w.heap.size (.bool false) (.slice none 0 0) (.slice Bp (kids f').len cp))∧Hid (aO (fun b=>(S b∧b<w.heap.size)∨w.heap.size+1+1+1<=b) (n+1) wr (.agg #[.bool false,.slice none 0 0,.slice Bp (kids f').len cp]) f')∧Hid (Only (fun b=>b=w.heap.size∨wt.heap.size<=b) wt wr))
 case atStart=>exact ⟨f,0,Bf,cf,by omega,Poly.RI.start _ _ _ Ddf.o,T0,HF,Only.refl _ _⟩
 case round=>
  clear T0 HF;obtain ⟨f',k,Bp,cp,hg,hI,hT,hV,j7⟩:=hrel;obtain ⟨wp,rfl⟩:∃wp:World,wp=wr:=⟨_,rfl⟩;have P1:Hid (aX wp (w.heap.size+1) (.bool false) (.slice none 0 0) (.slice Bq (kids q).len cq)):=T1.o.keep (j7.o.block _ T1.o.lt (by omega));have P2:Hid (aX wp (w.heap.size+1+1) (.bool false) (.slice none 0 0) (.slice none 0 0)):=T2.o.keep (j7.o.block _ T2.o.lt (by omega));have pW:Hid (Below w.heap.size w wp):=HB.o.trans (j7.o.below (oy (by omega)) fun b hb=>by omega);have a0:=hT.o.cell0;have a1:=hT.o.cell1;have a2:=hT.o.aN;have b0:=P1.o.cell0;have b1:=P1.o.cell1;have b2:=P1.o.aN;have Ds:=hI.o.len;have hwz:=j7.o.size;by_cases hlt:(kids q).len<=(kids f').len
  . have dH:((kids q).len:Int)<=((kids f').len:Int):=by omega
    obtain ⟨m,hm⟩:∃m:Nat,(kids f').len-(kids q).len=m:=⟨_,rfl⟩;(have ew3:IntKind.i64.wrap (((kids f').len:Int)-((kids q).len:Int))=(m:Int):=by rw [bP _ (by omega)];omega);have KI:=vY m (by omega);obtain ⟨i0,rT,jE,jD,jJ⟩:=eG sP;(have hf0:0<(kids f').len:=by omega);have ali:(kids f').lc≠0:=Poly.ve hf0;(have hmx:m<=maxLen:=by unfold maxLen;omega);(have hq1:m+1<=maxLen:=by unfold maxLen;omega);(have hq2:(m+1)*56<=140737488355328:=by omega);have ZQ:=hV.o.here;have CL:Hid (∀(T:Nat->Prop) (V:World),Below wp.heap.size wp V->aO T (n+1) V (.agg #[.bool false,.slice none 0 0,.slice Bp (kids f').len cp]) f'->aB 84 #[.agg #[.bool false,.slice none 0 0,.slice Bp (kids f').len cp]] V (bW T V n (kids f').lc)):=fun T V _ h=>Vl T n V _ f' h hf0;have HT:=hT;have hV':=hV;(go_wp2_with fail);have eF:Hid (∀V,Below wp.heap.size wp V->(fun V=>V.cell? ⟨w.heap.size,0,none⟩=some (.bool false)∧V.cell? ⟨w.heap.size,1,none⟩=some (.slice none 0 0)∧V.cell? ⟨w.heap.size,2,none⟩=some (.slice Bp (kids f').len cp)∧V.cell? ⟨w.heap.size+1,2,none⟩=some (.slice Bq (kids q).len cq)) V):=fun V hV=>⟨(HT.o.aC hV).cell0,(HT.o.aC hV).cell1,(HT.o.aC hV).aN,(P1.o.aC hV).aN⟩;go_cut [7] (fun s7 wx=>∃(g7 gg cap:Nat),s7=.pointer (some ⟨g7,0,none⟩)∧wp.heap.size<=g7∧Hid (aX wx g7 (.bool false) (.slice none 0 0) (.slice (some ⟨gg,0,none⟩) (m+1) cap))∧Hid (aO (fun b=>(S b∧b<w.heap.size)∨w.heap.size+1+1+1<=b) (n+1) wx (.agg #[.bool false,.slice none 0 0,.slice (some ⟨gg,0,none⟩) (m+1) cap]) (mkK (Poly.mono m (kids f').lc)))∧Hid (Below wp.heap.size wp wx))
    case first=>
     refine fh (S:=fun V=>V.cell? ⟨w.heap.size,0,none⟩=some (.bool false)∧V.cell? ⟨w.heap.size,1,none⟩=some (.slice none 0 0)∧V.cell? ⟨w.heap.size,2,none⟩=some (.slice Bp (kids f').len cp)∧V.cell? ⟨w.heap.size+1,2,none⟩=some (.slice Bq (kids q).len cq)) (z:=14) (by kernel_rfl) ?_;have hHeld:=eF.o _ (Below.refl wp.heap.size wp).drew;(try dsimp only at hHeld);refine tk 14 0 (.pointer (some ⟨w.heap.size,2,none⟩)) rfl hHeld ?_;(try simp only [fx,Act.put]);refine tk 14 1 (.slice Bp (kids f').len cp) rfl hHeld ?_;(try simp only [fx,Act.put]);refine tk 14 2 (.int .i64 ((kids f').len:Int)) rfl hHeld ?_;(try simp only [fx,Act.put]);refine tk 14 3 (.pointer (some ⟨w.heap.size+1,2,none⟩)) rfl hHeld ?_;(try simp only [fx,Act.put]);refine tk 14 4 (.slice Bq (kids q).len cq) rfl hHeld ?_;(try simp only [fx,Act.put]);refine tk 14 5 (.int .i64 ((kids q).len:Int)) rfl hHeld ?_;(try simp only [fx,Act.put]);refine tk 14 6 (.int .i64 (m:Int)) rfl hHeld ?_;(try simp only [fx,Act.put]);refine tk 14 8 (.agg #[.bool false,.slice none 0 0,.slice Bp (kids f').len cp]) rfl hHeld ?_;(try simp only [fx,Act.put]);have iq:Hid (∀b,wp.heap.size<=b->(fun b=>(S b∧b<w.heap.size)∨w.heap.size+1+1+1<=b) b):=fun b hb=> .inr (by omega);refine o7 (w0:=wp) [⟨7,22,11,KB wp 7 (.cells (madeCells #[Value.bool false,.slice none 0 0,.slice none 0 0] (m*3)) 51) (fun g=> .slice (some ⟨g,0,none⟩) m m)⟩,⟨9,24,9,KT (fun b=>(S b∧b<w.heap.size)∨w.heap.size+1+1+1<=b) n (fun x=>(kids f').lc=x)⟩,⟨10,25,10,KO wp (fun b=>(S b∧b<w.heap.size)∨w.heap.size+1+1+1<=b) n (kids f').lc 51 (fun g=> .slice (some ⟨g,0,none⟩) 1 1)⟩,⟨11,26,11,KA (fun b=>(S b∧b<w.heap.size)∨w.heap.size+1+1+1<=b) (n+1) (mkK (Poly.mono m (kids f').lc)) (m+1)⟩,⟨12,27,12,KA1 (fun b=>(S b∧b<w.heap.size)∨w.heap.size+1+1+1<=b) (n+1) (mkK (Poly.mono m (kids f').lc)) (m+1)⟩,⟨13,7,13,KB wp 13 (.cells #[.bool false,.slice none 0 0,.slice none 0 0] 51) (fun g=> .pointer (some ⟨g,0,none⟩))⟩] [7,9,10,11,12,13] [22,24,25,26,27,7] [14] #[true,true,true,true,true,true,true,true,true,true,true,true,true,true,false] 1 rfl rfl (by kernel_rfl) rfl rfl (Below.refl wp.heap.size wp).drew (fc KB.keeps (fc KT.keeps (fc KO.keeps (fc KA.keeps (fc KA1.keeps (fc KB.keeps (fn))))))) (fc ?_ (fc ?_ (fc ?_ (fc ?_ (fc ?_ (fc ?_ (fn))))))) ?_
     . intro L a V B hr hd h
       have N9:=h.old 21 rfl rfl;refine eP rfl fun KK bu=> ?_;go_simp;exact bu.o _ _ (eF.o _ (h.aC.alloc h.aC.size _)) (h.box 0 rfl hr)
     . intro L a V B hr hd h
       have r23:=h.old 23 rfl rfl;refine eP rfl fun KK bu=> ?_;go_simp;refine (CL.o _ V h.aC (h.tree ZQ)).mono ?_;rintro e w' ⟨s0,A0,k0,c0,B0,m0,d0,rfl,hv,hb⟩;unfold bE;(go_wp2_with fail);exact bu.o _ _ (eF.o _ (h.aC.tm hb)) (h.put 1 rfl hr hb ⟨_,s0,A0,k0,c0,B0,m0,d0,rfl,rfl,h.res iq.o hv⟩)
     . intro L a V B hr hd h
       obtain ⟨_,qL,_,sL,AL,kL,cL,BL,mL,dL,rfl,rfl,tL⟩:=h.get 1 rfl (hd 9 (by kernel_rfl)) (.inl rfl);refine eP rfl fun KK bu=> ?_;go_simp;exact bu.o _ _ (eF.o _ (h.aC.alloc h.aC.size _)) (h.own 2 rfl hr tL.o)
     . intro L a V B hr hd h
       obtain ⟨_,qM,gM,rfl,hM,lM,BM⟩:=h.get 0 rfl (hd 7 (by kernel_rfl)) (.inr (Vq hr));obtain ⟨_,qB,gB,sB,AB,kB,cB,BB,mB,dB,rfl,hB,lB,tB,nB⟩:=h.get 2 rfl (hd 10 (by kernel_rfl)) (.inl rfl);refine eP rfl fun KK bu=> ?_;refine pN _ (by rfl) _ _ _ (by rfl) wp.heap.size 51 i0 _ 3 56 underlying49 rT jE jD jJ rfl (by omega) _ m _ (ev qM) (PD lM.o hM hmx) ⟨gB,0,none⟩ 1 1 [.bool sB,.slice AB kB cB,.slice BB mB dB] (ev qB) (by rfl) (gw lB.o) (by simp [Value.oneCell']) Nat.one_pos hq1 hq2 h.aC.size _ rfl ?_;intro g8 cap w8 aa aW gZ _;exact bu.o _ _ (eF.o _ (Ea h.aC aW hM)) (h.part 3 rfl hr 0 rfl BM hM aW (x:=⟨sB,AB,kB,cB,BB,mB,dB⟩) aa gZ tB.o ali iq.o)
     . intro L a V B hr hd h
       obtain ⟨_,qA,gA,acO,rfl,tA⟩:=h.get 3 rfl (hd 11 (by kernel_rfl)) (.inl rfl);refine eP rfl fun KK bu=> ?_;go_simp;exact bu.o _ _ (eF.o _ h.aC) (h.put 4 rfl hr aU ⟨gA,acO,rfl,tA⟩)
     . intro L a V B hr hd h
       refine eP rfl fun KK bu=> ?_;go_simp;exact bu.o _ _ (eF.o _ (h.aC.alloc h.aC.size _)) (h.box 5 rfl hr)
     intro a9 wv B h;obtain ⟨_,qM⟩:=h.has 0 rfl rfl;obtain ⟨_,qL,_,sL,AL,kL,cL,BL,mL,dL,rfl,rfl,tL⟩:=h.get 1 rfl rfl (.inl rfl);obtain ⟨_,qB,gB,sB,AB,kB,cB,BB,mB,dB,rfl,hB,lB,tB,nB⟩:=h.get 2 rfl rfl (.inl rfl);obtain ⟨_,qA,gA,acO,rfl,tA⟩:=h.get 3 rfl rfl (.inl rfl);obtain ⟨_,qU,gU,amP,rfl,tU⟩:=h.get 4 rfl rfl (.inl rfl);obtain ⟨_,qX,gX,rfl,hX,lX,BX⟩:=h.get 5 rfl rfl (.inl rfl);have hV:=aA h.aC;have hz9:=h.aC.size;have tX:Hid (aX wv gX (.bool false) (.slice none 0 0) (.slice none 0 0)):=lX.o;have v0:=tX.o.cell0;have f0:=tX.o.frozen 0;have v1:=tX.o.cell1;have f1:=tX.o.frozen 1;have v2:=tX.o.aN;have f2:=tX.o.frozen 2;obtain rfl:=h.act [(22,_),(24,_),(25,_),(26,_),(27,_),(7,_)] rfl (fc qM (fc qL (fc qB (fc qA (fc qU (fc qX (fn)))))));simp only [List.foldr];(try simp only [fx,Act.put]);refine aT (rs:=[14]) (by kernel_rfl) (by simp) ?_;refine aK.last rfl (fun KK bu=> ?_);go_simp;refine bu.o _ _ ?_;clear bu KK;refine fE (by kernel_rfl) ?_ _;(go_wp2_with fail);go_meet
     exact ⟨gX,gU,amP,rfl,hX,tX.o.set _ _ _,tU.o.only (aZ wv gX _ _ _) (fun b hb e=>hb.2 13 (e ▸ BX)) (fun b hb=>hb.1),gP hV.o hX _ _ _⟩
    case rest=>
     obtain ⟨g7,gg,cap,rfl,zl,hT7,YI,Yw⟩:=hcut;obtain ⟨wy,rfl⟩:∃V:World,V=wc:=⟨_,rfl⟩;have HT3:=aA (hT.o.aC Yw.o);have P13:=aA (P1.o.aC Yw.o);have HT7:=hT7;have hsy:=Yw.o.size;(have hR:k+1<=(kids f).len+1-(kids q).len:=by omega);have aJM:1<=aH.nm q:=aH.rB q q0;have aqf:aH.nm f'*(2*aH.nm q)<2^(64*K):=by
      refine aR ?_ hN;have h5:aH.nm f'<=(2*aH.nm q)^k*aH.nm f:=hI.o.nm;have h6:(2*aH.nm q)^(k+1)<=(2*aH.nm q)^((kids f).len+1-(kids q).len):=fP (by omega) hR;refine aG (bG _ h5) (aG (ig ?_) (bG _ h6));rw [kY];ac_rfl
     have nf1:aH.nm f'<2^(64*K):=aR (jR _ (by omega)) aqf;have nlq:aH.nm (kids q).lc<=aH.nm q:=gD q _;have nlf:aH.nm (mkK (Poly.mono m (kids f').lc))<=aH.nm f':=by
      rw [yX,uE];exact aG (Poly.yY m _) (gD f' _)
     have nfq:aH.nm f'*aH.nm q<2^(64*K):=aR (bn _ (by omega)) aqf;have nC:aH.nm (f'*mkK (Poly.C (kids q).lc))<2^(64*K):=aR (aG (aH.mh _ _) (bn _ (aG (ig (Xb (kids q).lc)) nlq))) nfq;have nT:aH.nm (mkK (Poly.mono m (kids f').lc)*q)<2^(64*K):=aR (aG (aH.mh _ _) (bG _ nlf)) nfq;have axU:(kids q).lc≠0:=Poly.ve Sx;have dE0:Hid (∀j,(D (j+1)+k*E (j+1))+E (j+1)<1000000000000):=fun j=>by
      have h5:=HDE.o (j+1);have h6:(k+1)*E (j+1)<=((kids f).len+2)*E (j+1):=bG _ (by omega);rw [bO,bN] at h6;omega
     have df':Poly.mo (Poly.bg ((kids f').len-1) (fun j=>D (j+1)+k*E (j+1))) (kids f'):=⟨(Poly.ay _).mono (by show _<=(kids f').len-1+1;omega),hI.o.dg.2⟩;have dq':Poly.mo (Poly.bg ((kids q).len-1) (fun j=>E (j+1))) (kids q):=⟨(Poly.ay _).mono (by show _<=(kids q).len-1+1;omega),Ddq.o.2⟩;have dm:Poly.mo (Poly.bg m (fun j=>D (j+1)+k*E (j+1))) (Poly.mono m (kids f').lc):=⟨fun i hi=>by rw [Poly.dZ,aY (by have:Poly.bg m (fun j=>D (j+1)+k*E (j+1)) 0=m:=rfl;omega)],fun i=>by
      rw [Poly.dZ];split
      . exact hI.o.dg.2 _
      . exact aH.en _⟩
     have ZQ:=(hV'.o.aC Yw.o).here;have t_P:=YI.o.here;have t_Q:=(HQ.o.aC (pW.o.tm Yw.o)).here.mono (T:=fun b=>((S b∧b<w.heap.size)∨w.heap.size+1+1+1<=b)∧b<wy.heap.size) fun b hb=>⟨.inl hb.1,hb.2⟩;have CL3:Hid (∀(T:Nat->Prop) (V:World),Below wy.heap.size wy V->aO T (n+1) V (.agg #[.bool false,.slice none 0 0,.slice Bq (kids q).len cq]) q->aB 84 #[.agg #[.bool false,.slice none 0 0,.slice Bq (kids q).len cq]] V (bW T V n (kids q).lc)):=fun T V _ h=>Vl T n V _ q h Sx;have CC3:Hid (∀(T:Nat->Prop) (V:World),Below wy.heap.size wy V->aO T (n+1) V (.agg #[.bool false,.slice none 0 0,.slice Bp (kids f').len cp]) f'->∀v,aO T n V v (kids q).lc->aB 55 #[.agg #[.bool false,.slice none 0 0,.slice Bp (kids f').len cp],.int .i64 ((n:Int)+1),v] V (bW T V (n+1) (f'*mkK (Poly.C (kids q).lc)))):=fun T V _ h v hv=>
      Vj n K (by omega) (Bh K hK (n+1) (by omega)) T V _ v f' (kids q).lc _ (fun j=>E (j+1)) h hv axU df' (Ddq.o.2 _) (by show (kids f').len-1<_;omega) (fun j=>dE0.o j) nf1 (aR nlq nq) (aR (bn _ nlq) nfq)
     have CT3:Hid (∀(T:Nat->Prop) (V:World),Below wy.heap.size wy V->aO T (n+1) V (.agg #[.bool false,.slice none 0 0,.slice (some ⟨gg,0,none⟩) (m+1) cap]) (mkK (Poly.mono m (kids f').lc))->aO T (n+1) V (.agg #[.bool false,.slice none 0 0,.slice Bq (kids q).len cq]) q->aB 86 #[.agg #[.bool false,.slice none 0 0,.slice (some ⟨gg,0,none⟩) (m+1) cap],.int .i64 ((n:Int)+1),.agg #[.bool false,.slice none 0 0,.slice Bq (kids q).len cq]] V (bW T V (n+1) ((mkK (Poly.mono m (kids f').lc))*q))):=fun T V _ h1 h2=>
      Bh K hK (n+1) (by omega) T V _ _ (mkK (Poly.mono m (kids f').lc)) q _ _ h1 h2 dm dq' (fun j=>by
       cases j with
       | zero=>show m+((kids q).len-1)<_;omega
       | succ j=>exact dE0.o j) (aR nlf nf1) nq (aR (bG _ nlf) nfq)
     have CE3:Hid (∀(T:Nat->Prop) (V:World),Below wy.heap.size wy V->∀u,aO T (n+1) V u (f'*mkK (Poly.C (kids q).lc))->∀v,aO T (n+1) V v ((mkK (Poly.mono m (kids f').lc))*q)->aB 85 #[u,.int .i64 ((n:Int)+1),v] V (bW T V (n+1) (f'*mkK (Poly.C (kids q).lc)-(mkK (Poly.mono m (kids f').lc))*q))):=fun T V _ u hu v hv=>
      PX K hK (n+1) (by omega) T V u v _ _ hu hv nC nT (oT (n+1) _ _ (aH.jh _ _ f' (mkK (Poly.C (kids q).lc)) df' (acv (Ddq.o.2 _))) (fun j=>by
       cases j with
       | zero=>show (kids f').len-1+0<_;omega
       | succ j=>exact dE0.o j)) (oT (n+1) _ _ (aH.jh _ _ (mkK (Poly.mono m (kids f').lc)) q dm dq') (fun j=>by
       cases j with
       | zero=>show m+((kids q).len-1)<_;omega
       | succ j=>exact dE0.o j))
     have Fin:Hid (∀(wE:World) (BE:Option Addr) (mE dE:Nat),Below wy.heap.size wy wE->aO (fun b=>(S b∧b<w.heap.size)∨w.heap.size+1+1+1<=b) (n+1) wE (bE false none 0 0 BE mE dE) (f'*mkK (Poly.C (kids q).lc)-mkK (Poly.mono m (kids f').lc)*q)->
      Hid (Poly.RI (kids f) (kids q) D E (k+1) (kids (mkK (Poly.J4 (kids q) (kids f')))))∧(kids (mkK (Poly.J4 (kids q) (kids f')))).len<gk-1∧Hid (aO (fun b=>(S b∧b<w.heap.size)∨w.heap.size+1+1+1<=b) (n+1) (((wE.setCell ⟨w.heap.size,0,none⟩ (.bool false)).setCell ⟨w.heap.size,1,none⟩ (.slice none 0 0)).setCell ⟨w.heap.size,2,none⟩ (.slice BE mE dE)) (.agg #[.bool false,.slice none 0 0,.slice BE (kids (mkK (Poly.J4 (kids q) (kids f')))).len dE]) (mkK (Poly.J4 (kids q) (kids f'))))∧Hid (aX (((wE.setCell ⟨w.heap.size,0,none⟩ (.bool false)).setCell ⟨w.heap.size,1,none⟩ (.slice none 0 0)).setCell ⟨w.heap.size,2,none⟩ (.slice BE mE dE)) w.heap.size (.bool false) (.slice none 0 0) (.slice BE (kids (mkK (Poly.J4 (kids q) (kids f')))).len dE))∧Hid (Only (fun b=>b=w.heap.size∨wt.heap.size<=b) wt (((wE.setCell ⟨w.heap.size,0,none⟩ (.bool false)).setCell ⟨w.heap.size,1,none⟩ (.slice none 0 0)).setCell ⟨w.heap.size,2,none⟩ (.slice BE mE dE)))):=fun wE BE mE dE hyE hE=>by
      have e9:(f'*mkK (Poly.C (kids q).lc)-mkK (Poly.mono m (kids f').lc)*q:Pn (n+1))=mkK (Poly.J4 (kids q) (kids f')):=by
       rw [<- hm];rfl
      rw [e9] at hE;obtain ⟨_,_,_,_,hmE⟩:=hE.Vu;have hl9:=Poly.bV (Poly.MW (q:=kids q) (p:=kids f') (by intro e;exact q0 e) hlt);have hq9:kids q≠0:=fun e=>q0 e;refine ⟨hI.o.next hq9 Ddq.o hlt,?_,?_,?_,?_⟩
      . show (Poly.J4 (kids q) (kids f')).len<gk-1
        omega
      . rw [<- hmE]
        exact hE.only (aZ wE w.heap.size _ _ _) (fun b hb e=>by rcases hb with hb | hb<;>omega) fun b hb=>hb
      . rw [<- hmE]
        exact (HT3.o.aC hyE).set _ _ _
      . exact ((j7.o.trans ((Only.bZ Yw.o).mono fun b hb=> .inr (by omega))).trans ((Only.bZ hyE).mono fun b hb=> .inr (by omega))).trans ((aZ wE w.heap.size _ _ _).mono fun b hb=> .inl hb)
     clear eF CL a0 a1 a2 b0 b1 b2 hV hT7;have eF:Hid (∀V,Below wy.heap.size wy V->(fun V=>V.cell? ⟨w.heap.size,0,none⟩=some (.bool false)∧V.cell? ⟨w.heap.size,1,none⟩=some (.slice none 0 0)∧V.cell? ⟨w.heap.size,2,none⟩=some (.slice Bp (kids f').len cp)∧V.cell? ⟨w.heap.size+1,0,none⟩=some (.bool false)∧V.cell? ⟨w.heap.size+1,1,none⟩=some (.slice none 0 0)∧V.cell? ⟨w.heap.size+1,2,none⟩=some (.slice Bq (kids q).len cq)∧V.cell? ⟨g7,0,none⟩=some (.bool false)∧V.cell? ⟨g7,1,none⟩=some (.slice none 0 0)∧V.cell? ⟨g7,2,none⟩=some (.slice (some ⟨gg,0,none⟩) (m+1) cap)) V):=fun V hV=>⟨(HT3.o.aC hV).cell0,(HT3.o.aC hV).cell1,(HT3.o.aC hV).aN,(P13.o.aC hV).cell0,(P13.o.aC hV).cell1,(P13.o.aC hV).aN,(HT7.o.aC hV).cell0,(HT7.o.aC hV).cell1,(HT7.o.aC hV).aN⟩;(go_wp2_with fail);refine fh (S:=fun V=>V.cell? ⟨w.heap.size,0,none⟩=some (.bool false)∧V.cell? ⟨w.heap.size,1,none⟩=some (.slice none 0 0)∧V.cell? ⟨w.heap.size,2,none⟩=some (.slice Bp (kids f').len cp)∧V.cell? ⟨w.heap.size+1,0,none⟩=some (.bool false)∧V.cell? ⟨w.heap.size+1,1,none⟩=some (.slice none 0 0)∧V.cell? ⟨w.heap.size+1,2,none⟩=some (.slice Bq (kids q).len cq)∧V.cell? ⟨g7,0,none⟩=some (.bool false)∧V.cell? ⟨g7,1,none⟩=some (.slice none 0 0)∧V.cell? ⟨g7,2,none⟩=some (.slice (some ⟨gg,0,none⟩) (m+1) cap)) (z:=11) (by kernel_rfl) ?_;have hHeld:=eF.o _ (Below.refl wy.heap.size wy).drew;(try dsimp only at hHeld);refine tk 11 0 (.agg #[.bool false,.slice none 0 0,.slice Bp (kids f').len cp]) rfl hHeld ?_;(try simp only [fx,Act.put]);refine tk 11 1 (.int .i64 ((n:Int)+1)) rfl hHeld ?_;(try simp only [fx,Act.put]);refine tk 11 2 (.agg #[.bool false,.slice none 0 0,.slice Bq (kids q).len cq]) rfl hHeld ?_;(try simp only [fx,Act.put]);refine tk 11 5 (.int .i64 ((n:Int)+1)) rfl hHeld ?_;(try simp only [fx,Act.put]);refine tk 11 6 (.agg #[.bool false,.slice none 0 0,.slice (some ⟨gg,0,none⟩) (m+1) cap]) rfl hHeld ?_;(try simp only [fx,Act.put]);refine tk 11 7 (.int .i64 ((n:Int)+1)) rfl hHeld ?_;(try simp only [fx,Act.put]);refine tk 11 8 (.agg #[.bool false,.slice none 0 0,.slice Bq (kids q).len cq]) rfl hHeld ?_;(try simp only [fx,Act.put]);have iq:Hid (∀b,wy.heap.size<=b->(fun b=>(S b∧b<w.heap.size)∨w.heap.size+1+1+1<=b) b):=fun b hb=> .inr (by omega);refine o7 (w0:=wy) [⟨3,31,3,KT (fun b=>(S b∧b<w.heap.size)∨w.heap.size+1+1+1<=b) n (fun x=>(kids q).lc=x)⟩,⟨4,32,4,KT (fun b=>(S b∧b<w.heap.size)∨w.heap.size+1+1+1<=b) (n+1) (fun x=>(f'*mkK (Poly.C (kids q).lc))=x)⟩,⟨9,37,9,KT (fun b=>(S b∧b<w.heap.size)∨w.heap.size+1+1+1<=b) (n+1) (fun x=>(mkK (Poly.mono m (kids f').lc)*q)=x)⟩,⟨10,38,10,KT (fun b=>(S b∧b<w.heap.size)∨w.heap.size+1+1+1<=b) (n+1) (fun x=>((f'*mkK (Poly.C (kids q).lc))-(mkK (Poly.mono m (kids f').lc)*q))=x)⟩] [3,4,9,10] [31,32,37,38] [11] #[true,true,true,true,true,true,true,true,true,true,true,false] 1 rfl rfl (by kernel_rfl) rfl rfl (Below.refl wy.heap.size wy).drew (fc KT.keeps (fc KT.keeps (fc KT.keeps (fc KT.keeps (fn))))) (fc ?_ (fc ?_ (fc ?_ (fc ?_ (fn))))) ?_
     . intro L a V B hr hd h
       have r30:=h.old 30 rfl rfl;refine eP rfl fun KK bu=> ?_;go_simp;refine (CL3.o _ V h.aC (h.tree t_Q)).mono ?_;rintro e w' ⟨s0,A0,k0,c0,B0,m0,d0,rfl,hv,hb⟩;unfold bE;(go_wp2_with fail);exact bu.o _ _ (eF.o _ (h.aC.tm hb)) (h.put 0 rfl hr hb ⟨_,s0,A0,k0,c0,B0,m0,d0,rfl,rfl,h.res iq.o hv⟩)
     . intro L a V B hr hd h
       obtain ⟨_,qL,_,sL,AL,kL,cL,BL,mL,dL,rfl,rfl,tL⟩:=h.get 0 rfl (hd 3 (by kernel_rfl)) (.inl rfl);have r28:=h.old 28 rfl rfl;have r29:=h.old 29 rfl rfl;refine eP rfl fun KK bu=> ?_;go_simp;refine (CC3.o _ V h.aC (h.tree ZQ) _ tL.o.here).mono ?_;rintro e w' ⟨s0,A0,k0,c0,B0,m0,d0,rfl,hv,hb⟩;unfold bE;(go_wp2_with fail);exact bu.o _ _ (eF.o _ (h.aC.tm hb)) (h.put 1 rfl hr hb ⟨_,s0,A0,k0,c0,B0,m0,d0,rfl,rfl,h.res iq.o hv⟩)
     . intro L a V B hr hd h
       have r34:=h.old 34 rfl rfl;have r35:=h.old 35 rfl rfl;have r36:=h.old 36 rfl rfl;refine eP rfl fun KK bu=> ?_;go_simp;refine (CT3.o _ V h.aC (h.tree t_P) (h.tree t_Q)).mono ?_;rintro e w' ⟨s0,A0,k0,c0,B0,m0,d0,rfl,hv,hb⟩;unfold bE;(go_wp2_with fail);exact bu.o _ _ (eF.o _ (h.aC.tm hb)) (h.put 2 rfl hr hb ⟨_,s0,A0,k0,c0,B0,m0,d0,rfl,rfl,h.res iq.o hv⟩)
     . intro L a V B hr hd h
       obtain ⟨_,qC,_,sC,AC,kC,cC,BC,mC,dC,rfl,rfl,tC⟩:=h.get 1 rfl (hd 4 (by kernel_rfl)) (.inl rfl);obtain ⟨_,qT,_,sT,AT,kT,cT,BT,mT,dT,rfl,rfl,tT⟩:=h.get 2 rfl (hd 9 (by kernel_rfl)) (.inl rfl);have r33:=h.old 33 rfl rfl;refine eP rfl fun KK bu=> ?_;go_simp;refine (CE3.o _ V h.aC _ tC.o.here _ tT.o.here).mono ?_;rintro e w' ⟨s0,A0,k0,c0,B0,m0,d0,rfl,hv,hb⟩;unfold bE;(go_wp2_with fail);exact bu.o _ _ (eF.o _ (h.aC.tm hb)) (h.put 3 rfl hr hb ⟨_,s0,A0,k0,c0,B0,m0,d0,rfl,rfl,h.res iq.o hv⟩)
     intro a9 wv B h;obtain ⟨_,qL,_,sL,AL,kL,cL,BL,mL,dL,rfl,rfl,tL⟩:=h.get 0 rfl rfl (.inl rfl);obtain ⟨_,qC,_,sC,AC,kC,cC,BC,mC,dC,rfl,rfl,tC⟩:=h.get 1 rfl rfl (.inl rfl);obtain ⟨_,qT,_,sT,AT,kT,cT,BT,mT,dT,rfl,rfl,tT⟩:=h.get 2 rfl rfl (.inl rfl);obtain ⟨_,qE,_,sE,AE,kE,cE,BE,mE,dE,rfl,rfl,tE⟩:=h.get 3 rfl rfl (.inl rfl);have hV:=aA h.aC;have hz9:=h.aC.size;obtain ⟨rfl,rfl,rfl,rfl,hmE⟩:=tE.o.Vu;clear hmE;obtain ⟨hI2,OD,hV2,hT2,GI⟩:=Fin.o wv BE mE dE hV.o (tE.o.mono fun b hb=>hb.1);have tz:=HT3.o.aC hV.o;have v0:=tz.cell0;have f0:=tz.frozen 0;have v1:=tz.cell1;have f1:=tz.frozen 1;have v2:=tz.aN;have f2:=tz.frozen 2;obtain rfl:=h.act [(31,_),(32,_),(37,_),(38,_)] rfl (fc qL (fc qC (fc qT (fc qE (fn)))));simp only [List.foldr];(try simp only [fx,Act.put]);refine aT (rs:=[11]) (by kernel_rfl) (by simp) ?_;refine aK.last rfl (fun KK bu=> ?_);go_simp;refine bu.o _ _ ?_;clear bu KK;refine fE (by kernel_rfl) ?_ _;(go_wp2_with fail);go_roundg (gk-1)
     case measure=>omega
     case rel=>exact ⟨mkK (Poly.J4 (kids q) (kids f')),k+1,BE,dE,OD,hI2,hT2,hV2,GI⟩
  . have dH:¬((kids q).len:Int)<=((kids f').len:Int):=by omega
    have r0:=P2.o.cell0;have r1:=P2.o.cell1;have r2:=P2.o.aN;have r3:=P2.o.frozen 0;have r4:=P2.o.frozen 1;have r5:=P2.o.frozen 2;have F:Hid (aO (fun b=>S b∨w.heap.size<=b) (n+1) (((wp.setCell ⟨w.heap.size+1+1,0,none⟩ (.bool false)).setCell ⟨w.heap.size+1+1,1,none⟩ (.slice none 0 0)).setCell ⟨w.heap.size+1+1,2,none⟩ (.slice Bp (kids f').len cp)) (.agg #[.bool false,.slice none 0 0,.slice Bp (kids f').len cp]) f'):=
     aO.only (aZ wp (w.heap.size+1+1) _ _ _) (fun b hb e=>by rcases hb with hb | hb<;>omega) (fun b hb=>hb.imp (fun h=>h.1) fun h=>by omega) hV.o
    have nI:Hid (Below w.heap.size w (((wp.setCell ⟨w.heap.size+1+1,0,none⟩ (.bool false)).setCell ⟨w.heap.size+1+1,1,none⟩ (.slice none 0 0)).setCell ⟨w.heap.size+1+1,2,none⟩ (.slice Bp (kids f').len cp))):=gP pW.o (by omega) _ _ _;(have CK:(kids f').len<(kids q).len:=by omega);clear hV j7;(go_wp2_with fail);exact bK (v:=.agg #[.bool false,.slice none 0 0,.slice Bp (kids f').len cp]) (dO (fn:=f54) rfl _ _ _ _ _ _ _ rfl (P2.o.set (.bool false) (.slice none 0 0) (.slice Bp (kids f').len cp)) underlying51 rfl cW) rfl
     ⟨f',⟨k,hI.o⟩,CK,false,none,0,0,Bp,(kids f').len,cp,rfl,F.o,nI.o⟩
namespace Poly
section
variable {R : Type} [Dom R] {f q : Poly R} {m : Nat}
def agU (m:Nat) (f:Poly R):cut (cut m f).len f=cut m f:=ext fun i=>by
 rw [uQ];split
 . rename_i h
   have h1:=bV (Ef m f);rw [uQ,aM (by omega)]
 . rename_i h
   rw [ay (cut m f) i (by omega)]
def amH (h:cut m f≠0):(cut m f).lc=f.co ((cut m f).len-1):=by
 have h1:=cI h;have h2:=bV (Ef m f);show (cut m f).co _=_;rw [uQ,aM (by omega)]
def acC (h:cut m f≠0):cut m f=cut ((cut m f).len-1) f+mono ((cut m f).len-1) (f.co ((cut m f).len-1)):=by
 have h1:=cI h;have h2:=JD ((cut m f).len-1) f;rw [show (cut m f).len-1+1=(cut m f).len by omega,agU] at h2;exact h2
def acB (h:cut m f≠0) (q:Poly R):cut m f*q-mono ((cut m f).len-1) (f.co ((cut m f).len-1))*q=cut ((cut m f).len-1) f*q:=by
 have h1:=dh (fun x=>x*q) (acC h);simp only [aF.add_mul] at h1;rw [h1,add_sub_cancel]
def acD {i:Nat}(h1:(cut m f).len<=i) (h2:i<m):f.co i=0:=by
 have h:=ay (cut m f) i h1;rwa [uQ,aM h2] at h
end
section
variable {R : Type} [aH R] {f : Poly R}
def agQ {D:Nat->Nat}(h:mo D f) (m:Nat):mo D (cut m f):=⟨fun i hi=>by
 rw [uQ,h.1 i hi];split<;>rfl,fun i=>Te h.2 m i⟩
end
end Poly
def ByN (n K:Nat):Prop:=∀(S:Nat->Prop) (w:World) (u v:Value) (z q:Pn n) (D E:Nat->Nat),aO S n w u (z*q)->aO S n w v q->q≠0->aH.dg D z->aH.dg E q->(∀j,D j+E j<1000000000000)->aH.nm z<2^(64*K)->aH.nm q<2^(64*K)->aH.nm z*aH.nm q<2^(64*K)->aB 53 #[u,.int .i64 (n:Int),v] w (bW S w n z)
def awz (K:Nat) (hK:K<=3900000000000):ByN 0 K:=by
 intro S w u v z q _ _ hf hg q0 _ _ _ nz nq nzq;obtain ⟨s,A,k,c,xs,rfl,h1,h2,h3,h4,_⟩:=hf;obtain ⟨t,B,m,d,ys,rfl,i1,i2,i3,i4,_⟩:=hg;have hk:k<=K:=by have h5:=h4.cap (K:=K) (aR (aH.mh (R:=Pn 0) z q) nzq);have h6:=h3.len;omega
 have hm:m<=K:=by have h5:=i4.cap (K:=K) nq;have h6:=i3.len;omega
 have Aj:vM q≠0:=fun e=>q0 e;have rz:0<limbs ys:=by
  rcases jM (limbs ys) with h | h
  . exfalso
    apply Aj;rw [<- i4.eq];unfold aI;rw [h];cases t<;>rfl
  . exact h
 have aqk:aI s xs % aI t ys=0:=by rw [h4.eq,i4.eq,VF];exact Int.mul_emod_left _ _
 have QI:aI s xs / aI t ys=vM z:=by rw [h4.eq,i4.eq,VF];exact Uh _ Aj
 have Cs:=aA (fun W (hW:Below w.heap.size w W)=>MB s t A B k m c d xs ys W (h3.aC hW) (i3.aC hW) h1 h2 i1 i2 (by omega) (by omega) rz);unfold AZ at Cs;rw [aqk,QI] at Cs;have hb:Below w.heap.size w (((w.alloc (.cells #[.bool s,.slice A k c,.slice none 0 0] 51)).alloc (.cells #[.bool t,.slice B m d,.slice none 0 0] 51)).alloc (.cells #[.bool false,.slice none 0 0,.slice none 0 0] 51)):=((aU.alloc aL _).alloc (by simp) _).alloc (by simp;omega) _;have t2:=aX.new ((w.alloc (.cells #[.bool s,.slice A k c,.slice none 0 0] 51)).alloc (.cells #[.bool t,.slice B m d,.slice none 0 0] 51)) (.bool false) (.slice none 0 0) (.slice none 0 0);rw [aJ,aJ] at t2;have T2:=aA t2;have HB:=aA hb;clear h3 h4 i3 i4 nz nq nzq hb t2 aqk QI;unfold bE;show Calls _ _ #[_,.int .i64 0,_] _ _;go_enter func53,ntmps53
 go_wp2_with fail
 refine (Cs.o _ (by exact HB.o)).mono ?_;rintro e w1 ⟨s1,A1,k1,c1,ls,rfl,_,q1,q2,q4,q5,q6,cZ⟩;have T3:=aA (T2.o.aC cZ);have hs3:(((w.alloc (.cells #[.bool s,.slice A k c,.slice none 0 0] 51)).alloc (.cells #[.bool t,.slice B m d,.slice none 0 0] 51)).alloc (.cells #[.bool false,.slice none 0 0,.slice none 0 0] 51)).heap.size=w.heap.size+1+1+1:=by simp
 have r0:=T3.o.cell0;have r1:=T3.o.cell1;have r2:=T3.o.aN;have r3:=T3.o.frozen 0;have r4:=T3.o.frozen 1;have r5:=T3.o.frozen 2;have cN:Below w.heap.size w w1:=HB.o.tm cZ;have aKe:=(T2.o.aC cZ).lt;go_wp2_with fail
 have F:Hid (aO (fun b=>S b∨w.heap.size<=b) 0 (((w1.setCell ⟨w.heap.size+1+1,0,none⟩ (.bool s1)).setCell ⟨w.heap.size+1+1,1,none⟩ (.slice A1 k1 c1)).setCell ⟨w.heap.size+1+1,2,none⟩ (.slice none 0 0)) (bE s1 A1 k1 c1 none 0 0) z):=
  aO.num q1 q2 (lZ q4 (aZ _ (w.heap.size+1+1) _ _ _) fun h0 y hy e=>by have:=q6 h0 y hy;omega) (q5 trivial) fun h0 y hy=> .inr (by have:=q6 h0 y hy;omega)
 have nI:=gP cN (show w.heap.size<=w.heap.size+1+1 by omega) (.bool s1) (.slice A1 k1 c1) (.slice none 0 0);exact bK (v:=.agg #[.bool s1,.slice A1 k1 c1,.slice none 0 0]) (dO (fn:=f53) rfl _ _ _ _ _ _ _ rfl ((T3.o.set (.bool s1) (.slice A1 k1 c1) (.slice none 0 0)).aC (aU.alloc aL _)) underlying51 rfl cW) rfl
  ⟨s1,A1,k1,c1,none,0,0,rfl,F.o.aC (aU.alloc aL _),nI.alloc nI.size _⟩
def awy (n K:Nat) (hK:K<=3900000000000) (hn:n<=98) (ih:ByN n K) (S:Nat->Prop) (w:World) (u v:Value) (z q:Pn (n+1)) (D Eq:Nat->Nat) (hf:aO S (n+1) w u (z*q)) (hq:aO S (n+1) w v q) (q0:q≠0) (dz:aH.dg D z) (dq:aH.dg Eq q) (WG:∀j,D j+Eq j<1000000000000) (nz:aH.nm z<2^(64*K)) (nq:aH.nm q<2^(64*K)) (nzq:aH.nm z*aH.nm q<2^(64*K)):
 aB 53 #[u,.int .i64 ((n:Int)+1),v] w (bW S w (n+1) z):=by
 have dz':Poly.mo D (kids z):=dz;have dq':Poly.mo Eq (kids q):=dq;have akW:kids q≠0:=fun e=>q0 e;have Sx:0<(kids q).len:=uS fun e=>q0 (jC.1 e);have aMk:=WG 0;have hlz:(kids z).len<=1000000000000:=by have:=Poly.bV dz'.1;omega
 have axT:(kids q).len<=1000000000000:=by have:=Poly.bV dq'.1;omega
 have aKc:(kids z).len+(kids q).len<=1000000000001:=by have:=Poly.bV dz'.1;have:=Poly.bV dq'.1;omega
 obtain ⟨N,hN⟩:∃N:Nat,(kids z).len=N:=⟨_,rfl⟩;obtain ⟨lf,hlf⟩:∃lf:Nat,(kids (z*q)).len=lf:=⟨_,rfl⟩;have aKu:(N=0∧lf=0)∨(0<N∧lf+1=N+(kids q).len):=by
  by_cases e:kids z=0
  . left
    (have e2:kids (z*q)=0:=by rw [Pr,e,aF.zero_mul]);rw [<- hN,<- hlf,e2,e];exact ⟨Poly.gI,Poly.gI⟩
  . right
    have e2:=(Poly.lu e akW).1;have e3:=Poly.cI e;rw [<- Pr,hlf,hN] at e2;rw [hN] at e3;exact ⟨e3,by omega⟩
 obtain ⟨Bf,cf,rfl,h1,h2,h3⟩:=id hf;obtain ⟨Bq,cq,rfl,i1,i2,i3⟩:=id hq;clear h3 i3;have EY:=hf.here;have hq':=hq.here;rw [hlf] at EY h1;have jE:(((n:Int)+1)==0)=false:=mD.2 (by omega);have ew:IntKind.i64.wrap ((n:Int)+1-1)=(n:Int):=by rw [bP _ (by omega)];omega
 have ew2:IntKind.i64.wrap (n:Int)=(n:Int):=bP _ (by omega);have ew3:IntKind.i64.wrap ((lf:Int)-((kids q).len:Int))=(lf:Int)-((kids q).len:Int):=bP _ (by omega);have ew4:IntKind.i64.wrap ((lf:Int)-((kids q).len:Int)+1)=(lf:Int)-((kids q).len:Int)+1:=bP _ (by omega);have aJV:max ((lf:Int)-((kids q).len:Int)+1) 0=(N:Int):=by omega
 have KI:=vY N (by omega);have t0:=((((aX.new w (.bool false) (.slice none 0 0) (.slice Bf lf cf)).aC (aU.alloc aL (.cells #[.bool false,.slice none 0 0,.slice Bq (kids q).len cq] 51))).aC (aU.alloc aL (.cells #[.bool false,.slice none 0 0,.slice none 0 0] 51))).aC (aU.alloc aL (.cells #[.bool false,.slice none 0 0,.slice (some ⟨w.heap.size+1+1+1+1,0,none⟩) N N] 51))).aC (aU.alloc aL (.cells (madeCells #[Value.bool false,.slice none 0 0,.slice none 0 0] (N*3)) 51));have t1:=(((aX.new (w.alloc (.cells #[.bool false,.slice none 0 0,.slice Bf lf cf] 51)) (.bool false) (.slice none 0 0) (.slice Bq (kids q).len cq)).aC (aU.alloc aL (.cells #[.bool false,.slice none 0 0,.slice none 0 0] 51))).aC (aU.alloc aL (.cells #[.bool false,.slice none 0 0,.slice (some ⟨w.heap.size+1+1+1+1,0,none⟩) N N] 51))).aC (aU.alloc aL (.cells (madeCells #[Value.bool false,.slice none 0 0,.slice none 0 0] (N*3)) 51));rw [aJ] at t1;have t2:=((aX.new ((w.alloc (.cells #[.bool false,.slice none 0 0,.slice Bf lf cf] 51)).alloc (.cells #[.bool false,.slice none 0 0,.slice Bq (kids q).len cq] 51)) (.bool false) (.slice none 0 0) (.slice none 0 0)).aC (aU.alloc aL (.cells #[.bool false,.slice none 0 0,.slice (some ⟨w.heap.size+1+1+1+1,0,none⟩) N N] 51))).aC (aU.alloc aL (.cells (madeCells #[Value.bool false,.slice none 0 0,.slice none 0 0] (N*3)) 51));rw [aJ,aJ] at t2;have t3:=(aX.new (((w.alloc (.cells #[.bool false,.slice none 0 0,.slice Bf lf cf] 51)).alloc (.cells #[.bool false,.slice none 0 0,.slice Bq (kids q).len cq] 51)).alloc (.cells #[.bool false,.slice none 0 0,.slice none 0 0] 51)) (.bool false) (.slice none 0 0) (.slice (some ⟨w.heap.size+1+1+1+1,0,none⟩) N N)).aC (aU.alloc aL (.cells (madeCells #[Value.bool false,.slice none 0 0,.slice none 0 0] (N*3)) 51));rw [aJ,aJ,aJ] at t3;have hb:Below w.heap.size w (((((w.alloc (.cells #[.bool false,.slice none 0 0,.slice Bf lf cf] 51)).alloc (.cells #[.bool false,.slice none 0 0,.slice Bq (kids q).len cq] 51)).alloc (.cells #[.bool false,.slice none 0 0,.slice none 0 0] 51)).alloc (.cells #[.bool false,.slice none 0 0,.slice (some ⟨w.heap.size+1+1+1+1,0,none⟩) N N] 51)).alloc (.cells (madeCells #[Value.bool false,.slice none 0 0,.slice none 0 0] (N*3)) 51)):=((((aU.alloc aL _).alloc (by simp<;>omega) _).alloc (by simp<;>omega) _).alloc (by simp<;>omega) _).alloc (by simp<;>omega) _;have hsz:(((((w.alloc (.cells #[.bool false,.slice none 0 0,.slice Bf lf cf] 51)).alloc (.cells #[.bool false,.slice none 0 0,.slice Bq (kids q).len cq] 51)).alloc (.cells #[.bool false,.slice none 0 0,.slice none 0 0] 51)).alloc (.cells #[.bool false,.slice none 0 0,.slice (some ⟨w.heap.size+1+1+1+1,0,none⟩) N N] 51)).alloc (.cells (madeCells #[Value.bool false,.slice none 0 0,.slice none 0 0] (N*3)) 51)).heap.size=w.heap.size+1+1+1+1+1:=by simp
 have hO0:=j6.VZ 51 (fun b=>S b∧b<w.heap.size) (fun b=>b=w.heap.size∨b=w.heap.size+1+1) w ((((w.alloc (.cells #[.bool false,.slice none 0 0,.slice Bf lf cf] 51)).alloc (.cells #[.bool false,.slice none 0 0,.slice Bq (kids q).len cq] 51)).alloc (.cells #[.bool false,.slice none 0 0,.slice none 0 0] 51)).alloc (.cells #[.bool false,.slice none 0 0,.slice (some ⟨w.heap.size+1+1+1+1,0,none⟩) N N] 51)) (w.heap.size+1+1+1+1) n N (by omega) (by simp) ((((aU.alloc aL _).alloc (by simp<;>omega) _).alloc (by simp<;>omega) _).alloc (by simp<;>omega) _) (by unfold maxLen;omega);rw [aJ,aJ,aJ,aJ] at hO0;have HF:Hid (aO (fun b=>(S b∧b<w.heap.size)∨w.heap.size+1+1+1+1+1<=b) (n+1) (((((w.alloc (.cells #[.bool false,.slice none 0 0,.slice Bf lf cf] 51)).alloc (.cells #[.bool false,.slice none 0 0,.slice Bq (kids q).len cq] 51)).alloc (.cells #[.bool false,.slice none 0 0,.slice none 0 0] 51)).alloc (.cells #[.bool false,.slice none 0 0,.slice (some ⟨w.heap.size+1+1+1+1,0,none⟩) N N] 51)).alloc (.cells (madeCells #[Value.bool false,.slice none 0 0,.slice none 0 0] (N*3)) 51)) (.agg #[.bool false,.slice none 0 0,.slice Bf lf cf]) (z*q)):=(EY.aC hb).mono fun b hb=> .inl hb;have HQ:=aA hq';have Ddz:=aA dz';have Ddq:=aA dq';have HDE:=aA WG;have k0:=t0.aN;have k1:=t1.aN;clear hf hq EY hq' dz dq dz' dq' WG;unfold bE;rw [hlf];go_enter func53,ntmps53
 go_wp2_with fail
 generalize je:(((((w.alloc (.cells #[.bool false,.slice none 0 0,.slice Bf lf cf] 51)).alloc (.cells #[.bool false,.slice none 0 0,.slice Bq (kids q).len cq] 51)).alloc (.cells #[.bool false,.slice none 0 0,.slice none 0 0] 51)).alloc (.cells #[.bool false,.slice none 0 0,.slice (some ⟨w.heap.size+1+1+1+1,0,none⟩) N N] 51)).alloc (.cells (madeCells #[Value.bool false,.slice none 0 0,.slice none 0 0] (N*3)) 51))=wt at*
 clear je;have T0:=aA t0;have T1:=aA t1;have T2:=aA t2;have T3:=aA t3;have HB:=aA hb;have HO0:=aA hO0;clear t0 t1 t2 t3 hb hO0 k0 k1;go_loopg [] (N+1) (fun gk wr=>∃(m:Nat) (E:List KE) (Bp:Option Addr) (lp cp:Nat),m<gk∧m<=N∧Hid ((kids (mkK (Poly.cut m (kids z))*q)).len=lp)∧Hid (E.length=N)∧Hid (j6 51 (fun b=>S b∧b<w.heap.size) (fun b=>b=w.heap.size∨b=w.heap.size+1+1) w (w.heap.size+1+1+1+1) wr n (.slice (some ⟨w.heap.size+1+1+1+1,0,none⟩) N N) E (fun j=>if m<=j then (kids z).co j else 0))∧Hid (aX wr w.heap.size (.bool false) (.slice none 0 0) (.slice Bp lp cp))∧Hid (aO (fun b=>(S b∧b<w.heap.size)∨w.heap.size+1+1+1+1+1<=b) (n+1) wr (.agg #[.bool false,.slice none 0 0,.slice Bp lp cp]) (mkK (Poly.cut m (kids z))*q))∧Hid (Only (fun b=>b=w.heap.size∨b=w.heap.size+1+1+1+1∨wt.heap.size<=b) wt wr))
 case atStart=>
  have e0:mkK (Poly.cut N (kids z))*q=z*q:=by rw [<- hN,Poly.NV (Poly.ay (kids z)),afC]
  refine ⟨N,_,Bf,lf,cf,by omega,aL,?_,fQ,HO0.o.congr fun j hj=> ?_,T0,?_,Only.refl _ _⟩
  . show _=_
    rw [e0,hlf]
  . rw [fQ] at hj
    rw [aY (by omega)]
  . rw [e0]
    exact HF
 case round=>
  clear T0 HF HO0;obtain ⟨m,E,Bp,lp,cp,hg,hmN,hlp,hE,hO,hT,hV,j7⟩:=hrel;obtain ⟨wp,rfl⟩:∃wp:World,wp=wr:=⟨_,rfl⟩;have P1:Hid (aX wp (w.heap.size+1) (.bool false) (.slice none 0 0) (.slice Bq (kids q).len cq)):=T1.o.keep (j7.o.block _ T1.o.lt (by omega));have P2:Hid (aX wp (w.heap.size+1+1) (.bool false) (.slice none 0 0) (.slice none 0 0)):=T2.o.keep (j7.o.block _ T2.o.lt (by omega));have P3:Hid (aX wp (w.heap.size+1+1+1) (.bool false) (.slice none 0 0) (.slice (some ⟨w.heap.size+1+1+1+1,0,none⟩) N N)):=T3.o.keep (j7.o.block _ T3.o.lt (by omega));have pW:Hid (Below w.heap.size w wp):=hO.o.aC;have a0:=hT.o.cell0;have a1:=hT.o.cell1;have a2:=hT.o.aN;have b0:=P1.o.cell0;have b1:=P1.o.cell1;have b2:=P1.o.aN;have hwz:=j7.o.size;by_cases hc:Poly.cut m (kids z)=0
  . have aKk:lp=0:=by
     have h9:=hlp.o;rw [<- h9];have e9:kids (mkK (Poly.cut m (kids z))*q)=0:=by
      show Poly.cut m (kids z)*kids q=0;rw [hc,aF.zero_mul]
     rw [e9];exact Poly.gI
    (have KJ:¬((kids q).len:Int)<=(lp:Int):=by omega);obtain ⟨B9,d9,hov,q1,q2,q3⟩:=hO.o.row (fun b hb=>by omega);rw [hE.o] at hov q1 q3;injection hov with o1 _ o3
    subst o1;subst o3;(have GH:(kids z).Sh N:=by rw [<- hN];exact Poly.ay (kids z));have agN:(fun j=>if m<=j then (kids z).co j else 0)=(kids z).co:=funext fun j=>by
     split
     . rfl
     . rename_i h9
       exact (Poly.acD (m:=m) (by rw [hc,Poly.gI];omega) (by omega)).symm
    have q4:RowK (fun b=>((S b∧b<w.heap.size)∨w.heap.size<=b)∧¬(b=w.heap.size∨b=w.heap.size+1+1)) (fun i u=>aO (fun b=>((S b∧b<w.heap.size)∨w.heap.size<=b)∧¬(b=w.heap.size∨b=w.heap.size+1+1)) n wp u ((kids z).co i)) wp (some ⟨w.heap.size+1+1+1+1,0,none⟩) N:=
     q3.imp (fun _ h=>h) aL (fun _ _ _ _=>rfl) fun i u _ hu=>by
      have e9:(if m<=i then (kids z).co i else 0)=(kids z).co i:=congrFun agN i;rwa [e9] at hu
    have Q4:=aA q4;have Ct:=aA (fun W (hW:Below wp.heap.size wp W)=>Vi (fun b=>((S b∧b<w.heap.size)∨w.heap.size<=b)∧¬(b=w.heap.size∨b=w.heap.size+1+1)) n W _ N N (kids z) (Q4.o.aC hW) GH aL q2 (by omega) K (by omega) (fun i=>aR (Poly.rC _ i) nz));have c0:=P3.o.cell0;have c1:=P3.o.cell1;have c2:=P3.o.aN;clear q3 q4 agN GH hE hO j7;unfold bE at Ct;(go_wp2_with fail);refine (Ct.o _ aU).mono ?_;rintro e w1 ⟨s1,A1,k1,c1,B1,m1,d1,rfl,wN,cZ⟩;have AU:=aA (P2.o.aC cZ);have r0:=AU.o.cell0;have r1:=AU.o.cell1;have r2:=AU.o.aN;have r3:=AU.o.frozen 0;have r4:=AU.o.frozen 1;have r5:=AU.o.frozen 2;have F:Hid (aO (fun b=>S b∨w.heap.size<=b) (n+1) (((w1.setCell ⟨w.heap.size+1+1,0,none⟩ (.bool s1)).setCell ⟨w.heap.size+1+1,1,none⟩ (.slice A1 k1 c1)).setCell ⟨w.heap.size+1+1,2,none⟩ (.slice B1 m1 d1)) (bE s1 A1 k1 c1 B1 m1 d1) z):=
     aO.only (aZ w1 (w.heap.size+1+1) _ _ _) (fun b hb e=>by
      have h9:=P2.o.lt;rcases hb with hb | hb
      . exact hb.2 (.inr e)
      . omega) (fun b hb=>by
      have h9:=pW.o.size;rcases hb with hb | hb
      . rcases hb.1 with h | h
        . exact .inl h.1
        . exact .inr h
      . exact .inr (by omega)) wN
    have cN:Below w.heap.size w w1:=pW.o.tm cZ;have nI:Hid (Below w.heap.size w (((w1.setCell ⟨w.heap.size+1+1,0,none⟩ (.bool s1)).setCell ⟨w.heap.size+1+1,1,none⟩ (.slice A1 k1 c1)).setCell ⟨w.heap.size+1+1,2,none⟩ (.slice B1 m1 d1))):=gP cN (by omega) _ _ _;clear wN cZ cN Ct;unfold bE;(go_wp2_with fail);exact bK (v:=.agg #[.bool s1,.slice A1 k1 c1,.slice B1 m1 d1]) (dO (fn:=f53) rfl _ _ _ _ _ _ _ rfl (AU.o.set (.bool s1) (.slice A1 k1 c1) (.slice B1 m1 d1)) underlying51 rfl cW) rfl
     ⟨s1,A1,k1,c1,B1,m1,d1,rfl,F.o,nI.o⟩
  . obtain ⟨kk,Sy⟩:∃kk:Nat,(Poly.cut m (kids z)).len=kk+1:=⟨_,(adw (Poly.cI hc)).symm⟩
    (have hkm:kk+1<=m:=by have:=Poly.bV (Poly.Ef m (kids z));omega);have hkp:kids (mkK (Poly.cut m (kids z))*q)=Poly.cut m (kids z)*kids q:=rfl;obtain ⟨uG,ayc⟩:=Poly.lu hc akW;have aKj:lp<=kk+(kids q).len∧kk+(kids q).len<=lp:=by
     have:=hlp.o;rw [hkp,uG,Sy] at this;omega
    (have aqz:(Poly.cut m (kids z)).lc=(kids z).co kk:=by rw [Poly.amH hc,Sy];rfl);have hlc:(kids (mkK (Poly.cut m (kids z))*q)).co ((kids (mkK (Poly.cut m (kids z))*q)).len-1)=(kids z).co kk*(kids q).lc:=by
     rw [hkp];show (Poly.cut m (kids z)*kids q).lc=_;rw [ayc,aqz]
    (have ali:(kids z).co kk≠0:=by rw [<- aqz];exact Poly.Fc hc);(have KJ:((kids q).len:Int)<=(lp:Int):=by omega);(have CK:(0:Int)<(lp:Int):=by omega);(have ew5:IntKind.i64.wrap ((lp:Int)-((kids q).len:Int))=(kk:Int):=by rw [bP _ (by omega)];omega);have axS:(kids q).lc≠0:=Poly.Fc akW;have nzk:aH.nm ((kids z).co kk)<=aH.nm z:=gD z kk;have nql:aH.nm (kids q).lc<=aH.nm q:=gD q _;have CL8:Hid (∀(T:Nat->Prop) (V:World),Below wp.heap.size wp V->aO T (n+1) V (.agg #[.bool false,.slice none 0 0,.slice Bp lp cp]) (mkK (Poly.cut m (kids z))*q)->aB 84 #[.agg #[.bool false,.slice none 0 0,.slice Bp lp cp]] V (bW T V n ((kids z).co kk*(kids q).lc))):=fun T V _ hv=>by
     have h9:=Vl T n V _ _ hv (by rw [hlp.o];omega);rwa [hlc] at h9
    have CM8:Hid (∀(T:Nat->Prop) (V:World),Below wp.heap.size wp V->aO T (n+1) V (.agg #[.bool false,.slice none 0 0,.slice Bq (kids q).len cq]) q->aB 84 #[.agg #[.bool false,.slice none 0 0,.slice Bq (kids q).len cq]] V (bW T V n (kids q).lc)):=fun T V _ hv=>Vl T n V _ q hv Sx;have CC8:Hid (∀(T:Nat->Prop) (V:World),Below wp.heap.size wp V->∀u,aO T n V u ((kids z).co kk*(kids q).lc)->∀v,aO T n V v (kids q).lc->aB 53 #[u,.int .i64 (n:Int),v] V (bW T V n ((kids z).co kk))):=fun T V _ u hu v hv=>
     ih T V u v _ _ (fun j=>D (j+1)) (fun j=>Eq (j+1)) hu hv axS (Ddz.o.2 kk) (Ddq.o.2 _) (fun j=>HDE.o (j+1)) (aR nzk nz) (aR nql nq) (aR (ct nzk nql) nzq)
    have ZQ:=hV.o.here;have t_Q:=((HQ.o.aC pW.o).here).mono (T:=fun b=>((S b∧b<w.heap.size)∨w.heap.size+1+1+1+1+1<=b)∧b<wp.heap.size) fun b hb=>⟨.inl hb.1,hb.2⟩;have Fe:Hid (∀V,Below wp.heap.size wp V->(fun V=>V.cell? ⟨w.heap.size,0,none⟩=some (.bool false)∧V.cell? ⟨w.heap.size,1,none⟩=some (.slice none 0 0)∧V.cell? ⟨w.heap.size,2,none⟩=some (.slice Bp lp cp)∧V.cell? ⟨w.heap.size+1,0,none⟩=some (.bool false)∧V.cell? ⟨w.heap.size+1,1,none⟩=some (.slice none 0 0)∧V.cell? ⟨w.heap.size+1,2,none⟩=some (.slice Bq (kids q).len cq)) V):=fun V hV=>⟨(hT.o.aC hV).cell0,(hT.o.aC hV).cell1,(hT.o.aC hV).aN,(P1.o.aC hV).cell0,(P1.o.aC hV).cell1,(P1.o.aC hV).aN⟩;(go_wp2_with fail);go_cut [11] (fun s11 wx=>∃(iG:Nat) (sx:Bool) (Ax:Option Addr) (kx cx:Nat) (Bx:Option Addr) (mx dx:Nat),s11=.pointer (some ⟨iG,0,none⟩)∧wp.heap.size<=iG∧Hid (aX wx iG (.bool sx) (.slice Ax kx cx) (.slice Bx mx dx))∧Hid (aO (fun b=>(S b∧b<w.heap.size)∨w.heap.size+1+1+1+1+1<=b) n wx (.agg #[.bool sx,.slice Ax kx cx,.slice Bx mx dx]) ((kids z).co kk))∧Hid (Below wp.heap.size wp wx))
    case first=>
     refine fh (S:=fun V=>V.cell? ⟨w.heap.size,0,none⟩=some (.bool false)∧V.cell? ⟨w.heap.size,1,none⟩=some (.slice none 0 0)∧V.cell? ⟨w.heap.size,2,none⟩=some (.slice Bp lp cp)∧V.cell? ⟨w.heap.size+1,0,none⟩=some (.bool false)∧V.cell? ⟨w.heap.size+1,1,none⟩=some (.slice none 0 0)∧V.cell? ⟨w.heap.size+1,2,none⟩=some (.slice Bq (kids q).len cq)) (z:=8) (by kernel_rfl) ?_;have hHeld:=Fe.o _ (Below.refl wp.heap.size wp).drew;(try dsimp only at hHeld);refine tk 8 0 (.agg #[.bool false,.slice none 0 0,.slice Bp lp cp]) rfl hHeld ?_;(try simp only [fx,Act.put]);refine tk 8 2 (.int .i64 ((n:Int)+1)) rfl hHeld ?_;(try simp only [fx,Act.put]);refine tk 8 3 (.int .i64 (n:Int)) rfl hHeld ?_;(try simp only [fx,Act.put]);refine tk 8 4 (.agg #[.bool false,.slice none 0 0,.slice Bq (kids q).len cq]) rfl hHeld ?_;(try simp only [fx,Act.put]);have iq:Hid (∀b,wp.heap.size<=b->(fun b=>(S b∧b<w.heap.size)∨w.heap.size+1+1+1+1+1<=b) b):=fun b hb=> .inr (by omega);refine o7 (w0:=wp) [⟨1,57,1,KT (fun b=>(S b∧b<w.heap.size)∨w.heap.size+1+1+1+1+1<=b) n (fun x=>((kids z).co kk*(kids q).lc)=x)⟩,⟨5,61,5,KT (fun b=>(S b∧b<w.heap.size)∨w.heap.size+1+1+1+1+1<=b) n (fun x=>(kids q).lc=x)⟩,⟨6,62,6,KT (fun b=>(S b∧b<w.heap.size)∨w.heap.size+1+1+1+1+1<=b) n (fun x=>((kids z).co kk)=x)⟩,⟨7,11,7,KB wp 7 (.cells #[.bool false,.slice none 0 0,.slice none 0 0] 51) (fun g=> .pointer (some ⟨g,0,none⟩))⟩] [1,5,6,7] [57,61,62,11] [8] #[true,true,true,true,true,true,true,true,false] 1 rfl rfl (by kernel_rfl) rfl rfl (Below.refl wp.heap.size wp).drew (fc KT.keeps (fc KT.keeps (fc KT.keeps (fc KB.keeps (fn))))) (fc ?_ (fc ?_ (fc ?_ (fc ?_ (fn))))) ?_
     . intro L a V B hr hd h
       have r56:=h.old 56 rfl rfl;refine eP rfl fun KK bu=> ?_;go_simp;refine (CL8.o _ V h.aC (h.tree ZQ)).mono ?_;rintro e w' ⟨s0,A0,k0,c0,B0,m0,d0,rfl,hv,hb⟩;unfold bE;(go_wp2_with fail);exact bu.o _ _ (Fe.o _ (h.aC.tm hb)) (h.put 0 rfl hr hb ⟨_,s0,A0,k0,c0,B0,m0,d0,rfl,rfl,h.res iq.o hv⟩)
     . intro L a V B hr hd h
       have r60:=h.old 60 rfl rfl;refine eP rfl fun KK bu=> ?_;go_simp;refine (CM8.o _ V h.aC (h.tree t_Q)).mono ?_;rintro e w' ⟨s0,A0,k0,c0,B0,m0,d0,rfl,hv,hb⟩;unfold bE;(go_wp2_with fail);exact bu.o _ _ (Fe.o _ (h.aC.tm hb)) (h.put 1 rfl hr hb ⟨_,s0,A0,k0,c0,B0,m0,d0,rfl,rfl,h.res iq.o hv⟩)
     . intro L a V B hr hd h
       obtain ⟨_,qL,_,sL,AL,kL,cL,BL,mL,dL,rfl,rfl,tL⟩:=h.get 0 rfl (hd 1 (by kernel_rfl)) (.inl rfl);obtain ⟨_,qM,_,sM,AM,kM,cM,BM,mM,dM,rfl,rfl,tM⟩:=h.get 1 rfl (hd 5 (by kernel_rfl)) (.inl rfl);have r59:=h.old 59 rfl rfl;refine eP rfl fun KK bu=> ?_;go_simp;refine (CC8.o _ V h.aC _ tL.o.here _ tM.o.here).mono ?_;rintro e w' ⟨s0,A0,k0,c0,B0,m0,d0,rfl,hv,hb⟩;unfold bE;(go_wp2_with fail);exact bu.o _ _ (Fe.o _ (h.aC.tm hb)) (h.put 2 rfl hr hb ⟨_,s0,A0,k0,c0,B0,m0,d0,rfl,rfl,h.res iq.o hv⟩)
     . intro L a V B hr hd h
       refine eP rfl fun KK bu=> ?_;go_simp;exact bu.o _ _ (Fe.o _ (h.aC.alloc h.aC.size _)) (h.box 3 rfl hr)
     intro a9 wv B h;obtain ⟨_,qL,_,sL,AL,kL,cL,BL,mL,dL,rfl,rfl,tL⟩:=h.get 0 rfl rfl (.inl rfl);obtain ⟨_,qM,_,sM,AM,kM,cM,BM,mM,dM,rfl,rfl,tM⟩:=h.get 1 rfl rfl (.inl rfl);obtain ⟨_,qC,_,sC,AC,kC,cC,BC,mC,dC,rfl,rfl,tC⟩:=h.get 2 rfl rfl (.inl rfl);obtain ⟨_,qX,gX,rfl,hX,lX,BX⟩:=h.get 3 rfl rfl (.inl rfl);have hV:=aA h.aC;have hz9:=h.aC.size;have tX:Hid (aX wv gX (.bool false) (.slice none 0 0) (.slice none 0 0)):=lX.o;have v0:=tX.o.cell0;have f0:=tX.o.frozen 0;have v1:=tX.o.cell1;have f1:=tX.o.frozen 1;have v2:=tX.o.aN;have f2:=tX.o.frozen 2;obtain rfl:=h.act [(57,_),(61,_),(62,_),(11,_)] rfl (fc qL (fc qM (fc qC (fc qX (fn)))));simp only [List.foldr];(try simp only [fx,Act.put]);refine aT (rs:=[8]) (by kernel_rfl) (by simp) ?_;refine aK.last rfl (fun KK bu=> ?_);go_simp;refine bu.o _ _ ?_;clear bu KK;refine fE (by kernel_rfl) ?_ _;(go_wp2_with fail);go_meet
     exact ⟨gX,sC,AC,kC,cC,BC,mC,dC,rfl,hX,tX.o.set _ _ _,tC.o.only (aZ wv gX _ _ _) (fun b hb e=>hb.2 7 (e ▸ BX)) (fun b hb=>hb.1),gP hV.o hX _ _ _⟩
    case rest=>
     obtain ⟨iG,sx,Ax,kx,cx,Bx,mx,dx,rfl,ayS,hTx,hVx,YN⟩:=hcut;obtain ⟨wx,rfl⟩:∃V:World,V=wc:=⟨_,rfl⟩;have HOx:=aA (hO.o.jX YN.o);obtain ⟨x0,LM,CB,GG,_,hxf,kR⟩:=VE HOx.o hE.o kk (by omega);have p3:=(P3.o.aC YN.o).aN;have y0:=hTx.o.cell0;have y1:=hTx.o.cell1;have y2:=hTx.o.aN;(have hkN:(kk:Int)<(N:Int):=by omega);(have wT:(0:Int)<=(kk:Int):=by omega);have akK:=hxf (kk*3);have akJ:=hxf (kk*3+1);have akI:=hxf (kk*3+2);have hsx:=YN.o.size;have aKi:=P3.o.lt;have oR:Hid (Only (fun b=>b=w.heap.size+1+1+1+1) wx (((wx.setCell ⟨w.heap.size+1+1+1+1,kk*3,none⟩ (.bool sx)).setCell ⟨w.heap.size+1+1+1+1,kk*3+1,none⟩ (.slice Ax kx cx)).setCell ⟨w.heap.size+1+1+1+1,kk*3+2,none⟩ (.slice Bx mx dx))):=(((Only.refl (fun b=>b=w.heap.size+1+1+1+1) wx).setCell (p:=⟨w.heap.size+1+1+1+1,kk*3,none⟩) rfl _).setCell (p:=⟨w.heap.size+1+1+1+1,kk*3+1,none⟩) rfl _).setCell (p:=⟨w.heap.size+1+1+1+1,kk*3+2,none⟩) rfl _;have HO9:Hid (j6 51 (fun b=>S b∧b<w.heap.size) (fun b=>b=w.heap.size∨b=w.heap.size+1+1) w (w.heap.size+1+1+1+1) (((wx.setCell ⟨w.heap.size+1+1+1+1,kk*3,none⟩ (.bool sx)).setCell ⟨w.heap.size+1+1+1+1,kk*3+1,none⟩ (.slice Ax kx cx)).setCell ⟨w.heap.size+1+1+1+1,kk*3+2,none⟩ (.slice Bx mx dx)) n (.slice (some ⟨w.heap.size+1+1+1+1,0,none⟩) N N) (E.set kk ⟨sx,Ax,kx,cx,Bx,mx,dx⟩) (fun j=>if kk<=j then (kids z).co j else 0)):=
      OY HOx.o hE.o (by omega) kk (by omega) ⟨sx,Ax,kx,cx,Bx,mx,dx⟩ ((kids z).co kk) (hVx.o.mono fun b hb=>by
       rcases hb with hb | hb
       . exact ⟨.inl hb,fun e=>by (have e2:w.heap.size+1+1+1+1=b:=by injection e);have:=hb.2;omega,by have:=hb.2;omega⟩
       . exact ⟨.inr (by omega),fun e=>by (have e2:w.heap.size+1+1+1+1=b:=by injection e);omega,by omega⟩) _ (fun j=>by
       by_cases e:j=kk
       . subst e
         rw [aM aL,aM rfl]
       . rw [aY e]
         by_cases h8:m<=j
         . rw [aM h8,aM (by omega)]
         . rw [aY h8]
           split
           . exact Poly.acD (m:=m) (by omega) (by omega)
           . rfl)
     (have HE9:Hid ((E.set kk ⟨sx,Ax,kx,cx,Bx,mx,dx⟩).length=N):=by show _=_;rw [fW];exact hE.o);have HT9:Hid (aX (((wx.setCell ⟨w.heap.size+1+1+1+1,kk*3,none⟩ (.bool sx)).setCell ⟨w.heap.size+1+1+1+1,kk*3+1,none⟩ (.slice Ax kx cx)).setCell ⟨w.heap.size+1+1+1+1,kk*3+2,none⟩ (.slice Bx mx dx)) w.heap.size (.bool false) (.slice none 0 0) (.slice Bp lp cp)):=(hT.o.aC YN.o).keep (oR.o.block _ (hT.o.aC YN.o).lt (by omega));have P19:Hid (aX (((wx.setCell ⟨w.heap.size+1+1+1+1,kk*3,none⟩ (.bool sx)).setCell ⟨w.heap.size+1+1+1+1,kk*3+1,none⟩ (.slice Ax kx cx)).setCell ⟨w.heap.size+1+1+1+1,kk*3+2,none⟩ (.slice Bx mx dx)) (w.heap.size+1) (.bool false) (.slice none 0 0) (.slice Bq (kids q).len cq)):=(P1.o.aC YN.o).keep (oR.o.block _ (P1.o.aC YN.o).lt (by omega));have TK:Hid (aX (((wx.setCell ⟨w.heap.size+1+1+1+1,kk*3,none⟩ (.bool sx)).setCell ⟨w.heap.size+1+1+1+1,kk*3+1,none⟩ (.slice Ax kx cx)).setCell ⟨w.heap.size+1+1+1+1,kk*3+2,none⟩ (.slice Bx mx dx)) iG (.bool sx) (.slice Ax kx cx) (.slice Bx mx dx)):=hTx.o.keep (oR.o.block _ hTx.o.lt (by omega));have aro:Hid (aO (fun b=>(S b∧b<w.heap.size)∨w.heap.size+1+1+1+1+1<=b) n (((wx.setCell ⟨w.heap.size+1+1+1+1,kk*3,none⟩ (.bool sx)).setCell ⟨w.heap.size+1+1+1+1,kk*3+1,none⟩ (.slice Ax kx cx)).setCell ⟨w.heap.size+1+1+1+1,kk*3+2,none⟩ (.slice Bx mx dx)) (.agg #[.bool sx,.slice Ax kx cx,.slice Bx mx dx]) ((kids z).co kk)):=hVx.o.only oR.o (fun b hb e=>by rcases hb with hb | hb<;>omega) fun b hb=>hb;have hV9:Hid (aO (fun b=>(S b∧b<w.heap.size)∨w.heap.size+1+1+1+1+1<=b) (n+1) (((wx.setCell ⟨w.heap.size+1+1+1+1,kk*3,none⟩ (.bool sx)).setCell ⟨w.heap.size+1+1+1+1,kk*3+1,none⟩ (.slice Ax kx cx)).setCell ⟨w.heap.size+1+1+1+1,kk*3+2,none⟩ (.slice Bx mx dx)) (.agg #[.bool false,.slice none 0 0,.slice Bp lp cp]) (mkK (Poly.cut m (kids z))*q)):=(hV.o.aC YN.o).only oR.o (fun b hb e=>by rcases hb with hb | hb<;>omega) fun b hb=>hb;have apX:Hid (Only (fun b=>b=w.heap.size∨b=w.heap.size+1+1+1+1∨wt.heap.size<=b) wt (((wx.setCell ⟨w.heap.size+1+1+1+1,kk*3,none⟩ (.bool sx)).setCell ⟨w.heap.size+1+1+1+1,kk*3+1,none⟩ (.slice Ax kx cx)).setCell ⟨w.heap.size+1+1+1+1,kk*3+2,none⟩ (.slice Bx mx dx))):=(j7.o.trans ((Only.bZ YN.o).mono fun b hb=> .inr (.inr (by omega)))).trans (oR.o.mono fun b hb=> .inr (.inl hb));clear oR HOx hTx hVx YN hO hE hT hV j7 P1 P2 P3 Fe CL8 CM8 CC8 ZQ t_Q a0 a1 a2 b0 b1 b2 hxf pW;(go_wp2_with fail);generalize hwv:((wx.setCell ⟨w.heap.size+1+1+1+1,kk*3,none⟩ (.bool sx)).setCell ⟨w.heap.size+1+1+1+1,kk*3+1,none⟩ (.slice Ax kx cx)).setCell ⟨w.heap.size+1+1+1+1,kk*3+2,none⟩ (.slice Bx mx dx)=wv at*
     clear hwv LM CB GG akK akJ akI y0 y1 y2 p3 kR;have HBv:Hid (Below w.heap.size w wv):=HO9.o.aC;have hwv:=apX.o.size;have aJX:=vY kk (by omega);obtain ⟨i0,rT,zj,jD,jJ⟩:=eG sP;(have hmx:kk<=maxLen:=by unfold maxLen;omega);(have hq1:kk+1<=maxLen:=by unfold maxLen;omega);(have hq2:(kk+1)*56<=140737488355328:=by omega);have jE:=zj;have t_x:=aro.o.here;have aEJ:=TK.o.lt;have u0:=TK.o.cell0;have u1:=TK.o.cell1;have u2:=TK.o.aN;have zg:Hid (∀V,Below wv.heap.size wv V->(fun V=>V.cell? ⟨iG,0,none⟩=some (.bool sx)∧V.cell? ⟨iG,1,none⟩=some (.slice Ax kx cx)∧V.cell? ⟨iG,2,none⟩=some (.slice Bx mx dx)) V):=fun V hV=>⟨(TK.o.aC hV).cell0,(TK.o.aC hV).cell1,(TK.o.aC hV).aN⟩;go_cut [12] (fun s12 wx=>∃(Rc gg cap:Nat),s12=.pointer (some ⟨Rc,0,none⟩)∧wv.heap.size<=Rc∧Hid (aX wx Rc (.bool false) (.slice none 0 0) (.slice (some ⟨gg,0,none⟩) (kk+1) cap))∧Hid (aO (fun b=>(S b∧b<w.heap.size)∨w.heap.size+1+1+1+1+1<=b) (n+1) wx (.agg #[.bool false,.slice none 0 0,.slice (some ⟨gg,0,none⟩) (kk+1) cap]) (mkK (Poly.mono kk ((kids z).co kk))))∧Hid (Below wv.heap.size wv wx))
     case first=>
      refine fh (S:=fun V=>V.cell? ⟨iG,0,none⟩=some (.bool sx)∧V.cell? ⟨iG,1,none⟩=some (.slice Ax kx cx)∧V.cell? ⟨iG,2,none⟩=some (.slice Bx mx dx)) (z:=7) (by kernel_rfl) ?_;have hHeld:=zg.o _ (Below.refl wv.heap.size wv).drew;(try dsimp only at hHeld);refine tk 7 0 (.int .i64 (kk:Int)) rfl hHeld ?_;(try simp only [fx,Act.put]);refine tk 7 2 (.agg #[.bool sx,.slice Ax kx cx,.slice Bx mx dx]) rfl hHeld ?_;(try simp only [fx,Act.put]);have iq:Hid (∀b,wv.heap.size<=b->(fun b=>(S b∧b<w.heap.size)∨w.heap.size+1+1+1+1+1<=b) b):=fun b hb=> .inr (by omega);refine o7 (w0:=wv) [⟨1,69,4,KB wv 1 (.cells (madeCells #[Value.bool false,.slice none 0 0,.slice none 0 0] (kk*3)) 51) (fun g=> .slice (some ⟨g,0,none⟩) kk kk)⟩,⟨3,71,3,KO wv (fun b=>(S b∧b<w.heap.size)∨w.heap.size+1+1+1+1+1<=b) n ((kids z).co kk) 51 (fun g=> .slice (some ⟨g,0,none⟩) 1 1)⟩,⟨4,72,4,KA (fun b=>(S b∧b<w.heap.size)∨w.heap.size+1+1+1+1+1<=b) (n+1) (mkK (Poly.mono kk ((kids z).co kk))) (kk+1)⟩,⟨5,73,5,KA1 (fun b=>(S b∧b<w.heap.size)∨w.heap.size+1+1+1+1+1<=b) (n+1) (mkK (Poly.mono kk ((kids z).co kk))) (kk+1)⟩,⟨6,12,6,KB wv 6 (.cells #[.bool false,.slice none 0 0,.slice none 0 0] 51) (fun g=> .pointer (some ⟨g,0,none⟩))⟩] [1,3,4,5,6] [69,71,72,73,12] [7] #[true,true,true,true,true,true,true,false] 1 rfl rfl (by kernel_rfl) rfl rfl (Below.refl wv.heap.size wv).drew (fc KB.keeps (fc KO.keeps (fc KA.keeps (fc KA1.keeps (fc KB.keeps (fn)))))) (fc ?_ (fc ?_ (fc ?_ (fc ?_ (fc ?_ (fn)))))) ?_
      . intro L a V B hr hd h
        have r68:=h.old 68 rfl rfl;refine eP rfl fun KK bu=> ?_;go_simp;exact bu.o _ _ (zg.o _ (h.aC.alloc h.aC.size _)) (h.box 0 rfl hr)
      . intro L a V B hr hd h
        have r70:=h.old 70 rfl rfl;refine eP rfl fun KK bu=> ?_;go_simp;exact bu.o _ _ (zg.o _ (h.aC.alloc h.aC.size _)) (h.own 1 rfl hr ((h.tree t_x).mono fun b hb=>hb.1))
      . intro L a V B hr hd h
        obtain ⟨_,qM,gM,rfl,hM,lM,BM⟩:=h.get 0 rfl (hd 1 (by kernel_rfl)) (.inr (Vq hr));obtain ⟨_,qB,gB,sB,AB,kB,cB,BB,mB,dB,rfl,hB,lB,tB,nB⟩:=h.get 1 rfl (hd 3 (by kernel_rfl)) (.inl rfl);refine eP rfl fun KK bu=> ?_;refine pN _ (by rfl) _ _ _ (by rfl) wv.heap.size 51 i0 _ 3 56 underlying49 rT jE jD jJ rfl (by omega) _ kk _ (ev qM) (PD lM.o hM hmx) ⟨gB,0,none⟩ 1 1 [.bool sB,.slice AB kB cB,.slice BB mB dB] (ev qB) (by rfl) (gw lB.o) (by simp [Value.oneCell']) Nat.one_pos hq1 hq2 h.aC.size _ rfl ?_;intro g8 cap w8 aa aW gZ _;exact bu.o _ _ (zg.o _ (Ea h.aC aW hM)) (h.part 2 rfl hr 0 rfl BM hM aW (x:=⟨sB,AB,kB,cB,BB,mB,dB⟩) aa gZ tB.o ali iq.o)
      . intro L a V B hr hd h
        obtain ⟨_,qA,gA,acO,rfl,tA⟩:=h.get 2 rfl (hd 4 (by kernel_rfl)) (.inl rfl);refine eP rfl fun KK bu=> ?_;go_simp;exact bu.o _ _ (zg.o _ h.aC) (h.put 3 rfl hr aU ⟨gA,acO,rfl,tA⟩)
      . intro L a V B hr hd h
        refine eP rfl fun KK bu=> ?_;go_simp;exact bu.o _ _ (zg.o _ (h.aC.alloc h.aC.size _)) (h.box 4 rfl hr)
      intro a9 wv B h;obtain ⟨_,qM⟩:=h.has 0 rfl rfl;obtain ⟨_,qB,gB,sB,AB,kB,cB,BB,mB,dB,rfl,hB,lB,tB,nB⟩:=h.get 1 rfl rfl (.inl rfl);obtain ⟨_,qA,gA,acO,rfl,tA⟩:=h.get 2 rfl rfl (.inl rfl);obtain ⟨_,qU,gU,amP,rfl,tU⟩:=h.get 3 rfl rfl (.inl rfl);obtain ⟨_,qX,gX,rfl,hX,lX,BX⟩:=h.get 4 rfl rfl (.inl rfl);have hV:=aA h.aC;have hz9:=h.aC.size;have tX:Hid (aX wv gX (.bool false) (.slice none 0 0) (.slice none 0 0)):=lX.o;have v0:=tX.o.cell0;have f0:=tX.o.frozen 0;have v1:=tX.o.cell1;have f1:=tX.o.frozen 1;have v2:=tX.o.aN;have f2:=tX.o.frozen 2;obtain rfl:=h.act [(69,_),(71,_),(72,_),(73,_),(12,_)] rfl (fc qM (fc qB (fc qA (fc qU (fc qX (fn))))));simp only [List.foldr];(try simp only [fx,Act.put]);refine aT (rs:=[7]) (by kernel_rfl) (by simp) ?_;refine aK.last rfl (fun KK bu=> ?_);go_simp;refine bu.o _ _ ?_;clear bu KK;refine fE (by kernel_rfl) ?_ _;(go_wp2_with fail);go_meet
      exact ⟨gX,gU,amP,rfl,hX,tX.o.set _ _ _,tU.o.only (aZ wv gX _ _ _) (fun b hb e=>hb.2 6 (e ▸ BX)) (fun b hb=>hb.1),gP hV.o hX _ _ _⟩
     case rest=>
      obtain ⟨Rc,gg,cap,rfl,aKX,alZ,azC,TN⟩:=hcut;obtain ⟨wy,rfl⟩:∃V:World,V=wc:=⟨_,rfl⟩;have adP:=aA (HT9.o.aC TN.o);have anf:=aA (P19.o.aC TN.o);have aCa:=aA (HO9.o.jX TN.o);have hsy:=TN.o.size;have ZQ:=(hV9.o.aC TN.o).here;have t_P:=azC.o.here;have t_Q:=((HQ.o.aC (HBv.o.tm TN.o)).here).mono (T:=fun b=>((S b∧b<w.heap.size)∨w.heap.size+1+1+1+1+1<=b)∧b<wy.heap.size) fun b hb=>⟨.inl hb.1,hb.2⟩;have nmm:aH.nm (mkK (Poly.mono kk ((kids z).co kk)))<=aH.nm z:=by
       rw [yX,uE];exact aG (Poly.yY kk _) nzk
      have awx:aH.nm (mkK (Poly.cut m (kids z)))<=aH.nm z:=by
       rw [yX,uE];exact Poly.IQ m (kids z)
      have dm:aH.dg (Poly.bg kk (fun j=>D (j+1))) (mkK (Poly.mono kk ((kids z).co kk))):=(show Poly.mo (Poly.bg kk (fun j=>D (j+1))) (Poly.mono kk ((kids z).co kk)) from ⟨fun i hi=>by rw [Poly.dZ,aY (by have:Poly.bg kk (fun j=>D (j+1)) 0=kk:=rfl;omega)],fun i=>by
       rw [Poly.dZ];split
       . exact Ddz.o.2 _
       . exact aH.en _⟩)
      have aAF:aH.dg D (mkK (Poly.cut m (kids z))):=(show Poly.mo D (Poly.cut m (kids z)) from Poly.agQ Ddz.o m);have dqE:aH.dg Eq q:=Ddq.o;have dq1:aH.dg (Poly.bg ((kids q).len-1) (fun j=>Eq (j+1))) q:=(show Poly.mo (Poly.bg ((kids q).len-1) (fun j=>Eq (j+1))) (kids q) from ⟨(Poly.ay _).mono (by show _<=(kids q).len-1+1;omega),Ddq.o.2⟩);have hdd:∀j,Poly.bg kk (fun j=>D (j+1)) j+Poly.bg ((kids q).len-1) (fun j=>Eq (j+1)) j<1000000000000:=fun j=>by
       cases j with
       | zero=>show kk+((kids q).len-1)<_;omega
       | succ j=>exact HDE.o (j+1)
      have nT:aH.nm (mkK (Poly.mono kk ((kids z).co kk))*q)<2^(64*K):=aR (aG (aH.mh _ _) (bG _ nmm)) nzq;have nF:aH.nm (mkK (Poly.cut m (kids z))*q)<2^(64*K):=aR (aG (aH.mh _ _) (bG _ awx)) nzq;have aCx:Hid (∀(T:Nat->Prop) (V:World),Below wy.heap.size wy V->aO T (n+1) V (.agg #[.bool false,.slice none 0 0,.slice (some ⟨gg,0,none⟩) (kk+1) cap]) (mkK (Poly.mono kk ((kids z).co kk)))->aO T (n+1) V (.agg #[.bool false,.slice none 0 0,.slice Bq (kids q).len cq]) q->aB 86 #[.agg #[.bool false,.slice none 0 0,.slice (some ⟨gg,0,none⟩) (kk+1) cap],.int .i64 ((n:Int)+1),.agg #[.bool false,.slice none 0 0,.slice Bq (kids q).len cq]] V (bW T V (n+1) (mkK (Poly.mono kk ((kids z).co kk))*q))):=fun T V _ h1 h2=>
       Bh K hK (n+1) (by omega) T V _ _ _ q _ _ h1 h2 dm dq1 hdd (aR nmm nz) nq (aR (bG _ nmm) nzq)
      have aCB:Hid (∀(T:Nat->Prop) (V:World),Below wy.heap.size wy V->aO T (n+1) V (.agg #[.bool false,.slice none 0 0,.slice Bp lp cp]) (mkK (Poly.cut m (kids z))*q)->∀v,aO T (n+1) V v (mkK (Poly.mono kk ((kids z).co kk))*q)->aB 85 #[.agg #[.bool false,.slice none 0 0,.slice Bp lp cp],.int .i64 ((n:Int)+1),v] V (bW T V (n+1) (mkK (Poly.cut m (kids z))*q-mkK (Poly.mono kk ((kids z).co kk))*q))):=fun T V _ h1 v h2=>
       PX K hK (n+1) (by omega) T V _ v _ _ h1 h2 nF nT (oT (n+1) _ _ (aH.jh _ _ _ _ aAF dqE) (fun j=>HDE.o j)) (oT (n+1) _ _ (aH.jh _ _ _ _ dm dq1) hdd)
      have Fin:Hid (∀(wE:World) (BE:Option Addr) (mE dE:Nat),Below wy.heap.size wy wE->aO (fun b=>(S b∧b<w.heap.size)∨w.heap.size+1+1+1+1+1<=b) (n+1) wE (bE false none 0 0 BE mE dE) (mkK (Poly.cut m (kids z))*q-mkK (Poly.mono kk ((kids z).co kk))*q)->
       Hid ((kids (mkK (Poly.cut kk (kids z))*q)).len=mE)∧Hid (aO (fun b=>(S b∧b<w.heap.size)∨w.heap.size+1+1+1+1+1<=b) (n+1) (((wE.setCell ⟨w.heap.size,0,none⟩ (.bool false)).setCell ⟨w.heap.size,1,none⟩ (.slice none 0 0)).setCell ⟨w.heap.size,2,none⟩ (.slice BE mE dE)) (.agg #[.bool false,.slice none 0 0,.slice BE mE dE]) (mkK (Poly.cut kk (kids z))*q))∧Hid (aX (((wE.setCell ⟨w.heap.size,0,none⟩ (.bool false)).setCell ⟨w.heap.size,1,none⟩ (.slice none 0 0)).setCell ⟨w.heap.size,2,none⟩ (.slice BE mE dE)) w.heap.size (.bool false) (.slice none 0 0) (.slice BE mE dE))∧Hid (j6 51 (fun b=>S b∧b<w.heap.size) (fun b=>b=w.heap.size∨b=w.heap.size+1+1) w (w.heap.size+1+1+1+1) (((wE.setCell ⟨w.heap.size,0,none⟩ (.bool false)).setCell ⟨w.heap.size,1,none⟩ (.slice none 0 0)).setCell ⟨w.heap.size,2,none⟩ (.slice BE mE dE)) n (.slice (some ⟨w.heap.size+1+1+1+1,0,none⟩) N N) (E.set kk ⟨sx,Ax,kx,cx,Bx,mx,dx⟩) (fun j=>if kk<=j then (kids z).co j else 0))∧Hid (Only (fun b=>b=w.heap.size∨b=w.heap.size+1+1+1+1∨wt.heap.size<=b) wt (((wE.setCell ⟨w.heap.size,0,none⟩ (.bool false)).setCell ⟨w.heap.size,1,none⟩ (.slice none 0 0)).setCell ⟨w.heap.size,2,none⟩ (.slice BE mE dE)))):=fun wE BE mE dE hyE hE=>by
       have e9:(mkK (Poly.cut m (kids z))*q-mkK (Poly.mono kk ((kids z).co kk))*q:Pn (n+1))=mkK (Poly.cut kk (kids z))*q:=by
        have h9:=Poly.acB hc (kids q);rw [Sy,DK] at h9;exact h9
       rw [e9] at hE;obtain ⟨_,_,_,_,hmE⟩:=hE.Vu;refine ⟨hmE.symm,hE.only (aZ wE w.heap.size _ _ _) (fun b hb e=>by rcases hb with hb | hb<;>omega) (fun b hb=>hb),(adP.o.aC hyE).set _ _ _,(aCa.o.jX hyE).box ((aZ wE w.heap.size _ _ _).mono fun b hb=> .inl hb) (fun b hb=>by omega),?_⟩;exact ((apX.o.trans ((Only.bZ TN.o).mono fun b hb=> .inr (.inr (by omega)))).trans ((Only.bZ hyE).mono fun b hb=> .inr (.inr (by omega)))).trans ((aZ wE w.heap.size _ _ _).mono fun b hb=> .inl hb)
      clear zg hV9 aro u0 u1 u2;have Sn:Hid (∀V,Below wy.heap.size wy V->(fun V=>V.cell? ⟨w.heap.size,0,none⟩=some (.bool false)∧V.cell? ⟨w.heap.size,1,none⟩=some (.slice none 0 0)∧V.cell? ⟨w.heap.size,2,none⟩=some (.slice Bp lp cp)∧V.cell? ⟨w.heap.size+1,0,none⟩=some (.bool false)∧V.cell? ⟨w.heap.size+1,1,none⟩=some (.slice none 0 0)∧V.cell? ⟨w.heap.size+1,2,none⟩=some (.slice Bq (kids q).len cq)∧V.cell? ⟨Rc,0,none⟩=some (.bool false)∧V.cell? ⟨Rc,1,none⟩=some (.slice none 0 0)∧V.cell? ⟨Rc,2,none⟩=some (.slice (some ⟨gg,0,none⟩) (kk+1) cap)) V):=fun V hV=>⟨(adP.o.aC hV).cell0,(adP.o.aC hV).cell1,(adP.o.aC hV).aN,(anf.o.aC hV).cell0,(anf.o.aC hV).cell1,(anf.o.aC hV).aN,(alZ.o.aC hV).cell0,(alZ.o.aC hV).cell1,(alZ.o.aC hV).aN⟩;(go_wp2_with fail);refine fh (S:=fun V=>V.cell? ⟨w.heap.size,0,none⟩=some (.bool false)∧V.cell? ⟨w.heap.size,1,none⟩=some (.slice none 0 0)∧V.cell? ⟨w.heap.size,2,none⟩=some (.slice Bp lp cp)∧V.cell? ⟨w.heap.size+1,0,none⟩=some (.bool false)∧V.cell? ⟨w.heap.size+1,1,none⟩=some (.slice none 0 0)∧V.cell? ⟨w.heap.size+1,2,none⟩=some (.slice Bq (kids q).len cq)∧V.cell? ⟨Rc,0,none⟩=some (.bool false)∧V.cell? ⟨Rc,1,none⟩=some (.slice none 0 0)∧V.cell? ⟨Rc,2,none⟩=some (.slice (some ⟨gg,0,none⟩) (kk+1) cap)) (z:=7) (by kernel_rfl) ?_;have hHeld:=Sn.o _ (Below.refl wy.heap.size wy).drew;(try dsimp only at hHeld);refine tk 7 0 (.agg #[.bool false,.slice none 0 0,.slice Bp lp cp]) rfl hHeld ?_;(try simp only [fx,Act.put]);refine tk 7 1 (.int .i64 ((n:Int)+1)) rfl hHeld ?_;(try simp only [fx,Act.put]);refine tk 7 2 (.agg #[.bool false,.slice none 0 0,.slice (some ⟨gg,0,none⟩) (kk+1) cap]) rfl hHeld ?_;(try simp only [fx,Act.put]);refine tk 7 3 (.int .i64 ((n:Int)+1)) rfl hHeld ?_;(try simp only [fx,Act.put]);refine tk 7 4 (.agg #[.bool false,.slice none 0 0,.slice Bq (kids q).len cq]) rfl hHeld ?_;(try simp only [fx,Act.put]);have iq:Hid (∀b,wy.heap.size<=b->(fun b=>(S b∧b<w.heap.size)∨w.heap.size+1+1+1+1+1<=b) b):=fun b hb=> .inr (by omega);refine o7 (w0:=wy) [⟨5,79,5,KT (fun b=>(S b∧b<w.heap.size)∨w.heap.size+1+1+1+1+1<=b) (n+1) (fun x=>(mkK (Poly.mono kk ((kids z).co kk))*q)=x)⟩,⟨6,80,6,KT (fun b=>(S b∧b<w.heap.size)∨w.heap.size+1+1+1+1+1<=b) (n+1) (fun x=>(mkK (Poly.cut m (kids z))*q-(mkK (Poly.mono kk ((kids z).co kk))*q))=x)⟩] [5,6] [79,80] [7] #[true,true,true,true,true,true,true,false] 1 rfl rfl (by kernel_rfl) rfl rfl (Below.refl wy.heap.size wy).drew (fc KT.keeps (fc KT.keeps (fn))) (fc ?_ (fc ?_ (fn))) ?_
      . intro L a V B hr hd h
        have r76:=h.old 76 rfl rfl;have r77:=h.old 77 rfl rfl;have r78:=h.old 78 rfl rfl;refine eP rfl fun KK bu=> ?_;go_simp;refine (aCx.o _ V h.aC (h.tree t_P) (h.tree t_Q)).mono ?_;rintro e w' ⟨s0,A0,k0,c0,B0,m0,d0,rfl,hv,hb⟩;unfold bE;(go_wp2_with fail);exact bu.o _ _ (Sn.o _ (h.aC.tm hb)) (h.put 0 rfl hr hb ⟨_,s0,A0,k0,c0,B0,m0,d0,rfl,rfl,h.res iq.o hv⟩)
      . intro L a V B hr hd h
        obtain ⟨_,qT,_,sT,AT,kT,cT,BT,mT,dT,rfl,rfl,tT⟩:=h.get 0 rfl (hd 5 (by kernel_rfl)) (.inl rfl);have r74:=h.old 74 rfl rfl;have r75:=h.old 75 rfl rfl;refine eP rfl fun KK bu=> ?_;go_simp;refine (aCB.o _ V h.aC (h.tree ZQ) _ tT.o.here).mono ?_;rintro e w' ⟨s0,A0,k0,c0,B0,m0,d0,rfl,hv,hb⟩;unfold bE;(go_wp2_with fail);exact bu.o _ _ (Sn.o _ (h.aC.tm hb)) (h.put 1 rfl hr hb ⟨_,s0,A0,k0,c0,B0,m0,d0,rfl,rfl,h.res iq.o hv⟩)
      intro a9 wv B h;obtain ⟨_,qT,_,sT,AT,kT,cT,BT,mT,dT,rfl,rfl,tT⟩:=h.get 0 rfl rfl (.inl rfl);obtain ⟨_,qE,_,sE,AE,kE,cE,BE,mE,dE,rfl,rfl,tE⟩:=h.get 1 rfl rfl (.inl rfl);have hV:=aA h.aC;have hz9:=h.aC.size;obtain ⟨rfl,rfl,rfl,rfl,hmE⟩:=tE.o.Vu;clear hmE;obtain ⟨OD,hV2,hT2,oK,GI⟩:=Fin.o wv BE mE dE hV.o (tE.o.mono fun b hb=>hb.1);have tz:=adP.o.aC hV.o;have v0:=tz.cell0;have f0:=tz.frozen 0;have v1:=tz.cell1;have f1:=tz.frozen 1;have v2:=tz.aN;have f2:=tz.frozen 2;obtain rfl:=h.act [(79,_),(80,_)] rfl (fc qT (fc qE (fn)));simp only [List.foldr];(try simp only [fx,Act.put]);refine aT (rs:=[7]) (by kernel_rfl) (by simp) ?_;refine aK.last rfl (fun KK bu=> ?_);go_simp;refine bu.o _ _ ?_;clear bu KK;refine fE (by kernel_rfl) ?_ _;(go_wp2_with fail);go_roundg (gk-1)
      case measure=>omega
      case rel=>exact ⟨kk,E.set kk ⟨sx,Ax,kx,cx,Bx,mx,dx⟩,BE,mE,dE,by omega,by omega,OD,HE9,oK,hT2,hV2,GI⟩
def mby (K:Nat) (hK:K<=3900000000000):∀n,n<=99->ByN n K
 | 0,_=>awz K hK
 | n+1,hn=>fun S w u v z q D E hf hq q0 dz dq hD nz nq nzq=>by
   rw [lI];exact awy n K hK (by omega) (mby K hK n (by omega)) S w u v z q D E hf hq q0 dz dq hD nz nq nzq
