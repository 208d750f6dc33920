/- Regions that draw their order, by one invariant: what each operation's slot holds, once it is listed. No program in sight. -/
import Derived.Test.YtehcoffbiplphaaGreatSTrg
import Derived.Test.YtehcoffbiplphaaGreatSTk
set_option linter.unusedVariables false
set_option linter.unusedSimpArgs false
namespace Cl
open Go Go.RowKit
theorem ld_no {L:Array Bool} {i:Nat}(h:L.getD i false=true) (k:L.getD i true=false):False:=by
 rw [Array.getD_eq_getD_getElem?] at h k
 cases hq:L[i]? with
 | none=>rw [hq] at h;cases h
 | some b=>rw [hq] at h k;rw [show b=true from h] at k;cases k
theorem ld_un {L:Array Bool} {i:Nat}(k:L.getD i true=false):L.getD i false=false:=by
 cases h:L.getD i false with
 | false=>rfl
 | true=>exact (ld_no h k).elim
theorem ld_lt {L:Array Bool} {i:Nat}(k:L.getD i true=false):i<L.size:=by
 rcases Nat.lt_or_ge i L.size with h | h
 · exact h
 · rw [Array.getD_eq_getD_getElem?,Array.getElem?_eq_none h] at k;cases k
theorem ld_set {L:Array Bool} {i j:Nat}(h:j≠i):(L.setIfInBounds i true).getD j false=L.getD j false:=by
 rw [Array.getD_eq_getD_getElem?,Array.getD_eq_getD_getElem?,Array.getElem?_setIfInBounds_ne (Ne.symm h)]
theorem ld_self {L:Array Bool} {i:Nat}(h:i<L.size):(L.setIfInBounds i true).getD i false=true:=by
 rw [Array.getD_eq_getD_getElem?,Array.getElem?_setIfInBounds_self_of_lt h]
 rfl
theorem ld_setT {L:Array Bool} {i j:Nat}(h:j≠i):(L.setIfInBounds i true).getD j true=L.getD j true:=by
 rw [Array.getD_eq_getD_getElem?,Array.getD_eq_getD_getElem?,Array.getElem?_setIfInBounds_ne (Ne.symm h)]
theorem countP_set:∀(l:List Bool) (k:Nat) (hk:k<l.length),l[k]=false→(l.set k true).countP (fun b=> !b)+1=l.countP (fun b=> !b):=fun l=>by
 induction l with
 | nil=>intro k hk;cases hk
 | cons x l ih2=>
   intro k hk hx;cases k with
   | zero=>
     have hx':x=false:=hx;subst hx';simp
   | succ k=>
     have h5:=ih2 k (by simpa using hk) hx;rw [List.set_cons_succ,List.countP_cons,List.countP_cons];omega
theorem nodup_inj {α:Type} {f:α→Nat}:∀{l:List α},(l.map f).Nodup→∀{x y:α},x∈l→y∈l→f x=f y→x=y
 | [],_,_,_,h,_,_=>by cases h
 | p::l,hn,x,y,hx,hy,e=>by
   rw [List.map_cons,List.nodup_cons] at hn;rcases List.mem_cons.1 hx with rfl | hx
   · rcases List.mem_cons.1 hy with h | hy
     · exact h.symm
     · exact absurd (List.mem_map.2 ⟨y,hy,e.symm⟩) hn.1
   · rcases List.mem_cons.1 hy with h | hy
     · exact absurd (List.mem_map.2 ⟨x,hx,by rw [e,h]⟩) hn.1
     · exact nodup_inj hn.2 hx hy e
structure Fr (T0:Array Value) (ds:List Nat) (T:Array Value):Prop where
 size:T.size=T0.size
 out:∀k,k∉ds→T[k]? =T0[k]?
theorem Fr.put {T0 T:Array Value} {ds:List Nat}(h:Fr T0 ds T) {d:Nat}(hd:d∈ds) (v:Value):Fr T0 ds (T.setIfInBounds d v):=
 ⟨by rw [Array.size_setIfInBounds,h.size],fun k hk=>by
   rw [Array.getElem?_setIfInBounds_ne (fun e=>hk (by rw [← e];exact hd))];exact h.out k hk⟩
theorem put_ne {T:Array Value} {d k:Nat} {v u:Value}(h:d≠k) (e:T[k]? =some u):(T.setIfInBounds d v)[k]? =some u:=by
 rw [Array.getElem?_setIfInBounds_ne h];exact e
theorem put_self {T:Array Value} {d:Nat} {v:Value}(h:d<T.size):(T.setIfInBounds d v)[d]? =some v:=Array.getElem?_setIfInBounds_self_of_lt h
theorem fr_all {T0:Array Value}:∀{ps:List (Nat×Value)} {T:Array Value},(ps.map (·.1)).Nodup→Fr T0 (ps.map (·.1)) T→(∀p∈ps,T[p.1]? =some p.2)→T=ps.foldr (fun p A=>A.setIfInBounds p.1 p.2) T0
 | ps,T,_,h,hp=>by
   have key:∀(qs:List (Nat×Value)) (k:Nat),(∀p∈qs,p.1=k→T[k]? =some p.2)→(k<T0.size)→(qs.foldr (fun p A=>A.setIfInBounds p.1 p.2) T0)[k]? =if k∈qs.map (·.1) then T[k]? else T0[k]? :=fun qs=>by
    induction qs with
    | nil=>intro k _ _;simp
    | cons q qs ih=>
      intro k hk hlt;have ih':=ih k (fun p hp=>hk p (List.mem_cons_of_mem _ hp)) hlt;have hsz:(qs.foldr (fun p A=>A.setIfInBounds p.1 p.2) T0).size=T0.size:=by
       clear ih' ih hk;induction qs with
       | nil=>rfl
       | cons r rs ih=>rw [List.foldr_cons,Array.size_setIfInBounds,ih]
      rw [List.foldr_cons];by_cases e:q.1=k
      · rw [e,Array.getElem?_setIfInBounds_self_of_lt (by rw [hsz];exact hlt),if_pos (by simp [e]),hk q List.mem_cons_self e]
      · rw [Array.getElem?_setIfInBounds_ne e,ih']
        by_cases hm:k∈qs.map (·.1)
        · rw [if_pos hm,if_pos (by rw [List.map_cons];exact List.mem_cons_of_mem _ hm)]
        · rw [if_neg hm,if_neg (by rw [List.map_cons];intro h;rcases List.mem_cons.1 h with h | h;exact e h.symm;exact hm h)]
   have hsz:∀qs:List (Nat×Value),(qs.foldr (fun p A=>A.setIfInBounds p.1 p.2) T0).size=T0.size:=fun qs=>by
    induction qs with
    | nil=>rfl
    | cons r rs ih=>rw [List.foldr_cons,Array.size_setIfInBounds,ih]
   apply Array.ext_getElem?;intro k;by_cases hlt:k<T0.size
   · rw [key ps k (fun p hp2 e=>by rw [← e];exact hp p hp2) hlt]
     by_cases hm:k∈ps.map (·.1)
     · rw [if_pos hm]
     · rw [if_neg hm];exact h.out k hm
   · rw [Array.getElem?_eq_none (by rw [h.size];omega),Array.getElem?_eq_none (by rw [hsz];omega)]
structure Sp where
 i:Nat
 d:Nat
 u:Nat
 K:Value→World→(Nat→Option Nat)→Prop
structure Kp (V V':World) (B B':Nat→Option Nat):Prop where
 only:Only (fun b=>∃j,B j=some b∧B' j≠some b) V V'
 old:∀j g,B' j=some g→g<V.heap.size→B j=some g
 inj:∀j k g,B j=some g→B k=some g→j=k
theorem Kp.of {V V':World} {B B':Nat→Option Nat}(h:Below V.heap.size V V') (h1:∀j g,B' j=some g→g<V.heap.size→B j=some g) (h2:∀j k g,B j=some g→B k=some g→j=k):Kp V V' B B':=⟨⟨h.os,h.tape,h.output,h.size,fun k hk _=>h.block k hk⟩,h1,h2⟩
theorem Kp.look {V V':World} {B B':Nat→Option Nat} {g:Nat} {o:Obj}(h:Kp V V' B B') (hg:∀j,B j=some g→B' j=some g) (l:V.heap[g]? =some o):V'.heap[g]? =some o:=by
 rw [h.only.block g (Array.getElem?_eq_some_iff.1 l).1 fun ⟨j,h1,h2⟩=>h2 (hg j h1)];exact l
def Sp.keeps (s:Sp):Prop:=∀(v:Value) (V V':World) (B B':Nat→Option Nat),Kp V V' B B'→(∀g,B s.i=some g→B' s.i=some g)→s.K v V B→s.K v V' B'
structure In (w0:World) (a0:Act) (sp:List Sp) (B:Nat→Option Nat) (L:Array Bool) (a:Act) (V:World):Prop where
 kp:∀s∈sp,s.keeps
 ni:(sp.map Sp.i).Nodup
 nd:(sp.map Sp.d).Nodup
 sl:∀s∈sp,s.d<a0.tmps.size
 bel:Below w0.heap.size w0 V
 no:∀j,L.getD j false=false→B j=none
 lt:∀j g,B j=some g→w0.heap.size≤g∧g<V.heap.size
 inj:∀j k g,B j=some g→B k=some g→j=k
 fr:Fr a0.tmps (sp.map Sp.d) a.tmps
 df:a.defers=a0.defers
 ok:∀s∈sp,L.getD s.i false=true→∃v,a.tmps[s.d]? =some v∧((s.u=s.i∨L.getD s.u false=false)→s.K v V B)
namespace In
variable {w0 V V' : World} {a0 a : Act} {sp : List Sp} {B B' : Nat → Option Nat} {L : Array Bool}
theorem get (h:In w0 a0 sp B L a V) (k:Nat) {i d u:Nat} {K:Value→World→(Nat→Option Nat)→Prop}(hs:sp[k]? =some ⟨i,d,u,K⟩) (hl:L.getD i false=true) (hu:u=i∨L.getD u false=false):∃v,a.tmps[d]? =some v∧K v V B:=by
 obtain ⟨v,h1,h2⟩:=h.ok ⟨i,d,u,K⟩ (List.mem_of_getElem? hs) hl
 exact ⟨v,h1,h2 hu⟩
theorem has (h:In w0 a0 sp B L a V) (k:Nat) {i d u:Nat} {K:Value→World→(Nat→Option Nat)→Prop}(hs:sp[k]? =some ⟨i,d,u,K⟩) (hl:L.getD i false=true):∃v,a.tmps[d]? =some v:=by
 obtain ⟨v,h1,_⟩:=h.ok ⟨i,d,u,K⟩ (List.mem_of_getElem? hs) hl
 exact ⟨v,h1⟩
theorem old (h:In w0 a0 sp B L a V) (k:Nat) (hk:(sp.map Sp.d).contains k=false) {v:Value}(e:a0.tmps[k]? =some v):a.tmps[k]? =some v:=(h.fr.out k (by simpa using hk)).trans e
theorem gen (h:In w0 a0 sp B L a V) (k:Nat) {i d u:Nat} {K:Value→World→(Nat→Option Nat)→Prop}(hs:sp[k]? =some ⟨i,d,u,K⟩) (hr:L.getD i true=false) (hb:Below w0.heap.size w0 V') (hB:∀j g,j≠i→B' j=some g→B j=some g) (hi:∀g,B' i=some g→V.heap.size≤g∧g<V'.heap.size)
 (hp:Kp V V' B B') (hd:∀s∈sp,s.i≠i→s.u≠i→∀g,B s.i=some g→B' s.i=some g) {v:Value} (hn:K v V' B'):In w0 a0 sp B' (L.setIfInBounds i true) { tmps:=a.tmps.setIfInBounds d v,defers:=a.defers } V':=by
 have hm:=List.mem_of_getElem? hs
 have hil:=ld_lt hr
 have hlo:=h.bel.size
 have hz:=hp.only.size
 refine ⟨h.kp,h.ni,h.nd,h.sl,hb,fun j hj=> ?_,fun j g hj=> ?_,fun j k g hj hk=> ?_,h.fr.put (List.mem_map.2 ⟨_,hm,rfl⟩) v,h.df,fun s hs2 hl=> ?_⟩
 · by_cases e:j=i
   · rw [e,ld_self hil] at hj;cases hj
   · have h1:=h.no j (by rwa [ld_set e] at hj)
     cases hq:B' j with
     | none=>rfl
     | some g=>rw [hB j g e hq] at h1;cases h1
 · by_cases e:j=i
   · rw [e] at hj;have:=hi g hj;exact ⟨by omega,this.2⟩
   · have:=h.lt j g (hB j g e hj);exact ⟨this.1,by omega⟩
 · by_cases e:j=i
   · by_cases e2:k=i
     · rw [e,e2]
     · rw [e] at hj
       have:=hi g hj;have:=h.lt k g (hB k g e2 hk);omega
   · by_cases e2:k=i
     · rw [e2] at hk
       have:=hi g hk;have:=h.lt j g (hB j g e hj);omega
     · exact h.inj j k g (hB j g e hj) (hB k g e2 hk)
 · by_cases e:s.i=i
   · have e2:s=⟨i,d,u,K⟩:=nodup_inj h.ni hs2 hm e
     subst e2;exact ⟨v,put_self (by rw [h.fr.size];exact h.sl _ hm),fun _=>hn⟩
   · rw [ld_set e] at hl
     obtain ⟨v',h1,h2⟩:=h.ok s hs2 hl;refine ⟨v',put_ne (fun e3=>e ?_) h1,fun hu=> ?_⟩
     · have:s=⟨i,d,u,K⟩:=nodup_inj h.nd hs2 hm e3.symm
       rw [this]
     · have hu2:s.u≠i:=fun e3=>by
        rcases hu with hu | hu
        · exact e (hu.symm.trans e3)
        · rw [e3,ld_self hil] at hu;cases hu
       exact h.kp s hs2 v' V V' B B' hp (hd s hs2 e hu2) (h2 (hu.imp id fun hu=>by rwa [ld_set hu2] at hu))
theorem put (h:In w0 a0 sp B L a V) (k:Nat) {i d u:Nat} {K:Value→World→(Nat→Option Nat)→Prop} (hs:sp[k]? =some ⟨i,d,u,K⟩) (hr:L.getD i true=false) (hb:Below V.heap.size V V') {v:Value} (hn:K v V' B):∃B,In w0 a0 sp B (L.setIfInBounds i true) { tmps:=a.tmps.setIfInBounds d v,defers:=a.defers } V':=
 ⟨B,h.gen k hs hr (h.bel.tm hb) (fun _ _ _ e=>e) (fun g e=>by rw [h.no i (ld_un hr)] at e;cases e) (.of hb (fun _ _ e _=>e) h.inj) (fun _ _ _ _ _ e=>e) hn⟩
theorem app (h:In w0 a0 sp B L a V) (k:Nat) {i d u:Nat} {K:Value→World→(Nat→Option Nat)→Prop} (hs:sp[k]? =some ⟨i,d,u,K⟩) (hr:L.getD i true=false) (km:Nat) {im dm:Nat} {KM:Value→World→(Nat→Option Nat)→Prop} (hm:sp[km]? =some ⟨im,dm,i,KM⟩) {g:Nat} (hg:B im=some g) (hb:Below w0.heap.size w0 V') (ho:Only (fun b=>b=g) V V') {v:Value} (hn:K v V' fun j=>if j=im then none else B j):∃B,In w0 a0 sp B (L.setIfInBounds i true) { tmps:=a.tmps.setIfInBounds d v,defers:=a.defers } V':=by
 have hno:=h.no i (ld_un hr)
 have h1:∀j g,(if j=im then none else B j)=some g→B j=some g:=fun j g e=>by
  by_cases e2:j=im
  · rw [if_pos e2] at e;cases e
  · rwa [if_neg e2] at e
 refine ⟨_,h.gen k hs hr hb (fun j g _ e=>h1 j g e) (fun g e=> ?_) ⟨ho.mono fun b e=>⟨im,by rw [e,hg],by rw [if_pos rfl];simp⟩,fun j g e _=>h1 j g e,h.inj⟩ (fun s hs2 e1 e2 g2 e3=> ?_) hn⟩
 · have h2:=h1 i g e
   rw [hno] at h2;cases h2
 · rw [if_neg fun e4=>e2 ?_]
   · exact e3
   · rw [nodup_inj h.ni hs2 (List.mem_of_getElem? hm) e4]
theorem tree (h:In w0 a0 sp B L a V) {Q:Nat→Prop} {n:Nat} {v:Value} {f:Pn n}(t:TreW (fun b=>Q b∧b<w0.heap.size) n w0 v f):TreW (fun b=>(Q b∧∀j,B j≠some b)∧b<V.heap.size) n V v f:=
 ((t.bel h.bel).here).mono fun b hb=>⟨⟨hb.1.1,fun j e=>by have:=h.lt j b e;have:=hb.1.2;omega⟩,hb.2⟩
theorem res (h:In w0 a0 sp B L a V) {Q:Nat→Prop} {n:Nat} {v:Value} {f:Pn n}(hQ:∀b,w0.heap.size≤b→Q b) (t:TreW (fun b=>((Q b∧∀j,B j≠some b)∧b<V.heap.size)∨V.heap.size≤b) n V' v f):TreW (fun b=>Q b∧∀j,B j≠some b) n V' v f:=
 t.mono fun b hb=>hb.elim (fun h=>h.1) fun h1=>⟨hQ b (Nat.le_trans h.bel.size h1),fun j e=>by have:=h.lt j b e;omega⟩
end In
def KB (w0:World) (i:Nat) (o:Obj) (val:Nat→Value) (v:Value) (V:World) (B:Nat→Option Nat):Prop:=∃g,v=val g∧w0.heap.size≤g∧Hid (V.heap[g]? =some o)∧B i=some g
def KR (w0:World) (o:Obj) (val:Nat→Value) (v:Value) (V:World) (B:Nat→Option Nat):Prop:=∃g,v=val g∧w0.heap.size≤g∧Hid (V.heap[g]? =some o)∧∀j,B j≠some g
def KT (Q:Nat→Prop) (n:Nat) (F:Pn n→Prop) (v:Value) (V:World) (B:Nat→Option Nat):Prop:=∃x s A k c C m d,v=treV s A k c C m d∧F x∧Hid (TreW (fun b=>Q b∧∀j,B j≠some b) n V (treV s A k c C m d) x)
def KO (w0:World) (Q:Nat→Prop) (n:Nat) (f:Pn n) (T:TypeId) (val:Nat→Value) (v:Value) (V:World) (B:Nat→Option Nat):Prop:=∃g s A k c C m d,v=val g∧w0.heap.size≤g∧Hid (V.heap[g]? =some (.cells #[.bool s,.slice A k c,.slice C m d] T))∧Hid (TreW (fun b=>Q b∧∀j,B j≠some b) n V (treV s A k c C m d) f)∧∀j,B j≠some g
theorem tree_keeps {Q:Nat→Prop} {n:Nat} {V V':World} {B B':Nat→Option Nat}(h:Kp V V' B B') {v:Value} {f:Pn n}(t:TreW (fun b=>Q b∧∀j,B j≠some b) n V v f):TreW (fun b=>Q b∧∀j,B' j≠some b) n V' v f:=
 t.here.only h.only (fun b hb ⟨j,h1,_⟩=>hb.1.2 j h1) fun b hb=>⟨hb.1.1,fun j e=>hb.1.2 j (h.old j b e hb.2)⟩
theorem KB.keeps {w0:World} {i d u:Nat} {o:Obj} {val:Nat→Value}:(⟨i,d,u,KB w0 i o val⟩:Sp).keeps:=fun _ _ _ _ _ h h1 ⟨g,a,b,c,e⟩=>⟨g,a,b,h.look (fun j e2=>by rw [h.inj j i g e2 e];exact h1 g e) c,h1 _ e⟩
theorem KR.keeps {w0:World} {i d u:Nat} {o:Obj} {val:Nat→Value}:(⟨i,d,u,KR w0 o val⟩:Sp).keeps:=fun _ _ _ _ _ h _ ⟨g,a,b,c,n⟩=>⟨g,a,b,h.look (fun j e=>(n j e).elim) c,fun j e=>n j (h.old j g e (Array.getElem?_eq_some_iff.1 c.out).1)⟩
theorem KT.keeps {i d u:Nat} {Q:Nat→Prop} {n:Nat} {F:Pn n→Prop}:(⟨i,d,u,KT Q n F⟩:Sp).keeps:=fun _ _ _ _ _ h _ ⟨x,s,A,k,c,C,m,d,a,b,t⟩=>⟨x,s,A,k,c,C,m,d,a,b,tree_keeps h t⟩
theorem KO.keeps {w0:World} {i d u:Nat} {Q:Nat→Prop} {n:Nat} {f:Pn n} {T:TypeId} {val:Nat→Value}:(⟨i,d,u,KO w0 Q n f T val⟩:Sp).keeps:=fun _ _ _ _ _ h _ ⟨g,s,A,k,c,C,m,d,a,b,l,t,n⟩=>⟨g,s,A,k,c,C,m,d,a,b,h.look (fun j e=>(n j e).elim) l,tree_keeps h t,fun j e=>n j (h.old j g e (Array.getElem?_eq_some_iff.1 l.out).1)⟩
def KA (Q:Nat→Prop) (n:Nat) (f:Pn n) (m:Nat) (v:Value) (V:World) (B:Nat→Option Nat):Prop:=∃g cap,v=.slice (some ⟨g,0,none⟩) m cap∧Hid (TreW (fun b=>Q b∧∀j,B j≠some b) n V (treV false none 0 0 (some ⟨g,0,none⟩) m cap) f)
theorem KA.keeps {i d u:Nat} {Q:Nat→Prop} {n:Nat} {f:Pn n} {m:Nat}:(⟨i,d,u,KA Q n f m⟩:Sp).keeps:=fun _ _ _ _ _ h _ ⟨g,c,a,t⟩=>⟨g,c,a,tree_keeps h t⟩
def KA1 (Q:Nat→Prop) (n:Nat) (f:Pn n) (m:Nat) (v:Value) (V:World) (B:Nat→Option Nat):Prop:=∃g cap,v=treV false none 0 0 (some ⟨g,0,none⟩) m cap∧Hid (TreW (fun b=>Q b∧∀j,B j≠some b) n V (treV false none 0 0 (some ⟨g,0,none⟩) m cap) f)
theorem KA1.keeps {i d u:Nat} {Q:Nat→Prop} {n:Nat} {f:Pn n} {m:Nat}:(⟨i,d,u,KA1 Q n f m⟩:Sp).keeps:=fun _ _ _ _ _ h _ ⟨g,c,a,t⟩=>⟨g,c,a,tree_keeps h t⟩
theorem ev {a:Act} {k:Nat} {v:Value}(h:a.tmps[k]? =some v):a.eval (.tmp k)=v:=by
 simp [Act.eval,h]
theorem In.box {w0 V:World} {a0 a:Act} {sp:List Sp} {B:Nat→Option Nat} {L:Array Bool} (h:In w0 a0 sp B L a V) (k:Nat) {i d u:Nat} {o:Obj} {val:Nat→Value} (hs:sp[k]? =some ⟨i,d,u,KB w0 i o val⟩) (hr:L.getD i true=false):∃B,In w0 a0 sp B (L.setIfInBounds i true) { tmps:=a.tmps.setIfInBounds d (val V.heap.size),defers:=a.defers } (V.alloc o):=by
 have hb:Below V.heap.size V (V.alloc o):=bRr.alloc lRr o
 refine ⟨fun j=>if j=i then some V.heap.size else B j,h.gen k hs hr (h.bel.alloc h.bel.size o) (fun j g e e2=>by rwa [if_neg e] at e2) (fun g e=> ?_) (.of hb (fun j g e hl=> ?_) h.inj) (fun s _ e _ g e2=>by rw [if_neg e];exact e2) ⟨V.heap.size,rfl,h.bel.size,heap_alloc_new V o,if_pos rfl⟩⟩
 · simp only [if_true] at e
   injection e with e
   rw [World.size_alloc];omega
 · by_cases e2:j=i
   · simp only [if_pos e2] at e;injection e with e;omega
   · simp only [if_neg e2] at e;exact e
theorem In.row {w0 V:World} {a0 a:Act} {sp:List Sp} {B:Nat→Option Nat} {L:Array Bool} (h:In w0 a0 sp B L a V) (k:Nat) {i d u:Nat} {o:Obj} {val:Nat→Value} (hs:sp[k]? =some ⟨i,d,u,KR w0 o val⟩) (hr:L.getD i true=false):∃B,In w0 a0 sp B (L.setIfInBounds i true) { tmps:=a.tmps.setIfInBounds d (val V.heap.size),defers:=a.defers } (V.alloc o):=
 h.put k hs hr (bRr.alloc lRr o) ⟨V.heap.size,rfl,h.bel.size,heap_alloc_new V o,fun j e=>by have:=(h.lt j _ e).2;omega⟩
theorem In.own {w0 V:World} {a0 a:Act} {sp:List Sp} {B:Nat→Option Nat} {L:Array Bool} (h:In w0 a0 sp B L a V) (k:Nat) {i d u:Nat} {Q:Nat→Prop} {n:Nat} {f:Pn n} {T:TypeId} {val:Nat→Value} (hs:sp[k]? =some ⟨i,d,u,KO w0 Q n f T val⟩) (hr:L.getD i true=false) {s:Bool} {A:Option Addr} {k' c:Nat} {C:Option Addr} {m d':Nat} (t:TreW (fun b=>Q b∧∀j,B j≠some b) n V (treV s A k' c C m d') f):∃B,In w0 a0 sp B (L.setIfInBounds i true) { tmps:=a.tmps.setIfInBounds d (val V.heap.size),defers:=a.defers } (V.alloc (.cells #[.bool s,.slice A k' c,.slice C m d'] T)):=
 h.put k hs hr (bRr.alloc lRr _) ⟨V.heap.size,s,A,k',c,C,m,d',rfl,h.bel.size,heap_alloc_new V _,t.bel (bRr.alloc lRr _),fun j e=>by have:=(h.lt j _ e).2;omega⟩
theorem In.act {w0 V:World} {a0 a:Act} {sp:List Sp} {B:Nat→Option Nat} {L:Array Bool} (h:In w0 a0 sp B L a V) (ps:List (Nat×Value)) (e:ps.map (·.1)=sp.map Sp.d) (hp:∀p∈ps,a.tmps[p.1]? =some p.2):a={ tmps:=ps.foldr (fun p A=>A.setIfInBounds p.1 p.2) a0.tmps,defers:=a0.defers } :=by
 have h1:=fr_all (T0:=a0.tmps) (T:=a.tmps) (by rw [e];exact h.nd) (by rw [e];exact h.fr) hp
 have h2:=h.df
 cases a
 simp only at h1 h2
 rw [h1,h2]
theorem fc {α:Type} {p:α→Prop} {x:α} {l:List α}(h:p x) (t:∀y∈l,p y):∀y∈x::l,p y:=List.forall_mem_cons.2 ⟨h,t⟩
theorem fn {α:Type} {p:α→Prop}:∀y∈([]:List α),p y:=List.forall_mem_nil p
def ndB:List Nat→Bool
 | []=>true
 | x::l=> !l.contains x && ndB l
theorem ndB_nd:∀{l:List Nat},ndB l=true→l.Nodup
 | [],_=>List.nodup_nil
 | x::l,h=>by
   simp only [ndB,Bool.and_eq_true,Bool.not_eq_true',List.contains_eq_mem,decide_eq_false_iff_not] at h;exact List.nodup_cons.2 ⟨h.1,ndB_nd h.2⟩
theorem iv_step {P:Program} {ops:Array Oper} {Q:Exit→Act→World→Prop} {S:World→Prop} {z i:Nat} {I:Act→World→Prop} {a:Act} {V:World} {o:Oper}(ho:ops[i]? =some o) (h:∀K':Act→World→Prop,Shut (∀a w,S w→I a w→K' a w)→if Region.wanted o (yielded ops a.tmps)=true then Oper.wp P o a V K' Q else K' (a.put o.dst undef) V):wpOp P ops Q i (fun a' w'=>(i≠z→S w')∧I a' w') a V:=
 wpOp_step ho fun K' hK=>h K' fun a w hS hI=>hK a w ⟨fun _=>hS,hI⟩
def reach (md:Region.Mode) (ops:Array Oper) (L0:Array Bool):Nat→Nat→Nat→Bool
 | 0,_,_=>false
 | d+1,j,k=>waits md ops j k || (List.range ops.size).any (fun m=> !L0.getD m false && waits md ops j m && reach md ops L0 d m k)
theorem reach_listed {md:Region.Mode} {ops:Array Oper} {L0 L:Array Bool}(cl:∀i j,L.getD i false=true→L0.getD i false=false→waits md ops i j=true→L.getD j false=true):∀{d j k:Nat},reach md ops L0 d j k=true→(∀m,waits md ops j m=true→L.getD m false=true)→L.getD k false=true
 | d+1,j,k,h,hj=>by
   simp only [reach,Bool.or_eq_true,List.any_eq_true,Bool.and_eq_true,Bool.not_eq_true'] at h;rcases h with h | ⟨m,_,⟨h0,h1⟩,h2⟩
   · exact hj k h
   · exact reach_listed cl h2 fun m2 h3=>cl m m2 (hj m h1) h0 h3
theorem reach_lt {md:Region.Mode} {ops:Array Oper} {L0:Array Bool}(hw:∀i j,i<ops.size→waits md ops i j=true→j<i):∀{d j k:Nat},j<ops.size→reach md ops L0 d j k=true→k<j
 | d+1,j,k,hj,h=>by
   simp only [reach,Bool.or_eq_true,List.any_eq_true,Bool.and_eq_true] at h;rcases h with h | ⟨m,_,⟨_,h1⟩,h2⟩
   · exact hw j k hj h
   · have h3:=hw j m hj h1
     have:=reach_lt hw (by omega) h2;omega
def ivOk (md:Region.Mode) (ops:Array Oper) (is ds:List Nat) (n:Nat) (st:List Nat) (L0 F:Array Bool):Bool:=
 ndB is && ndB ds && ds.all (fun d=>decide (d<n)) && is.all (fun i=> !L0.getD i true) &&
 L0.size==ops.size && F.size==ops.size && ops.toList.zipIdx.all (fun p=>p.1.after.all fun e=> !Region.binds md e || e.on<p.2) &&
 (List.range ops.size).all (fun j=>(if st.contains j then !F.getD j true && !L0.getD j true && (List.range ops.size).all (fun k=>st.contains k || L0.getD k false || reach md ops L0 4 j k) else F.getD j false && (L0.getD j false || is.contains j)))
theorem wpAnyG_iv {P:Program} {ops:Array Oper} {Q:Exit→Act→World→Prop} {md:Region.Mode} {S:World→Prop} {z:Nat} {w0 w1:World} {a0:Act} {L0:Array Bool} {fuel:Nat}(sp:List Sp) (is ds st:List Nat) (F:Array Bool) (n:Nat) (ei:sp.map Sp.i=is) (ed:sp.map Sp.d=ds)
 (hc:ivOk md ops is ds a0.tmps.size st L0 F=true) (hf:L0.toList.countP (fun b=> !b)=fuel) (hn:F.toList.countP (fun b=> !b)=n) (hb:Below w0.heap.size w0 w1) (hk:∀s∈sp,s.keeps)
 (hs:∀i∈is,∀(L:Array Bool) (a:Act) (V:World) (B:Nat→Option Nat),L.getD i true=false→(∀j,waits md ops i j=true→L.getD j false=true)→In w0 a0 sp B L a V→wpOp P ops Q i (fun a' w'=>(i≠z→S w')∧∃B,In w0 a0 sp B (L.setIfInBounds i true) a' w') a V)
 (he:∀(a:Act) (V:World) (B:Nat→Option Nat),In w0 a0 sp B F a V→wpAnyG P md ops Q S z n F a V):wpAnyG P md ops Q S z fuel L0 a0 w1:=by
 subst ei ed
 simp only [ivOk,Bool.and_eq_true,beq_iff_eq,List.all_eq_true] at hc
 obtain ⟨⟨⟨⟨⟨⟨⟨hd2,hd1⟩,hd3⟩,hd4⟩,hc1⟩,hc2⟩,hc3⟩,hc4⟩:=hc
 have hst:∀j,j<ops.size→(j∈st→L0.getD j true=false∧F.getD j true=false∧∀k,k<ops.size→k∉st→L0.getD k false=false→reach md ops L0 4 j k=true)∧(j∉st→F.getD j false=true∧(L0.getD j false=true∨j∈sp.map Sp.i)):=fun j hj=>by
  have h:=hc4 j (List.mem_range.2 hj);by_cases e:j∈st
  · rw [if_pos (by simpa using e)] at h
    simp only [Bool.and_eq_true,Bool.not_eq_true',List.all_eq_true] at h;refine ⟨fun _=>⟨h.1.2,h.1.1,fun k hk hn h0=> ?_⟩,fun h=>absurd e h⟩;have:=h.2 k (List.mem_range.2 hk);simpa [hn,h0] using this
  · rw [if_neg (by simpa using e)] at h
    simp only [Bool.and_eq_true,Bool.or_eq_true,List.contains_iff_mem] at h;exact ⟨fun h=>absurd h e,fun _=>h⟩
 have wt:∀{i j:Nat} {o:Oper},ops[i]? =some o→waits md ops i j=true→∃e∈o.after,Region.binds md e=true∧e.on=j:=fun {i j o} ho h=>by
  unfold waits at h;rw [ho] at h;simp only [Array.any_eq_true',Bool.and_eq_true,beq_iff_eq] at h;exact h
 have bk:∀{j:Nat} {o:Oper},ops[j]? =some o→∀e∈o.after,Region.binds md e=true→e.on<j:=fun {j o} ho e he hbd=>by
  obtain ⟨hl,ho2⟩:=Array.getElem?_eq_some_iff.1 ho;have h:=hc3 (o,j) (by rw [List.mem_zipIdx_iff_getElem?];simpa using ho);rw [Array.all_eq_true'] at h;simpa [hbd] using h e he
 have all:∀L:Array Bool,L.size=ops.size→(∀j,L0.getD j false=true→L.getD j false=true)→(∀i,i∉Region.ready md ops L)→∀j,j<ops.size→j∉st→L.getD j false=true:=by
  intro L hsz hl0 hno j;induction j using Nat.strongRecOn with
  | _ j ih=>
    intro hj hjs;cases hq:L.getD j false with
    | true=>rfl
    | false=>
      refine (hno j (mem_ready.2 ⟨?_,ops[j],Array.getElem?_eq_getElem hj,fun e he hbd=> ?_⟩)).elim
      · rw [Array.getD_eq_getD_getElem?,Array.getElem?_eq_getElem (by omega)] at hq ⊢
        exact hq
      · have h1:=bk (Array.getElem?_eq_getElem hj) e he hbd
        refine ih e.on h1 (by omega) fun hes=> ?_;have h3:=reach_lt (fun i j hi hw=>by
         obtain ⟨e2,he2,hb2,rfl⟩:=wt (Array.getElem?_eq_getElem hi) hw;exact bk (Array.getElem?_eq_getElem hi) e2 he2 hb2) (by omega) (((hst e.on (by omega)).1 hes).2.2 j hj hjs (by cases h0:L0.getD j false with | false=>rfl | true=>rw [hl0 j h0] at hq;cases hq))
        omega
 have main:∀fuel (L:Array Bool) (a:Act) (w:World) (B:Nat→Option Nat),L.toList.countP (fun b=> !b)=fuel→L.size=ops.size→(∀j∈st,j<ops.size→L.getD j true=false)→(∀j,L0.getD j false=true→L.getD j false=true)→(∀i j,L.getD i false=true→L0.getD i false=false→waits md ops i j=true→L.getD j false=true)→In w0 a0 sp B L a w→wpAnyG P md ops Q S z fuel L a w:=by
  intro fuel;induction fuel with
  | zero=>
    intro L a w B hc hsz hu hl hcl hI;have hF:∀j,j<ops.size→L.getD j false=true:=fun j hj=>by
     cases hq:L.getD j false with
     | true=>rfl
     | false=>
       rw [Array.getD_eq_getD_getElem?,Array.getElem?_eq_getElem (by omega)] at hq;have h3:0<L.toList.countP (fun b=> !b):=List.countP_pos_iff.2 ⟨L[j],by simp,by rw [show L[j]=false from hq];rfl⟩;omega
    have e:L=F:=Array.ext (by omega) fun j h1 h2=>by
     have h3:=hF j (by omega);rw [Array.getD_eq_getD_getElem?,Array.getElem?_eq_getElem h1] at h3;by_cases hs:j∈st
     · exact (ld_no (hF j (by omega)) (hu j hs (by omega))).elim
     · have h4:=((hst j (by omega)).2 hs).1
       rw [Array.getD_eq_getD_getElem?,Array.getElem?_eq_getElem h2] at h4;exact (show L[j]=true from h3).trans (show F[j]=true from h4).symm
    subst e;rw [← hc,hn];exact he a w B hI
  | succ fuel ih=>
    intro L a w B hc hsz hu hl hcl hI;by_cases hall:∀j,j<ops.size→j∉st→L.getD j false=true
    · have e:L=F:=Array.ext (by omega) fun j h1 h2=>by
       by_cases hs:j∈st
       · have h3:=hu j hs (by omega)
         have h4:=((hst j (by omega)).1 hs).2.1;rw [Array.getD_eq_getD_getElem?,Array.getElem?_eq_getElem h1] at h3;rw [Array.getD_eq_getD_getElem?,Array.getElem?_eq_getElem h2] at h4;exact (show L[j]=false from h3).trans (show F[j]=false from h4).symm
       · have h3:=hall j (by omega) hs
         have h4:=((hst j (by omega)).2 hs).1;rw [Array.getD_eq_getD_getElem?,Array.getElem?_eq_getElem h1] at h3;rw [Array.getD_eq_getD_getElem?,Array.getElem?_eq_getElem h2] at h4;exact (show L[j]=true from h3).trans (show F[j]=true from h4).symm
      subst e;rw [← hc,hn];exact he a w B hI
    · refine ⟨fun hr=>(hall (all L hsz hl (fun i hi=>by rw [hr] at hi;cases hi))).elim,fun i hi=> ?_⟩
      obtain ⟨h1,oi,hoi,hd⟩:=mem_ready.1 hi;have hiz:i<ops.size:=(Array.getElem?_eq_some_iff.1 hoi).1;have hdw:∀j,waits md ops i j=true→L.getD j false=true:=fun j hw=>by
       obtain ⟨e,he,hb,rfl⟩:=wt hoi hw;exact hd e he hb
      have his:i∉st:=fun hs=>hall fun j hj hjs=>by
       cases h0:L0.getD j false with
       | true=>exact hl j h0
       | false=>exact reach_listed hcl (((hst i hiz).1 hs).2.2 j hj hjs h0) hdw
      have him:i∈sp.map Sp.i:=(((hst i hiz).2 his).2).resolve_left fun h=>ld_no (hl i h) h1;refine wpOp_mono (fun a' w' h=>⟨h.1,?_⟩) (hs i him L a w B h1 hdw hI);obtain ⟨B',hI'⟩:=h.2;refine ih _ a' w' B' ?_ (by rw [Array.size_setIfInBounds];exact hsz) (fun j hj hjl=> ?_) (fun j hj=> ?_) (fun k j hk h0 hw=> ?_) hI'
      · have hlt:=ld_lt h1
        have h2:L[i]=false:=by
         rw [Array.getD_eq_getD_getElem?,Array.getElem?_eq_getElem hlt] at h1;exact h1
        have h5:=countP_set L.toList i (by simpa using hlt) (by simpa using h2);(have h6:(L.setIfInBounds i true).toList=L.toList.set i true:=by simp);rw [h6];omega
      · rw [ld_setT (fun e=>his (by rw [← e];exact hj))];exact hu j hj hjl
      · by_cases e:j=i
        · rw [e];exact ld_self (ld_lt h1)
        · rw [ld_set e];exact hl j hj
      · have hj:L.getD j false=true:=by
         by_cases e:k=i
         · rw [e] at hw;exact hdw j hw
         · rw [ld_set e] at hk;exact hcl k j hk h0 hw
        by_cases e:j=i
        · rw [e];exact ld_self (ld_lt h1)
        · rw [ld_set e];exact hj
 refine main fuel L0 a0 w1 (fun _=>none) hf hc1 (fun j hj hjl=>((hst j hjl).1 hj).1) (fun _ h=>h) (fun i j h h0 _=>by rw [h0] at h;cases h)
  ⟨hk,ndB_nd hd2,ndB_nd hd1,fun s hs=>by simpa using hd3 s.d (List.mem_map.2 ⟨s,hs,rfl⟩),hb,fun _ _=>rfl,fun _ _ h=>(by cases h),fun _ _ _ h=>(by cases h),⟨rfl,fun _ _=>rfl⟩,rfl,fun s hs h=> ?_⟩
 have h2:=hd4 s.i (List.mem_map.2 ⟨s,hs,rfl⟩)
 exact (ld_no h (by simpa using h2)).elim
end Cl
