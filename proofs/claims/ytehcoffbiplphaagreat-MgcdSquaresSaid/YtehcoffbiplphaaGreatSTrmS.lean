/- Terms in memory: a slice of coefficients beside exponents; what they tell.
   What a map by places holds: the sum of a list of terms.
   Places of n exponents and of six; what is collected out of a map, place by place. No program in sight but what a map reads as.
   What is gone through of a map by places, each place once. No program in sight but what a map reads as.
   The laws of a ring, of lists of terms, as the statement of layer 17 asks for them. No program in sight. -/
import Derived.Test.YtehcoffbiplphaaGreatSLims
import Derived.Test.YtehcoffbiplphaaGreatSPlains
import Derived.Maps.RangeWalk
import Derived.ChangeKeys
set_option linter.unusedVariables false
set_option linter.unusedSimpArgs false
namespace Cl
open Go Go.RowKit
abbrev TV:=(Bool×List Int)×Plc
def valT (t:TV):Trm:=(t.2,intZ t.1.1 t.1.2)
def mvT (L:List TV):Mv:=L.map valT
theorem mvT_append (L M:List TV):mvT (L++M)=mvT L++mvT M:=List.map_append
theorem mvT_length (L:List TV):(mvT L).length=L.length:=List.length_map _
structure PlainT (n:Nat) (L:List TV):Prop where
 mv:PlainM n (mvT L)
 co:∀t∈L,ZVal t.1.1 t.1.2 (intZ t.1.1 t.1.2)
theorem PlainT.nil (n:Nat):PlainT n []:=⟨PlainM.nil n,fun t h=>by cases h⟩
theorem mvT_inj:∀{L M:List TV},(∀t∈L,ZVal t.1.1 t.1.2 (intZ t.1.1 t.1.2))→(∀t∈M,ZVal t.1.1 t.1.2 (intZ t.1.1 t.1.2))→mvT L=mvT M→L=M
 | [],[],_,_,_=>rfl
 | s::L,t::M,h,k,e=>by
   injection e with e1 e2
   have h1:=h s List.mem_cons_self;have k1:=k t List.mem_cons_self;have e3:s.2=t.2:=congrArg Prod.fst e1;have e4:intZ s.1.1 s.1.2=intZ t.1.1 t.1.2:=congrArg Prod.snd e1;rw [← e4] at k1;obtain ⟨u1,u2⟩:=h1.unique k1;rw [show s=t from Prod.ext (Prod.ext u1 u2) e3,mvT_inj (fun x hx=>h x (List.mem_cons_of_mem _ hx)) (fun x hx=>k x (List.mem_cons_of_mem _ hx)) e2]
structure Trs (w:World) (A:Option Addr) (m:Nat) (L:List TV):Prop where
 len:L.length=m
 at_:0<m→∃b o,A=some ⟨b,o,none⟩∧b<w.heap.size∧∀i (h:i<L.length),∃Ai ci Ei ei,
  w.cell? ⟨b,o+3*i,none⟩=some (.bool (L[i]).1.1)∧w.cell? ⟨b,o+(3*i+1),none⟩=some (.slice Ai (L[i]).1.2.length ci)∧w.cell? ⟨b,o+(3*i+2),none⟩=some (.slice Ei (L[i]).2.length ei)∧
  (L[i]).1.2.length≤ci∧ci≤9223372036854775807∧(L[i]).2.length≤ei∧ei≤9223372036854775807∧Limbs w Ai (L[i]).1.2.length (L[i]).1.2∧Ints w Ei (L[i]).2.length (L[i]).2
section
variable {w w' : World} {A : Option Addr} {m : Nat} {L : List TV}
theorem Trs.bel (h:Trs w A m L) (hb:Below w.heap.size w w'):Trs w' A m L:=
 ⟨h.len,fun hm=>by
   obtain ⟨b,o,e,hlt,hc⟩:=h.at_ hm;refine ⟨b,o,e,Nat.lt_of_lt_of_le hlt hb.size,fun i hi=> ?_⟩;obtain ⟨Ai,ci,Ei,ei,h1,h2,h3,h4,h5,h8,h9,h6,h7⟩:=hc i hi;exact ⟨Ai,ci,Ei,ei,(hb.cell (p:=⟨b,o+3*i,none⟩) hlt).trans h1,(hb.cell (p:=⟨b,o+(3*i+1),none⟩) hlt).trans h2,(hb.cell (p:=⟨b,o+(3*i+2),none⟩) hlt).trans h3,h4,h5,h8,h9,h6.bel hb,h7.bel hb⟩⟩
theorem Trs.nil (w:World) (A:Option Addr):Trs w A 0 []:=⟨rfl,fun h=>absurd h (by omega)⟩
end
abbrev EntT:=((Option Addr×Nat)×(Option Addr×Nat))×TV
def tcell (x:EntT):List Value:=[.bool x.2.1.1,.slice x.1.1.1 x.2.1.2.length x.1.1.2,.slice x.1.2.1 x.2.2.length x.1.2.2]
def tcells (L:List EntT):List Value:=L.flatMap tcell
theorem tcells_cons (x:EntT) (L:List EntT):tcells (x::L)=tcell x++tcells L:=by simp [tcells]
theorem tcells_snoc (L:List EntT) (x:EntT):tcells (L++[x])=tcells L++tcell x:=by simp [tcells,List.flatMap_append]
theorem tcells_length (L:List EntT):(tcells L).length=L.length*3:=by
 induction L with
 | nil=>rfl
 | cons x L ih=>rw [tcells_cons,List.length_append,ih,List.length_cons];show 3+_=_;omega
theorem tcells_get:∀{L:List EntT} {i:Nat}(h:i<L.length),(tcells L)[3*i]? =some (.bool (L[i]).2.1.1)∧(tcells L)[3*i+1]? =some (.slice (L[i]).1.1.1 (L[i]).2.1.2.length (L[i]).1.1.2)∧(tcells L)[3*i+2]? =some (.slice (L[i]).1.2.1 (L[i]).2.2.length (L[i]).1.2.2)
 | x::L,0,_=>by rw [tcells_cons];exact ⟨rfl,rfl,rfl⟩
 | x::L,i+1,h=>by
   have ih:=tcells_get (L:=L) (i:=i) (Nat.lt_of_succ_lt_succ h);rw [tcells_cons];have hl:(tcell x).length=3:=rfl;rw [List.getElem?_append_right (by rw [hl];omega),List.getElem?_append_right (by rw [hl];omega),List.getElem?_append_right (by rw [hl];omega),hl,show 3*(i+1) - 3=3*i by omega,show 3*(i+1)+1 - 3=3*i+1 by omega,show 3*(i+1)+2 - 3=3*i+2 by omega];exact ih
theorem tcells_oneCell (L:List EntT):∀u∈tcells L,u.oneCell'=true:=by
 intro u hu
 obtain ⟨x,_,hx⟩:=List.mem_flatMap.1 hu
 simp only [tcell,List.mem_cons,List.not_mem_nil,or_false] at hx
 rcases hx with rfl | rfl | rfl<;>rfl
def EntOk (w:World) (x:EntT):Prop:=x.2.1.2.length≤x.1.1.2∧x.1.1.2≤9223372036854775807∧x.2.2.length≤x.1.2.2∧x.1.2.2≤9223372036854775807∧Limbs w x.1.1.1 x.2.1.2.length x.2.1.2∧Ints w x.1.2.1 x.2.2.length x.2.2
theorem EntOk.bel {w w':World} {x:EntT}(h:EntOk w x) (hb:Below w.heap.size w w'):EntOk w' x:=⟨h.1,h.2.1,h.2.2.1,h.2.2.2.1,h.2.2.2.2.1.bel hb,h.2.2.2.2.2.bel hb⟩
theorem trs_of_own {t:TypeId} {w:World} {base m:Nat} {v:Value} {E:List EntT}(h:w.ownsRow base t 3 v m (tcells E)) (hm:E.length=m) (hi:∀x∈E,EntOk w x):
 ∃B d,v=.slice B m d∧m≤d∧d≤maxLen∧Trs w B m (E.map (·.2)):=by
 rcases h.2 with ⟨hv,h0⟩ | ⟨g,cap,cur,hv,hg,hh,hc,hmx,hrest⟩
 · subst h0
   obtain rfl:=List.eq_nil_of_length_eq_zero hm;exact ⟨none,0,hv,lRr,Nat.zero_le _,Trs.nil _ _⟩
 · refine ⟨_,cap,hv,by omega,by omega,by rw [List.length_map,hm],fun h0=>⟨g,0,rfl,(Array.getElem?_eq_some_iff.1 hh).1,fun i hi2=> ?_⟩⟩
   have hi':i<E.length:=by simpa using hi2
   have e:(E.map (·.2))[i]=(E[i]).2:=by simp
   subst hv;obtain ⟨t0,t1,t2⟩:=tcells_get hi';have c0:=h.cells (g:=g) rfl (3*i) _ t0;have c1:=h.cells (g:=g) rfl (3*i+1) _ t1;have c2:=h.cells (g:=g) rfl (3*i+2) _ t2;rw [Go.WideShapes.add_plain] at c0 c1 c2;obtain ⟨k1,k2,k3,k4,k5,k6⟩:=hi _ (List.getElem_mem hi');rw [e];exact ⟨_,_,_,_,c0,c1,c2,k1,k2,k3,k4,k5,k6⟩
end Cl
namespace Cl
open Go Go.RowKit
def plcLit (p:Plc):Lit:=.string (keyBytes (p.map (Lit.int .i64)))
theorem keyBytes_cons (l:Lit) (ls:List Lit):keyBytes (l::ls)=l.keyBytes++keyBytes ls:=rfl
theorem int_keyBytes_inj {a b:Int}(ha:I64 a) (hb:I64 b) (h:(Lit.int .i64 a).keyBytes=(Lit.int .i64 b).keyBytes):a=b:=by
 have h1:bytesBE 8 (a % 2^64).toNat=bytesBE 8 (b % 2^64).toNat:=h
 have h2:=bytesBE_inj (by have:(256:Nat)^8=18446744073709551616:=by decide
                          omega) (by have:(256:Nat)^8=18446744073709551616:=by decide
                                     omega) h1
 obtain ⟨a1,a2⟩:=ha
 obtain ⟨b1,b2⟩:=hb
 omega
theorem keyBytes_inj:∀{p q:Plc},p.length=q.length→(∀x∈p,I64 x)→(∀x∈q,I64 x)→keyBytes (p.map (Lit.int .i64))=keyBytes (q.map (Lit.int .i64))→p=q
 | [],[],_,_,_,_=>rfl
 | x::p,y::q,hl,hp,hq,h=>by
   rw [List.map_cons,List.map_cons,keyBytes_cons,keyBytes_cons] at h;obtain ⟨h1,h2⟩:=List.append_inj h (by
    show (bytesBE 8 _).length=(bytesBE 8 _).length;rw [length_bytesBE,length_bytesBE])
   rw [int_keyBytes_inj (hp x List.mem_cons_self) (hq y List.mem_cons_self) h1,keyBytes_inj (by simpa using hl) (fun z hz=>hp z (List.mem_cons_of_mem _ hz)) (fun z hz=>hq z (List.mem_cons_of_mem _ hz)) h2]
structure GoodP (n:Nat) (p:Plc):Prop where
 len:p.length=6
 bd:∀x∈p,0≤x∧x≤4611686018427387904
 zero:∀i,n≤i→nth p i=0
theorem GoodP.i64 {n:Nat} {p:Plc}(h:GoodP n p):∀x∈p,I64 x:=fun x hx=>by have:=h.bd x hx;constructor<;>omega
theorem GoodP.inj {n:Nat} {p q:Plc}(h:GoodP n p) (k:GoodP n q) (e:plcLit p=plcLit q):p=q:=by
 unfold plcLit at e
 injection e with e
 exact keyBytes_inj (h.len.trans k.len.symm) h.i64 k.i64 e
def intEl (v:Value):Option (DataW Value×List MemPlace):=
 match v with
 | .agg cs=>
   match cs.toList with
   | [.bool _,.slice _ _ _]=>some (.held (.agg cs),[])
   | _=>none
 | _=>none
theorem intEl_mk (s:Bool) (A:Option Addr) (k c:Nat):intEl (.agg #[.bool s,.slice A k c])=some (.held (.agg #[.bool s,.slice A k c]),[]):=rfl
theorem intEl_inv {v:Value} {y:DataW Value×List MemPlace}(h:intEl v=some y):∃s A k c,v=.agg #[.bool s,.slice A k c]∧y=(.held v,[]):=by
 cases v<;>simp only [intEl] at h<;>try (cases h;done)
 rename_i cs
 obtain ⟨l⟩:=cs
 split at h
 · rename_i e
   injection h with h
   simp only at e;subst e;exact ⟨_,_,_,_,rfl,h.symm⟩
 · cases h
structure ZAt (w:World) (v:Value) (B:Nat) (z:Int):Prop where
 ex:∃s A k c ls,v=.agg #[.bool s,.slice A k c]∧k≤c∧c≤9223372036854775807∧k≤B∧Limbs w A k ls∧intZ s ls=z
theorem ZAt.bel {w w':World} {v:Value} {B:Nat} {z:Int}(h:ZAt w v B z) (hb:Below w.heap.size w w'):ZAt w' v B z:=by
 obtain ⟨s,A,k,c,ls,e,h1,h2,h3,h4,h5⟩:=h.ex
 exact ⟨s,A,k,c,ls,e,h1,h2,h3,h4.bel hb,h5⟩
theorem ZAt.mono {w:World} {v:Value} {B C:Nat} {z:Int}(h:ZAt w v B z) (hb:B≤C):ZAt w v C z:=by
 obtain ⟨s,A,k,c,ls,e,h1,h2,h3,h4,h5⟩:=h.ex
 exact ⟨s,A,k,c,ls,e,h1,h2,by omega,h4,h5⟩
structure SumD (w:World) (D:DataW Value) (n B:Nat) (L:Mv):Prop where
 key:∀kl,Maps.has D kl=true→∃p,kl=plcLit p∧GoodP n p∧∃t∈L,t.1=p
 at_:∀p,GoodP n p→Maps.has D (plcLit p)=true→∃v,(∀zd,D.atKey (plcLit p) zd=.held v)∧ZAt w v B (coM L p)
 none:∀p,GoodP n p→Maps.has D (plcLit p)=false→coM L p=0
 isMap:Maps.IsMap D
section
variable {w w' : World} {D : DataW Value} {n B C : Nat} {L M : Mv}
theorem SumD.bel (h:SumD w D n B L) (hb:Below w.heap.size w w'):SumD w' D n B L:=
 ⟨h.key,fun p hp hh=>by obtain ⟨v,h1,h2⟩:=h.at_ p hp hh;exact ⟨v,h1,h2.bel hb⟩,h.none,h.isMap⟩
theorem SumD.mono (h:SumD w D n B L) (hb:B≤C):SumD w D n C L:=
 ⟨h.key,fun p hp hh=>by obtain ⟨v,h1,h2⟩:=h.at_ p hp hh;exact ⟨v,h1,h2.mono hb⟩,h.none,h.isMap⟩
theorem SumD.start (w:World) (n B:Nat):SumD w (.map []) n B []:=
 ⟨fun kl hk=>by simp [Maps.has] at hk,fun p _ hk=>by simp [Maps.has] at hk,fun _ _ _=>rfl,Maps.isMap_empty⟩
theorem SumD.put (h:SumD w D n B L) {p:Plc}(hp:GoodP n p) {v:Value} {t:Int}(hv:ZAt w v B (coM L p+t)):SumD w (D.put (plcLit p) (.held v)) n B (L++[(p,t)]):=by
 have hk:WideAt.IsKeyLit (plcLit p):=trivial
 have hco:∀q,coM (L++[(p,t)]) q=coM L q+(if p=q then t else 0):=fun q=>by
  rw [coM_append,coM_cons,coM_nil];show _+((if p=q then t else 0)+0)=_;omega
 refine ⟨fun kl hkl=> ?_,fun q hq hh=> ?_,fun q hq hh=> ?_,h.isMap.put _ _⟩
 · by_cases e:kl=plcLit p
   · exact ⟨p,e,hp,(p,t),List.mem_append_right _ (List.mem_singleton.2 rfl),rfl⟩
   · rw [Maps.has_put_other e] at hkl
     obtain ⟨q,h1,h2,u,h3,h4⟩:=h.key kl hkl;exact ⟨q,h1,h2,u,List.mem_append_left _ h3,h4⟩
 · rw [hco]
   by_cases e:p=q
   · subst e
     rw [if_pos rfl];exact ⟨v,fun zd=>Maps.atKey_put_same h.isMap hk _ zd,hv⟩
   · have hne:plcLit q≠plcLit p:=fun e2=>e (hp.inj hq e2.symm)
     rw [Maps.has_put_other hne] at hh;obtain ⟨v',h1,h2⟩:=h.at_ q hq hh;rw [if_neg e,Int.add_zero];exact ⟨v',fun zd=>by rw [Maps.atKey_put_other hne];exact h1 zd,h2⟩
 · rw [hco]
   by_cases e:p=q
   · subst e
     rw [Maps.has_put_same h.isMap hk] at hh;cases hh
   · have hne:plcLit q≠plcLit p:=fun e2=>e (hp.inj hq e2.symm)
     rw [Maps.has_put_other hne] at hh;rw [if_neg e,h.none q hq hh];rfl
end
end Cl
namespace Cl
open Go Go.RowKit
def padP (n:Nat) (p:Plc):Plc:=p++List.replicate (6 - n) 0
theorem padP_length {n:Nat} {p:Plc}(hn:n≤6) (hp:p.length=n):(padP n p).length=6:=by
 unfold padP;rw [List.length_append,List.length_replicate];omega
theorem padP_take {n:Nat} {p:Plc}(hp:p.length=n):(padP n p).take n=p:=by
 unfold padP;rw [← hp,List.take_left'];rfl
theorem padP_inj {n:Nat} {p q:Plc}(hp:p.length=n) (hq:q.length=n) (h:padP n p=padP n q):p=q:=by
 rw [← padP_take hp,← padP_take hq,h]
theorem nth_replicate0 (n i:Nat):nth (List.replicate n 0) i=0:=by
 unfold nth;by_cases h:i<n<;>simp [List.getD,h]
theorem padP_good {n:Nat} {p:Plc}(hn:n≤6) (hp:p.length=n) (hb:∀x∈p,0≤x∧x≤4611686018427387904):GoodP n (padP n p):=by
 refine ⟨padP_length hn hp,fun x hx=> ?_,fun i hi=> ?_⟩
 · rcases List.mem_append.1 hx with hx | hx
   · exact hb x hx
   · rw [(List.mem_replicate.1 hx).2];omega
 · unfold padP
   rw [nth_append_ge (by omega),nth_replicate0]
theorem GoodP.pad {n:Nat} {p:Plc}(hn:n≤6) (h:GoodP n p):p=padP n (p.take n):=by
 refine list_ext ?_ fun i hi=> ?_
 · rw [padP_length hn (by rw [List.length_take,h.len];omega),h.len]
 · by_cases hin:i<n
   · unfold padP
     rw [nth_append_lt (by rw [List.length_take,h.len];omega)];unfold nth;simp [List.getD,hin]
   · unfold padP
     rw [nth_append_ge (by rw [List.length_take,h.len];omega),nth_replicate0,h.zero i (by omega)]
theorem GoodP.take_length {n:Nat} {p:Plc}(hn:n≤6) (h:GoodP n p):(p.take n).length=n:=by rw [List.length_take,h.len];omega
theorem addP_append:∀{a b c d:Plc},a.length=b.length→addP (a++c) (b++d)=addP a b++addP c d
 | [],[],c,d,_=>rfl
 | x::a,y::b,c,d,h=>by
   show (x+y)::addP (a++c) (b++d)=(x+y)::(addP a b++addP c d);rw [addP_append (by simpa using h)]
theorem addP_zeros (k:Nat):addP (List.replicate k 0) (List.replicate k 0)=List.replicate k 0:=by
 induction k with
 | zero=>rfl
 | succ k ih=>rw [List.replicate_succ];show (0+0)::addP _ _=0::_;rw [ih];rfl
theorem padP_add {n:Nat} {p q:Plc}(hp:p.length=n) (hq:q.length=n):addP (padP n p) (padP n q)=padP n (addP p q):=by
 unfold padP
 rw [addP_append (by omega),addP_zeros]
def liftM (n:Nat) (L:Mv):Mv:=L.map fun t=>(padP n t.1,t.2)
theorem liftM_append (n:Nat) (L M:Mv):liftM n (L++M)=liftM n L++liftM n M:=List.map_append
theorem coM_lift {n:Nat}:∀{L:Mv},LenM n L→∀{p:Plc},p.length=n→coM (liftM n L) (padP n p)=coM L p
 | [],_,_,_=>rfl
 | t::L,h,p,hp=>by
   have ih:=coM_lift (L:=L) (fun s hs=>h s (List.mem_cons_of_mem _ hs)) hp;show (if padP n t.1=padP n p then t.2 else 0)+coM (liftM n L) (padP n p)=(if t.1=p then t.2 else 0)+coM L p;rw [ih];congr 1
   by_cases e:t.1=p
   · rw [if_pos e,if_pos (by rw [e])]
   · rw [if_neg e,if_neg fun e2=>e (padP_inj (h t List.mem_cons_self) hp e2)]
structure Took (D:DataW Value) (n:Nat) (L:Mv) (left:Lit→Bool) (E:Mv):Prop where
 len:LenM n E
 ne:∀t∈E,t.2≠0
 nodup:(E.map (·.1)).Pairwise (· ≠ ·)
 from_:∀t∈E,GoodP n (padP n t.1)∧Maps.has D (plcLit (padP n t.1))=true∧left (plcLit (padP n t.1))=false∧t.2=coM L (padP n t.1)
 all:∀p,GoodP n p→Maps.has D (plcLit p)=true→left (plcLit p)=false→coM L p≠0→∃t∈E,padP n t.1=p
section
variable {D : DataW Value} {n : Nat} {L E : Mv} {left : Lit → Bool}
theorem Took.start (D:DataW Value) (n:Nat) (L:Mv):Took D n L (Maps.has D) []:=
 ⟨fun t h=>(by cases h),fun t h=>(by cases h),List.Pairwise.nil,fun t h=>(by cases h),fun p _ h1 h2=>by rw [h1] at h2;cases h2⟩
theorem Took.skip (h:Took D n L left E) {p:Plc}(hp:GoodP n p) (h0:coM L p=0):Took D n L (fun z=>left z && !z.sameKey (plcLit p)) E where
 len:=h.len
 ne:=h.ne
 nodup:=h.nodup
 from_ t ht:=by
  obtain ⟨h1,h2,h3,h4⟩:=h.from_ t ht;exact ⟨h1,h2,by rw [h3];rfl,h4⟩
 all q hq h1 h2 h3:=by
  by_cases e:left (plcLit q)=false
  · exact h.all q hq h1 e h3
  · have h4:(plcLit q).sameKey (plcLit p)=true:=by
     cases hl:left (plcLit q) with
     | false=>exact absurd hl e
     | true=>rw [hl] at h2;simpa using h2
    have h5:=hq.inj hp (WideAt.sameKey_eq h4);rw [h5] at h3;exact absurd h0 h3
theorem Took.take (hn:n≤6) (h:Took D n L left E) {p:Plc}(hp:GoodP n p) (hh:Maps.has D (plcLit p)=true) (hl:left (plcLit p)=true) (h0:coM L p≠0):
 Took D n L (fun z=>left z && !z.sameKey (plcLit p)) (E++[(p.take n,coM L p)]) where
 len:=h.len.append fun t ht=>by rw [List.mem_singleton.1 ht];exact hp.take_length hn
 ne t ht:=by
  rcases List.mem_append.1 ht with ht | ht
  · exact h.ne t ht
  · rw [List.mem_singleton.1 ht];exact h0
 nodup:=by
  rw [List.map_append,List.pairwise_append];refine ⟨h.nodup,List.pairwise_singleton _ _,fun q hq r hr e=> ?_⟩;obtain ⟨t,ht,rfl⟩:=List.mem_map.1 hq;have hr':r=p.take n:=by simpa using hr
  have h3:=(h.from_ t ht).2.2.1;rw [e,hr',← hp.pad hn,hl] at h3;cases h3
 from_ t ht:=by
  rcases List.mem_append.1 ht with ht | ht
  · obtain ⟨h1,h2,h3,h4⟩:=h.from_ t ht
    exact ⟨h1,h2,by rw [h3];rfl,h4⟩
  · rw [List.mem_singleton.1 ht]
    show GoodP n (padP n (p.take n))∧_∧_∧coM L p=coM L (padP n (p.take n));rw [← hp.pad hn];exact ⟨hp,hh,by rw [WideAt.sameKey_self (show WideAt.IsKeyLit (plcLit p) from trivial)];simp,rfl⟩
 all q hq h1 h2 h3:=by
  by_cases e:left (plcLit q)=false
  · obtain ⟨t,ht,e2⟩:=h.all q hq h1 e h3
    exact ⟨t,List.mem_append_left _ ht,e2⟩
  · have h4:(plcLit q).sameKey (plcLit p)=true:=by
     cases hl:left (plcLit q) with
     | false=>exact absurd hl e
     | true=>rw [hl] at h2;simpa using h2
    have h5:=hq.inj hp (WideAt.sameKey_eq h4);exact ⟨_,List.mem_append_right _ (List.mem_singleton.2 rfl),by show padP n (p.take n)=q;rw [← hp.pad hn,h5]⟩
theorem Took.done {w:World} {B:Nat} {M:Mv}(hn:n≤6) (h:Took D n L left E) (hl:∀k,left k=false) (hs:SumD w D n B L) (_hM:LenM n M) (hb:BdM 4611686018427387904 M) (hLM:∀p,p.length=n→coM L (padP n p)=coM M p):EqM n E M:=fun p hp=>by
 by_cases hx:∃t∈E,t.1=p
 · obtain ⟨t,ht,rfl⟩:=hx
   rw [coM_mem_of_nodup h.nodup t ht,(h.from_ t ht).2.2.2,hLM _ hp]
 · rw [coM_none fun t ht e=>hx ⟨t,ht,e⟩]
   by_cases h0:coM M p=0
   · exact h0.symm
   · exfalso
     obtain ⟨s,hs1,hs2⟩:=coM_ne h0;have hg:GoodP n (padP n p):=padP_good hn hp fun x hx=>hb s hs1 x (by rw [hs2];exact hx);rw [← hLM p hp] at h0;cases hh:Maps.has D (plcLit (padP n p)) with
     | false=>exact h0 (hs.none _ hg hh)
     | true=>
       obtain ⟨t,ht,e⟩:=h.all _ hg hh (hl _) h0;exact hx ⟨t,ht,padP_inj (h.len t ht) hp e⟩
end
end Cl
namespace Cl
open Go Go.RowKit
structure Seen (D:DataW Value) (n:Nat) (L:Mv) (left:Lit→Bool) (E:Mv):Prop where
 nodup:(E.map (·.1)).Pairwise (· ≠ ·)
 from_:∀t∈E,GoodP n t.1∧Maps.has D (plcLit t.1)=true∧left (plcLit t.1)=false∧t.2=coM L t.1
 all:∀p,GoodP n p→Maps.has D (plcLit p)=true→left (plcLit p)=false→∃t∈E,t.1=p
section
variable {D : DataW Value} {n : Nat} {L E : Mv} {left : Lit → Bool}
theorem Seen.start (D:DataW Value) (n:Nat) (L:Mv):Seen D n L (Maps.has D) []:=
 ⟨List.Pairwise.nil,fun t h=>(by cases h),fun p _ h1 h2=>by rw [h1] at h2;cases h2⟩
theorem Seen.step (h:Seen D n L left E) {p:Plc}(hp:GoodP n p) (hh:Maps.has D (plcLit p)=true) (hl:left (plcLit p)=true):
 Seen D n L (fun z=>left z && !z.sameKey (plcLit p)) (E++[(p,coM L p)]) where
 nodup:=by
  rw [List.map_append,List.pairwise_append];refine ⟨h.nodup,List.pairwise_singleton _ _,fun q hq r hr e=> ?_⟩;obtain ⟨t,ht,rfl⟩:=List.mem_map.1 hq;have hr':r=p:=by simpa using hr
  have h3:=(h.from_ t ht).2.2.1;rw [e,hr',hl] at h3;cases h3
 from_ t ht:=by
  rcases List.mem_append.1 ht with ht | ht
  · obtain ⟨h1,h2,h3,h4⟩:=h.from_ t ht
    exact ⟨h1,h2,by rw [h3];rfl,h4⟩
  · rw [List.mem_singleton.1 ht]
    exact ⟨hp,hh,by rw [WideAt.sameKey_self (show WideAt.IsKeyLit (plcLit p) from trivial)];simp,rfl⟩
 all q hq h1 h2:=by
  by_cases e:left (plcLit q)=false
  · obtain ⟨t,ht,e2⟩:=h.all q hq h1 e
    exact ⟨t,List.mem_append_left _ ht,e2⟩
  · have h4:(plcLit q).sameKey (plcLit p)=true:=by
     cases hl:left (plcLit q) with
     | false=>exact absurd hl e
     | true=>rw [hl] at h2;simpa using h2
    have h5:=hq.inj hp (WideAt.sameKey_eq h4);exact ⟨_,List.mem_append_right _ (List.mem_singleton.2 rfl),h5.symm⟩
theorem Seen.done {w:World} {B:Nat}(h:Seen D n L left E) (hl:∀k,left k=false) (hs:SumD w D n B L) (hg:∀t∈L,GoodP n t.1):EqM 6 E L:=fun p _=>by
 by_cases hx:∃t∈E,t.1=p
 · obtain ⟨t,ht,rfl⟩:=hx
   rw [coM_mem_of_nodup h.nodup t ht,(h.from_ t ht).2.2.2]
 · rw [coM_none fun t ht e=>hx ⟨t,ht,e⟩]
   by_cases h0:coM L p=0
   · exact h0.symm
   · exfalso
     obtain ⟨s,hs1,hs2⟩:=coM_ne h0;(have hgp:GoodP n p:=by rw [← hs2];exact hg s hs1);cases hh:Maps.has D (plcLit p) with
     | false=>exact h0 (hs.none _ hgp hh)
     | true=>
       obtain ⟨t,ht,e⟩:=h.all _ hgp hh (hl _);exact hx ⟨t,ht,e⟩
theorem Seen.len6 (h:Seen D n L left E):LenM 6 E:=fun t ht=>(h.from_ t ht).1.len
end
theorem lift_len6 {n:Nat}(hn:n≤6) {L:Mv}(h:LenM n L):LenM 6 (liftM n L):=fun t ht=>by
 obtain ⟨s,hs,rfl⟩:=List.mem_map.1 ht
 exact padP_length hn (h s hs)
theorem lift_good {n:Nat}(hn:n≤6) {L:Mv}(h:LenM n L) (hb:BdM 4611686018427387904 L):∀t∈liftM n L,GoodP n t.1:=fun t ht=>by
 obtain ⟨s,hs,rfl⟩:=List.mem_map.1 ht
 exact padP_good hn (h s hs) (hb s hs)
theorem lift_mul {n:Nat} {L M:Mv}(h:LenM n L) (k:LenM n M):liftM n (mulM L M)=mulM (liftM n L) (liftM n M):=by
 unfold liftM mulM
 rw [List.map_flatMap,List.flatMap_map]
 refine flat_congr fun a ha=> ?_
 rw [List.map_map,List.map_map]
 refine List.map_congr_left fun b hb=> ?_
 show (padP n (addP a.1 b.1),a.2*b.2)=(addP (padP n a.1) (padP n b.1),a.2*b.2)
 rw [padP_add (h a ha) (k b hb)]
theorem lift_eq {n:Nat}(hn:n≤6) {L M:Mv}(h:EqM 6 L (liftM n M)) (hM:LenM n M):∀p,p.length=n→coM L (padP n p)=coM M p:=fun p hp=>by
 rw [h _ (padP_length hn hp),coM_lift hM hp]
theorem mulM_snoc (E:Mv) (t:Trm) (M:Mv):mulM (E++[t]) M=mulM E M++M.map fun b=>(addP t.1 b.1,t.2*b.2):=by
 rw [mulM_append]
 show _++((M.map fun b=>(addP t.1 b.1,t.2*b.2))++[])=_
 rw [List.append_nil]
end Cl
namespace Cl
theorem ltP_of:∀{a b:Plc} {i:Nat},a.length=b.length→(∀j,j<i→nth a j=nth b j)→i<a.length→nth a i<nth b i→ltP a b
 | x::a,y::b,0,_,_,_,h=> .inl h
 | x::a,y::b,i+1,hl,he,hi,h=>by
   have e0:=he 0 (by omega);refine .inr ⟨e0,ltP_of (i:=i) (by simpa using hl) (fun j hj=>he (j+1) (by omega)) (by simpa using hi) h⟩
def cmpP (a b:Plc):Int:=if ltP a b then -1 else if ltP b a then 1 else 0
theorem cmpP_lt {a b:Plc}(h:ltP a b):cmpP a b= -1:=if_pos h
theorem cmpP_gt {a b:Plc}(h:ltP b a):cmpP a b=1:=by
 unfold cmpP
 rw [if_neg fun h2=>ltP.irrefl a (ltP.trans h2 h),if_pos h]
theorem cmpP_eq (a:Plc):cmpP a a=0:=by
 unfold cmpP
 rw [if_neg (ltP.irrefl a),if_neg (ltP.irrefl a)]
theorem cmpP_neg {a b:Plc}:cmpP a b<0↔ltP a b:=by
 unfold cmpP
 by_cases h:ltP a b
 · rw [if_pos h];exact ⟨fun _=>h,fun _=>by omega⟩
 · rw [if_neg h]
   refine ⟨fun h2=> ?_,fun h2=>absurd h2 h⟩;split at h2<;>omega
end Cl
