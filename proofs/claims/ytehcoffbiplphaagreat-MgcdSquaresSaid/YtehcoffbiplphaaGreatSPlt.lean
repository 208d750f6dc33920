/- Terms told of a tree: collected in a row of the call's own, the exponents in another. No program in sight.
   Contract: the terms of a tree. -/
import Derived.Test.YtehcoffbiplphaaGreatSPlC
import Derived.Test.YtehcoffbiplphaaGreatSTws
set_option linter.unusedVariables false
set_option linter.unusedSimpArgs false
set_option maxHeartbeats 16000000
set_option maxRecDepth 100000
namespace Cl
open Go Go.RowKit CRing Go.Proofs.YtehcoffbiplphaaGreat
def EntIn (Q:Nat→Prop) (x:EntT):Prop:=(0<x.2.1.2.length→∀y,x.1.1.1=some y→Q y.block)∧(0<x.2.2.length→∀y,x.1.2.1=some y→Q y.block)
theorem EntIn.mono {Q R:Nat→Prop} {x:EntT}(h:EntIn Q x) (hq:∀b,Q b→R b):EntIn R x:=⟨fun h0 y hy=>hq _ (h.1 h0 y hy),fun h0 y hy=>hq _ (h.2 h0 y hy)⟩
theorem EntIn.and {Q R:Nat→Prop} {x:EntT}(h:EntIn Q x) (k:EntIn R x):EntIn (fun b=>Q b∧R b) x:=⟨fun h0 y hy=>⟨h.1 h0 y hy,k.1 h0 y hy⟩,fun h0 y hy=>⟨h.2 h0 y hy,k.2 h0 y hy⟩⟩
theorem EntOk.here {w:World} {x:EntT}(h:EntOk w x):EntIn (fun b=>b<w.heap.size) x:=⟨fun h0 y hy=>limbs_blk h.2.2.2.2.1 h0 hy,fun h0 y hy=>ints_blk h.2.2.2.2.2 h0 hy⟩
structure TmO (T:TypeId) (w0 wr:World) (ge n C:Nat) (v:Value) (E:List EntT) (M:Mv):Prop where
 own:wr.ownsRow w0.heap.size T 3 v E.length (tcells E)
 ok:∀x∈E,EntOk wr x
 far:∀x∈E,EntIn (fun b=>v.ownBlock≠some b∧b≠ge) x
 off:v.ownBlock≠some ge
 len:∀x∈E,x.2.2.length=n
 co:∀x∈E,x.2.1.2.length≤C
 eq:mvT (E.map (·.2))=M
 bel:Below w0.heap.size w0 wr
section
variable {T : TypeId} {w0 wr wt : World} {ge n C : Nat} {v : Value} {E : List EntT} {M : Mv}
theorem TmO.start (T:TypeId) (ge n C:Nat) (h:Below w0.heap.size w0 wr):TmO T w0 wr ge n C (.slice none 0 0) [] []:=
 ⟨World.ownsRow_nil _ _ _ _,fun x hx=>absurd hx List.not_mem_nil,fun x hx=>absurd hx List.not_mem_nil,(fun e=>by cases e),fun x hx=>absurd hx List.not_mem_nil,fun x hx=>absurd hx List.not_mem_nil,rfl,h⟩
theorem TmO.bel2 (h:TmO T w0 wr ge n C v E M) (hb:Below wr.heap.size wr wt):TmO T w0 wt ge n C v E M:=
 ⟨own_belT h.own hb,fun x hx=>(h.ok x hx).bel hb,h.far,h.off,h.len,h.co,h.eq,h.bel.tm hb⟩
theorem TmO.row (h:TmO T w0 wr ge n C v E M) (hge:w0.heap.size≤ge) (ho:Only (fun b=>b=ge) wr wt):TmO T w0 wt ge n C v E M:=
 ⟨own_onlyT h.own ho fun k hk hq=>h.off (by rw [hk,hq]),fun x hx=>entOk_only (h.ok x hx) ho (fun h0 y hy=>((h.far x hx).1 h0 y hy).2) (fun h0 y hy=>((h.far x hx).2 h0 y hy).2),h.far,h.off,h.len,h.co,h.eq,h.bel.trans (ho.below h.bel.size fun b hb=>by omega)⟩
theorem TmO.next {w2 w3:World} {g cap H:Nat} {x:EntT} {o:Obj}(h:TmO T w0 wr ge n C v E M) (hg:ge<wr.heap.size) (hb2:Below wr.heap.size wr w2) (hx:EntOk w2 x) (hxl:x.2.2.length=n) (hxC:x.2.1.2.length≤C) (hf:EntIn (fun b=>v.ownBlock≠some b∧b≠ge) x)
 (hown:w3.ownsRow w0.heap.size T 3 (.slice (some ⟨g,0,none⟩) (E.length+1) cap) (E.length+1) (tcells E++tcell x)) (hgr:(w2.alloc o).grownBy w3 v.ownBlock) (hat:v.ownBlock=some g∨g=H) (hH:H=w2.heap.size+1):
 TmO T w0 w3 ge n C (.slice (some ⟨g,0,none⟩) (E.length+1) cap) (E++[x]) (M++[valT x.2]):=by
 subst hH
 have hvb:∀k,v.ownBlock=some k→w0.heap.size≤k∧k<wr.heap.size:=fun k hk=>h.own.lt k hk
 have hs2:=hb2.size
 have b3:Below w2.heap.size w2 (w2.alloc o):=bRr.alloc lRr _
 have o3:Only (fun k=>v.ownBlock=some k) (w2.alloc o) w3:=(Only.of_grown hgr).mono (fun i hi=>by first | exact hi | exact hi.symm)
 have hfar:∀z∈E++[x],EntIn (fun b=>v.ownBlock≠some b∧b≠ge) z:=fun z hz=>by
  rcases List.mem_append.1 hz with hz | hz
  · exact h.far z hz
  · rw [List.mem_singleton.1 hz];exact hf
 have hall:∀z∈E++[x],EntOk w2 z:=fun z hz=>by
  rcases List.mem_append.1 hz with hz | hz
  · exact (h.ok z hz).bel hb2
  · rw [List.mem_singleton.1 hz];exact hx
 refine ⟨by rw [List.length_append,tcells_snoc];exact hown,fun z hz=>entOk_only ((hall z hz).bel b3) o3 (fun h0 y hy e=>((hfar z hz).1 h0 y hy).1 e) (fun h0 y hy e=>((hfar z hz).2 h0 y hy).1 e),fun z hz=> ?_,fun e=> ?_,fun z hz=> ?_,fun z hz=> ?_,?_,?_⟩
 · refine ((hfar z hz).and (hall z hz).here).mono fun b hb=>⟨fun e=> ?_,hb.1.2⟩
   have e2:g=b:=by injection e
   rcases hat with h1 | h1
   · exact hb.1.1 (by rw [h1,e2])
   · have:=hb.2;omega
 · have e2:g=ge:=by injection e
   rcases hat with h1 | h1
   · exact h.off (by rw [h1,e2])
   · omega
 · rcases List.mem_append.1 hz with hz | hz
   · exact h.len z hz
   · rw [List.mem_singleton.1 hz];exact hxl
 · rcases List.mem_append.1 hz with hz | hz
   · exact h.co z hz
   · rw [List.mem_singleton.1 hz];exact hxC
 · rw [List.map_append,mvT_append,h.eq]
   rfl
 · have hb10:Below w0.heap.size w0 w2:=h.bel.tm hb2
   exact (hb10.alloc hb10.size o).grown hgr (by have:=hb10.size;simp;omega) (fun k hk=>(hvb k hk).1)
end
structure ExR (T:TypeId) (w0 w:World) (ge n:Nat) (es:List Int):Prop where
 own:w.ownsRow w0.heap.size T 1 (.slice (some ⟨ge,0,none⟩) n n) n (ints es)
 ok:∀i,I64 (nth es i)
section
variable {T : TypeId} {w0 w w' : World} {ge n : Nat} {es : List Int}
theorem ExR.lo (h:ExR T w0 w ge n es):w0.heap.size≤ge∧ge<w.heap.size:=h.own.lt ge rfl
theorem ExR.len (h:ExR T w0 w ge n es):es.length=n:=by
 have:=h.own.1
 rw [ints_length,Nat.mul_one] at this
 exact this
theorem ExR.only {S:Nat→Prop}(h:ExR T w0 w ge n es) (ho:Only S w w') (hS:¬S ge):ExR T w0 w' ge n es:=
 ⟨own_onlyT h.own ho fun k hk hq=>by
   have e:ge=k:=by injection hk
   exact hS (by rw [e];exact hq),h.ok⟩
theorem ExR.bel (h:ExR T w0 w ge n es) (hb:Below w.heap.size w w'):ExR T w0 w' ge n es:=h.only (Only.of_below hb) (by have:=h.lo.2;omega)
theorem ExR.put (h:ExR T w0 w ge n es) {i:Nat}(k:Nat) (hk:k≤1000000000000) (hi:i<n):ExR T w0 (w.setCell ⟨ge,i,none⟩ (.int .i64 (k:Int))) ge n (es.set i (k:Int)):=by
 refine ⟨by rw [← ints_set];exact own_set h.own i _,fun j=> ?_⟩
 rw [nth_set (by rw [h.len];exact hi)]
 split
 · constructor<;>omega
 · exact h.ok j
theorem ExR.ints (h:ExR T w0 w ge n es):Ints w (some ⟨ge,0,none⟩) n es:=Ints.of_own h.own h.ok
end
end Cl
namespace Cl
open CRing
theorem flat_take_le {α:Type} {F:Nat→List α}:∀{q l:Nat},q≤l→((List.range q).flatMap F).length≤((List.range l).flatMap F).length
 | q,0,h=>by
   obtain rfl:q=0:=by omega
   exact lRr
 | q,l+1,h=>by
   by_cases e:q=l+1
   · rw [e];exact lRr
   · rw [List.range_succ (n:=l),List.flatMap_append,List.length_append]
     exact Nat.le_trans (flat_take_le (q:=q) (l:=l) (by omega)) (Nat.le_add_right _ _)
theorem flat_next {α:Type}(F:Nat→List α) (q:Nat):(List.range (q+1)).flatMap F=(List.range q).flatMap F++F q:=by
 rw [List.range_succ,List.flatMap_append]
 simp
theorem take_set_next {es:List Int} {i:Nat}(h:i<es.length) (k:Int):(es.set i k).take (i+1)=es.take i++[k]:=by
 rw [List.take_succ_eq_append_getElem (by rw [List.length_set];exact h),List.getElem_set_self]
 congr 1
 rw [List.take_set_of_le lRr]
theorem own_capsP {w:Go.World} {base:Nat} {t:Go.TypeId} {sz:Nat} {A:Option Go.Addr} {n c:Nat} {xs:List Go.Value}(h:w.ownsRow base t sz (.slice A n c) n xs):n≤c∧c≤9223372036854775807:=by
 have hm:Go.maxLen≤9223372036854775807:=by unfold Go.maxLen;omega
 rcases h.2 with ⟨hv,h0⟩ | ⟨g,cap,cur,hv,_,_,h1,h2,_⟩
 · injection hv with _ e1 e2
   omega
 · injection hv with _ e1 e2
   omega
theorem take_less {es es':List Int} {i:Nat}(h:es'.take (i+1)=es.take (i+1)):es'.take i=es.take i:=by
 have h1:=congrArg (List.take i) h
 rw [List.take_take,List.take_take,Nat.min_eq_left (by omega)] at h1
 exact h1
end Cl
namespace Go.Proofs.YtehcoffbiplphaaGreat
open Go.RowKit Cl CRing
attribute [local go_sem ↓] Go.wp_at_zero Go.wp_at_succ
def GivesTm (w0:World) (ge n i C:Nat) (es:List Int) (M:Mv) (e:Ending) (w':World):Prop:=
 ∃v' E' es',e=.returned v'∧ExR 3 w0 w' ge n es'∧es'.take i=es.take i∧TmO 44 w0 w' ge n C v' E' M
def TermsN (m C:Nat):Prop:=∀(n i:Nat) (w0 w:World) (u:Value) (f:Pn m) (ge:Nat) (es:List Int) (v:Value) (E:List EntT) (M:Mv),n=i+m→n≤6→TreW (fun _=>True) m w0 u f→ExR 3 w0 w ge n es→TmO 44 w0 w ge n C v E M→Siz.nm f<2^(64*C)→Lens m f→M.length+(termsP m (es.take i) f).length≤1000000→
 Calls Tryz.prog 34 #[u,.int .i64 (n:Int),.int .i64 (i:Int),.slice (some ⟨ge,0,none⟩) n n,v] w (GivesTm w0 ge n i C es (M++termsP m (es.take i) f))
theorem int_infoP:(Tryz.prog.info? 3).map (fun i=>(i.zero,i.size,i.bytes))=some (some (.int .i64 0),1,8):=by kernel_rfl
theorem mtermsT0 (C:Nat) (hC:C≤1000000):TermsN 0 C:=by
 intro n i w0 w u f ge es v E M hni hn hf hes hT nf kf hcnt
 obtain ⟨s,A,k,c,ls,rfl,h1,h2,h3,h4,_⟩:=hf
 obtain ⟨i0,hi0,hu0,hu1,hu2⟩:=info_partsP int_infoP
 obtain ⟨l0,hl0,hx0,hx1,hx2⟩:=info_partsP term_infoP
 have hkl:k≤C:=by
  have h5:=h4.cap (K:=C) nf;have h6:=h3.len;omega
 obtain rfl:n=i:=by omega
 clear hni
 obtain ⟨Av,cv,hv⟩:=own_shapeP hT.own
 subst hv
 have hbw:=hT.bel
 have tk:es.take n=es:=List.take_of_length_le (Nat.le_of_eq hes.len)
 rw [tk] at hcnt ⊢
 have t0:=Trio.new w (.bool s) (.slice A k c) (.slice none 0 0)
 have hb:Below w.heap.size w (w.alloc (.cells #[.bool s,.slice A k c,.slice none 0 0] 51)):=bRr.alloc lRr _
 have k0:=t0.cell0
 have k1:=t0.cell1
 have HB:=hiD hb
 have Cs:=hiD (fun W (hW:Below w0.heap.size w0 W)=>zsign_any s A k c ls W (h3.bel hW) h1 h2 (by omega))
 have hz:Hid ((signN s (lmN ls k)==0)=true↔f=0):=by
  show _↔_;rw [beq_iff_eq];exact (signN_zero h4 h3.len).trans ⟨fun e=>e,fun e=>e⟩
 have H3:=hiD h3
 have H4:=hiD h4
 have Hes:=hiD (hes.bel hb)
 have HTw:=hiD hT
 have HT:=hiD (hT.bel2 hb)
 have Hge:=hiD (show ge<w.heap.size from hes.lo.2)
 have T0:=hiD t0
 have Hw:=hiD hbw
 have Hlen:Hid (E.length+1≤1000000∨f=0):=by
  by_cases e:f=0
  · exact .inr e
  · left
    have h9:=congrArg List.length hT.eq;rw [mvT_length,List.length_map] at h9;rw [termsP_zero,if_neg (show¬toZ f=0 from e)] at hcnt;simp at hcnt;omega
 have hsw:=hiD (show w0.heap.size≤w.heap.size from hbw.size)
 clear h3 h4 hes hT t0 hb hbw nf kf hcnt tk
 unfold treV
 go_enter Tryz.func34,Tryz.ntmps34
 go_wp2_with fail
 generalize hwt:w.alloc (.cells #[.bool s,.slice A k c,.slice none 0 0] 51)=wt at*
 clear hwt
 refine (Cs.out _ (Hw.out.tm HB.out)).mono ?_
 rintro e w1 ⟨rfl,hb1⟩
 have T1:=hiD (T0.out.bel hb1)
 have Hes1:=hiD (Hes.out.bel hb1)
 have HT1:=hiD (HT.out.bel2 hb1)
 have Hw1:=hiD (HT.out.bel2 hb1).bel
 have hs1:=hb1.size
 have hs0:=HB.out.size
 clear hb1 Cs k0 k1 Hes HT
 by_cases h0:f=0
 · have hz1:=hz.out.2 h0
   have F:Hid (GivesTm w0 ge n n C es (M++termsP 0 es f) (.returned (.slice Av E.length cv)) w1):=by
    refine ⟨_,E,es,rfl,Hes1.out,rfl,?_⟩;rw [termsP_zero,if_pos (show toZ f=0 from h0),List.append_nil];exact HT1.out
   clear Hes1 HT1 Hw1 hz;go_wp2_with fail
   go_ret;exact F.out
 · have hz1:(signN s (lmN ls k)==0)=false:=by
    cases hq:(signN s (lmN ls k)==0) with
    | false=>rfl
    | true=>exact absurd (hz.out.1 hq) h0
   have q0:E.length+1≤1000000:=Hlen.out.resolve_right h0;have hsw':=hsw.out;have c0:=T1.out.cell0;have c1:=T1.out.cell1;have hR:Hid (∀W,Below w1.heap.size w1 W→Reads W w1.heap.size 1 (some ⟨ge,0,none⟩) n (ints es)):=fun W hW=>Hes1.out.ints.reads.below hW;have hn6:n≤6:=hn;have keepS:Hid (∀W,Below w1.heap.size w1 W→(fun W=>W.cell? ⟨w.heap.size,0,none⟩=some (.bool s)∧W.cell? ⟨w.heap.size,1,none⟩=some (.slice A k c)) W):=fun W hW=>⟨((T1.out.bel hW)).cell0,((T1.out.bel hW)).cell1⟩;have HOW:Hid (∀W,Below w1.heap.size w1 W→W.ownsRow w0.heap.size 44 3 (.slice Av E.length cv) E.length (tcells E)):=fun W hW=>(HT1.out.bel2 hW).own;have F:Hid (∀w2 w8 Ae ce gg cap,Below w1.heap.size w1 w2→w2.ownsRow w1.heap.size 3 1 (.slice Ae n ce) n (ints es)→w8.ownsRow w0.heap.size 44 3 (.slice (some ⟨gg,0,none⟩) (E.length+1) cap) (E.length+1) (tcells E++[.bool s,.slice A k c,.slice Ae n ce])→(w2.alloc (.cells #[.bool s,.slice A k c,.slice Ae n ce] 44)).grownBy w8 (Value.slice Av E.length cv).ownBlock→((Value.slice Av E.length cv).ownBlock=some gg∨gg=w2.heap.size+1)→GivesTm w0 ge n n C es (M++termsP 0 es f) (.returned (.slice (some ⟨gg,0,none⟩) (E.length+1) cap)) w8):=fun w2 w8 Ae ce gg cap hb2 hown2 hown8 hgr hat=>by
    obtain rfl:=H3.out.len;have hcaps:=own_capsP hown2;have hse:es.length=n:=Hes1.out.len;(have hI2:Ints w2 Ae es.length es:=by rw [hse];exact Ints.of_own hown2 Hes1.out.ok);have hlo2:=Hw.out.size;have hx:EntOk w2 ((((A,c),(Ae,ce)),((s,ls),es)):EntT):=⟨h1,h2,by show es.length≤ce;rw [hse];exact hcaps.1,hcaps.2,(H3.out.bel Hw1.out).bel hb2,hI2⟩;have hin:EntIn (fun b=>(Value.slice Av E.length cv).ownBlock≠some b∧b≠ge) ((((A,c),(Ae,ce)),((s,ls),es)):EntT):=by
     have hgl:=Hes1.out.lo;have hvl:∀b,(Value.slice Av E.length cv).ownBlock=some b→w0.heap.size≤b∧b<w1.heap.size:=fun b hb=>HT1.out.own.lt b hb;refine ⟨fun q0 y hy=> ?_,fun q0 y hy=> ?_⟩
     · have h9:=limbs_blk H3.out q0 hy
       exact ⟨fun e=>by have:=hvl _ e;omega,fun e=>by omega⟩
     · have q0':0<n:=by rw [← hse];exact q0
       obtain ⟨g2,c2,hv2,g3,g4⟩:=hown2.form q0';injection hv2 with hv3
       have hy2:Ae=some y:=hy;rw [hy2] at hv3;injection hv3 with hv3
       (have e2:y.block=g2:=by rw [hv3]);exact ⟨fun e=>by have:=hvl _ e;omega,fun e=>by omega⟩
    have hown8':w8.ownsRow w0.heap.size 44 3 (.slice (some ⟨gg,0,none⟩) (E.length+1) cap) (E.length+1) (tcells E++tcell ((((A,c),(Ae,ce)),((s,ls),es)):EntT)):=by
     show w8.ownsRow _ _ _ _ _ (tcells E++[.bool s,.slice A ls.length c,.slice Ae es.length ce]);rw [hse];exact hown8
    have hnx:=HT1.out.next (x:=(((A,c),(Ae,ce)),((s,ls),es))) Hes1.out.lo.2 hb2 hx hse hkl hin hown8' hgr hat rfl;have hb8:=hb2.alloc hb2.size (.cells #[.bool s,.slice A ls.length c,.slice Ae n ce] 44);refine ⟨_,E++[(((A,c),(Ae,ce)),((s,ls),es))],es,rfl,?_,rfl,?_⟩
    · refine (Hes1.out.bel hb8).only ((Only.of_grown hgr).mono fun b hb=>hb) fun e=>HT1.out.off ?_
      first | exact e | exact e.symm
    · rw [termsP_zero,if_neg (show¬toZ f=0 from h0)]
      have e:valT ((s,ls),es)=(es,toZ f):=by
       show (es,intZ s ls)=_;rw [H4.out.eq]
      rw [← e];exact hnx
   clear c0 c1;go_wp2_with fail
   refine wp_regionG (S:=fun W=>W.cell? ⟨w.heap.size,0,none⟩=some (.bool s)∧W.cell? ⟨w.heap.size,1,none⟩=some (.slice A k c)) (z:=99) (by kernel_rfl) ?_;have hHeld:=keepS.out _ (Below.refl w1.heap.size w1).drew;try dsimp only at hHeld
   refine tk 99 0 (.slice Av E.length cv) rfl hHeld ?_;try simp only [fx,Act.put]
   refine tk 99 1 (.pointer (some ⟨w.heap.size,0,none⟩)) rfl hHeld ?_;try simp only [fx,Act.put]
   refine tk 99 2 (.agg #[.bool s,.slice A k c]) rfl hHeld ?_;try simp only [fx,Act.put]
   refine tk 99 4 (.slice (some ⟨ge,0,none⟩) n n) rfl hHeld ?_;try simp only [fx,Act.put]
   refine wpAnyG_ready (rs:=[3]) (by kernel_rfl) (by simp) ?_;refine AllReadyG.cons rfl (by decide) (fun KK hKK=> ?_) AllReadyG.nil;go_simp;refine hKK.out _ _ (keepS.out _ (bRr.alloc lRr (.cells #[] 3)).drew) (fun hHeld=> ?_);clear hKK KK;try dsimp only at hHeld
   try simp only [fx,Act.put]
   refine wpAnyG_ready (rs:=[5]) (by kernel_rfl) (by simp) ?_;refine AllReadyG.cons rfl (by decide) (fun KK hKK=> ?_) AllReadyG.nil;refine step_append_any _ (by rfl) _ _ 42 (by rfl) w1.heap.size 3 i0 (.int .i64 0) 1 8 Tryz.underlying42 hi0 hu0 hu1 hu2 rfl (by decide) (.slice (some ⟨w1.heap.size,0,none⟩) 0 0) 0 [] (by rfl) (own_empty w1 3 lRr) w1.heap.size (some ⟨ge,0,none⟩) n n (ints es) (by rfl) (hR.out _ (bRr.alloc lRr (.cells #[] 3)).drew) (ints_oneCell es) (by unfold maxLen;omega) (by omega) (by simp) ?_;intro v2 w2 hown2 hgrow2 hat2;rw [List.nil_append,Nat.zero_add] at hown2;obtain ⟨Ae,ce,hv2⟩:=own_shapeP hown2;subst hv2;have hb2:Below w1.heap.size w1 w2:=((Below.refl w1.heap.size w1).alloc lRr (.cells #[] 3)).drew.grown hgrow2 (by simp) (fun k hk=>(own_empty w1 3 lRr).lt k hk |>.1);have hs2:=hb2.size;refine hKK.out _ _ (keepS.out _ hb2) (fun hHeld=> ?_);clear hKK KK;try dsimp only at hHeld
   try simp only [fx,Act.put]
   refine tk 99 6 (.agg #[.bool s,.slice A k c,.slice Ae n ce]) rfl hHeld ?_;try simp only [fx,Act.put]
   refine wpAnyG_ready (rs:=[7]) (by kernel_rfl) (by simp) ?_;refine AllReadyG.cons rfl (by decide) (fun KK hKK=> ?_) AllReadyG.nil;go_simp;refine hKK.out _ _ (keepS.out _ (hb2.alloc hb2.size (.cells #[.bool s,.slice A k c,.slice Ae n ce] 44))) (fun hHeld=> ?_);clear hKK KK;try dsimp only at hHeld
   try simp only [fx,Act.put]
   refine wpAnyG_ready (rs:=[8]) (by kernel_rfl) (by simp) ?_;refine AllReadyG.cons rfl (by decide) (fun KK hKK=> ?_) AllReadyG.nil;refine step_append_lies _ (by rfl) _ _ _ (by rfl) w0.heap.size 44 l0 _ 3 56 Tryz.underlying22 hl0 hx0 hx1 hx2 rfl (by omega) (.slice Av E.length cv) E.length (tcells E) (by rfl) (HOW.out _ (hb2.alloc hb2.size (.cells #[.bool s,.slice A k c,.slice Ae n ce] 44))) ⟨w2.heap.size,0,none⟩ 1 1 [.bool s,.slice A k c,.slice Ae n ce] (by rfl) (by rfl) (World.news_of_block (cs:=#[.bool s,.slice A k c,.slice Ae n ce]) (t:=44) (fr:=(0,0)) (heap_alloc_new w2 _)) (by simp [Value.oneCell']) (by omega) (by unfold maxLen;omega) (by omega) (by simp;omega) (w2.heap.size+1) (by simp) ?_;intro gg cap w8 hown8 hgrow hat hlt8;have FF:=hiD (F.out w2 w8 Ae ce gg cap hb2 hown2 hown8 hgrow hat);have hK8:(fun W=>W.cell? ⟨w.heap.size,0,none⟩=some (.bool s)∧W.cell? ⟨w.heap.size,1,none⟩=some (.slice A k c)) w8:=by
    obtain ⟨k1,k2⟩:=keepS.out _ (hb2.alloc hb2.size (.cells #[.bool s,.slice A k c,.slice Ae n ce] 44));(have far:some w.heap.size≠(Value.slice Av E.length cv).ownBlock:=fun e=>by have:=(HTw.out.own.lt _ e.symm).2;omega);exact ⟨(hgrow.cell_far ⟨w.heap.size,0,none⟩ (by show w.heap.size<_;simp;omega) far).trans k1,(hgrow.cell_far ⟨w.heap.size,1,none⟩ (by show w.heap.size<_;simp;omega) far).trans k2⟩
   clear hown8 hgrow hat hlt8;refine hKK.out _ _ hK8 (fun hHeld=> ?_);clear hKK KK;try dsimp only at hHeld
   try simp only [fx,Act.put]
   refine wpAnyG_ready (rs:=[9]) (by kernel_rfl) (by simp) ?_;refine AllReadyG.cons rfl (by decide) (fun KK hKK=> ?_) AllReadyG.nil;go_simp;refine hKK.out _ _ hK8 (fun hHeld=> ?_);clear hKK KK;try dsimp only at hHeld
   try simp only [fx,Act.put]
   refine wpAnyG_done (by kernel_rfl) ?_ _;clear hK8 hHeld F HOW keepS hR hown2 hgrow2 hat2;go_wp2_with fail
   go_ret;exact FF.out
theorem mtermsTS (C:Nat) (m:Nat) (ih:TermsN m C):TermsN (m+1) C:=by
 intro n i w0 w u f ge es v E M hni hn hf hes hT nf kf hcnt
 obtain ⟨B,c,rfl,h1,h2,h3⟩:=hf.here
 have lf:=kf.1
 have Lf:=hiD kf.2
 have H3:=hiD h3
 have hne:((i:Int)==(n:Int))=false:=beq_eq_false_iff_ne.2 (by omega)
 have Hni:=hiD hni
 have Hes:=hiD hes
 have HT:=hiD hT
 have Hc:=hiD hcnt
 have hin:Hid (i<n):=by show _<_;omega
 have hi0:(0:Int)≤(i:Int):=by omega
 have hi1:(i:Int)<(n:Int):=by omega
 have ewi:IntKind.i64.wrap ((i:Int)+1)=(i:Int)+1:=IntWalk.i64_in _ (by omega)
 obtain ⟨Av,cv,hv⟩:=own_shapeP hT.own
 subst hv
 have t0:=Trio.new w (.bool false) (.slice none 0 0) (.slice B (kids f).len c)
 have hb:Below w.heap.size w (w.alloc (.cells #[.bool false,.slice none 0 0,.slice B (kids f).len c] 51)):=bRr.alloc lRr _
 have k0:=t0.cell2
 have HB:=hiD hb
 clear hf h3 hes hT hcnt kf hni t0 hb
 unfold treV
 go_enter Tryz.func34,Tryz.ntmps34
 go_wp2_with fail
 generalize hwt:w.alloc (.cells #[.bool false,.slice none 0 0,.slice B (kids f).len c] 51)=wt at*
 clear hwt k0
 go_loopw [4,33] (fun v kk wr=>∃(q:Nat) (E:List EntT) (es':List Int),q≤(kids f).len∧kk=.int .i64 (q:Int)∧Hid (ExR 3 w0 wr ge n es')∧Hid (es'.take i=es.take i)∧Hid (TmO 44 w0 wr ge n C v E (M++(List.range q).flatMap fun k:Nat=>termsP m (es.take i++[(k:Int)]) ((kids f).co k)))) (fun _ kk _=>(kids f).len - (intOf kk).toNat)
 case atStart=>exact ⟨0,E,es,Nat.zero_le _,rfl,Hes.out.bel HB.out,rfl,by
  have h:=HT.out.bel2 HB.out;rw [← List.append_nil M] at h;exact h⟩
 case round=>
  clear Hes HT;obtain ⟨q,E',es',hq,rfl,hes,htk,hT⟩:=hrel;obtain ⟨wq,rfl⟩:∃wq:World,wq=wr:=⟨_,rfl⟩;obtain ⟨Aw,cw,hv⟩:=own_shapeP hT.out.own;subst hv;by_cases hlt:q<(kids f).len
  · obtain ⟨b,o,hB,_,hl,hkid⟩:=H3.out (by omega)
    subst hB;obtain ⟨s1,A1,k1,c1,B1,m1,d1,e1,e2,e3,e4⟩:=hkid q hlt;(have hlt':(q:Int)<((kids f).len:Int):=by omega);(have hq0:(0:Int)≤(q:Int):=by omega);have hbw:=hT.out.bel;have g1:=(hbw.cell (p:=⟨b,o+q*3,none⟩) hl).trans e1;have g2:=(hbw.cell (p:=⟨b,o+q*3+1,none⟩) hl).trans e2;have g3:=(hbw.cell (p:=⟨b,o+q*3+2,none⟩) hl).trans e3;have hszw:=hbw.size;(have hlb:b<wq.heap.size:=by omega);have E4:Hid (TreW (fun _=>True) m w0 (.agg #[.bool s1,.slice A1 k1 c1,.slice B1 m1 d1]) ((kids f).co q)):=e4.mono fun _ _=>trivial;clear hkid e1 e2 e3 e4;have hge:=hes.out.lo;have tX:=Trio.new wq (.bool s1) (.slice A1 k1 c1) (.slice B1 m1 d1);have hba:Below wq.heap.size wq (wq.alloc (.cells #[.bool s1,.slice A1 k1 c1,.slice B1 m1 d1] 51)):=bRr.alloc lRr _;have hesA:=hes.out.bel hba;have hgl:=hesA.lo.2;have hfz:=hesA.own.frozenAt i;have hcl:=hesA.own.cellAt i (by have:=hin.out;omega);rw [ints_get (by rw [hesA.len];exact hin.out)] at hcl;have tY:=tX.far (p:=⟨ge,i,none⟩) (by show wq.heap.size≠ge;omega) (.int .i64 (q:Int));have y0:=tY.cell0;have y1:=tY.cell1;have y2:=tY.cell2;have yl:=tY.lt;have hbb:Below (wq.setCell ⟨ge,i,none⟩ (.int .i64 (q:Int))).heap.size (wq.setCell ⟨ge,i,none⟩ (.int .i64 (q:Int))) ((wq.setCell ⟨ge,i,none⟩ (.int .i64 (q:Int))).alloc (.cells #[.bool s1,.slice A1 k1 c1,.slice B1 m1 d1] 51)):=bRr.alloc lRr _;have hesB:=hiD ((hes.out.put q (by omega) hin.out).bel hbb);have htk2:Hid ((es'.set i (q:Int)).take (i+1)=es.take i++[(q:Int)]):=by
     show _=_;rw [take_set_next (by rw [hes.out.len];exact hin.out),htk.out]
    have oge:Only (fun b=>b=ge) wq (wq.setCell ⟨ge,i,none⟩ (.int .i64 (q:Int))):=(Only.refl (fun b=>b=ge) _).setCell (p:=⟨ge,i,none⟩) rfl _;have hTB:=hiD ((hT.out.row hge.1 oge).bel2 hbb);have hcount:Hid ((M++(List.range q).flatMap fun k:Nat=>termsP m (es.take i++[(k:Int)]) ((kids f).co k)).length+(termsP m ((es'.set i (q:Int)).take (i+1)) ((kids f).co q)).length≤1000000):=by
     show _≤_;have h9:=Hc.out;rw [htk2.out,List.length_append,Nat.add_assoc,← List.length_append,← flat_next (fun k:Nat=>termsP m (es.take i++[(k:Int)]) ((kids f).co k)) q];exact Nat.le_trans (Nat.add_le_add_left (flat_take_le (by omega)) _) h9
    have Ci:Hid (Calls Tryz.prog 34 #[.agg #[.bool s1,.slice A1 k1 c1,.slice B1 m1 d1],.int .i64 (n:Int),.int .i64 ((i:Int)+1),.slice (some ⟨ge,0,none⟩) n n,.slice Aw E'.length cw] ((wq.setCell ⟨ge,i,none⟩ (.int .i64 (q:Int))).alloc (.cells #[.bool s1,.slice A1 k1 c1,.slice B1 m1 d1] 51)) (GivesTm w0 ge n (i+1) C (es'.set i (q:Int)) (M++(List.range (q+1)).flatMap fun k:Nat=>termsP m (es.take i++[(k:Int)]) ((kids f).co k)))):=by
     have h:=ih n (i+1) w0 _ _ ((kids f).co q) ge (es'.set i (q:Int)) _ E' _ (by have:=Hni.out;omega) hn E4.out hesB.out hTB.out (Nat.lt_of_le_of_lt (nmP_C_leT f q) nf) (Lf.out q) hcount.out;rw [htk2.out,List.append_assoc,← flat_next (fun k:Nat=>termsP m (es.take i++[(k:Int)]) ((kids f).co k)) q,Int.natCast_add] at h;exact h
    clear tX hba hbb hesA oge hTB hcount hesB hT hbw E4 tY;(go_wp2_with fail);refine Ci.out.mono ?_;rintro e w7 ⟨v7,E7,es7,rfl,g7,g8,g9⟩;have G7:=hiD g7;have G8:Hid (es7.take i=es.take i):=by
     show _=_;rw [take_less g8,List.take_set_of_le lRr];exact htk.out
    have G9:=hiD g9;clear g7 g8 g9 htk htk2 hes Ci y0 y1 y2 hcl hfz;(go_wp2_with fail);go_roundw
    case rel=>exact ⟨q+1,E7,es7,by omega,by go_num,G7,G8,G9⟩
    case measure=>simp [intOf];omega
  · have hlt':¬(q:Int)<((kids f).len:Int):=by omega
    (have hqe:q=(kids f).len:=by omega);have F:Hid (GivesTm w0 ge n i C es (M++termsP (m+1) (es.take i) f) (.returned (.slice Aw E'.length cw)) wq):=by
     refine ⟨_,E',es',rfl,hes.out,htk.out,?_⟩;have h:=hT.out;rw [hqe] at h;exact h
    clear hes htk hT hqe;(go_wp2_with fail);go_ret;exact F.out
theorem mtermsT (C:Nat) (hC:C≤1000000):∀m,TermsN m C
 | 0=>mtermsT0 C hC
 | m+1=>mtermsTS C m (mtermsT C hC m)
end Go.Proofs.YtehcoffbiplphaaGreat
