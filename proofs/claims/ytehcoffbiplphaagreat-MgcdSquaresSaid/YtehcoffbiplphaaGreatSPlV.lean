/- Contracts: the last of some terms; terms with their signs turned. -/
import Derived.Test.YtehcoffbiplphaaGreatSPlt
import Derived.Test.YtehcoffbiplphaaGreatSTrg
set_option linter.unusedVariables false
set_option linter.unusedSimpArgs false
set_option maxHeartbeats 16000000
set_option maxRecDepth 100000
namespace Cl
open Go Go.RowKit CRing Go.Proofs.YtehcoffbiplphaaGreat
theorem tcells_set:∀(L:List EntT) (i:Nat) (x:EntT) (h:i<L.length),x.1.2=(L[i]).1.2→x.2.2=(L[i]).2.2→tcells (L.set i x)=((tcells L).set (i*3) (.bool x.2.1.1)).set (i*3+1) (.slice x.1.1.1 x.2.1.2.length x.1.1.2)
 | [],i,x,h,_,_=>absurd h (Nat.not_lt_zero i)
 | y::L,0,x,_,h1,h2=>by
   have h1':x.1.2=y.1.2:=h1;have h2':x.2.2=y.2.2:=h2;show tcell x++tcells L=_;rw [tcells_cons];unfold tcell;rw [h1',h2'];rfl
 | y::L,i+1,x,h,h1,h2=>by
   have ih:=tcells_set L i x (Nat.lt_of_succ_lt_succ h) h1 h2;rw [List.set_cons_succ,tcells_cons,tcells_cons,ih,show (i+1)*3=i*3+1+1+1 by omega];rfl
def negs:Nat→Mv→Mv
 | 0,M=>M
 | _+1,[]=> []
 | k+1,t::M=>(t.1, -t.2)::negs k M
theorem negs_len:∀(k:Nat) (M:Mv),(negs k M).length=M.length
 | 0,_=>rfl
 | _+1,[]=>rfl
 | k+1,t::M=>by show (negs k M).length+1=_;rw [negs_len k M];rfl
theorem negs_get:∀(k:Nat) (M:Mv),(negs k M)[k]? =M[k]?
 | 0,_=>rfl
 | _+1,[]=>rfl
 | k+1,t::M=>by
   show ((t.1, -t.2)::negs k M)[k+1]? =_;rw [List.getElem?_cons_succ,List.getElem?_cons_succ,negs_get k M]
theorem negs_next:∀(k:Nat) (M:Mv) (t:Trm),M[k]? =some t→(negs k M).set k (t.1, -t.2)=negs (k+1) M
 | 0,[],t,h=>by cases h
 | 0,s::M,t,h=>by
   have e:s=t:=by injection h
   rw [e];rfl
 | k+1,[],t,h=>by cases h
 | k+1,s::M,t,h=>by
   show ((s.1, -s.2)::negs k M).set (k+1) _=(s.1, -s.2)::negs (k+1) M;rw [List.set_cons_succ,negs_next k M t h]
theorem negs_all:∀(M:Mv) (k:Nat),M.length≤k→negs k M=M.map fun t=>(t.1, -t.2)
 | [],0,_=>rfl
 | [],_+1,_=>rfl
 | t::M,0,h=>by simp at h
 | t::M,k+1,h=>by
   show (t.1, -t.2)::negs k M=_;rw [negs_all M k (by simpa using h)];rfl
theorem mvT_set (L:List TV) (k:Nat) (t:TV):mvT (L.set k t)=(mvT L).set k (valT t):=List.map_set
section
variable {T : TypeId} {w0 wr : World} {ge n C g cap : Nat} {E : List EntT} {M : Mv}
theorem TmO.put {j:Nat} {x:EntT}(h:TmO T w0 wr ge n C (.slice (some ⟨g,0,none⟩) E.length cap) E M) (hj:j<E.length) (e1:x.1.2=(E[j]).1.2) (e2:x.2.2=(E[j]).2.2) (hx:EntOk wr x) (hxC:x.2.1.2.length≤C) (hin:EntIn (fun b=>b≠g∧b≠ge) x):
 TmO T w0 ((wr.setCell ⟨g,j*3,none⟩ (.bool x.2.1.1)).setCell ⟨g,j*3+1,none⟩ (.slice x.1.1.1 x.2.1.2.length x.1.1.2)) ge n C (.slice (some ⟨g,0,none⟩) E.length cap) (E.set j x) (M.set j (valT x.2)):=by
 have hg:(Value.slice (some ⟨g,0,none⟩) E.length cap).ownBlock=some g:=rfl
 have hgl:=h.own.lt g hg
 have ho:Only (fun b=>b=g) wr ((wr.setCell ⟨g,j*3,none⟩ (.bool x.2.1.1)).setCell ⟨g,j*3+1,none⟩ (.slice x.1.1.1 x.2.1.2.length x.1.1.2)):=((Only.refl (fun b=>b=g) wr).setCell (p:=⟨g,j*3,none⟩) rfl _).setCell (p:=⟨g,j*3+1,none⟩) rfl _
 have mem:∀{z:EntT},z∈E.set j x→z=x∨z∈E:=fun {z} hz=>(List.mem_or_eq_of_mem_set hz).symm
 have farz:∀z∈E.set j x,EntIn (fun b=>b≠g∧b≠ge) z:=fun z hz=>by
  rcases mem hz with e | hz
  · rw [e];exact hin
  · exact (h.far z hz).mono fun b hb=>⟨fun e=>hb.1 (by rw [e];rfl),hb.2⟩
 have okz:∀z∈E.set j x,EntOk wr z:=fun z hz=>by
  rcases mem hz with e | hz
  · rw [e];exact hx
  · exact h.ok z hz
 refine ⟨?_,fun z hz=>entOk_only (okz z hz) ho (fun h0 y hy e=>((farz z hz).1 h0 y hy).1 e) (fun h0 y hy e=>((farz z hz).2 h0 y hy).1 e),fun z hz=>(farz z hz).mono fun b hb=>⟨fun e=>hb.1 (by injection e with e;exact e.symm),hb.2⟩,h.off,fun z hz=> ?_,fun z hz=> ?_,?_,h.bel.trans (ho.below h.bel.size fun b hb=>by omega)⟩
 · rw [List.length_set,tcells_set E j x hj e1 e2]
   exact own_set (own_set h.own _ _) _ _
 · rcases mem hz with e | hz
   · rw [e,e2];exact h.len _ (List.getElem_mem hj)
   · exact h.len z hz
 · rcases mem hz with e | hz
   · rw [e];exact hxC
   · exact h.co z hz
 · rw [List.map_set,mvT_set,h.eq]
theorem TmO.putN {N j:Nat} {x:EntT}(hN:E.length=N) (h:TmO T w0 wr ge n C (.slice (some ⟨g,0,none⟩) N cap) E M) (hj:j<E.length) (e1:x.1.2=(E[j]).1.2) (e2:x.2.2=(E[j]).2.2) (hx:EntOk wr x) (hxC:x.2.1.2.length≤C) (hin:EntIn (fun b=>b≠g∧b≠ge) x):
 (E.set j x).length=N∧TmO T w0 ((wr.setCell ⟨g,j*3,none⟩ (.bool x.2.1.1)).setCell ⟨g,j*3+1,none⟩ (.slice x.1.1.1 x.2.1.2.length x.1.1.2)) ge n C (.slice (some ⟨g,0,none⟩) N cap) (E.set j x) (M.set j (valT x.2)):=by
 subst hN
 exact ⟨List.length_set,h.put hj e1 e2 hx hxC hin⟩
theorem plT_last {n:Nat} {f:Pn n} {L:List TV} {t:TV}(e:mvT L=termsP n [] f) (h:L.getLast? =some t):∃R,plT n f=valT t::R:=by
 have h1:(mvT L).getLast? =some (valT t):=by
  unfold mvT;rw [List.getLast?_map,h];rfl
 rw [e] at h1
 unfold plT
 rw [← List.head?_reverse] at h1
 cases hr:(termsP n [] f).reverse with
 | nil=>rw [hr] at h1;cases h1
 | cons a R=>
   rw [hr] at h1;injection h1 with h1
   exact ⟨R,by rw [h1]⟩
theorem pos_of {n:Nat} {f:Pn n} {t:TV} {R:Mv}(e:plT n f=valT t::R) (hs:t.1.1=false):PosP f:=fun t' L' e'=>by
 have hne:=(plT_plain n f).ne (valT t) (by rw [e];exact List.mem_cons_self)
 rw [e] at e'
 injection e' with e1 _
 rw [← e1]
 have h1:(valT t).2=intZ t.1.1 t.1.2:=rfl
 rw [h1,hs] at hne ⊢
 have h2:intZ false t.1.2=(limbs t.1.2:Int):=by simp [intZ]
 rw [h2] at hne ⊢
 omega
theorem pos_neg {n:Nat} {f:Pn n} {t:TV} {R:Mv}(e:plT n f=valT t::R) (hs:t.1.1=true):PosP (-f):=fun t' L' e'=>by
 have hne:=(plT_plain n f).ne (valT t) (by rw [e];exact List.mem_cons_self)
 rw [plT_neg,e] at e'
 injection e' with e1 _
 rw [← e1]
 show 0< -(valT t).2
 have h1:(valT t).2=intZ t.1.1 t.1.2:=rfl
 rw [h1,hs] at hne ⊢
 have h2:intZ true t.1.2= -(limbs t.1.2:Int):=by simp [intZ]
 rw [h2] at hne ⊢
 omega
theorem negs_bd {d:Int} {M:Mv}(h:BdM d M):BdM d (M.map fun t=>(t.1, -t.2)):=fun t ht=>by
 obtain ⟨x,hx,rfl⟩:=List.mem_map.1 ht
 exact h x hx
end
end Cl
namespace Go.Proofs.YtehcoffbiplphaaGreat
open Go.RowKit Cl CRing
attribute [local go_sem ↓] Go.wp_at_zero Go.wp_at_succ
theorem term_size:(Tryz.prog.info? 44).map (·.size)=some 3:=by kernel_rfl
def LastT (w:World) (L:List TV) (e:Ending) (w':World):Prop:=∃t Ai ci Ei ei,L.getLast? =some t∧e=.returned (.agg #[.bool t.1.1,.slice Ai t.1.2.length ci,.slice Ei t.2.length ei])∧Below w.heap.size w w'
theorem mendT (A:Option Addr) (m c:Nat) (L:List TV) (w:World) (hx:Trs w A m L) (hm:0<m) (hm2:m≤9223372036854775807):
 Calls Tryz.prog 50 #[.slice A m c] w (LastT w L):=by
 obtain ⟨b,o,rfl,hl,hk⟩:=hx.at_ hm
 obtain rfl:=hx.len
 have hlast:L.getLast? =some (L[L.length - 1]'(by omega)):=by
  rw [List.getLast?_eq_getElem?,List.getElem?_eq_getElem (by omega)]
 obtain ⟨Ai,ci,Ei,ei,h1,h2,h3,_,_,_,_,_,_⟩:=hk (L.length - 1) (by omega)
 have ew:IntKind.i64.wrap ((L.length:Int) - 1)=((L.length - 1:Nat):Int):=by rw [IntWalk.i64_in _ (by omega)];omega
 have hi0:(0:Int)≤((L.length - 1:Nat):Int):=by omega
 have hi1:((L.length - 1:Nat):Int)<(L.length:Int):=by omega
 have al:Below w.heap.size w (w.alloc (.cells #[.bool false,.slice none 0 0,.slice none 0 0] 44)):=bRr.alloc lRr _
 rw [Nat.mul_comm 3] at h1 h2 h3
 rw [← Nat.add_assoc] at h2 h3
 have g1:=(al.cell (p:=⟨b,o+(L.length - 1)*3,none⟩) hl).trans h1
 have g2:=(al.cell (p:=⟨b,o+(L.length - 1)*3+1,none⟩) hl).trans h2
 have g3:=(al.cell (p:=⟨b,o+(L.length - 1)*3+2,none⟩) hl).trans h3
 have Hlast:=hiD hlast
 have tn:=Tri.new 44 w (.bool false) (.slice none 0 0) (.slice none 0 0)
 clear h1 h2 h3 hk al hlast
 generalize L[L.length - 1]=x at*
 clear hx
 generalize L.length - 1=i at*
 obtain ⟨⟨s,xs⟩,ps⟩:=x
 simp only at g1 g2 g3
 go_enter Tryz.func50,Tryz.ntmps50
 go_wp2_with fail
 exact bodyPost_ret (v:=.agg #[.bool s,.slice Ai xs.length ci,.slice Ei ps.length ei]) (results_cell_row (fn:=Tryz.f50) rfl _ _ _ _ _ _ _ rfl (Tri.new 44 w (.bool s) (.slice Ai xs.length ci) (.slice Ei ps.length ei)) Tryz.underlying44 rfl term_size) rfl
  ⟨((s,xs),ps),Ai,ci,Ei,ei,Hlast.out,rfl,bRr.alloc lRr _⟩
def GivesRt (w:World) (n:Nat) (f:Pn n) (e:Ending) (w':World):Prop:=∃g,(g=f∨g= -f)∧PosP g∧GivesP w n (plT n g) e w'
theorem field_term (b:Bool) (A:Option Addr) (k c:Nat) (E:Option Addr) (m d:Nat) (w:World):(Instr.field 44 (.agg #[.bool b,.slice A k c,.slice E m d]) 0).run Tryz.prog w=.ok (.agg #[.bool b,.slice A k c]) w:=by kernel_rfl
theorem field_int (b:Bool) (A:Option Addr) (k c:Nat) (w:World):(Instr.field 41 (.agg #[.bool b,.slice A k c]) 0).run Tryz.prog w=.ok (.bool b) w:=by kernel_rfl
theorem make_intsT (n:Nat) (hn:n≤6) (w:World):
 (Instr.makeSlice 42 (.int .i64 (n:Int)) (.int .i64 (n:Int))).run Tryz.prog w=.ok (.slice (some ⟨w.heap.size,0,none⟩) n n) (w.alloc (.cells (ints (List.replicate n 0)).toArray 3)):=by
 obtain ⟨i0,hi0,hu0,hu1,hu2⟩:=info_partsP int_infoP
 exact run_make_ints (P:=Tryz.prog) Tryz.underlying42 hi0 hu0 hu1 hu2 n (by omega) w
theorem exR_made (T:TypeId) (w0 w:World) (n:Nat) (hn:n≤6) (h:w0.heap.size≤w.heap.size):ExR T w0 (w.alloc (.cells (ints (List.replicate n 0)).toArray T)) w.heap.size n (List.replicate n 0):=by
 have h1:=World.ownsRow_lit (e:=T) (size:=1) w (ints (List.replicate n 0)).toArray n h (by unfold maxLen;omega) (by simp [ints])
 refine ⟨by simpa using h1,fun i=> ?_⟩
 have h0:nth (List.replicate n (0:Int)) i=0:=by
  by_cases hi:i<n
  · rw [nth_lt (by simpa using hi)];simp
  · rw [nth_ge (by simp;omega)]
 rw [h0]
 constructor<;>omega
theorem norm_told {T:TypeId} {w0 wr:World} {ge n C:Nat} {v:Value} {E:List EntT} {M:Mv} {g:Pn n}(h:TmO T w0 wr ge n C v E M) (hn:n≤6) (hC:C≤10000) (hM:EqM n M (plT n g)) (hb:BdM 1000 M) (hc:M.length≤4096):
 ∃B d,v=.slice B E.length d∧Calls Tryz.prog 20 #[.int .i64 (n:Int),.slice B E.length d] wr (GivesP w0 n (plT n g)):=by
 obtain ⟨B,d,hv,h1,h2,ht⟩:=trs_of_own h.own rfl h.ok
 have hcnt:(E.map (·.2)).length≤4096:=by
  have:=congrArg List.length h.eq;rw [mvT_length] at this;omega
 have hA:Arg n C (E.map (·.2)):=⟨fun t ht=>by
  obtain ⟨x,hx,rfl⟩:=List.mem_map.1 ht;exact h.len x hx,fun t ht=>by
  have h3:valT t∈M:=by rw [← h.eq];exact List.mem_map.2 ⟨t,ht,rfl⟩
  exact hb _ h3,fun t ht=>by
  obtain ⟨x,hx,rfl⟩:=List.mem_map.1 ht;exact h.co x hx,hcnt⟩
 refine ⟨B,d,hv,(mnorm n C B E.length d (E.map (·.2)) wr ht hA hn hC).mono ?_⟩
 intro e w' h9
 obtain ⟨A,c,L,k1,k2,k3,k4,k5,k6,k7⟩:=h9.from_ h.bel
 rw [h.eq] at k6
 exact ⟨A,c,L,k1,k2,k3,k4,k5,k6.trans hM,k7⟩
theorem bd_terms {n:Nat} {pre:Plc} {f:Pn n} {D:Nat→Nat}(hf:Siz.dg D f) (hD:∀j,D j≤1000) (hp:pre=[]):BdM 1000 (termsP n pre f):=fun t ht=>by
 obtain ⟨e,h1,_,h3,_⟩:=termsP_bd hf hD t ht
 rw [hp,List.nil_append] at h1
 rw [h1]
 exact h3
theorem mright (n C:Nat) (hn:n≤6) (hC:C≤10000) (w:World) (u:Value) (f:Pn n) (D:Nat→Nat) (hf:TreW (fun _=>True) n w u f) (nf:Siz.nm f<2^(64*C)) (df:Siz.dg D f) (hD:∀j,D j≤1000) (hcnt:(termsP n [] f).length≤4096):
 Calls Tryz.prog 26 #[.int .i64 (n:Int),u] w (GivesRt w n f):=by
 obtain ⟨s0,A0,k0,c0,B0,m0,d0,hu⟩:=hf.shape
 subst hu
 have lf:Lens n f:=lens_dg n f D df fun j=>by have:=hD j;omega
 have hbd:=hiD (bd_terms (pre:=[]) df hD rfl)
 have hmk:=make_intsT n hn
 have t0:=Trio.new w (.bool s0) (.slice A0 k0 c0) (.slice B0 m0 d0)
 have hb:Below w.heap.size w (w.alloc (.cells #[.bool s0,.slice A0 k0 c0,.slice B0 m0 d0] 51)):=bRr.alloc lRr _
 have HB:=hiD hb
 have T0:=hiD t0
 have Hcnt:=hiD hcnt
 have Hf:=hiD hf
 have Nf:=hiD nf
 have Lf:=hiD lf
 clear hf t0 hb nf df hcnt lf
 unfold treV at Hf ⊢
 go_enter Tryz.func26,Tryz.ntmps26
 go_wp2_with fail
 generalize hwt:w.alloc (.cells #[.bool s0,.slice A0 k0 c0,.slice B0 m0 d0] 51)=wt at*
 clear hwt
 have Ht:Hid (Calls Tryz.prog 34 #[.agg #[.bool s0,.slice A0 k0 c0,.slice B0 m0 d0],.int .i64 (n:Int),.int .i64 0,.slice (some ⟨wt.heap.size,0,none⟩) n n,.slice none 0 0] (World.drew (wt.alloc (.cells (ints (List.replicate n 0)).toArray 3))) (GivesTm wt wt.heap.size n 0 C (List.replicate n 0) (termsP n [] f))):=by
  have hW:Below wt.heap.size wt wt:=bRr;have h:=mtermsT C (by omega) n n 0 wt (World.drew (wt.alloc (.cells (ints (List.replicate n 0)).toArray 3))) _ f wt.heap.size (List.replicate n 0) (.slice none 0 0) [] [] (by omega) hn (Hf.out.bel HB.out) ((exR_made _ _ _ n hn hW.size).bel bRr.drew) (TmO.start _ _ _ _ ((hW.alloc hW.size _).drew)) Nf.out Lf.out (by rw [List.take_zero];have:=Hcnt.out;simp;omega);rw [List.take_zero,List.nil_append] at h;exact h
 have keepS:Hid (∀W,Below wt.heap.size wt W→(fun W=>W.cell? ⟨w.heap.size,0,none⟩=some (.bool s0)∧W.cell? ⟨w.heap.size,1,none⟩=some (.slice A0 k0 c0)∧W.cell? ⟨w.heap.size,2,none⟩=some (.slice B0 m0 d0)) W):=fun W hW=>⟨((T0.out.bel hW)).cell0,((T0.out.bel hW)).cell1,((T0.out.bel hW)).cell2⟩
 refine wp_regionG (S:=fun W=>W.cell? ⟨w.heap.size,0,none⟩=some (.bool s0)∧W.cell? ⟨w.heap.size,1,none⟩=some (.slice A0 k0 c0)∧W.cell? ⟨w.heap.size,2,none⟩=some (.slice B0 m0 d0)) (z:=99) (by kernel_rfl) ?_
 have hHeld:=keepS.out _ (Below.refl wt.heap.size wt).drew
 try dsimp only at hHeld
 refine tk 99 0 (.agg #[.bool s0,.slice A0 k0 c0,.slice B0 m0 d0]) rfl hHeld ?_
 try simp only [fx,Act.put]
 refine tk 99 1 (.int .i64 (n:Int)) rfl hHeld ?_
 try simp only [fx,Act.put]
 refine tk 99 2 (.int .i64 (n:Int)) rfl hHeld ?_
 try simp only [fx,Act.put]
 refine wpAnyG_ready (rs:=[3]) (by kernel_rfl) (by simp) ?_
 refine AllReadyG.cons rfl (by decide) (fun KK hKK=> ?_) AllReadyG.nil
 go_simp
 refine hKK.out _ _ (keepS.out _ (bRr.alloc lRr (.cells (ints (List.replicate n 0)).toArray 3)).drew) (fun hHeld=> ?_)
 clear hKK KK
 try dsimp only at hHeld
 try simp only [fx,Act.put]
 refine wpAnyG_ready (rs:=[4]) (by kernel_rfl) (by simp) ?_
 refine AllReadyG.cons rfl (by decide) (fun KK hKK=> ?_) AllReadyG.nil
 go_simp
 refine Ht.out.mono ?_
 rintro e w1 ⟨v1,E1,es1,rfl,q1,q2,q3⟩
 have Q3:=hiD q3
 obtain ⟨Av,cv,hv⟩:=own_shapeP q3.own
 subst hv
 have Hge:=hiD q1.lo
 have keep1:Hid ((fun W=>W.cell? ⟨w.heap.size,0,none⟩=some (.bool s0)∧W.cell? ⟨w.heap.size,1,none⟩=some (.slice A0 k0 c0)∧W.cell? ⟨w.heap.size,2,none⟩=some (.slice B0 m0 d0)) w1):=keepS.out _ q3.bel
 clear q1 q2 q3
 go_wp2_with fail
 refine hKK.out _ _ keep1.out (fun hHeld=> ?_)
 clear hKK KK
 try dsimp only at hHeld
 try simp only [fx,Act.put]
 refine wpAnyG_ready (rs:=[5]) (by kernel_rfl) (by simp) ?_
 refine AllReadyG.cons rfl (by decide) (fun KK hKK=> ?_) AllReadyG.nil
 go_simp
 refine hKK.out _ _ keep1.out (fun hHeld=> ?_)
 clear hKK KK
 try dsimp only at hHeld
 try simp only [fx,Act.put]
 refine wpAnyG_done (by kernel_rfl) ?_ _
 clear hHeld keep1 keepS Ht Hf Nf Lf T0
 have hl1:Hid (E1.length=(termsP n [] f).length):=by
  show _=_;rw [← Q3.out.eq,mvT_length,List.length_map]
 have HBw:Hid (Below w.heap.size w w1):=HB.out.tm Q3.out.bel
 by_cases h0:E1.length=0
 · have hM:termsP n [] f=[]:=List.eq_nil_of_length_eq_zero (by rw [← hl1.out];exact h0)
   have hp:plT n f=[]:=by unfold plT;rw [hM];rfl
   have hz:((E1.length:Int)==0)=true:=by rw [h0];rfl
   have F:Hid (GivesRt w n f (.returned (.tuple #[.slice none 0 0,.int .i64 0])) w1):=by
    refine ⟨f,.inl rfl,(fun t L e=>by rw [hp] at e;cases e),none,0,[],rfl,lRr,by omega,Trs.nil _ _,PlainT.nil n,?_,HBw.out⟩;rw [hp];exact EqM.refl _ _
   clear hM hp h0;go_wp2_with fail
   go_ret2;exact F.out
 · have hz:((E1.length:Int)==0)=false:=beq_eq_false_iff_ne.2 (by omega)
   have hcn:=Hcnt.out;have hE1:E1.length≤4096:=by rw [hl1.out];exact hcn
   obtain ⟨B9,d9,hv9,hd1,hd2,ht⟩:=trs_of_own Q3.out.own rfl Q3.out.ok;injection hv9 with hv9 _ hv92
   subst hv9;subst hv92;have Ce:=hiD (mendT Av E1.length cv (E1.map (·.2)) w1 ht (by omega) (by omega));clear ht hd1 hd2 hcn;go_wp2_with fail
   refine Ce.out.mono ?_;rintro e w2 ⟨t,Ai,ci,Ei,ei,hlast,rfl,hb2⟩;obtain ⟨R,hR⟩:=plT_last Q3.out.eq hlast;have Q4:=hiD (Q3.out.bel2 hb2);have HBw2:Hid (Below w.heap.size w w2):=HBw.out.tm hb2;have HBt:Hid (Below w.heap.size w wt):=HB.out;have hge2:=hiD (Nat.lt_of_lt_of_le Hge.out.2 hb2.size);clear hlast hb2 Ce Q3 HBw;obtain ⟨⟨sx,xs⟩,ps⟩:=t;have hfd1:=fun W=>field_term sx Ai xs.length ci Ei ps.length ei W;have hfd2:=fun W=>field_int sx Ai xs.length ci W;cases sx with
   | false=>
     have hpos:=hiD (pos_of hR rfl);clear hR;obtain ⟨B8,d8,hv8,Cn⟩:=norm_told Q4.out hn hC (EqM.perm (List.reverse_perm _).symm) hbd.out Hcnt.out;injection hv8 with hv8 _ hv82
     subst hv8;subst hv82;have CN:=hiD Cn;clear Cn Q4;(go_wp2_with fail);refine CN.out.mono ?_;intro e w3 h3;obtain ⟨A3,c3,L3,rfl,p1,p2,p3,p4,p5,p6⟩:=h3;have F:Hid (GivesRt w n f (.returned (.tuple #[.slice A3 L3.length c3,.int .i64 0])) w3):=⟨f,.inl rfl,hpos.out,A3,c3,L3,rfl,p1,p2,p3,p4,p5,HBt.out.tm p6⟩;clear p3 p4 p5 p6;(go_wp2_with fail);go_ret2;exact F.out
   | true=>
     have hpos:=hiD (pos_neg hR rfl);clear hR;obtain ⟨g1,cap1,hv1,hg1,hg2⟩:=Q4.out.own.form (by omega);injection hv1 with hv1 _ hv2
     subst hv1;subst hv2;(go_wp2_with fail);go_loopw [24] (fun kk wr=>∃(k:Nat) (E:List EntT),k≤E1.length∧kk=.int .i64 (k:Int)∧Hid (E.length=E1.length)∧Hid (TmO 44 wt wr wt.heap.size n C (.slice (some ⟨g1,0,none⟩) E1.length cv) E (negs k (termsP n [] f)))∧Hid (wt.heap.size<wr.heap.size)) (fun kk _=>E1.length - (intOf kk).toNat)
     case atStart=>exact ⟨0,E1,Nat.zero_le _,rfl,rfl,Q4.out,hge2.out⟩
     case round=>
      obtain ⟨k,E,hk,rfl,hE,hT,hgw⟩:=hrel;obtain ⟨wp,rfl⟩:∃wp:World,wp=wr:=⟨_,rfl⟩;by_cases hlt:k<E1.length
      · have hlt':(k:Int)<(E1.length:Int):=by omega
        (have hk0:(0:Int)≤(k:Int):=by omega);(have hkE:k<E.length:=by rw [hE.out];exact hlt);obtain ⟨x0,x1,x2⟩:=tcells_get hkE;have own:=hT.out.own;rw [hE.out] at own;have a0:=own.cellAt (3*k) (by omega);have a1:=own.cellAt (3*k+1) (by omega);rw [x0] at a0;rw [x1] at a1;rw [Nat.mul_comm 3 k] at a0 a1;have z0:=own.frozenAt (k*3);have z1:=own.frozenAt (k*3+1);have hgl:=own.lt g1 rfl;have hok:=hT.out.ok _ (List.getElem_mem hkE);have hfar:=hT.out.far _ (List.getElem_mem hkE);have hlC:=hT.out.co _ (List.getElem_mem hkE);have hMk:(termsP n [] f)[k]? =some (valT (E[k]).2):=by
         rw [← negs_get k,← hT.out.eq];unfold mvT;rw [List.getElem?_map,List.getElem?_map,List.getElem?_eq_getElem hkE];rfl
        have HMk:=hiD (negs_next k _ _ hMk);have Hx:=hiD (show E[k]=E[k] from rfl);have Cn:=hiD (fun W (hW:Below wp.heap.size wp W)=>znegF (E[k]).2.1.1 (E[k]).1.1.1 (E[k]).2.1.2.length (E[k]).1.1.2 (E[k]).2.1.2 W (hok.2.2.2.2.1.bel hW) hok.1 hok.2.1 (by omega));have F:Hid (∀(w3:World) (s':Bool) (A':Option Addr) (k' c':Nat) (ls:List Int),Below wp.heap.size wp w3→k'≤c'→c'≤9223372036854775807→k'≤(E[k]).2.1.2.length→Limbs w3 A' k' ls→ZVal s' ls (-intZ (E[k]).2.1.1 (E[k]).2.1.2)→(0<k'→∀y,A'=some y→wp.heap.size≤y.block)→
         w3.frozen? ⟨g1,k*3,none⟩=false∧w3.frozen? ⟨g1,k*3+1,none⟩=false∧w3.cell? ⟨g1,k*3,none⟩=some (.bool (E[k]).2.1.1)∧w3.cell? ⟨g1,k*3+1,none⟩=some (.slice (E[k]).1.1.1 (E[k]).2.1.2.length (E[k]).1.1.2)∧g1<w3.heap.size∧∃E2:List EntT,Hid (E2.length=E1.length)∧Hid (TmO 44 wt ((w3.setCell ⟨g1,k*3,none⟩ (.bool s')).setCell ⟨g1,k*3+1,none⟩ (.slice A' k' c')) wt.heap.size n C (.slice (some ⟨g1,0,none⟩) E1.length cv) E2 (negs (k+1) (termsP n [] f)))∧Hid (wt.heap.size<((w3.setCell ⟨g1,k*3,none⟩ (.bool s')).setCell ⟨g1,k*3+1,none⟩ (.slice A' k' c')).heap.size)):=fun w3 s' A' k' c' ls hb3 r1 r2 r3 r4 r5 r6=>by
         obtain rfl:=r4.len;refine ⟨(hb3.frozen (p:=⟨g1,k*3,none⟩) hgl.2).trans z0,(hb3.frozen (p:=⟨g1,k*3+1,none⟩) hgl.2).trans z1,(hb3.cell (p:=⟨g1,k*3,none⟩) hgl.2).trans a0,(hb3.cell (p:=⟨g1,k*3+1,none⟩) hgl.2).trans a1,Nat.lt_of_lt_of_le hgl.2 hb3.size,?_⟩;have hok3:=hok.bel hb3;have hx:EntOk w3 ((((A',c'),(E[k]).1.2),((s',ls),(E[k]).2.2)):EntT):=⟨r1,r2,hok3.2.2.1,hok3.2.2.2.1,r4,hok3.2.2.2.2.2⟩;have hin:EntIn (fun b=>b≠g1∧b≠wt.heap.size) ((((A',c'),(E[k]).1.2),((s',ls),(E[k]).2.2)):EntT):=⟨fun q0 y hy=>by
          have h9:=r6 q0 y hy;have h8:=hgw.out;exact ⟨by omega,by omega⟩,fun q0 y hy=>by
          have h9:=hfar.2 q0 y hy;exact ⟨fun e=>h9.1 (by rw [e];rfl),h9.2⟩⟩
         obtain ⟨u1,u2⟩:=(hT.out.bel2 hb3).putN hE.out (x:=(((A',c'),(E[k]).1.2),((s',ls),(E[k]).2.2))) hkE rfl rfl hx (Nat.le_trans r3 hlC) hin;have ev:valT ((s',ls),(E[k]).2.2)=((valT (E[k]).2).1, -(valT (E[k]).2).2):=by
          show ((E[k]).2.2,intZ s' ls)=_;rw [r5.eq];rfl
         rw [ev,HMk.out] at u2;refine ⟨_,u1,u2,?_⟩;have h8:=hgw.out;have h7:=hb3.size;show wt.heap.size<_;simp;omega
        clear x0 x1 x2 own hok hfar hlC hMk HMk Hx hT hE;generalize (E[k]).2.1.1=sx1 at*
        generalize (E[k]).2.1.2.length=lx1 at*
        generalize (E[k]).1.1.1=Ax1 at*
        generalize (E[k]).1.1.2=cx1 at*
        (go_wp2_with fail);refine (Cn.out wp bRr).mono ?_;rintro e w3 ⟨s',A',k',c',ls,rfl,r1,r2,r3,r4,r5,r6,r7⟩;obtain ⟨f0,f1,y0,y1,yl,E2,u1,u2,u3⟩:=F.out w3 s' A' k' c' ls r7 r1 r2 r3 r4 r5 r6;clear F Cn r1 r2 r3 r4 r5 r6 r7 a0 a1 z0 z1;(go_wp2_with fail);go_roundw
        case rel=>exact ⟨k+1,E2,by omega,by go_num,u1,u2,u3⟩
        case measure=>simp [intOf];omega
      · have hlt':¬(k:Int)<(E1.length:Int):=by omega
        have hall:=negs_all (termsP n [] f) k (by have:=hl1.out;omega);have hT2:=hT.out;rw [hall] at hT2;have hM:EqM n ((termsP n [] f).map fun t=>(t.1, -t.2)) (plT n (-f)):=by
         rw [plT_neg];unfold plT;rw [List.map_reverse];exact EqM.perm (List.reverse_perm _).symm
        obtain ⟨B8,d8,hv8,Cn⟩:=norm_told hT2 hn hC hM (negs_bd hbd.out) (by rw [List.length_map];exact Hcnt.out);rw [hE.out] at hv8 Cn;injection hv8 with hv8 _ hv82
        subst hv8;subst hv82;have CN:=hiD Cn;clear Cn hT2 hall hM hT hE;(go_wp2_with fail);refine CN.out.mono ?_;intro e w3 h3;obtain ⟨A3,c3,L3,rfl,p1,p2,p3,p4,p5,p6⟩:=h3;have F:Hid (GivesRt w n f (.returned (.tuple #[.slice A3 L3.length c3,.int .i64 0])) w3):=⟨-f,.inr rfl,hpos.out,A3,c3,L3,rfl,p1,p2,p3,p4,p5,HBt.out.tm p6⟩;clear p3 p4 p5 p6;(go_wp2_with fail);go_ret2;exact F.out
end Go.Proofs.YtehcoffbiplphaaGreat
