/- Contracts: a term added to a sum.
   Contracts: a polynomial's terms gathered in a map.
   Contracts: a term times a polynomial added to a sum. -/
import Derived.Test.YtehcoffbiplphaaGreatSKeyK
import Derived.Maps.OwnOps
import Derived.Laws.AppendOwn
import Derived.Laws.CopyRow
import Derived.Laws.IdiomCopy
set_option linter.unusedVariables false
set_option linter.unusedSimpArgs false
set_option maxHeartbeats 8000000
set_option maxRecDepth 100000
namespace Cl
open Go Go.RowKit
theorem SumD.look {w:World} {D:DataW Value} {n B:Nat} {L:Mv}(h:SumD w D n B L) {p:Plc}(hp:GoodP n p) {v:Value} {ps:List MemPlace}(hv:intEl v=some (D.atKey (plcLit p) (.held (.agg #[.bool false,.slice Option.none 0 0])),ps)):ZAt w v B (coM L p):=by
 obtain ⟨s,A,k,c,rfl,e⟩:=intEl_inv hv
 injection e with e1 e2
 cases hh:Maps.has D (plcLit p) with
 | true=>
   obtain ⟨v',h1,h2⟩:=h.at_ p hp hh;rw [h1] at e1;injection e1 with e1
   rw [← e1];exact h2
 | false=>
   rw [Maps.atKey_of_not_has hh] at e1;injection e1 with e1
   rw [← e1,h.none p hp hh];exact ⟨false,Option.none,0,0,[],rfl,lRr,by omega,Nat.zero_le _,Limbs.nil _ _,rfl⟩
end Cl
namespace Go.Proofs.YtehcoffbiplphaaGreat
open Go.RowKit Cl
attribute [local go_sem ↓] Go.wp_at_zero Go.wp_at_succ
theorem zeroInt (w:World):(zeroValue 41).run Tryz.prog w=.ok (.agg #[.bool false,.slice none 0 0]) w:=by kernel_rfl
theorem cells_map {w w':World} {k:TypeId} {R:Value→Option (DataW Value×List MemPlace)} {b m:Nat} {D:DataW Value}(hm:w.ownsMap Tryz.prog k R b m D) (hg:Only (fun x=>x=b) w w') {p:Addr} {v:Value}(hp:p.block<w.heap.size) (h:w.cell? p=some v):w'.cell? p=some v:=by
 by_cases e:p.block=b
 · obtain ⟨es,clock,hb,_⟩:=hm
   rw [← e] at hb;simp [World.cell?,hb] at h
 · rw [hg.cell hp e];exact h
theorem limbs_map {w w':World} {A:Option Addr} {n:Nat} {xs:List Int} {k:TypeId} {R:Value→Option (DataW Value×List MemPlace)} {b m:Nat} {D:DataW Value}(h:Limbs w A n xs) (hm:w.ownsMap Tryz.prog k R b m D) (hg:Only (fun x=>x=b) w w'):Limbs w' A n xs:=
 ⟨h.len,fun hn=>by
   obtain ⟨bb,o,e,hb,hc⟩:=h.at_ hn;exact ⟨bb,o,e,Nat.lt_of_lt_of_le hb hg.size,fun i hi=>cells_map hm hg (p:=⟨bb,o+i,none⟩) hb (hc i hi)⟩,h.ok⟩
theorem zat_map {w w':World} {v:Value} {B:Nat} {z:Int} {k:TypeId} {R:Value→Option (DataW Value×List MemPlace)} {b m:Nat} {D:DataW Value}(h:ZAt w v B z) (hm:w.ownsMap Tryz.prog k R b m D) (hg:Only (fun x=>x=b) w w'):ZAt w' v B z:=by
 obtain ⟨s,A,kk,c,ls,e,h1,h2,h3,h4,h5⟩:=h.ex
 exact ⟨s,A,kk,c,ls,e,h1,h2,h3,limbs_map h4 hm hg,h5⟩
theorem sumD_map {w w':World} {D':DataW Value} {n B:Nat} {L:Mv} {k:TypeId} {R:Value→Option (DataW Value×List MemPlace)} {b m:Nat} {D:DataW Value}(h:SumD w D' n B L) (hm:w.ownsMap Tryz.prog k R b m D) (hg:Only (fun x=>x=b) w w'):SumD w' D' n B L:=
 ⟨h.key,fun p hp hh=>by obtain ⟨v,h1,h2⟩:=h.at_ p hp hh;exact ⟨v,h1,zat_map h2 hm hg⟩,h.none,h.isMap⟩
def SumM (w:World) (b nc n B:Nat) (L:Mv):Prop:=∃D:DataW Value,w.ownsMap Tryz.prog 68 intEl b nc D∧SumD w D n B L
theorem map_bel {w w':World} {k:TypeId} {R:Value→Option (DataW Value×List MemPlace)} {b m:Nat} {D:DataW Value}(hm:w.ownsMap Tryz.prog k R b m D) (hb:Below w.heap.size w w'):w'.ownsMap Tryz.prog k R b m D:=
 hm.kept (row:=none) ⟨hb.os,hb.tape,hb.output,hb.size,fun i hi _=>hb.block i hi⟩ (by simp)
theorem madd (b nc n B C:Nat) (L:Mv) (p:Plc) (s:Bool) (A:Option Addr) (k c:Nat) (ls:List Int) (w:World) (hs:SumM w b nc n B L) (hp:GoodP n p) (hnc:nc<maxLen) (hx:Limbs w A k ls) (hkc:k≤c) (hc:c≤9223372036854775807) (hk:k≤C) (hB:B≤1000000) (hC:C≤1000000):
 Calls Tryz.prog 43 #[.map (some b),plcV p,.agg #[.bool s,.slice A k c]] w fun e w'=>e=.returned (.tuple #[])∧SumM w' b (nc+1) n (max B C+1) (L++[(p,intZ s ls)])∧Only (fun x=>x=b) w w':=by
 obtain ⟨D,hm,hd⟩:=hs
 have hkey:=keyOf_plc hp.len hp.i64
 have hlt:=hm.lt
 have Hp:=hiD hp
 have Hk:=hiD hkey
 unfold plcV at hkey ⊢
 obtain ⟨x0,x1,x2,x3,x4,x5,rfl⟩:∃x0 x1 x2 x3 x4 x5,p=[x0,x1,x2,x3,x4,x5]:=by
  match p,hp.len with
  | [x0,x1,x2,x3,x4,x5],_=>exact ⟨_,_,_,_,_,_,rfl⟩
 show Calls _ _ #[.map (some b),.agg #[.int .i64 x0,.int .i64 x1,.int .i64 x2,.int .i64 x3,.int .i64 x4,.int .i64 x5],.agg #[.bool s,.slice A k c]] _ _
 have hkey':keyOf Tryz.prog 68 (.agg #[.int .i64 x0,.int .i64 x1,.int .i64 x2,.int .i64 x3,.int .i64 x4,.int .i64 x5])=some (plcLit [x0,x1,x2,x3,x4,x5]):=hkey
 clear hkey hp
 go_enter Tryz.func43,Tryz.ntmps43
 go_wp2_with fail
 have b2:Below w.heap.size w ((w.alloc (.cells #[.int .i64 x0,.int .i64 x1,.int .i64 x2,.int .i64 x3,.int .i64 x4,.int .i64 x5] 68)).alloc (.cells #[.bool s,.slice A k c] 41)):=(bRr.alloc lRr _).alloc (by simp) _
 have hrow:((w.alloc (.cells #[.int .i64 x0,.int .i64 x1,.int .i64 x2,.int .i64 x3,.int .i64 x4,.int .i64 x5] 68)).alloc (.cells #[.bool s,.slice A k c] 41)).heap[w.heap.size]? =some (.cells #[.int .i64 x0,.int .i64 x1,.int .i64 x2,.int .i64 x3,.int .i64 x4,.int .i64 x5] 68 (0,0)):=
  (heap_alloc_old _ _ (by simp)).trans (heap_alloc_new _ _)
 have hduo:=Duo.new (w.alloc (.cells #[.int .i64 x0,.int .i64 x1,.int .i64 x2,.int .i64 x3,.int .i64 x4,.int .i64 x5] 68)) (.bool s) (.slice A k c)
 rw [World.size_alloc] at hduo
 have hsz:w.heap.size+1<((w.alloc (.cells #[.int .i64 x0,.int .i64 x1,.int .i64 x2,.int .i64 x3,.int .i64 x4,.int .i64 x5] 68)).alloc (.cells #[.bool s,.slice A k c] 41)).heap.size:=by simp
 generalize ((w.alloc (.cells #[.int .i64 x0,.int .i64 x1,.int .i64 x2,.int .i64 x3,.int .i64 x4,.int .i64 x5] 68)).alloc (.cells #[.bool s,.slice A k c] 41))=wt at*
 have pc:Hid (∀W,Below wt.heap.size wt W→W.cell? ⟨w.heap.size,0,none⟩=some (.int .i64 x0)∧W.cell? ⟨w.heap.size,1,none⟩=some (.int .i64 x1)∧W.cell? ⟨w.heap.size,2,none⟩=some (.int .i64 x2)∧W.cell? ⟨w.heap.size,3,none⟩=some (.int .i64 x3)∧W.cell? ⟨w.heap.size,4,none⟩=some (.int .i64 x4)∧W.cell? ⟨w.heap.size,5,none⟩=some (.int .i64 x5)∧W.cell? ⟨w.heap.size+1,0,none⟩=some (.bool s)∧W.cell? ⟨w.heap.size+1,1,none⟩=some (.slice A k c)):=fun W hW=>by
  have hr:=(hW.block w.heap.size (by omega)).trans hrow;have hd':=hduo.bel hW;exact ⟨(cell_of_row W w.heap.size 0 _ _ (0,0) hr).trans rfl,(cell_of_row W w.heap.size 1 _ _ (0,0) hr).trans rfl,(cell_of_row W w.heap.size 2 _ _ (0,0) hr).trans rfl,(cell_of_row W w.heap.size 3 _ _ (0,0) hr).trans rfl,(cell_of_row W w.heap.size 4 _ _ (0,0) hr).trans rfl,(cell_of_row W w.heap.size 5 _ _ (0,0) hr).trans rfl,hd'.cell0,hd'.cell1⟩
 obtain ⟨y0,y1,y2,y3,y4,y5,z0,z1⟩:=pc.out wt bRr
 have hmt:=map_bel hm b2
 have hdt:=hd.bel b2
 have hxt:=hx.bel b2
 have Hm:=hiD hmt
 have Hd:=hiD hdt
 have Hx:=hiD hxt
 clear hrow hduo hmt hdt hxt hm hd hx hsz
 obtain ⟨v0,ps0,hrun0,hv0⟩:=Hm.out.drew.lookup plc_law Tryz.underlying63 (zeroInt _) (R:=intEl) rfl hkey'
 obtain ⟨s0,A0,k0,c0,ls0,rfl,h1,h2,h3,h4,h5⟩:=(Hd.out.look Hp.out hv0).ex
 have H4:=hiD h4
 have H5:=hiD h5
 clear hv0 h4 h5
 go_region_with (go_at_call 56;refine (zadd s0 s A0 A k0 k c0 c ls0 ls _ H4.out.drew Hx.out.drew h1 h2 hkc hc (by omega) (by omega)).mono ?_;rintro e w1 ⟨s1,A1,k1,c1,ls1,rfl,g1,g2,g3,g4,g5,hbw1'⟩;have hbw1:Below wt.heap.size wt w1:=bRr.drew.trans hbw1';obtain ⟨y0',y1',y2',y3',y4',y5',z0',z1'⟩:=pc.out w1 hbw1;obtain ⟨w7,hrun7,hm7,hg7⟩:=(map_bel Hm.out hbw1).update plc_law Tryz.underlying63 hnc hkey' (intEl_mk s1 A1 k1 c1))
 all_goals
  have o1:Only (fun x=>x=b) w w1:=⟨hbw1.os.trans b2.os,hbw1.tape.trans b2.tape,hbw1.output.trans b2.output,Nat.le_trans b2.size hbw1.size,fun i hi _=>(hbw1.block i (Nat.lt_of_lt_of_le hi b2.size)).trans (b2.block i hi)⟩;have o2:Only (fun x=>x=b) w1 w7:=(Only.of_grown hg7).mono (fun i hi=>by injection hi with hi;exact hi.symm);have d1:=(sumD_map (Hd.out.bel hbw1) (map_bel Hm.out hbw1) o2).mono (C:=max B C+1) (by omega);have z1':ZAt w7 (.agg #[.bool s1,.slice A1 k1 c1]) (max B C+1) (coM L [x0,x1,x2,x3,x4,x5]+intZ s ls):=
   ⟨s1,A1,k1,c1,ls1,rfl,g1,g2,by omega,limbs_map g4 (map_bel Hm.out hbw1) o2,by rw [← H5.out];exact g5.eq⟩
  have d2:=d1.put Hp.out z1';have Fin:Hid (SumM w7 b (nc+1) n (max B C+1) (L++[([x0,x1,x2,x3,x4,x5],intZ s ls)])∧Only (fun x=>x=b) w w7):=⟨⟨_,hm7,d2⟩,o1.trans o2⟩;clear d1 z1' d2 o1 o2 hm7 hg7;go_end0
  exact ⟨rfl,Fin.out⟩
end Go.Proofs.YtehcoffbiplphaaGreat
namespace Go.Proofs.YtehcoffbiplphaaGreat
open Go.RowKit Cl
attribute [local go_sem ↓] Go.wp_at_zero Go.wp_at_succ
theorem ints_oneCell (xs:List Int):∀v∈ints xs,v.oneCell'=true:=by
 intro v hv
 obtain ⟨x,_,rfl⟩:=List.mem_map.1 hv
 rfl
theorem copy_plc (W:World) (g:Nat) (E:Option Addr) (n e:Nat) (ps:Plc) (ty:TypeId) (hE:Ints W E n ps) (hn:n≤6) (hg:W.heap[g]? =some (.cells #[.int .i64 0,.int .i64 0,.int .i64 0,.int .i64 0,.int .i64 0,.int .i64 0] 68 (0,0))):
 (Builtin.copy_ #[42,42] ty #[.slice (some ⟨g,0,none⟩) 6 6,.slice E n e]).run Tryz.prog W=.ok (.int .i64 (n:Int)) (W.setRow g (ints (padP n ps)).toArray):=by
 have hl:=hE.len
 rcases Nat.eq_zero_or_pos n with h0 | h0
 · subst h0
   obtain rfl:=List.eq_nil_of_length_eq_zero hl;have:=run_copy_none (P:=Tryz.prog) W 42 42 ty 3 (some ⟨g,0,none⟩) E 6 6 0 e Tryz.underlying42 (by kernel_rfl) rfl;rw [this];have hs:=setRow_self W g _ 68 (0,0) hg;show Result.ok _ W=Result.ok _ (W.setRow g #[.int .i64 0,.int .i64 0,.int .i64 0,.int .i64 0,.int .i64 0,.int .i64 0]);rw [hs];rfl
 · obtain ⟨b,o,rfl,hb,hc⟩:=hE.at_ h0
   have hli:(ints ps).length=n:=by simp [ints,hl]
   have:=run_copy_row (P:=Tryz.prog) W 42 42 ty 3 g 0 6 6 ⟨b,o,none⟩ n e _ 68 (ints ps) Tryz.underlying42 (by kernel_rfl) hg (by rw [hli];show n=min n 6;omega) (fun j v hj=>by
    have hjl:j<ps.length:=by
     have:=(List.getElem?_eq_some_iff.1 hj).1;rwa [ints_length] at this
    rw [ints_get hjl] at hj;injection hj with hj
    rw [← hj];have e:(⟨b,o,none⟩:Addr).add j=⟨b,o+j,none⟩:=by
     unfold Addr.add;split
     · rename_i e;subst e;rfl
     · rfl
    rw [e];exact hc j (by omega)) (by rw [hli];show 0+n≤6;omega) (ints_oneCell ps)
   rw [this,hli];have e1:(#[Value.int .i64 0,.int .i64 0,.int .i64 0,.int .i64 0,.int .i64 0,.int .i64 0].toList.take 0++ints ps++ #[Value.int .i64 0,.int .i64 0,.int .i64 0,.int .i64 0,.int .i64 0,.int .i64 0].toList.drop (0+n))=ints (padP n ps):=by
    unfold padP;have h6:[Value.int .i64 0,.int .i64 0,.int .i64 0,.int .i64 0,.int .i64 0,.int .i64 0]=List.replicate 6 (Value.int .i64 0):=rfl;show []++ints ps++List.drop (0+n) [Value.int .i64 0,.int .i64 0,.int .i64 0,.int .i64 0,.int .i64 0,.int .i64 0]=_;rw [h6,Nat.zero_add,List.drop_replicate];simp [ints]
   rw [e1];rfl
theorem below_setRow {B:Nat} {w0 w:World}(h:Below B w0 w) {g:Nat}(hg:B≤g) (cs:Array Value):Below B w0 (w.setRow g cs):=
 ⟨h.os,h.tape,h.output,by have:=h.size;simpa [World.setRow] using this,fun k hk=>by
   have hne:¬g=k:=by omega
   rw [← h.block k hk];simp [World.setRow,Array.getElem?_modify,hne]⟩
theorem setRow_other {w:World} {g k:Nat}(h:k≠g) (cs:Array Value):(w.setRow g cs).heap[k]? =w.heap[k]? :=by
 have hne:¬g=k:=fun e=>h e.symm
 simp [World.setRow,Array.getElem?_modify,hne]
structure TermsOk (n C:Nat) (L:List TV):Prop where
 len:∀t∈L,t.2.length=n
 bd:∀t∈L,∀x∈t.2,0≤x∧x≤4611686018427387904
 co:∀t∈L,t.1.2.length≤C
theorem mgathered (n C:Nat) (A:Option Addr) (m c:Nat) (L:List TV) (w:World) (hx:Trs w A m L) (hm:m≤100000) (hn:n≤6) (hC:C≤800000) (hL:TermsOk n C L):
 Calls Tryz.prog 38 #[.slice A m c] w fun e w'=>∃b,e=.returned (.map (some b))∧w.heap.size≤b∧SumM w' b m n (C+m) (liftM n (mvT L))∧Below w.heap.size w w':=by
 have Hl:=hiD hx.len
 have HL:=hiD hL
 have Hx:=hiD hx
 have hmm:=@run_makeMap Tryz.prog
 clear hL hx
 go_enter Tryz.func38,Tryz.ntmps38
 go_wp2_with fail
 clear hmm
 go_loopw [10] (fun i wr=>∃k:Nat,k≤m∧i=.int .i64 k∧Hid (SumM wr w.heap.size k n (C+k) (liftM n (mvT (L.take k))))∧Below w.heap.size w wr) (fun i _=>m - (intOf i).toNat)
 case atStart=>
  exact ⟨0,by omega,rfl,⟨.map [],World.ownsMap_made _ _ _ _,SumD.start _ _ _⟩,bRr.alloc lRr _⟩
 case round=>
  obtain ⟨k,hk,rfl,hsum,hbel⟩:=hrel;obtain ⟨wo,rfl⟩:∃wo:World,wo=wr:=⟨_,rfl⟩;by_cases hlt:k<m
  · obtain ⟨b,o,rfl,hb,hc⟩:=Hx.out.at_ (by omega)
    (have hkl:k<L.length:=by rw [Hl.out];exact hlt);obtain ⟨Ai,ci,Ei,ei,e1,e2,e3,e4,e5,e6,e7,e8,e9⟩:=hc k hkl;have hmem:L[k]∈L:=List.getElem_mem hkl;have t1:=HL.out.len _ hmem;have t2:=HL.out.bd _ hmem;have t3:=HL.out.co _ hmem;(have htk:Hid (L.take (k+1)=L.take k++[L[k]]):=by show _=_;rw [List.take_succ_eq_append_getElem hkl]);clear hc hmem;generalize L[k]=x at*
    obtain ⟨⟨s,xs⟩,ps⟩:=x;simp only at e1 e2 e3 e4 e6 e8 e9 t1 t2 t3;(have hlt':(k:Int)<(m:Int):=by omega);(have hk0:(0:Int)≤(k:Int):=by omega);have k1:=(hbel.cell (p:=⟨b,o+3*k,none⟩) hb).trans e1;have k2:=(hbel.cell (p:=⟨b,o+(3*k+1),none⟩) hb).trans e2;have k3:=(hbel.cell (p:=⟨b,o+(3*k+2),none⟩) hb).trans e3;rw [Nat.mul_comm 3 k] at k1 k2 k3;rw [← Nat.add_assoc] at k2 k3;have E8:=hiD (e8.bel hbel);rw [t1] at k3 e9 e6;have E9:=hiD (e9.bel hbel);have T2:=hiD t2;have T1:=hiD t1;clear e8 e9 e1 e2 e3 t2 t1;(go_wp2_with fail);have hbt:Below wo.heap.size wo ((wo.alloc (.cells #[.bool s,.slice Ai xs.length ci,.slice Ei n ei] 44)).alloc (.cells #[.int .i64 0,.int .i64 0,.int .i64 0,.int .i64 0,.int .i64 0,.int .i64 0] 68)):=(bRr.alloc lRr _).alloc (by simp) _;have hpl:=heap_alloc_new (wo.alloc (.cells #[.bool s,.slice Ai xs.length ci,.slice Ei n ei] 44)) (.cells #[.int .i64 0,.int .i64 0,.int .i64 0,.int .i64 0,.int .i64 0,.int .i64 0] 68);rw [World.size_alloc] at hpl;have htm:=(heap_alloc_old (wo.alloc (.cells #[.bool s,.slice Ai xs.length ci,.slice Ei n ei] 44)) (.cells #[.int .i64 0,.int .i64 0,.int .i64 0,.int .i64 0,.int .i64 0,.int .i64 0] 68) (r:=wo.heap.size) (by simp)).trans (heap_alloc_new wo _);generalize ((wo.alloc (.cells #[.bool s,.slice Ai xs.length ci,.slice Ei n ei] 44)).alloc (.cells #[.int .i64 0,.int .i64 0,.int .i64 0,.int .i64 0,.int .i64 0,.int .i64 0] 68))=wt at*
    have hcp:=fun ty=>copy_plc wt.drew (wo.heap.size+1) Ei n ei ps ty ((E9.out.bel hbt).drewN 1) hn hpl;have c0:=(cell_of_row wt wo.heap.size 0 _ _ (0,0) htm).trans rfl;have c1:=(cell_of_row wt wo.heap.size 1 _ _ (0,0) htm).trans rfl;have c2:=(cell_of_row wt wo.heap.size 2 _ _ (0,0) htm).trans rfl;go_region
    have hrow:=setRow_heap wt.drew (wo.heap.size+1) _ (ints (padP n ps)).toArray 68 (0,0) hpl;have htm3:(wt.drew.setRow (wo.heap.size+1) (ints (padP n ps)).toArray).heap[wo.heap.size]? =_:=(setRow_other (by omega) _).trans htm;have hb3:Below wo.heap.size wo (wt.drew.setRow (wo.heap.size+1) (ints (padP n ps)).toArray):=below_setRow hbt.drew (by omega) _;generalize wt.drew.setRow (wo.heap.size+1) (ints (padP n ps)).toArray=w3 at*
    obtain ⟨x0,x1,x2,x3,x4,x5,hpad⟩:∃x0 x1 x2 x3 x4 x5,padP n ps=[x0,x1,x2,x3,x4,x5]:=by
     match padP n ps,padP_length hn T1.out with
     | [x0,x1,x2,x3,x4,x5],_=>exact ⟨_,_,_,_,_,_,rfl⟩
    rw [hpad] at hrow;have d0:=(cell_of_row w3 (wo.heap.size+1) 0 _ _ (0,0) hrow).trans rfl;have d1:=(cell_of_row w3 (wo.heap.size+1) 1 _ _ (0,0) hrow).trans rfl;have d2:=(cell_of_row w3 (wo.heap.size+1) 2 _ _ (0,0) hrow).trans rfl;have d3:=(cell_of_row w3 (wo.heap.size+1) 3 _ _ (0,0) hrow).trans rfl;have d4:=(cell_of_row w3 (wo.heap.size+1) 4 _ _ (0,0) hrow).trans rfl;have d5:=(cell_of_row w3 (wo.heap.size+1) 5 _ _ (0,0) hrow).trans rfl;have q0:=(cell_of_row w3 wo.heap.size 0 _ _ (0,0) htm3).trans rfl;have q1:=(cell_of_row w3 wo.heap.size 1 _ _ (0,0) htm3).trans rfl;change _=some (Value.int .i64 x0) at d0
    change _=some (Value.int .i64 x1) at d1
    change _=some (Value.int .i64 x2) at d2
    change _=some (Value.int .i64 x3) at d3
    change _=some (Value.int .i64 x4) at d4
    change _=some (Value.int .i64 x5) at d5
    change _=some (Value.bool s) at q0
    change _=some (Value.slice Ai xs.length ci) at q1
    (have hgood:GoodP n [x0,x1,x2,x3,x4,x5]:=by rw [← hpad];exact padP_good hn T1.out T2.out);have hsum3:SumM w3 w.heap.size k n (C+k) (liftM n (mvT (L.take k))):=by
     obtain ⟨D,m1,m2⟩:=hsum.out;exact ⟨D,map_bel m1 hb3,m2.bel hb3⟩
    have Ca:Hid (Calls Tryz.prog 43 #[.map (some w.heap.size),.agg #[.int .i64 x0,.int .i64 x1,.int .i64 x2,.int .i64 x3,.int .i64 x4,.int .i64 x5],.agg #[.bool s,.slice Ai xs.length ci]] w3 _):=
     madd w.heap.size k n (C+k) C _ [x0,x1,x2,x3,x4,x5] s Ai xs.length ci xs w3 hsum3 hgood (by unfold maxLen;omega) (E8.out.bel hb3) e4 e5 t3 (by omega) (by omega)
    have Hb3:=hiD (hbel.tm hb3);have Hpad:=hiD hpad;clear hcp c0 c1 c2 hpl htm htm3 hrow hb3 hbt hgood hsum3 hsum E8 E9 hpad;(go_wp2_with fail);refine Ca.out.mono ?_;rintro e w4 ⟨rfl,hs4,ho4⟩;have hb4:Below w.heap.size w w4:=Hb3.out.trans (ho4.below Hb3.out.size (fun x hx=>by omega));have hs5:Hid (SumM w4 w.heap.size (k+1) n (C+(k+1)) (liftM n (mvT (L.take (k+1))))):=by
     (have e1:max (C+k) C+1=C+(k+1):=by omega);rw [e1] at hs4;have e2:liftM n (mvT (L.take (k+1)))=liftM n (mvT (L.take k))++[([x0,x1,x2,x3,x4,x5],intZ s xs)]:=by
      rw [htk.out,mvT_append,liftM_append,← Hpad.out];rfl
     show SumM _ _ _ _ _ _;rw [e2];exact hs4
    clear hs4 ho4;(go_wp2);go_roundw
    case rel=>exact ⟨k+1,by omega,by go_num,hs5,hb4⟩
    case measure=>simp [intOf];omega
  · obtain rfl:k=m:=by omega
    (have hlt':¬(k:Int)<(k:Int):=by omega);have hall:Hid (L.take k=L):=List.take_of_length_le (by rw [Hl.out];exact lRr);(go_wp2_with fail);go_ret;have hs:=hsum.out;rw [hall.out] at hs;exact ⟨w.heap.size,rfl,lRr,hs,hbel⟩
end Go.Proofs.YtehcoffbiplphaaGreat
namespace Cl
def midP (p q:Plc) (j:Nat):Plc:=(List.range 6).map fun i=>if i<j then nth p i+nth q i else nth p i
theorem midP_length (p q:Plc) (j:Nat):(midP p q j).length=6:=by simp [midP]
theorem nth_midP {p q:Plc} {i j:Nat}(hi:i<6):nth (midP p q j) i=if i<j then nth p i+nth q i else nth p i:=by
 unfold midP
 simp [nth,List.getD,hi]
theorem midP_zero {p q:Plc}(hp:p.length=6):midP p q 0=p:=list_ext (by rw [midP_length,hp]) fun i hi=>by
 rw [midP_length] at hi
 rw [nth_midP hi,if_neg (by omega)]
theorem midP_step {p q:Plc} {j:Nat}(hj:j<6):(midP p q j).set j (nth p j+nth q j)=midP p q (j+1):=list_ext (by rw [List.length_set,midP_length,midP_length]) fun i hi=>by
 rw [List.length_set,midP_length] at hi
 rw [nth_set (by rw [midP_length];omega),nth_midP hi,nth_midP hi]
 by_cases e:i=j
 · subst e;rw [if_pos rfl,if_pos (by omega)]
 · rw [if_neg e]
   by_cases h:i<j
   · rw [if_pos h,if_pos (by omega)]
   · rw [if_neg h,if_neg (by omega)]
theorem midP_end {n:Nat} {p q:Plc}(hn:n≤6) (hp:p.length=6) (hq:q.length=n):midP p q n=addP p (padP n q):=list_ext (by rw [midP_length,addP_length hp (padP_length hn hq)]) fun i hi=>by
 rw [midP_length] at hi
 rw [nth_midP hi]
 have e1:nth (addP p (padP n q)) i=nth p i+nth (padP n q) i:=by
  have hl:=padP_length hn hq;unfold addP nth;simp [List.getD,hp,hl,hi]
 rw [e1]
 unfold padP
 by_cases h:i<n
 · rw [if_pos h,nth_append_lt (by omega)]
 · rw [if_neg h,nth_append_ge (by omega),nth_replicate0,Int.add_zero]
theorem good_midP {n:Nat} {p q:Plc}(_hn:n≤6) (hp:p.length=6) (hq:q.length=n) (hpb:∀x∈p,0≤x∧x≤1000000000000) (hqb:∀x∈q,0≤x∧x≤1000000000000) (hp0:∀i,n≤i→nth p i=0):GoodP n (midP p q n):=by
 refine ⟨midP_length p q n,fun x hx=> ?_,fun i hi=> ?_⟩
 · unfold midP at hx
   obtain ⟨i,hi,rfl⟩:=List.mem_map.1 hx;have hi6:=List.mem_range.1 hi;have h1:=hpb _ (nth_mem (xs:=p) (i:=i) (by omega));by_cases h:i<n
   · have h2:=hqb _ (nth_mem (xs:=q) (i:=i) (by omega))
     rw [if_pos h];omega
   · rw [if_neg h];omega
 · by_cases h6:i<6
   · rw [nth_midP h6,if_neg (by omega),hp0 i hi]
   · rw [nth_ge (by rw [midP_length];omega)]
def timesT (n:Nat) (p:Plc) (z:Int) (T:Mv):Mv:=T.map fun t=>(addP p (padP n t.1),z*t.2)
theorem timesT_append (n:Nat) (p:Plc) (z:Int) (T U:Mv):timesT n p z (T++U)=timesT n p z T++timesT n p z U:=List.map_append
end Cl
namespace Go.Proofs.YtehcoffbiplphaaGreat
open Go.RowKit Cl
attribute [local go_sem ↓] Go.wp_at_zero Go.wp_at_succ
theorem ints_mapO {w w':World} {A:Option Addr} {n:Nat} {xs:List Int} {k:TypeId} {R:Value→Option (DataW Value×List MemPlace)} {b m:Nat} {D:DataW Value}(h:Ints w A n xs) (hm:w.ownsMap Tryz.prog k R b m D) (hg:Only (fun x=>x=b) w w'):Ints w' A n xs:=
 ⟨h.len,fun hn=>by
   obtain ⟨bb,o,e,hb,hc⟩:=h.at_ hn;exact ⟨bb,o,e,Nat.lt_of_lt_of_le hb hg.size,fun i hi=>cells_map hm hg (p:=⟨bb,o+i,none⟩) hb (hc i hi)⟩,h.ok⟩
theorem sumM_bel {w w':World} {b nc n B:Nat} {L:Mv}(h:SumM w b nc n B L) (hb:Below w.heap.size w w'):SumM w' b nc n B L:=by
 obtain ⟨D,m1,m2⟩:=h
 exact ⟨D,map_bel m1 hb,m2.bel hb⟩
theorem sumM_mono {w:World} {b nc n B C:Nat} {L:Mv}(h:SumM w b nc n B L) (hb:B≤C):SumM w b nc n C L:=by
 obtain ⟨D,m1,m2⟩:=h
 exact ⟨D,m1,m2.mono hb⟩
theorem only_bel {w w' w'':World} {b:Nat}(h:Only (fun x=>x=b) w w') (hb:Below w'.heap.size w' w''):Only (fun x=>x=b) w w'':=
 h.trans ⟨hb.os,hb.tape,hb.output,hb.size,fun k hk _=>hb.block k hk⟩
theorem mtimes (bb nc n B K C:Nat) (L:Mv) (p:Plc) (s:Bool) (A:Option Addr) (kk c:Nat) (ls:List Int) (Bt:Option Addr) (m cb:Nat) (T:List TV) (w:World)
 (hs:SumM w bb nc n B L) (hp:p.length=6) (hpb:∀x∈p,0≤x∧x≤1000000000000) (hp0:∀i,n≤i→nth p i=0) (hT:TermsOk n C T) (hTb:∀t∈T,∀x∈t.2,x≤1000000000000) (hnc:nc+m<maxLen) (hx:Limbs w A kk ls) (hkc:kk≤c) (hc:c≤9223372036854775807) (hk:kk≤K) (hB:B≤500000) (hK:K≤300000) (hC:C≤100000) (ht:Trs w Bt m T) (hm:m≤100000) (hn:n≤6):
 Calls Tryz.prog 44 #[.map (some bb),plcV p,.agg #[.bool s,.slice A kk c],.slice Bt m cb] w fun e w'=>e=.returned (.tuple #[])∧SumM w' bb (nc+m) n (max B (K+C+1)+m) (L++timesT n p (intZ s ls) (mvT T))∧Only (fun x=>x=bb) w w':=by
 have hmp:=hs
 obtain ⟨D0,hm0,_⟩:=hmp
 have hltb:=hm0.lt
 obtain ⟨x0,x1,x2,x3,x4,x5,hpe⟩:∃x0 x1 x2 x3 x4 x5,p=[x0,x1,x2,x3,x4,x5]:=by
  match p,hp with
  | [x0,x1,x2,x3,x4,x5],_=>exact ⟨_,_,_,_,_,_,rfl⟩
 have hcall:plcV p=.agg #[.int .i64 x0,.int .i64 x1,.int .i64 x2,.int .i64 x3,.int .i64 x4,.int .i64 x5]:=by rw [hpe];rfl
 rw [hcall]
 clear hcall
 have HT:=hiD hT
 have HTb:=hiD hTb
 have Hpl:=hiD hp
 have Hpb:=hiD hpb
 have Hp0:=hiD hp0
 have Htl:=hiD ht.len
 have Hpe:=hiD hpe
 clear hT hTb hp hpb hp0 hpe
 go_enter Tryz.func44,Tryz.ntmps44
 go_wp2_with fail
 have b2:Below w.heap.size w ((w.alloc (.cells #[.int .i64 x0,.int .i64 x1,.int .i64 x2,.int .i64 x3,.int .i64 x4,.int .i64 x5] 68)).alloc (.cells #[.bool s,.slice A kk c] 41)):=(bRr.alloc lRr _).alloc (by simp) _
 have hrow:Row ((w.alloc (.cells #[.int .i64 x0,.int .i64 x1,.int .i64 x2,.int .i64 x3,.int .i64 x4,.int .i64 x5] 68)).alloc (.cells #[.bool s,.slice A kk c] 41)) w.heap.size 68 [x0,x1,x2,x3,x4,x5]:=
  (heap_alloc_old _ _ (by simp)).trans (heap_alloc_new _ _)
 have hduo:=Duo.new (w.alloc (.cells #[.int .i64 x0,.int .i64 x1,.int .i64 x2,.int .i64 x3,.int .i64 x4,.int .i64 x5] 68)) (.bool s) (.slice A kk c)
 rw [World.size_alloc] at hduo
 have hsz:w.heap.size+1<((w.alloc (.cells #[.int .i64 x0,.int .i64 x1,.int .i64 x2,.int .i64 x3,.int .i64 x4,.int .i64 x5] 68)).alloc (.cells #[.bool s,.slice A kk c] 41)).heap.size:=by simp
 generalize ((w.alloc (.cells #[.int .i64 x0,.int .i64 x1,.int .i64 x2,.int .i64 x3,.int .i64 x4,.int .i64 x5] 68)).alloc (.cells #[.bool s,.slice A kk c] 41))=wt at*
 have Hm:=hiD (map_bel hm0 b2)
 have Hx:=hiD (hx.bel b2)
 have Ht:=hiD (ht.bel b2)
 have Hrow:=hiD hrow
 have Hduo:=hiD hduo
 have hs0:Hid (SumM wt bb nc n (max B (K+C+1)) L):=sumM_mono (sumM_bel hs b2) (by omega)
 have hob:Only (fun x=>x=bb) w wt:=⟨b2.os,b2.tape,b2.output,b2.size,fun i hi _=>b2.block i hi⟩
 clear hm0 hx ht hrow hduo hs b2
 go_loopw [15] (fun i wr=>∃k:Nat,k≤m∧i=.int .i64 k∧Hid (SumM wr bb (nc+k) n (max B (K+C+1)+k) (L++timesT n p (intZ s ls) (mvT (T.take k))))∧Only (fun x=>x=bb) wt wr) (fun i _=>m - (intOf i).toNat)
 case atStart=>
  refine ⟨0,by omega,rfl,?_,Only.refl _ _⟩;show SumM _ _ _ _ _ _;rw [List.take_zero];show SumM _ _ _ _ _ (L++[]);rw [List.append_nil];exact hs0.out
 case round=>
  clear hs0;obtain ⟨k,hk',rfl,hsum,hon⟩:=hrel;obtain ⟨wo,rfl⟩:∃wo:World,wo=wr:=⟨_,rfl⟩;by_cases hlt:k<m
  · obtain ⟨b,o,rfl,hb,hcc⟩:=Ht.out.at_ (by omega)
    (have hkl:k<T.length:=by rw [Htl.out];exact hlt);obtain ⟨Ai,ci,Ei,ei,e1,e2,e3,e4,e5,e6,e7,e8,e9⟩:=hcc k hkl;have hmem:T[k]∈T:=List.getElem_mem hkl;have t1:=HT.out.len _ hmem;have t2:=HT.out.bd _ hmem;have t3:=HT.out.co _ hmem;have t4:=HTb.out _ hmem;(have htk:Hid (T.take (k+1)=T.take k++[T[k]]):=by show _=_;rw [List.take_succ_eq_append_getElem hkl]);clear hcc hmem;generalize T[k]=x at*
    obtain ⟨⟨s',xs⟩,ps⟩:=x;simp only at e1 e2 e3 e4 e6 e8 e9 t1 t2 t3 t4;(have hlt':(k:Int)<(m:Int):=by omega);(have hk0:(0:Int)≤(k:Int):=by omega);have k1:=cells_map Hm.out hon (p:=⟨b,o+3*k,none⟩) hb e1;have k2:=cells_map Hm.out hon (p:=⟨b,o+(3*k+1),none⟩) hb e2;have k3:=cells_map Hm.out hon (p:=⟨b,o+(3*k+2),none⟩) hb e3;rw [Nat.mul_comm 3 k] at k1 k2 k3;rw [← Nat.add_assoc] at k2 k3;rw [t1] at k3 e9 e6;have E8:=hiD (limbs_map e8 Hm.out hon);have E9:=hiD (ints_mapO e9 Hm.out hon);have T2:=hiD t2;have T4:=hiD t4;have T1:=hiD t1;clear e8 e9 e1 e2 e3 t2 t1 t4;have hrowo:Hid (Row wo w.heap.size 68 [x0,x1,x2,x3,x4,x5]):=Hrow.out.only hon (by omega);have hduoo:Hid (Duo wo (w.heap.size+1) (.bool s) (.slice A kk c)):=Hduo.out.keep (hon.block _ (by omega) (by omega));have hlo2:w.heap.size+1<wo.heap.size:=Nat.lt_of_lt_of_le hsz hon.size;(have hlo:w.heap.size<wo.heap.size:=by omega);have y0:wo.cell? ⟨w.heap.size,0,none⟩=some (.int .i64 x0):=hrowo.out.cell (i:=0) (by show 0<6;omega);have y1:wo.cell? ⟨w.heap.size,1,none⟩=some (.int .i64 x1):=hrowo.out.cell (i:=1) (by show 1<6;omega);have y2:wo.cell? ⟨w.heap.size,2,none⟩=some (.int .i64 x2):=hrowo.out.cell (i:=2) (by show 2<6;omega);have y3:wo.cell? ⟨w.heap.size,3,none⟩=some (.int .i64 x3):=hrowo.out.cell (i:=3) (by show 3<6;omega);have y4:wo.cell? ⟨w.heap.size,4,none⟩=some (.int .i64 x4):=hrowo.out.cell (i:=4) (by show 4<6;omega);have y5:wo.cell? ⟨w.heap.size,5,none⟩=some (.int .i64 x5):=hrowo.out.cell (i:=5) (by show 5<6;omega);(go_wp2_with fail);have hq:Below wo.heap.size wo ((wo.alloc (.cells #[.bool s',.slice Ai xs.length ci,.slice Ei n ei] 44)).alloc (.cells #[.int .i64 x0,.int .i64 x1,.int .i64 x2,.int .i64 x3,.int .i64 x4,.int .i64 x5] 68)):=(bRr.alloc lRr _).alloc (by simp) _;have hrq:Row ((wo.alloc (.cells #[.bool s',.slice Ai xs.length ci,.slice Ei n ei] 44)).alloc (.cells #[.int .i64 x0,.int .i64 x1,.int .i64 x2,.int .i64 x3,.int .i64 x4,.int .i64 x5] 68)) (wo.alloc (.cells #[.bool s',.slice Ai xs.length ci,.slice Ei n ei] 44)).heap.size 68 [x0,x1,x2,x3,x4,x5]:=heap_alloc_new _ _;rw [World.size_alloc] at hrq;have htq:=(heap_alloc_old (wo.alloc (.cells #[.bool s',.slice Ai xs.length ci,.slice Ei n ei] 44)) (.cells #[.int .i64 x0,.int .i64 x1,.int .i64 x2,.int .i64 x3,.int .i64 x4,.int .i64 x5] 68) (r:=wo.heap.size) (by simp)).trans (heap_alloc_new wo _);(have hqs:wo.heap.size+1<((wo.alloc (.cells #[.bool s',.slice Ai xs.length ci,.slice Ei n ei] 44)).alloc (.cells #[.int .i64 x0,.int .i64 x1,.int .i64 x2,.int .i64 x3,.int .i64 x4,.int .i64 x5] 68)).heap.size:=by simp);generalize ((wo.alloc (.cells #[.bool s',.slice Ai xs.length ci,.slice Ei n ei] 44)).alloc (.cells #[.int .i64 x0,.int .i64 x1,.int .i64 x2,.int .i64 x3,.int .i64 x4,.int .i64 x5] 68))=w3 at*
    (have hr0:Hid (Row w3 (wo.heap.size+1) 68 (midP p ps 0)):=by show Row _ _ _ _;rw [midP_zero Hpl.out,Hpe.out];exact hrq);have Htq:=hiD htq;clear htq hrq y0 y1 y2 y3 y4 y5 k1 k2 k3;go_loopw [23] (fun i wr=>∃j:Nat,j≤n∧i=.int .i64 j∧Hid (Row wr (wo.heap.size+1) 68 (midP p ps j))∧Only (fun x=>x=wo.heap.size+1) w3 wr) (fun i _=>n - (intOf i).toNat)
    case atStart=>exact ⟨0,by omega,rfl,hr0,Only.refl _ _⟩
    case round=>
     obtain ⟨j,hj,rfl,hrj,hoj⟩:=hrel;obtain ⟨wi,rfl⟩:∃wi:World,wi=wr:=⟨_,rfl⟩;by_cases hjl:j<n
     · obtain ⟨b3,o3,rfl,hb3,hc3⟩:=E9.out.at_ (by omega)
       have hce:=(hoj.cell (p:=⟨b3,o3+j,none⟩) (Nat.lt_of_lt_of_le hb3 hq.size) (by show¬b3=wo.heap.size+1;omega)).trans ((hq.cell (p:=⟨b3,o3+j,none⟩) hb3).trans (hc3 j hjl));have hcp:=hrj.out.cell (i:=j) (by rw [midP_length];omega);rw [nth_midP (by omega),if_neg (by omega)] at hcp;have hfp:=hrj.out.frozen j;(have hjl':(j:Int)<(n:Int):=by omega);(have hj0:(0:Int)≤(j:Int):=by omega);(have hj6:(j:Int)<6:=by omega);obtain ⟨q1,q2⟩:0≤nth p j∧nth p j≤1000000000000:=Hpb.out _ (nth_mem (by rw [Hpl.out];omega));have q3:0≤nth ps j∧nth ps j≤1000000000000:=⟨(T2.out _ (nth_mem (by rw [T1.out];omega))).1,T4.out _ (nth_mem (by rw [T1.out];omega))⟩;obtain ⟨q3,q4⟩:=q3;have ew:IntKind.i64.wrap (nth p j+nth ps j)=nth p j+nth ps j:=IntWalk.i64_in _ (by omega);have hset:Hid (Row (wi.setCell ⟨wo.heap.size+1,j,none⟩ (.int .i64 (nth p j+nth ps j))) (wo.heap.size+1) 68 (midP p ps (j+1))):=by
        have:=hrj.out.set j (nth p j+nth ps j);rw [midP_step (by omega)] at this;exact this
       have hoj2:=hiD (hoj.setCell (p:=⟨wo.heap.size+1,j,none⟩) rfl (.int .i64 (nth p j+nth ps j)));clear hc3 hrj hoj q1 q2 q3 q4;(go_wp2_with fail);go_roundw
       case rel=>exact ⟨j+1,by omega,by go_num,hset,hoj2.out⟩
       case measure=>simp [intOf];omega
     · obtain rfl:j=n:=by omega
       (have hjl':¬(j:Int)<(j:Int):=by omega);have hbi:Below wo.heap.size wo wi:=hq.trans (hoj.below (B:=wo.heap.size) hq.size (fun x hx=>by omega));have Hgood:=hiD (good_midP (n:=j) (q:=ps) hn Hpl.out T1.out Hpb.out (fun x hx=>⟨(T2.out x hx).1,T4.out x hx⟩) Hp0.out);have hend:=midP_end (n:=j) (q:=ps) hn Hpl.out T1.out;obtain ⟨z0,z1,z2,z3,z4,z5,hpad⟩:∃z0 z1 z2 z3 z4 z5,midP p ps j=[z0,z1,z2,z3,z4,z5]:=by
        match midP p ps j,midP_length p ps j with
        | [z0,z1,z2,z3,z4,z5],_=>exact ⟨_,_,_,_,_,_,rfl⟩
       rw [hpad] at hrj Hgood hend;have Hend:=hiD hend;have hdi:Hid (Duo wi (w.heap.size+1) (.bool s) (.slice A kk c)):=hduoo.out.keep (hbi.block _ hlo2);have hti:Hid (wi.heap[wo.heap.size]? =some (.cells #[.bool s',.slice Ai xs.length ci,.slice Ei j ei] 44 (0,0))):=(hoj.block wo.heap.size (by omega) (by omega)).trans Htq.out;have Hsum:=hiD (sumM_bel hsum.out hbi);have HA:=hiD ((limbs_map Hx.out Hm.out hon).bel hbi);have HAi:=hiD (E8.out.bel hbi);have hgi:wo.heap.size+1<wi.heap.size:=Nat.lt_of_lt_of_le hqs hoj.size;have keepX:Hid (∀W,Only (fun x=>x=bb) wi W→W.cell? ⟨wo.heap.size+1,0,none⟩=some (.int .i64 z0)∧W.cell? ⟨wo.heap.size+1,1,none⟩=some (.int .i64 z1)∧W.cell? ⟨wo.heap.size+1,2,none⟩=some (.int .i64 z2)∧W.cell? ⟨wo.heap.size+1,3,none⟩=some (.int .i64 z3)∧W.cell? ⟨wo.heap.size+1,4,none⟩=some (.int .i64 z4)∧W.cell? ⟨wo.heap.size+1,5,none⟩=some (.int .i64 z5)∧W.cell? ⟨w.heap.size+1,0,none⟩=some (.bool s)∧W.cell? ⟨w.heap.size+1,1,none⟩=some (.slice A kk c)∧W.cell? ⟨wo.heap.size,0,none⟩=some (.bool s')∧W.cell? ⟨wo.heap.size,1,none⟩=some (.slice Ai xs.length ci)):=fun W hW=>by
        have r1:=hrj.out.only hW (by omega);have r2:Duo W (w.heap.size+1) (.bool s) (.slice A kk c):=hdi.out.keep (hW.block _ (by omega) (by omega));have r3:=(hW.block wo.heap.size (by omega) (by omega)).trans hti.out;exact ⟨r1.cell (i:=0) (by show 0<6;omega),r1.cell (i:=1) (by show 1<6;omega),r1.cell (i:=2) (by show 2<6;omega),r1.cell (i:=3) (by show 3<6;omega),r1.cell (i:=4) (by show 4<6;omega),r1.cell (i:=5) (by show 5<6;omega),r2.cell0,r2.cell1,(cell_of_row W wo.heap.size 0 _ _ (0,0) r3).trans rfl,(cell_of_row W wo.heap.size 1 _ _ (0,0) r3).trans rfl⟩
       have Hall:Hid (Only (fun x=>x=bb) wt wi):=hon.trans ⟨hbi.os,hbi.tape,hbi.output,hbi.size,fun i hi _=>hbi.block i hi⟩;obtain ⟨v0,v1,v2,v3,v4,v5,v6,v7,v8,v9⟩:=keepX.out wi (Only.refl _ _);clear hend hpad hbi hrj hoj hq hqs hon hsum hdi hti Htq E8 E9 hduoo hrowo;(go_wp2_with fail);go_region_held3 (fun W=>W.cell? ⟨wo.heap.size+1,0,none⟩=some (.int .i64 z0)∧W.cell? ⟨wo.heap.size+1,1,none⟩=some (.int .i64 z1)∧W.cell? ⟨wo.heap.size+1,2,none⟩=some (.int .i64 z2)∧W.cell? ⟨wo.heap.size+1,3,none⟩=some (.int .i64 z3)∧W.cell? ⟨wo.heap.size+1,4,none⟩=some (.int .i64 z4)∧W.cell? ⟨wo.heap.size+1,5,none⟩=some (.int .i64 z5)∧W.cell? ⟨w.heap.size+1,0,none⟩=some (.bool s)∧W.cell? ⟨w.heap.size+1,1,none⟩=some (.slice A kk c)∧W.cell? ⟨wo.heap.size,0,none⟩=some (.bool s')∧W.cell? ⟨wo.heap.size,1,none⟩=some (.slice Ai xs.length ci))
        (first | go_keep | exact keepX.out _ (Only.refl _ _).drew | exact keepX.out _ ho1 | exact keepX.out _ ho2)
        (first
          | (go_at_call 76;refine (zmul s s' A Ai kk xs.length c ci ls xs _ HA.out.drew HAi.out.drew hkc hc e4 e5 (by omega) (by omega)).mono ?_;rintro e w1 ⟨s1,A1,k1,c1,ls1,rfl,g1,g2,g3,g4,g5,hbw1'⟩;have hbw1:Below wi.heap.size wi w1:=bRr.drew.trans hbw1';have ho1:Only (fun x=>x=bb) wi w1:=⟨hbw1.os,hbw1.tape,hbw1.output,hbw1.size,fun i hi _=>hbw1.block i hi⟩)
          | (go_at_call 43;refine (madd bb (nc+k) j (max B (K+C+1)+k) (K+C+1) _ [z0,z1,z2,z3,z4,z5] s1 A1 k1 c1 ls1 w1 (sumM_bel Hsum.out hbw1) Hgood.out (by omega) g4 g1 g2 (by omega) (by omega) (by omega)).mono ?_;rintro e w2 ⟨rfl,hs2,ho2'⟩;have ho2:Only (fun x=>x=bb) wi w2:=ho1.trans ho2'))
       have hs3:Hid (SumM w2 bb (nc+(k+1)) j (max B (K+C+1)+(k+1)) (L++timesT j p (intZ s ls) (mvT (T.take (k+1))))):=by
        (have q1:max (max B (K+C+1)+k) (K+C+1)+1=max B (K+C+1)+(k+1):=by omega);rw [q1] at hs2;have q2:L++timesT j p (intZ s ls) (mvT (T.take (k+1)))=(L++timesT j p (intZ s ls) (mvT (T.take k)))++[([z0,z1,z2,z3,z4,z5],intZ s1 ls1)]:=by
         rw [htk.out,mvT_append,timesT_append,List.append_assoc,Hend.out,g5.eq];rfl
        show SumM _ _ _ _ _ _;rw [q2];exact hs2
       have Ho:=hiD (Hall.out.trans ho2);clear hs2 ho2' ho1 hbw1 hbw1';(go_wp2);go_roundw
       case rel=>exact ⟨k+1,by omega,by go_num,hs3,Ho.out⟩
       case measure=>simp [intOf];omega
  · obtain rfl:k=m:=by omega
    (have hlt':¬(k:Int)<(k:Int):=by omega);have hall:T.take k=T:=List.take_of_length_le (by rw [Htl.out];exact lRr);have hs:=hsum.out;rw [hall] at hs;have Hs:=hiD hs;have Ho:=hiD (hob.trans hon);clear hs hall hsum;(go_wp2_with fail);go_end0
    exact ⟨rfl,Hs.out,Ho.out⟩
end Go.Proofs.YtehcoffbiplphaaGreat
