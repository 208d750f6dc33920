/- What common asks for, out of bounds for Euclid's sequence.
   What common asks for, out of a ladder of bounds and of what common does one level down.
   common answers two trees, out of a ladder of bounds.
   common of numbers, and of polynomials of one variable.
   common one level up, out of a ladder of bounds for all lengths.
   common of polynomials of one variable, by bits.
   common of polynomials of two variables, by bits.
   common of polynomials of three variables, and of all small ones: the sizes reckoned out.
   common of two trees with a factor in common, one level up, out of a ladder of bounds for what is left of them.
   common of all small polynomials with a factor in common: the sizes reckoned out (printed by gen/comk.py). -/
import Derived.Test.YtehcoffbiplphaaGreatSTrM
set_option linter.unusedVariables false
set_option linter.unusedSimpArgs false
namespace Cl
open CRing
theorem GsP.bound {n:Nat} {f:Nat→Pn n} {m:Nat} {c:Pn n} {D:Nat→Nat} {h:Nat}(hg:GsP f m c) (dg:∀i,Siz.dg D (f i)) (nm:∀i,Siz.nm (f i)≤h):Siz.dg D c∧Siz.nm c≤Siz.phi (Pn n) D*h:=by
 by_cases h0:∃i,i<m∧f i≠0
 · obtain ⟨i,hi,hne⟩:=h0
   obtain ⟨h1,h2⟩:=Siz.factor D (f i) c hne (dg i) (hg.1 i hi);exact ⟨h1,Nat.le_trans h2 (Nat.mul_le_mul_left _ (nm i))⟩
 · have hz:c=0:=by
    refine Dv.of0 (hg.2 0 fun i hi=> ?_);have h1:f i=0:=Classical.byContradiction fun e=>h0 ⟨i,hi,e⟩;rw [h1];exact Dv.refl _
   rw [hz,Siz.nm_zero];exact ⟨Siz.dg_zero D,Nat.zero_le _⟩
theorem Cont.bound {n:Nat} {f:Poly (Pn n)} {c:Pn n} {D:Nat→Nat} {h:Nat}(hc:Poly.Cont c f) (hf:f≠0) (dg:∀i,Siz.dg D (f.co i)) (nm:Poly.nmP f≤h):Siz.dg D c∧Siz.nm c≤Siz.phi (Pn n) D*h:=by
 have hl:=Poly.lc_ne hf
 obtain ⟨h1,h2⟩:=Siz.factor D f.lc c hl (dg _) (hc.dv _)
 exact ⟨h1,Nat.le_trans h2 (Nat.mul_le_mul_left _ (Nat.le_trans (Poly.nmP_co f _) nm))⟩
end Cl
namespace Go.Proofs.YtehcoffbiplphaaGreat
open Go.RowKit Cl CRing
def Low (n:Nat) (D:Nat→Nat) (h:Nat):Prop:=∀g p:Pn n,Siz.dg D g→Siz.dg D p→Siz.nm g≤h→Siz.nm p≤h→ComOk n g p
theorem Low.less {n:Nat} {D D':Nat→Nat} {h h':Nat}(k:Low n D h) (hD:∀j,D' j≤D j) (hh:h'≤h):Low n D' h':=fun g p h1 h2 h3 h4=>k g p (Siz.dg_mono _ _ _ hD h1) (Siz.dg_mono _ _ _ hD h2) (Nat.le_trans h3 hh) (Nat.le_trans h4 hh)
theorem Low.cont {n:Nat} {D:Nat→Nat} {h:Nat} {f:Pn (n+1)}(k:Low n D (Siz.phi (Pn n) D*h)) (hl:(kids f).len≤1000000000000) (dg:∀i,Siz.dg D ((kids f).co i)) (nm:Siz.nm f≤h):ContFit n f:=by
 have hph:=Siz.phi_pos (R:=Pn n) D
 refine ⟨hl,fun m c _ hc=> ?_⟩
 have h1:=hc.bound dg fun i=>Nat.le_trans (nmP_C_leT f i) nm
 exact k c _ h1.1 (dg m) h1.2 (Nat.le_trans (nmP_C_leT f m) (Nat.le_trans nm (Nat.le_mul_of_pos_left h hph)))
theorem byFit {n K:Nat} {D:Nat→Nat} {h:Nat} {f z:Pn (n+1)} {c:Pn n}(hf:f≠0) (hc:Poly.Cont c (kids f)) (e:kids f=Poly.C c*kids z) (dg:Siz.dg D f) (nm:Siz.nm f≤h) (hD:∀j,D j+D j<1000000000000)
 (hK:Siz.phi (Pn n) (fun j=>D (j+1))*h*(Siz.phi (Pn (n+1)) D*h)<2^(64*K)) (hh:0<h):ByFit (n+1) K z (mkK (Poly.C c)):=by
 have dg':Poly.dgP D (kids f):=dg
 have h1:=Cont.bound hc (fun e0=>hf e0) dg'.2 nm
 obtain ⟨h2,h3⟩:=Siz.factor (R:=Pn (n+1)) D f z hf dg ⟨mkK (Poly.C c),by show kids f=kids z*Poly.C c;rw [e,CRing.mul_comm]⟩
 have p1:=Siz.phi_pos (R:=Pn n) (fun j=>D (j+1))
 have p2:=Siz.phi_pos (R:=Pn (n+1)) D
 have h4:Siz.nm z≤Siz.phi (Pn (n+1)) D*h:=Nat.le_trans h3 (Nat.mul_le_mul_left _ nm)
 have h5:Siz.nm (mkK (Poly.C c))≤Siz.phi (Pn n) (fun j=>D (j+1))*h:=by rw [nm_C];exact h1.2
 have q1:1≤Siz.phi (Pn n) (fun j=>D (j+1))*h:=Nat.mul_pos p1 hh
 have q2:1≤Siz.phi (Pn (n+1)) D*h:=Nat.mul_pos p2 hh
 refine ⟨D,Poly.consD 0 (fun j=>D (j+1)),h2,dg_C h1.1,fun j=> ?_,Nat.lt_of_le_of_lt h4 (Nat.lt_of_le_of_lt (Nat.le_mul_of_pos_left _ q1) hK),Nat.lt_of_le_of_lt h5 (Nat.lt_of_le_of_lt (Nat.le_mul_of_pos_right _ q2) hK),?_⟩
 · cases j with
   | zero=>show D 0+0<_;have:=hD 0;omega
   | succ j=>exact hD (j+1)
 · rw [Nat.mul_comm]
   exact Nat.lt_of_le_of_lt (Nat.mul_le_mul h5 h4) hK
end Go.Proofs.YtehcoffbiplphaaGreat
namespace Cl
open CRing
theorem mul_dgc {R:Type} [Siz R] {D E:Nat→Nat} {f g:Poly R}(hf:∀i,Siz.dg D (f.co i)) (hg:∀i,Siz.dg E (g.co i)) (i:Nat):Siz.dg (fun j=>D j+E j) ((f*g).co i):=by
 rw [Poly.co_mul]
 exact dg_sum fun k _=>Siz.dg_mul D E _ _ (hf k) (hg _)
def Pl (la lb l:Nat):Prop:=l≤min la lb∨l=la+lb
def rdM (la lb l:Nat):Nat:=if l=la+lb then max la lb else l
end Cl
namespace Go.Proofs.YtehcoffbiplphaaGreat
open Go.RowKit Cl CRing
structure Num (n K la lb:Nat) (Dm:Nat→Nat→Nat) (M:Nat→Nat) (De:Nat→Nat) (le He:Nat):Prop where
 low:∀l k,Pl la lb l→k≤rdM la lb l→Low n (fun j=>(k+1)*(De j+Dm l j)) (Siz.phi (Pn n) (fun j=>(k+1)*(De j+Dm l j))*((2*(He*M l))^k*(He*M l)))
 size:∀l k,Pl la lb l→k≤rdM la lb l→(2*(He*M l))^k*(He*M l)<2^(64*K)
 fit:∀l k,Pl la lb l→k≤rdM la lb l→∀(r:Pn (n+1)),r≠0→(kids r).len≤le+max la lb→(∀i,Siz.dg (fun j=>(k+1)*(De j+Dm l j)) ((kids r).co i))→Siz.nm r≤(2*(He*M l))^k*(He*M l)→∀c z,Poly.Cont c (kids r)→kids r=Poly.C c*kids z→ByFit (n+1) K z (mkK (Poly.C c))
 deg0:(le+max la lb)*(le+max la lb+4)<1000000000000
 deg:∀l j,Pl la lb l→(De j+Dm l j)*(le+max la lb+4)<1000000000000
theorem comStep {n K:Nat} {F G:Pn (n+1)} {e a b:Poly (Pn n)} {Dm:Nat→Nat→Nat} {M:Nat→Nat} {De:Nat→Nat} {le He:Nat}(N:Num n K a.len b.len Dm M De le He) (hk:Poly.Kn (Poly.PB Dm M) a b) (hk':Poly.Kn (Poly.PB Dm M) b a) (he:Poly.Prim e) (hle:e.len≤le) (de:∀i,Siz.dg De (e.co i)) (ne:Poly.nmP e≤He) (ha:0<a.len) (hb:0<b.len)
 (x y:Pn (n+1)) (hI:Poly.Inv (Poly.PB Dm M) e a b (kids F) (kids G) (kids x) (kids y)) (hy:y≠0):
 ∃D E,RestFit n K D E x y∧∀r k,Poly.RI (kids x) (kids y) D E k (kids r)→(kids r).len<(kids y).len→(r=0→Poly.Inv (Poly.PB Dm M) e a b (kids F) (kids G) (kids y) (kids (0:Pn (n+1))))∧(r≠0→ContFit n r∧∀c z,Poly.Cont c (kids r)→kids r=Poly.C c*kids z→ByFit (n+1) K z (mkK (Poly.C c))∧Poly.Inv (Poly.PB Dm M) e a b (kids F) (kids G) (kids y) (kids z)):=by
 obtain ⟨l,x1,y1,ex,ey,hx1,⟨pX1,pX2⟩,⟨pY1,pY2⟩,hcase⟩:=hI.known hk
 have hl:Pl a.len b.len l:=hcase.imp (fun h=>h.2.2) fun h=>h.1
 have hy':kids y≠0:=fun e0=>hy e0
 have hy1:y1≠0:=fun e0=>hy' (by rw [ey,e0,CRing.mul_zero])
 have hele:=Poly.len_pos he.ne
 have ly1:=Poly.len_pos hy1
 have lx:=Poly.len_mulE he.ne hx1
 have ly:=Poly.len_mulE he.ne hy1
 rw [← ex] at lx
 rw [← ey] at ly
 have lx1:=Poly.len_pos hx1
 have hlx1:x1.len≤max a.len b.len∧y1.len≤max a.len b.len:=by omega
 have hrd:(kids x).len+1 - (kids y).len≤rdM a.len b.len l:=by
  unfold rdM;split<;>omega
 have nX:Poly.nmP (kids x)≤He*M l:=by rw [ex];exact Nat.le_trans (Poly.nmP_mul x1 _ e (Poly.len_sh e)) (Nat.mul_le_mul ne pX2)
 have nY:Poly.nmP (kids y)≤He*M l:=by rw [ey];exact Nat.le_trans (Poly.nmP_mul y1 _ e (Poly.len_sh e)) (Nat.mul_le_mul ne pY2)
 have dX:Poly.dgP (Poly.consD (le+max a.len b.len) fun j=>De j+Dm l j) (kids x):=⟨(Poly.len_sh _).mono (by show (kids x).len≤le+max a.len b.len+1;omega),fun i=>by rw [ex];exact mul_dgc de pX1 i⟩
 have dY:Poly.dgP (Poly.consD (le+max a.len b.len) fun j=>De j+Dm l j) (kids y):=⟨(Poly.len_sh _).mono (by show (kids y).len≤le+max a.len b.len+1;omega),fun i=>by rw [ey];exact mul_dgc de pY1 i⟩
 have pw:∀k,(2*Poly.nmP (kids y))^k*Poly.nmP (kids x)≤(2*(He*M l))^k*(He*M l):=fun k=>Nat.mul_le_mul (Nat.pow_le_pow_left (Nat.mul_le_mul_left 2 nY) k) nX
 have s0:He*M l<2^(64*K):=by
  have:=N.size l 0 hl (Nat.zero_le _);rwa [Nat.pow_zero,Nat.one_mul] at this
 refine ⟨_,_,⟨dX,dY,fun j=> ?_,Nat.lt_of_le_of_lt nY s0,Nat.lt_of_le_of_lt (pw _) (N.size l _ hl hrd)⟩,fun r k hR hrl=> ?_⟩
 · have hm:(kids x).len+2+1≤le+max a.len b.len+4:=by omega
   cases j with
   | zero=>
     show (le+max a.len b.len)+((kids x).len+2)*(le+max a.len b.len)<_;have h5:=Nat.mul_le_mul_left (le+max a.len b.len) hm;have h6:=N.deg0;rw [Nat.mul_add _ ((kids x).len+2),Nat.mul_one,Nat.mul_comm _ ((kids x).len+2)] at h5;omega
   | succ j=>
     show (De j+Dm l j)+((kids x).len+2)*(De j+Dm l j)<_;have h5:=Nat.mul_le_mul_left (De j+Dm l j) hm;have h6:=N.deg l j hl;rw [Nat.mul_add _ ((kids x).len+2),Nat.mul_one,Nat.mul_comm _ ((kids x).len+2)] at h5;omega
 · have hkr:k≤rdM a.len b.len l:=by
    rcases hR.rounds with h0 | h0
    · rw [h0];exact Nat.zero_le _
    · omega
   have nR:Siz.nm r≤(2*(He*M l))^k*(He*M l):=Nat.le_trans hR.nm (pw k);have efun:(fun j=>(Poly.consD (le+max a.len b.len) (fun j=>De j+Dm l j)) (j+1)+k*(Poly.consD (le+max a.len b.len) (fun j=>De j+Dm l j)) (j+1))=fun j=>(k+1)*(De j+Dm l j):=funext fun j=>by
    show (De j+Dm l j)+k*(De j+Dm l j)=_;rw [Nat.add_mul,Nat.one_mul,Nat.add_comm]
   have dR:∀i,Siz.dg (fun j=>(k+1)*(De j+Dm l j)) ((kids r).co i):=fun i=>by
    rw [← efun];exact hR.dg.2 i
   have hlr:(kids r).len≤le+max a.len b.len:=by omega
   obtain ⟨Q,e1,e2⟩:=hR.eq;have hlk:=Dom.pow_ne (Poly.lc_ne hy') k;have hll:le+max a.len b.len≤1000000000000:=by
    have h6:=N.deg0;have h7:(le+max a.len b.len)*1≤(le+max a.len b.len)*(le+max a.len b.len+4):=Nat.mul_le_mul_left _ (by omega);omega
   refine ⟨fun h0=> ?_,fun h0=>⟨Low.cont (N.low l k hl hkr) (by omega) dR nR,fun c z hc hz=>⟨N.fit l k hl hkr r h0 hlr dR nR c z hc hz,?_⟩⟩⟩
   · exact hI.next hk hk' he hy' hlk Dom.one_ne e1 hrl e2 (by rw [h0];exact (CRing.mul_zero _).symm) (.inl rfl)
   · have hr':kids r≠0:=fun e0=>h0 e0
     exact hI.next hk hk' he hy' hlk (hc.ne hr') e1 hrl e2 hz (.inr (hc.prim hr' hz))
end Go.Proofs.YtehcoffbiplphaaGreat
namespace Go.Proofs.YtehcoffbiplphaaGreat
open Go.RowKit Cl CRing
structure NumF (n K la lb:Nat) (Dm:Nat→Nat→Nat) (M:Nat→Nat) (De:Nat→Nat) (le He:Nat) (DF:Nat→Nat) (HF:Nat) (F:Pn (n+1)):Prop where
 len:(kids F).len≤1000000000000
 dg:∀i,Siz.dg DF ((kids F).co i)
 nm:Siz.nm F≤HF
 fit:∀c z,Poly.Cont c (kids F)→kids F=Poly.C c*kids z→ByFit (n+1) K z (mkK (Poly.C c))
theorem comHyp {n K:Nat} {F G:Pn (n+1)} {e a b q:Poly (Pn n)} {cq:Pn n} {Dm:Nat→Nat→Nat} {M:Nat→Nat} {De DF:Nat→Nat} {le He HF:Nat}(N:Num n K a.len b.len Dm M De le He) (hk:Poly.Kn (Poly.PB Dm M) a b) (hk':Poly.Kn (Poly.PB Dm M) b a) (he:Poly.Prim e) (hle:e.len≤le) (de:∀i,Siz.dg De (e.co i)) (ne:Poly.nmP e≤He)
 (hF:F≠0) (hG:G≠0) (hcq:cq≠0) (eq:q=Poly.C cq*e) (ea:kids F=q*a) (eb:kids G=q*b) (nF:NumF n K a.len b.len Dm M De le He DF HF F) (nG:NumF n K a.len b.len Dm M De le He DF HF G) (lowF:Low n DF (Siz.phi (Pn n) DF*HF))
 (sc:∀l,Pl a.len b.len l→(He*M l)*(Siz.phi (Pn n) DF*HF)<2^(64*K)) (dsc:∀l j,Pl a.len b.len l→De j+Dm l j+DF j<1000000000000) (hHF:0<HF):
 ComHyp n K F G (fun x y=>Poly.Inv (Poly.PB Dm M) e a b (kids F) (kids G) (kids x) (kids y)):=by
 have hF':kids F≠0:=fun e0=>hF e0
 have hG':kids G≠0:=fun e0=>hG e0
 have ha0:a≠0:=fun e0=>hF' (by rw [ea,e0,CRing.mul_zero])
 have hb0:b≠0:=fun e0=>hG' (by rw [eb,e0,CRing.mul_zero])
 refine ⟨lowF.cont nF.len nF.dg nF.nm,lowF.cont nG.len nG.dg nG.nm,nF.fit,nG.fit,fun c d x y hc hd ex ey=>Poly.Inv.start hF' hG' he hcq eq ea eb hc hd ex ey,fun x y hI hy=>comStep N hk hk' he hle de ne (Poly.len_pos ha0) (Poly.len_pos hb0) x y hI hy,fun c d hc hd=> ?_,fun c d g x hI hc hd hg=> ?_⟩
 · have h1:=Cont.bound hc hF' nF.dg nF.nm
   have h2:=Cont.bound hd hG' nG.dg nG.nm;exact lowF c d h1.1 h2.1 h1.2 h2.2
 · have hc0:=hc.ne hF'
   have hg0:g≠0:=fun e0=>hc0 (Dv.of0 (by rw [← e0];exact hg.l));have hlc:=Poly.lc_ne hF';obtain ⟨g1,g2⟩:=Siz.factor DF (kids F).lc g hlc (nF.dg _) (hg.l.trans (hc.dv _));have g3:Siz.nm g≤Siz.phi (Pn n) DF*HF:=Nat.le_trans g2 (Nat.mul_le_mul_left _ (Nat.le_trans (nmP_C_leT F _) nF.nm));have hI':Poly.Inv (Poly.PB Dm M) e a b (kids F) (kids G) (kids x) 0:=hI;obtain ⟨l,x1,y1,ex,_,hx1,⟨pX1,pX2⟩,_,hcase⟩:=hI'.known hk;have hl:Pl a.len b.len l:=hcase.imp (fun h=>h.2.2) fun h=>h.1;have lx:=Poly.len_mulE he.ne hx1;rw [← ex] at lx;have hlx:(kids x).len≤le+max a.len b.len:=by
    (have hlm:x1.len≤max a.len b.len:=by omega);omega
   have nX:Siz.nm x≤He*M l:=by
    show Poly.nmP (kids x)≤_;rw [ex];exact Nat.le_trans (Poly.nmP_mul x1 _ e (Poly.len_sh e)) (Nat.mul_le_mul ne pX2)
   have dX:Siz.dg (Poly.consD (le+max a.len b.len) fun j=>De j+Dm l j) x:=(show Poly.dgP (Poly.consD (le+max a.len b.len) fun j=>De j+Dm l j) (kids x) from ⟨(Poly.len_sh _).mono (by show (kids x).len≤le+max a.len b.len+1;omega),fun i=>by rw [ex];exact mul_dgc de pX1 i⟩);have hll:le+max a.len b.len<1000000000000:=by
    have h6:=N.deg0;have h7:(le+max a.len b.len)*1≤(le+max a.len b.len)*(le+max a.len b.len+4):=Nat.mul_le_mul_left _ (by omega);omega
   have s:=sc l hl;have p1:1≤Siz.phi (Pn n) DF*HF:=Nat.mul_pos (Siz.phi_pos _) hHF;have hx0:x≠0:=fun e0=>hI.px.ne (by rw [e0];rfl);have p2:1≤He*M l:=Nat.le_trans (Siz.nm_pos x hx0) nX;refine ⟨hg0,?_,Poly.consD (le+max a.len b.len) (fun j=>De j+Dm l j),DF,dX,g1,hll,fun j=>dsc l j hl,Nat.lt_of_le_of_lt nX (Nat.lt_of_le_of_lt (Nat.le_mul_of_pos_right _ p1) s),Nat.lt_of_le_of_lt g3 (Nat.lt_of_le_of_lt (Nat.le_mul_of_pos_left _ p2) s),Nat.lt_of_le_of_lt (Nat.mul_le_mul nX g3) s⟩;have hd':=hI'.done hc hd hg;have e9:x*mkK (Poly.C g)=mkK (Poly.C g*kids x):=(show kids x*Poly.C g=Poly.C g*kids x from CRing.mul_comm _ _);rw [e9];exact kids_isG.2 hd'
theorem common_ok {n K:Nat}(hK:K≤3900000000000) (hn:n≤97) {F G:Pn (n+1)} {e a b q:Poly (Pn n)} {cq:Pn n} {Dm:Nat→Nat→Nat} {M:Nat→Nat} {De DF:Nat→Nat} {le He HF:Nat}(N:Num n K a.len b.len Dm M De le He) (hk:Poly.Kn (Poly.PB Dm M) a b) (hk':Poly.Kn (Poly.PB Dm M) b a) (he:Poly.Prim e) (hle:e.len≤le) (de:∀i,Siz.dg De (e.co i)) (ne:Poly.nmP e≤He)
 (hF:F≠0) (hG:G≠0) (hcq:cq≠0) (eq:q=Poly.C cq*e) (ea:kids F=q*a) (eb:kids G=q*b) (nF:NumF n K a.len b.len Dm M De le He DF HF F) (nG:NumF n K a.len b.len Dm M De le He DF HF G) (lowF:Low n DF (Siz.phi (Pn n) DF*HF))
 (sc:∀l,Pl a.len b.len l→(He*M l)*(Siz.phi (Pn n) DF*HF)<2^(64*K)) (dsc:∀l j,Pl a.len b.len l→De j+Dm l j+DF j<1000000000000) (hHF:0<HF):ComOk (n+1) F G:=
 mcommonS n K hK hn F G hF hG _ (comHyp N hk hk' he hle de ne hF hG hcq eq ea eb nF nG lowF sc dsc hHF)
end Go.Proofs.YtehcoffbiplphaaGreat
namespace Go.Proofs.YtehcoffbiplphaaGreat
open Go.RowKit Cl CRing
theorem low0 {K:Nat}(hK:K≤3900000000000) {h:Nat}(hh:h<2^(64*K)) (D:Nat→Nat):Low 0 D h:=fun g p _ _ ng np=>mcommon0 K hK g p (Nat.lt_of_le_of_lt ng hh) (Nat.lt_of_le_of_lt np hh)
theorem byFit0 {K h L:Nat} {r z:Pn 1} {c:Pn 0}(hr:r≠0) (e:kids r=Poly.C c*kids z) (hl:(kids r).len≤L) (hL:L<1000000000000) (nm:Siz.nm r≤h) (hh:h<2^(64*K)):ByFit 1 K z (mkK (Poly.C c)):=by
 have hr':kids r≠0:=fun e0=>hr e0
 have hc:c≠0:=fun e0=>hr' (by rw [e,e0,Poly.C_zero,CRing.zero_mul])
 have hz:kids z≠0:=fun e0=>hr' (by rw [e,e0,CRing.mul_zero])
 have hlz:(kids z).len=(kids r).len:=by rw [e,Poly.len_C_mulD hc]
 have h1:=nm_exact e
 have nm':Poly.nmP (kids r)≤h:=nm
 have p1:1≤Siz.nm c:=Siz.nm_pos c hc
 have p2:1≤Poly.nmP (kids z):=Siz.nm_pos (R:=Pn 1) z (fun e0=>hz e0)
 have n1:Poly.nmP (kids z)≤h:=Nat.le_trans (Nat.le_trans (Nat.le_mul_of_pos_left _ p1) (Nat.le_of_eq h1)) nm'
 have n2:Siz.nm c≤h:=Nat.le_trans (Nat.le_trans (Nat.le_mul_of_pos_right _ p2) (Nat.le_of_eq h1)) nm'
 have n3:Siz.nm (mkK (Poly.C c))=Siz.nm c:=nm_C c
 refine ⟨Poly.consD L (fun _=>0),Poly.consD 0 (fun _=>0),(show Poly.dgP _ (kids z) from ⟨(Poly.len_sh _).mono (by show (kids z).len≤L+1;omega),fun _=>trivial⟩),dg_C trivial,fun j=> ?_,Nat.lt_of_le_of_lt n1 hh,by rw [n3];exact Nat.lt_of_le_of_lt n2 hh,?_⟩
 · cases j with
   | zero=>show L+0<_;omega
   | succ j=>show 0+0<_;omega
 · rw [n3,Nat.mul_comm]
   exact Nat.lt_of_le_of_lt (Nat.le_trans (Nat.le_of_eq h1) nm') hh
theorem prim_one {n:Nat}:Poly.Prim (1:Poly (Pn n)):=fun d hd=>by
 have h:=hd 0
 rwa [Poly.co_one,if_pos rfl] at h
theorem low1 {K:Nat}(hK:K≤3900000000000) {L H:Nat}(D:Nat→Nat) (hD:D 0≤L) (hH:0<H) (hL:(1+(L+1))*(1+(L+1)+4)<1000000000000) (hHK:H<2^(64*K))
 (big:∀la lb l k,la≤L+1→lb≤L+1→Pl la lb l→k≤rdM la lb l→(2*(1*M1 la lb H L l))^k*(1*M1 la lb H L l)<2^(64*K))
 (sc:∀la lb l,la≤L+1→lb≤L+1→Pl la lb l→(1*M1 la lb H L l)*(1*H)<2^(64*K)):Low 1 D H:=by
 intro F G dF dG nF nG
 by_cases h0:F=0∨G=0
 · exact mcommonZ 0 (by omega) F G h0
 · have hF:F≠0:=fun e=>h0 (.inl e)
   have hG:G≠0:=fun e=>h0 (.inr e);have dF':Poly.dgP D (kids F):=dF;have dG':Poly.dgP D (kids G):=dG;have lF:(kids F).len≤L+1:=Nat.le_trans (Poly.len_le dF'.1) (by omega);have lG:(kids G).len≤L+1:=Nat.le_trans (Poly.len_le dG'.1) (by omega);have hLL:1+(L+1)<1000000000000:=by
    have h7:(1+(L+1))*1≤(1+(L+1))*(1+(L+1)+4):=Nat.mul_le_mul_left _ (by omega);omega
   have ld:=lad1 (la:=(kids F).len) (lb:=(kids G).len) (H:=H) (L:=L) (fun _=>0) (by omega);have kn:=ld.kn (a:=kids F) (b:=kids G) (fun e=>hF e) (fun e=>hG e) (fun _=>trivial) (fun _=>trivial) nF nG;have ls:=ld.symm;have kn':=ls.kn (a:=kids G) (b:=kids F) (fun e=>hG e) (fun e=>hF e) (fun _=>trivial) (fun _=>trivial) nG nF;have N:Num 0 K (kids F).len (kids G).len (fun _ j=>(fun _=>0) j) (M1 (kids F).len (kids G).len H L) (fun _=>0) 1 1:=by
    refine ⟨fun l k hl hk=>low0 hK ?_ _,fun l k hl hk=>big _ _ l k lF lG hl hk,fun l k hl hk r hr hlr _ nr c z _ e=>byFit0 hr e (L:=1+max (kids F).len (kids G).len) hlr (by omega) nr (big _ _ l k lF lG hl hk),?_,fun l j hl=>by show (0+0)*_<_;omega⟩
    · show 1*_<_
      rw [Nat.one_mul];exact big _ _ l k lF lG hl hk
    · refine Nat.lt_of_le_of_lt (Nat.mul_le_mul (show _≤1+(L+1) by omega) (show _≤1+(L+1)+4 by omega)) hL
   refine common_ok (K:=K) hK (by omega) (e:=1) (a:=kids F) (b:=kids G) (q:=1) (cq:=1) (DF:=fun _=>0) (HF:=H) N kn kn' prim_one (Poly.len_le (Poly.sh_C 1)) (fun _=>trivial) (Nat.le_of_eq (Siz.nm_one (R:=Pn 1))) hF hG Dom.one_ne (by rw [Poly.C_one,CRing.one_mul]) (CRing.one_mul _).symm (CRing.one_mul _).symm ⟨by omega,fun _=>trivial,nF,fun c z _ e=>byFit0 hF e lF (by omega) nF hHK⟩ ⟨by omega,fun _=>trivial,nG,fun c z _ e=>byFit0 hG e lG (by omega) nG hHK⟩ (low0 hK (by show 1*H<_;rw [Nat.one_mul];exact hHK) _) (fun l hl=>sc _ _ l lF lG hl) (fun l j hl=>by show 0+0+0<_;omega) hH
end Go.Proofs.YtehcoffbiplphaaGreat
namespace Cl
open CRing
theorem phiP_ge {R:Type} [Siz R] (L:Nat) (Di:Nat→Nat):Siz.phi R Di≤Poly.phiP R (Poly.consD L Di):=by
 show Siz.phi R Di≤Siz.phi R Di*(2*L+1)^L*(L+1)*(2*(2*L+1))^L
 rw [Nat.mul_assoc,Nat.mul_assoc]
 exact Nat.le_mul_of_pos_right _ (Nat.mul_pos (Nat.pow_pos (by omega)) (Nat.mul_pos (by omega) (Nat.pow_pos (by omega))))
end Cl
namespace Go.Proofs.YtehcoffbiplphaaGreat
open Go.RowKit Cl CRing
def LowAt (n K L:Nat) (Dk:Nat→Nat) (B:Nat):Prop:=∃h,B≤h∧Low n Dk (Siz.phi (Pn n) Dk*h)∧Siz.phi (Pn n) Dk*h*(Siz.phi (Pn (n+1)) (Poly.consD (L+1) Dk)*h)<2^(64*K)∧∀j,Dk j+Dk j<1000000000000
theorem lowG {n K:Nat}(hK:K≤3900000000000) (hn:n≤97) {L H:Nat} {Di:Nat→Nat} {Dm:Nat→Nat→Nat→Nat→Nat} {M:Nat→Nat→Nat→Nat}
 (ld:∀la lb,max la lb≤L+1→Poly.Lad (Pn n) la lb H Di (Dm la lb) (M la lb)) (D:Nat→Nat) (hD:D 0≤L) (hd:∀j,D (j+1)≤Di j) (hH:0<H) (hL:(L+2)*(L+6)<1000000000000)
 (hDm:∀la lb l j,la≤L+1→lb≤L+1→Pl la lb l→Dm la lb l j*(L+6)<1000000000000)
 (low:∀la lb l k,la≤L+1→lb≤L+1→Pl la lb l→k≤rdM la lb l→LowAt n K L (fun j=>(k+1)*Dm la lb l j) ((2*M la lb l)^k*M la lb l)):Low (n+1) D H:=by
 intro F G dF dG nF nG
 by_cases h0:F=0∨G=0
 · exact mcommonZ n hn F G h0
 · have hF:F≠0:=fun e=>h0 (.inl e)
   have hG:G≠0:=fun e=>h0 (.inr e);have dF':Poly.dgP D (kids F):=dF;have dG':Poly.dgP D (kids G):=dG;have lF:(kids F).len≤L+1:=Nat.le_trans (Poly.len_le dF'.1) (by omega);have lG:(kids G).len≤L+1:=Nat.le_trans (Poly.len_le dG'.1) (by omega);have cF:∀i,Siz.dg Di ((kids F).co i):=fun i=>Siz.dg_mono _ _ _ hd (dF'.2 i);have cG:∀i,Siz.dg Di ((kids G).co i):=fun i=>Siz.dg_mono _ _ _ hd (dG'.2 i);have hLL:L+6<1000000000000:=by
    have h7:1*(L+6)≤(L+2)*(L+6):=Nat.mul_le_mul_right _ (by omega);omega
   have kn:=(ld (kids F).len (kids G).len (by omega)).kn (a:=kids F) (b:=kids G) (fun e=>hF e) (fun e=>hG e) cF cG nF nG;have kn':=(ld (kids F).len (kids G).len (by omega)).symm.kn (a:=kids G) (b:=kids F) (fun e=>hG e) (fun e=>hF e) cG cF nG nF;have g0:∀(Dk:Nat→Nat) h,0<h→h*h≤Siz.phi (Pn n) Dk*h*(Siz.phi (Pn (n+1)) (Poly.consD (L+1) Dk)*h):=fun Dk h _=>Nat.mul_le_mul (Nat.le_mul_of_pos_left _ (Siz.phi_pos _)) (Nat.le_mul_of_pos_left _ (Siz.phi_pos _));have mi:∀la lb l,max la lb≤L+1→Pl la lb l→M la lb (la+lb)≤M la lb l∧∀j,Di j≤Dm la lb l j:=fun la lb l hm hl=>by
    have h1:=(ld la lb hm).less (la+lb) l (by rcases hl with h | h<;>omega);exact ⟨h1.1,fun j=>Nat.le_trans ((ld la lb hm).stD j) (h1.2 j)⟩
   have m0:∀la lb l,max la lb≤L+1→Pl la lb l→Siz.phi (Pn n) Di*H≤M la lb l:=fun la lb l hm hl=>Nat.le_trans (Nat.mul_le_mul_right _ (phiP_ge _ Di)) (Nat.le_trans (ld la lb hm).stM (mi la lb l hm hl).1);obtain ⟨hh,hh1,hh2,hh3,hh4⟩:=low (L+1) (L+1) (L+1+(L+1)) 0 lRr lRr (.inr rfl) (Nat.zero_le _);rw [Nat.pow_zero,Nat.one_mul] at hh1;have top1:Siz.phi (Pn n) Di*H≤hh:=Nat.le_trans (m0 (L+1) (L+1) _ (by omega) (.inr rfl)) hh1;have top2:Siz.phi (Pn (n+1)) (Poly.consD L Di)*H≤hh:=by
    have h1:=(ld (L+1) (L+1) (by omega)).stM;rw [Nat.max_self,Nat.add_sub_cancel] at h1;exact Nat.le_trans h1 hh1
   have hh0:0<hh:=Nat.lt_of_lt_of_le (Nat.mul_pos (Siz.phi_pos _) hH) top1;have fitF:Siz.phi (Pn n) Di*H*(Siz.phi (Pn (n+1)) (Poly.consD L Di)*H)<2^(64*K):=Nat.lt_of_le_of_lt (Nat.mul_le_mul top1 top2) (Nat.lt_of_le_of_lt (g0 _ hh hh0) hh3);have hDi:∀j,Di j+Di j<1000000000000:=fun j=>by
    have h1:=(mi (L+1) (L+1) (L+1+(L+1)) (by omega) (.inr rfl)).2 j;have h2:(0+1)*Dm (L+1) (L+1) (L+1+(L+1)) j+(0+1)*Dm (L+1) (L+1) (L+1+(L+1)) j<1000000000000:=hh4 j;omega
   have lowF:Low n Di (Siz.phi (Pn n) Di*H):=hh2.less (fun j=>by
    have h1:=(mi (L+1) (L+1) (L+1+(L+1)) (by omega) (.inr rfl)).2 j;show Di j≤(0+1)*Dm (L+1) (L+1) (L+1+(L+1)) j;omega) (Nat.le_trans top1 (Nat.le_mul_of_pos_left _ (Siz.phi_pos _)))
   have fits:∀X:Pn (n+1),X≠0→(kids X).len≤L+1→(∀i,Siz.dg Di ((kids X).co i))→Siz.nm X≤H→∀c z,Poly.Cont c (kids X)→kids X=Poly.C c*kids z→ByFit (n+1) K z (mkK (Poly.C c)):=fun X hX lX cX nX c z hc e=>
    byFit (D:=Poly.consD L Di) hX hc e (show Poly.dgP _ (kids X) from ⟨(Poly.len_sh _).mono (by show _≤L+1;omega),cX⟩) nX (fun j=>by
     cases j with
     | zero=>show L+L<_
             have h7:2*(L+6)≤(L+2)*(L+6):=Nat.mul_le_mul_right _ (by omega);omega
     | succ j=>exact hDi j) fitF hH
   obtain ⟨la,hla⟩:∃la,(kids F).len=la:=⟨_,rfl⟩;obtain ⟨lb,hlb⟩:∃lb,(kids G).len=lb:=⟨_,rfl⟩;have N:Num n K (kids F).len (kids G).len (Dm (kids F).len (kids G).len) (M (kids F).len (kids G).len) (fun _=>0) 1 1:=by
    rw [hla,hlb];rw [hla] at lF;rw [hlb] at lG;refine ⟨fun l k hl hk=> ?_,fun l k hl hk=> ?_,fun l k hl hk r hr lr dr nr c z hc e=> ?_,?_,fun l j hl=> ?_⟩
    · obtain ⟨h,h1,h2,_,_⟩:=low la lb l k lF lG hl hk
      simp only [Nat.zero_add,Nat.one_mul];exact h2.less (fun j=>lRr) (Nat.mul_le_mul_left _ h1)
    · obtain ⟨h,h1,_,h3,_⟩:=low la lb l k lF lG hl hk
      simp only [Nat.one_mul];by_cases hz:h=0
      · rw [hz] at h1
        exact Nat.lt_of_le_of_lt h1 (Nat.pow_pos (by omega))
      · have hz':0<h:=Nat.pos_of_ne_zero hz
        exact Nat.lt_of_le_of_lt h1 (Nat.lt_of_le_of_lt (Nat.le_trans (Nat.le_mul_of_pos_left h hz') (g0 _ h hz')) h3)
    · obtain ⟨h,h1,_,h3,h4⟩:=low la lb l k lF lG hl hk
      simp only [Nat.zero_add,Nat.one_mul] at dr nr;have nr':=Nat.le_trans nr h1;have hz':0<h:=Nat.lt_of_lt_of_le (Siz.nm_pos r hr) nr';refine byFit (D:=Poly.consD (L+1) (fun j=>(k+1)*Dm la lb l j)) hr hc e (show Poly.dgP _ (kids r) from ⟨(Poly.len_sh _).mono (by show _≤L+1+1;omega),dr⟩) nr' (fun j=> ?_) h3 hz';cases j with
      | zero=>show L+1+(L+1)<_
              have h7:2*(L+6)≤(L+2)*(L+6):=Nat.mul_le_mul_right _ (by omega);omega
      | succ j=>exact h4 j
    · exact Nat.lt_of_le_of_lt (Nat.mul_le_mul (show _≤L+2 by omega) (show _≤L+6 by omega)) hL
    · show (0+Dm la lb l j)*_<_
      rw [Nat.zero_add];exact Nat.lt_of_le_of_lt (Nat.mul_le_mul_left _ (by omega)) (hDm la lb l j lF lG hl)
   refine common_ok (K:=K) hK hn (e:=1) (a:=kids F) (b:=kids G) (q:=1) (cq:=1) (DF:=Di) (HF:=H) N kn kn' prim_one (Poly.len_le (Poly.sh_C 1)) (fun i=> ?_) (Nat.le_of_eq (Siz.nm_one (R:=Pn (n+1)))) hF hG Dom.one_ne (by rw [Poly.C_one,CRing.one_mul]) (CRing.one_mul _).symm (CRing.one_mul _).symm ⟨by omega,cF,nF,fits F hF lF cF nF⟩ ⟨by omega,cG,nG,fits G hG lG cG nG⟩ lowF (fun l hl=> ?_) (fun l j hl=> ?_) hH
   · rw [Poly.co_one]
     split
     · exact Siz.dg_one _
     · exact Siz.dg_zero _
   · rw [hla,hlb] at hl ⊢
     obtain ⟨h,h1,_,h3,_⟩:=low la lb l 0 (by omega) (by omega) hl (Nat.zero_le _);rw [Nat.pow_zero,Nat.one_mul] at h1;have h5:=m0 la lb l (by omega) hl;have hz':0<h:=Nat.lt_of_lt_of_le (Nat.mul_pos (Siz.phi_pos _) hH) (Nat.le_trans h5 h1);rw [Nat.one_mul];exact Nat.lt_of_le_of_lt (Nat.mul_le_mul h1 (Nat.le_trans h5 h1)) (Nat.lt_of_le_of_lt (g0 _ h hz') h3)
   · rw [hla,hlb] at hl ⊢
     obtain ⟨h,_,_,_,h4⟩:=low la lb l 0 (by omega) (by omega) hl (Nat.zero_le _);have h2:(0+1)*Dm la lb l j+(0+1)*Dm la lb l j<1000000000000:=h4 j;have h1:=(mi la lb l (by omega) hl).2 j;show 0+Dm la lb l j+Di j<_;omega
end Go.Proofs.YtehcoffbiplphaaGreat
namespace Cl
theorem amgm (x y:Nat):4*(x*y)≤(x+y)*(x+y):=by
 have key:∀x d:Nat,4*(x*(x+d))≤(x+(x+d))*(x+(x+d)):=fun x d=>by
  have e1:4*(x*(x+d))=4*(x*x)+4*(x*d):=by rw [Nat.mul_add x,Nat.mul_add]
  have e2:(x+(x+d))*(x+(x+d))=4*(x*x)+4*(x*d)+d*d:=by
   have e3:x+(x+d)=2*x+d:=by omega
   rw [e3,Nat.add_mul,Nat.mul_add,Nat.mul_add];have e4:2*x*(2*x)=4*(x*x):=by rw [Nat.mul_mul_mul_comm]
   have e5:2*x*d=2*(x*d):=Nat.mul_assoc _ _ _;have e6:d*(2*x)=2*(x*d):=by rw [Nat.mul_left_comm,Nat.mul_comm d x]
   rw [e4,e5,e6];omega
  rw [e1,e2];omega
 rcases Nat.le_total x y with h | h
 · have:=key x (y - x)
   rwa [show x+(y - x)=y by omega] at this
 · have:=key y (x - y)
   rw [show y+(x - y)=x by omega] at this;rwa [Nat.mul_comm x y,Nat.add_comm x y]
theorem rounds_sq {la lb L l k:Nat}(hla:la≤L+1) (hlb:lb≤L+1) (hl:Pl la lb l) (hk:k≤rdM la lb l):2*((k+1)*(la+lb - 2*l+2))≤(L+3)*(L+3)∧k≤L+1:=by
 unfold rdM at hk
 by_cases h:l=la+lb
 · rw [if_pos h] at hk
   have ht:la+lb - 2*l+2=2:=by omega
   rw [ht];have h1:=amgm (L+2) 1;refine ⟨?_,by omega⟩;rw [Nat.mul_one] at h1;have h2:(L+2+1)*(L+2+1)=(L+3)*(L+3):=rfl;rw [h2] at h1;omega
 · rw [if_neg h] at hk
   have hm:l≤min la lb:=hl.resolve_right h;have h1:=amgm (l+1) (L+2 - l);rw [show l+1+(L+2 - l)=L+3 by omega] at h1;have h2:(k+1)*(la+lb - 2*l+2)≤(l+1)*(2*(L+2 - l)):=Nat.mul_le_mul (by omega) (by omega);have h3:(l+1)*(2*(L+2 - l))=2*((l+1)*(L+2 - l)):=Nat.mul_left_comm _ _ _;refine ⟨?_,by omega⟩;rw [h3] at h2;omega
end Cl
namespace Go.Proofs.YtehcoffbiplphaaGreat
open Go.RowKit Cl CRing
theorem low1_bits {K:Nat}(hK:K≤3900000000000) {L g h:Nat}(D:Nat→Nat) (hD:D 0≤L) (hL:(1+(L+1))*(1+(L+1)+4)<1000000000000) (hg:4*L+8≤2^g)
 (b1:2*((L+2)*(g*(2*L+1)+2))+(L+3)*(L+3)*(g+h+2)<128*K) (b2:g*(2*L+1)+1+(g+h+2)*(2*L+4)+h<64*K):Low 1 D (2^h):=by
 have hH:0<2^h:=Nat.pow_pos (by omega)
 refine low1 hK D hD hH hL (Nat.pow_lt_pow_right (by omega) (by omega)) (fun la lb l k hla hlb hl hk=> ?_) (fun la lb l hla hlb hl=> ?_)
 · have m1:=M1_bits (l:=l) hla hlb hg (Nat.le_refl (2^h))
   obtain ⟨r1,r2⟩:=rounds_sq hla hlb hl hk;obtain ⟨T,hT⟩:∃T,la+lb - 2*l+2=T:=⟨_,rfl⟩;rw [hT] at m1 r1;rw [Nat.one_mul];have m2:=mul_le_bits (pow_le_bits (k:=k) (mul_le_bits (show 2≤2^1 by decide) m1)) m1;refine Nat.lt_of_le_of_lt m2 (Nat.pow_lt_pow_right (by omega) ?_);obtain ⟨X,hX⟩:∃X,g*(2*L+1)=X:=⟨_,rfl⟩;obtain ⟨G,hG⟩:∃G,g+h+2=G:=⟨_,rfl⟩;rw [hX,hG];rw [hX,hG] at b1;have e1:(1+(X+1+G*T))*k+(X+1+G*T)≤(k+1)*(X+2)+(k+1)*T*G:=by
    have e2:(1+(X+1+G*T))*k=k*(X+2)+k*T*G:=by
     rw [show 1+(X+1+G*T)=(X+2)+G*T by omega,Nat.add_mul,Nat.mul_comm (X+2) k];congr 1
     rw [Nat.mul_comm (G*T) k,Nat.mul_comm G T,Nat.mul_assoc]
    rw [e2,Nat.add_mul k 1 (X+2),Nat.one_mul,Nat.add_mul k 1 T,Nat.one_mul,Nat.add_mul (k*T) T G,Nat.mul_comm T G];omega
   have e3:(k+1)*(X+2)≤(L+2)*(X+2):=Nat.mul_le_mul_right _ (by omega);have e4:2*((k+1)*T)*G≤(L+3)*(L+3)*G:=Nat.mul_le_mul_right _ r1;rw [Nat.mul_assoc 2] at e4;omega
 · have m1:=M1_bits (l:=l) hla hlb hg (Nat.le_refl (2^h))
   rw [Nat.one_mul,Nat.one_mul];refine Nat.lt_of_le_of_lt (mul_le_bits m1 (Nat.le_refl (2^h))) (Nat.pow_lt_pow_right (by omega) ?_);have e1:(g+h+2)*(la+lb - 2*l+2)≤(g+h+2)*(2*L+4):=Nat.mul_le_mul_left _ (by omega);omega
end Go.Proofs.YtehcoffbiplphaaGreat
namespace Go.Proofs.YtehcoffbiplphaaGreat
open Go.RowKit Cl CRing
theorem low2_bits {K:Nat}(hK:K≤3900000000000) {L d g gg h S B:Nat}(hg:4*(5*(2*L+3)*d+d)+8≤2^g) (hgL:4*L+8≤2^g) (hgg:4*S+8≤2^gg) (hggL:4*(L+1)+8≤2^gg)
 (hS:(L+3)*(L+3)*d≤2*S) (hB:(L+3)*(L+3)*(40*(g*d)+5*(2*g+h+2))+2*((L+2)*(8*(g*L)+8*g+8+3*(2*g+h+2)))≤8*B)
 (hLS:(1+(S+1))*(1+(S+1)+4)<1000000000000) (hL:(L+2)*(L+6)<1000000000000) (hdL:(2*L+4)*d*(L+6)<1000000000000)
 (b1:2*((S+2)*(gg*(2*S+1)+2))+(S+3)*(S+3)*(gg+(gg*(2*S+1)+B)+2)<128*K) (b2:gg*(2*S+1)+1+(gg+(gg*(2*S+1)+B)+2)*(2*S+4)+(gg*(2*S+1)+B)<64*K)
 (b3:gg*(2*S+1)+B+(gg*(2*S+1)+gg*(2*(L+1)+1)+B)<64*K):Low 2 (two1 L d) (2^h):=by
 have tS:∀{la lb l k},la≤L+1→lb≤L+1→Pl la lb l→k≤rdM la lb l→(k+1)*((la+lb - 2*l+2)*d)≤S:=fun {la lb l k} hla hlb hl hk=>by
  have r1:=(rounds_sq hla hlb hl hk).1;have h1:2*((k+1)*(la+lb - 2*l+2))*d≤(L+3)*(L+3)*d:=Nat.mul_le_mul_right _ r1;have h2:2*((k+1)*(la+lb - 2*l+2))*d=2*((k+1)*((la+lb - 2*l+2)*d)):=by rw [Nat.mul_assoc,Nat.mul_assoc]
  omega
 refine lowG (n:=1) hK (by omega) (L:=L) (Di:=one1 d) (Dm:=fun la lb l=>one1 ((la+lb - 2*l+2)*d)) (M:=fun la lb l=>M2 la lb (2^h) L d l) (fun la lb hm=>lad2 hm) _ (Nat.le_refl L) (fun j=>lRr) (Nat.pow_pos (by omega)) hL (fun la lb l j hla hlb hl=> ?_) (fun la lb l k hla hlb hl hk=> ?_)
 · cases j with
   | zero=>exact Nat.lt_of_le_of_lt (Nat.mul_le_mul_right _ (Nat.mul_le_mul_right _ (show la+lb - 2*l+2≤2*L+4 by omega))) hdL
   | succ j=>show 0*_<_;omega
 · have hs:=tS hla hlb hl hk
   have m1:=M2_bits (l:=l) (d:=d) hla hlb hg hgL (Nat.le_refl (2^h));obtain ⟨r1,r2⟩:=rounds_sq hla hlb hl hk;have pS:=phi1_bits (e:=S) hgg;have qS:=phi2_bits (L:=L+1) (e:=S) hgg hggL;have e0:(fun j=>(k+1)*one1 ((la+lb - 2*l+2)*d) j) 0=(k+1)*((la+lb - 2*l+2)*d):=rfl;refine ⟨2^B,?_,?_,?_,fun j=> ?_⟩
   · obtain ⟨t,ht⟩:∃t,la+lb - 2*l=t:=⟨_,rfl⟩
     rw [ht] at m1 r1;have m2:=mul_le_bits (pow_le_bits (k:=k) (mul_le_bits (show 2≤2^1 by decide) m1)) m1;refine Nat.le_trans m2 (Nat.pow_le_pow_right (by omega) ?_);obtain ⟨G,hG⟩:∃G,2*g+h+2=G:=⟨_,rfl⟩;rw [hG] at hB ⊢;obtain ⟨m,hm⟩:∃m,g*(2*(5*(t+1)*d+d)+1)+g*(2*L+1)+1+G*(c5 t+1)=m:=⟨_,rfl⟩;rw [hm];(have c1:4*(c5 t+1)≤5*(t+2)+3:=by unfold c5;omega);have c2:4*(G*(c5 t+1))≤5*(G*(t+2))+3*G:=by
      have h1:G*(4*(c5 t+1))≤G*(5*(t+2)+3):=Nat.mul_le_mul_left _ c1;have h2:G*(4*(c5 t+1))=4*(G*(c5 t+1)):=Nat.mul_left_comm _ _ _;(have h3:G*(5*(t+2)+3)=5*(G*(t+2))+3*G:=by rw [Nat.mul_add G (5*(t+2)),Nat.mul_left_comm G 5,Nat.mul_comm G 3]);omega
     have c3:g*(2*(5*(t+1)*d+d)+1)≤10*(g*d*(t+2))+g:=by
      have h1:2*(5*(t+1)*d+d)+1≤10*(d*(t+2))+1:=by
       (have h2:5*(t+1)*d=5*(d*t)+5*d:=by rw [Nat.mul_assoc,Nat.mul_comm (t+1) d,Nat.mul_add,Nat.mul_one,Nat.mul_add]);(have h3:d*(t+2)=d*t+2*d:=by rw [Nat.mul_add,Nat.mul_comm d 2]);omega
      have h4:=Nat.mul_le_mul_left g h1;rw [Nat.mul_add g (10*_),Nat.mul_one,Nat.mul_left_comm g 10,← Nat.mul_assoc g d] at h4;exact h4
     (have c4:g*(2*L+1)=2*(g*L)+g:=by rw [Nat.mul_add,Nat.mul_one,Nat.mul_left_comm]);have c5':4*(m+1)≤(t+2)*(40*(g*d)+5*G)+(8*(g*L)+8*g+8+3*G):=by
      have h1:(t+2)*(40*(g*d)+5*G)=40*(g*d*(t+2))+5*(G*(t+2)):=by
       rw [Nat.mul_add,Nat.mul_left_comm,Nat.mul_left_comm (t+2) 5,Nat.mul_comm (t+2) (g*d),Nat.mul_comm (t+2) G]
      rw [h1];omega
     have c6:4*((k+1)*(m+1))≤(k+1)*(t+2)*(40*(g*d)+5*G)+(k+1)*(8*(g*L)+8*g+8+3*G):=by
      have h1:=Nat.mul_le_mul_left (k+1) c5';rw [Nat.mul_left_comm,Nat.mul_add (k+1) ((t+2)*_),← Nat.mul_assoc (k+1) (t+2)] at h1;exact h1
     have c7:2*((k+1)*(t+2))*(40*(g*d)+5*G)≤(L+3)*(L+3)*(40*(g*d)+5*G):=Nat.mul_le_mul_right _ r1;rw [Nat.mul_assoc 2] at c7;have c8:(k+1)*(8*(g*L)+8*g+8+3*G)≤(L+2)*(8*(g*L)+8*g+8+3*G):=Nat.mul_le_mul_right _ (by omega);have c9:(1+m)*k+m+1=(k+1)*(m+1):=by
      rw [Nat.add_mul k 1 (m+1),Nat.one_mul,Nat.mul_comm (1+m) k,Nat.add_comm 1 m];omega
     omega
   · refine (low1_bits hK (L:=S) (g:=gg) (h:=gg*(2*S+1)+B) (fun j=>(k+1)*one1 ((la+lb - 2*l+2)*d) j) (show (k+1)*((la+lb - 2*l+2)*d)≤S from hs) hLS hgg b1 b2).less (fun j=>lRr) ?_
     rw [phi_one];show phi1 ((k+1)*((la+lb - 2*l+2)*d))*2^B≤_;exact mul_le_bits (Nat.le_trans (phi1_mono hs) pS) lRr
   · show Siz.phi (Pn 1) _*2^B*(Poly.phiP (Pn 1) (Poly.consD (L+1) _)*2^B)<_
     rw [phi2_eq,phi_one];show phi1 ((k+1)*((la+lb - 2*l+2)*d))*2^B*(phi2 (L+1) ((k+1)*((la+lb - 2*l+2)*d))*2^B)<_;exact Nat.lt_of_le_of_lt (mul_le_bits (mul_le_bits (Nat.le_trans (phi1_mono hs) pS) lRr) (mul_le_bits (Nat.le_trans (phi2_mono lRr hs) qS) lRr)) (Nat.pow_lt_pow_right (by omega) b3)
   · cases j with
     | zero=>
       show (k+1)*((la+lb - 2*l+2)*d)+(k+1)*((la+lb - 2*l+2)*d)<_;have h7:(1+(S+1))*4≤(1+(S+1))*(1+(S+1)+4):=Nat.mul_le_mul_left _ (by omega);omega
     | succ j=>show (k+1)*0+(k+1)*0<_;omega
end Go.Proofs.YtehcoffbiplphaaGreat
namespace Cl
open CRing Poly
def mx (f:Nat→Nat):Nat→Nat
 | 0=>f 0
 | n+1=>mx f n+f (n+1)
theorem le_mx (f:Nat→Nat):∀{n i:Nat},i≤n→f i≤mx f n
 | 0,i,h=>by
   have:i=0:=by omega
   rw [this];exact lRr
 | n+1,i,h=>by
   show f i≤mx f n+f (n+1);by_cases e:i=n+1
   · rw [e];exact Nat.le_add_left _ _
   · exact Nat.le_trans (le_mx f (n:=n) (by omega)) (Nat.le_add_right _ _)
theorem M3t_pos {H L d e t:Nat}(hH:0<H):0<M3t H L d e t:=by
 unfold M3t
 exact Nat.mul_pos (phi3_pos _ _ _) (Nat.mul_pos (by omega) (Nat.lt_of_lt_of_le hH (capN_ge _ _ _ (Nat.mul_pos (by omega) (by omega)))))
def ok2 (L d h:Nat):Bool:=
 let g:=lg (4*(5*(2*L+3)*d+d)+8+(4*L+8))
 let S:=((L+3)*(L+3)*d+1) / 2
 let gg:=lg (4*S+8+(4*(L+1)+8))
 let B:=((L+3)*(L+3)*(40*(g*d)+5*(2*g+h+2))+2*((L+2)*(8*(g*L)+8*g+8+3*(2*g+h+2)))+7) / 8
 Nat.ble ((1+(S+1))*(1+(S+1)+4)+1) 1000000000000 && Nat.ble ((L+2)*(L+6)+1) 1000000000000 && Nat.ble ((2*L+4)*d*(L+6)+1) 1000000000000 &&
 Nat.ble (2*((S+2)*(gg*(2*S+1)+2))+(S+3)*(S+3)*(gg+(gg*(2*S+1)+B)+2)+1) (128*3900000000000) && Nat.ble (gg*(2*S+1)+1+(gg+(gg*(2*S+1)+B)+2)*(2*S+4)+(gg*(2*S+1)+B)+1) (64*3900000000000) &&
 Nat.ble (gg*(2*S+1)+B+(gg*(2*S+1)+gg*(2*(L+1)+1)+B)+1) (64*3900000000000)
def B3 (h L d e:Nat):Nat:=mx (fun l=>(2*M3t (2^h) L d e (2*(L+1 - l)))^l*M3t (2^h) L d e (2*(L+1 - l))) (L+1)+(2*M3t (2^h) L d e 0)^(L+1)*M3t (2^h) L d e 0
def ok3 (L d e h B h2:Nat):Bool:=
 let R:=(L+3)*(L+3) / 2
 Nat.ble ((L+2)*(L+6)+1) 1000000000000 && Nat.ble ((2*L+4)*d*(L+6)+1) 1000000000000 && Nat.ble ((2*L+4)*e*(L+6)+1) 1000000000000 &&
 Nat.ble (R*d+R*d+1) 1000000000000 && Nat.ble (R*e+R*e+1) 1000000000000 &&
 Nat.ble (lg (phi2 (R*d) (R*e))+B+(lg (phi3 (L+1) (R*d) (R*e))+B)+1) (64*3900000000000) && Nat.ble (B3 h L d e) (2^B) && Nat.ble (lg (phi2 (R*d) (R*e))+B) h2 && ok2 (R*d) (R*e) h2
def shapes (p:Nat→Nat→Nat→Bool):Bool:=(List.range 20).all fun x=>(List.range (20 / (x+1))).all fun y=>(List.range (20 / (x+1) / (y+1))).all fun z=>p x y z
theorem of_shapes {p:Nat→Nat→Nat→Bool}(h:shapes p=true) {x y z:Nat}(hx:(x+1)*(y+1)*(z+1)≤20):p x y z=true:=by
 have h1:=List.all_eq_true.1 h
 have a2:(x+1)*(y+1)≤20:=Nat.le_trans (Nat.le_mul_of_pos_right _ (by omega)) hx
 have a3:x+1≤20:=Nat.le_trans (Nat.le_mul_of_pos_right _ (by omega)) a2
 have b2:y+1≤20 / (x+1):=(Nat.le_div_iff_mul_le (by omega)).2 (by rw [Nat.mul_comm];exact a2)
 have b3:z+1≤20 / (x+1) / (y+1):=by
  rw [Nat.div_div_eq_div_mul];exact (Nat.le_div_iff_mul_le (Nat.mul_pos (by omega) (by omega))).2 (by rw [Nat.mul_comm];exact hx)
 have h2:=List.all_eq_true.1 (h1 x (List.mem_range.2 (by omega)))
 have h3:=List.all_eq_true.1 (h2 y (List.mem_range.2 (by omega)))
 exact h3 z (List.mem_range.2 (by omega))
end Cl
namespace Go.Proofs.YtehcoffbiplphaaGreat
open Go.RowKit Cl CRing
theorem low2_ok {L d h:Nat}(k:ok2 L d h=true):Low 2 (two1 L d) (2^h):=by
 unfold ok2 at k
 simp only [Bool.and_eq_true,Nat.ble_eq] at k
 obtain ⟨⟨⟨⟨⟨k1,k2⟩,k3⟩,k4⟩,k5⟩,k6⟩:=k
 have g1:=le_pow_lg (4*(5*(2*L+3)*d+d)+8+(4*L+8))
 have g2:=le_pow_lg (4*(((L+3)*(L+3)*d+1) / 2)+8+(4*(L+1)+8))
 exact low2_bits (K:=3900000000000) lRr (Nat.le_trans (Nat.le_add_right _ _) g1) (Nat.le_trans (Nat.le_add_left _ _) g1) (Nat.le_trans (Nat.le_add_right _ _) g2) (Nat.le_trans (Nat.le_add_left _ _) g2) (by omega) (by omega) k1 k2 k3 k4 k5 k6
theorem low3_ok {L d e h B h2:Nat}(k:ok3 L d e h B h2=true):Low 3 (Poly.consD L (two1 d e)) (2^h):=by
 unfold ok3 at k
 simp only [Bool.and_eq_true,Nat.ble_eq] at k
 obtain ⟨⟨⟨⟨⟨⟨⟨⟨k1,k2⟩,k3⟩,k4⟩,k5⟩,k6⟩,kB⟩,kh⟩,k7⟩:=k
 obtain ⟨K,hK⟩:∃K:Nat,3900000000000=K:=⟨_,rfl⟩
 rw [hK] at k6
 have l2:=low2_ok k7
 have hH:0<2^h:=Nat.pow_pos (by omega)
 obtain ⟨R,hR⟩:∃R,(L+3)*(L+3) / 2=R:=⟨_,rfl⟩
 have hBm:∀l,l≤L+1→(2*M3t (2^h) L d e (2*(L+1 - l)))^l*M3t (2^h) L d e (2*(L+1 - l))≤2^B:=fun l hl=>Nat.le_trans (Nat.le_trans (le_mx (fun l=>(2*M3t (2^h) L d e (2*(L+1 - l)))^l*M3t (2^h) L d e (2*(L+1 - l))) hl) (Nat.le_add_right _ _)) kB
 have hBs:(2*M3t (2^h) L d e 0)^(L+1)*M3t (2^h) L d e 0≤2^B:=Nat.le_trans (Nat.le_add_left _ _) kB
 rw [hR] at k4 k5 k6 kh l2
 have tS:∀{la lb l k},la≤L+1→lb≤L+1→Pl la lb l→k≤rdM la lb l→∀x,(k+1)*((la+lb - 2*l+2)*x)≤R*x:=fun {la lb l k} hla hlb hl hk x=>by
  have r1:=(rounds_sq hla hlb hl hk).1;rw [← Nat.mul_assoc];exact Nat.mul_le_mul_right _ (by omega)
 refine lowG (n:=2) (K:=K) (Nat.le_of_eq hK.symm) (by omega) (L:=L) (Di:=two1 d e) (Dm:=fun la lb l=>two1 ((la+lb - 2*l+2)*d) ((la+lb - 2*l+2)*e)) (M:=fun la lb l=>M3t (2^h) L d e (la+lb - 2*l)) (fun la lb hm=>lad3 hm) _ (Nat.le_refl L) (fun j=>lRr) hH k1 (fun la lb l j hla hlb hl=> ?_) (fun la lb l k hla hlb hl hk=> ?_)
 · match j with
   | 0=>exact Nat.lt_of_le_of_lt (Nat.mul_le_mul_right _ (Nat.mul_le_mul_right _ (show la+lb - 2*l+2≤2*L+4 by omega))) k2
   | 1=>exact Nat.lt_of_le_of_lt (Nat.mul_le_mul_right _ (Nat.mul_le_mul_right _ (show la+lb - 2*l+2≤2*L+4 by omega))) k3
   | j+2=>show 0*_<_;omega
 · have hs:=tS hla hlb hl hk
   have dd:∀j,(fun j=>(k+1)*two1 ((la+lb - 2*l+2)*d) ((la+lb - 2*l+2)*e) j) j≤two1 (R*d) (R*e) j:=fun j=>by
    match j with
    | 0=>exact hs d
    | 1=>exact hs e
    | j+2=>show (k+1)*0≤_;omega
   have p2:phi2 ((fun j=>(k+1)*two1 ((la+lb - 2*l+2)*d) ((la+lb - 2*l+2)*e) j) 0) ((fun j=>(k+1)*two1 ((la+lb - 2*l+2)*d) ((la+lb - 2*l+2)*e) j) 1)≤2^lg (phi2 (R*d) (R*e)):=Nat.le_trans (phi2_mono (hs d) (hs e)) (le_pow_lg _);have p3:phi3 (L+1) ((fun j=>(k+1)*two1 ((la+lb - 2*l+2)*d) ((la+lb - 2*l+2)*e) j) 0) ((fun j=>(k+1)*two1 ((la+lb - 2*l+2)*d) ((la+lb - 2*l+2)*e) j) 1)≤2^lg (phi3 (L+1) (R*d) (R*e)):=Nat.le_trans (phi3_mono lRr (hs d) (hs e)) (le_pow_lg _);refine ⟨2^B,?_,?_,?_,fun j=> ?_⟩
   · unfold rdM at hk
     by_cases h0:l=la+lb
     · rw [if_pos h0] at hk
       (have e0:la+lb - 2*l=0:=by omega);show (2*M3t (2^h) L d e (la+lb - 2*l))^k*M3t (2^h) L d e (la+lb - 2*l)≤_;rw [e0];have m0:=M3t_pos (L:=L) (d:=d) (e:=e) (t:=0) hH;exact Nat.le_trans (Nat.mul_le_mul_right _ (Nat.pow_le_pow_right (by omega) (by omega))) hBs
     · rw [if_neg h0] at hk
       have hm:l≤min la lb:=hl.resolve_right h0;have m1:=M3t_mono (H:=2^h) (L:=L) (d:=d) (e:=e) (show la+lb - 2*l≤2*(L+1 - l) by omega);have m0:=M3t_pos (L:=L) (d:=d) (e:=e) (t:=2*(L+1 - l)) hH;exact Nat.le_trans (Nat.mul_le_mul (pow_mono2 (Nat.mul_le_mul_left _ m1) hk (by omega)) m1) (hBm l (by omega))
   · refine l2.less dd (Nat.le_trans ?_ (Nat.pow_le_pow_right (by omega) kh))
     rw [phi_two,Nat.pow_add];exact Nat.mul_le_mul_right _ p2
   · show Siz.phi (Pn 2) _*2^B*(Poly.phiP (Pn 2) (Poly.consD (L+1) _)*2^B)<_
     rw [phi3_eq,phi_two];exact Nat.lt_of_le_of_lt (mul_le_bits (mul_le_bits p2 lRr) (mul_le_bits p3 lRr)) (Nat.pow_lt_pow_right (by omega) k6)
   · have:=dd j
     have h8:two1 (R*d) (R*e) j+two1 (R*d) (R*e) j<1000000000000:=by
      match j with
      | 0=>exact k4
      | 1=>exact k5
      | j+2=>show 0+0<_;omega
     omega
def hb (x y z:Nat):Nat:=68+lg (phi3 x y z)
theorem lg_mono {a b:Nat}(h:a≤b):lg a≤lg b:=by
 unfold lg
 refine Nat.succ_le_succ ?_
 by_cases ha:a=0
 · rw [ha]
   exact Nat.le_trans (Nat.le_of_eq (by decide)) (Nat.zero_le _)
 · exact (Nat.le_log2 (by omega)).2 (Nat.le_trans (Nat.log2_self_le ha) h)
theorem hb_mono {x y z x' y' z':Nat}(h1:x≤x') (h2:y≤y') (h3:z≤z'):hb x y z≤hb x' y' z':=Nat.add_le_add_left (lg_mono (phi3_mono h1 h2 h3)) _
def tops:List (Nat×Nat×Nat×Nat×Nat×Nat):=[(0,0,19,293,8370,9556),(0,1,9,162,4096,4615),(0,2,5,124,2788,3104),(0,3,4,122,2747,3056),(0,4,3,122,2747,3056),(0,5,2,124,2788,3104),(0,9,1,162,4096,4615),(0,19,0,293,8370,9556),(1,0,9,162,7776,8889),(1,1,4,111,4293,4793),(1,2,2,99,3492,3856),(1,4,1,111,4293,4793),(1,9,0,162,7776,8889),(2,0,5,124,7436,8333),(2,1,2,99,4682,5108),(2,2,1,99,4682,5108),(2,5,0,124,7436,8333),(3,0,4,122,9574,10687),(3,4,0,122,9574,10687),(4,0,3,122,11046,12159),(4,1,1,111,8283,8880),(4,3,0,122,11046,12159),(5,0,2,124,12133,13101),(5,2,0,124,12133,13101),(9,0,1,162,27214,28327),(9,1,0,162,27214,28327),(19,0,0,293,127232,127233)]
theorem tops_ok:tops.all (fun m=>ok3 m.1 m.2.1 m.2.2.1 m.2.2.2.1 m.2.2.2.2.1 m.2.2.2.2.2 && (ok2 m.1 m.2.1 m.2.2.2.1 && Nat.ble (hb m.1 m.2.1 m.2.2.1) m.2.2.2.1))=true:=by decide+kernel
theorem under:shapes (fun x y z=>tops.any fun m=>Nat.ble x m.1 && (Nat.ble y m.2.1 && Nat.ble z m.2.2.1))=true:=by decide+kernel
theorem top_of {x y z:Nat}(h:(x+1)*(y+1)*(z+1)≤20):∃m:Nat×Nat×Nat×Nat×Nat×Nat,(ok3 m.1 m.2.1 m.2.2.1 m.2.2.2.1 m.2.2.2.2.1 m.2.2.2.2.2=true∧ok2 m.1 m.2.1 m.2.2.2.1=true∧hb m.1 m.2.1 m.2.2.1≤m.2.2.2.1)∧x≤m.1∧y≤m.2.1∧z≤m.2.2.1:=by
 have h1:=of_shapes under h
 obtain ⟨m,hm,h2⟩:=List.any_eq_true.1 h1
 rw [Bool.and_eq_true,Bool.and_eq_true,Nat.ble_eq,Nat.ble_eq,Nat.ble_eq] at h2
 have h3:=List.all_eq_true.1 tops_ok m hm
 rw [Bool.and_eq_true,Bool.and_eq_true,Nat.ble_eq] at h3
 exact ⟨m,h3,h2⟩
theorem low3_small {x y z:Nat}(h:(x+1)*(y+1)*(z+1)≤20):Low 3 (Poly.consD x (two1 y z)) (2^hb x y z):=by
 obtain ⟨m,hk,h1,h2,h3⟩:=top_of h
 refine (low3_ok hk.1).less (fun j=> ?_) (Nat.pow_le_pow_right (by omega) (Nat.le_trans (hb_mono h1 h2 h3) hk.2.2))
 match j with
 | 0=>exact h1
 | 1=>exact h2
 | 2=>exact h3
 | j+3=>exact lRr
theorem low2_small {x y:Nat}(h:(x+1)*(y+1)*(0+1)≤20):Low 2 (Poly.consD x (two1 y 0)) (2^hb x y 0):=by
 obtain ⟨m,hk,h1,h2,h3⟩:=top_of h
 refine (low2_ok hk.2.1).less (fun j=> ?_) (Nat.pow_le_pow_right (by omega) (Nat.le_trans (hb_mono h1 h2 h3) hk.2.2))
 match j with
 | 0=>exact h1
 | 1=>exact h2
 | 2=>exact lRr
 | j+3=>exact lRr
theorem hb_ok:shapes (fun x y z=>Nat.ble (hb x y z) 300)=true:=by decide+kernel
theorem hb_le {x y z:Nat}(h:(x+1)*(y+1)*(z+1)≤20):hb x y z≤300:=by
 have h1:=of_shapes hb_ok h
 rwa [Nat.ble_eq] at h1
theorem low_small:∀{n:Nat}(x y z:Nat),n≤3→(x+1)*(y+1)*(z+1)≤20→(n=2→z=0)→Low n (Poly.consD x (two1 y z)) (2^hb x y z)
 | 0,x,y,z,_,hx,_=>by
   obtain ⟨K,hK⟩:∃K:Nat,10=K:=⟨_,rfl⟩;exact low0 (K:=K) (by omega) (Nat.pow_lt_pow_right (by decide) (by have:=hb_le hx;omega)) _
 | 1,x,y,z,_,hx,_=>by
   have a2:(x+1)*(y+1)≤20:=Nat.le_trans (Nat.le_mul_of_pos_right _ (by omega)) hx;have a3:x+1≤20:=Nat.le_trans (Nat.le_mul_of_pos_right _ (by omega)) a2;obtain ⟨h,hh⟩:∃h:Nat,300=h:=⟨_,rfl⟩;exact (low1_bits (K:=3900000000000) lRr (L:=19) (g:=7) (h:=h) _ (show x≤19 by omega) (by decide) (by decide) (by rw [← hh];decide) (by rw [← hh];decide)).less (fun _=>lRr) (Nat.pow_le_pow_right (by decide) (by have:=hb_le hx;omega))
 | 2,x,y,z,_,hx,hz=>by
   rw [hz rfl] at hx ⊢;exact low2_small hx
 | 3,x,y,z,_,hx,_=>low3_small hx
 | n+4,x,y,z,hn,_,_=>absurd hn (by omega)
end Go.Proofs.YtehcoffbiplphaaGreat
namespace Cl
open CRing Poly
theorem phi_mono:∀(n:Nat) {D E:Nat→Nat},(∀j,D j≤E j)→Siz.phi (Pn n) D≤Siz.phi (Pn n) E
 | 0,_,_,_=>lRr
 | n+1,D,E,h=>by
   have h1:=phi_mono n (fun j=>h (j+1));show Siz.phi (Pn n) (fun j=>D (j+1))*(2*D 0+1)^D 0*(D 0+1)*(2*(2*D 0+1))^D 0≤Siz.phi (Pn n) (fun j=>E (j+1))*(2*E 0+1)^E 0*(E 0+1)*(2*(2*E 0+1))^E 0;have h0:=h 0;exact Nat.mul_le_mul (Nat.mul_le_mul (Nat.mul_le_mul h1 (pow_mono2 (by omega) h0 (by omega))) (by omega)) (pow_mono2 (by omega) h0 (by omega))
end Cl
namespace Go.Proofs.YtehcoffbiplphaaGreat
open Go.RowKit Cl CRing
theorem lowE {n K:Nat}(hK:K≤3900000000000) (hn:n≤97) {L Lc H Hc He:Nat} {Di De:Nat→Nat} {Dm:Nat→Nat→Nat→Nat→Nat} {M:Nat→Nat→Nat→Nat}
 (ld:∀la lb,max la lb≤L+1→Poly.Lad (Pn n) la lb H Di (Dm la lb) (M la lb)) (hH:0<H) (hHc:0<Hc) (hHe:Siz.phi (Pn (n+1)) (Poly.consD Lc De)*Hc≤He) (hL:(Lc+L+2)*(Lc+L+6)<1000000000000)
 (hDm:∀la lb l j,la≤L+1→lb≤L+1→Pl la lb l→(De j+Dm la lb l j)*(Lc+L+6)<1000000000000)
 (low:∀la lb l k,la≤L+1→lb≤L+1→Pl la lb l→k≤rdM la lb l→LowAt n K (Lc+L) (fun j=>(k+1)*(De j+Dm la lb l j)) ((2*(He*M la lb l))^k*(He*M la lb l)))
 (F G c:Pn (n+1)) (c0:c≠0) (dF:Siz.dg (Poly.consD L Di) F) (dG:Siz.dg (Poly.consD L Di) G) (dc:Siz.dg (Poly.consD Lc De) c) (nF:Siz.nm F≤H) (nG:Siz.nm G≤H) (nc:Siz.nm c≤Hc):ComOk (n+1) (c*F) (c*G):=by
 by_cases h0:F=0∨G=0
 · exact mcommonZ n hn _ _ (h0.imp (fun e=>by rw [e];exact CRing.mul_zero _) fun e=>by rw [e];exact CRing.mul_zero _)
 · have hF:F≠0:=fun e=>h0 (.inl e)
   have hG:G≠0:=fun e=>h0 (.inr e);have dF':Poly.dgP (Poly.consD L Di) (kids F):=dF;have dG':Poly.dgP (Poly.consD L Di) (kids G):=dG;have dc':Poly.dgP (Poly.consD Lc De) (kids c):=dc;have c0':kids c≠0:=fun e=>c0 e;have lF:(kids F).len≤L+1:=Poly.len_le dF'.1;have lG:(kids G).len≤L+1:=Poly.len_le dG'.1;have lc:(kids c).len≤Lc+1:=Poly.len_le dc'.1;have cF:∀i,Siz.dg Di ((kids F).co i):=dF'.2;have cG:∀i,Siz.dg Di ((kids G).co i):=dG'.2;obtain ⟨cq,e,hcq,cq0,ec,pe⟩:=Poly.cont_fac c0';have de1:Siz.dg (Poly.consD Lc De) (mkK e)∧Siz.nm (mkK e)≤Siz.phi (Pn (n+1)) (Poly.consD Lc De)*Siz.nm c:=Siz.factor (R:=Pn (n+1)) _ c (mkK e) c0 dc ⟨mkK (Poly.C cq),by show kids c=e*Poly.C cq;rw [ec,CRing.mul_comm]⟩;have de2:Poly.dgP (Poly.consD Lc De) e:=de1.1;have ne:Poly.nmP e≤He:=Nat.le_trans de1.2 (Nat.le_trans (Nat.mul_le_mul_left _ nc) hHe);have le:e.len≤Lc+1:=Poly.len_le de2.1;have hLL:Lc+L+6<1000000000000:=by
    have h7:1*(Lc+L+6)≤(Lc+L+2)*(Lc+L+6):=Nat.mul_le_mul_right _ (by omega);omega
   have kn:=(ld (kids F).len (kids G).len (by omega)).kn (a:=kids F) (b:=kids G) (fun e=>hF e) (fun e=>hG e) cF cG nF nG;have kn':=(ld (kids F).len (kids G).len (by omega)).symm.kn (a:=kids G) (b:=kids F) (fun e=>hG e) (fun e=>hF e) cG cF nG nF;have g0:∀(Dk:Nat→Nat) h,h*h≤Siz.phi (Pn n) Dk*h*(Siz.phi (Pn (n+1)) (Poly.consD (Lc+L+1) Dk)*h):=fun Dk h=>Nat.mul_le_mul (Nat.le_mul_of_pos_left _ (Siz.phi_pos _)) (Nat.le_mul_of_pos_left _ (Siz.phi_pos _));have mi:∀la lb l,max la lb≤L+1→Pl la lb l→M la lb (la+lb)≤M la lb l∧∀j,Di j≤Dm la lb l j:=fun la lb l hm hl=>by
    have h1:=(ld la lb hm).less (la+lb) l (by rcases hl with h | h<;>omega);exact ⟨h1.1,fun j=>Nat.le_trans ((ld la lb hm).stD j) (h1.2 j)⟩
   have hm0:∀la lb l,max la lb≤L+1→Pl la lb l→H≤M la lb l:=fun la lb l hm hl=>Nat.le_trans (Nat.le_mul_of_pos_left _ (Siz.phi_pos (R:=Pn (n+1)) (Poly.consD (max la lb - 1) Di))) (Nat.le_trans (ld la lb hm).stM (mi la lb l hm hl).1);have hcHe:Hc≤He:=Nat.le_trans (Nat.le_mul_of_pos_left _ (Siz.phi_pos _)) hHe;have hM:∀la lb l,max la lb≤L+1→Pl la lb l→Hc*H≤He*M la lb l:=fun la lb l hm hl=>Nat.mul_le_mul hcHe (hm0 la lb l hm hl);have hHF:0<Hc*H:=Nat.mul_pos hHc hH
   -- the two themselves:what is known of the start
   obtain ⟨hh,hh1,hh2,hh3,hh4⟩:=low (L+1) (L+1) (L+1+(L+1)) 0 lRr lRr (.inr rfl) (Nat.zero_le _);rw [Nat.pow_zero,Nat.one_mul] at hh1;have topD:=(mi (L+1) (L+1) (L+1+(L+1)) (by omega) (.inr rfl)).2;have topH:Hc*H≤hh:=Nat.le_trans (hM (L+1) (L+1) _ (by omega) (.inr rfl)) hh1;have dd0:∀j,De j+Di j≤(0+1)*(De j+Dm (L+1) (L+1) (L+1+(L+1)) j):=fun j=>by have:=topD j;omega
   have hDi:∀j,De j+Di j+(De j+Di j)<1000000000000:=fun j=>by
    have h2:(0+1)*(De j+Dm (L+1) (L+1) (L+1+(L+1)) j)+(0+1)*(De j+Dm (L+1) (L+1) (L+1+(L+1)) j)<1000000000000:=hh4 j;have:=dd0 j;omega
   have lowF:Low n (fun j=>De j+Di j) (Siz.phi (Pn n) (fun j=>De j+Di j)*(Hc*H)):=hh2.less dd0 (Nat.mul_le_mul (phi_mono n dd0) topH);have fits:∀X:Pn (n+1),X≠0→(kids X).len≤Lc+L+1→(∀i,Siz.dg (fun j=>De j+Di j) ((kids X).co i))→Siz.nm X≤Hc*H→∀c z,Poly.Cont c (kids X)→kids X=Poly.C c*kids z→ByFit (n+1) K z (mkK (Poly.C c)):=fun X hX lX cX nX c z hc e=>
    byFit (D:=Poly.consD (Lc+L) fun j=>De j+Di j) hX hc e (show Poly.dgP _ (kids X) from ⟨(Poly.len_sh _).mono lX,cX⟩) nX (fun j=>by
     cases j with
     | zero=>show Lc+L+(Lc+L)<_
             have h7:2*(Lc+L+6)≤(Lc+L+2)*(Lc+L+6):=Nat.mul_le_mul_right _ (by omega);omega
     | succ j=>exact hDi j) (Nat.lt_of_le_of_lt (Nat.mul_le_mul (Nat.mul_le_mul (phi_mono n dd0) topH) (Nat.mul_le_mul (phi_mono (n+1) (fun j=>by
       cases j with
       | zero=>show Lc+L≤Lc+L+1;omega
       | succ j=>exact dd0 j)) topH)) hh3) hHF
   obtain ⟨la,hla⟩:∃la,(kids F).len=la:=⟨_,rfl⟩;obtain ⟨lb,hlb⟩:∃lb,(kids G).len=lb:=⟨_,rfl⟩;have N:Num n K (kids F).len (kids G).len (Dm (kids F).len (kids G).len) (M (kids F).len (kids G).len) De (Lc+1) He:=by
    rw [hla,hlb];rw [hla] at lF;rw [hlb] at lG;refine ⟨fun l k hl hk=> ?_,fun l k hl hk=> ?_,fun l k hl hk r hr lr dr nr c z hc e=> ?_,?_,fun l j hl=> ?_⟩
    · obtain ⟨h,h1,h2,_,_⟩:=low la lb l k lF lG hl hk
      exact h2.less (fun j=>lRr) (Nat.mul_le_mul_left _ h1)
    · obtain ⟨h,h1,_,h3,_⟩:=low la lb l k lF lG hl hk
      by_cases hz:h=0
      · rw [hz] at h1
        exact Nat.lt_of_le_of_lt h1 (Nat.pow_pos (by omega))
      · exact Nat.lt_of_le_of_lt h1 (Nat.lt_of_le_of_lt (Nat.le_trans (Nat.le_mul_of_pos_left h (Nat.pos_of_ne_zero hz)) (g0 _ h)) h3)
    · obtain ⟨h,h1,_,h3,h4⟩:=low la lb l k lF lG hl hk
      have nr':=Nat.le_trans nr h1;have hz':0<h:=Nat.lt_of_lt_of_le (Siz.nm_pos r hr) nr';refine byFit (D:=Poly.consD (Lc+L+1) (fun j=>(k+1)*(De j+Dm la lb l j))) hr hc e (show Poly.dgP _ (kids r) from ⟨(Poly.len_sh _).mono (by show _≤Lc+L+1+1;omega),dr⟩) nr' (fun j=> ?_) h3 hz';cases j with
      | zero=>show Lc+L+1+(Lc+L+1)<_
              have h7:2*(Lc+L+6)≤(Lc+L+2)*(Lc+L+6):=Nat.mul_le_mul_right _ (by omega);omega
      | succ j=>exact h4 j
    · exact Nat.lt_of_le_of_lt (Nat.mul_le_mul (show _≤Lc+L+2 by omega) (show _≤Lc+L+6 by omega)) hL
    · exact Nat.lt_of_le_of_lt (Nat.mul_le_mul_left _ (by omega)) (hDm la lb l j lF lG hl)
   have hcF:c*F≠0:=fun e=>(Dom.nz _ _ e).elim c0 hF;have hcG:c*G≠0:=fun e=>(Dom.nz _ _ e).elim c0 hG;have ll:∀X:Pn (n+1),X≠0→(kids X).len≤L+1→(kids (c*X)).len≤Lc+L+1:=fun X hX lX=>by
    have h1:(kids (c*X)).len=(kids c).len+(kids X).len - 1:=Poly.len_mulE c0' (fun e=>hX e);omega
   have nn:∀X:Pn (n+1),Siz.nm X≤H→Siz.nm (c*X)≤Hc*H:=fun X nX=>Nat.le_trans (Siz.nm_mul _ _) (Nat.mul_le_mul nc nX);have dd:∀X:Pn (n+1),(∀i,Siz.dg Di ((kids X).co i))→∀i,Siz.dg (fun j=>De j+Di j) ((kids (c*X)).co i):=fun X hX i=>mul_dgc dc'.2 hX i;refine common_ok (K:=K) hK hn (e:=e) (a:=kids F) (b:=kids G) (q:=kids c) (cq:=cq) (DF:=fun j=>De j+Di j) (HF:=Hc*H) N kn kn' pe le de2.2 ne hcF hcG cq0 ec rfl rfl ⟨by have:=ll F hF lF;omega,dd F cF,nn F nF,fits _ hcF (ll F hF lF) (dd F cF) (nn F nF)⟩ ⟨by have:=ll G hG lG;omega,dd G cG,nn G nG,fits _ hcG (ll G hG lG) (dd G cG) (nn G nG)⟩ lowF (fun l hl=> ?_) (fun l j hl=> ?_) hHF
   · rw [hla,hlb] at hl ⊢
     obtain ⟨h,h1,_,h3,_⟩:=low la lb l 0 (by omega) (by omega) hl (Nat.zero_le _);rw [Nat.pow_zero,Nat.one_mul] at h1;have h5:=Nat.le_trans (hM la lb l (by omega) hl) h1;(have h6:∀j,De j+Di j≤(0+1)*(De j+Dm la lb l j):=fun j=>by have:=(mi la lb l (by omega) hl).2 j;omega);have h7:=Nat.mul_le_mul (phi_mono n h6) h5;rw [Nat.mul_comm];exact Nat.lt_of_le_of_lt (Nat.mul_le_mul h7 (Nat.le_trans h1 (Nat.le_mul_of_pos_left _ (Siz.phi_pos _)))) h3
   · rw [hla,hlb] at hl ⊢
     obtain ⟨h,_,_,_,h4⟩:=low la lb l 0 (by omega) (by omega) hl (Nat.zero_le _);have h2:(0+1)*(De j+Dm la lb l j)+(0+1)*(De j+Dm la lb l j)<1000000000000:=h4 j;have h1:=(mi la lb l (by omega) hl).2 j;show De j+Dm la lb l j+(De j+Di j)<_;omega
end Go.Proofs.YtehcoffbiplphaaGreat
namespace Cl
open CRing Poly
def BE (He L:Nat) (Mt:Nat→Nat):Nat:=mx (fun l=>(2*(He*Mt (2*(L+1 - l))))^l*(He*Mt (2*(L+1 - l)))) (L+1)+(2*(He*Mt 0))^(L+1)*(He*Mt 0)
def RE (L:Nat):Nat:=(L+3)*(L+3) / 2+(L+2)
end Cl
namespace Go.Proofs.YtehcoffbiplphaaGreat
open Go.RowKit Cl CRing
theorem lowEB {n K:Nat}(hK:K≤3900000000000) (hn:n≤97) {L B h:Nat} {Di:Nat→Nat} {Mt:Nat→Nat}(mono:∀{t t'},t≤t'→Mt t≤Mt t') (pos:∀t,0<Mt t) (ld:∀la lb,max la lb≤L+1→Poly.Lad (Pn n) la lb (2^h) Di (fun l j=>(la+lb - 2*l+2)*Di j) (fun l=>Mt (la+lb - 2*l)))
 (hL:(L+L+2)*(L+L+6)<1000000000000) (hD:∀j,(2*L+5)*Di j*(L+L+6)<1000000000000) (hR:∀j,RE L*Di j+RE L*Di j<1000000000000) (hB:BE (Siz.phi (Pn (n+1)) (Poly.consD L Di)*2^h) L Mt≤2^B)
 (low:Low n (fun j=>RE L*Di j) (Siz.phi (Pn n) (fun j=>RE L*Di j)*2^B)) (fit:Siz.phi (Pn n) (fun j=>RE L*Di j)*2^B*(Siz.phi (Pn (n+1)) (Poly.consD (L+L+1) fun j=>RE L*Di j)*2^B)<2^(64*K))
 (F G c:Pn (n+1)) (c0:c≠0) (dF:Siz.dg (Poly.consD L Di) F) (dG:Siz.dg (Poly.consD L Di) G) (dc:Siz.dg (Poly.consD L Di) c) (nF:Siz.nm F≤2^h) (nG:Siz.nm G≤2^h) (nc:Siz.nm c≤2^h):ComOk (n+1) (c*F) (c*G):=by
 have hH:0<2^h:=Nat.pow_pos (by omega)
 refine lowE (K:=K) hK hn (L:=L) (Lc:=L) (Di:=Di) (De:=Di) ld hH hH lRr hL (fun la lb l j hla hlb hl=> ?_) (fun la lb l k hla hlb hl hk=> ?_) F G c c0 dF dG dc nF nG nc
 · refine Nat.lt_of_le_of_lt (Nat.mul_le_mul_right _ ?_) (hD j)
   have h1:(la+lb - 2*l+3)*Di j≤(2*L+5)*Di j:=Nat.mul_le_mul_right _ (by omega);rw [show la+lb - 2*l+3=la+lb - 2*l+2+1 by omega,Nat.add_mul _ 1,Nat.one_mul] at h1;omega
 · obtain ⟨r1,r2⟩:=rounds_sq hla hlb hl hk
   have hs:∀j,(k+1)*(Di j+(la+lb - 2*l+2)*Di j)≤RE L*Di j:=fun j=>by
    (have e1:∀a T d:Nat,a*(d+T*d)=(a*T+a)*d:=fun a T d=>by rw [Nat.add_mul,Nat.mul_add,Nat.mul_assoc,Nat.add_comm]);rw [e1];refine Nat.mul_le_mul_right _ ?_;unfold RE;omega
   refine ⟨2^B,Nat.le_trans ?_ hB,low.less hs (Nat.mul_le_mul_right _ (phi_mono n hs)),Nat.lt_of_le_of_lt (Nat.mul_le_mul (Nat.mul_le_mul_right _ (phi_mono n hs)) (Nat.mul_le_mul_right _ (phi_mono (n+1) fun j=> ?_))) fit,fun j=> ?_⟩
   · obtain ⟨He,hHe⟩:∃He,Siz.phi (Pn (n+1)) (Poly.consD L Di)*2^h=He:=⟨_,rfl⟩
     (have he0:0<He:=by rw [← hHe];exact Nat.mul_pos (Siz.phi_pos _) hH);rw [hHe];unfold rdM at hk;by_cases h0:l=la+lb
     · rw [if_pos h0] at hk
       rw [show la+lb - 2*l=0 by omega];exact Nat.le_trans (Nat.mul_le_mul_right _ (Nat.pow_le_pow_right (Nat.mul_pos (by omega) (Nat.mul_pos he0 (pos 0))) (by omega))) (Nat.le_add_left _ _)
     · rw [if_neg h0] at hk
       have hm:l≤min la lb:=hl.resolve_right h0;have m1:=Nat.mul_le_mul_left He (mono (show la+lb - 2*l≤2*(L+1 - l) by omega));exact Nat.le_trans (Nat.mul_le_mul (pow_mono2 (Nat.mul_le_mul_left _ m1) hk (Nat.mul_pos (by omega) (Nat.mul_pos he0 (pos _)))) m1) (Nat.le_trans (le_mx (fun l=>(2*(He*Mt (2*(L+1 - l))))^l*(He*Mt (2*(L+1 - l)))) (show l≤L+1 by omega)) (Nat.le_add_right _ _))
   · cases j with
     | zero=>exact lRr
     | succ j=>exact hs j
   · have:=hs j
     have:=hR j;show (k+1)*(Di j+(la+lb - 2*l+2)*Di j)+(k+1)*(Di j+(la+lb - 2*l+2)*Di j)<_;omega
def ok3E (L d e h B h2:Nat):Bool:=
 Nat.ble ((L+L+2)*(L+L+6)+1) 1000000000000 && Nat.ble ((2*L+5)*(d+e)*(L+L+6)+1) 1000000000000 && Nat.ble (RE L*(d+e)+RE L*(d+e)+1) 1000000000000 &&
 Nat.ble (lg (phi2 (RE L*d) (RE L*e))+B+(lg (phi3 (L+L+1) (RE L*d) (RE L*e))+B)+1) (64*3900000000000) && Nat.ble (BE (phi3 L d e*2^h) L (M3t (2^h) L d e)) (2^B) && Nat.ble (lg (phi2 (RE L*d) (RE L*e))+B) h2 && ok2 (RE L*d) (RE L*e) h2
theorem com3E {L d e h B h2:Nat}(k:ok3E L d e h B h2=true):∀F G c:Pn 3,c≠0→Siz.dg (Poly.consD L (two1 d e)) F→Siz.dg (Poly.consD L (two1 d e)) G→Siz.dg (Poly.consD L (two1 d e)) c→Siz.nm F≤2^h→Siz.nm G≤2^h→Siz.nm c≤2^h→ComOk 3 (c*F) (c*G):=by
 unfold ok3E at k
 simp only [Bool.and_eq_true,Nat.ble_eq] at k
 obtain ⟨⟨⟨⟨⟨⟨k1,k2⟩,k3⟩,k4⟩,k5⟩,k6⟩,k7⟩:=k
 obtain ⟨K,hK⟩:∃K:Nat,3900000000000=K:=⟨_,rfl⟩
 rw [hK] at k4
 have ej:∀a j,a*two1 d e j=two1 (a*d) (a*e) j:=fun a j=>by
  match j with
  | 0=>rfl
  | 1=>rfl
  | j+2=>rfl
 have le:∀j,two1 d e j≤d+e:=fun j=>by
  match j with
  | 0=>exact Nat.le_add_right _ _
  | 1=>exact Nat.le_add_left _ _
  | j+2=>exact Nat.zero_le _
 refine lowEB (n:=2) (K:=K) (Nat.le_of_eq hK.symm) (by omega) (B:=B) (Mt:=M3t (2^h) L d e) M3t_mono (fun t=>M3t_pos (Nat.pow_pos (by omega))) (fun la lb hm=> ?_) k1 (fun j=>Nat.lt_of_le_of_lt (Nat.mul_le_mul_right _ (Nat.mul_le_mul_left _ (le j))) k2) (fun j=> ?_) k5 ?_ ?_
 · have h1:=lad3 (la:=la) (lb:=lb) (H:=2^h) (d:=d) (e:=e) hm
   rwa [show (fun l=>two1 ((la+lb - 2*l+2)*d) ((la+lb - 2*l+2)*e))=fun l j=>(la+lb - 2*l+2)*two1 d e j from funext fun l=>funext fun j=>(ej _ j).symm] at h1
 · have:=Nat.mul_le_mul_left (RE L) (le j)
   omega
 · rw [phi_two]
   refine (low2_ok k7).less (fun j=>Nat.le_of_eq (ej _ j)) (Nat.le_trans ?_ (Nat.pow_le_pow_right (by omega) k6));rw [Nat.pow_add];exact Nat.mul_le_mul_right _ (le_pow_lg _)
 · show Siz.phi (Pn 2) _*2^B*(Poly.phiP (Pn 2) (Poly.consD (L+L+1) _)*2^B)<_
   rw [phi3_eq,phi_two];exact Nat.lt_of_le_of_lt (mul_le_bits (mul_le_bits (le_pow_lg _) lRr) (mul_le_bits (le_pow_lg _) lRr)) (Nat.pow_lt_pow_right (by omega) k4)
def M2t (H L d t:Nat):Nat:=phi2 L (5*(t+1)*d+d)*(2*Poly.capN t ((5*(t+1)*d+1)*1) H (c5 t))
theorem M2t_mono {H L d t t':Nat}(h:t≤t'):M2t H L d t≤M2t H L d t':=by
 have h5:5*(t+1)*d≤5*(t'+1)*d:=Nat.mul_le_mul_right _ (by omega)
 unfold M2t
 exact Nat.mul_le_mul (phi2_mono lRr (by omega)) (Nat.mul_le_mul_left _ (capN_mono h (by omega) (by unfold c5;omega)))
def ok2E (L d h B:Nat):Bool:=
 let g:=lg (4*(RE L*d)+8)
 let h1:=lg (phi1 (RE L*d))+B
 Nat.ble ((L+L+2)*(L+L+6)+1) 1000000000000 && Nat.ble ((2*L+5)*d*(L+L+6)+1) 1000000000000 && Nat.ble (RE L*d+RE L*d+1) 1000000000000 && Nat.ble ((1+(RE L*d+1))*(1+(RE L*d+1)+4)+1) 1000000000000 &&
 Nat.ble (lg (phi1 (RE L*d))+B+(lg (phi2 (L+L+1) (RE L*d))+B)+1) (64*3900000000000) && Nat.ble (BE (phi2 L d*2^h) L (M2t (2^h) L d)) (2^B) &&
 Nat.ble (2*((RE L*d+2)*(g*(2*(RE L*d)+1)+2))+(RE L*d+3)*(RE L*d+3)*(g+h1+2)+1) (128*3900000000000) && Nat.ble (g*(2*(RE L*d)+1)+1+(g+h1+2)*(2*(RE L*d)+4)+h1+1) (64*3900000000000)
theorem com2E {L d h B:Nat}(k:ok2E L d h B=true):∀F G c:Pn 2,c≠0→Siz.dg (Poly.consD L (one1 d)) F→Siz.dg (Poly.consD L (one1 d)) G→Siz.dg (Poly.consD L (one1 d)) c→Siz.nm F≤2^h→Siz.nm G≤2^h→Siz.nm c≤2^h→ComOk 2 (c*F) (c*G):=by
 unfold ok2E at k
 simp only [Bool.and_eq_true,Nat.ble_eq] at k
 obtain ⟨⟨⟨⟨⟨⟨⟨k1,k2⟩,k3⟩,k4⟩,k5⟩,k6⟩,k7⟩,k8⟩:=k
 obtain ⟨K,hK⟩:∃K:Nat,3900000000000=K:=⟨_,rfl⟩
 rw [hK] at k5 k7 k8
 have ej:∀a j,a*one1 d j=one1 (a*d) j:=fun a j=>by
  match j with
  | 0=>rfl
  | j+1=>rfl
 have le:∀j,one1 d j≤d:=fun j=>by
  match j with
  | 0=>exact lRr
  | j+1=>exact Nat.zero_le _
 refine lowEB (n:=1) (K:=K) (Nat.le_of_eq hK.symm) (by omega) (B:=B) (Mt:=M2t (2^h) L d) M2t_mono (fun t=>Nat.mul_pos (phi2_pos _ _) (Nat.mul_pos (by omega) (Nat.lt_of_lt_of_le (Nat.pow_pos (show 0<2 by omega)) (capN_ge _ _ _ (Nat.mul_pos (Nat.succ_pos _) Nat.one_pos))))) (fun la lb hm=> ?_) k1 (fun j=>Nat.lt_of_le_of_lt (Nat.mul_le_mul_right _ (Nat.mul_le_mul_left _ (le j))) k2) (fun j=> ?_) k6 ?_ ?_
 · have h1:=lad2 (la:=la) (lb:=lb) (H:=2^h) (d:=d) hm
   rwa [show (fun l=>one1 ((la+lb - 2*l+2)*d))=fun l j=>(la+lb - 2*l+2)*one1 d j from funext fun l=>funext fun j=>(ej _ j).symm] at h1
 · have:=Nat.mul_le_mul_left (RE L) (le j)
   omega
 · rw [phi_one]
   refine (low1_bits (K:=K) (Nat.le_of_eq hK.symm) (L:=RE L*d) (g:=lg (4*(RE L*d)+8)) (h:=lg (phi1 (RE L*d))+B) _ lRr k4 (le_pow_lg _) k7 k8).less (fun j=>lRr) ?_;rw [Nat.pow_add];exact Nat.mul_le_mul_right _ (le_pow_lg _)
 · show Siz.phi (Pn 1) _*2^B*(Poly.phiP (Pn 1) (Poly.consD (L+L+1) _)*2^B)<_
   rw [phi2_eq,phi_one];exact Nat.lt_of_le_of_lt (mul_le_bits (mul_le_bits (le_pow_lg _) lRr) (mul_le_bits (le_pow_lg _) lRr)) (Nat.pow_lt_pow_right (by omega) k5)
def ok1E (L h B:Nat):Bool:=Nat.ble ((L+L+2)*(L+L+6)+1) 1000000000000 && Nat.ble (B+(lg (phi1 (L+L+1))+B)+1) (64*3900000000000) && Nat.ble (BE (phi1 L*2^h) L (fun t=>phi1 L*(2*cap1 t (2^h)))) (2^B)
theorem com1E {L h B:Nat}(k:ok1E L h B=true):∀F G c:Pn 1,c≠0→Siz.dg (Poly.consD L fun _=>0) F→Siz.dg (Poly.consD L fun _=>0) G→Siz.dg (Poly.consD L fun _=>0) c→Siz.nm F≤2^h→Siz.nm G≤2^h→Siz.nm c≤2^h→ComOk 1 (c*F) (c*G):=by
 unfold ok1E at k
 simp only [Bool.and_eq_true,Nat.ble_eq] at k
 obtain ⟨⟨k1,k2⟩,k3⟩:=k
 obtain ⟨K,hK⟩:∃K:Nat,3900000000000=K:=⟨_,rfl⟩
 rw [hK] at k2
 have hB:2^B*(phi1 (L+L+1)*2^B)<2^(64*K):=Nat.lt_of_le_of_lt (mul_le_bits lRr (mul_le_bits (le_pow_lg _) lRr)) (Nat.pow_lt_pow_right (by omega) k2)
 have p0:0<phi1 (L+L+1)*2^B:=Nat.mul_pos (phi1_pos _) (Nat.pow_pos (by omega))
 refine lowEB (n:=0) (K:=K) (Nat.le_of_eq hK.symm) (by omega) (B:=B) (Mt:=fun t=>phi1 L*(2*cap1 t (2^h))) (fun h=>Nat.mul_le_mul_left _ (Nat.mul_le_mul_left _ (cap1_mono h))) (fun t=>Nat.mul_pos (phi1_pos _) (Nat.mul_pos (by omega) (Nat.lt_of_lt_of_le (Nat.pow_pos (show 0<2 by omega)) (cap1_ge _ _)))) (fun la lb hm=> ?_) k1 (fun j=>by rw [Nat.mul_zero,Nat.zero_mul];omega) (fun j=>by rw [Nat.mul_zero];omega) k3 ?_ ?_
 · have h1:=lad1 (la:=la) (lb:=lb) (H:=2^h) (fun _=>0) hm
   rwa [show (fun (_:Nat) (j:Nat)=>(fun _=>0) j)=fun l j=>(la+lb - 2*l+2)*0 from funext fun l=>funext fun j=>(Nat.mul_zero _).symm] at h1
 · refine low0 (K:=K) (Nat.le_of_eq hK.symm) (Nat.lt_of_le_of_lt ?_ hB) _
   show 1*_≤_;rw [Nat.one_mul];exact Nat.le_mul_of_pos_right _ p0
 · show 1*2^B*(phi1 (L+L+1)*2^B)<_
   rw [Nat.one_mul];exact hB
theorem com0E {h K:Nat}(hK:K≤3900000000000) (hh:h+h<64*K) {F G c:Pn 0}(nF:Siz.nm F≤2^h) (nG:Siz.nm G≤2^h) (nc:Siz.nm c≤2^h):ComOk 0 (c*F) (c*G):=by
 have h2:∀{f:Pn 0},Siz.nm f≤2^h→Siz.nm (c*f)<2^(64*K):=fun h=>Nat.lt_of_le_of_lt (Nat.le_trans (Siz.nm_mul _ _) (mul_le_bits nc h)) (Nat.pow_lt_pow_right (by omega) hh)
 exact mcommon0 K hK _ _ (h2 nF) (h2 nG)
def topsE:List (Nat×Nat×Nat×Nat×Nat):=[(0,0,11,5160,6164),(0,1,5,3395,3840),(0,2,3,3053,3390),(0,3,2,3053,3390),(0,5,1,3395,3840),(0,11,0,5160,6164),(1,0,5,6373,7182),(1,1,2,5058,5441),(1,2,1,5058,5441),(1,5,0,6373,7182),(2,0,3,7811,8499),(2,1,1,6864,7228),(2,3,0,7811,8499),(3,0,2,9946,10600),(3,2,0,9946,10600),(5,0,1,14823,15360),(5,1,0,14823,15360),(11,0,0,37803,37804)]
def topsE2:List (Nat×Nat×Nat):=[(0,11,4529),(1,5,5118),(2,3,6299),(3,2,8062),(5,1,11476),(11,0,28810)]
theorem topsE_ok:topsE.all (fun m=>ok3E m.1 m.2.1 m.2.2.1 200 m.2.2.2.1 m.2.2.2.2)=true:=by decide+kernel
theorem topsE2_ok:topsE2.all (fun m=>ok2E m.1 m.2.1 200 m.2.2)=true:=by decide+kernel
theorem topE1_ok:ok1E 11 200 23075=true:=by decide+kernel
theorem underE:((List.range 12).all fun x=>(List.range (12 / (x+1))).all fun y=>(topsE2.any fun m=>Nat.ble x m.1 && Nat.ble y m.2.1) && (List.range (12 / (x+1) / (y+1))).all fun z=>topsE.any fun m=>Nat.ble x m.1 && (Nat.ble y m.2.1 && Nat.ble z m.2.2.1))=true:=by decide+kernel
theorem com_small:∀{n:Nat}(x y z:Nat),n≤3→(x+1)*(y+1)*(z+1)≤12→(n=2→z=0)→∀F G c:Pn n,c≠0→Siz.dg (Poly.consD x (two1 y z)) F→Siz.dg (Poly.consD x (two1 y z)) G→Siz.dg (Poly.consD x (two1 y z)) c→Siz.nm F≤2^200→Siz.nm G≤2^200→Siz.nm c≤2^200→ComOk n (c*F) (c*G):=fun {n} x y z hn hx hz F G c c0 dF dG dc nF nG nc=>by
 have a2:(x+1)*(y+1)≤12:=Nat.le_trans (Nat.le_mul_of_pos_right _ (by omega)) hx
 have a3:x+1≤12:=Nat.le_trans (Nat.le_mul_of_pos_right _ (by omega)) a2
 have b2:y+1≤12 / (x+1):=(Nat.le_div_iff_mul_le (by omega)).2 (by rw [Nat.mul_comm];exact a2)
 have h1:=List.all_eq_true.1 (List.all_eq_true.1 underE x (List.mem_range.2 (by omega))) y (List.mem_range.2 (by omega))
 rw [Bool.and_eq_true] at h1
 match n,hn with
 | 0,_=>
   exact com0E (K:=10) (by decide) (by decide) nF nG nc
 | 1,_=>
   have h2:∀{f:Pn 1},Siz.dg (Poly.consD x (two1 y z)) f→Siz.dg (Poly.consD 11 fun _=>0) f:=fun {f} h=>(show Poly.dgP _ (kids f) from ⟨(show Poly.dgP _ (kids f) from h).1.mono (by show x+1≤11+1;omega),fun _=>trivial⟩);exact com1E topE1_ok F G c c0 (h2 dF) (h2 dG) (h2 dc) nF nG nc
 | 2,_=>
   rw [hz rfl] at dF dG dc;obtain ⟨m,hm,h2⟩:=List.any_eq_true.1 h1.1;rw [Bool.and_eq_true,Nat.ble_eq,Nat.ble_eq] at h2;have dd:∀j,Poly.consD x (two1 y 0) j≤Poly.consD m.1 (one1 m.2.1) j:=fun j=>by
    match j with
    | 0=>exact h2.1
    | 1=>exact h2.2
    | 2=>exact lRr
    | j+3=>exact lRr
   exact com2E (List.all_eq_true.1 topsE2_ok m hm) F G c c0 (Siz.dg_mono _ _ _ dd dF) (Siz.dg_mono _ _ _ dd dG) (Siz.dg_mono _ _ _ dd dc) nF nG nc
 | 3,_=>
   have b3:z+1≤12 / (x+1) / (y+1):=by
    rw [Nat.div_div_eq_div_mul];exact (Nat.le_div_iff_mul_le (Nat.mul_pos (by omega) (by omega))).2 (by rw [Nat.mul_comm];exact hx)
   obtain ⟨m,hm,h2⟩:=List.any_eq_true.1 (List.all_eq_true.1 h1.2 z (List.mem_range.2 (by omega)));rw [Bool.and_eq_true,Bool.and_eq_true,Nat.ble_eq,Nat.ble_eq,Nat.ble_eq] at h2;have dd:∀j,Poly.consD x (two1 y z) j≤Poly.consD m.1 (two1 m.2.1 m.2.2.1) j:=fun j=>by
    match j with
    | 0=>exact h2.1
    | 1=>exact h2.2.1
    | 2=>exact h2.2.2
    | j+3=>exact lRr
   exact com3E (List.all_eq_true.1 topsE_ok m hm) F G c c0 (Siz.dg_mono _ _ _ dd dF) (Siz.dg_mono _ _ _ dd dG) (Siz.dg_mono _ _ _ dd dc) nF nG nc
end Go.Proofs.YtehcoffbiplphaaGreat
