import Derived.Test.YtehcoffbiplphaaGreatHPlB
set_option linter.all false
set_option maxRecDepth 100000
namespace Go.Proofs.YtehcoffbiplphaaGreat
open Go.Proofs.Tryz
open Go.RowKit
def ahF (w:World) (e:Ending) (w':World):Prop:=e=.returned (.tuple #[.slice none 0 0,.int .i64 1])∧Below w.heap.size w w'
def adU (w:World) (e:Ending) (w':World):Prop:=e=.returned (.tuple #[.agg #[.bool false,.slice none 0 0],.slice none 0 0,.int .i64 1])∧Below w.heap.size w w'
def aaE (n:Int) (A:Option Addr) (ma ca:Nat) (L:List TV) (w:World) (hx:iI w A ma L) (h:GN n L=1):
 aB 20 #[.int .i64 n,.slice A ma ca] w (ahF w):=by
 have Cc:=aA (aaL n A ma ca L w hx);rw [h] at Cc;clear hx h;go_enter func20,ntmps20
 go_wp2_with fail
 refine Cc.o.mono ?_;rintro e w1 ⟨rfl,cZ⟩;go_wp2_with fail
 go_ret2;exact ⟨rfl,cZ⟩
def aaC (n:Int) (A:Option Addr) (ma ca:Nat) (L:List TV) (w:World) (hx:iI w A ma L) (h:GN n L=1):
 aB 23 #[.int .i64 n,.slice A ma ca] w (adU w):=by
 have vh:=Duo.new w (.bool false) (.slice none 0 0);have rF:Below w.heap.size w (w.alloc (.cells #[.bool false,.slice none 0 0] 41)):=aU.alloc aL _;have Cn:=aA (aaE n A ma ca L _ (hx.aC rF) h);have HD0:=aA vh;have U2:=aA rF;clear hx vh rF h;go_enter func23,ntmps23
 go_wp2_with fail
 generalize w.alloc (.cells #[.bool false,.slice none 0 0] 41)=w0 at*
 refine Cn.o.mono ?_;rintro e w1 ⟨rfl,cZ⟩;have HD1:=aA (HD0.o.aC cZ);have y0:=HD1.o.cell0;have y1:=HD1.o.cell1;have f0:=HD1.o.frozen 0;have f1:=HD1.o.frozen 1;have wu:=aA (U2.o.tm cZ);clear cZ;go_wp2_with fail
 refine bK (iX (fn:=Tryz.f23) rfl _ _ _ _ _ _ _ rfl (HD1.o.set (.bool false) (.slice none 0 0)) underlying41 rfl bQ) rfl ?_;exact ⟨rfl,(wu.o.setCell (p:=⟨w.heap.size,0,none⟩) aL _).setCell (p:=⟨w.heap.size,1,none⟩) aL _⟩
