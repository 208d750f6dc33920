/- Contracts: the greatest common divisor and of how many of both it is made: the program's. -/
import Derived.Test.YtbcapmnklgdeoaaFpolyG
import Derived.Test.YtbcapmnklgdeoaaPolyB
namespace Go.Proofs.Ytbcapmnklgdeoaa
open Go.RowKit Cl
attribute [local go_sem ↓] Go.wp_at_zero Go.wp_at_succ

section
variable {q : Prm}
/-- Three polynomials beside an error's number. -/
def GivesP3E (w : World) (a b c : Poly (Zp q)) (err : Int) (e : Ending) (w' : World) : Prop :=
  ∃ A k B l C m, e = .returned (.tuple #[.slice A a.len k, .slice B b.len l, .slice C c.len m, .int .i64 err]) ∧ Ints w' A a.len (fromP a) ∧ Ints w' B b.len (fromP b) ∧ Ints w' C c.len (fromP c) ∧ Below w.heap.size w w'
def rowOf (X : Nat → Poly (Zp q)) : Poly.Row3 (Zp q) := ⟨X 0, X 1, X 2⟩
def fnOf (a b c : Poly (Zp q)) (i : Nat) : Poly (Zp q) := if i = 0 then a else if i = 1 then b else c
theorem next_row (X Y : Nat → Poly (Zp q)) : rowOf (nextZ X Y) = Poly.Row3.next (rowOf X) (rowOf Y) := rfl
end
theorem ints_one {p : Int} (hp : Pr p) {w : World} {g : Nat} (h : Row w g 3 [1]) : Ints w (some ⟨g, 0, none⟩) (1 : Poly (Zp ⟨p, hp⟩)).len (fromP (1 : Poly (Zp ⟨p, hp⟩))) := by
  rw [fromP_one hp, Poly.len_one]
  exact h.ints (fun i => by
    match i with
    | 0 => exact I64.small (by decide) (by decide)
    | i + 1 => rw [nth_ge (by simp)]; exact I64.zero)
theorem ints_nil {q : Prm} (w : World) : Ints w none (0 : Poly (Zp q)).len (fromP (0 : Poly (Zp q))) := by
  rw [fromP_zero, Poly.len_zero]
  exact ⟨rfl, fun h => absurd h (by omega), fun i => by rw [nth_ge (by simp)]; exact I64.zero⟩

theorem Tri.set3 {w : World} {g : Nat} {A : Nat → Option Addr} {N C : Nat → Nat} (h : Tri w g A N C) (A' : Nat → Option Addr) (N' C' : Nat → Nat) :
    Tri (((w.setCell ⟨g, 0, none⟩ (.slice (A' 0) (N' 0) (C' 0))).setCell ⟨g, 1, none⟩ (.slice (A' 1) (N' 1) (C' 1))).setCell ⟨g, 2, none⟩ (.slice (A' 2) (N' 2) (C' 2))) g A' N' C' :=
  (((h.set 0 (A' 0) (N' 0) (C' 0)).set 1 (A' 1) (N' 1) (C' 1)).set 2 (A' 2) (N' 2) (C' 2)).congr fun i hi => by
    match i, hi with
    | 0, _ => exact ⟨rfl, rfl, rfl⟩
    | 1, _ => exact ⟨rfl, rfl, rfl⟩
    | 2, _ => exact ⟨rfl, rfl, rfl⟩
theorem Tri.far3 {w : World} {g g' : Nat} {A : Nat → Option Addr} {N C : Nat → Nat} (h : Tri w g A N C) (hne : g ≠ g') (A' : Nat → Option Addr) (N' C' : Nat → Nat) :
    Tri (((w.setCell ⟨g', 0, none⟩ (.slice (A' 0) (N' 0) (C' 0))).setCell ⟨g', 1, none⟩ (.slice (A' 1) (N' 1) (C' 1))).setCell ⟨g', 2, none⟩ (.slice (A' 2) (N' 2) (C' 2))) g A N C :=
  ((h.far (p := ⟨g', 0, none⟩) hne _).far (p := ⟨g', 1, none⟩) hne _).far (p := ⟨g', 2, none⟩) hne _
theorem Tri.ints3 {w : World} {g : Nat} {A : Nat → Option Addr} {N C : Nat → Nat} (h : Tri w g A N C) (A' : Nat → Option Addr) (N' C' : Nat → Nat) {B : Option Addr} {n : Nat} {xs : List Int} (hi : Ints w B n xs) :
    Ints (((w.setCell ⟨g, 0, none⟩ (.slice (A' 0) (N' 0) (C' 0))).setCell ⟨g, 1, none⟩ (.slice (A' 1) (N' 1) (C' 1))).setCell ⟨g, 2, none⟩ (.slice (A' 2) (N' 2) (C' 2))) B n xs :=
  ((hi.far (h.cell (i := 0) (by omega)) (fun _ _ => by simp)).far ((h.set 0 (A' 0) (N' 0) (C' 0)).cell (i := 1) (by omega)) (fun _ _ => by simp)).far (((h.set 0 (A' 0) (N' 0) (C' 0)).set 1 (A' 1) (N' 1) (C' 1)).cell (i := 2) (by omega)) (fun _ _ => by simp)
theorem below_set3 {w0 w : World} {B g : Nat} (h : Below B w0 w) (hg : B ≤ g) (u v x : Value) : Below B w0 (((w.setCell ⟨g, 0, none⟩ u).setCell ⟨g, 1, none⟩ v).setCell ⟨g, 2, none⟩ x) :=
  ((h.setCell (p := ⟨g, 0, none⟩) hg u).setCell (p := ⟨g, 1, none⟩) hg v).setCell (p := ⟨g, 2, none⟩) hg x

theorem results_tmp4 {fn : Func} {t u v x : Tmp} (h : fn.results = #[.tmp t, .tmp u, .tmp v, .tmp x]) (tmps : Array Value) (P : Program) (w : World) :
    (results fn tmps).run P w = .ok (.tuple #[tmps.getD t undef, tmps.getD u undef, tmps.getD v undef, tmps.getD x undef]) w := by
  simp [results, h]
section
variable {q : Prm}
/-- The row by a residue, the first k of it done. -/
noncomputable def monZ (X : Nat → Poly (Zp q)) (k i : Nat) : Poly (Zp q) := if i < k then Poly.C (CField.inv (X 0).lc) * X i else X i
theorem monZ_at (X : Nat → Poly (Zp q)) (k : Nat) : monZ X k k = X k := if_neg (by omega)
theorem monZ_lt (X : Nat → Poly (Zp q)) {k i : Nat} (h : i < k) : monZ X k i = Poly.C (CField.inv (X 0).lc) * X i := if_pos h
end

set_option maxRecDepth 100000 in
set_option maxHeartbeats 8000000 in
theorem pbezout_yes (A B : Option Addr) (n c m d : Nat) (xs ys : List Int) (p : Int) (w : World) (hp : Pr p) (hx : Ints w A n xs) (hy : Ints w B m ys) (hn : n ≤ 900000000) (hm : m ≤ 900000000) :
    Calls Try.prog 35 #[.slice A n c, .slice B m d, .int .i64 p] w (GivesP3E w (Poly.bezR (toP ⟨p, hp⟩ xs) (toP ⟨p, hp⟩ ys)).g (Poly.bezR (toP ⟨p, hp⟩ xs) (toP ⟨p, hp⟩ ys)).s (Poly.bezR (toP ⟨p, hp⟩ xs) (toP ⟨p, hp⟩ ys)).t 0) := by
  have hp1 := hp.two
  have hp2 := hp.max
  have Ca := Lib.hid (pplain_any A n c xs p w hp hx (by omega))
  have Cb := Lib.hid (fun W (h : Below w.heap.size w W) => pplain_any B m d ys p W hp (hy.bel h) (by omega))
  have hla : (toP ⟨p, hp⟩ xs).len ≤ n := len_le_toP hx.len
  have hlb : (toP ⟨p, hp⟩ ys).len ≤ m := len_le_toP hy.len
  generalize toP ⟨p, hp⟩ xs = a at *
  generalize toP ⟨p, hp⟩ ys = b at *
  go_enter Try.func35, Try.ntmps35
  go_wp2_with fail
  refine (chk_yes _ _ (by omega) (by omega) ((isPrime_iff p).2 hp)).mono ?_
  rintro e w' ⟨rfl, rfl⟩
  go_wp2_with fail
  refine Ca.out.mono ?_
  rintro e w1 ⟨A1, c1, rfl, hn1⟩
  have hb1 := hn1.bel
  have hr1 := hn1.rd
  clear hn1
  go_wp2_with fail
  refine (Cb.out _ (by exact hb1.alloc hb1.size _)).mono ?_
  rintro e w2 ⟨A2, c2, rfl, hn2⟩
  go_wp2_with fail
  have hb2 : Below w.heap.size w w2 := (hb1.alloc hb1.size _).trans (hn2.bel.mono (by have := hb1.size; simp; omega))
  have hone1 : Row w2 w1.heap.size 3 [1] := (Row.new w1 3 [1]).bel hn2.bel
  have ha2 : Ints w2 A1 a.len (fromP a) := (hr1.alloc _).bel hn2.bel
  have hbr2 := hn2.rd
  have hs2 := hb2.size
  clear hn2 hr1
  have htx0 : Hid (Tri (((w2.alloc (.cells #[.int .i64 1] 3)).alloc (.cells #[.slice A1 a.len c1, .slice (some ⟨w1.heap.size, 0, none⟩) 1 1, .slice none 0 0] 64)).alloc (.cells #[.slice A2 b.len c2, .slice none 0 0, .slice (some ⟨w2.heap.size, 0, none⟩) 1 1] 64)) (w2.heap.size + 1)
      (fun i => if i = 0 then A1 else if i = 1 then some ⟨w1.heap.size, 0, none⟩ else none) (fun i => (fnOf a 1 0 i).len) (fun i => if i = 0 then c1 else if i = 1 then 1 else 0)) := by
    have h := (Tri.new (w2.alloc (.cells #[.int .i64 1] 3)) (fun i => if i = 0 then A1 else if i = 1 then some ⟨w1.heap.size, 0, none⟩ else none) (fun i => if i = 0 then a.len else if i = 1 then 1 else 0) (fun i => if i = 0 then c1 else if i = 1 then 1 else 0)).bel ((Below.refl _ _).alloc (Nat.le_refl _) (.cells #[.slice A2 b.len c2, .slice none 0 0, .slice (some ⟨w2.heap.size, 0, none⟩) 1 1] 64))
    rw [World.size_alloc] at h
    exact h.congr fun i hi => by
      match i, hi with
      | 0, _ => exact ⟨rfl, rfl, rfl⟩
      | 1, _ => exact ⟨rfl, (Poly.len_one).symm, rfl⟩
      | 2, _ => exact ⟨rfl, (Poly.len_zero).symm, rfl⟩
  have hty0 : Hid (Tri (((w2.alloc (.cells #[.int .i64 1] 3)).alloc (.cells #[.slice A1 a.len c1, .slice (some ⟨w1.heap.size, 0, none⟩) 1 1, .slice none 0 0] 64)).alloc (.cells #[.slice A2 b.len c2, .slice none 0 0, .slice (some ⟨w2.heap.size, 0, none⟩) 1 1] 64)) (w2.heap.size + 1 + 1)
      (fun i => if i = 0 then A2 else if i = 1 then none else some ⟨w2.heap.size, 0, none⟩) (fun i => (fnOf b 0 1 i).len) (fun i => if i = 0 then c2 else if i = 1 then 0 else 1)) := by
    have h := Tri.new ((w2.alloc (.cells #[.int .i64 1] 3)).alloc (.cells #[.slice A1 a.len c1, .slice (some ⟨w1.heap.size, 0, none⟩) 1 1, .slice none 0 0] 64)) (fun i => if i = 0 then A2 else if i = 1 then none else some ⟨w2.heap.size, 0, none⟩) (fun i => if i = 0 then b.len else if i = 1 then 0 else 1) (fun i => if i = 0 then c2 else if i = 1 then 0 else 1)
    rw [World.size_alloc, World.size_alloc] at h
    exact h.congr fun i hi => by
      match i, hi with
      | 0, _ => exact ⟨rfl, rfl, rfl⟩
      | 1, _ => exact ⟨rfl, (Poly.len_zero).symm, rfl⟩
      | 2, _ => exact ⟨rfl, (Poly.len_one).symm, rfl⟩
  have hbW : Hid (Below w2.heap.size w2 (((w2.alloc (.cells #[.int .i64 1] 3)).alloc (.cells #[.slice A1 a.len c1, .slice (some ⟨w1.heap.size, 0, none⟩) 1 1, .slice none 0 0] 64)).alloc (.cells #[.slice A2 b.len c2, .slice none 0 0, .slice (some ⟨w2.heap.size, 0, none⟩) 1 1] 64))) :=
    (((Below.refl _ _).alloc (Nat.le_refl _) _).alloc (by simp) _).alloc (by simp; omega) _
  have hix0 : Hid (Ints3 (((w2.alloc (.cells #[.int .i64 1] 3)).alloc (.cells #[.slice A1 a.len c1, .slice (some ⟨w1.heap.size, 0, none⟩) 1 1, .slice none 0 0] 64)).alloc (.cells #[.slice A2 b.len c2, .slice none 0 0, .slice (some ⟨w2.heap.size, 0, none⟩) 1 1] 64)) (fun i => if i = 0 then A1 else if i = 1 then some ⟨w1.heap.size, 0, none⟩ else none) (fnOf a 1 0)) := fun i hi => by
    match i, hi with
    | 0, _ => exact ha2.bel hbW.out
    | 1, _ => exact ints_one hp (hone1.bel hbW.out)
    | 2, _ => exact ints_nil _
  have hiy0 : Hid (Ints3 (((w2.alloc (.cells #[.int .i64 1] 3)).alloc (.cells #[.slice A1 a.len c1, .slice (some ⟨w1.heap.size, 0, none⟩) 1 1, .slice none 0 0] 64)).alloc (.cells #[.slice A2 b.len c2, .slice none 0 0, .slice (some ⟨w2.heap.size, 0, none⟩) 1 1] 64)) (fun i => if i = 0 then A2 else if i = 1 then none else some ⟨w2.heap.size, 0, none⟩) (fnOf b 0 1)) := fun i hi => by
    match i, hi with
    | 0, _ => exact hbr2.bel hbW.out
    | 1, _ => exact ints_nil _
    | 2, _ =>
      have h1 := ((Row.new w2 3 [1]).alloc (.cells #[.slice A1 a.len c1, .slice (some ⟨w1.heap.size, 0, none⟩) 1 1, .slice none 0 0] 64)).alloc (.cells #[.slice A2 b.len c2, .slice none 0 0, .slice (some ⟨w2.heap.size, 0, none⟩) 1 1] 64)
      exact ints_one hp h1
  have heb0 : Hid (Poly.EB 900000000 (fnOf a 1 0) (fnOf b 0 1)) := by
    refine ⟨by show a.len ≤ _; omega, by show b.len ≤ _; omega, fun i hi => ?_, fun i hi => ?_⟩
    · match i, hi with
      | 1, _ => show (1 : Poly (Zp ⟨p, hp⟩)).len + b.len ≤ _; rw [Poly.len_one]; omega
      | i + 2, _ => show (0 : Poly (Zp ⟨p, hp⟩)).len + b.len ≤ _; rw [Poly.len_zero]; omega
    · match i, hi with
      | 1, _ => show (0 : Poly (Zp ⟨p, hp⟩)).len + a.len ≤ _; rw [Poly.len_zero]; omega
      | i + 2, _ => show (1 : Poly (Zp ⟨p, hp⟩)).len + a.len ≤ _; rw [Poly.len_one]; omega
  have hb3 := Lib.hid (hb2.trans (hbW.out.mono hs2))
  clear hone1 ha2 hbr2 hbW hb2 hb1
  have hgx : w.heap.size ≤ w2.heap.size + 1 := by omega
  have hgy : w.heap.size ≤ w2.heap.size + 1 + 1 := by omega
  generalize hGX : w2.heap.size + 1 = gx at *
  generalize hGY : gx + 1 = gy at *
  have hne : gx ≠ gy := by omega
  have Hne := Lib.hid hne
  clear hGX hGY hs2 hne
  go_loopg [31] (b.len + 1) (fun gk _ wr => ∃ (X Y : Nat → Poly (Zp ⟨p, hp⟩)) (A' B' : Nat → Option Addr) (C' D' : Nat → Nat), (Y 0).len < gk ∧ Tri wr gx A' (fun i => (X i).len) C' ∧ Tri wr gy B' (fun i => (Y i).len) D' ∧ Hid (Ints3 wr A' X) ∧ Hid (Ints3 wr B' Y) ∧ Hid (Poly.EB 900000000 X Y) ∧ Hid (Poly.eucl (rowOf X) (rowOf Y) = Poly.eucR a b) ∧ Hid (Below w.heap.size w wr))
  case atStart => exact ⟨_, _, _, _, _, _, Nat.lt_succ_self _, htx0.out, hty0.out, hix0, hiy0, heb0, rfl, hb3⟩
  case round =>
    obtain ⟨X, Y, A', B', C', D', hgk, hx, hy, hX, hY, heb, heu, hbel⟩ := hrel
    clear htx0 hty0 hix0 hiy0 heb0 hb3
    have hcy0 := hy.cell (i := 0) (by omega)
    have hcx0 := hx.cell (i := 0) (by omega)
    by_cases h0 : Y 0 = 0
    · have hyz : (Y 0).len = 0 := by rw [h0]; exact Poly.len_zero
      have Heu : Hid (Poly.eucR a b = rowOf X) := heu.out.symm.trans (Poly.eucl_zero (x := rowOf X) (y := rowOf Y) h0)
      rw [hyz] at hcy0
      have hcx1 := hx.cell (i := 1) (by omega)
      have hcx2 := hx.cell (i := 2) (by omega)
      have hxl := (heb.out.le 0).1
      have hxl1 := (heb.out.le 1).1
      have hxl2 := (heb.out.le 2).1
      by_cases hx0 : X 0 = 0
      · have hxz : (X 0).len = 0 := by rw [hx0]; exact Poly.len_zero
        have Hb : Hid (Poly.bezR a b = rowOf X) := (Poly.bezR_zero (by rw [Heu.out]; exact hx0)).trans Heu.out
        have Hfin : Hid (∀ n, GivesP3E w (Poly.bezR a b).g (Poly.bezR a b).s (Poly.bezR a b).t 0 (.returned (.tuple #[.slice (A' 0) 0 (C' 0), .slice (A' 1) (X 1).len (C' 1), .slice (A' 2) (X 2).len (C' 2), .int .i64 0])) (wr.drewN n)) := by
          intro n
          rw [Hb.out]
          refine ⟨A' 0, C' 0, A' 1, C' 1, A' 2, C' 2, ?_, (hX.out 0 (by omega)).drewN n, (hX.out 1 (by omega)).drewN n, (hX.out 2 (by omega)).drewN n, below_drewN hbel.out n⟩
          show _ = Ending.returned (.tuple #[.slice (A' 0) (X 0).len (C' 0), .slice (A' 1) (X 1).len (C' 1), .slice (A' 2) (X 2).len (C' 2), .int .i64 0])
          rw [hxz]
        rw [hxz] at hcx0
        clear h0 hx0 hyz hxz hxl
        go_wp2
        go_quiet (fail)
        go_wp2
        (try simp only [Exit.inBlock, Exit.then]); refine bodyPost_ret (results_tmp4 rfl _ _ _) rfl ?_
        exact Hfin.out _
      · have hlp := Poly.len_pos hx0
        have Hlc : Hid (Zp.of ⟨p, hp⟩ (nth (fromP (X 0)) ((X 0).len - 1)) = (X 0).lc) := fromP_top hx0
        have hbd := fromP_lt (X 0) ((X 0).len - 1)
        have htop := (fromP_pl (X 0)).top (by rw [fromP_length]; exact hlp)
        rw [fromP_length] at htop
        have Hbd : Hid (0 < nth (fromP (X 0)) ((X 0).len - 1) ∧ nth (fromP (X 0)) ((X 0).len - 1) < p) := ⟨by have := hbd.1; omega, hbd.2⟩
        have Hb : Hid (Poly.bezR a b = ⟨(X 0).monic, Poly.C (CField.inv (X 0).lc) * X 1, Poly.C (CField.inv (X 0).lc) * X 2⟩) := by
          show _ = _
          rw [Poly.bezR_ne (by rw [Heu.out]; exact hx0), Heu.out]; rfl
        obtain ⟨b0, o0, hA0, hb0, hc0⟩ := (hX.out 0 (by omega)).at_ hlp
        obtain ⟨L, hL⟩ : ∃ L, (X 0).len = L + 1 := ⟨(X 0).len - 1, by omega⟩
        have HL := Lib.hid hL
        have HA0 := Lib.hid hA0
        have hcl := hc0 L (by omega)
        rw [hL] at hxl Hlc Hbd
        simp only [Nat.add_sub_cancel] at Hlc Hbd
        have hcx0' := hcx0
        rw [hL, hA0] at hcx0
        clear h0 hx0 hyz hL hA0 hlp hbd htop hc0
        have Hsc := Lib.hid (fun (k : Nat) (W : World) (Ak : Option Addr) (ck : Nat) (h : Ints W Ak (X k).len (fromP (X k))) (hl : (X k).len ≤ 900000001) => pscaled_any (hp := hp) Ak _ ck (X k) (nth (fromP (X 0)) L) W h (by omega) Hbd.out)
        generalize hcc : nth (fromP (X 0)) L = cc at *
        have hc1 : Hid (0 < cc ∧ cc < p) := Hbd.out
        clear hcc Hbd
        obtain ⟨wo, rfl⟩ : ∃ wo : World, wo = wr := ⟨_, rfl⟩
        have hmz : Hid (∀ i, monZ X 0 i = X i) := fun i => if_neg (by omega)
        have hx0 : Tri wo gx A' (fun i => (monZ X 0 i).len) C' := by
          refine hx.congr fun i _ => ⟨rfl, ?_, rfl⟩
          show (X i).len = _
          rw [hmz.out]
        have hI0 : Hid (Ints3 wo A' (monZ X 0)) := fun i hi => by rw [hmz.out]; exact hX.out i hi
        have hle : Hid (∀ k, k < 3 → (X k).len ≤ 900000001) := fun k _ => (heb.out.le k).1
        have hLp : (0 : Int) < (L : Int) + 1 := by omega
        clear hmz hx hcx0' hcx1 hcx2 hxl1 hxl2 hX hY heb heu hy
        go_wp2
        go_loopw [51] (fun i wr => ∃ (k : Nat) (A2 : Nat → Option Addr) (C2 : Nat → Nat), k ≤ 3 ∧ i = .int .i64 k ∧ Tri wr gx A2 (fun i => (monZ X k i).len) C2 ∧ Hid (Ints3 wr A2 (monZ X k)) ∧ Hid (Below w.heap.size w wr)) (fun i _ => 3 - (intOf i).toNat)
        case atStart => exact ⟨0, A', C', by omega, rfl, hx0, hI0, hbel⟩
        case round =>
          obtain ⟨k, A2, C2, hk, rfl, hx2, hI2, hbel2⟩ := hrel
          clear hx0 hI0 hcx0 hcl hcy0
          by_cases hlt : k < 3
          · have hcx := hx2.cell (i := k) hlt
            have hfx := hx2.frozen k
            have hix := hI2.out k hlt
            rw [monZ_at] at hix hcx
            have cs := Hsc.out k wr (A2 k) (C2 k) hix (hle.out k hlt)
            rw [Hlc.out] at cs
            have Cs := Lib.hid cs
            have hlt3 : (k : Int) < 3 := by omega
            have hk0 : (0 : Int) ≤ (k : Int) := by omega
            have hxlt := hx2.lt
            clear cs hix
            go_wp2_with (go_at_call 53; refine Cs.out.mono ?_; rintro e w4 ⟨A4, c4, rfl, hn4⟩; have hfx4 : w4.frozen? ⟨gx, k, none⟩ = false := (hn4.bel.frozen (p := ⟨gx, k, none⟩) hxlt).trans hfx; have hcx4 := (hn4.bel.cell (p := ⟨gx, k, none⟩) hxlt).trans hcx)
            have hx9 : Tri (w4.setCell ⟨gx, k, none⟩ (.slice A4 (Poly.C (CField.inv (X 0).lc) * X k).len c4)) gx (fun i => if i = k then A4 else A2 i) (fun i => (monZ X (k + 1) i).len) (fun i => if i = k then c4 else C2 i) :=
              ((hx2.bel hn4.bel).set k A4 _ c4).congr fun i hi => by
                refine ⟨rfl, ?_, rfl⟩
                show (if i = k then (Poly.C (CField.inv (X 0).lc) * X k).len else (monZ X k i).len) = (monZ X (k + 1) i).len
                unfold monZ
                by_cases e : i = k
                · subst e; rw [if_pos rfl, if_pos (by omega)]
                · rw [if_neg e]
                  by_cases e2 : i < k
                  · rw [if_pos e2, if_pos (by omega)]
                  · rw [if_neg e2, if_neg (by omega)]
            have hfar : ∀ {A : Option Addr} {n : Nat} {xs : List Int}, Ints w4 A n xs → Ints (w4.setCell ⟨gx, k, none⟩ (.slice A4 (Poly.C (CField.inv (X 0).lc) * X k).len c4)) A n xs := fun h => h.far hcx4 (fun _ _ => by simp)
            have hI9 : Hid (Ints3 (w4.setCell ⟨gx, k, none⟩ (.slice A4 (Poly.C (CField.inv (X 0).lc) * X k).len c4)) (fun i => if i = k then A4 else A2 i) (monZ X (k + 1))) := by
              intro i hi
              by_cases e : i = k
              · subst e
                simp only [if_true]
                rw [monZ_lt X (by omega)]
                exact hfar hn4.rd
              · simp only [if_neg e]
                have em : monZ X (k + 1) i = monZ X k i := by
                  unfold monZ
                  by_cases e2 : i < k
                  · rw [if_pos e2, if_pos (by omega)]
                  · rw [if_neg e2, if_neg (by omega)]
                rw [em]
                exact hfar ((hI2.out i hi).bel hn4.bel)
            have hb9 : Hid (Below w.heap.size w (w4.setCell ⟨gx, k, none⟩ (.slice A4 (Poly.C (CField.inv (X 0).lc) * X k).len c4))) := (below_tr hbel2.out hn4.bel).setCell (p := ⟨gx, k, none⟩) hgx _
            clear hfx4 hcx4 hfx hcx hfar hx2 hn4
            go_roundw
            case rel => exact ⟨k + 1, _, _, by omega, by go_num, hx9, hI9, hb9⟩
            case measure => simp [intOf]; omega
          · obtain rfl : k = 3 := by omega
            have hc0 := hx2.cell (i := 0) (by omega)
            have hc1 := hx2.cell (i := 1) (by omega)
            have hc2 := hx2.cell (i := 2) (by omega)
            rw [monZ_lt X (by omega)] at hc0 hc1 hc2
            have Hfin : Hid (∀ n, GivesP3E w (Poly.bezR a b).g (Poly.bezR a b).s (Poly.bezR a b).t 0 (.returned (.tuple #[.slice (A2 0) (Poly.C (CField.inv (X 0).lc) * X 0).len (C2 0), .slice (A2 1) (Poly.C (CField.inv (X 0).lc) * X 1).len (C2 1), .slice (A2 2) (Poly.C (CField.inv (X 0).lc) * X 2).len (C2 2), .int .i64 0])) (wr.drewN n)) := by
              intro n
              rw [Hb.out]
              have g0 := hI2.out 0 (by omega)
              have g1 := hI2.out 1 (by omega)
              have g2 := hI2.out 2 (by omega)
              rw [monZ_lt X (by omega)] at g0 g1 g2
              exact ⟨A2 0, C2 0, A2 1, C2 1, A2 2, C2 2, rfl, g0.drewN n, g1.drewN n, g2.drewN n, below_drewN hbel2.out n⟩
            clear hx2 hI2
            go_wp2
            go_quiet (fail)
            go_wp2
            (try simp only [Exit.inBlock, Exit.then]); refine bodyPost_ret (results_tmp4 rfl _ _ _) rfl ?_
            exact Hfin.out _
    · have hlp := Poly.len_pos h0
      have hcy1 := hy.cell (i := 1) (by omega)
      have hcx1 := hx.cell (i := 1) (by omega)
      have hcy2 := hy.cell (i := 2) (by omega)
      have hcx2 := hx.cell (i := 2) (by omega)
      have hxlt := hx.lt
      have hylt := hy.lt
      have hf := fun i => hx.frozen i
      have hg := fun i => hy.frozen i
      have Hf := Lib.hid hf
      have Hg := Lib.hid hg
      have hpos : (0 : Int) < ((Y 0).len : Int) := by omega
      clear hf hg
      have hne1 : ¬ gx = gy := Hne.out
      have hne2 : ¬ gy = gx := fun h => Hne.out h.symm
      go_wp2
      go_region_with (first
        | (go_at_call 52; refine (pnext_any A' B' C' D' X Y _ hX.out.drew hY.out.drew (fun i _ => by have := (heb.out.le i).1; omega) (fun i _ => by have := (heb.out.le i).2; omega) h0).mono ?_; rintro e w5 ⟨A5, C5, rfl, hI5, hb5⟩; have k0 := (hb5.cell (p := ⟨gx, 0, none⟩) hxlt).trans hcx0; have k1 := (hb5.cell (p := ⟨gx, 1, none⟩) hxlt).trans hcx1; have k2 := (hb5.cell (p := ⟨gx, 2, none⟩) hxlt).trans hcx2; have k3 := (hb5.cell (p := ⟨gy, 0, none⟩) hylt).trans hcy0; have k4 := (hb5.cell (p := ⟨gy, 1, none⟩) hylt).trans hcy1; have k5 := (hb5.cell (p := ⟨gy, 2, none⟩) hylt).trans hcy2; have f0 := (hb5.frozen (p := ⟨gx, 0, none⟩) hxlt).trans (Hf.out 0); have f1 := (hb5.frozen (p := ⟨gx, 1, none⟩) hxlt).trans (Hf.out 1); have f2 := (hb5.frozen (p := ⟨gx, 2, none⟩) hxlt).trans (Hf.out 2); have f3 := (hb5.frozen (p := ⟨gy, 0, none⟩) hylt).trans (Hg.out 0); have f4 := (hb5.frozen (p := ⟨gy, 1, none⟩) hylt).trans (Hg.out 1); have f5 := (hb5.frozen (p := ⟨gy, 2, none⟩) hylt).trans (Hg.out 2)))
      all_goals
        have hbw := (Below.refl wr.heap.size wr).drew
        have hx5 := (hx.bel hbw).bel hb5
        have hy5 := (hy.bel hbw).bel hb5
        have hx6 := hx5.set3 B' (fun i => (Y i).len) D'
        have hy6 := hy5.far3 (g' := gx) (fun h => Hne.out h.symm) B' (fun i => (Y i).len) D'
        have hx7 := hx6.far3 (g' := gy) Hne.out A5 (fun i => (nextZ X Y i).len) C5
        have hy7 := hy6.set3 A5 (fun i => (nextZ X Y i).len) C5
        have hY7 : Hid (Ints3 _ B' Y) := fun i hi => hy6.ints3 A5 (fun i => (nextZ X Y i).len) C5 (hx5.ints3 B' (fun i => (Y i).len) D' ((hY.out i hi).drew.bel hb5))
        have hZ7 : Hid (Ints3 _ A5 (nextZ X Y)) := fun i hi => hy6.ints3 A5 (fun i => (nextZ X Y i).len) C5 (hx5.ints3 B' (fun i => (Y i).len) D' (hI5 i hi))
        have hb7 : Hid (Below w.heap.size w _) := below_set3 (below_set3 (below_tr hbel.out.drew hb5) hgx (.slice (B' 0) (Y 0).len (D' 0)) (.slice (B' 1) (Y 1).len (D' 1)) (.slice (B' 2) (Y 2).len (D' 2))) hgy (.slice (A5 0) (nextZ X Y 0).len (C5 0)) (.slice (A5 1) (nextZ X Y 1).len (C5 1)) (.slice (A5 2) (nextZ X Y 2).len (C5 2))
        have heb7 : Hid (Poly.EB 900000000 Y (nextZ X Y)) := heb.out.next h0 (fun _ => rfl)
        have heu7 : Hid (Poly.eucl (rowOf Y) (rowOf (nextZ X Y)) = Poly.eucR a b) := (Poly.eucl_step (x := rowOf X) (y := rowOf Y) h0).symm.trans heu.out
        have hlt7 : (nextZ X Y 0).len < (Y 0).len := by
          have e : nextZ X Y 0 = Poly.rem (X 0) (Y 0) := Poly.Row3.next_g (x := rowOf X) (y := rowOf Y) h0
          rw [e]; exact Cl.rem_len' _ h0
        go_wp2
        go_roundg (Y 0).len
        case measure => omega
        case rel => exact ⟨Y, nextZ X Y, B', A5, D', C5, hlt7, hx7, hy7, hY7, hZ7, heb7, heu7, hb7⟩
end Go.Proofs.Ytbcapmnklgdeoaa
