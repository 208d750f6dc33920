/- Contracts: the greatest common divisor and of how many of both it is made: the document's.
   Contracts by polynomials: the greatest common divisor: the document's.
   Contracts by polynomials: the document's derivatives and values. -/
import Derived.Test.YtpikakapflebkaaGreatRefBase
import Derived.Test.YtpikakapflebkaaGreatFpolyTop
namespace Go.Proofs.YtpikakapflebkaaGreat
open Go.RowKit Cl
attribute [local go_sem ↓] Go.wp_at_zero Go.wp_at_succ

theorem slices_info : (Tryz.prog.info? 22).map (fun i => (i.zero, i.size, i.bytes)) = some (some (.slice none 0 0), 1, 24) := by kernel_rfl
/-- So many slices, one behind the other. -/
def sls (A : Nat → Option Addr) (N C : Nat → Nat) (k : Nat) : List Value := (List.range k).map fun i => .slice (A i) (N i) (C i)
theorem sls_length (A : Nat → Option Addr) (N C : Nat → Nat) (k : Nat) : (sls A N C k).length = k := by simp [sls]
theorem sls_get {A : Nat → Option Addr} {N C : Nat → Nat} {k i : Nat} (h : i < k) : (sls A N C k)[i]? = some (.slice (A i) (N i) (C i)) := by simp [sls, h]
theorem sls_congr {A A' : Nat → Option Addr} {N N' C C' : Nat → Nat} {k : Nat} (h : ∀ i, i < k → A i = A' i ∧ N i = N' i ∧ C i = C' i) : sls A N C k = sls A' N' C' k := by
  unfold sls
  refine List.map_congr_left fun i hi => ?_
  obtain ⟨h1, h2, h3⟩ := h i (List.mem_range.1 hi)
  rw [h1, h2, h3]
theorem sls_oneCell (A : Nat → Option Addr) (N C : Nat → Nat) (k : Nat) : ∀ u ∈ sls A N C k, u.oneCell' = true := by
  intro u hu
  simp only [sls, List.mem_map] at hu
  obtain ⟨i, _, rfl⟩ := hu
  rfl
theorem sls_succ (A : Nat → Option Addr) (N C : Nat → Nat) (k : Nat) : sls A N C k ++ [.slice (A k) (N k) (C k)] = sls A N C (k + 1) := by simp [sls, List.range_succ]
/-- One entry is laid in. -/
def put1 {α : Type} (f : Nat → α) (k : Nat) (v : α) (i : Nat) : α := if i = k then v else f i
theorem put1_at {α : Type} (f : Nat → α) (k : Nat) (v : α) : put1 f k v k = v := if_pos rfl
theorem put1_ne {α : Type} (f : Nat → α) {k i : Nat} (v : α) (h : i ≠ k) : put1 f k v i = f i := if_neg h
theorem sls_put (A : Nat → Option Addr) (N C : Nat → Nat) (k : Nat) (a : Option Addr) (n c : Nat) (hN : N k = n) : sls A N C k ++ [.slice a n c] = sls (put1 A k a) N (put1 C k c) (k + 1) := by
  have h := sls_succ (put1 A k a) N (put1 C k c) k
  rw [put1_at, put1_at, hN] at h
  rw [← h]
  congr 1
  exact sls_congr fun i hi => ⟨(put1_ne _ _ (by omega)).symm, rfl, (put1_ne _ _ (by omega)).symm⟩

theorem _root_.Cl.Ints.grown {w w' : World} {A : Option Addr} {n : Nat} {xs : List Int} {row : Option Nat} (h : Ints w A n xs) (hg : w.grownBy w' row) (hr : 0 < n → ∀ x, A = some x → row ≠ some x.block) : Ints w' A n xs :=
  ⟨h.len, fun hn => by
    obtain ⟨b, o, e, hb, hc⟩ := h.at_ hn
    have hne : some b ≠ row := fun e2 => hr hn _ e e2.symm
    exact ⟨b, o, e, Nat.lt_of_lt_of_le hb hg.size, fun i hi => (World.cell?_of_block (hg.block b hb hne)).trans (hc i hi)⟩, h.ok⟩
theorem _root_.Cl.Ints.blk_lt {w : World} {A : Option Addr} {n : Nat} {xs : List Int} (h : Ints w A n xs) (hn : 0 < n) (x : Addr) (hx : A = some x) : x.block < w.heap.size := by
  obtain ⟨b, o, e, hb, _⟩ := h.at_ hn
  rw [e] at hx; cases hx; exact hb
section
variable {q : Prm}
/-- Three slices lie in block g, and tell three polynomials. -/
structure Sl3 (w : World) (g : Nat) (A : Nat → Option Addr) (C : Nat → Nat) (X : Nat → Poly (Zp q)) : Prop where
  lt : g < w.heap.size
  cell : ∀ i, i < 3 → w.cell? ⟨g, i, none⟩ = some (.slice (A i) (X i).len (C i))
  ints : ∀ i, i < 3 → Ints w (A i) (X i).len (fromP (X i))
theorem Sl3.bel {w w' : World} {g : Nat} {A : Nat → Option Addr} {C : Nat → Nat} {X : Nat → Poly (Zp q)} (h : Sl3 w g A C X) (hb : Below w.heap.size w w') : Sl3 w' g A C X :=
  ⟨Nat.lt_of_lt_of_le h.lt hb.size, fun i hi => (hb.cell (p := ⟨g, i, none⟩) h.lt).trans (h.cell i hi), fun i hi => (h.ints i hi).bel hb⟩
theorem Sl3.lit {w : World} {g : Nat} {A : Nat → Option Addr} {C : Nat → Nat} {X : Nat → Poly (Zp q)} {v0 v1 v2 : Value} (h : ∀ i, i < 3 → Ints w (A i) (X i).len (fromP (X i))) (hg : g = w.heap.size)
    (h0 : v0 = .slice (A 0) (X 0).len (C 0)) (h1 : v1 = .slice (A 1) (X 1).len (C 1)) (h2 : v2 = .slice (A 2) (X 2).len (C 2)) : Sl3 (w.alloc (.cells #[v0, v1, v2] 22)) g A C X := by
  subst hg h0 h1 h2
  exact ⟨by simp, fun i hi => by
    rw [cell_of_row _ _ i _ _ (0, 0) (heap_alloc_new w _)]
    match i, hi with
    | 0, _ => rfl
    | 1, _ => rfl
    | 2, _ => rfl, fun i hi => (h i hi).alloc _⟩
theorem Sl3.of_own {w : World} {base g cap : Nat} {A : Nat → Option Addr} {C : Nat → Nat} {X : Nat → Poly (Zp q)} (h : w.ownsRow base 22 1 (.slice (some ⟨g, 0, none⟩) 3 cap) 3 (sls A (fun i => (X i).len) C 3)) (hg : g < w.heap.size) (hi : ∀ i, i < 3 → Ints w (A i) (X i).len (fromP (X i))) : Sl3 w g A C X :=
  ⟨hg, fun i h3 => by
    have := h.cells (g := g) rfl i _ (sls_get h3)
    rwa [Go.WideShapes.add_plain, Nat.zero_add] at this, hi⟩
end
theorem eucR_zero_case {q : Prm} {a b : Poly (Zp q)} (h : (Poly.eucR a b).g = 0) : Poly.bezR a b = ⟨0, 1, 0⟩ := by
  rw [Poly.bezR_zero h]; exact (Poly.eucR_nought h).2.2

set_option maxRecDepth 100000 in
set_option maxHeartbeats 8000000 in
theorem qbezout_yes (A B : Option Addr) (n c m d : Nat) (xs ys : List Int) (p : Int) (w : World) (hp : Pr p) (hx : Ints w A n xs) (hy : Ints w B m ys) (hn : n ≤ 90000000) (hm : m ≤ 90000000) :
    Calls Tryz.prog 141 #[.slice A n c, .slice B m d, .int .i64 p] w (GivesP3E w (Poly.bezR (toP ⟨p, hp⟩ xs) (toP ⟨p, hp⟩ ys)).g (Poly.bezR (toP ⟨p, hp⟩ xs) (toP ⟨p, hp⟩ ys)).s (Poly.bezR (toP ⟨p, hp⟩ xs) (toP ⟨p, hp⟩ ys)).t 0) := by
  obtain ⟨j0, hj0, hy0, hy1, hy2⟩ := info_parts slices_info
  have hp1 := hp.two
  have hp2 := hp.max
  have Ca := Lib.hid (qplain_any A n c xs p w hp hx (by omega))
  have Cb := Lib.hid (fun W (h : Below w.heap.size w W) => qplain_any B m d ys p W hp (hy.bel h) (by omega))
  have hla : (toP ⟨p, hp⟩ xs).len ≤ n := len_le_toP hx.len
  have hlb : (toP ⟨p, hp⟩ ys).len ≤ m := len_le_toP hy.len
  generalize toP ⟨p, hp⟩ xs = a at *
  generalize toP ⟨p, hp⟩ ys = b at *
  go_enter Tryz.func141, Tryz.ntmps141
  go_wp2_with fail
  refine (rchk_yes _ _ (by omega) (by omega) ((isPrime_iff p).2 hp)).mono ?_
  rintro e w' ⟨rfl, rfl⟩
  go_wp2_with fail
  refine Ca.out.mono ?_
  rintro e w1 ⟨A1, c1, rfl, hn1⟩
  have hb1 := hn1.bel
  have hr1 := hn1.rd
  clear hn1
  have hone1 := Row.new w1 3 [1]
  go_wp2_with fail
  have hix : ∀ i, i < 3 → Ints (w1.alloc (.cells (ints [1]).toArray 3)) ((fun i => if i = 0 then A1 else if i = 1 then some ⟨w1.heap.size, 0, none⟩ else none) i) (fnOf a 1 0 i).len (fromP (fnOf a 1 0 i)) := fun i hi => by
    match i, hi with
    | 0, _ => exact hr1.alloc _
    | 1, _ => exact ints_one hp hone1
    | 2, _ => exact ints_nil _
  have hX0 : Hid (Sl3 ((w1.alloc (.cells #[.int .i64 1] 3)).alloc (.cells #[.slice A1 a.len c1, .slice (some ⟨w1.heap.size, 0, none⟩) 1 1, .slice none 0 0] 22)) (w1.heap.size + 1) (fun i => if i = 0 then A1 else if i = 1 then some ⟨w1.heap.size, 0, none⟩ else none) (fun i => if i = 0 then c1 else if i = 1 then 1 else 0) (fnOf a 1 0)) :=
    Sl3.lit hix (by simp) rfl (by show _ = Value.slice _ (1 : Poly (Zp ⟨p, hp⟩)).len 1; rw [Poly.len_one]; rfl) (by show _ = Value.slice _ (0 : Poly (Zp ⟨p, hp⟩)).len 0; rw [Poly.len_zero]; rfl)
  have hbw : Below w.heap.size w ((w1.alloc (.cells #[.int .i64 1] 3)).alloc (.cells #[.slice A1 a.len c1, .slice (some ⟨w1.heap.size, 0, none⟩) 1 1, .slice none 0 0] 22)) := (hb1.alloc hb1.size _).alloc (hb1.alloc hb1.size _).size _
  clear hix hone1 hr1 hb1
  generalize ((w1.alloc (.cells #[.int .i64 1] 3)).alloc (.cells #[.slice A1 a.len c1, .slice (some ⟨w1.heap.size, 0, none⟩) 1 1, .slice none 0 0] 22)) = w2 at *
  refine (Cb.out _ hbw).mono ?_
  rintro e w3 ⟨A2, c2, rfl, hn2⟩
  have hb3 := below_tr hbw hn2.bel
  have hX3 := Lib.hid (hX0.out.bel hn2.bel)
  have hr2 := hn2.rd
  clear hn2 hX0 hbw
  have hone2 := Row.new w3 3 [1]
  go_wp2_with fail
  have hiy : ∀ i, i < 3 → Ints (w3.alloc (.cells (ints [1]).toArray 3)) ((fun i => if i = 0 then A2 else if i = 1 then none else some ⟨w3.heap.size, 0, none⟩) i) (fnOf b 0 1 i).len (fromP (fnOf b 0 1 i)) := fun i hi => by
    match i, hi with
    | 0, _ => exact hr2.alloc _
    | 1, _ => exact ints_nil _
    | 2, _ => exact ints_one hp hone2
  have hY0 : Hid (Sl3 ((w3.alloc (.cells #[.int .i64 1] 3)).alloc (.cells #[.slice A2 b.len c2, .slice none 0 0, .slice (some ⟨w3.heap.size, 0, none⟩) 1 1] 22)) (w3.heap.size + 1) (fun i => if i = 0 then A2 else if i = 1 then none else some ⟨w3.heap.size, 0, none⟩) (fun i => if i = 0 then c2 else if i = 1 then 0 else 1) (fnOf b 0 1)) :=
    Sl3.lit hiy (by simp) rfl (by show _ = Value.slice _ (0 : Poly (Zp ⟨p, hp⟩)).len 0; rw [Poly.len_zero]; rfl) (by show _ = Value.slice _ (1 : Poly (Zp ⟨p, hp⟩)).len 1; rw [Poly.len_one]; rfl)
  have hbx : Below w3.heap.size w3 ((w3.alloc (.cells #[.int .i64 1] 3)).alloc (.cells #[.slice A2 b.len c2, .slice none 0 0, .slice (some ⟨w3.heap.size, 0, none⟩) 1 1] 22)) := ((Below.refl _ _).alloc (Nat.le_refl _) _).alloc (by simp) _
  have hX4 := Lib.hid (hX3.out.bel hbx)
  have hb4 := Lib.hid (below_tr hb3 hbx)
  clear hiy hone2 hr2 hX3 hb3 hbx
  generalize ((w3.alloc (.cells #[.int .i64 1] 3)).alloc (.cells #[.slice A2 b.len c2, .slice none 0 0, .slice (some ⟨w3.heap.size, 0, none⟩) 1 1] 22)) = w4 at *
  have heb0 : Hid (Poly.EB 90000000 (fnOf a 1 0) (fnOf b 0 1)) := by
    refine ⟨by show a.len ≤ _; omega, by show b.len ≤ _; omega, fun i hi => ?_, fun i hi => ?_⟩
    · match i, hi with
      | 1, _ => show (1 : Poly (Zp ⟨p, hp⟩)).len + b.len ≤ _; rw [Poly.len_one]; omega
      | i + 2, _ => show (0 : Poly (Zp ⟨p, hp⟩)).len + b.len ≤ _; rw [Poly.len_zero]; omega
    · match i, hi with
      | 1, _ => show (0 : Poly (Zp ⟨p, hp⟩)).len + a.len ≤ _; rw [Poly.len_zero]; omega
      | i + 2, _ => show (1 : Poly (Zp ⟨p, hp⟩)).len + a.len ≤ _; rw [Poly.len_one]; omega
  generalize w1.heap.size + 1 = gx0 at *
  generalize w3.heap.size + 1 = gy0 at *
  go_loopg [10, 11] (b.len + 1) (fun gk s1 s2 wr => ∃ (X Y : Nat → Poly (Zp ⟨p, hp⟩)) (gx gy cx cy : Nat) (A' B' : Nat → Option Addr) (C' D' : Nat → Nat), (Y 0).len < gk ∧ s1 = .slice (some ⟨gx, 0, none⟩) 3 cx ∧ s2 = .slice (some ⟨gy, 0, none⟩) 3 cy ∧ Hid (Sl3 wr gx A' C' X) ∧ Hid (Sl3 wr gy B' D' Y) ∧ Hid (Poly.EB 90000000 X Y) ∧ Hid (Poly.eucl (rowOf X) (rowOf Y) = Poly.eucR a b) ∧ Hid (Below w.heap.size w wr))
  case atStart => exact ⟨_, _, _, _, _, _, _, _, _, _, Nat.lt_succ_self _, rfl, rfl, hX4, hY0, heb0, rfl, hb4⟩
  case round =>
    obtain ⟨X, Y, gx, gy, cx, cy, A', B', C', D', hgk, rfl, rfl, hX, hY, heb, heu, hbel⟩ := hrel
    clear hX4 hY0 heb0 hb4
    obtain ⟨wo, rfl⟩ : ∃ wo : World, wo = wr := ⟨_, rfl⟩
    have hcx0 := hX.out.cell 0 (by omega)
    have hcy0 := hY.out.cell 0 (by omega)
    by_cases h0 : Y 0 = 0
    · have hyz : (Y 0).len = 0 := by rw [h0]; exact Poly.len_zero
      have Heu : Hid (Poly.eucR a b = rowOf X) := heu.out.symm.trans (Poly.eucl_zero (x := rowOf X) (y := rowOf Y) h0)
      rw [hyz] at hcy0
      by_cases hx0 : X 0 = 0
      · have hxz : (X 0).len = 0 := by rw [hx0]; exact Poly.len_zero
        have Hb : Hid (Poly.bezR a b = ⟨0, 1, 0⟩) := eucR_zero_case (by rw [Heu.out]; exact hx0)
        have Hfin : Hid (GivesP3E w (Poly.bezR a b).g (Poly.bezR a b).s (Poly.bezR a b).t 0 (.returned (.tuple #[.slice none 0 0, .slice (some ⟨wo.heap.size, 0, none⟩) 1 1, .slice none 0 0, .int .i64 0])) (wo.alloc (.cells #[.int .i64 1] 3))) := by
          rw [Hb.out]
          have h1 := ints_one hp (Row.new wo 3 [1])
          have h2 := ints_nil (q := ⟨p, hp⟩) (wo.alloc (.cells #[.int .i64 1] 3))
          refine ⟨none, 0, some ⟨wo.heap.size, 0, none⟩, 1, none, 0, ?_, h2, h1, h2, hbel.out.alloc hbel.out.size _⟩
          show _ = Ending.returned (.tuple #[.slice none (0 : Poly (Zp ⟨p, hp⟩)).len 0, .slice (some ⟨wo.heap.size, 0, none⟩) (1 : Poly (Zp ⟨p, hp⟩)).len 1, .slice none (0 : Poly (Zp ⟨p, hp⟩)).len 0, .int .i64 0])
          rw [Poly.len_zero, Poly.len_one]
        rw [hxz] at hcx0
        clear h0 hx0 hyz hxz
        go_wp2
        (try simp only [Exit.inBlock, Exit.then]); refine bodyPost_ret (results_tmp4 rfl _ _ _) rfl ?_
        exact Hfin.out
      · have hlp := Poly.len_pos hx0
        have Hlc : Hid (Zp.of ⟨p, hp⟩ (nth (fromP (X 0)) ((X 0).len - 1)) = (X 0).lc) := fromP_top hx0
        have hbd := fromP_lt (X 0) ((X 0).len - 1)
        have htop := (fromP_pl (X 0)).top (by rw [fromP_length]; exact hlp)
        rw [fromP_length] at htop
        have Hbd : Hid (0 < nth (fromP (X 0)) ((X 0).len - 1) ∧ nth (fromP (X 0)) ((X 0).len - 1) < p) := ⟨by have := hbd.1; omega, hbd.2⟩
        have Hinv : Hid (toP ⟨p, hp⟩ [invm (nth (fromP (X 0)) ((X 0).len - 1)) p] = Poly.C (CField.inv (X 0).lc)) := by
          show _ = _
          rw [toP_one, ← Hlc.out]
          congr 1
          exact (Zp.inv_of (q := ⟨p, hp⟩) _).symm
        have Hb : Hid (Poly.bezR a b = ⟨(X 0).monic, Poly.C (CField.inv (X 0).lc) * X 1, Poly.C (CField.inv (X 0).lc) * X 2⟩) := by
          show _ = _
          rw [Poly.bezR_ne (by rw [Heu.out]; exact hx0), Heu.out]; rfl
        have Ci := Lib.hid (fun W => qinv_any (nth (fromP (X 0)) ((X 0).len - 1)) p W hp Hbd.out)
        have hib := invm_bd (nth (fromP (X 0)) ((X 0).len - 1)) hp
        obtain ⟨b0, o0, hA0, hb0, hc0⟩ := (hX.out.ints 0 (by omega)).at_ hlp
        obtain ⟨L, hL⟩ : ∃ L, (X 0).len = L + 1 := ⟨(X 0).len - 1, by omega⟩
        have hlx := Lib.hid (fun i => (heb.out.le i).1)
        have hxl0 := (heb.out.le 0).1
        have HL := Lib.hid hL
        have HA0 := Lib.hid hA0
        have hcl := hc0 L (by omega)
        rw [hL] at Ci Hinv hib hxl0
        simp only [Nat.add_sub_cancel] at Ci Hinv hib
        rw [hL, hA0] at hcx0
        have Hcx0 := Lib.hid hcx0
        have Hcl := Lib.hid hcl
        have hgx := hX.out.lt
        have hLp : ((L : Int) + 1 == 0) = false := beq_eq_false_iff_ne.2 (by omega)
        have hL0 : (0 : Int) ≤ (L : Int) := by omega
        have hL1 : (L : Int) < (L : Int) + 1 := by omega
        have hw1 : IntKind.i64.wrap ((L : Int) + 1 - 1) = (L : Int) := by rw [IntWalk.i64_in _ (by omega)]; omega
        have hw2 : IntKind.i64.wrap (L : Int) = (L : Int) := IntWalk.i64_in _ (by omega)
        clear h0 hx0 hyz hL hA0 hlp hbd htop hc0 Hlc Hbd
        generalize invm (nth (fromP (X 0)) L) p = top at *
        go_wp2
        go_region_held3 (fun w' => w'.cell? ⟨gx, 0, none⟩ = some (.slice (some ⟨b0, o0, none⟩) (L + 1) (C' 0)) ∧ w'.cell? ⟨b0, o0 + L, none⟩ = some (.int .i64 (nth (fromP (X 0)) L)))
          (first | go_keep)
          (first
            | (go_at_call 75; refine (Ci.out _).mono ?_; rintro e w' ⟨rfl, rfl⟩))
        have hbw := ((Below.refl wo.heap.size wo).alloc (Nat.le_refl _) (.cells #[.int .i64 top] 3)).drew
        have hX8 := hX.out.bel hbw
        have hT8 : Ints (wo.alloc (.cells #[.int .i64 top] 3)).drew (some ⟨wo.heap.size, 0, none⟩) 1 [top] := ((Row.new wo 3 [top]).ints (fun i => by
          match i with
          | 0 => show I64 top; exact I64.small hib.1 (by omega)
          | i + 1 => rw [nth_ge (by simp)]; exact I64.zero)).drew
        have hb8 := below_tr hbel.out hbw
        have Ct : Hid (∀ (i : Nat) (W : World), Ints W (A' i) (X i).len (fromP (X i)) → Ints W (some ⟨wo.heap.size, 0, none⟩) 1 [top] → Calls Tryz.prog 25 #[.slice (A' i) (X i).len (C' i), .slice (some ⟨wo.heap.size, 0, none⟩) 1 1, .int .i64 p] W (GivesR W 90000002 (Poly.C (CField.inv (X 0).lc) * X i))) := fun i W h1 h2 => by
          have := qtimesR (hp := hp) (N := 90000001) (M := 1) (K := 90000002) (c := C' i) (d := 1) (Rd.of h1) (Rd.of_list h2) (hlx.out i) (Nat.le_refl _) (by omega) (by omega)
          rw [Hinv.out, CRing.mul_comm] at this
          exact this
        rename_i hheld
        clear hheld hbw hb0 hcl hcx0
        generalize (wo.alloc (.cells #[.int .i64 top] 3)).drew = w8 at *
        have hc80 := hX8.cell 0 (by omega)
        have hc81 := hX8.cell 1 (by omega)
        have hc82 := hX8.cell 2 (by omega)
        have hgx8 := hX8.lt
        have HX8 := Lib.hid hX8
        have HT8 := Lib.hid hT8
        clear hX8 hT8
        go_wp2
        go_region_held3 (fun w' => w'.cell? ⟨gx, 0, none⟩ = some (.slice (A' 0) (X 0).len (C' 0)) ∧ w'.cell? ⟨gx, 1, none⟩ = some (.slice (A' 1) (X 1).len (C' 1)) ∧ w'.cell? ⟨gx, 2, none⟩ = some (.slice (A' 2) (X 2).len (C' 2)))
          (first | go_keep | exact ⟨(hb9.cell (p := ⟨gx, 0, none⟩) hgx8).trans hc80, (hb9.cell (p := ⟨gx, 1, none⟩) hgx8).trans hc81, (hb9.cell (p := ⟨gx, 2, none⟩) hgx8).trans hc82⟩ | exact ⟨(hb10.cell (p := ⟨gx, 0, none⟩) hgx8).trans hc80, (hb10.cell (p := ⟨gx, 1, none⟩) hgx8).trans hc81, (hb10.cell (p := ⟨gx, 2, none⟩) hgx8).trans hc82⟩ | exact ⟨(hb11.cell (p := ⟨gx, 0, none⟩) hgx8).trans hc80, (hb11.cell (p := ⟨gx, 1, none⟩) hgx8).trans hc81, (hb11.cell (p := ⟨gx, 2, none⟩) hgx8).trans hc82⟩)
          (first
            | (go_at_call 25; first
              | ((with_reducible show Calls _ _ #[.slice (A' 0) _ _, _, _] _ _); refine (Ct.out 0 _ (HX8.out.ints 0 (by omega)).drew HT8.out.drew).mono ?_; rintro e w9 ⟨A9, c9, rfl, l9, h9, hb9⟩)
              | ((with_reducible show Calls _ _ #[.slice (A' 1) _ _, _, _] _ _); refine (Ct.out 1 w9 ((HX8.out.ints 1 (by omega)).drew.bel hb9) (HT8.out.drew.bel hb9)).mono ?_; rintro e w10 ⟨A10, c10, rfl, l10, h10, hb910⟩; have hb10 := below_tr hb9 hb910)
              | ((with_reducible show Calls _ _ #[.slice (A' 2) _ _, _, _] _ _); refine (Ct.out 2 w10 ((HX8.out.ints 2 (by omega)).drew.bel hb10) (HT8.out.drew.bel hb10)).mono ?_; rintro e w11 ⟨A11, c11, rfl, l11, h11, hb1011⟩; have hb11 := below_tr hb10 hb1011)))
        go_wp2
        (try simp only [Exit.inBlock, Exit.then]); refine bodyPost_ret (results_tmp4 rfl _ _ _) rfl ?_
        rw [Hb.out]
        exact ⟨A9, c9, A10, c10, A11, c11, rfl, (h9.bel hb910).bel hb1011, h10.bel hb1011, h11, below_tr hb8.drew hb11⟩
    · have hlp := Poly.len_pos h0
      have hpos : (0 : Int) < ((Y 0).len : Int) := by omega
      have hxl := heb.out.x0
      have hyl := heb.out.y0
      have Cd := Lib.hid (qdivR (hp := hp) (N := 90000000) (M := 90000000) (c := C' 0) (d := D' 0) (Rd.of ((hX.out.ints 0 (by omega)).drew)) (Rd.of ((hY.out.ints 0 (by omega)).drew)) hxl hyl (by omega) (by omega) h0)
      have hgx := hX.out.lt
      have hgy := hY.out.lt
      go_wp2
      go_region_held3 (fun w' => w'.cell? ⟨gx, 0, none⟩ = some (.slice (A' 0) (X 0).len (C' 0)) ∧ w'.cell? ⟨gy, 0, none⟩ = some (.slice (B' 0) (Y 0).len (D' 0)))
        (first | go_keep | exact ⟨(hb5.cell (p := ⟨gx, 0, none⟩) hgx).trans hcx0, (hb5.cell (p := ⟨gy, 0, none⟩) hgy).trans hcy0⟩)
        (first
          | (go_at_call 48; refine Cd.out.mono ?_; rintro e w5 ⟨A5, c5, B5, d5, rfl, l5, m5, h5, k5, hb5⟩))
      have hbw := below_tr ((Below.refl wo.heap.size wo).drew) hb5
      have hX5 := Lib.hid (hX.out.bel hbw)
      have hY5 := Lib.hid (hY.out.bel hbw)
      have hb6 := Lib.hid (below_tr hbel.out hbw)
      have hQ5 := Lib.hid h5
      have hlx := Lib.hid (fun i => (heb.out.le i).1)
      have hly := Lib.hid (fun i => (heb.out.le i).2)
      clear hcx0 hcy0 hbel hX hY Cd hgx hgy hbw h5 k5 m5
      go_wp2
      go_loopw [15, 16] (fun v i wr => ∃ (k : Nat) (A9 : Nat → Option Addr) (C9 : Nat → Nat), k ≤ 3 ∧ i = .int .i64 k ∧ wr.ownsRow w5.heap.size 22 1 v k (sls A9 (fun i => (nextZ X Y i).len) C9 k) ∧ Hid (∀ i, i < k → Ints wr (A9 i) (nextZ X Y i).len (fromP (nextZ X Y i)) ∧ (0 < (nextZ X Y i).len → ∀ x, A9 i = some x → v.ownBlock ≠ some x.block)) ∧ Below w5.heap.size w5 wr) (fun _ i _ => 3 - (intOf i).toNat)
      case atStart => exact ⟨0, fun _ => none, fun _ => 0, by omega, rfl, World.ownsRow_nil _ _ _ _, fun i hi => absurd hi (by omega), Below.refl _ _⟩
      case round =>
        obtain ⟨k, A9, C9, hk, rfl, hown, hI9, hbl⟩ := hrel
        have hsz := hbl.size
        by_cases hlt : k < 3
        · have hX6 := hX5.out.bel hbl
          have hY6 := hY5.out.bel hbl
          have hcx := hX6.cell k hlt
          have hcy := hY6.cell k hlt
          have hgx := hX6.lt
          have hgy := hY6.lt
          have hix := Lib.hid (hX6.ints k hlt)
          have hiy := Lib.hid (hY6.ints k hlt)
          have hQ6 := Lib.hid (hQ5.out.bel hbl)
          have hlt3 : (k : Int) < 3 := by omega
          have hk0 : (0 : Int) ≤ (k : Int) := by omega
          have Ct := Lib.hid (qtimesR (hp := hp) (N := 90000000) (M := 90000001) (K := 180000001) (c := c5) (d := D' k) (Rd.of hQ6.out.drew) (Rd.of hiy.out.drew) l5 (hly.out k) (by omega) (by omega))
          have Cs : Hid (∀ (W : World) (A7 : Option Addr) (c7 : Nat), Ints W (A' k) (X k).len (fromP (X k)) → Ints W A7 (Poly.quo (X 0) (Y 0) * Y k).len (fromP (Poly.quo (X 0) (Y 0) * Y k)) → (Poly.quo (X 0) (Y 0) * Y k).len ≤ 180000001 → Calls Tryz.prog 76 #[.slice (A' k) (X k).len (C' k), .slice A7 (Poly.quo (X 0) (Y 0) * Y k).len c7, .int .i64 (-1), .int .i64 p] W (GivesP W (nextZ X Y k))) := fun W A7 c7 h1 h2 h3 => by
            have h4 := hlx.out k
            have := qsum_any (A' k) A7 _ _ (C' k) c7 _ _ (-1) p W hp h1 h2 (by omega) (by omega) (by omega)
            rw [toP_fromP, toP_fromP, neg_times] at this
            exact this
          clear hX6 hY6
          go_wp2
          go_region_held3 (fun w' => w'.cell? ⟨gx, k, none⟩ = some (.slice (A' k) (X k).len (C' k)) ∧ w'.cell? ⟨gy, k, none⟩ = some (.slice (B' k) (Y k).len (D' k)))
            (first | go_keep | exact ⟨(hb7.cell (p := ⟨gx, k, none⟩) hgx).trans hcx, (hb7.cell (p := ⟨gy, k, none⟩) hgy).trans hcy⟩ | exact ⟨(hb78.cell (p := ⟨gx, k, none⟩) hgx).trans hcx, (hb78.cell (p := ⟨gy, k, none⟩) hgy).trans hcy⟩ | exact ⟨(hb59.cell (p := ⟨gx, k, none⟩) hX5.out.lt).trans (hX5.out.cell k hlt), (hb59.cell (p := ⟨gy, k, none⟩) hY5.out.lt).trans (hY5.out.cell k hlt)⟩)
            (first
              | (go_at_call 25; refine Ct.out.mono ?_; rintro e w7 ⟨A7, c7, rfl, l7, h7, hb7⟩)
              | (go_at_call 76; refine (Cs.out w7 A7 c7 (hix.out.drew.bel hb7) h7 l7).mono ?_; rintro e w8 ⟨A8, c8, rfl, hn8⟩; have hb8 := hn8.bel; have hb78 := below_tr hb7 hb8; have hown8 := own_bel (own_drew hown) hb78; have hb58 := (hbl.drew).trans (hb78.mono hsz); have hs8 := hb58.size)
              | (refine step_append_lies _ (by rfl) _ _ _ (by rfl) w5.heap.size 22 j0 _ 1 24 Tryz.underlying44 hj0 hy0 hy1 hy2 rfl (by omega) u15 k (sls A9 (fun i => (nextZ X Y i).len) C9 k) (by rfl) (hown8.alloc _) ⟨w8.heap.size, 0, none⟩ 1 1 [.slice A8 (nextZ X Y k).len c8] (by rfl) (by rfl) (World.news_of_block (cs := #[.slice A8 (nextZ X Y k).len c8]) (t := 22) (fr := (0, 0)) (heap_alloc_new w8 _)) (by simp [Value.oneCell']) (by omega) (by unfold maxLen; omega) (by omega) (by simp; omega) (w8.heap.size + 1) (by simp) ?_; intro gg cap w9 hown9 hgrow hat hlt9; have hb59 := below_app' hb58 hown8 hgrow hs8))
          have hwn : ∀ j, u15.ownBlock = some j → j < wr.heap.size := fun j hj => (hown.lt j hj).2
          have hI10 : Hid (∀ i, i < k + 1 → Ints w9 (put1 A9 k A8 i) (nextZ X Y i).len (fromP (nextZ X Y i)) ∧ (0 < (nextZ X Y i).len → ∀ x, put1 A9 k A8 i = some x → (Value.slice (some ⟨gg, 0, none⟩) (k + 1) cap).ownBlock ≠ some x.block)) := by
            intro i hi
            have hgs := (World.grownBy_alloc w8 (.cells #[.slice A8 (nextZ X Y k).len c8] 22) u15.ownBlock)
            have hdw : wr.drew.heap.size = wr.heap.size := rfl
            by_cases e : i = k
            · subst e
              rw [put1_at]
              have h1 : 0 < (nextZ X Y i).len → ∀ x, A8 = some x → u15.ownBlock ≠ some x.block := fun _ x hx hq => by
                have := hwn _ hq
                have := hn8.blk x hx
                have := hb7.size
                omega
              refine ⟨((hn8.rd.grown hgs h1).grown hgrow h1), fun h0 x hx hq => ?_⟩
              have hq' : gg = x.block := by simpa [Value.ownBlock] using hq
              rcases hat with hat | hat
              · exact h1 h0 x hx (hat.trans (by rw [hq']))
              · have := hn8.rd.blk_lt h0 x hx
                omega
            · rw [put1_ne _ _ e]
              obtain ⟨h2, h3⟩ := hI9.out i (by omega)
              have h4 := (h2.drew).bel hb78
              refine ⟨((h4.grown hgs h3).grown hgrow h3), fun h0 x hx hq => ?_⟩
              have hq' : gg = x.block := by simpa [Value.ownBlock] using hq
              rcases hat with hat | hat
              · exact h3 h0 x hx (hat.trans (by rw [hq']))
              · have := h4.blk_lt h0 x hx
                omega
          rw [sls_put _ _ _ _ _ _ _ rfl] at hown9
          clear hwn hgrow hat hown8 hown hn8 hgx hgy hcx hcy hb7 hb8 hb78 hb58 hs8 h7 hlt9
          go_wp2
          go_roundw
          case rel => exact ⟨k + 1, _, _, by omega, by go_num, hown9, hI10, hb59⟩
          case measure => simp [intOf]; omega
        · obtain rfl : k = 3 := by omega
          obtain ⟨g9, cap9, rfl, hg9, hglt9⟩ := hown.form (by omega)
          have hZ9 := Lib.hid (Sl3.of_own hown hglt9 (fun i hi => (hI9.out i hi).1))
          have hY9 := Lib.hid (hY5.out.bel hbl)
          have hb9 := Lib.hid (below_tr hb6.out hbl)
          have heb7 : Hid (Poly.EB 90000000 Y (nextZ X Y)) := heb.out.next h0 (fun _ => rfl)
          have heu7 : Hid (Poly.eucl (rowOf Y) (rowOf (nextZ X Y)) = Poly.eucR a b) := (Poly.eucl_step (x := rowOf X) (y := rowOf Y) h0).symm.trans heu.out
          have hlt7 : (nextZ X Y 0).len < (Y 0).len := by
            have e : nextZ X Y 0 = Poly.rem (X 0) (Y 0) := Poly.Row3.next_g (x := rowOf X) (y := rowOf Y) h0
            rw [e]; exact Cl.rem_len' _ h0
          clear hown hI9
          go_wp2
          go_roundg (Y 0).len
          case measure => omega
          case rel => exact ⟨Y, nextZ X Y, gy, g9, cy, cap9, B', A9, D', C9, hlt7, rfl, rfl, hY9, hZ9, heb7, heu7, hb9⟩
end Go.Proofs.YtpikakapflebkaaGreat

namespace Go.Proofs.YtpikakapflebkaaGreat
open Go.RowKit Cl
attribute [local go_sem ↓] Go.wp_at_zero Go.wp_at_succ

theorem qbezout_no (A B : Option Addr) (n c m d : Nat) (p : Int) (w : World) (h3 : -9223372036854775808 ≤ p) (h4 : p ≤ 9223372036854775807) (hp : isPrime p = false) :
    Calls Tryz.prog 141 #[.slice A n c, .slice B m d, .int .i64 p] w fun e w' => e = .returned (.tuple #[.slice none 0 0, .slice none 0 0, .slice none 0 0, .int .i64 1]) ∧ w = w' := by
  go_enter Tryz.func141, Tryz.ntmps141
  go_wp2_with fail
  refine (rchk_no _ _ h3 h4 hp).mono ?_
  rintro e w' ⟨rfl, rfl⟩
  go_wp2_with fail
  (try simp only [Exit.inBlock, Exit.then]); refine bodyPost_ret (results_tmp4 rfl _ _ _) rfl ?_
  exact ⟨rfl, rfl⟩
theorem qgcd_no (A B : Option Addr) (n c m d : Nat) (p : Int) (w : World) (h3 : -9223372036854775808 ≤ p) (h4 : p ≤ 9223372036854775807) (hp : isPrime p = false) :
    Calls Tryz.prog 114 #[.slice A n c, .slice B m d, .int .i64 p] w fun e w' => e = .returned (.tuple #[.slice none 0 0, .int .i64 1]) ∧ w = w' := by
  go_enter Tryz.func114, Tryz.ntmps114
  go_wp2_with fail
  refine (qbezout_no _ _ _ _ _ _ _ _ h3 h4 hp).mono ?_
  rintro e w' ⟨rfl, rfl⟩
  go_wp2_with fail
  go_ret2
  exact ⟨rfl, rfl⟩

section
variable {A B : Option Addr} {n m c d N : Nat} {p : Int} {w : World} {hp : Pr p} {a b : Poly (Zp ⟨p, hp⟩)}
theorem qbezoutR (ha : Rd w A n a) (hb : Rd w B m b) (hn : n ≤ N) (hm : m ≤ N) (hN : N ≤ 90000000) :
    Calls Tryz.prog 141 #[.slice A n c, .slice B m d, .int .i64 p] w (GivesR3E w N (N + 1) (Poly.bezR a b).g (Poly.bezR a b).s (Poly.bezR a b).t 0) := by
  obtain ⟨xs, hx, rfl⟩ := ha
  obtain ⟨ys, hy, rfl⟩ := hb
  have h2 : (toP ⟨p, hp⟩ xs).len ≤ n := len_le_toP hx.len
  have h3 : (toP ⟨p, hp⟩ ys).len ≤ m := len_le_toP hy.len
  obtain ⟨h4, h5, h6⟩ := bezR_len (B := N) (Nat.le_trans h2 hn) (Nat.le_trans h3 hm)
  refine (qbezout_yes A B n c m d xs ys p w hp hx hy (by omega) (by omega)).mono ?_
  rintro e w' ⟨A1, k1, B1, l1, C1, m1, rfl, i1, i2, i3, hb⟩
  exact ⟨A1, k1, B1, l1, C1, m1, rfl, h4, h5, h6, i1, i2, i3, hb⟩
theorem qgcdR (ha : Rd w A n a) (hb : Rd w B m b) (hn : n ≤ N) (hm : m ≤ N) (hN : N ≤ 90000000) :
    Calls Tryz.prog 114 #[.slice A n c, .slice B m d, .int .i64 p] w (GivesRE w N (Poly.gcdP a b) 0) := by
  have Cb := Lib.hid (qbezoutR (c := c) (d := d) ha hb hn hm hN)
  have Hg := Lib.hid (Poly.bezR_g a b)
  go_enter Tryz.func114, Tryz.ntmps114
  go_wp2_with fail
  refine Cb.out.mono ?_
  rintro e w1 ⟨A1, k1, B1, l1, C1, m1, rfl, h4, h5, h6, i1, i2, i3, hb1⟩
  rw [Hg.out] at h4 i1 ⊢
  go_wp2_with fail
  go_ret2
  exact ⟨_, _, rfl, h4, i1, hb1⟩
end
end Go.Proofs.YtpikakapflebkaaGreat

namespace Go.Proofs.YtpikakapflebkaaGreat
open Go.RowKit Cl
attribute [local go_sem ↓] Go.wp_at_zero Go.wp_at_succ

noncomputable def derG {q : Prm} (P : Poly (Zp q)) (i : Nat) : Int := ((i : Int) + 1) % q.p * nth (fromP P) (i + 1) % q.p
theorem toP_derG {q : Prm} (P : Poly (Zp q)) : toP q (tab (P.len - 1) (derG P)) = P.D := by
  rw [← toP_der P]
  refine Poly.ext fun i => ?_
  rw [co_toP, co_toP, nth_tab, nth_tab]
  split
  · exact Zp.of_cg (Cg.emod_left _ _)
  · rfl
theorem derG_bd {q : Prm} (P : Poly (Zp q)) (i : Nat) : 0 ≤ derG P i ∧ derG P i < q.p := emod_bd _ (by have := q.pr.two; omega)

section
variable {A : Option Addr} {n c N : Nat} {p : Int} {w : World} {hp : Pr p} {a : Poly (Zp ⟨p, hp⟩)}
set_option maxRecDepth 100000 in
set_option maxHeartbeats 4000000 in
theorem qderivR (ha : Rd w A n a) (hn : n ≤ N) (hN : N ≤ 900000000) : Calls Tryz.prog 112 #[.slice A n c, .int .i64 p] w (GivesRE w N a.D 0) := by
  obtain ⟨i0, hi, hz0, hz1, hz2⟩ := info_parts int_info
  have hp1 := hp.two
  have hp2 := hp.max
  have hp0 : ¬ p = 0 := by omega
  have hppos : 0 < p := by omega
  have Ca := Lib.hid (qplainR (c := c) ha hn hN)
  have HD := Lib.hid (D_len_le a)
  clear ha
  go_enter Tryz.func112, Tryz.ntmps112
  go_wp2_with fail
  refine (rchk_yes _ _ (by omega) (by omega) ((isPrime_iff p).2 hp)).mono ?_
  rintro e w' ⟨rfl, rfl⟩
  go_wp2_with fail
  refine Ca.out.mono ?_
  rintro e w1 ⟨A1, c1, rfl, l1, hrd, hb1⟩
  generalize hL : a.len = L at *
  have HL := Lib.hid hL
  clear hL
  go_wp2_with fail
  go_loopw [7, 8] (fun v i wr => ∃ k : Nat, k ≤ L - 1 ∧ i = .int .i64 ((k : Int) + 1) ∧ wr.ownsRow w1.heap.size 3 1 v k (ints (tab k (derG a))) ∧ Below w1.heap.size w1 wr) (fun _ i _ => L - (intOf i).toNat)
  case atStart => exact ⟨0, by omega, rfl, World.ownsRow_nil _ _ _ _, Below.refl _ _⟩
  case round =>
    obtain ⟨k, hk, rfl, hown, hbel⟩ := hrel
    by_cases hlt : k + 1 < L
    · obtain ⟨b, o, rfl, hb, hc⟩ := hrd.at_ (by omega)
      have hcx : wr.cell? ⟨b, o + (k + 1), none⟩ = some (.int .i64 (nth (fromP a) (k + 1))) := (hbel.cell (p := ⟨b, o + (k + 1), none⟩) hb).trans (hc (k + 1) hlt)
      have Hd : Hid (((k : Int) + 1) % p * nth (fromP a) (k + 1) % p = derG a k) := rfl
      have h1 := emod_bd ((k : Int) + 1) (p := p) (by omega)
      obtain ⟨h2, h3⟩ := fromP_lt a (k + 1)
      have h3' : nth (fromP a) (k + 1) < p := h3
      have m1 : 0 ≤ ((k : Int) + 1) % p * nth (fromP a) (k + 1) := Int.mul_nonneg h1.1 h2
      have m2 : ((k : Int) + 1) % p * nth (fromP a) (k + 1) ≤ 65521 * 65521 := Int.mul_le_mul (by omega) (by omega) h2 (by omega)
      have hlt' : (k : Int) + 1 < (L : Int) := by omega
      have hge0 : (0 : Int) ≤ (k : Int) + 1 := by omega
      have hneg : ¬ (k : Int) + 1 < 0 := by omega
      have e1 : IntKind.i64.wrap (((k : Int) + 1) % p * nth (fromP a) (k + 1)) = ((k : Int) + 1) % p * nth (fromP a) (k + 1) := IntWalk.i64_in _ (by omega)
      have e2 : ((k : Int) + 1).toNat = k + 1 := by omega
      have e3 : ((k : Int) + 1).tmod p = ((k : Int) + 1) % p := by rw [Int.tmod_eq_emod_of_nonneg (by omega)]
      have e4 : (((k : Int) + 1) % p * nth (fromP a) (k + 1)).tmod p = ((k : Int) + 1) % p * nth (fromP a) (k + 1) % p := by rw [Int.tmod_eq_emod_of_nonneg m1]
      have hsz := hbel.size
      clear h3 h1
      go_wp2
      go_region_held3 (fun w' => w'.cell? ⟨b, o + (k + 1), none⟩ = some (.int .i64 (nth (fromP a) (k + 1))))
        (first | go_keep | (have hb3 := below_app hbel hown hgrow hsz; exact (hb3.cell (p := ⟨b, o + (k + 1), none⟩) hb).trans (hc (k + 1) hlt)))
        (first
          | (refine step_append_lies _ (by rfl) _ _ _ (by rfl) w1.heap.size 3 i0 _ 1 8 Tryz.underlying22 hi hz0 hz1 hz2 rfl (by omega) u7 k (ints (tab k (derG a))) (by rfl) ((hown.alloc _).drew) ⟨wr.heap.size, 0, none⟩ 1 1 [.int .i64 (((k : Int) + 1) % p * nth (fromP a) (k + 1) % p)] (by rfl) (by rfl) (World.news_of_block (cs := #[.int .i64 (((k : Int) + 1) % p * nth (fromP a) (k + 1) % p)]) (t := 3) (fr := (0, 0)) (heap_alloc_new wr _)) (by simp [Value.oneCell']) (by omega) (by unfold maxLen; omega) (by omega) (by simp; omega) (wr.heap.size + 1) (by simp) ?_; intro gg cap w3 hown3 hgrow hat hlt3))
      have hb3 := below_app hbel hown hgrow hsz
      have he : ints (tab k (derG a)) ++ [.int .i64 (((k : Int) + 1) % p * nth (fromP a) (k + 1) % p)] = ints (tab (k + 1) (derG a)) := by rw [Hd.out]; exact ints_tab_succ k (derG a)
      rw [he] at hown3
      clear hgrow hat hown e1 e2 e3 e4 he
      go_wp2
      go_roundw
      case rel => exact ⟨k + 1, by omega, by go_num, hown3, hb3⟩
      case measure => simp [intOf]; omega
    · obtain rfl : k = L - 1 := by omega
      have hlt' : ¬ (((L - 1 : Nat) : Int) + 1 < (L : Int)) := by omega
      obtain ⟨A2, c2, rfl⟩ := own_slice hown
      have hin := Ints.of_own hown (tab_i64 fun i => by have := derG_bd a i; have h9 : derG a i < p := this.2; exact I64.small this.1 (by omega))
      have hD : toP ⟨p, hp⟩ (tab (L - 1) (derG a)) = a.D := by have := toP_derG a; rw [HL.out] at this; exact this
      have hcp := qplainR (c := c2) (N := L - 1) (hp := hp) (Rd.of_list hin) (Nat.le_refl _) (by omega)
      rw [hD] at hcp
      have Cp := Lib.hid hcp
      have hLn : L ≤ N := l1
      clear hcp hD hin hown
      generalize L - 1 = L1 at *
      go_wp2_with fail
      refine Cp.out.mono ?_
      rintro e w3 ⟨A3, c3, rfl, l3, h3, hb3⟩
      go_wp2_with fail
      go_ret2
      exact ⟨_, _, rfl, by have := HD.out; omega, h3, below_tr (below_tr hb1 hbel) hb3⟩

end
end Go.Proofs.YtpikakapflebkaaGreat
