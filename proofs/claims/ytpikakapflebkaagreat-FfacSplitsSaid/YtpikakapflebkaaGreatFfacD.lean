/- Words on memory: a list of polynomials under headers of the call's own. Contracts: what is drawn, what is tried: the program's. -/
import Derived.Test.YtpikakapflebkaaGreatFfacBase
import Derived.Test.YtpikakapflebkaaGreatPolyTop
import Derived.Test.YtpikakapflebkaaGreatRefTop
import Derived.Test.YtpikakapflebkaaGreatQsfAll
namespace Go.Proofs.YtpikakapflebkaaGreat
open Go.RowKit Cl
attribute [local go_sem ↓] Go.wp_at_zero Go.wp_at_succ

theorem Rd.bel {q : Prm} {w w' : World} {A : Option Addr} {n : Nat} {a : Poly (Zp q)} (h : Rd w A n a) (hb : Below w.heap.size w w') : Rd w' A n a := by
  obtain ⟨xs, h1, h2⟩ := h
  exact ⟨xs, h1.bel hb, h2⟩
/-- A polynomial and where it lies. -/
abbrev EntP (q : Prm) := (Option Addr × Nat) × Poly (Zp q)
section
variable {q : Prm}
noncomputable def ecell (x : EntP q) : Value := .slice x.1.1 x.2.len x.1.2
noncomputable def ecells (L : List (EntP q)) : List Value := L.map ecell
theorem ecells_length (L : List (EntP q)) : (ecells L).length = L.length := by simp [ecells]
theorem ecells_get {L : List (EntP q)} {i : Nat} (h : i < L.length) : (ecells L)[i]? = some (ecell L[i]) := by simp [ecells, h]
theorem ecells_snoc (L : List (EntP q)) (x : EntP q) : ecells (L ++ [x]) = ecells L ++ [ecell x] := by simp [ecells]
theorem ecells_set (L : List (EntP q)) (i : Nat) (x : EntP q) : (ecells L).set i (ecell x) = ecells (L.set i x) := by simp [ecells, List.map_set]
/-- Polynomials under headers of the call's own: none lies in the headers' block. -/
structure Pls (w : World) (base : Nat) (v : Value) (L : List (EntP q)) : Prop where
  own : w.ownsRow base 22 1 v L.length (ecells L)
  rd : ∀ x ∈ L, 0 < x.2.len ∧ Ints w x.1.1 x.2.len (fromP x.2) ∧ ∀ y, x.1.1 = some y → v.ownBlock ≠ some y.block
variable {w w' : World} {base : Nat} {v : Value} {L : List (EntP q)}
theorem Pls.bel (h : Pls w base v L) (hb : Below w.heap.size w w') : Pls w' base v L :=
  ⟨own_bel h.own hb, fun x hx => ⟨(h.rd x hx).1, (h.rd x hx).2.1.bel hb, (h.rd x hx).2.2⟩⟩
theorem Pls.nil (w : World) (base : Nat) : Pls (q := q) w base (.slice none 0 0) [] := ⟨World.ownsRow_nil _ _ _ _, fun x hx => by cases hx⟩
theorem Pls.form (h : Pls w base v L) (hn : 0 < L.length) : ∃ g cap, v = .slice (some ⟨g, 0, none⟩) L.length cap ∧ base ≤ g ∧ g < w.heap.size ∧ L.length ≤ cap ∧ cap ≤ 9223372036854775807 := by
  rcases h.own.2 with ⟨hv, h0⟩ | ⟨g, cap, cur, hv, hg, hh, hc, hm, _⟩
  · omega
  · exact ⟨g, cap, hv, hg, (Array.getElem?_eq_some_iff.1 hh).1, hc, hm⟩
theorem Pls.cell {g n cap : Nat} (h : Pls w base (.slice (some ⟨g, 0, none⟩) n cap) L) (hn : n = L.length) {i : Nat} (hi : i < L.length) : w.cell? ⟨g, i, none⟩ = some (.slice (L[i]).1.1 (L[i]).2.len (L[i]).1.2) := by
  subst hn
  rw [h.own.cellAt i (by omega), ecells_get hi]; rfl
theorem Pls.frozen {g n cap : Nat} (h : Pls w base (.slice (some ⟨g, 0, none⟩) n cap) L) (hn : n = L.length) (i : Nat) : w.frozen? ⟨g, i, none⟩ = false := by
  subst hn; exact h.own.frozenAt i
theorem Pls.set {g n cap : Nat} (h : Pls w base (.slice (some ⟨g, 0, none⟩) n cap) L) (hn : n = L.length) {i : Nat} (hi : i < L.length) {x : EntP q} (hp : 0 < x.2.len) (hx : Ints w x.1.1 x.2.len (fromP x.2)) (hg : ∀ y, x.1.1 = some y → y.block ≠ g) :
    Pls (w.setCell ⟨g, i, none⟩ (.slice x.1.1 x.2.len x.1.2)) base (.slice (some ⟨g, 0, none⟩) n cap) (L.set i x) := by
  have hc := h.cell hn hi
  subst hn
  refine ⟨?_, fun z hz => ?_⟩
  · have := (h.own.stored i (ecell x)).1
    rw [ecells_set] at this
    rw [List.length_set]
    exact this
  · rcases List.mem_or_eq_of_mem_set hz with h4 | h4
    · have := h.rd z h4
      exact ⟨this.1, this.2.1.far hc (fun _ _ => by simp), this.2.2⟩
    · subst h4
      exact ⟨hp, hx.far hc (fun _ _ => by simp), fun y hy e => hg y hy (by injection e with e; exact e.symm)⟩
/-- A polynomial more. -/
theorem Pls.app {x : EntP q} {o : Obj} {g n cap H : Nat} (h : Pls w base v L) (hg : (w.alloc o).grownBy w' v.ownBlock) (hat : v.ownBlock = some g ∨ g = H) (hH : (w.alloc o).heap.size = H)
    (hown : w'.ownsRow base 22 1 (.slice (some ⟨g, 0, none⟩) n cap) n (ecells L ++ [ecell x])) (hn : n = L.length + 1)
    (hp : 0 < x.2.len) (hx : Ints w x.1.1 x.2.len (fromP x.2)) (hl : ∀ y, x.1.1 = some y → v.ownBlock ≠ some y.block) : Pls w' base (.slice (some ⟨g, 0, none⟩) n cap) (L ++ [x]) := by
  have key : ∀ z : EntP q, 0 < z.2.len → Ints w z.1.1 z.2.len (fromP z.2) → (∀ y, z.1.1 = some y → v.ownBlock ≠ some y.block) → 0 < z.2.len ∧ Ints w' z.1.1 z.2.len (fromP z.2) ∧ ∀ y, z.1.1 = some y → (Value.slice (some ⟨g, 0, none⟩) n cap).ownBlock ≠ some y.block := by
    intro z h1 h2 h3
    refine ⟨h1, (h2.alloc o).grown hg (fun _ y hy e => h3 y hy e), fun y hy e => ?_⟩
    have hlt := h2.blk_lt h1 y hy
    have e' : g = y.block := by injection e
    rcases hat with h4 | h4
    · exact h3 y hy (by rw [h4, e'])
    · rw [← hH] at h4; simp at h4; omega
  refine ⟨?_, fun z hz => ?_⟩
  · rw [ecells_snoc, List.length_append]
    subst hn
    exact hown
  · rcases List.mem_append.1 hz with hz | hz
    · exact key z (h.rd z hz).1 (h.rd z hz).2.1 (h.rd z hz).2.2
    · rw [List.mem_singleton] at hz; subst hz; exact key z hp hx hl
/-- A literal of one polynomial. -/
theorem Pls.one (w : World) {x : EntP q} (hp : 0 < x.2.len) (hx : Ints w x.1.1 x.2.len (fromP x.2)) (hb : base ≤ w.heap.size) :
    Pls (w.alloc (.cells #[.slice x.1.1 x.2.len x.1.2] 22)) base (.slice (some ⟨w.heap.size, 0, none⟩) 1 1) [x] := by
  refine ⟨?_, fun z hz => ?_⟩
  · exact World.ownsRow_lit (base := base) (e := 22) (size := 1) w #[.slice x.1.1 x.2.len x.1.2] 1 hb (by unfold maxLen; omega) rfl
  · rw [List.mem_singleton] at hz; subst hz
    refine ⟨hp, hx.alloc _, fun y hy e => ?_⟩
    have h1 := hx.blk_lt hp y hy
    have e' : w.heap.size = y.block := by injection e
    omega
/-- The slice at A, of n slices, reads as polynomials. -/
structure Pol (w : World) (A : Option Addr) (n : Nat) (ls : List (Poly (Zp q))) : Prop where
  len : ls.length = n
  at_ : 0 < n → ∃ b o, A = some ⟨b, o, none⟩ ∧ b < w.heap.size ∧ ∀ i (h : i < ls.length), ∃ Ai ci, w.cell? ⟨b, o + i, none⟩ = some (.slice Ai (ls[i]).len ci) ∧ Ints w Ai (ls[i]).len (fromP (ls[i]))
theorem Pol.bel {A : Option Addr} {n : Nat} {ls : List (Poly (Zp q))} (h : Pol w A n ls) (hb : Below w.heap.size w w') : Pol w' A n ls :=
  ⟨h.len, fun hn => by
    obtain ⟨b, o, e, hbl, hc⟩ := h.at_ hn
    have := hb.size
    exact ⟨b, o, e, by omega, fun i hi => by
      obtain ⟨Ai, ci, h1, h2⟩ := hc i hi
      exact ⟨Ai, ci, (hb.cell (p := ⟨b, o + i, none⟩) hbl).trans h1, h2.bel hb⟩⟩⟩
theorem Pls.pol {A : Option Addr} {n c : Nat} (h : Pls w base (.slice A n c) L) : Pol w A L.length (L.map (·.2)) := by
  refine ⟨by simp, fun hn => ?_⟩
  obtain ⟨g, cap, hv, _, hg, _⟩ := h.form hn
  injection hv with h1 h2 h3
  subst h1
  subst h2
  refine ⟨g, 0, rfl, hg, fun i hi => ?_⟩
  have hi' : i < L.length := by simpa using hi
  have e : (L.map (·.2))[i] = (L[i]).2 := by simp
  rw [e, Nat.zero_add]
  exact ⟨_, _, h.cell rfl hi', (h.rd _ (List.getElem_mem hi')).2.1⟩
end

/-- What is drawn, then 0, 1, .. -/
def nx (ds : List Int) (p : Int) (k : Nat) : Int := if k < ds.length then red (nth ds k) p else (k : Int) - (ds.length : Int)
theorem nx_lt {ds : List Int} {p : Int} {k : Nat} (h : k < ds.length) : nx ds p k = red (nth ds k) p := if_pos h
theorem nx_ge {ds : List Int} {p : Int} {k : Nat} (h : ds.length ≤ k) : nx ds p k = (k : Int) - (ds.length : Int) := if_neg (by omega)
theorem nx_bd {ds : List Int} {p : Int} {k : Nat} (hp : 2 ≤ p) (hk : (k : Int) < p + (ds.length : Int)) : 0 ≤ nx ds p k ∧ nx ds p k < p := by
  by_cases h : k < ds.length
  · rw [nx_lt h]; exact red_bd _ (by omega)
  · rw [nx_ge (by omega)]; omega
/-- What is drawn for the k-th trial. -/
theorem fnext (D : Option Addr) (nd cd gd gp k : Nat) (ds : List Int) (p : Int) (w : World) (hd : Ints w D nd ds) (hnd : nd ≤ 64) (hgd : w.cell? ⟨gd, 0, none⟩ = some (.slice D nd cd)) (hgp : w.cell? ⟨gp, 0, none⟩ = some (.int .i64 p)) (hp2 : 2 ≤ p) (hpm : p ≤ 65521) (hk : k ≤ 1000000) :
    Calls Tryz.prog 67 #[.int .i64 k, .pointer (some ⟨gd, 0, none⟩), .pointer (some ⟨gp, 0, none⟩)] w fun e w' => e = .returned (.int .i64 (nx ds p k)) ∧ ∃ m, w' = w.drewN m := by
  by_cases hlt : k < nd
  · have hn : Hid (nx ds p k = red (nth ds k) p) := nx_lt (by rw [hd.len]; exact hlt)
    obtain ⟨b, o, rfl, hb, hc⟩ := hd.at_ (by omega)
    have hcx := hc k hlt
    obtain ⟨l1, l2⟩ := hd.ok k
    have hlt' : (k : Int) < (nd : Int) := by omega
    have hk0 : (0 : Int) ≤ (k : Int) := by omega
    have C := Lib.hid (fun W => red_any (nth ds k) p W l1 l2 (by omega) (by omega))
    rw [hn.out]
    clear hc hd hlt l1 l2 hn
    generalize red (nth ds k) p = z at *
    generalize nth ds k = y at *
    go_enter Tryz.func67, Tryz.ntmps67
    go_wp2
    go_quiet ((go_at_call 64; first | exact quiet_add_left ((C.out _).mono fun _ _ h => ⟨h.1, h.2⟩) | exact quiet_left ((C.out _).mono fun _ _ h => ⟨h.1, h.2⟩)))
    go_wp2
    go_ret
    exact ⟨rfl, _, rfl⟩
  · have hn : Hid (nx ds p k = (k : Int) - (nd : Int)) := (nx_ge (by rw [hd.len]; omega)).trans (by rw [hd.len])
    have hlt' : ¬ (k : Int) < (nd : Int) := by omega
    have hkb : (k : Int) ≤ 1000000 := by omega
    have hndb : (nd : Int) ≤ 64 := by omega
    rw [hn.out]
    clear hd hn hlt
    go_enter Tryz.func67, Tryz.ntmps67
    go_wp2
    go_ret
    exact ⟨rfl, 0, rfl⟩

section
variable {A B : Option Addr} {n m c d N M K : Nat} {p : Int} {w : World} {hp : Pr p} {a b : Poly (Zp ⟨p, hp⟩)}
theorem paddR (ha : Rd w A n a) (hb : Rd w B m b) (hn : n ≤ N) (hm : m ≤ M) (hK : N + M ≤ K) (hK2 : K ≤ 900000000) :
    Calls Tryz.prog 97 #[.slice A n c, .slice B m d, .int .i64 p] w (GivesRE w K (a + b) 0) := by
  obtain ⟨xs, hx, rfl⟩ := ha
  obtain ⟨ys, hy, rfl⟩ := hb
  have h1 := add_len (toP ⟨p, hp⟩ xs) (toP ⟨p, hp⟩ ys)
  have h2 : (toP ⟨p, hp⟩ xs).len ≤ n := len_le_toP hx.len
  have h3 : (toP ⟨p, hp⟩ ys).len ≤ m := len_le_toP hy.len
  exact (padd_yes A B n c m d xs ys p w hp hx hy (by omega) (by omega)).mono fun e w' h => GivesRE.of h (by omega)
theorem lit1_rd (hp : Pr p) (w : World) {z : Int} (hz : 0 ≤ z ∧ z ≤ 65521) : Rd (q := ⟨p, hp⟩) (w.alloc (.cells #[.int .i64 z] 3)) (some ⟨w.heap.size, 0, none⟩) 1 (Poly.C (Zp.of ⟨p, hp⟩ z)) :=
  ⟨[z], (Row.new w 3 [z]).ints (fun i => by
    match i with
    | 0 => exact I64.small hz.1 (by show z ≤ _; omega)
    | i + 1 => rw [nth_ge (by simp)]; exact I64.zero), toP_one z⟩
/-- What is tried. -/
theorem ftrialR {v : Poly (Zp ⟨p, hp⟩)} {z : Int} (hv : Rd w A n v) (ha : Rd w B m a) (hn : n ≤ 64) (hm : m ≤ 65) (hz : 0 ≤ z ∧ z < p) (h0 : a ≠ 0) :
    Calls Tryz.prog 68 #[.slice A n c, .int .i64 z, .slice B m d, .int .i64 p] w (GivesR w 66 (Poly.trialM v (Zp.of ⟨p, hp⟩ z) a)) := by
  have hp2 := hp.two
  have hpm := hp.max
  have hal : Below w.heap.size w (w.alloc (.cells #[.int .i64 z] 3)) := (Below.refl _ _).alloc (Nat.le_refl _) _
  have C := Lib.hid (paddR (c := c) (d := 1) (N := 64) (M := 1) (K := 65) (w := w.alloc (.cells #[.int .i64 z] 3)) (Rd.bel hv hal) (lit1_rd hp w (z := z) ⟨hz.1, by omega⟩) hn (by omega) (by omega) (by omega))
  have Ha := Lib.hid (Rd.bel ha hal)
  have H0 := Lib.hid h0
  have hz1 := hz.1
  have hz2 := hz.2
  clear hv ha h0 hz
  by_cases h2 : p = 2
  · have hT : Hid (Poly.trialM v (Zp.of ⟨p, hp⟩ z) a = v + Poly.C (Zp.of ⟨p, hp⟩ z)) := if_pos h2
    have h2' : ¬ (2 : Int) < p := by omega
    clear h2
    go_enter Tryz.func68, Tryz.ntmps68
    go_wp2_with fail
    refine C.out.mono ?_
    rintro e w1 ⟨A1, c1, rfl, l1, h1, hb1⟩
    rw [← hT.out] at h1 l1 ⊢
    go_wp2_with fail
    go_ret
    exact ⟨_, _, rfl, by omega, h1, hal.trans (hb1.mono hal.size)⟩
  · have hT : Hid (Poly.trialM v (Zp.of ⟨p, hp⟩ z) a = powR (v + Poly.C (Zp.of ⟨p, hp⟩ z)) (Poly.half ⟨p, hp⟩) a - 1) := if_neg h2
    have h2' : (2 : Int) < p := by omega
    have hq0 : 0 ≤ (p - 1) / 2 := by omega
    have hq1 : (p - 1) / 2 ≤ 65521 := by omega
    have hhalf : Hid (((p - 1) / 2).toNat = Poly.half ⟨p, hp⟩) := rfl
    clear h2
    go_enter Tryz.func68, Tryz.ntmps68
    go_wp2_with fail
    refine C.out.mono ?_
    rintro e w1 ⟨A1, c1, rfl, l1, h1, hb1⟩
    have H1 := Lib.hid h1
    have Hb1 : Hid (Below w.heap.size w w1) := hal.trans (hb1.mono hal.size)
    have Ha1 := Lib.hid (Rd.bel Ha.out hb1)
    clear h1 hal hb1 Ha
    go_wp2_with fail
    refine (zof_pos _ _ (by omega) (by omega)).mono ?_
    rintro e w2 ⟨Z2, z2, rfl, p2, q2, s2, hb2⟩
    have t2 := limbs_of (x := (p - 1) / 2) (by omega)
    rw [hhalf.out] at t2
    have y2 : ([(p - 1) / 2].take (lmN [(p - 1) / 2] 1)).length ≤ 1 := by rw [List.length_take]; show min _ 1 ≤ 1; omega
    generalize [(p - 1) / 2].take (lmN [(p - 1) / 2] 1) = ls2 at *
    have T2 := Lib.hid t2
    have H12 := Lib.hid (H1.out.bel hb2)
    have Ha2 := Lib.hid (Rd.bel Ha1.out hb2)
    have Hb2 := Lib.hid (below_tr Hb1.out hb2)
    clear t2 hb2 H1 Ha1 Hb1
    go_wp2_with fail
    refine (powmR (N := 65) (M := 65) (hp := hp) (Rd.of H12.out) Ha2.out s2 T2.out l1 hm p2 q2 (by omega) (by omega) (by omega) H0.out).mono ?_
    rintro e w3 ⟨A3, c3, rfl, l3, h3, hb3⟩
    have hal3 : Below w3.heap.size w3 (w3.alloc (.cells #[.int .i64 1] 3)) := (Below.refl _ _).alloc (Nat.le_refl _) _
    have H3 := Lib.hid (h3.bel hal3)
    have H1 : Hid (Rd (q := ⟨p, hp⟩) (w3.alloc (.cells #[.int .i64 1] 3)) (some ⟨w3.heap.size, 0, none⟩) 1 (1 : Poly (Zp ⟨p, hp⟩))) := by
      have := lit1_rd hp w3 (z := 1) ⟨by omega, by omega⟩
      rwa [Zp.of_one, Poly.C_one] at this
    have Hb3 := Lib.hid (below_tr (below_tr Hb2.out hb3) hal3)
    clear h3 hb3 H12 Ha2 Hb2 hal3 s2 T2 y2 p2 q2
    go_wp2_with fail
    refine (subR (N := 65) (M := 1) (K := 66) (hp := hp) (Rd.of H3.out) H1.out l3 (by omega) (by omega) (by omega)).mono ?_
    rintro e w4 ⟨A4, c4, rfl, l4, h4, hb4⟩
    rw [← hT.out] at h4 l4 ⊢
    go_wp2_with fail
    go_ret
    exact ⟨_, _, rfl, l4, h4, below_tr Hb3.out hb4⟩
/-- A quotient and a greatest common divisor, in new blocks. -/
theorem fbyAt (ha : Rd w A n a) (hb : Rd w B m b) (hn : n ≤ N) (hm : m ≤ M) (hK : N ≤ 900000000) (hK2 : M ≤ 900000000) (h0 : b ≠ 0) :
    Calls Tryz.prog 45 #[.slice A n c, .slice B m d, .int .i64 p] w (GivesRat w N (Poly.quo a b)) := by
  have C : Hid (Calls Tryz.prog 65 #[.slice A n c, .slice B m d, .int .i64 p] w (GivesPPE w (Poly.quo a b) (Poly.rem a b) 0)) := by
    obtain ⟨xs, hx, rfl⟩ := ha
    obtain ⟨ys, hy, rfl⟩ := hb
    exact pdiv_yes A B n c m d xs ys p w hp hx hy (by omega) (by omega) h0
  have Hl : Hid ((Poly.quo a b).len ≤ N) := by
    obtain ⟨xs, hx, rfl⟩ := ha
    have h2 : (toP ⟨p, hp⟩ xs).len ≤ n := len_le_toP hx.len
    have h4 := Cl.quo_len' (toP ⟨p, hp⟩ xs) h0
    show _ ≤ _
    omega
  clear ha hb h0
  go_enter Tryz.func45, Tryz.ntmps45
  go_wp2_with fail
  refine C.out.mono ?_
  rintro e w1 ⟨A1, c1, B1, d1, rfl, hn1, hm1⟩
  go_wp2_with fail
  go_ret
  exact ⟨_, _, rfl, Hl.out, hn1.rd, hn1.bel, hn1.fresh⟩
theorem fgcdAt (ha : Rd w A n a) (hb : Rd w B m b) (hn : n ≤ N) (hm : m ≤ N) (hN : N ≤ 900000000) (h0 : b ≠ 0) :
    Calls Tryz.prog 44 #[.slice A n c, .slice B m d, .int .i64 p] w (GivesRat w N (Poly.gcdP a b)) := by
  have C := Lib.hid (gcdAt (c := c) (d := d) ha hb hn hm hN h0)
  clear ha hb h0
  go_enter Tryz.func44, Tryz.ntmps44
  go_wp2_with fail
  refine C.out.mono ?_
  rintro e w1 ⟨A1, c1, rfl, l1, h1, hb1, hf1⟩
  go_wp2_with fail
  go_ret
  exact ⟨_, _, rfl, l1, h1, hb1, hf1⟩
end
end Go.Proofs.YtpikakapflebkaaGreat
