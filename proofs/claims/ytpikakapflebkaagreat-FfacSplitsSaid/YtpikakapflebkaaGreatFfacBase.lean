/- An append onto a row of the call's own: the old row reads as before, wherever the new one lies. No program in sight.
   Contracts: layer 9's small functions: the program's order, monic, square, by, gcd.
   Words on memory: a square of whole numbers of the call's own, row by row. Contracts whose results lie in new blocks.
   Contract: the polynomials that are their own p-th power: the program's. -/
import Derived.Test.YtpikakapflebkaaGreatBase
import Derived.Test.YtpikakapflebkaaGreatSqfA
import Derived.Test.YtpikakapflebkaaGreatPolyTop
import Derived.Test.YtpikakapflebkaaGreatFlinTop
import Derived.Test.YtpikakapflebkaaGreatFacA
import Derived.Test.YtpikakapflebkaaGreatLaw6Base
namespace Cl
open Go

theorem append_keeps {P : Program} (w : World) (t ty : TypeId) (base : Nat) (e : TypeId) (i : TypeInfo) (z : Value) (size bytes : Nat) (ht : P.underlying t = some (.slice e)) (hi : P.info? e = some i) (hz : i.zero = some z)
    (hsize : i.size = size) (hby : i.bytes = bytes) (hzs : z.cells.size = size) (hsz : 0 < size)
    (g0 cap0 n : Nat) (xs : List Value) (hown : w.ownsRow base e size (.slice (some ⟨g0, 0, none⟩) n cap0) n xs)
    (ad : Addr) (m c : Nat) (news : List Value) (hl : news.length = m * size) (hnews : ∀ j u, news[j]? = some u → w.cell? (ad.add j) = some u) (h1 : ∀ u ∈ news, u.oneCell' = true)
    (hm : 0 < m) (h63 : n + m ≤ maxLen) (hbytes : (n + m) * bytes ≤ 140737488355328) (hbase : base ≤ w.heap.size) (H : Nat) (hH : w.heap.size = H) :
    ∃ g cap w', (Builtin.append_ #[t, t] ty #[.slice (some ⟨g0, 0, none⟩) n cap0, .slice (some ad) m c]).run P w = .ok (.slice (some ⟨g, 0, none⟩) (n + m) cap) w' ∧
      w'.ownsRow base e size (.slice (some ⟨g, 0, none⟩) (n + m) cap) (n + m) (xs ++ news) ∧ w.grownBy w' (some g0) ∧ (some g0 = some g ∨ g = H) ∧ g < w'.heap.size ∧ ∀ j u, xs[j]? = some u → w'.cell? ⟨g0, j, none⟩ = some u := by
  obtain ⟨g, cap, w', hr, h2, h3, h4, h5⟩ := run_append_lies (P := P) w t ty base e i z size bytes ht hi hz hsize hby hzs hsz _ n xs hown ad m c news hl hnews h1 hm h63 hbytes hbase H hH
  refine ⟨g, cap, w', hr, h2, h3, h4, h5, fun j u hu => ?_⟩
  have hc := hown.cells (g := g0) rfl j u hu
  rw [Go.WideShapes.add_plain, Nat.zero_add] at hc
  have hmx : (n : Int) + m ≤ 9223372036854775807 := by unfold maxLen at h63; omega
  by_cases hroom : n + m ≤ cap0
  · rcases hown.2 with ⟨hv, _⟩ | ⟨g', cap', cur, hv, hb, hg, hn, hcm, hcs, htk⟩
    · cases hv
    · injection hv with h6 h7 h8
      injection h6 with h6
      injection h6 with h6
      subst h6
      subst h8
      have hr2 := run_append_room (P := P) w t ty e i ht hi g0 n cap0 cur hg ad m c news (by rw [hl, hsize]) hnews h1 hroom (by rw [hl, hsize, hcs, ← Nat.add_mul]; exact Nat.mul_le_mul_right _ hroom)
      rw [hr] at hr2
      injection hr2 with h9 h10
      injection h9 with h9
      injection h9 with h9
      injection h9 with h9
      subst h9
      have hj : (xs ++ news)[j]? = some u := by rw [List.getElem?_append_left (List.getElem?_eq_some_iff.1 hu).1]; exact hu
      have := h2.cells (g := g) rfl j u hj
      rwa [Go.WideShapes.add_plain, Nat.zero_add] at this
  · have hr2 := run_append_grow (P := P) w t ty e i z ht hi hz ⟨g0, 0, none⟩ n cap0 xs (by rw [hown.1, hsize]) (hown.cells (g := g0) rfl) ad m c news (by rw [hl, hsize]) hnews (by omega) (by omega) (growslice_fits (by omega) (by rw [hby]; exact hbytes))
    rw [hr] at hr2
    injection hr2 with h9 h10
    subst h10
    have hlt : g0 < w.heap.size := (hown.lt g0 rfl).2
    rw [World.cell?_alloc_lt _ _ _ (by exact hlt)]
    exact hc

/-- The same at a step of a region that draws its order. -/
theorem step_append_keeps {P : Program} {w : World} {ops : Array Oper} {o : Oper} {a : Act} {K : Act → World → Prop} {Q : Exit → Act → World → Prop} {E : Prop} (hgd : o.guard = none) (s x : Operand) (t : TypeId)
    (ho : o.op = .call { callee := .builtin .append, args := #[s, x], argTypes := #[t, t] })
    (base : Nat) (e : TypeId) (i : TypeInfo) (z : Value) (size bytes : Nat) (ht : P.underlying t = some (.slice e)) (hi : P.info? e = some i) (hz : i.zero = some z)
    (hsize : i.size = size) (hby : i.bytes = bytes) (hzs : z.cells.size = size) (hsz : 0 < size)
    (g0 cap0 n : Nat) (xs : List Value) (hs : a.eval s = .slice (some ⟨g0, 0, none⟩) n cap0) (hown : w.ownsRow base e size (.slice (some ⟨g0, 0, none⟩) n cap0) n xs)
    (ad : Addr) (m c : Nat) (news : List Value) (hx : a.eval x = .slice (some ad) m c) (hl : news.length = m * size) (hnews : ∀ j u, news[j]? = some u → w.cell? (ad.add j) = some u) (h1 : ∀ u ∈ news, u.oneCell' = true)
    (hm : 0 < m) (h63 : n + m ≤ maxLen) (hbytes : (n + m) * bytes ≤ 140737488355328) (hbase : base ≤ w.heap.size) (H : Nat) (hH : w.heap.size = H)
    (h : ∀ g cap w', w'.ownsRow base e size (.slice (some ⟨g, 0, none⟩) (n + m) cap) (n + m) (xs ++ news) → w.grownBy w' (some g0) → (some g0 = some g ∨ g = H) → g < w'.heap.size → (∀ j u, xs[j]? = some u → w'.cell? ⟨g0, j, none⟩ = some u) → K (a.put o.dst (.slice (some ⟨g, 0, none⟩) (n + m) cap)) w') :
    if Region.wanted o (yielded ops a.tmps) = true then Oper.wp P o a w K Q else E := by
  have hw : Region.wanted o (yielded ops a.tmps) = true := by simp [Region.wanted, hgd]
  rw [if_pos hw]
  obtain ⟨g, cap, w', hr, h2, h3, h4, h5, h6⟩ := append_keeps (P := P) w t o.type base e i z size bytes ht hi hz hsize hby hzs hsz g0 cap0 n xs hown ad m c news hl hnews h1 hm h63 hbytes hbase H hH
  unfold Oper.wp execOp
  simp only [ho, resolve, invoke, builtin, Sem.run_bind, Sem.run_pure, Result.andThen_ok, List.map_toArray, List.map_cons, List.map_nil, hs, hx, hr]
  exact h g cap w' h2 h3 h4 h5 h6
end Cl

namespace Go.Proofs.YtpikakapflebkaaGreat
open Go.RowKit Cl
attribute [local go_sem ↓] Go.wp_at_zero Go.wp_at_succ

set_option maxHeartbeats 1000000 in
theorem fcmp_any (A B : Option Addr) (n m c d : Nat) (xs ys : List Int) (w : World) (hx : Ints w A n xs) (hy : Ints w B m ys) (hn : n ≤ 9223372036854775807) (hm : m ≤ 9223372036854775807) :
    Calls Tryz.prog 31 #[.slice A n c, .slice B m d] w fun e w' => e = .returned (.int .i64 (cmpI xs ys)) ∧ ∃ k, w' = w.drewN k := by
  by_cases hne : n = m
  · subst hne
    have h1 : ((n : Int) != (n : Int)) = false := by simp
    have hc : Hid (cmpI xs ys = cmpTo xs ys n) := by show _ = _; rw [cmpI_to (by rw [hx.len, hy.len]), hx.len]
    have Hx := Lib.hid hx
    have Hy := Lib.hid hy
    clear hx hy
    go_enter Tryz.func31, Tryz.ntmps31
    go_wp2
    go_loopw [5] (fun i wr => ∃ j k : Nat, j ≤ n ∧ i = .int .i64 ((j : Int) - 1) ∧ Hid (cmpI xs ys = cmpTo xs ys j) ∧ wr = w.drewN k) (fun i _ => (intOf i + 1).toNat)
    case atStart => exact ⟨n, 0, Nat.le_refl _, rfl, hc, rfl⟩
    case round =>
      obtain ⟨j, k, hj, rfl, hcj, rfl⟩ := hrel
      cases j with
      | zero =>
        have e0 : (((0 : Nat) : Int) - 1) = -1 := rfl
        rw [e0]
        go_wp2
        go_ret
        exact ⟨ret_int hcj.out.symm, _, rfl⟩
      | succ j =>
        have e0 : (((j + 1 : Nat) : Int) - 1) = (j : Int) := by omega
        rw [e0]
        obtain ⟨b, o, rfl, hb, hcx⟩ := Hx.out.at_ (by omega)
        obtain ⟨b', o', rfl, hb', hcy⟩ := Hy.out.at_ (by omega)
        have hx1 := hcx j (by omega)
        have hy1 := hcy j (by omega)
        have hj0 : (0 : Int) ≤ (j : Int) := by omega
        have hj1 : (j : Int) < (n : Int) := by omega
        clear hcx hcy e0
        rcases Int.lt_trichotomy (nth xs j) (nth ys j) with h | h | h
        · have hf := hcj.out.trans (cmpTo_lt h)
          have Hf := Lib.hid hf
          clear hf hcj
          go_wp2
          go_quiet (fail)
          go_wp2
          go_ret
          exact ⟨ret_int Hf.out.symm, _, by first | rfl | exact World.drewN_drewN _ _ _⟩
        · have hf : Hid (cmpI xs ys = cmpTo xs ys j) := hcj.out.trans (cmpTo_eq h)
          have h2 : ¬ nth xs j < nth ys j := by omega
          have h3 : ¬ nth ys j < nth xs j := by omega
          clear h hcj
          go_wp2
          go_quiet (fail)
          go_wp2
          go_quiet (fail)
          go_wp2
          go_roundw
          case rel => exact ⟨j, _, by omega, rfl, hf, by first | rfl | exact World.drewN_drewN _ _ _ | (rw [World.drewN_drewN, World.drewN_drewN])⟩
          case measure => simp [intOf]
        · have hf := hcj.out.trans (cmpTo_gt h)
          have Hf := Lib.hid hf
          have h2 : ¬ nth xs j < nth ys j := by omega
          clear hf hcj
          go_wp2
          go_quiet (fail)
          go_wp2
          go_quiet (fail)
          go_wp2
          go_ret
          exact ⟨ret_int Hf.out.symm, _, by first | rfl | exact World.drewN_drewN _ _ _ | (rw [World.drewN_drewN, World.drewN_drewN])⟩
  · have h1 : ((n : Int) != (m : Int)) = true := by simp; omega
    have hc : Hid (cmpI xs ys = (n : Int) - (m : Int)) := by show _ = _; rw [cmpI_len (by rw [hx.len, hy.len]; exact hne), hx.len, hy.len]
    rw [hc.out]
    clear hx hy hne
    go_enter Tryz.func31, Tryz.ntmps31
    go_wp2
    go_ret
    exact ⟨rfl, 0, rfl⟩
theorem fless_any (A B : Option Addr) (n m c d : Nat) (xs ys : List Int) (w : World) (hx : Ints w A n xs) (hy : Ints w B m ys) (hn : n ≤ 9223372036854775807) (hm : m ≤ 9223372036854775807) :
    Calls Tryz.prog 17 #[.slice A n c, .slice B m d] w fun e w' => e = .returned (.bool (lessI xs ys)) ∧ ∃ k, w' = w.drewN k := by
  have C := Lib.hid (fcmp_any A B n m c d xs ys w hx hy hn hm)
  have hl : Hid (lessI xs ys = decide (cmpI xs ys < 0)) := rfl
  rw [hl.out]
  clear hx hy
  generalize cmpI xs ys = z at *
  go_enter Tryz.func17, Tryz.ntmps17
  go_wp2_with fail
  refine C.out.mono ?_
  rintro e w' ⟨rfl, k, rfl⟩
  go_wp2_with fail
  go_ret
  exact ⟨rfl, k, rfl⟩

theorem fmonic_no (A : Option Addr) (n c : Nat) (p : Int) (w : World) (h3 : -9223372036854775808 ≤ p) (h4 : p ≤ 9223372036854775807) (hp : isPrime p = false) :
    Calls Tryz.prog 27 #[.slice A n c, .int .i64 p] w fun e w' => e = .returned (.tuple #[.slice none 0 0, .int .i64 1]) ∧ w = w' := by
  go_enter Tryz.func27, Tryz.ntmps27
  go_wp2_with fail
  refine (pmonic_no _ _ _ _ _ h3 h4 hp).mono ?_
  rintro e w' ⟨rfl, rfl⟩
  go_wp2_with fail
  go_ret2
  exact ⟨rfl, rfl⟩
section
variable {A B : Option Addr} {n m c d N M K : Nat} {p : Int} {w : World} {hp : Pr p} {a b : Poly (Zp ⟨p, hp⟩)}
/-- Monic, whatever the length of the slice. -/
theorem pmonicBig (ha : Rd w A n a) (hn : n * 8 ≤ 140737488355328) : Calls Tryz.prog 53 #[.slice A n c, .int .i64 p] w (GivesRE w n a.monic 0) := by
  obtain ⟨xs, hx, rfl⟩ := ha
  have h1 := monic_len_le (toP ⟨p, hp⟩ xs)
  have h2 : (toP ⟨p, hp⟩ xs).len ≤ n := len_le_toP hx.len
  exact (pmonic_yes A n c xs p w hp hx (by omega)).mono fun e w' h => GivesRE.of h (by omega)
theorem fmonicR (ha : Rd w A n a) (hn : n * 8 ≤ 140737488355328) (h0 : a ≠ 0) (hl : a.len ≤ 65) :
    Calls Tryz.prog 27 #[.slice A n c, .int .i64 p] w (GivesRE w 65 a.monic 0) := by
  have C := Lib.hid (pmonicBig (c := c) ha hn)
  have hml := Poly.monic_len h0
  have g0 : ((a.monic.len : Int) == 0) = false := beq_eq_false_iff_ne.2 (by have := Poly.len_pos h0; omega)
  have g1 : ¬ (65 : Int) < (a.monic.len : Int) := by omega
  have Hl : Hid (a.monic.len ≤ 65) := by show _ ≤ _; omega
  clear ha h0 hml hl
  go_enter Tryz.func27, Tryz.ntmps27
  go_wp2_with fail
  refine C.out.mono ?_
  rintro e w1 ⟨A1, c1, rfl, l1, h1, hb1⟩
  go_wp2_with fail
  go_ret2
  exact ⟨_, _, rfl, Hl.out, h1, hb1⟩
theorem fmonic0R (ha : Rd w A n a) (hn : n * 8 ≤ 140737488355328) (h0 : a = 0) :
    Calls Tryz.prog 27 #[.slice A n c, .int .i64 p] w fun e w' => e = .returned (.tuple #[.slice none 0 0, .int .i64 8]) ∧ Below w.heap.size w w' := by
  have C := Lib.hid (pmonicBig (c := c) ha hn)
  have g0 : ((a.monic.len : Int) == 0) = true := by rw [h0, Poly.monic_zero, Poly.len_zero]; rfl
  clear ha h0
  go_enter Tryz.func27, Tryz.ntmps27
  go_wp2_with fail
  refine C.out.mono ?_
  rintro e w1 ⟨A1, c1, rfl, l1, h1, hb1⟩
  go_wp2_with fail
  go_ret2
  exact ⟨rfl, hb1⟩
theorem fmonicL (ha : Rd w A n a) (hn : n * 8 ≤ 140737488355328) (hl : 65 < a.len) :
    Calls Tryz.prog 27 #[.slice A n c, .int .i64 p] w fun e w' => e = .returned (.tuple #[.slice none 0 0, .int .i64 6]) ∧ Below w.heap.size w w' := by
  have C := Lib.hid (pmonicBig (c := c) ha hn)
  have h0 : a ≠ 0 := fun e => by rw [e, Poly.len_zero] at hl; omega
  have hml := Poly.monic_len h0
  have g0 : ((a.monic.len : Int) == 0) = false := beq_eq_false_iff_ne.2 (by omega)
  have g1 : (65 : Int) < (a.monic.len : Int) := by omega
  clear ha h0 hml hl
  go_enter Tryz.func27, Tryz.ntmps27
  go_wp2_with fail
  refine C.out.mono ?_
  rintro e w1 ⟨A1, c1, rfl, l1, h1, hb1⟩
  go_wp2_with fail
  go_ret2
  exact ⟨rfl, hb1⟩
theorem fbyR (ha : Rd w A n a) (hb : Rd w B m b) (hn : n ≤ N) (hm : m ≤ M) (hK : N ≤ 900000000) (hK2 : M ≤ 900000000) (h0 : b ≠ 0) :
    Calls Tryz.prog 45 #[.slice A n c, .slice B m d, .int .i64 p] w (GivesR w N (Poly.quo a b)) := by
  have C := Lib.hid (divR (c := c) (d := d) ha hb hn hm hK hK2 h0)
  clear ha hb h0
  go_enter Tryz.func45, Tryz.ntmps45
  go_wp2_with fail
  refine C.out.mono ?_
  rintro e w1 ⟨A1, c1, B1, d1, rfl, l1, m1, h1, k1, hb1⟩
  go_wp2_with fail
  go_ret
  exact ⟨_, _, rfl, l1, h1, hb1⟩
theorem fgcdR (ha : Rd w A n a) (hb : Rd w B m b) (hn : n ≤ N) (hm : m ≤ N) (hN : N ≤ 900000000) :
    Calls Tryz.prog 44 #[.slice A n c, .slice B m d, .int .i64 p] w (GivesR w N (Poly.gcdP a b)) := by
  have C := Lib.hid (gcdR (c := c) (d := d) ha hb hn hm hN)
  clear ha hb
  go_enter Tryz.func44, Tryz.ntmps44
  go_wp2_with fail
  refine C.out.mono ?_
  rintro e w1 ⟨A1, c1, rfl, l1, h1, hb1⟩
  go_wp2_with fail
  go_ret
  exact ⟨_, _, rfl, l1, h1, hb1⟩
/-- A squarefree one by its last coefficient. -/
theorem fsquareR (ha : Rd w A n a) (hn : n * 8 ≤ 140737488355328) (h0 : a ≠ 0) (hl : a.len ≤ 65) (hs : sqB a = true) :
    Calls Tryz.prog 38 #[.slice A n c, .int .i64 p] w (GivesRE w 65 a.monic 0) := by
  have C := Lib.hid (fmonicR (c := c) ha hn h0 hl)
  have Hs : Hid (sqB a.monic = true) := by
    show _ = _
    rw [← hs]; unfold sqB
    rw [(Poly.monic_mon h0).monic_eq]
  have H0 : Hid (a.monic ≠ 0) := (Poly.monic_mon h0).ne
  clear ha h0 hl hs
  go_enter Tryz.func38, Tryz.ntmps38
  go_wp2_with fail
  refine C.out.mono ?_
  rintro e w1 ⟨A1, c1, rfl, l1, h1, hb1⟩
  have H1 := Lib.hid h1
  clear h1
  go_wp2_with fail
  refine (sisR (N := 65) (hp := hp) (Rd.of H1.out) l1 (by omega) H0.out).mono ?_
  rintro e w2 ⟨rfl, hb2⟩
  rw [Hs.out]
  go_wp2_with fail
  go_ret2
  exact ⟨_, _, rfl, l1, H1.out.bel hb2, below_tr hb1 hb2⟩
theorem fsquareN (ha : Rd w A n a) (hn : n * 8 ≤ 140737488355328) (h0 : a ≠ 0) (hl : a.len ≤ 65) (hs : sqB a = false) :
    Calls Tryz.prog 38 #[.slice A n c, .int .i64 p] w fun e w' => e = .returned (.tuple #[.slice none 0 0, .int .i64 1]) ∧ Below w.heap.size w w' := by
  have C := Lib.hid (fmonicR (c := c) ha hn h0 hl)
  have Hs : Hid (sqB a.monic = false) := by
    show _ = _
    rw [← hs]; unfold sqB
    rw [(Poly.monic_mon h0).monic_eq]
  have H0 : Hid (a.monic ≠ 0) := (Poly.monic_mon h0).ne
  clear ha h0 hl hs
  go_enter Tryz.func38, Tryz.ntmps38
  go_wp2_with fail
  refine C.out.mono ?_
  rintro e w1 ⟨A1, c1, rfl, l1, h1, hb1⟩
  have H1 := Lib.hid h1
  clear h1
  go_wp2_with fail
  refine (sisR (N := 65) (hp := hp) (Rd.of H1.out) l1 (by omega) H0.out).mono ?_
  rintro e w2 ⟨rfl, hb2⟩
  rw [Hs.out]
  go_wp2_with fail
  go_ret2
  exact ⟨rfl, below_tr hb1 hb2⟩
/-- What monic tells is wrong, square tells. -/
theorem fsquareE {err : Int} (C : Calls Tryz.prog 27 #[.slice A n c, .int .i64 p] w fun e w' => e = .returned (.tuple #[.slice none 0 0, .int .i64 err]) ∧ Below w.heap.size w w') (he : (err != 0) = true) :
    Calls Tryz.prog 38 #[.slice A n c, .int .i64 p] w fun e w' => e = .returned (.tuple #[.slice none 0 0, .int .i64 err]) ∧ Below w.heap.size w w' := by
  have C' := Lib.hid C
  clear C
  go_enter Tryz.func38, Tryz.ntmps38
  go_wp2_with fail
  refine C'.out.mono ?_
  rintro e w1 ⟨rfl, hb1⟩
  go_wp2_with fail
  go_ret2
  exact ⟨rfl, hb1⟩
end
end Go.Proofs.YtpikakapflebkaaGreat

namespace Go.Proofs.YtpikakapflebkaaGreat
open Go.RowKit Cl
attribute [local go_sem ↓] Go.wp_at_zero Go.wp_at_succ

/-- make([][]int, n). -/
theorem make_rows (n : Nat) (hn : n ≤ 1000000) (w : World) :
    (Instr.makeSlice 44 (.int .i64 (n : Int)) (.int .i64 (n : Int))).run Tryz.prog w = .ok (.slice (some ⟨w.heap.size, 0, none⟩) n n) (w.alloc (.cells (List.replicate n (Value.slice none 0 0)).toArray 22)) := by
  obtain ⟨i0, hi, hz, hs, hb⟩ := info_parts rows_info
  have hr := run_make (P := Tryz.prog) w 44 22 i0 (.slice none 0 0) Tryz.underlying44 hi hz .i64 .i64 n n (by omega) (by omega) (by rw [hb]; omega) (by omega)
  have e1 : madeCells (Value.slice none 0 0).cells (n * 1) = (List.replicate n (Value.slice none 0 0)).toArray := by
    apply Array.toList_inj.1
    show (madeCells #[Value.slice none 0 0] (n * 1)).toList = _
    rw [toList_madeCells_one, Nat.mul_one]
  simp only [Int.toNat_natCast, hs] at hr
  rw [hr, e1]

/-- The headers of a square's rows: the first k are made. -/
def hpart (g n k : Nat) : List Value := (List.range n).map fun i => if i < k then .slice (some ⟨g + 1 + i, 0, none⟩) n n else .slice none 0 0
theorem hpart_length (g n k : Nat) : (hpart g n k).length = n := by simp [hpart]
theorem hpart_get {g n k i : Nat} (h : i < n) : (hpart g n k)[i]? = some (if i < k then .slice (some ⟨g + 1 + i, 0, none⟩) n n else .slice none 0 0) := by simp [hpart, h]
theorem hpart_zero (g n : Nat) : hpart g n 0 = List.replicate n (.slice none 0 0) := by
  refine List.ext_getElem (by simp [hpart]) fun i h1 h2 => ?_
  simp [hpart]
theorem hpart_set {g n k : Nat} (hk : k < n) : (hpart g n k).set k (.slice (some ⟨g + 1 + k, 0, none⟩) n n) = hpart g n (k + 1) := by
  refine List.ext_getElem (by simp [hpart]) fun i h1 h2 => ?_
  rw [List.getElem_set]
  by_cases e : k = i
  · subst e; simp [hpart]
  · rw [if_neg e]
    simp only [hpart, List.getElem_map, List.getElem_range]
    by_cases h : i < k
    · rw [if_pos h, if_pos (by omega)]
    · rw [if_neg h, if_neg (by omega)]
structure Sq (w : World) (g n k : Nat) (R : Nat → List Int) : Prop where
  hd : w.heap[g]? = some (.cells (hpart g n k).toArray 22 (0, 0))
  row : ∀ i, i < k → Row w (g + 1 + i) 3 (R i)
  len : ∀ i, i < k → (R i).length = n
section
variable {w w' : World} {g n k : Nat} {R : Nat → List Int}
theorem Sq.lt (h : Sq w g n k R) : g < w.heap.size := (Array.getElem?_eq_some_iff.1 h.hd).1
theorem Sq.bel (h : Sq w g n k R) (hb : Below w.heap.size w w') : Sq w' g n k R :=
  ⟨(hb.block g h.lt).trans h.hd, fun i hi => (h.row i hi).bel hb, h.len⟩
theorem Sq.cell (h : Sq w g n k R) {i : Nat} (hi : i < n) : w.cell? ⟨g, i, none⟩ = some (if i < k then .slice (some ⟨g + 1 + i, 0, none⟩) n n else .slice none 0 0) := by
  rw [cell_of_row w g i _ 22 (0, 0) h.hd]
  have := hpart_get (g := g) (k := k) hi
  simpa using this
theorem Sq.frozen (h : Sq w g n k R) (i : Nat) : w.frozen? ⟨g, i, none⟩ = false := by have := h.hd; simp [World.frozen?, this]
theorem Sq.start (w : World) (n : Nat) (R : Nat → List Int) : Sq (w.alloc (.cells (List.replicate n (Value.slice none 0 0)).toArray 22)) w.heap.size n 0 R :=
  ⟨by rw [hpart_zero]; exact heap_alloc_new w _, fun i hi => absurd hi (by omega), fun i hi => absurd hi (by omega)⟩
theorem Sq.push (h : Sq w g n k (fun _ => List.replicate n 0)) (hk : k < n) (hs : w.heap.size = g + 1 + k) :
    Sq ((w.setCell ⟨g, k, none⟩ (.slice (some ⟨g + 1 + k, 0, none⟩) n n)).alloc (.cells (ints (List.replicate n 0)).toArray 3)) g n (k + 1) (fun _ => List.replicate n 0) := by
  have hl := h.lt
  have hz : (w.setCell ⟨g, k, none⟩ (.slice (some ⟨g + 1 + k, 0, none⟩) n n)).heap.size = g + 1 + k := by rw [← hs]; simp
  refine ⟨(Below.heap_alloc _ _ g (by omega)).trans ?_, fun i hi => ?_, fun i _ => by simp⟩
  · have h1 := h.hd
    simp [World.setCell, Array.getElem?_modify, h1, ← hpart_set hk]
  · by_cases e : i = k
    · subst e
      have h1 := Row.new (w.setCell ⟨g, i, none⟩ (.slice (some ⟨g + 1 + i, 0, none⟩) n n)) 3 (List.replicate n 0)
      rw [hz] at h1
      exact h1
    · exact ((h.row i (by omega)).far (by show g + 1 + i ≠ g; omega) _).alloc _
theorem Sq.set (h : Sq w g n k R) {i : Nat} (hi : i < k) (j : Nat) (v : Int) : Sq (w.setCell ⟨g + 1 + i, j, none⟩ (.int .i64 v)) g n k (fun t => if t = i then (R i).set j v else R t) := by
  refine ⟨(Below.heap_setCell w _ _ g (by show g ≠ g + 1 + i; omega)).trans h.hd, fun t ht => ?_, fun t ht => ?_⟩
  · show Row _ _ _ (if t = i then _ else _)
    by_cases e : t = i
    · subst e; rw [if_pos rfl]; exact (h.row t ht).set j v
    · rw [if_neg e]; exact (h.row t ht).far (by show g + 1 + t ≠ g + 1 + i; omega) _
  · show List.length (if t = i then (R i).set j (v : Int) else R t) = n
    split
    · rw [List.length_set]; exact h.len i hi
    · exact h.len t ht
theorem Sq.congr {R' : Nat → List Int} (h : Sq w g n k R) (hr : ∀ i, i < k → R i = R' i) : Sq w g n k R' :=
  ⟨h.hd, fun i hi => hr i hi ▸ h.row i hi, fun i hi => hr i hi ▸ h.len i hi⟩
theorem Sq.mat (h : Sq w g n n R) (hn : n ≤ 9223372036854775807) (hv : ∀ i, i < n → ∀ j, I64 (nth (R i) j)) : Mat w (some ⟨g, 0, none⟩) n (rowsTab n R) :=
  ⟨rowsTab_length _ _, hn, fun _ => ⟨g, 0, rfl, h.lt, fun i hi => ⟨some ⟨g + 1 + i, 0, none⟩, n, by
    rw [Nat.zero_add, h.cell hi, if_pos hi, rAt_rowsTab, if_pos hi, h.len i hi], by
    rw [rAt_rowsTab, if_pos hi]; exact (h.row i hi).ints (hv i hi)⟩⟩⟩
end

section
variable {A B C : Option Addr} {n m c d k e N M K T : Nat} {p : Int} {w : World} {hp : Pr p} {a b f : Poly (Zp ⟨p, hp⟩)} {ls : List Int}
/-- A power by a polynomial, in a new block. -/
theorem powmAt (ha : Rd w A n a) (hf : Rd w C m f) (hl : Limbs w B k ls) (hT : limbs ls = T) (hn : n ≤ N) (hm : m ≤ M) (hk : k ≤ d) (hd : d ≤ 9223372036854775807) (hk2 : k ≤ 900000000) (hN : N ≤ 900000000) (hM : M ≤ 900000000) (h0 : f ≠ 0) :
    Calls Tryz.prog 41 #[.slice A n c, .agg #[.bool false, .slice B k d], .slice C m e, .int .i64 p] w fun en w' => ∃ A1 c1, en = .returned (.tuple #[.slice A1 (powR a T f).len c1, .int .i64 0]) ∧ (powR a T f).len ≤ M ∧ Ints w' A1 (powR a T f).len (fromP (powR a T f)) ∧ Below w.heap.size w w' ∧ ∀ x, A1 = some x → w.heap.size ≤ x.block := by
  obtain ⟨xs, hx, rfl⟩ := ha
  obtain ⟨ys, hy, rfl⟩ := hf
  subst hT
  have h1 := Cl.rem_len' (toP ⟨p, hp⟩ xs ^ limbs ls) h0
  have h3 : (toP ⟨p, hp⟩ ys).len ≤ m := len_le_toP hy.len
  have hs : ¬ signN false (lmN ls k) < 0 := by
    cases lmN ls k with
    | zero => exact fun h => absurd h (by decide)
    | succ t => exact fun h => absurd (show (1 : Int) < 0 from h) (by decide)
  refine (ppow_yes A B C n c k d m e false xs ls ys p w hp hx hl hy (by omega) (by omega) hk2 hk hd hs h0).mono ?_
  rintro en w' ⟨A1, c1, he, hn1⟩
  exact ⟨A1, c1, he, by show (Poly.rem _ _).len ≤ _; omega, hn1.rd, hn1.bel, hn1.blk⟩
/-- A quotient and a rest, in new blocks. -/
theorem divAt (ha : Rd w A n a) (hb : Rd w B m b) (hn : n ≤ N) (hm : m ≤ M) (hK : N ≤ 900000000) (hK2 : M ≤ 900000000) (h0 : b ≠ 0) :
    Calls Tryz.prog 65 #[.slice A n c, .slice B m d, .int .i64 p] w fun en w' => ∃ A1 c1 B1 d1, en = .returned (.tuple #[.slice A1 (Poly.quo a b).len c1, .slice B1 (Poly.rem a b).len d1, .int .i64 0]) ∧ (Poly.rem a b).len < b.len ∧ Ints w' B1 (Poly.rem a b).len (fromP (Poly.rem a b)) ∧ Below w.heap.size w w' ∧ ∀ x, B1 = some x → w.heap.size ≤ x.block := by
  obtain ⟨xs, hx, rfl⟩ := ha
  obtain ⟨ys, hy, rfl⟩ := hb
  have h1 := Cl.rem_len' (toP ⟨p, hp⟩ xs) h0
  refine (pdiv_yes A B n c m d xs ys p w hp hx hy (by omega) (by omega) h0).mono ?_
  rintro en w' ⟨A1, c1, B1, d1, he, hn1, hm1⟩
  exact ⟨A1, c1, B1, d1, he, h1, hm1.rd, hm1.bel, hm1.blk⟩
end
theorem toP_X (q : Prm) : toP q [0, 1] = Poly.X (Zp q) := Poly.ext fun i => by
  rw [co_toP]
  match i with
  | 0 => rfl
  | 1 => rfl
  | i + 2 => rw [nth_ge (by simp)]; show _ = (if i + 2 = 1 then (1 : Zp q) else 0); rw [if_neg (by omega)]; rfl
theorem x_ints (w : World) : Ints (w.alloc (.cells #[.int .i64 0, .int .i64 1] 3)) (some ⟨w.heap.size, 0, none⟩) 2 [0, 1] :=
  (Row.new w 3 [0, 1]).ints (fun i => by
    match i with
    | 0 => exact I64.small (by decide) (by decide)
    | 1 => exact I64.small (by decide) (by decide)
    | i + 2 => rw [nth_ge (by simp)]; exact I64.zero)
theorem one_intsL {p : Int} (hp : Pr p) (w : World) : Ints (w.alloc (.cells #[.int .i64 1] 3)) (some ⟨w.heap.size, 0, none⟩) 1 (fromP (1 : Poly (Zp ⟨p, hp⟩))) := by
  rw [fromP_one hp]
  exact (Row.new w 3 [1]).ints (fun i => by
    match i with
    | 0 => exact I64.small (by decide) (by decide)
    | i + 1 => rw [nth_ge (by simp)]; exact I64.zero)

/-- The matrix on its way: the first c columns are done, of the next one the first kk rows are laid. -/
noncomputable def midR {q : Prm} (H : Nat → Poly (Zp q)) (n c kk : Nat) (k : Nat) : List Int :=
  tab n (fun j => if j < c then nth (fromP (H j)) k - (if k = j then 1 else 0) else if j = c ∧ k < kk then nth (fromP (H c)) k else 0)
section
variable {q : Prm} {H : Nat → Poly (Zp q)} {n c kk k : Nat}
theorem midR_start (H : Nat → Poly (Zp q)) (n k : Nat) : List.replicate n 0 = midR H n 0 0 k := by
  refine list_ext (by unfold midR; rw [tab_length, List.length_replicate]) fun i hi => ?_
  rw [List.length_replicate] at hi
  unfold midR
  rw [nth_tab, if_pos hi, if_neg (by omega), if_neg (by omega), nth_lt (by simpa using hi)]; simp
theorem midR_same (h : k ≠ kk) : midR H n c kk k = midR H n c (kk + 1) k := tab_congr fun j _ => by
  by_cases h1 : j < c
  · rw [if_pos h1, if_pos h1]
  · rw [if_neg h1, if_neg h1]
    by_cases h2 : j = c ∧ k < kk
    · rw [if_pos h2, if_pos ⟨h2.1, by omega⟩]
    · rw [if_neg h2, if_neg (fun h3 => h2 ⟨h3.1, by omega⟩)]
theorem midR_put (hc : c < n) : (midR H n c kk kk).set c (nth (fromP (H c)) kk) = midR H n c (kk + 1) kk := by
  unfold midR
  rw [tab_set hc]
  refine tab_congr fun j _ => ?_
  by_cases e : j = c
  · subst e
    rw [if_pos rfl, if_neg (by omega), if_pos ⟨rfl, by omega⟩]
  · rw [if_neg e]
    by_cases h1 : j < c
    · rw [if_pos h1, if_pos h1]
    · rw [if_neg h1, if_neg h1, if_neg (fun h => e h.1), if_neg (fun h => e h.1)]
theorem midR_at (hc : c < n) : nth (midR H n c (H c).len c) c = nth (fromP (H c)) c := by
  unfold midR
  rw [nth_tab, if_pos hc, if_neg (by omega)]
  by_cases h : c < (H c).len
  · rw [if_pos ⟨rfl, h⟩]
  · rw [if_neg (fun h' => h h'.2), nth_ge (by rw [fromP_length]; omega)]
theorem midR_next (hk : k ≠ c) : midR H n c (H c).len k = midR H n (c + 1) 0 k := tab_congr fun j _ => by
  rcases Nat.lt_trichotomy j c with h | h | h
  · rw [if_pos h, if_pos (show j < c + 1 by omega)]
  · subst h
    rw [if_neg (by omega), if_pos (show j < j + 1 by omega), if_neg hk, Int.sub_zero]
    by_cases h : k < (H j).len
    · rw [if_pos ⟨rfl, h⟩]
    · rw [if_neg (fun h' => h h'.2), nth_ge (by rw [fromP_length]; omega)]
  · rw [if_neg (by omega), if_neg (by omega), if_neg (by omega), if_neg (by omega)]
theorem midR_less (hc : c < n) : (midR H n c (H c).len c).set c (nth (fromP (H c)) c - 1) = midR H n (c + 1) 0 c := by
  unfold midR
  rw [tab_set hc]
  refine tab_congr fun j _ => ?_
  rcases Nat.lt_trichotomy j c with h | h | h
  · rw [if_neg (by omega), if_pos h, if_pos (show j < c + 1 by omega)]
  · subst h
    rw [if_pos rfl, if_pos (show j < j + 1 by omega), if_pos rfl]
  · rw [if_neg (by omega), if_neg (by omega), if_neg (by omega), if_neg (by omega), if_neg (by omega)]
theorem midR_bd (H : Nat → Poly (Zp q)) (n c kk k j : Nat) : I64 (nth (midR H n c kk k) j) := by
  have hm := q.pr.max
  unfold midR
  rw [nth_tab]
  split
  · split
    · have := fromP_lt (H j) k
      unfold I64
      split <;> omega
    · split
      · have := fromP_lt (H c) k
        unfold I64; omega
      · exact I64.zero
  · exact I64.zero
theorem midR_length (H : Nat → Poly (Zp q)) (n c kk k : Nat) : (midR H n c kk k).length = n := tab_length _ _
end
end Go.Proofs.YtpikakapflebkaaGreat

namespace Go.Proofs.YtpikakapflebkaaGreat
open Go.RowKit Cl
attribute [local go_sem ↓] Go.wp_at_zero Go.wp_at_succ

/-- A call that hands back a basis of what is its own p-th power by m. -/
def GivesBas {q : Prm} (w : World) (m : Poly (Zp q)) (n : Nat) (e : Ending) (w' : World) : Prop :=
  ∃ A d c rows, e = .returned (.slice A d c) ∧ Mat w' A d rows ∧ (∃ col, Poly.Bas m n d (fun c => toP q (rAt rows c)) col) ∧ (∀ i, (rAt rows i).length ≤ 64) ∧ d ≤ 64 ∧ Below w.heap.size w w' ∧ d ≤ c ∧ c ≤ 9223372036854775807
theorem bas_of {q : Prm} {m : Poly (Zp q)} {n : Nat} {H : Nat → Poly (Zp q)} (hm : m.Mon) (hl : m.len = n + 1) (hn : 0 < n) (hH : ∀ c, H c = Poly.rem (((Poly.X (Zp q)) ^ q.p.toNat) ^ c) m)
    {out : List (List Int)} (h : IsNull (rowsTab n (midR H n n 0)) n q.p out) : ∃ col, Poly.Bas m n out.length (fun c => toP q (rAt out c)) col := by
  obtain ⟨e, ⟨O, K, hr, rfl⟩, rfl⟩ := h
  rw [rAt_rowsTab, if_pos hn, midR_length, rowsTab_length] at hr
  refine bas_of_null (rows := rowsTab n (midR H n n 0)) hm hl hn hr fun k c hk hc => ?_
  rw [rAt_rowsTab, if_pos hk]
  unfold midR
  rw [nth_tab, if_pos hc, if_pos hc, Zp.of_sub, nth_fromP, Zp.of_val, hH]
  split <;> rfl
set_option maxRecDepth 100000 in
set_option maxHeartbeats 8000000 in
theorem ffixed (A : Option Addr) (n cA : Nat) (p : Int) (hp : Pr p) (a : Poly (Zp ⟨p, hp⟩)) (w : World) (hx : Ints w A (n + 1) (fromP a)) (ha : a.Mon) (hl : a.len = n + 1) (hn : 1 ≤ n) (hn2 : n ≤ 64) :
    Calls Tryz.prog 37 #[.slice A (n + 1) cA, .int .i64 p] w (GivesBas w a n) := by
  have hp2 := hp.two
  have hpm := hp.max
  have hprm := (isPrime_iff p).2 hp
  have Hprm := Lib.hid hprm
  have hmk := make_rows n (by omega)
  have hmi := make_ints n (by omega)
  have Hx := Lib.hid hx
  obtain ⟨x, hxe⟩ : ∃ x : Poly (Zp ⟨p, hp⟩), x = powR (toP ⟨p, hp⟩ [0, 1]) p.toNat a := ⟨_, rfl⟩
  have Hxe := Lib.hid hxe
  obtain ⟨H, hH⟩ : ∃ H : Nat → Poly (Zp ⟨p, hp⟩), H = fun c => Poly.rem (((Poly.X (Zp ⟨p, hp⟩)) ^ p.toNat) ^ c) a := ⟨_, rfl⟩
  have hH0 : Hid (H 0 = 1) := by show _ = _; rw [hH]; show Poly.rem (_ ^ 0) a = 1; rw [CRing.pow_zero, (Poly.rem_of_lt (by rw [Poly.len_one]; omega)).1]
  have hHs : Hid (∀ c, Poly.rem (H c * x) a = H (c + 1)) := fun c => by
    rw [hH, hxe, toP_X]
    show Poly.rem (Poly.rem (_ ^ c) a * powR _ _ a) a = Poly.rem (_ ^ (c + 1)) a
    refine Poly.rem_eq_of_eqm ha.ne ?_
    rw [CRing.pow_succ]
    exact (Poly.eqm_rem _ ha.ne).mul (powR_eqm _ _ ha.ne)
  have hHl : Hid (∀ c, (H c).len ≤ n) := fun c => by rw [hH]; have := Poly.rem_len (((Poly.X (Zp ⟨p, hp⟩)) ^ p.toNat) ^ c) ha.ne; show (Poly.rem _ a).len ≤ n; omega
  have hHe : Hid (∀ c, H c = Poly.rem (((Poly.X (Zp ⟨p, hp⟩)) ^ p.toNat) ^ c) a) := fun c => by rw [hH]
  have Ha := Lib.hid ha
  have Hl := Lib.hid hl
  have H1l : Hid ((1 : Poly (Zp ⟨p, hp⟩)).len = 1) := Poly.len_one
  have Hgt : Hid (∀ {W : World} {R : Nat → List Int}, Sq W w.heap.size n n R → w.heap.size + n < W.heap.size) := fun h => by have := (h.row (n - 1) (by omega)).lt; omega
  clear hx hxe hH ha hl hprm
  go_enter Tryz.func37, Tryz.ntmps37
  go_wp2
  go_loopw [23] (fun i wr => ∃ k : Nat, k ≤ n ∧ i = .int .i64 (k : Int) ∧ Hid (wr.heap.size = w.heap.size + 1 + k) ∧ Hid (Sq wr w.heap.size n k (fun _ => List.replicate n 0)) ∧ Hid (Below w.heap.size w wr)) (fun i _ => n - (intOf i).toNat)
  case atStart => exact ⟨0, by omega, rfl, by show _ = _; simp, Sq.start _ _ _, (Below.refl _ _).alloc (Nat.le_refl _) _⟩
  case round =>
    obtain ⟨k, hk, rfl, hsz, hsq, hbel⟩ := hrel
    by_cases hlt : k < n
    · have hlt' : (k : Int) < (n : Int) := by omega
      have hk0 : (0 : Int) ≤ (k : Int) := by omega
      have hcz := hsq.out.cell hlt
      rw [if_neg (by omega)] at hcz
      have hfz := hsq.out.frozen k
      have hgl := hsq.out.lt
      have hpush := Lib.hid (hsq.out.push hlt hsz.out)
      go_wp2
      go_roundw
      case rel => exact ⟨k + 1, by omega, by go_num, by (show _ = _; have := hsz.out; simp; omega), by (have h := hpush.out; rw [← hsz.out] at h; exact h), ((hbel.out.setCell (p := ⟨w.heap.size, k, none⟩) (Nat.le_refl _) _).alloc (by have := hbel.out.size; simp; omega) _)⟩
      case measure => simp [intOf]; omega
    · obtain rfl : k = n := by omega
      have hlt' : ¬ (k : Int) < (k : Int) := by omega
      have hsq0 : Hid (Sq wr w.heap.size k k (midR H k 0 0)) := hsq.out.congr fun i _ => midR_start H k i
      clear hsq hmk hmi hsz
      obtain ⟨wo, rfl⟩ : ∃ wo : World, wo = wr := ⟨_, rfl⟩
      have hal1 : Below wo.heap.size wo (wo.alloc (.cells #[.int .i64 0, .int .i64 1] 3)) := (Below.refl _ _).alloc (Nat.le_refl _) _
      have hx1 := Lib.hid (x_ints wo)
      go_wp2_with fail
      refine (zof_pos p _ (by omega) (by omega)).mono ?_
      rintro e w3 ⟨Z3, z3, rfl, p3, q3, s3, hb3⟩
      have t3 := limbs_of (x := p) (by omega)
      have y3 : ([p].take (lmN [p] 1)).length ≤ 1 := by rw [List.length_take]; show min _ 1 ≤ 1; omega
      generalize [p].take (lmN [p] 1) = ls3 at *
      have hx3 := Lib.hid (hx1.out.bel hb3)
      have hb03 := hal1.trans (hb3.mono hal1.size)
      have Hb03 := Lib.hid hb03
      have HA3 : Hid (Ints w3 A (k + 1) (fromP a)) := (Hx.out.bel hbel.out).bel hb03
      have T3 := Lib.hid t3
      clear hb3 hal1 hx1 t3
      go_wp2_with fail
      refine (powmAt (N := 2) (M := k + 1) (a := toP ⟨p, hp⟩ [0, 1]) (f := a) (hp := hp) (Rd.of_list hx3.out) ⟨_, HA3.out, toP_fromP a⟩ s3 T3.out (by omega) (by omega) p3 q3 (by omega) (by omega) (by omega) Ha.out.ne).mono ?_
      rintro e w4 ⟨Ax, cx, rfl, lx, hx4, hb4, hbk4⟩
      rw [← Hxe.out] at lx hx4 ⊢
      have hb04 := below_tr hb03 hb4
      have hsq4 := Lib.hid (hsq0.out.bel hb04)
      have hbel4 := below_tr hbel.out hb04
      have hIx := Lib.hid hx4
      have hbx : Hid (∀ y, Ax = some y → w.heap.size + k < y.block) := fun y hy => by
        have h1 := hbk4 y hy
        have h2 := Hgt.out hsq0.out
        have h3 := Hb03.out.size
        omega
      have hone := Lib.hid (one_intsL hp w4)
      have hal4 : Below w4.heap.size w4 (w4.alloc (.cells #[.int .i64 1] 3)) := (Below.refl _ _).alloc (Nat.le_refl _) _
      have hsq5 := Lib.hid (hsq4.out.bel hal4)
      have hIx5 := Lib.hid (hIx.out.bel hal4)
      have hbel5 := Lib.hid (below_tr hbel4 hal4)
      have hg4 := Hgt.out hsq4.out
      have Hg4 := Lib.hid hg4
      clear hx4 hb4 hbk4 hb03 Hb03 hb04 hsq0 hbel hx3 HA3 s3 p3 q3 y3 T3 hsq4 hIx hal4 hbel4 hg4
      go_wp2_with fail
      go_loopw [10, 43] (fun v i wr => ∃ (c : Nat) (B : Option Addr) (d : Nat), c ≤ k ∧ i = .int .i64 (c : Int) ∧ v = .slice B (H c).len d ∧ Hid (Ints wr B (H c).len (fromP (H c))) ∧ Hid (∀ y, B = some y → w.heap.size + k < y.block) ∧ Hid (Sq wr w.heap.size k k (midR H k c 0)) ∧ Hid (Ints wr Ax x.len (fromP x)) ∧ Hid (Below w.heap.size w wr)) (fun _ i _ => k - (intOf i).toNat)
      case atStart => exact ⟨0, some ⟨w4.heap.size, 0, none⟩, 1, by omega, rfl, by rw [hH0.out, H1l.out], by show Ints _ _ _ _; rw [hH0.out, H1l.out]; exact hone.out, (fun y hy => by injection hy with hy; subst hy; exact Hg4.out), hsq5, hIx5, hbel5⟩
      case round =>
        obtain ⟨c, B, d, hc, rfl, rfl, hB, hBk, hsq, hIx, hbel⟩ := hrel
        by_cases hlt2 : c < k
        · have hlt2' : (c : Int) < (k : Int) := by omega
          have hc0 : (0 : Int) ≤ (c : Int) := by omega
          have hlen := hHl.out c
          clear hone hsq5 hIx5 hbel5
          go_wp2
          go_loopw [48] (fun i wr => ∃ kk : Nat, kk ≤ (H c).len ∧ i = .int .i64 (kk : Int) ∧ Hid (Ints wr B (H c).len (fromP (H c))) ∧ Hid (Sq wr w.heap.size k k (midR H k c kk)) ∧ Hid (Ints wr Ax x.len (fromP x)) ∧ Hid (Below w.heap.size w wr)) (fun i _ => (H c).len - (intOf i).toNat)
          case atStart => exact ⟨0, by omega, rfl, hB, hsq, hIx, hbel⟩
          case round =>
            clear hB hsq hIx hbel
            obtain ⟨kk, hkk, rfl, hB, hsq, hIx, hbel⟩ := hrel
            by_cases hlt3 : kk < (H c).len
            · have hlt3' : (kk : Int) < ((H c).len : Int) := by omega
              have hkk0 : (0 : Int) ≤ (kk : Int) := by omega
              have hkkn : (kk : Int) < (k : Int) := by omega
              obtain ⟨b, o, rfl, hb, hcx⟩ := hB.out.at_ (by omega)
              have hcy := hcx kk hlt3
              have hch := hsq.out.cell (i := kk) (by omega)
              rw [if_pos (by omega)] at hch
              have hrw := hsq.out.row kk (by omega)
              have hcr := hrw.cell (i := c) (by rw [midR_length]; exact hlt2)
              have hfr := hrw.frozen c
              have hset : Hid (Sq (wr.setCell ⟨w.heap.size + 1 + kk, c, none⟩ (.int .i64 (nth (fromP (H c)) kk))) w.heap.size k k (midR H k c (kk + 1))) := (hsq.out.set (i := kk) (by omega) c (nth (fromP (H c)) kk)).congr fun t _ => by
                by_cases e : t = kk
                · subst e; rw [if_pos rfl]; exact midR_put hlt2
                · rw [if_neg e]; exact midR_same e
              have hB' := Lib.hid (hB.out.other (p := ⟨w.heap.size + 1 + kk, c, none⟩) (fun y hy => by have := hBk.out y hy; show y.block ≠ w.heap.size + 1 + kk; omega) (.int .i64 (nth (fromP (H c)) kk)))
              have hIx' := Lib.hid (hIx.out.other (p := ⟨w.heap.size + 1 + kk, c, none⟩) (fun y hy => by have := hbx.out y hy; show y.block ≠ w.heap.size + 1 + kk; omega) (.int .i64 (nth (fromP (H c)) kk)))
              have hbel' := Lib.hid (hbel.out.setCell (p := ⟨w.heap.size + 1 + kk, c, none⟩) (by show w.heap.size ≤ w.heap.size + 1 + kk; omega) (.int .i64 (nth (fromP (H c)) kk)))
              clear hcx hrw
              generalize nth (fromP (H c)) kk = vy at *
              generalize nth (midR H k c kk kk) c = vz at *
              go_wp2
              go_roundw
              case rel => exact ⟨kk + 1, by omega, by go_num, hB', hset, hIx', hbel'⟩
              case measure => simp [intOf]; omega
            · obtain rfl : kk = (H c).len := by omega
              have hlt3' : ¬ ((H c).len : Int) < ((H c).len : Int) := by omega
              have hch := hsq.out.cell (i := c) (by omega)
              rw [if_pos (by omega)] at hch
              have hrw := hsq.out.row c (by omega)
              have hcr := hrw.cell (i := c) (by rw [midR_length]; exact hlt2)
              rw [midR_at hlt2] at hcr
              have hfr := hrw.frozen c
              have hvb := fromP_lt (H c) c
              have hvb1 := hvb.1
              have hvb2 : nth (fromP (H c)) c < p := hvb.2
              have hset : Hid (Sq (wr.setCell ⟨w.heap.size + 1 + c, c, none⟩ (.int .i64 (nth (fromP (H c)) c - 1))) w.heap.size k k (midR H k (c + 1) 0)) := (hsq.out.set (i := c) (by omega) c (nth (fromP (H c)) c - 1)).congr fun t _ => by
                by_cases e : t = c
                · subst e; rw [if_pos rfl]; exact midR_less hlt2
                · rw [if_neg e]; exact midR_next e
              have hB' := Lib.hid (hB.out.other (p := ⟨w.heap.size + 1 + c, c, none⟩) (fun y hy => by have := hBk.out y hy; show y.block ≠ w.heap.size + 1 + c; omega) (.int .i64 (nth (fromP (H c)) c - 1)))
              have hIx' := Lib.hid (hIx.out.other (p := ⟨w.heap.size + 1 + c, c, none⟩) (fun y hy => by have := hbx.out y hy; show y.block ≠ w.heap.size + 1 + c; omega) (.int .i64 (nth (fromP (H c)) c - 1)))
              have hbel' := Lib.hid (hbel.out.setCell (p := ⟨w.heap.size + 1 + c, c, none⟩) (by show w.heap.size ≤ w.heap.size + 1 + c; omega) (.int .i64 (nth (fromP (H c)) c - 1)))
              have hwr : Hid (∃ w6, w6 = wr.setCell ⟨w.heap.size + 1 + c, c, none⟩ (.int .i64 (nth (fromP (H c)) c - 1))) := ⟨_, rfl⟩
              clear hvb hrw hB hsq hIx hbel
              generalize nth (fromP (H c)) c = vy at *
              go_wp2_with fail
              generalize wr.setCell ⟨w.heap.size + 1 + c, c, none⟩ (.int .i64 (vy - 1)) = w6 at *
              refine (mulR (N := k) (M := k + 1) (K := 2 * k + 1) (hp := hp) (Rd.of hB'.out) (Rd.of hIx'.out) hlen lx (by omega) (by omega)).mono ?_
              rintro e w7 ⟨A7, c7, rfl, l7, h7, hb7⟩
              have H7 := Lib.hid h7
              have hsq7 := Lib.hid (hset.out.bel hb7)
              have hIx7 := Lib.hid (hIx'.out.bel hb7)
              have hbel7 := Lib.hid (below_tr hbel'.out hb7)
              have HA7 : Hid (Ints w7 A (k + 1) (fromP a)) := Hx.out.bel hbel7.out
              clear h7 hb7 hB' hset hIx' hbel' hwr hch hcr hfr
              go_wp2_with fail
              refine (divAt (N := 2 * k + 1) (M := k + 1) (hp := hp) (Rd.of H7.out) ⟨_, HA7.out, toP_fromP a⟩ l7 (by omega) (by omega) (by omega) Ha.out.ne).mono ?_
              rintro e w8 ⟨A8, c8, B8, d8, rfl, l8, h8, hb8, hk8⟩
              rw [hHs.out c] at h8 l8 ⊢
              have H8 := Lib.hid h8
              have hsq8 := Lib.hid (hsq7.out.bel hb8)
              have hIx8 := Lib.hid (hIx7.out.bel hb8)
              have hbel8 := Lib.hid (below_tr hbel7.out hb8)
              have hk8' : Hid (∀ y, B8 = some y → w.heap.size + k < y.block) := fun y hy => by have h1 := hk8 y hy; have h2 := Hgt.out hsq7.out; omega
              clear h8 hb8 hk8 H7 hsq7 hIx7 hbel7 HA7
              go_wp2_with fail
              go_roundw
              case rel => exact ⟨c + 1, B8, d8, by omega, by go_num, rfl, H8, hk8', hsq8, hIx8, hbel8⟩
              case measure => simp [intOf]; omega
        · obtain rfl : c = k := by omega
          have hlt2' : ¬ (c : Int) < (c : Int) := by omega
          have hmat := Lib.hid (hsq.out.mat (by omega) (fun i _ j => midR_bd H c c 0 i j))
          have hok : Hid (nullOk (rowsTab c (midR H c c 0)) c p = true) := by
            refine nullOk_iff.2 ⟨matOk_iff.2 ⟨Hprm.out, by rw [rowsTab_length]; omega, fun i hi => ?_⟩, by omega, by omega, .inr ?_⟩
            · rw [rowsTab_length] at hi
              rw [rAt_rowsTab, if_pos hi, rAt_rowsTab, if_pos (by omega), midR_length, midR_length]
              exact ⟨by omega, rfl⟩
            · rw [rAt_rowsTab, if_pos (by omega), midR_length]
          clear hone hsq5 hIx5 hbel5 hB hBk hsq hIx
          go_wp2_with fail
          refine (null_cap _ _ _ _ _ _ _ hmat.out hok.out).mono ?_
          rintro e w9 ⟨A9, d9, c9, rows9, rfl, hm9, hn9, hb9, hv1, hv2⟩
          have Hn9 := Lib.hid hn9
          have Hm9 := Lib.hid hm9
          have hd9 : d9 ≤ 64 := by
            obtain ⟨e, _, h2⟩ := hn9
            have h3 := hm9.len
            rw [h2] at h3
            have := nullTo_len e c p c
            omega
          clear hn9 hm9
          go_wp2_with fail
          go_ret
          exact ⟨_, _, _, rows9, rfl, Hm9.out, (by rw [← Hm9.out.len]; exact bas_of Ha.out Hl.out (by omega) hHe.out Hn9.out), (fun i => by have := Hn9.out.short i; omega), hd9, below_tr hbel.out hb9, hv1, hv2⟩
end Go.Proofs.YtpikakapflebkaaGreat
