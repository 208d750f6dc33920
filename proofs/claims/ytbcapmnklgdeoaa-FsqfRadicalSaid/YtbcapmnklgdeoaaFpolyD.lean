/- Contracts: a quotient and a rest: the program's. -/
import Derived.Test.YtbcapmnklgdeoaaFpolyC
import Derived.Test.YtbcapmnklgdeoaaBase
namespace Go.Proofs.Ytbcapmnklgdeoaa
open Go.RowKit Cl
attribute [local go_sem ↓] Go.wp_at_zero Go.wp_at_succ

theorem pprodP {p : Int} {hp : Pr p} (A B : Option Addr) (c d : Nat) (a b : Poly (Zp ⟨p, hp⟩)) (w : World) (hx : Ints w A a.len (fromP a)) (hy : Ints w B b.len (fromP b)) (hn : (a.len + b.len) * 8 ≤ 281474976710656) :
    Calls Try.prog 37 #[.slice A a.len c, .slice B b.len d, .int .i64 p] w (GivesP w (a * b)) := by
  have := pprod_any A B _ _ c d _ _ p w hp hx hy hn (fromP_pl a).pl (fromP_pl b).pl
  rwa [toP_fromP, toP_fromP] at this
theorem psumP {p : Int} {hp : Pr p} (A B : Option Addr) (c d : Nat) (a b : Poly (Zp ⟨p, hp⟩)) (kk : Int) (w : World) (hx : Ints w A a.len (fromP a)) (hy : Ints w B b.len (fromP b)) (hn : a.len * 8 ≤ 281474976710656) (hm : b.len * 8 ≤ 281474976710656) (hk : 0 ≤ kk ∧ kk < p) :
    Calls Try.prog 70 #[.slice A a.len c, .slice B b.len d, .int .i64 kk, .int .i64 p] w (GivesP w (a + Poly.C (Zp.of ⟨p, hp⟩ kk) * b)) := by
  have := psum_any A B _ _ c d _ _ kk p w hp hx hy hn hm (fromP_pl a).pl (fromP_pl b).pl hk
  rwa [toP_fromP, toP_fromP] at this

/-- A polynomial by a residue. -/
theorem pscaled_any {p : Int} {hp : Pr p} (A : Option Addr) (n : Nat) (c : Nat) (a : Poly (Zp ⟨p, hp⟩)) (k : Int) (w : World) (hx : Ints w A n (fromP a)) (hn : n * 8 ≤ 281474976710640) (hk : 0 < k ∧ k < p) :
    Calls Try.prog 53 #[.slice A n c, .int .i64 k, .int .i64 p] w (GivesP w (Poly.C (CField.inv (Zp.of ⟨p, hp⟩ k)) * a)) := by
  have hp1 := hp.two
  have hp2 := hp.max
  have hne : ¬ Cg p k 0 := fun h => by rw [Cg.zero_iff_emod, Int.emod_eq_of_lt (by omega) hk.2] at h; omega
  have c1 := inv_yes k p w (by omega) (by omega) (by omega) (by omega) ((isPrime_iff p).2 hp)
  rw [invE_ok hne] at c1
  have C1 := Lib.hid c1
  have hib := invm_bd k hp
  have hrow := Row.new w 3 [invm k p]
  have hin := hrow.ints (fun i => by
    match i with
    | 0 => show I64 (invm k p); exact I64.small hib.1 (by omega)
    | i + 1 => rw [nth_ge (by simp)]; exact I64.zero)
  have hxa := hx.alloc (.cells (ints [invm k p]).toArray 3)
  have cp := pprod_any A _ _ _ c 1 (fromP a) [invm k p] p _ hp hxa hin (by have := hx.len; simp; omega) (fromP_pl a).pl (fun i => by
    match i with
    | 0 => show 0 ≤ invm k p ∧ invm k p < p; exact hib
    | i + 1 => rw [nth_ge (by simp)]; omega)
  rw [toP_fromP, toP_one, ← Zp.inv_of (q := ⟨p, hp⟩), CRing.mul_comm] at cp
  have Cp := Lib.hid cp
  clear cp c1 hne hrow hin hxa
  go_enter Try.func53, Try.ntmps53
  go_wp2_with fail
  refine C1.out.mono ?_
  rintro e w' ⟨rfl, rfl⟩
  go_wp2_with fail
  refine Cp.out.mono ?_
  rintro e w2 ⟨A2, c2, rfl, hn2⟩
  go_wp2_with fail
  go_ret
  exact ⟨_, _, rfl, newInts_sooner hn2 ((Below.refl _ _).alloc (Nat.le_refl _) _)⟩

theorem givesPP_of {q : Prm} {w w' : World} {x y : Poly (Zp q)} {A B : Option Addr} {n c m d : Nat} (h1 : NewInts 3 w w' A c n (fromP x)) (h2 : NewInts 3 w w' B d m (fromP y)) :
    GivesPP w x y (.returned (.tuple #[.slice A n c, .slice B m d])) w' := by
  obtain rfl : x.len = n := by have := h1.len; rw [fromP_length] at this; exact this
  obtain rfl : y.len = m := by have := h2.len; rw [fromP_length] at this; exact this
  exact ⟨_, _, _, _, rfl, h1, h2⟩

set_option maxRecDepth 100000 in
set_option maxHeartbeats 4000000 in
theorem pdivided_any {p : Int} {hp : Pr p} (A B : Option Addr) (n m c d : Nat) (a b : Poly (Zp ⟨p, hp⟩)) (w : World) (hx : Ints w A n (fromP a)) (hy : Ints w B m (fromP b)) (hn : n * 8 ≤ 140737488355320) (hm : m * 8 ≤ 140737488355328) (hb0 : b ≠ 0) :
    Calls Try.prog 36 #[.slice A n c, .slice B m d, .int .i64 p] w (GivesPP w (Poly.quo a b) (Poly.rem a b)) := by
  obtain ⟨i0, hi, hz0, hz1, hz2⟩ := info_parts int_info
  have hp1 := hp.two
  have hp2 := hp.max
  have hp0 : ¬ p = 0 := by omega
  have hal : a.len = n := by have := hx.len; rw [fromP_length] at this; exact this
  have hbl : b.len = m := by have := hy.len; rw [fromP_length] at this; exact this
  have hmpos : 0 < m := by have := Poly.len_pos hb0; omega
  have Hal := Lib.hid hal
  have Hbl := Lib.hid hbl
  have hbA : Below w.heap.size w (w.alloc (.cells #[] 3)) := (Below.refl _ _).alloc (Nat.le_refl _) _
  have hown0 := own_empty w 3 (base := w.heap.size) (Nat.le_refl _)
  have hrd0 := Lib.hid ((hx.reads).alloc (Nat.le_refl _) (.cells #[] 3))
  clear hal hbl
  by_cases hlt : n < m
  · have Hr : Hid (Poly.rem a b = a ∧ Poly.quo a b = 0) := Poly.rem_of_lt (by have := Hal.out; have := Hbl.out; omega)
    have hneg : (n : Int) - (m : Int) < 0 := by omega
    go_enter Try.func36, Try.ntmps36
    go_wp2_with (at_builtin; refine wpList_append_any _ (by rfl) _ _ 22 (by rfl) w.heap.size 3 i0 _ 1 8 Try.underlying22 hi hz0 hz1 hz2 rfl (by omega) _ 0 [] (by rfl) hown0 w.heap.size A n c (ints (fromP a)) (by rfl) hrd0.out (Cl.ints_oneCell _) (by unfold maxLen; omega) (by omega) (by simp) ?_; intro v1 w1 hown1 hgrow1 hv1; obtain ⟨A1, c1, rfl⟩ := own_slice hown1)
    simp only [Nat.zero_add, List.nil_append] at hown1
    have hb1 := hbA.grown hgrow1 hbA.size (fun k hk => by simp [Value.ownBlock] at hk; omega)
    have hfr : ∀ i, I64 (nth (fromP a) i) := fromP_i64 a
    go_ret2
    rw [Hr.out.1, Hr.out.2]
    refine givesPP_of (NewInts.of ?_ (by rw [fromP_length, Poly.len_zero]) (fromP_i64 _) hb1) (NewInts.of hown1 (by rw [fromP_length]; exact Hal.out) (fromP_i64 _) hb1)
    rw [fromP_zero]; exact World.ownsRow_nil _ _ _ _
  · obtain ⟨N, hN⟩ : ∃ N, n = N + m := ⟨n - m, by omega⟩
    obtain ⟨M, rfl⟩ : ∃ M, m = M + 1 := ⟨m - 1, by omega⟩
    have hNeq : (n : Int) - ((M : Int) + 1) = (N : Int) := by omega
    have hNM : N + M < n := by omega
    have hnpos : 0 < n := by omega
    have HN := Lib.hid hN
    have hmk := make_ints (N + 1) (by omega)
    rw [show ((N + 1 : Nat) : Int) = (N : Int) + 1 by omega] at hmk
    have hplb := fromP_pl b
    have hbd := hplb.pl M
    have htop : nth (fromP b) M ≠ 0 := by
      have := hplb.top (by rw [fromP_length]; have := Hbl.out; omega)
      rwa [fromP_length, Hbl.out] at this
    have hne : ¬ Cg p (nth (fromP b) M) 0 := fun h => by
      rw [Cg.zero_iff_emod, Int.emod_eq_of_lt hbd.1 hbd.2] at h
      exact htop h
    have c1 := fun W => inv_yes (nth (fromP b) M) p W (by omega) (by have := hbd.2; have : nth (fromP b) M < p := hbd.2; omega) (by omega) (by omega) ((isPrime_iff p).2 hp)
    rw [invE_ok hne] at c1
    have C1 := Lib.hid c1
    have hib := invm_bd (nth (fromP b) M) hp
    obtain ⟨ob, oo, rfl, hob, hoc⟩ := hy.at_ hmpos
    have hcb0 := hoc M (by omega)
    have Hplb := Lib.hid hplb
    have Hstart := Lib.hid (DivSt.start (q := ⟨p, hp⟩) (a := fromP a) (b := fromP b) (fromP_pl a).pl (by rw [fromP_length, fromP_length, Hal.out, Hbl.out]; omega))
    have Hoc := Lib.hid hoc
    have hpos' : (0 : Int) ≤ (N : Int) := by omega
    clear hN hplb hbd htop hne c1 hoc hlt
    generalize hTop : invm (nth (fromP b) M) p = top at *
    have HTop := Lib.hid hTop
    obtain ⟨ht1, ht2⟩ := hib
    clear hTop
    go_enter Try.func36, Try.ntmps36
    go_wp2_with (first
      | (at_builtin; refine wpList_append_any _ (by rfl) _ _ 22 (by rfl) w.heap.size 3 i0 _ 1 8 Try.underlying22 hi hz0 hz1 hz2 rfl (by omega) _ 0 [] (by rfl) hown0 w.heap.size A n c (ints (fromP a)) (by rfl) hrd0.out (Cl.ints_oneCell _) (by unfold maxLen; omega) (by omega) (by simp) ?_; intro v1 w1 hown1 hgrow1 hv1; obtain ⟨g1, cap1, rfl, hg1, hra1⟩ := own_some (xs := fromP a) (n := n) (by simpa using hown1) hnpos; have hb1 := hbA.grown hgrow1 hbA.size (fun k hk => by simp [Value.ownBlock] at hk; omega); have hs1 := hb1.size; have hcb1 := (hb1.cell (p := ⟨ob, oo + M, none⟩) hob).trans hcb0)
      | (go_at_call 54; refine (C1.out _).mono ?_; rintro e w' ⟨rfl, rfl⟩))
    have hrq0 := Row.new w1 3 (List.replicate (N + 1) 0)
    have hra2 := hra1.alloc (.cells (ints (List.replicate (N + 1) 0)).toArray 3)
    have hb2 := hb1.alloc hs1 (.cells (ints (List.replicate (N + 1) 0)).toArray 3)
    have hgne : g1 ≠ w1.heap.size := by have := hra1.lt; omega
    have hgq : w.heap.size ≤ w1.heap.size := hs1
    have hst0 : Hid (DivSt ⟨p, hp⟩ (fromP a) (fromP b) (N + 1) (List.replicate (N + 1) 0) (fromP a)) := by
      have := Hstart.out
      rw [fromP_length, fromP_length, Hal.out, Hbl.out, show n - (M + 1) + 1 = N + 1 by have := HN.out; omega] at this
      exact this
    clear hrd0 hown0 hgrow1 hv1 hown1 hcb1 Hstart
    generalize w1.heap.size = gq at *
    go_loopg [9] (N + 2) (fun gk i wr => ∃ (t : Nat) (j : Int) (qs r : List Int), t ≤ N + 1 ∧ t < gk ∧ i = .int .i64 j ∧ j = (t : Int) - 1 ∧ Hid (DivSt ⟨p, hp⟩ (fromP a) (fromP b) t qs r) ∧ RowA wr g1 3 cap1 r ∧ Row wr gq 3 qs ∧ Below w.heap.size w wr)
    case atStart => exact ⟨N + 1, _, _, _, by omega, by omega, rfl, by omega, hst0, hra2, hrq0, hb2⟩
    case round =>
      obtain ⟨t, j, qs, r, ht, hgk, rfl, hj, hst, hra, hrq, hbel⟩ := hrel
      obtain ⟨wo, rfl⟩ : ∃ wo : World, wo = wr := ⟨_, rfl⟩
      have hrl : r.length = n := by have := hst.out.lr; rw [fromP_length, Hal.out] at this; exact this
      have Hrl := Lib.hid hrl
      have hql : qs.length = N + 1 := by have := hst.out.lq; rw [fromP_length, fromP_length, Hal.out, Hbl.out] at this; have := HN.out; omega
      have Hql := Lib.hid hql
      cases t with
      | zero =>
        obtain rfl : j = -1 := by omega
        obtain ⟨hq1, hr1⟩ := hst.out.done Hplb.out (by rw [fromP_length, Hbl.out]; omega)
        rw [toP_fromP, toP_fromP] at hq1 hr1
        have hinq := hrq.ints (fun i => Pl.i64 hst.out.pq hp2 i)
        rw [hql] at hinq
        have hinr := hra.ints (fun i => Pl.i64 hst.out.pr hp2 i)
        rw [hrl] at hinr
        have cq := pplain_any _ (N + 1) (N + 1) qs p wo hp hinq (by omega)
        rw [← hq1] at cq
        have Cq := Lib.hid cq
        have cr := fun W (hW : Below wo.heap.size wo W) => pplain_any _ n cap1 r p W hp (hinr.bel hW) (by omega)
        rw [← hr1] at cr
        have Cr := Lib.hid cr
        clear cq cr hq1 hr1 hql hrl hj hinq hinr
        go_wp2_with fail
        refine Cq.out.mono ?_
        rintro e w7 ⟨A7, c7, rfl, hn7⟩
        go_wp2_with fail
        refine (Cr.out _ hn7.bel).mono ?_
        rintro e w8 ⟨A8, c8, rfl, hn8⟩
        go_wp2_with fail
        go_ret2
        exact ⟨_, _, _, _, rfl, newInts_later (newInts_sooner hn7 hbel) hn8.bel, newInts_sooner hn8 (below_tr hbel hn7.bel)⟩
      | succ s =>
        obtain rfl : j = (s : Int) := by omega
        have hsN : s ≤ N := by omega
        have hcr := hra.cell (i := s + M) (by omega)
        obtain ⟨l1, l2⟩ := hst.out.pr (s + M)
        have l2' : nth r (s + M) < p := l2
        have hm1 : 0 ≤ nth r (s + M) * top := Int.mul_nonneg l1 ht1
        have hm2 : nth r (s + M) * top ≤ 65521 * 65521 := Int.mul_le_mul (by omega) (by omega) ht1 (by omega)
        have hfq := hrq.frozen s
        have hcq := hrq.cell (i := s) (by omega)
        have hcc := emod_bd (nth r (s + M) * top) (p := p) (by omega)
        obtain ⟨c1, c2⟩ := hcc
        have Hstep : Hid (DivSt ⟨p, hp⟩ (fromP a) (fromP b) s (qs.set s (nth r (s + M) * top % p)) (subAt r (fromP b) (nth r (s + M) * top % p) s p (M + 1))) := by
          have := hst.out.step (top := top) (c := nth r (s + M) * top % p) Hplb.out (by rw [fromP_length, Hbl.out]; omega) (by rw [fromP_length, fromP_length, Hal.out, Hbl.out]; have := HN.out; omega) (by rw [fromP_length, Hbl.out]; exact HTop.out.symm) (by rw [fromP_length, Hbl.out, show s + (M + 1) - 1 = s + M by omega])
          rw [fromP_length, Hbl.out] at this
          exact this
        clear hrl hql hj l2
        go_wp2
        clear hcr hcq hfq
        generalize hcc2 : nth r (s + M) * top % p = cc at *
        have hra5 := hra.far (p := ⟨gq, s, none⟩) hgne (.int .i64 cc)
        have hrq5 := hrq.set s cc
        have hb5 := hbel.setCell (p := ⟨gq, s, none⟩) hgq (.int .i64 cc)
        clear hcc2 hra hrq hbel
        have hra6 : RowA (wo.setCell ⟨gq, s, none⟩ (.int .i64 cc)) g1 3 cap1 (subAt r (fromP b) cc s p 0) := by rw [subAt_zero]; exact hra5
        clear hra5
        go_loopw [63] (fun i wr => ∃ k : Nat, k ≤ M + 1 ∧ i = .int .i64 k ∧ RowA wr g1 3 cap1 (subAt r (fromP b) cc s p k) ∧ Row wr gq 3 (qs.set s cc) ∧ Below w.heap.size w wr) (fun i _ => M + 1 - (intOf i).toNat)
        case atStart => exact ⟨0, by omega, rfl, hra6, hrq5, hb5⟩
        case round =>
          obtain ⟨k, hk, rfl, hra7, hrq7, hb7⟩ := hrel
          by_cases hkl : k < M + 1
          · have hcb := (hb7.cell (p := ⟨ob, oo + k, none⟩) hob).trans (Hoc.out k hkl)
            have hlen : s + k < r.length := by have := Hrl.out; have := HN.out; omega
            have hcx := hra7.cell (i := s + k) (by rw [subAt_length]; exact hlen)
            rw [nth_subAt_at _ _ _ _ _ _ hlen] at hcx
            have hfx := hra7.frozen (s + k)
            have hset := hra7.set (i := s + k) (by rw [subAt_length]; exact hlen) ((nth r (s + k) + (p - cc) * nth (fromP b) k) % p)
            rw [subAt_set _ _ _ _ _ _ hlen] at hset
            have Hset := Lib.hid hset
            obtain ⟨d1, d2⟩ := Hplb.out.pl k
            obtain ⟨d3, d4⟩ := hst.out.pr (s + k)
            have d4' : nth r (s + k) < p := d4
            have m1 : 0 ≤ (p - cc) * nth (fromP b) k := Int.mul_nonneg (by omega) d1
            have m2 : (p - cc) * nth (fromP b) k ≤ 65521 * 65521 := Int.mul_le_mul (by omega) (by omega) d1 (by omega)
            have hrq8 := hrq7.far (p := ⟨g1, s + k, none⟩) (fun e => hgne e.symm) (.int .i64 ((nth r (s + k) + (p - cc) * nth (fromP b) k) % p))
            have hb8 := hb7.setCell (p := ⟨g1, s + k, none⟩) hg1 (.int .i64 ((nth r (s + k) + (p - cc) * nth (fromP b) k) % p))
            have hsk : s + k < n := by have := Hrl.out; omega
            clear hset d4 hlen
            go_wp2
            go_roundw
            case rel => exact ⟨k + 1, by omega, by go_num, Hset.out, hrq8, hb8⟩
            case measure => simp [intOf]; omega
          · obtain rfl : M + 1 = k := by omega
            go_wp2
            go_roundg s.succ
            case measure => omega
            case rel => exact ⟨s, (s : Int) - 1, _, _, by omega, by omega, by go_num, rfl, Hstep, hra7, hrq7, hb7⟩
end Go.Proofs.Ytbcapmnklgdeoaa
