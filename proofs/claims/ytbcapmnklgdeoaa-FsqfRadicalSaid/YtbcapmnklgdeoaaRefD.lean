/- Contracts: the document's quotients and rests. -/
import Derived.Test.YtbcapmnklgdeoaaRefC
import Derived.Test.YtbcapmnklgdeoaaPolyB
namespace Go.Proofs.Ytbcapmnklgdeoaa
open Go.RowKit Cl
attribute [local go_sem ↓] Go.wp_at_zero Go.wp_at_succ

/-- What the document takes away in a round, number by number. -/
def partF (ys : List Int) (N : Nat) (c p : Int) (i : Nat) : Int := if i < N then 0 else nth ys (i - N) * c % p
theorem part_tab (ys : List Int) (N : Nat) (c p : Int) : tab (N + ys.length) (partF ys N c p) = movedL N ys c p := rfl
theorem partF_bd (ys : List Int) (N : Nat) (c : Int) {p : Int} (hp : 1 ≤ p) (i : Nat) : 0 ≤ partF ys N c p i ∧ partF ys N c p i < p := by
  unfold partF; split
  · omega
  · exact emod_bd _ hp

/-- As GivesRRE, and the first slice lies in a new block. -/
def GivesRREat {q : Prm} (w : World) (K L : Nat) (a b : Poly (Zp q)) (err : Int) (e : Ending) (w' : World) : Prop :=
  ∃ A c B d, e = .returned (.tuple #[.slice A a.len c, .slice B b.len d, .int .i64 err]) ∧ a.len ≤ K ∧ b.len ≤ L ∧ Ints w' A a.len (fromP a) ∧ Ints w' B b.len (fromP b) ∧ Below w.heap.size w w' ∧ ∀ x, A = some x → w.heap.size ≤ x.block
set_option maxRecDepth 100000 in
set_option maxHeartbeats 8000000 in
theorem qdiv_yes (A B : Option Addr) (n m c d : Nat) (xs ys : List Int) (p : Int) (w : World) (hp : Pr p) (hx : Ints w A n xs) (hy : Ints w B m ys) (hn : n ≤ 400000000) (hm : m ≤ 400000000) (hb0 : toP ⟨p, hp⟩ ys ≠ 0) :
    Calls Try.prog 51 #[.slice A n c, .slice B m d, .int .i64 p] w (GivesRREat w n m (Poly.quo (toP ⟨p, hp⟩ xs) (toP ⟨p, hp⟩ ys)) (Poly.rem (toP ⟨p, hp⟩ xs) (toP ⟨p, hp⟩ ys)) 0) := by
  obtain ⟨i0, hi, hz0, hz1, hz2⟩ := info_parts int_info
  have hp1 := hp.two
  have hp2 := hp.max
  have hp0 : ¬ p = 0 := by omega
  have Cb := Lib.hid (qplain_any B m d ys p w hp hy (by omega))
  have Ca := Lib.hid (fun W (h : Below w.heap.size w W) => qplain_any A n c xs p W hp (hx.bel h) (by omega))
  have hla : (toP ⟨p, hp⟩ xs).len ≤ n := len_le_toP hx.len
  have hlb : (toP ⟨p, hp⟩ ys).len ≤ m := len_le_toP hy.len
  generalize toP ⟨p, hp⟩ xs = P at *
  generalize toP ⟨p, hp⟩ ys = Q at *
  have hlp := Poly.len_pos hb0
  have Hlc : Hid (Zp.of ⟨p, hp⟩ (nth (fromP Q) (Q.len - 1)) = Q.lc) := fromP_top hb0
  have hbd := fromP_lt Q (Q.len - 1)
  have htop := (fromP_pl Q).top (by rw [fromP_length]; exact hlp)
  rw [fromP_length] at htop
  have Hbd : Hid (0 < nth (fromP Q) (Q.len - 1) ∧ nth (fromP Q) (Q.len - 1) < p) := ⟨by have := hbd.1; omega, hbd.2⟩
  have Hq0 := Lib.hid hb0
  obtain ⟨M, hM⟩ : ∃ M, Q.len = M + 1 := ⟨Q.len - 1, by omega⟩
  have HM := Lib.hid hM
  rw [hM] at Hlc Hbd hlb
  simp only [Nat.add_sub_cancel] at Hlc Hbd
  have Htop : Hid (Zp.of ⟨p, hp⟩ (invm (nth (fromP Q) M) p) = CField.inv Q.lc) := by
    show _ = _
    rw [← Hlc.out]; exact (Zp.inv_of (q := ⟨p, hp⟩) _).symm
  have Ci := Lib.hid (fun W => qinv_any (nth (fromP Q) M) p W hp Hbd.out)
  have hib := invm_bd (nth (fromP Q) M) hp
  obtain ⟨ht1, ht2⟩ := hib
  clear hbd htop hb0 hM hlp Hbd
  generalize invm (nth (fromP Q) M) p = top at *
  have hmk := make_ints (P.len + 1) (by omega)
  rw [show ((P.len + 1 : Nat) : Int) = (P.len : Int) + 1 by omega] at hmk
  have Hst0 := Lib.hid (RDivSt.start (q := ⟨p, hp⟩) P Q)
  go_enter Try.func51, Try.ntmps51
  go_wp2_with fail
  refine (rchk_yes _ _ (by omega) (by omega) ((isPrime_iff p).2 hp)).mono ?_
  rintro e w' ⟨rfl, rfl⟩
  go_wp2_with fail
  refine Cb.out.mono ?_
  rintro e w1 ⟨A2, c2, rfl, hn2⟩
  have hr2 := hn2.rd
  have hb1 := hn2.bel
  clear hn2
  rw [HM.out] at hr2 ⊢
  go_wp2_with fail
  refine (Ca.out _ hb1).mono ?_
  rintro e w2 ⟨A1, c1, rfl, hn1⟩
  have hr1 := hn1.rd
  have hr2' := hr2.bel hn1.bel
  have hb2 := below_tr hb1 hn1.bel
  have hA1lt : ∀ x, A1 = some x → 0 < P.len → x.block ≠ w2.heap.size := fun x hx h0 => by
    obtain ⟨b, o, e, hb, _⟩ := hr1.at_ h0
    rw [e] at hx; cases hx; show b ≠ _; omega
  clear hn1 hr2
  obtain ⟨by_, oy, rfl, hby, hcy⟩ := hr2'.at_ (by omega)
  have hcM := hcy M (by omega)
  have hcyl : (w2.alloc (.cells (ints (List.replicate (P.len + 1) 0)).toArray 3)).cell? ⟨by_, oy + M, none⟩ = some (.int .i64 (nth (fromP Q) M)) := by rw [World.cell?_alloc_lt _ _ _ hby]; exact hcM
  go_wp2_with (go_at_call 46; refine (Ci.out _).mono ?_; rintro e w' ⟨rfl, rfl⟩)
  have hrq0 := Row.new w2 3 (List.replicate (P.len + 1) 0)
  have hr3 := hr1.alloc (.cells (ints (List.replicate (P.len + 1) 0)).toArray 3)
  have hb3 : Below w2.heap.size w2 (w2.alloc (.cells (ints (List.replicate (P.len + 1) 0)).toArray 3)) := (Below.refl _ _).alloc (Nat.le_refl _) _
  have hs2 := hb2.size
  have Hcy := Lib.hid hcy
  clear hcM hcyl hcy hr2' hr1
  generalize hL0 : P.len = L0 at *
  have HL0 := Lib.hid hL0
  have hA1 : Hid (0 < L0 → ∀ x, A1 = some x → x.block ≠ w2.heap.size) := fun h0 x hx => hA1lt x hx h0
  clear hL0 hA1lt
  have HB2 := Lib.hid hb2
  clear hb2
  go_loopg [10] (L0 + 1) (fun gk s wr => ∃ (L : Nat) (R : Poly (Zp ⟨p, hp⟩)) (Ar : Option Addr) (cr : Nat) (qs : List Int), L < gk ∧ L ≤ L0 ∧ s = .slice Ar L cr ∧ Hid (R.len = L) ∧ Ints wr Ar L (fromP R) ∧ Hid (0 < L → ∀ x, Ar = some x → x.block ≠ w2.heap.size) ∧ Row wr w2.heap.size 3 qs ∧ Hid (RDivSt ⟨p, hp⟩ P Q qs R) ∧ Below w2.heap.size w2 wr)
  case atStart => exact ⟨L0, P, A1, c1, _, by omega, Nat.le_refl _, rfl, HL0, hr3, hA1, hrq0, Hst0.out, hb3⟩
  case round =>
    obtain ⟨L, R, Ar, cr, qs, hgk, hLL, rfl, hRl, hR, hAr, hrq, hst, hbel⟩ := hrel
    obtain ⟨wo, rfl⟩ : ∃ wo : World, wo = wr := ⟨_, rfl⟩
    clear hrq0 hr3 hb3 hA1 Hst0
    have hql : qs.length = L0 + 1 := by have := hst.out.lq; rw [HL0.out] at this; exact this
    have Hql := Lib.hid hql
    by_cases hlt : M + 1 ≤ L
    · obtain ⟨N, hN⟩ : ∃ N, L = N + (M + 1) := ⟨L - (M + 1), by omega⟩
      obtain ⟨br, or_, rfl, hbr, hcr0⟩ := hR.at_ (by omega)
      have hcr := hcr0 (N + M) (by omega)
      have hbne := hAr.out (by omega) _ rfl
      have hfq := hrq.frozen N
      have hcq := hrq.cell (i := N) (by omega)
      have hNeq : (L : Int) - ((M : Int) + 1) = (N : Int) := by omega
      have ea : ((L : Int) - 1).toNat = N + M := by omega
      have eb : (0 : Int) ≤ (L : Int) - 1 := by omega
      have ec : (L : Int) - 1 < (L : Int) := by omega
      have ed : (M : Int) + 1 ≤ (L : Int) := by omega
      have ef : (N : Int) < (L0 : Int) + 1 := by omega
      obtain ⟨l1, l2⟩ := fromP_lt R (N + M)
      have l2' : nth (fromP R) (N + M) < p := l2
      have hm1 : 0 ≤ nth (fromP R) (N + M) * top := Int.mul_nonneg l1 ht1
      have hm2 : nth (fromP R) (N + M) * top ≤ 65521 * 65521 := Int.mul_le_mul (by omega) (by omega) ht1 (by omega)
      have hcc := emod_bd (nth (fromP R) (N + M) * top) (p := p) (by omega)
      obtain ⟨c1, c2⟩ := hcc
      have hR0 : R ≠ 0 := fun e => by
        have h1 := hRl.out
        rw [e, Poly.len_zero] at h1; omega
      have Hstep : Hid (RDivSt ⟨p, hp⟩ P Q (qs.set N (nth (fromP R) (N + M) * top % p)) (R - Poly.mono N (Zp.of ⟨p, hp⟩ (nth (fromP R) (N + M) * top % p)) * Q) ∧ (R - Poly.mono N (Zp.of ⟨p, hp⟩ (nth (fromP R) (N + M) * top % p)) * Q).len < R.len) := by
        have h1 : Zp.of ⟨p, hp⟩ (nth (fromP R) (N + M) * top % p) = R.lc * CField.inv Q.lc := by
          have e1 : Zp.of ⟨p, hp⟩ (nth (fromP R) (N + M) * top % p) = Zp.of ⟨p, hp⟩ (nth (fromP R) (N + M) * top) := Zp.of_cg (Cg.emod_left _ _)
          have e2 := fromP_top hR0
          rw [hRl.out, show L - 1 = N + M by omega] at e2
          rw [e1, Zp.of_mul, Htop.out, e2]
        have h2 := hst.out.step Hq0.out (by rw [HM.out, hRl.out]; exact hlt) (c := nth (fromP R) (N + M) * top % p) ⟨c1, c2⟩ h1
        rw [hRl.out, HM.out, show L - (M + 1) = N by omega] at h2
        exact ⟨h2.1, by rw [hRl.out]; exact h2.2⟩
      have HN := Lib.hid hN
      have Hlt := Lib.hid hlt
      clear hN hlt l2 hR0 hcr0 hql hst
      go_wp2
      clear hcr hcq hfq ea eb ec ed ef hNeq
      generalize hcc2 : nth (fromP R) (N + M) * top % p = cc at *
      have hrq5 := hrq.set N cc
      have hb5 := hbel.setCell (p := ⟨w2.heap.size, N, none⟩) (Nat.le_refl _) (.int .i64 cc)
      have hR5 := hR.other (p := ⟨w2.heap.size, N, none⟩) (fun x hx => by cases hx; exact hbne) (.int .i64 cc)
      clear hcc2 hrq hbel hR hm1 hm2
      generalize wo.setCell ⟨w2.heap.size, N, none⟩ (.int .i64 cc) = w5 at *
      have hs5 := hb5.size
      have hFb := Lib.hid (partF_bd (fromP Q) N cc (p := p) (by omega))
      go_loopw [15, 16] (fun v i wr => ∃ k : Nat, k ≤ N ∧ i = .int .i64 k ∧ wr.ownsRow w5.heap.size 3 1 v k (ints (tab k (partF (fromP Q) N cc p))) ∧ Below w5.heap.size w5 wr) (fun _ i _ => N - (intOf i).toNat)
      case atStart => exact ⟨0, by omega, rfl, World.ownsRow_nil _ _ _ _, Below.refl _ _⟩
      case round =>
        obtain ⟨k, hk, rfl, hown, hbel⟩ := hrel
        by_cases hlt : k < N
        · have hsz := hbel.size
          have hNN : N ≤ 900000000 := by have := HN.out; omega
          have Hz : Hid (partF (fromP Q) N cc p k = 0) := if_pos hlt
          have hlt' : (k : Int) < (N : Int) := by omega
          go_wp2_with (at_builtin; refine wpList_append_lies _ (by rfl) _ _ _ (by rfl) w5.heap.size 3 i0 _ 1 8 Try.underlying22 hi hz0 hz1 hz2 rfl (by omega) u15 k (ints (tab k (partF (fromP Q) N cc p))) (by rfl) (hown.alloc _) ⟨wr.heap.size, 0, none⟩ 1 1 [.int .i64 0] (by rfl) (by rfl) (World.news_of_block (cs := #[.int .i64 0]) (t := 3) (fr := (0, 0)) (heap_alloc_new wr _)) (by simp [Value.oneCell']) (by omega) (by unfold maxLen; omega) (by omega) (by simp; omega) (wr.heap.size + 1) (by simp) ?_; intro gg cap w6 hown6 hgrow hat hlt6)
          have hb6 := below_app' hbel hown hgrow hsz
          have he : ints (tab k (partF (fromP Q) N cc p)) ++ [.int .i64 0] = ints (tab (k + 1) (partF (fromP Q) N cc p)) := by have := ints_tab_succ k (partF (fromP Q) N cc p); rwa [Hz.out] at this
          rw [he] at hown6
          clear hgrow hat hown he
          go_wp2
          go_roundw
          case rel => exact ⟨k + 1, by omega, by go_num, hown6, hb6⟩
          case measure => simp [intOf]; omega
        · obtain rfl : k = N := by omega
          have hown0 := hown
          have hbel0 := hbel
          clear hown hbel hlt
          obtain ⟨w6, rfl⟩ : ∃ wo : World, wo = wr := ⟨_, rfl⟩
          go_wp2
          go_loopw [15, 17] (fun v i wr => ∃ j : Nat, j ≤ M + 1 ∧ i = .int .i64 j ∧ wr.ownsRow w5.heap.size 3 1 v (k + j) (ints (tab (k + j) (partF (fromP Q) k cc p))) ∧ Below w5.heap.size w5 wr) (fun _ i _ => M + 1 - (intOf i).toNat)
          case atStart => exact ⟨0, by omega, rfl, hown0, hbel0⟩
          case round =>
            obtain ⟨j, hj, rfl, hown, hbel⟩ := hrel
            by_cases hlt : j < M + 1
            · have hsz := hbel.size
              have hNN : k + (M + 1) ≤ 900000000 := by have := HN.out; omega
              have hyb := (hb5.trans (hbel.mono hs5)).cell (p := ⟨by_, oy + j, none⟩) hby
              have hcyj := hyb.trans (Hcy.out j hlt)
              have Hz : Hid (partF (fromP Q) k cc p (k + j) = nth (fromP Q) j * cc % p) := by
                show _ = _
                unfold partF
                rw [if_neg (by omega), show k + j - k = j by omega]
              obtain ⟨d1, d2⟩ := fromP_lt Q j
              have d2' : nth (fromP Q) j < p := d2
              have hm1 : 0 ≤ nth (fromP Q) j * cc := Int.mul_nonneg d1 c1
              have hm2 : nth (fromP Q) j * cc ≤ 65521 * 65521 := Int.mul_le_mul (by omega) (by omega) c1 (by omega)
              have hlt' : (j : Int) < (M : Int) + 1 := by omega
              clear d2 hyb
              go_wp2_with (at_builtin; refine wpList_append_lies _ (by rfl) _ _ _ (by rfl) w5.heap.size 3 i0 _ 1 8 Try.underlying22 hi hz0 hz1 hz2 rfl (by omega) u15 (k + j) (ints (tab (k + j) (partF (fromP Q) k cc p))) (by rfl) (hown.alloc _) ⟨wr.heap.size, 0, none⟩ 1 1 [.int .i64 (nth (fromP Q) j * cc % p)] (by rfl) (by rfl) (World.news_of_block (cs := #[.int .i64 (nth (fromP Q) j * cc % p)]) (t := 3) (fr := (0, 0)) (heap_alloc_new wr _)) (by simp [Value.oneCell']) (by omega) (by unfold maxLen; omega) (by omega) (by simp; omega) (wr.heap.size + 1) (by simp) ?_; intro gg cap w7 hown7 hgrow hat hlt7)
              have hb7 := below_app' hbel hown hgrow hsz
              have he : ints (tab (k + j) (partF (fromP Q) k cc p)) ++ [.int .i64 (nth (fromP Q) j * cc % p)] = ints (tab (k + (j + 1)) (partF (fromP Q) k cc p)) := by have := ints_tab_succ (k + j) (partF (fromP Q) k cc p); rwa [Hz.out] at this
              rw [he] at hown7
              clear hgrow hat hown he
              go_wp2
              go_roundw
              case rel => exact ⟨j + 1, by omega, by go_num, hown7, hb7⟩
              case measure => simp [intOf]; omega
            · obtain rfl : j = M + 1 := by omega
              obtain ⟨A3, c3, rfl⟩ := own_slice hown
              have hin := Ints.of_own hown (tab_i64 fun i => by have := hFb.out i; exact I64.small this.1 (by omega))
              have hRr := hR5.bel hbel
              have hLb : L ≤ 400000000 := by omega
              have hcs := qsum_any (some ⟨br, or_, none⟩) A3 L (k + (M + 1)) cr c3 (fromP R) _ (-1) p wr hp hRr hin (by omega) (by have := HN.out; omega) (by omega)
              have hQl : (fromP Q).length = M + 1 := by rw [fromP_length]; exact HM.out
              have hmv := toP_movedL (q := ⟨p, hp⟩) k (fromP Q) cc
              rw [toP_fromP] at hmv
              have hpt := part_tab (fromP Q) k cc p
              rw [hQl] at hpt
              rw [hpt, hmv, toP_fromP, neg_times] at hcs
              have Cs := Lib.hid hcs
              have hrq8 := hrq5.bel hbel
              have hb8 := hb5.trans (hbel.mono hs5)
              have hsz8 := hb8.size
              clear hcs hin hown hmv hpt hQl hRr
              go_wp2_with fail
              refine Cs.out.mono ?_
              rintro e w9 ⟨A9, c9, rfl, hn9⟩
              go_wp2_with fail
              have hlt9 : (R - Poly.mono k (Zp.of ⟨p, hp⟩ cc) * Q).len < L := by have := Hstep.out.2; rw [hRl.out] at this; exact this
              have hgq := hrq8.lt
              have hA9 : Hid (0 < (R - Poly.mono k (Zp.of ⟨p, hp⟩ cc) * Q).len → ∀ x, A9 = some x → x.block ≠ w2.heap.size) := fun _ x hx => by have := hn9.blk x hx; omega
              have hst9 := Lib.hid Hstep.out.1
              have hrq9 := hrq8.bel hn9.bel
              have hb9 := hb8.trans (hn9.bel.mono hsz8)
              have hr9 := hn9.rd
              go_roundg L
              case measure => omega
              case rel => exact ⟨_, _, A9, c9, _, hlt9, by omega, rfl, rfl, hr9, hA9, hrq9, hst9, hb9⟩
    · have hfin := hst.out.done (by rw [HM.out, hRl.out]; omega)
      have hin := hrq.ints (fun i => Pl.i64 hst.out.pq hp2 i)
      rw [hql] at hin
      have cp := qplain_any _ (L0 + 1) (L0 + 1) qs p wo hp hin (by omega)
      rw [← hfin.1] at cp
      have Cp := Lib.hid cp
      have Hr : Hid (Poly.rem P Q = R) := hfin.2
      have hlt' : ¬ (M : Int) + 1 ≤ (L : Int) := by omega
      have Hlq : Hid ((Poly.quo P Q).len ≤ n) := by have := Cl.quo_len' P Hq0.out; rw [HL0.out] at this; show _ ≤ _; omega
      have Hb9 := Lib.hid (HB2.out.trans (hbel.mono hs2))
      clear cp hfin hin hql hlt
      go_wp2_with fail
      refine Cp.out.mono ?_
      rintro e w9 ⟨A9, c9, rfl, hn9⟩
      go_wp2_with fail
      go_ret3
      have hr9 := hR.bel hn9.bel
      have hRl' := hRl.out
      subst hRl'
      rw [← Hr.out] at hr9 ⊢
      refine ⟨A9, c9, _, _, rfl, Hlq.out, ?_, hn9.rd, hr9, below_tr Hb9.out hn9.bel, fun x hx => Nat.le_trans Hb9.out.size (hn9.blk x hx)⟩
      have h1 := Cl.rem_len' P Hq0.out
      have h2 := HM.out
      omega
end Go.Proofs.Ytbcapmnklgdeoaa
