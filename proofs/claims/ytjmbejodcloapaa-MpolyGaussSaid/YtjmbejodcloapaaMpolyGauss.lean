/- The walk of MpolyGauss: contents of products (printed by gen/law17g.py). -/
import Derived.Test.YtjmbejodcloapaaLawV17
import Derived.Test.YtjmbejodcloapaaPrimK
import Derived.Test.YtjmbejodcloapaaGauK
namespace Go.Proofs.Ytjmbejodcloapaa
open Go.RowKit Cl
attribute [local go_sem ↓] Go.wp_at_zero Go.wp_at_succ
section
variable {n b d k : Nat} {L Q T : List TV}
theorem cz_abs (ha : Has n b d k L) (pq : PlainT n Q) (e : EqM n (mvT Q) (mvT L)) : (czM (mvT Q)).natAbs ≤ 2 ^ b := by
  rw [czM_abs]
  by_cases h0 : mvT Q = []
  · rw [h0]; exact Nat.zero_le _
  · match hQ : mvT Q, h0 with
    | t :: Q', _ =>
      have ht : t ∈ mvT Q := by rw [hQ]; exact List.mem_cons_self
      have h1 := pq.mv.small e ht
      have h2 := cntM_dvd ht
      rw [hQ] at h2
      have h3 := pq.mv.ne t ht
      have h4 := Nat.le_of_dvd (by omega) h2
      have := ha.ab
      omega
theorem cz_short (ha : Has n b d k L) (pq : PlainT n Q) (e : EqM n (mvT Q) (mvT L)) {s : Bool} {ls : List Int} (z : ZVal s ls (czM (mvT Q))) : ls.length ≤ b / 64 + 1 :=
  zval_short z (Nat.lt_of_le_of_lt (cz_abs ha pq e) (Nat.pow_lt_pow_right (by decide) (by omega)))
theorem pr_abs (M : Mv) : absM (prM M) ≤ absM M := by
  have h : ∀ (z : Int) (N : Mv), absM (N.map fun t => (t.1, t.2 / z)) ≤ absM N := fun z N => by
    induction N with
    | nil => exact Nat.le_refl _
    | cons t N ih =>
      show (t.2 / z).natAbs + absM (N.map _) ≤ t.2.natAbs + absM N
      have := Int.natAbs_ediv_le_natAbs t.2 z
      omega
  exact h _ M
theorem has_pr (ha : Has n b d k L) (pq : PlainT n Q) (e : EqM n (mvT Q) (mvT L)) (pt : PlainT n T) (v : mvT T = prM (mvT Q)) {b' : Nat} (hb : b + 24 ≤ b') (hd : d ≤ 1000) (hk : k ≤ 4096) : Has n b' d k T := by
  have hQ : Has n (b + 12) d k Q := has_plain pq e ha.bd ha.ab (by rw [mvT_length]; exact ha.cnt) hd hk (by omega)
  refine has_plain (b' := b + 12) pt (by rw [v]; exact EqM.refl n _) ?_ (Nat.le_trans (pr_abs _) hQ.ab) (by unfold prM; rw [List.length_map, mvT_length]; exact hQ.cnt) hd hk (by omega)
  intro t ht
  obtain ⟨u, hu, rfl⟩ := List.mem_map.1 ht
  exact hQ.bd u hu
theorem has_const (ha : Has n b d k L) (pq : PlainT n Q) (e : EqM n (mvT Q) (mvT L)) (pt : PlainT n T) (v : EqM n (mvT T) [(List.replicate n 0, czM (mvT Q))]) {b' : Nat} (hb : b + 12 ≤ b') : Has n b' 0 1 T := by
  refine has_plain (b' := b) pt v ?_ ?_ (by simp) (by omega) (by omega) hb
  · intro t ht x hx
    rw [List.mem_singleton.1 ht] at hx
    rw [List.eq_of_mem_replicate hx]; omega
  · show (czM (mvT Q)).natAbs + 0 ≤ _
    have := cz_abs ha pq e
    omega
/-- The content times the rest is the whole. -/
theorem whole_eq {C R X : List TV} (lenC : LenM n (mvT C)) (lenT : LenM n (mvT T)) (_lenQ : LenM n (mvT Q)) (v : mvT T = prM (mvT Q)) (c : EqM n (mvT C) [(List.replicate n 0, czM (mvT Q))]) (r : EqM n (mvT R) (mulM (mvT C) (mvT T))) (q : EqM n (mvT Q) (mvT L)) (x : EqM n (mvT X) (mvT L)) : EqM n (mvT R) (mvT X) := by
  refine r.trans ((c.mulL lenC (fun t ht => by rw [List.mem_singleton.1 ht]; exact List.length_replicate) lenT).trans ?_)
  have h1 : mulM [(List.replicate n 0, czM (mvT Q))] (mvT T) = scaleM (czM (mvT Q)) (mvT T) := by
    show ((mvT T).map fun b => (addP (List.replicate n 0) b.1, czM (mvT Q) * b.2)) ++ [] = _
    rw [List.append_nil]
    unfold scaleM
    refine List.map_congr_left fun t ht => ?_
    have h2 : addP (List.replicate n 0) t.1 = t.1 := list_ext (by rw [addP_length (n := n) List.length_replicate (lenT t ht)]; exact (lenT t ht).symm) fun i hi => by
      rw [addP_length (n := n) List.length_replicate (lenT t ht)] at hi
      rw [nth_addI List.length_replicate (lenT t ht) hi, nth_lt (by rw [List.length_replicate]; exact hi), List.getElem_replicate, Int.zero_add]
    rw [h2]
  rw [h1, v, scale_pr]
  exact q.trans x.symm
end
set_option maxRecDepth 1000000 in
set_option maxHeartbeats 16000000 in
theorem law_MpolyGauss (a0 : Int) (A1 : Option Addr) (m1 c1 : Nat) (L1 : List TV) (A2 : Option Addr) (m2 c2 : Nat) (L2 : List TV) (w : World) (lo0 : -9223372036854775808 ≤ a0) (hi0 : a0 ≤ 9223372036854775807)
    (w1 : Trs w A1 m1 L1) (h1 : m1 ≤ c1) (k1 : c1 ≤ 9223372036854775807) (w2 : Trs w A2 m2 L2) (h2 : m2 ≤ c2) (k2 : c2 ≤ 9223372036854775807) :
    Calls Try.prog 6 #[.int .i64 a0, .slice A1 m1 c1, .slice A2 m2 c2] w fun e w' => e = .returned (.bool true) ∧ Below w.heap.size w w' := by
  have Ta := Lib.hid w1
  have Tb := Lib.hid w2
  clear w1 w2
  go_enter Try.func6, Try.ntmps6
  go_wp2_with fail
  refine (awake17 w).mono ?_
  rintro e wa ⟨rfl, hba⟩
  have hb3 : Below w.heap.size w (wa.alloc (.cells #[.slice A1 m1 c1, .slice A2 m2 c2] 22)) := hba.alloc hba.size _
  have hq := heap_alloc_new wa (.cells #[.slice A1 m1 c1, .slice A2 m2 c2] 22)
  go_wp2_with fail
  generalize wa.alloc (.cells #[.slice A1 m1 c1, .slice A2 m2 c2] 22) = wb at *
  refine (lsmall2 8 2 20 wa.heap.size 2 A1 A2 m1 m2 c1 c2 L1 L2 wb ((cell_of_row wb _ 0 _ _ (0, 0) hq).trans rfl) ((cell_of_row wb _ 1 _ _ (0, 0) hq).trans rfl) (Ta.out.bel hb3) (Tb.out.bel hb3) (by omega) (by omega)).mono ?_
  rintro e wc ⟨sm, rfl, rfl, hsm⟩
  have Hb := Lib.hid hb3
  have Hsm := Lib.hid hsm
  clear hb3 hq hba hsm
  cases sm with
  | false =>
    go_wp2_with fail
    go_ret
    exact ⟨rfl, Hb.out⟩
  | true =>
    · go_wp2_with fail
      refine (mcheck a0 A1 m1 c1 L1 wb (Ta.out.bel Hb.out)).mono ?_
      rintro e wd ⟨rfl, hb⟩
      have HB1 : Hid (Below w.heap.size w wd) := Hb.out.trans (hb.mono Hb.out.size)
      clear hb Hb
      by_cases ho1 : OkL a0 L1
      rotate_left
      · rw [chkN_no ho1]
        go_wp2_with fail
        go_ret
        exact ⟨rfl, HB1.out⟩
      rw [chkN_ok ho1]
      have Ho1 := Lib.hid ho1
      clear ho1
      go_wp2_with fail
      refine (mcheck a0 A2 m2 c2 L2 wd (Tb.out.bel HB1.out)).mono ?_
      rintro e we ⟨rfl, hb⟩
      have HB : Hid (Below w.heap.size w we) := HB1.out.trans (hb.mono HB1.out.size)
      clear hb HB1
      by_cases ho2 : OkL a0 L2
      rotate_left
      · rw [chkN_no ho2]
        go_wp2_with fail
        go_ret
        exact ⟨rfl, HB.out⟩
      · rw [chkN_ok ho2]
        have Ho2 := Lib.hid ho2
        clear ho2
        obtain ⟨n, hn⟩ : ∃ n : Nat, a0 = (n : Int) := ⟨a0.toNat, by have := Ho1.out.1; omega⟩
        subst hn
        have hn6 : n ≤ 6 := by have := Ho1.out.2.1; omega
        obtain ⟨s1, s2⟩ : SmallL 8 2 20 L1 ∧ SmallL 8 2 20 L2 := (by first | exact Hsm.out rfl | exact Hsm.out trivial)
        have Ha := Lib.hid (has_in (d := 20) (in_of Ta.out (by omega) s1 Ho1.out))
        have Hb := Lib.hid (has_in (d := 20) (in_of Tb.out (by omega) s2 Ho2.out))
        clear s1 s2 Hsm Ho1 Ho2
        replace Ta := Lib.hid (Ta.out.bel HB.out)
        replace Tb := Lib.hid (Tb.out.bel HB.out)
        go_wp2_with fail
        refine (mprim n _ A1 m1 c1 L1 _ Ta.out Ha.out.arg hn6 (by omega)).mono ?_
        rintro e v1 ⟨sp, Acp, kp, ccp, lp, Ap, cp, Lp, Qp, rfl, u1p, u2p, t1, t2, t3, t4, u3p, u4p, t5, t6, t7, hb⟩
        replace Ta := Lib.hid (Ta.out.bel hb)
        replace Tb := Lib.hid (Tb.out.bel hb)
        replace HB : Hid (Below w.heap.size w v1) := HB.out.trans (hb.mono HB.out.size)
        have hnp := t1.len
        have Lcp := Lib.hid t1
        have PQp := Lib.hid t2
        have EQp := Lib.hid t3
        have Zcp := Lib.hid t4
        have Tp := Lib.hid t5
        have Pp := Lib.hid t6
        have Vp := Lib.hid t7
        have hlp := t6.mv.count (EqM.refl n (mvT Lp))
        clear t1 t2 t3 t4 t5 t6 t7 hb
        have hb : Below v1.heap.size v1 (v1.alloc (.cells #[.bool sp, .slice Acp kp ccp] 34)) := (Below.refl _ _).alloc (Nat.le_refl _) _
        replace Ta := Lib.hid (Ta.out.bel hb)
        replace Tb := Lib.hid (Tb.out.bel hb)
        replace Tp := Lib.hid (Tp.out.bel hb)
        replace Lcp := Lib.hid (Lcp.out.bel hb)
        replace HB : Hid (Below w.heap.size w (v1.alloc (.cells #[.bool sp, .slice Acp kp ccp] 34))) := HB.out.trans (hb.mono HB.out.size)
        have Dp := Lib.hid (Duo.new v1 (.bool sp) (.slice Acp kp ccp))
        clear hb
        go_wp2_with fail
        generalize v1.alloc (.cells #[.bool sp, .slice Acp kp ccp] 34) = v2 at *
        generalize hgp : v1.heap.size = gp at *
        clear hgp
        go_wp2_with fail
        refine (mprim n _ A2 m2 c2 L2 _ Tb.out Hb.out.arg hn6 (by omega)).mono ?_
        rintro e v3 ⟨sq, Acq, kq, ccq, lq, Aq, cq, Lq, Qq, rfl, u1q, u2q, t1, t2, t3, t4, u3q, u4q, t5, t6, t7, hb⟩
        replace Ta := Lib.hid (Ta.out.bel hb)
        replace Tb := Lib.hid (Tb.out.bel hb)
        replace Tp := Lib.hid (Tp.out.bel hb)
        replace Lcp := Lib.hid (Lcp.out.bel hb)
        replace Dp := Lib.hid (Dp.out.bel hb)
        replace HB : Hid (Below w.heap.size w v3) := HB.out.trans (hb.mono HB.out.size)
        have hnq := t1.len
        have Lcq := Lib.hid t1
        have PQq := Lib.hid t2
        have EQq := Lib.hid t3
        have Zcq := Lib.hid t4
        have Tq := Lib.hid t5
        have Pq := Lib.hid t6
        have Vq := Lib.hid t7
        have hlq := t6.mv.count (EqM.refl n (mvT Lq))
        clear t1 t2 t3 t4 t5 t6 t7 hb
        have hb : Below v3.heap.size v3 (v3.alloc (.cells #[.bool sq, .slice Acq kq ccq] 34)) := (Below.refl _ _).alloc (Nat.le_refl _) _
        replace Ta := Lib.hid (Ta.out.bel hb)
        replace Tb := Lib.hid (Tb.out.bel hb)
        replace Tp := Lib.hid (Tp.out.bel hb)
        replace Lcp := Lib.hid (Lcp.out.bel hb)
        replace Dp := Lib.hid (Dp.out.bel hb)
        replace Tq := Lib.hid (Tq.out.bel hb)
        replace Lcq := Lib.hid (Lcq.out.bel hb)
        replace HB : Hid (Below w.heap.size w (v3.alloc (.cells #[.bool sq, .slice Acq kq ccq] 34))) := HB.out.trans (hb.mono HB.out.size)
        have Dq := Lib.hid (Duo.new v3 (.bool sq) (.slice Acq kq ccq))
        clear hb
        go_wp2_with fail
        generalize v3.alloc (.cells #[.bool sq, .slice Acq kq ccq] 34) = v4 at *
        generalize hgq : v3.heap.size = gq at *
        clear hgq
        go_wp2_with fail
        refine (htimes Ta.out Ha.out hn6 Tb.out Hb.out (by omega) (by omega) (by omega) (by omega)).mono ?_
        rintro e v5 ⟨Az, cz, Lz, rfl, lz, t3, t4, t5, hb⟩
        replace Ta := Lib.hid (Ta.out.bel hb)
        replace Tb := Lib.hid (Tb.out.bel hb)
        replace Tp := Lib.hid (Tp.out.bel hb)
        replace Lcp := Lib.hid (Lcp.out.bel hb)
        replace Dp := Lib.hid (Dp.out.bel hb)
        replace Tq := Lib.hid (Tq.out.bel hb)
        replace Lcq := Lib.hid (Lcq.out.bel hb)
        replace Dq := Lib.hid (Dq.out.bel hb)
        replace HB : Hid (Below w.heap.size w v5) := HB.out.trans (hb.mono HB.out.size)
        obtain ⟨nz, hnz⟩ : ∃ k, Lz.length = k := ⟨_, rfl⟩
        rw [hnz] at lz t3 ⊢
        have Tz := Lib.hid t3
        have Pz := Lib.hid t4
        have Ez := Lib.hid t5
        clear t3 t4 t5 hnz hb
        have Hz : Hid (Has n 300 40 64 Lz) := has_mul Ha.out Hb.out Pz.out Ez.out (by omega) (by omega) (by omega) (by omega) (by omega)
        go_wp2_with fail
        refine (mprim n _ Az nz cz Lz _ Tz.out Hz.out.arg hn6 (by omega)).mono ?_
        rintro e v6 ⟨sr, Acr, kr, ccr, lr, Ar, cr, Lr, Qr, rfl, u1r, u2r, t1, t2, t3, t4, u3r, u4r, t5, t6, t7, hb⟩
        replace Ta := Lib.hid (Ta.out.bel hb)
        replace Tb := Lib.hid (Tb.out.bel hb)
        replace Tp := Lib.hid (Tp.out.bel hb)
        replace Lcp := Lib.hid (Lcp.out.bel hb)
        replace Dp := Lib.hid (Dp.out.bel hb)
        replace Tq := Lib.hid (Tq.out.bel hb)
        replace Lcq := Lib.hid (Lcq.out.bel hb)
        replace Dq := Lib.hid (Dq.out.bel hb)
        replace Tz := Lib.hid (Tz.out.bel hb)
        replace HB : Hid (Below w.heap.size w v6) := HB.out.trans (hb.mono HB.out.size)
        have hnr := t1.len
        have Lcr := Lib.hid t1
        have PQr := Lib.hid t2
        have EQr := Lib.hid t3
        have Zcr := Lib.hid t4
        have Tr := Lib.hid t5
        have Pr := Lib.hid t6
        have Vr := Lib.hid t7
        have hlr := t6.mv.count (EqM.refl n (mvT Lr))
        clear t1 t2 t3 t4 t5 t6 t7 hb
        have hb : Below v6.heap.size v6 (v6.alloc (.cells #[.bool sr, .slice Acr kr ccr] 34)) := (Below.refl _ _).alloc (Nat.le_refl _) _
        replace Ta := Lib.hid (Ta.out.bel hb)
        replace Tb := Lib.hid (Tb.out.bel hb)
        replace Tp := Lib.hid (Tp.out.bel hb)
        replace Lcp := Lib.hid (Lcp.out.bel hb)
        replace Dp := Lib.hid (Dp.out.bel hb)
        replace Tq := Lib.hid (Tq.out.bel hb)
        replace Lcq := Lib.hid (Lcq.out.bel hb)
        replace Dq := Lib.hid (Dq.out.bel hb)
        replace Tz := Lib.hid (Tz.out.bel hb)
        replace Tr := Lib.hid (Tr.out.bel hb)
        replace Lcr := Lib.hid (Lcr.out.bel hb)
        replace HB : Hid (Below w.heap.size w (v6.alloc (.cells #[.bool sr, .slice Acr kr ccr] 34))) := HB.out.trans (hb.mono HB.out.size)
        have Dr := Lib.hid (Duo.new v6 (.bool sr) (.slice Acr kr ccr))
        clear hb
        have x0 := Dp.out.cell0
        have x1 := Dp.out.cell1
        go_wp2_with fail
        clear x0 x1
        generalize v6.alloc (.cells #[.bool sr, .slice Acr kr ccr] 34) = v7 at *
        generalize hgr : v6.heap.size = gr at *
        clear hgr
        have hkp : kp ≤ 1000000 := by have := cz_short Ha.out PQp.out EQp.out Zcp.out; rw [hnp] at this; omega
        have hkq : kq ≤ 1000000 := by have := cz_short Hb.out PQq.out EQq.out Zcq.out; rw [hnq] at this; omega
        have Hp : Hid (Has n 168 20 8 Lp) := has_pr Ha.out PQp.out EQp.out Pp.out Vp.out (by omega) (by omega) (by omega)
        have Hq : Hid (Has n 168 20 8 Lq) := has_pr Hb.out PQq.out EQq.out Pq.out Vq.out (by omega) (by omega) (by omega)
        have HG : Hid (czM (mvT Qr) = czM (mvT Qp) * czM (mvT Qq) ∧ EqM n (prM (mvT Qr)) (mulM (prM (mvT Qp)) (prM (mvT Qq)))) := gauss PQp.out.mv PQq.out.mv PQr.out.mv ((EQr.out.trans Ez.out).trans (EQp.out.symm.mul EQq.out.symm Ha.out.arg.lenM PQp.out.mv.len Hb.out.arg.lenM PQq.out.mv.len))
        refine ((mconst n sp Acp kp ccp lp _ Lcp.out hn6 u1p u2p hkp).mono fun _ _ h => gives4_P h (by simp)).mono ?_
        rintro e v8 ⟨Am, cm, Lm, rfl, lm, t3, t4, t5, hb⟩
        replace Ta := Lib.hid (Ta.out.bel hb)
        replace Tb := Lib.hid (Tb.out.bel hb)
        replace Tp := Lib.hid (Tp.out.bel hb)
        replace Lcp := Lib.hid (Lcp.out.bel hb)
        replace Dp := Lib.hid (Dp.out.bel hb)
        replace Tq := Lib.hid (Tq.out.bel hb)
        replace Lcq := Lib.hid (Lcq.out.bel hb)
        replace Dq := Lib.hid (Dq.out.bel hb)
        replace Tz := Lib.hid (Tz.out.bel hb)
        replace Tr := Lib.hid (Tr.out.bel hb)
        replace Lcr := Lib.hid (Lcr.out.bel hb)
        replace Dr := Lib.hid (Dr.out.bel hb)
        replace HB : Hid (Below w.heap.size w v8) := HB.out.trans (hb.mono HB.out.size)
        obtain ⟨nm, hnm⟩ : ∃ k, Lm.length = k := ⟨_, rfl⟩
        rw [hnm] at lm t3 ⊢
        have Tm := Lib.hid t3
        have Pm := Lib.hid t4
        have Em := Lib.hid t5
        clear t3 t4 t5 hnm hb
        have Em2 : Hid (EqM n (mvT Lm) [(List.replicate n 0, czM (mvT Qp))]) := by have h := Em.out; rw [Zcp.out.eq] at h; exact h
        have Hm : Hid (Has n 168 0 1 Lm) := has_const Ha.out PQp.out EQp.out Pm.out Em2.out (by omega)
        go_wp2_with fail
        refine (mnorm4 n _ A1 m1 c1 L1 _ Ta.out Ha.out.arg hn6 (by omega)).mono ?_
        rintro e v9 ⟨Ax, cx, Lx, rfl, lx, t3, t4, t5, hb⟩
        replace Ta := Lib.hid (Ta.out.bel hb)
        replace Tb := Lib.hid (Tb.out.bel hb)
        replace Tp := Lib.hid (Tp.out.bel hb)
        replace Lcp := Lib.hid (Lcp.out.bel hb)
        replace Dp := Lib.hid (Dp.out.bel hb)
        replace Tq := Lib.hid (Tq.out.bel hb)
        replace Lcq := Lib.hid (Lcq.out.bel hb)
        replace Dq := Lib.hid (Dq.out.bel hb)
        replace Tz := Lib.hid (Tz.out.bel hb)
        replace Tr := Lib.hid (Tr.out.bel hb)
        replace Lcr := Lib.hid (Lcr.out.bel hb)
        replace Dr := Lib.hid (Dr.out.bel hb)
        replace Tm := Lib.hid (Tm.out.bel hb)
        replace HB : Hid (Below w.heap.size w v9) := HB.out.trans (hb.mono HB.out.size)
        obtain ⟨nx, hnx⟩ : ∃ k, Lx.length = k := ⟨_, rfl⟩
        rw [hnx] at lx t3 ⊢
        have Tx := Lib.hid t3
        have Px := Lib.hid t4
        have Ex := Lib.hid t5
        clear t3 t4 t5 hnx hb
        have x0 := Dp.out.cell0
        have x1 := Dp.out.cell1
        have x2 := Dq.out.cell0
        have x3 := Dq.out.cell1
        have x4 := Dr.out.cell0
        have x5 := Dr.out.cell1
        have y1 := Dp.out.lt
        have y2 := Dq.out.lt
        have y3 := Dr.out.lt
        have keepX : Hid (∀ W, Below v9.heap.size v9 W → W.cell? ⟨gr, 0, none⟩ = some (.bool sr) ∧ W.cell? ⟨gr, 1, none⟩ = some (.slice Acr kr ccr) ∧ W.cell? ⟨gp, 0, none⟩ = some (.bool sp) ∧ W.cell? ⟨gp, 1, none⟩ = some (.slice Acp kp ccp) ∧ W.cell? ⟨gq, 0, none⟩ = some (.bool sq) ∧ W.cell? ⟨gq, 1, none⟩ = some (.slice Acq kq ccq)) := fun W hW => ⟨(hW.cell (p := ⟨gr, 0, none⟩) y3).trans x4, (hW.cell (p := ⟨gr, 1, none⟩) y3).trans x5, (hW.cell (p := ⟨gp, 0, none⟩) y1).trans x0, (hW.cell (p := ⟨gp, 1, none⟩) y1).trans x1, (hW.cell (p := ⟨gq, 0, none⟩) y2).trans x2, (hW.cell (p := ⟨gq, 1, none⟩) y2).trans x3⟩
        have HR1 : Hid (∀ (Lt : List TV), PlainT n Lt → EqM n (mvT Lt) (mulM (mvT Lp) (mvT Lq)) → Lr = Lt) := fun Lt t4 t5 => Pr.out.unique t4 (by rw [Vr.out]; refine HG.out.2.trans ?_; rw [← Vp.out, ← Vq.out]; exact t5.symm)
        have HR2 : Hid (∀ (Lt : List TV), PlainT n Lt → EqM n (mvT Lt) (mulM (mvT Lm) (mvT Lp)) → Lx = Lt) := fun Lt t4 t5 => Px.out.unique t4 (whole_eq Pm.out.mv.len Pp.out.mv.len PQp.out.mv.len Vp.out Em2.out t5 EQp.out Ex.out).symm
        have HR3 : Hid (∀ (s : Bool) (ls : List Int), ZVal s ls (intZ sp lp * intZ sq lq) → sr = s ∧ lr = ls) := fun s ls z => Zcr.out.unique (by rw [HG.out.1, ← Zcp.out.eq, ← Zcq.out.eq]; exact z)
        have hxl := Tx.out.len
        have hml := Tm.out.len
        go_wp2_with fail
        go_region_held3 (fun W => W.cell? ⟨gr, 0, none⟩ = some (.bool sr) ∧ W.cell? ⟨gr, 1, none⟩ = some (.slice Acr kr ccr) ∧ W.cell? ⟨gp, 0, none⟩ = some (.bool sp) ∧ W.cell? ⟨gp, 1, none⟩ = some (.slice Acp kp ccp) ∧ W.cell? ⟨gq, 0, none⟩ = some (.bool sq) ∧ W.cell? ⟨gq, 1, none⟩ = some (.slice Acq kq ccq))
          (first | go_keep | exact keepX.out _ (Below.refl _ _).drew | exact keepX.out _ (Below.refl _ _) | exact keepX.out _ hbm | exact keepX.out _ hbs | exact keepX.out _ hbt | exact keepX.out _ hbu | exact keepX.out _ hbv | exact keepX.out _ hbw)
          (first
            | (go_at_call 15; refine (zmul sp sq Acp Acq kp kq ccp ccq lp lq _ (Lcp.out.bel (by first | exact (Below.refl _ _).drew | exact Below.refl _ _)) (Lcq.out.bel (by first | exact (Below.refl _ _).drew | exact Below.refl _ _)) u1p u2p u1q u2q (by omega) (by omega)).mono ?_; rintro e wm ⟨s7, A7, k7, c7, l7, rfl, p1, p2, p3, p4, p5, hbm'⟩; have hbm : Below v9.heap.size v9 wm := (by first | exact (Below.refl _ _).drew.trans hbm' | exact hbm'))
            | (go_at_call 14; refine (same02_any sr s7 Acr A7 kr k7 ccr c7 lr l7 wm (Lcr.out.bel hbm) p4 (by omega) (by omega) true ⟨fun _ => rfl, fun _ => HR3.out s7 l7 p5⟩).mono ?_; rintro e ws ⟨rfl, hbs'⟩; have hbs : Below v9.heap.size v9 ws := hbm.trans (hbs'.mono hbm.size))
            | (go_at_call 11; (with_reducible show Calls _ _ #[_, .slice Ap _ _, _] _ _); refine (htimes (Tp.out.bel hbs) Hp.out hn6 (Tq.out.bel hbs) Hq.out (by omega) (by omega) (by omega) (by omega)).mono ?_; rintro e wt ⟨At, ct, Lt, rfl, lt1, t3, t4, t5, hbt'⟩; have hbt : Below v9.heap.size v9 wt := hbs.trans (hbt'.mono hbs.size); have he1 := HR1.out Lt t4 t5; subst he1)
            | (go_at_call 16; (with_reducible show Calls _ _ #[.slice Ar _ _, _] _ _); refine (lsame_true Ar At Lr.length cr ct Lr _ (Tr.out.bel hbt) t3 (by omega)).mono ?_; rintro e wu ⟨rfl, hbu'⟩; have hbu : Below v9.heap.size v9 wu := hbt.trans (hbu'.mono hbt.size))
            | (go_at_call 11; refine (htimes (Tm.out.bel hbu) Hm.out hn6 (Tp.out.bel hbu) Hp.out (by omega) (by omega) (by omega) (by omega)).mono ?_; rintro e wv ⟨Av, cv, Lv, rfl, lv1, f3, f4, f5, hbv'⟩; have hbv : Below v9.heap.size v9 wv := hbu.trans (hbv'.mono hbu.size); have he2 := HR2.out Lv f4 f5; subst he2; have htx := Tx.out.bel hbv; rw [hxl] at f3)
            | (go_at_call 16; refine (lsame_true Av Ax nx cv cx Lx _ f3 htx (by omega)).mono ?_; rintro e ww ⟨rfl, hbw'⟩; have hbw : Below v9.heap.size v9 ww := hbv.trans (hbw'.mono hbv.size)))
        have HBf : Hid (Below w.heap.size w ww) := HB.out.trans (hbw.mono HB.out.size)
        go_wp2_with fail
        go_ret
        exact ⟨rfl, HBf.out⟩
end Go.Proofs.Ytjmbejodcloapaa
