/- Contracts: the document's degrees; its derivatives, values, degrees where the arguments may not be.
   Terms collected in a row of the call's own: the row, the terms, what they come to.
   Contract: the document's derivatives.
   Contract: the document's values of polynomials. -/
import Derived.Test.YtjmbejodcloapaaGreatPRpln
import Derived.Test.YtjmbejodcloapaaGreatPZsc
import Derived.Test.YtjmbejodcloapaaGreatPPrs
import Derived.Test.YtjmbejodcloapaaGreatPLaws
import Derived.Test.YtjmbejodcloapaaGreatPRzs
import Derived.Test.YtjmbejodcloapaaGreatPRfs
set_option linter.unusedVariables false
set_option linter.unusedSimpArgs false
namespace Go.Proofs.YtjmbejodcloapaaGreat
open Go.RowKit Cl
attribute [local go_sem ↓] Go.wp_at_zero Go.wp_at_succ
set_option maxRecDepth 100000 in
theorem r17deriv_no (n i : Int) (A : Option Addr) (ma ca : Nat) (L : List TV) (w : World) (hx : Trs w A ma L) (hno : chkN n L = 1 ∨ i < 0 ∨ n ≤ i) :
    Calls Tryz.prog 11 #[.int .i64 n, .slice A ma ca, .int .i64 i] w (GivesNo w) := by
  have Cc := Lib.hid (r17check n A ma ca L w hx)
  unfold RChk at Cc
  have Hno := Lib.hid hno
  clear hx hno
  rcases chk_cases n L with ⟨h, _⟩ | h
  · have h1 : i < 0 ∨ n ≤ i := by rcases Hno.out with h2 | h2; (· rw [h] at h2; cases h2); exact h2
    rw [h] at Cc
    clear h Hno
    by_cases h2 : i < 0
    · clear h1
      go_enter Tryz.func11, Tryz.ntmps11
      go_wp2_with fail
      refine Cc.out.mono ?_
      rintro e w1 ⟨rfl, rfl⟩
      have hb1 := Below.refl w.heap.size w
      go_wp2_with fail
      go_ret2
      exact ⟨rfl, hb1⟩
    · have h3 : n ≤ i := by omega
      have h4 : ¬ i < n := by omega
      clear h1
      go_enter Tryz.func11, Tryz.ntmps11
      go_wp2_with fail
      refine Cc.out.mono ?_
      rintro e w1 ⟨rfl, rfl⟩
      have hb1 := Below.refl w.heap.size w
      go_wp2_with fail
      go_ret2
      exact ⟨rfl, hb1⟩
  · rw [h] at Cc
    clear h Hno
    go_enter Tryz.func11, Tryz.ntmps11
    go_wp2_with fail
    refine Cc.out.mono ?_
    rintro e w1 ⟨rfl, rfl⟩
    have hb1 := Below.refl w.heap.size w
    go_wp2_with fail
    go_ret2
    exact ⟨rfl, hb1⟩
set_option maxRecDepth 100000 in
theorem r17degree_no (n i : Int) (A : Option Addr) (ma ca : Nat) (L : List TV) (w : World) (hx : Trs w A ma L) (hno : chkN n L = 1 ∨ i < 0 ∨ n ≤ i) :
    Calls Tryz.prog 15 #[.int .i64 n, .slice A ma ca, .int .i64 i] w (GivesNoI w) := by
  have Cc := Lib.hid (r17check n A ma ca L w hx)
  unfold RChk at Cc
  have Hno := Lib.hid hno
  clear hx hno
  rcases chk_cases n L with ⟨h, _⟩ | h
  · have h1 : i < 0 ∨ n ≤ i := by rcases Hno.out with h2 | h2; (· rw [h] at h2; cases h2); exact h2
    rw [h] at Cc
    clear h Hno
    by_cases h2 : i < 0
    · clear h1
      go_enter Tryz.func15, Tryz.ntmps15
      go_wp2_with fail
      refine Cc.out.mono ?_
      rintro e w1 ⟨rfl, rfl⟩
      have hb1 := Below.refl w.heap.size w
      go_wp2_with fail
      go_ret2
      exact ⟨rfl, hb1⟩
    · have h3 : n ≤ i := by omega
      have h4 : ¬ i < n := by omega
      clear h1
      go_enter Tryz.func15, Tryz.ntmps15
      go_wp2_with fail
      refine Cc.out.mono ?_
      rintro e w1 ⟨rfl, rfl⟩
      have hb1 := Below.refl w.heap.size w
      go_wp2_with fail
      go_ret2
      exact ⟨rfl, hb1⟩
  · rw [h] at Cc
    clear h Hno
    go_enter Tryz.func15, Tryz.ntmps15
    go_wp2_with fail
    refine Cc.out.mono ?_
    rintro e w1 ⟨rfl, rfl⟩
    have hb1 := Below.refl w.heap.size w
    go_wp2_with fail
    go_ret2
    exact ⟨rfl, hb1⟩
theorem ok_len {n : Nat} {L : List TV} (h : OkL (n : Int) L) : ∀ t ∈ L, t.2.length = n := fun t ht => by
  obtain ⟨i, hi, rfl⟩ := List.mem_iff_getElem.1 ht
  have h1 : ((L[i].2.length : Nat) : Int) = (n : Int) := (h.2.2.2 i hi).1
  omega
theorem ok_bd {n : Nat} {L : List TV} (h : OkL (n : Int) L) : BdM 1000 (mvT L) := mvT_bd fun t ht x hx => by
  obtain ⟨i, hi, rfl⟩ := List.mem_iff_getElem.1 ht
  obtain ⟨j, hj, rfl⟩ := List.mem_iff_getElem.1 hx
  have h1 := (h.2.2.2 i hi).2 j hj
  rw [nth_lt hj] at h1
  exact h1
set_option maxRecDepth 100000 in
set_option maxHeartbeats 4000000 in
theorem r17degree (n C K : Nat) (A : Option Addr) (ma ca : Nat) (L : List TV) (i : Nat) (w : World) (hx : Trs w A ma L) (ho : OkL (n : Int) L) (hi : i < n) (hC : ∀ t ∈ L, t.1.2.length ≤ C) (hC1 : C ≤ 1000000) (hK : K ≤ 1000000) (hab : absM (mvT L) < 2 ^ (64 * K)) :
    Calls Tryz.prog 15 #[.int .i64 (n : Int), .slice A ma ca, .int .i64 (i : Int)] w (GivesD w n i (mvT L)) := by
  have hml := hx.len
  have hcnt := ho.2.2.1
  have hn6 := ho.2.1
  have hm : ma ≤ 4096 := by omega
  have Cc := Lib.hid (r17check (n : Int) A ma ca L w hx)
  have Cp := Lib.hid (r17plain n C K A ma ca L w hx (ok_len ho) hC hC1 hK hab (by omega) (by omega))
  have HO := Lib.hid ho
  have hck := chkN_ok ho
  unfold RChk at Cc
  rw [hck] at Cc
  have hi0 : ¬ (i : Int) < 0 := by omega
  have hi1 : (i : Int) < (n : Int) := by omega
  have hi1' : ¬ (n : Int) ≤ (i : Int) := by omega
  have hi2 : (0 : Int) ≤ (i : Int) := by omega
  clear hx ho hml hC hab hck
  go_enter Tryz.func15, Tryz.ntmps15
  go_wp2_with fail
  refine Cc.out.mono ?_
  rintro e w1 ⟨rfl, rfl⟩
  go_wp2_with fail
  refine Cp.out.mono ?_
  rintro e wo ⟨B, cB, T, rfl, t1, t2, t3, t4, t5, t6⟩
  have HT := Lib.hid t3
  have HP := Lib.hid t4
  have HE := Lib.hid t5
  have Hbo := Lib.hid t6
  have htl : T.length ≤ 4096 := by
    have := t4.mv.count t5
    rw [mvT_length, mvT_length] at this
    have := HO.out.2.2.1
    omega
  have hbd : Hid (∀ t ∈ mvT T, 0 ≤ nth t.1 i ∧ nth t.1 i ≤ 1000) := fun t ht => t4.mv.bd t5 (ok_bd HO.out) t ht _ (nth_mem (by rw [t4.mv.len t ht]; exact hi))
  have htn : Hid (∀ t ∈ T, t.2.length = n) := fun t ht => t4.mv.len (valT t) (List.mem_map.2 ⟨t, ht, rfl⟩)
  obtain ⟨m, hTm⟩ : ∃ m, T.length = m := ⟨_, rfl⟩
  rw [hTm] at htl t1 ⊢
  have HTm := Lib.hid hTm
  clear t3 t4 t5 t6 Cp Cc hTm
  go_wp2_with fail
  go_loopw [8, 10] (fun v8 v10 wr => ∃ k : Nat, k ≤ m ∧ v10 = .int .i64 k ∧ v8 = .int .i64 (degL i (mvT (T.take k))) ∧ wo = wr) (fun _ v10 _ => m - (intOf v10).toNat)
  case atStart => exact ⟨0, by omega, rfl, rfl, rfl⟩
  case round =>
    obtain ⟨k, hk, rfl, rfl, rfl⟩ := hrel
    by_cases hkm : k < m
    · have hTr := HT.out
      rw [HTm.out] at hTr
      obtain ⟨b', o, rfl, hb', hc⟩ := hTr.at_ (by omega)
      have hkl : k < T.length := by rw [HTm.out]; exact hkm
      obtain ⟨Ai, ci, Ei, ei, e1, e2, e3, e4, e5, e6, e7, e8, e9⟩ := hc k hkl
      have hmem : T[k] ∈ T := List.getElem_mem hkl
      have htk : Hid (T.take (k + 1) = T.take k ++ [T[k]]) := by show _ = _; rw [List.take_succ_eq_append_getElem hkl]
      have hln := htn.out _ hmem
      have hb0 := hbd.out (valT T[k]) (List.mem_map.2 ⟨_, hmem, rfl⟩)
      have hdd := degL_bd (i := i) (L := mvT (T.take k)) fun t ht => hbd.out t (List.mem_map.2 (by obtain ⟨u, hu, e⟩ := List.mem_map.1 ht; exact ⟨u, List.mem_of_mem_take hu, e⟩))
      have k3 := e3
      rw [Nat.mul_comm 3 k] at k3
      rw [← Nat.add_assoc] at k3
      have hkm' : (k : Int) < (m : Int) := by omega
      have hk0 : (0 : Int) ≤ (k : Int) := by omega
      have hstep : Hid (degL i (mvT (T.take (k + 1))) = max (degL i (mvT (T.take k))) (nth (T[k]).2 i)) := by
        show _ = _
        rw [htk.out, mvT_append]
        exact degL_snoc i _ (valT T[k])
      obtain ⟨be, oe, rfl, hbe, hce⟩ := e9.at_ (by omega)
      have hcx := hce i (by omega)
      obtain ⟨q1, q2⟩ : 0 ≤ nth (T[k]).2 i ∧ nth (T[k]).2 i ≤ 1000 := hb0
      obtain ⟨q3, q4⟩ := hdd
      rw [hln] at k3 e6
      clear hc hmem hce e1 e2 e3 e8 e9 htk hln hTr
      generalize degL i (mvT (T.take k)) = d at *
      generalize nth (T[k]).2 i = y at *
      generalize T[k] = x at *
      obtain ⟨⟨s, xs⟩, ps⟩ := x
      simp only at k3 e4
      by_cases hdy : d < y
      · have hst2 : Hid (degL i (mvT (T.take (k + 1))) = y) := by show _ = _; rw [hstep.out]; omega
        have hmx : max d y = y := by omega
        clear hstep
        go_wp2_with fail
        go_roundw
        case rel => exact ⟨k + 1, by omega, by go_num, by rw [hst2.out], by first | trivial | rfl⟩
        case measure => simp [intOf]; omega
      · have hst2 : Hid (degL i (mvT (T.take (k + 1))) = d) := by show _ = _; rw [hstep.out]; omega
        have hmx : max d y = d := by omega
        clear hstep
        go_wp2_with fail
        go_roundw
        case rel => exact ⟨k + 1, by omega, by go_num, by rw [hst2.out], by first | trivial | rfl⟩
        case measure => simp [intOf]; omega
    · obtain rfl : m = k := by omega
      have hkm' : ¬ (m : Int) < (m : Int) := by omega
      have hall : T.take m = T := List.take_of_length_le (by rw [HTm.out]; exact Nat.le_refl _)
      have F : Hid (GivesD w n i (mvT L) (.returned (.tuple #[.int .i64 (degL i (mvT (T.take m))), .int .i64 0])) wo) := by
        rw [hall]
        exact ⟨T, HP.out, HE.out, rfl, Hbo.out⟩
      clear hall
      go_wp2_with fail
      go_ret2
      exact F.out
end Go.Proofs.YtjmbejodcloapaaGreat
namespace Cl
theorem EqM.zero {n : Nat} {X M : Mv} (h : EqM n X M) (p : Plc) : EqM n X (M ++ [(p, 0)]) := fun q hq => by
  rw [h q hq, coM_append, coM_cons, coM_nil]
  show _ = _ + ((if p = q then (0 : Int) else 0) + 0)
  split <;> omega
theorem EqM.more {n : Nat} {X M : Mv} (h : EqM n X M) (t : Trm) : EqM n (X ++ [t]) (M ++ [t]) := fun q hq => by
  rw [coM_append, coM_append, h q hq]
end Cl
namespace Go.Proofs.YtjmbejodcloapaaGreat
open Go.RowKit Cl
attribute [local go_sem ↓] Go.wp_at_zero Go.wp_at_succ
theorem abs_of_len {C k : Nat} {L : List TV} (hl : ∀ t ∈ L, t.1.2.length ≤ C) (hi : ∀ t ∈ L, IsLimbs t.1.2) (hk : L.length ≤ k) (hk2 : k < 18446744073709551616) : absM (mvT L) < 2 ^ (64 * (C + 1)) := by
  have h1 : absM (mvT L) ≤ (mvT L).length * 2 ^ (64 * C) := absM_le fun t ht => by
    obtain ⟨s, hs, rfl⟩ := List.mem_map.1 ht
    exact Nat.le_of_lt (intZ_abs s.1.1 (hi s hs) (hl s hs))
  rw [mvT_length] at h1
  have h2 : L.length * 2 ^ (64 * C) ≤ 18446744073709551615 * 2 ^ (64 * C) := Nat.mul_le_mul_right _ (by omega)
  have h3 := Nat.two_pow_pos (64 * C)
  rw [Nat.mul_add, Nat.pow_add, Nat.mul_one]
  have h4 : (2 : Nat) ^ 64 = 18446744073709551616 := by decide
  rw [h4, Nat.mul_comm (2 ^ (64 * C))]
  omega
structure ROut (w0 wr : World) (n C : Nat) (v : Value) (E : List EntT) (M : Mv) : Prop where
  own : wr.ownsRow w0.heap.size 45 3 v E.length (tcells E)
  ok : ∀ x ∈ E, EntOk wr x
  far : ∀ x ∈ E, (0 < x.2.1.2.length → ∀ y, x.1.1.1 = some y → v.ownBlock ≠ some y.block) ∧ (0 < x.2.2.length → ∀ y, x.1.2.1 = some y → v.ownBlock ≠ some y.block)
  len : ∀ x ∈ E, x.2.2.length = n
  co : ∀ x ∈ E, x.2.1.2.length ≤ C
  eq : EqM n (mvT (E.map (·.2))) M
  bel : Below w0.heap.size w0 wr
theorem ROut.start (w : World) (n C : Nat) : ROut w w n C (.slice none 0 0) [] [] :=
  ⟨World.ownsRow_nil _ _ _ _, fun x hx => (by cases hx), fun x hx => (by cases hx), fun x hx => (by cases hx), fun x hx => (by cases hx), fun _ _ => rfl, Below.refl _ _⟩
theorem ROut.bel2 {w0 wr wt : World} {n C : Nat} {v : Value} {E : List EntT} {M : Mv} (h : ROut w0 wr n C v E M) (hb : Below wr.heap.size wr wt) : ROut w0 wt n C v E M :=
  ⟨own_below h.own hb, fun x hx => (h.ok x hx).bel hb, h.far, h.len, h.co, h.eq, h.bel.trans (hb.mono h.bel.size)⟩
theorem ROut.eq2 {w0 wr : World} {n C : Nat} {v : Value} {E : List EntT} {M N : Mv} (h : ROut w0 wr n C v E M) (e : EqM n (mvT (E.map (·.2))) N) : ROut w0 wr n C v E N :=
  ⟨h.own, h.ok, h.far, h.len, h.co, e, h.bel⟩
theorem ROut.next {w0 wr w2 w3 : World} {n C g cap H : Nat} {v : Value} {E : List EntT} {M : Mv} {x : EntT} {o : Obj} (h : ROut w0 wr n C v E M) (hb2 : Below wr.heap.size wr w2) (hx : EntOk w2 x) (hxl : x.2.2.length = n) (hxC : x.2.1.2.length ≤ C)
    (hf1 : 0 < x.2.1.2.length → ∀ y, x.1.1.1 = some y → v.ownBlock ≠ some y.block) (hf2 : 0 < x.2.2.length → ∀ y, x.1.2.1 = some y → v.ownBlock ≠ some y.block)
    (hown : w3.ownsRow w0.heap.size 45 3 (.slice (some ⟨g, 0, none⟩) (E.length + 1) cap) (E.length + 1) (tcells E ++ tcell x)) (hgr : (w2.alloc o).grownBy w3 v.ownBlock) (hat : v.ownBlock = some g ∨ g = H) (hH : H = w2.heap.size + 1) : ROut w0 w3 n C (.slice (some ⟨g, 0, none⟩) (E.length + 1) cap) (E ++ [x]) (M ++ [valT x.2]) := by
  subst hH
  have hvb : ∀ k, v.ownBlock = some k → w0.heap.size ≤ k ∧ k < wr.heap.size := fun k hk => h.own.lt k hk
  have hs2 := hb2.size
  have b3 : Below w2.heap.size w2 (w2.alloc o) := (Below.refl _ _).alloc (Nat.le_refl _) _
  have o3 : Only (fun k => v.ownBlock = some k) (w2.alloc o) w3 := (Only.of_grown hgr).mono (fun i hi => by first | exact hi | exact hi.symm)
  have hfar : ∀ z ∈ E ++ [x], (0 < z.2.1.2.length → ∀ y, z.1.1.1 = some y → v.ownBlock ≠ some y.block) ∧ (0 < z.2.2.length → ∀ y, z.1.2.1 = some y → v.ownBlock ≠ some y.block) := fun z hz => by
    rcases List.mem_append.1 hz with hz | hz
    · exact h.far z hz
    · rw [List.mem_singleton.1 hz]; exact ⟨hf1, hf2⟩
  have hall : ∀ z ∈ E ++ [x], EntOk w2 z := fun z hz => by
    rcases List.mem_append.1 hz with hz | hz
    · exact (h.ok z hz).bel hb2
    · rw [List.mem_singleton.1 hz]; exact hx
  refine ⟨by rw [List.length_append, tcells_snoc]; exact hown, fun z hz => entOk_only ((hall z hz).bel b3) o3 (fun h0 y hy e => (hfar z hz).1 h0 y hy e) (fun h0 y hy e => (hfar z hz).2 h0 y hy e), fun z hz => ?_, fun z hz => ?_, fun z hz => ?_, ?_, ?_⟩
  · have h5 := (hall z hz).2.2.2.2.1
    have h6 := (hall z hz).2.2.2.2.2
    refine ⟨fun h0 y hy e => ?_, fun h0 y hy e => ?_⟩
    · have e : g = y.block := by injection e
      rcases hat with h1 | h1
      · exact (hfar z hz).1 h0 y hy (by rw [h1, e])
      · have := limbs_blk h5 h0 hy; omega
    · have e : g = y.block := by injection e
      rcases hat with h1 | h1
      · exact (hfar z hz).2 h0 y hy (by rw [h1, e])
      · have := ints_blk h6 h0 hy; omega
  · rcases List.mem_append.1 hz with hz | hz
    · exact h.len z hz
    · rw [List.mem_singleton.1 hz]; exact hxl
  · rcases List.mem_append.1 hz with hz | hz
    · exact h.co z hz
    · rw [List.mem_singleton.1 hz]; exact hxC
  · rw [List.map_append, mvT_append]
    exact h.eq.more (valT x.2)
  · have hb10 : Below w0.heap.size w0 w2 := h.bel.trans (hb2.mono h.bel.size)
    exact (hb10.alloc hb10.size o).grown hgr (by have := hb10.size; simp; omega) (fun k hk => (hvb k hk).1)
theorem ROut.out {w0 wr : World} {n C : Nat} {v : Value} {E : List EntT} {M : Mv} (h : ROut w0 wr n C v E M) (hn : n ≤ 1000000) (hC : C ≤ 900000) (hE : E.length ≤ 1000000000000) :
    ∃ B d, v = .slice B E.length d ∧ Calls Tryz.prog 32 #[.slice B E.length d] wr (GivesR wr n M) := by
  obtain ⟨B, d, e, _, _, ht⟩ := trs_of_own h.own rfl h.ok
  have hlen : ∀ t ∈ E.map (·.2), t.2.length = n := fun t ht => by
    obtain ⟨x, hx, rfl⟩ := List.mem_map.1 ht
    exact h.len x hx
  have hco : ∀ t ∈ E.map (·.2), t.1.2.length ≤ C := fun t ht => by
    obtain ⟨x, hx, rfl⟩ := List.mem_map.1 ht
    exact h.co x hx
  have hab := abs_of_len hco (trs_limbs ht) (k := 1000000000000) (by rw [List.length_map]; exact hE) (by omega)
  refine ⟨B, d, e, (r17plain n C (C + 1) B E.length d (E.map (·.2)) wr ht hlen hco (by omega) (by omega) hab hE hn).mono ?_⟩
  rintro e w' ⟨A, c, T, h1, h2, h3, h4, h5, h6, h7⟩
  exact ⟨A, c, T, h1, h2, h3, h4, h5, h6.trans h.eq, h7⟩
end Go.Proofs.YtjmbejodcloapaaGreat
namespace Go.Proofs.YtjmbejodcloapaaGreat
open Go.RowKit Cl
attribute [local go_sem ↓] Go.wp_at_zero Go.wp_at_succ
theorem der_take {i : Nat} {L : List TV} {k : Nat} (hk : k < L.length) : derM i (mvT (L.take (k + 1))) = derM i (mvT (L.take k)) ++ [((L[k]).2.set i (max (nth (L[k]).2 i - 1) 0), intZ (L[k]).1.1 (L[k]).1.2 * nth (L[k]).2 i)] := by
  rw [List.take_succ_eq_append_getElem hk, mvT_append]
  exact mapM_append _ _ _ _
set_option maxRecDepth 100000 in
set_option maxHeartbeats 16000000 in
theorem r17deriv (n C : Nat) (A : Option Addr) (ma ca : Nat) (L : List TV) (i : Nat) (w : World) (hx : Trs w A ma L) (ho : OkL (n : Int) L) (hi : i < n) (hC : ∀ t ∈ L, t.1.2.length ≤ C) (hC1 : C ≤ 800000) :
    Calls Tryz.prog 11 #[.int .i64 (n : Int), .slice A ma ca, .int .i64 (i : Int)] w (GivesP w n (derM i (mvT L))) := by
  obtain ⟨i0, hi0, hz0, hz1, hz2⟩ := info_parts term_infoR
  obtain ⟨j0, hj, hy0, hy1, hy2⟩ := info_parts int_infoF
  have hcnt := ho.2.2.1
  have hn6 := ho.2.1
  have hml := hx.len
  have hm : ma ≤ 4096 := by omega
  have Cc := Lib.hid (r17check (n : Int) A ma ca L w hx)
  have hck := chkN_ok ho
  unfold RChk at Cc
  rw [hck] at Cc
  have Hx := Lib.hid hx
  have HL := Lib.hid hml
  have Hl := Lib.hid (ok_len ho)
  have HC := Lib.hid hC
  have HO := Lib.hid ho
  have hii0 : ¬ (i : Int) < 0 := by omega
  have hi1 : (i : Int) < (n : Int) := by omega
  have hi1' : ¬ (n : Int) ≤ (i : Int) := by omega
  have hi2 : (0 : Int) ≤ (i : Int) := by omega
  have hd1 : decide ((i : Int) < 0) = false := decide_eq_false hii0
  have hd2 : decide ((n : Int) ≤ (i : Int)) = false := decide_eq_false hi1'
  have hd3 : decide (n ≤ i) = false := decide_eq_false (by omega)
  clear hx ho hml hC hck hcnt
  go_enter Tryz.func11, Tryz.ntmps11
  obtain ⟨wo, rfl⟩ : ∃ wo : World, wo = w := ⟨_, rfl⟩
  go_wp2_with fail
  refine Cc.out.mono ?_
  rintro e w1 ⟨rfl, rfl⟩
  clear Cc
  go_wp2_with fail
  go_loopw [8, 9] (fun v kk wr => ∃ (k : Nat) (E : List EntT), k ≤ ma ∧ kk = .int .i64 (k : Int) ∧ Hid (ROut wo wr n (C + 1) v E (derM i (mvT (L.take k)))) ∧ E.length ≤ k) (fun _ kk _ => ma - (intOf kk).toNat)
  case atStart => exact ⟨0, [], by omega, rfl, ROut.start _ _ _, Nat.le_refl _⟩
  case round =>
    obtain ⟨k, E, hk, rfl, hO, hEl⟩ := hrel
    obtain ⟨wt, rfl⟩ : ∃ wt : World, wt = wr := ⟨_, rfl⟩
    have hO1 := Lib.hid (fun j (h : u8.ownBlock = some j) => hO.out.own.lt j h)
    by_cases hlt : k < ma
    · obtain ⟨b, o, rfl, hb, hc⟩ := Hx.out.at_ (by omega)
      have hkL : k < L.length := by rw [HL.out]; exact hlt
      obtain ⟨Ai, ci, Ei, ei, e1, e2, e3, e4, e5, e6, e7, e8, e9⟩ := hc k hkL
      have hll := Hl.out _ (List.getElem_mem hkL)
      have hlC := HC.out _ (List.getElem_mem hkL)
      have hbd : 0 ≤ nth (L[k]).2 i ∧ nth (L[k]).2 i ≤ 1000 := (HO.out.2.2.2 k hkL).2 i (by have := hll; omega)
      have Htk := Lib.hid (der_take (i := i) hkL)
      clear hc
      generalize L[k] = x at *
      obtain ⟨⟨s, xs⟩, ps⟩ := x
      simp only at e1 e2 e3 e4 e6 e8 e9 hll hlC hbd
      have Hll := Lib.hid hll
      rw [Nat.mul_comm 3 k] at e1 e2 e3
      rw [← Nat.add_assoc] at e2 e3
      have hlt' : (k : Int) < (ma : Int) := by omega
      have hk0 : (0 : Int) ≤ (k : Int) := by omega
      have hin : (i : Int) < (ps.length : Int) := by omega
      obtain ⟨be, oe, rfl, hbe, hce⟩ := e9.at_ (by omega)
      have hcx0 := hce i (by omega)
      have hwt := Lib.hid hO.out.bel
      have keepA : Hid (∀ W, Below wo.heap.size wo W → W.cell? ⟨b, o + k * 3, none⟩ = some (.bool s) ∧ W.cell? ⟨b, o + k * 3 + 1, none⟩ = some (.slice Ai xs.length ci) ∧ W.cell? ⟨b, o + k * 3 + 2, none⟩ = some (.slice (some ⟨be, oe, none⟩) ps.length ei) ∧ W.cell? ⟨be, oe + i, none⟩ = some (.int .i64 (nth ps i))) := fun W hW =>
        ⟨(hW.cell (p := ⟨b, o + k * 3, none⟩) hb).trans e1, (hW.cell (p := ⟨b, o + k * 3 + 1, none⟩) hb).trans e2, (hW.cell (p := ⟨b, o + k * 3 + 2, none⟩) hb).trans e3, (hW.cell (p := ⟨be, oe + i, none⟩) hbe).trans hcx0⟩
      have E8 := Lib.hid e8
      have E9 := Lib.hid e9
      obtain ⟨a1, a2, a3, a4⟩ := keepA.out _ hwt.out
      clear e8 e9 e1 e2 e3 hll hce hcx0
      generalize hy : nth ps i = y at *
      have Hy := Lib.hid hy
      clear hy
      by_cases hpos : 0 < y
      · have hR : Hid (Reads wt wt.heap.size 1 (some ⟨be, oe, none⟩) ps.length (ints ps)) := (E9.out.bel hwt.out).reads
        have hpok := Lib.hid E9.out.ok
        have hpl : ps.length ≤ 1000000 := by have := Hll.out; omega
        have q1 : 0 + ps.length ≤ maxLen := by unfold maxLen; omega
        have q2 : (0 + ps.length) * 8 ≤ 140737488355328 := by omega
        have hsi : Hid (nth ps i = y) := Hy.out
        obtain ⟨b1, b2, b3, b4⟩ := keepA.out _ (hwt.out.alloc hwt.out.size (.cells #[] 3))
        go_wp2_with (at_builtin; refine wpList_append_any (w := wt.alloc (.cells #[] 3)) rfl _ _ 43 rfl wt.heap.size 3 j0 (.int .i64 0) 1 8 Tryz.underlying43 hj hy0 hy1 hy2 rfl (by decide) _ 0 [] rfl (own_empty wt 3 (Nat.le_refl _)) wt.heap.size (some ⟨be, oe, none⟩) ps.length ei (ints ps) rfl (hR.out.alloc (Nat.le_refl _) _) (ints_oneCellF ps) q1 q2 (by simp) ?_; intro v' w1 hown hgrow hat; rw [List.nil_append, Nat.zero_add] at hown; have hb1 : Below wt.heap.size wt w1 := ((Below.refl _ wt).alloc (Nat.le_refl _) _).grown hgrow (by simp) (fun k hk => ((own_empty wt 3 (Nat.le_refl _)).lt k hk).1); obtain ⟨ge, ce, rfl, hgB, hgl⟩ := hown.form (by omega); have hcell : w1.cell? ⟨ge, i, none⟩ = some (.int .i64 y) := (by have h := hown.cells (g := ge) rfl i _ (ints_get (by omega)); rw [Go.WideShapes.add_plain, Nat.zero_add, hsi.out] at h; exact h); have hfz : w1.frozen? ⟨ge, i, none⟩ = false := hown.frozenAt _)
        have hst := (hown.stored i (.int .i64 (y - 1))).1
        rw [ints_set] at hst
        have hb2 := hb1.setCell (p := ⟨ge, i, none⟩) hgB (.int .i64 (y - 1))
        have hcaps := own_caps hst
        have hsok : ∀ j, I64 (nth (ps.set i (y - 1)) j) := fun j => by
          rw [nth_set (by omega)]
          split
          · constructor <;> omega
          · exact hpok.out j
        have hIe := Ints.of_own hst hsok
        have Hst := Lib.hid hst
        have HIe := Lib.hid hIe
        have hO2 := Lib.hid (hO.out.bel2 hb2)
        have hgl2 := (hst.lt ge rfl).2
        clear hO hown hgrow hat hcell hfz hst hIe hsok hgl b1 b2 b3 b4 a1 a2 a3 a4 hR hpok q1 q2 hb1
        generalize w1.setCell ⟨ge, i, none⟩ (.int .i64 (y - 1)) = w5 at *
        have hwt5 := Lib.hid hO2.out.bel
        obtain ⟨b1, b2, b3, b4⟩ := keepA.out _ hwt5.out
        have keep5 : Hid (∀ W, Below w5.heap.size w5 W → W.cell? ⟨b, o + k * 3, none⟩ = some (.bool s) ∧ W.cell? ⟨b, o + k * 3 + 1, none⟩ = some (.slice Ai xs.length ci) ∧ W.cell? ⟨b, o + k * 3 + 2, none⟩ = some (.slice (some ⟨be, oe, none⟩) ps.length ei) ∧ W.cell? ⟨be, oe + i, none⟩ = some (.int .i64 y)) := fun W hW => keepA.out _ (hwt5.out.trans (hW.mono hwt5.out.size))
        have Co := Lib.hid (fun W => r2of y W (by omega) (by omega))
        have Cm : Hid (∀ W t B d m zs, Below w5.heap.size w5 W → Limbs W B m zs → m ≤ d → d ≤ 9223372036854775807 → m ≤ 1 → Calls Tryz.prog 40 #[.agg #[.bool s, .slice Ai xs.length ci], .agg #[.bool t, .slice B m d]] W (GivesZF W (intZ s xs * intZ t zs) (xs.length + m))) := fun W t B d m zs hW hL h1 h2 h3 =>
          r2mulF s t Ai B xs.length m ci d xs zs W (E8.out.bel (hwt5.out.trans (hW.mono hwt5.out.size))) hL e4 e5 h1 h2 (by omega) (by omega)
        have hEl2 : E.length ≤ 4096 := by omega
        have hl0 : (ps.set i (y - 1)).length = ps.length := List.length_set
        have q1 : E.length + 1 ≤ maxLen := by unfold maxLen; omega
        have q2 : (E.length + 1) * 56 ≤ 140737488355328 := by omega
        have hvb : Hid (∀ j, u8.ownBlock = some j → wo.heap.size ≤ j ∧ j < wt.heap.size) := hO1.out
        have F : Hid (∀ (w7 w8 : World) (s2 : Bool) (A2 : Option Addr) (k2 c2 : Nat) (ls : List Int) (gg cap : Nat), Below w5.heap.size w5 w7 → k2 ≤ c2 → c2 ≤ 9223372036854775807 → k2 ≤ xs.length + 1 → Limbs w7 A2 k2 ls → ZVal s2 ls (intZ s xs * y) → (0 < k2 → ∀ z, A2 = some z → w5.heap.size ≤ z.block) → w8.ownsRow wo.heap.size 45 3 (.slice (some ⟨gg, 0, none⟩) (E.length + 1) cap) (E.length + 1) (tcells E ++ [.bool s2, .slice A2 k2 c2, .slice (some ⟨ge, 0, none⟩) ps.length ce]) → (w7.alloc (.cells #[.bool s2, .slice A2 k2 c2, .slice (some ⟨ge, 0, none⟩) ps.length ce] 45)).grownBy w8 u8.ownBlock → (u8.ownBlock = some gg ∨ gg = w7.heap.size + 1) → ∃ E2 : List EntT, E2.length = E.length + 1 ∧ ROut wo w8 n (C + 1) (.slice (some ⟨gg, 0, none⟩) (E.length + 1) cap) E2 (derM i (mvT (L.take (k + 1))))) := fun w7 w8 s2 A2 k2 c2 ls gg cap hb h1 h2 h3 h4 h5 h6 h7 h8 h9 => by
          obtain rfl := h4.len
          have hnx := hO2.out.next (x := (((A2, c2), (some ⟨ge, 0, none⟩, ce)), ((s2, ls), ps.set i (y - 1)))) (o := (.cells #[.bool s2, .slice A2 ls.length c2, .slice (some ⟨ge, 0, none⟩) ps.length ce] 45)) hb ⟨h1, h2, by show (ps.set i (y - 1)).length ≤ ce; rw [hl0]; exact hcaps.1, hcaps.2, h4, by show Ints w7 _ (ps.set i (y - 1)).length _; rw [hl0]; exact HIe.out.bel hb⟩ (by show (ps.set i (y - 1)).length = n; rw [hl0]; exact Hll.out) (by show ls.length ≤ C + 1; omega)
            (fun h0 z hz e => by have h10 := h6 h0 z hz; have h11 := hvb.out _ e; have := hb2.size; omega) (fun h0 z hz e => by injection hz with hz; subst hz; have h11 := hvb.out ge e; omega)
            (by show w8.ownsRow _ _ _ _ _ (tcells E ++ [.bool s2, .slice A2 ls.length c2, .slice (some ⟨ge, 0, none⟩) (ps.set i (y - 1)).length ce]); rw [hl0]; exact h7) h8 h9 rfl
          refine ⟨E ++ [(((A2, c2), (some ⟨ge, 0, none⟩, ce)), ((s2, ls), ps.set i (y - 1)))], by rw [List.length_append]; rfl, ?_⟩
          have e : valT ((s2, ls), ps.set i (y - 1)) = (ps.set i (max (y - 1) 0), intZ s xs * y) := by
            show (ps.set i (y - 1), intZ s2 ls) = _
            rw [h5.eq, show max (y - 1) 0 = y - 1 by omega]
          rw [Htk.out, ← e]
          exact hnx
        have HOW := Lib.hid (fun W (hW : Below w5.heap.size w5 W) => own_below hO2.out.own hW)
        have hszo : Hid (∀ (W : World) (ob : Obj), Below w5.heap.size w5 W → wo.heap.size ≤ (W.alloc ob).heap.size) := fun W ob hW => by have := hW.size; have := hwt5.out.size; simp; omega
        have hBw := Lib.hid (fun W (hW : Below w5.heap.size w5 W) => hwt5.out.trans (hW.mono hwt5.out.size))
        clear hO2 hwt5 hcaps hgl2 Hst HIe E8 E9 hwt hl0
        go_wp2_with fail
        go_region_held3 (fun W => W.cell? ⟨b, o + k * 3, none⟩ = some (.bool s) ∧ W.cell? ⟨b, o + k * 3 + 1, none⟩ = some (.slice Ai xs.length ci) ∧ W.cell? ⟨b, o + k * 3 + 2, none⟩ = some (.slice (some ⟨be, oe, none⟩) ps.length ei) ∧ W.cell? ⟨be, oe + i, none⟩ = some (.int .i64 y))
          (first | go_keep | exact keep5.out _ (Below.refl _ _).drew | exact keep5.out _ hb6 | exact keep5.out _ hb7 | exact keep5.out _ (hb7.alloc hb7.size _) | exact keepA.out _ hbw8)
          (first
            | (go_at_call 41; refine (Co.out _).mono ?_; rintro e w6 ⟨s1, A1, k1, c1, l1, rfl, g1, g2, g3, g4, g5, hb6'⟩; have hb6 : Below w5.heap.size w5 w6 := (by first | exact (Below.refl _ _).drew.trans hb6' | exact hb6'))
            | (go_at_call 40; refine (Cm.out _ s1 A1 c1 k1 l1 hb6 g4 g1 g2 g3).mono ?_; rintro e w7 ⟨s2, A2, k2, c2, ls, rfl, p1, p2, p3, p4, p5, pf, hb7'⟩; have hb7 : Below w5.heap.size w5 w7 := hb6.trans (hb7'.mono hb6.size))
            | ((refine step_append_lies _ (by rfl) _ _ _ (by rfl) wo.heap.size 45 i0 _ 3 56 Tryz.underlying22 hi0 hz0 hz1 hz2 rfl (by omega) u8 E.length (tcells E) (by rfl) ((HOW.out _ hb7).alloc _) ⟨w7.heap.size, 0, none⟩ 1 1 [.bool s2, .slice A2 k2 c2, .slice (some ⟨ge, 0, none⟩) ps.length ce] (by rfl) (by rfl) (World.news_of_block (cs := #[.bool s2, .slice A2 k2 c2, .slice (some ⟨ge, 0, none⟩) ps.length ce]) (t := 45) (fr := (0, 0)) (heap_alloc_new w7 _)) (by simp [Value.oneCell']) (Nat.one_pos) q1 q2 (hszo.out _ _ hb7) (w7.heap.size + 1) (by simp) ?_); intro gg cap w8 hown8 hgrow hat hlt8; have hbw8 : Below wo.heap.size wo w8 := ((hBw.out _ hb7).alloc (hBw.out _ hb7).size _).grown hgrow ((hBw.out _ hb7).alloc (hBw.out _ hb7).size _).size (fun j hj => (hvb.out j hj).1)))
        obtain ⟨E2, hE2, hO3⟩ := F.out w7 w8 s2 A2 k2 c2 ls gg cap hb7 p1 p2 (by omega) p4 (by rw [g5.eq] at p5; exact p5) (fun h0 z hz => Nat.le_trans hb6.size (pf h0 z hz)) hown8 hgrow hat
        have HO3 := Lib.hid hO3
        have hE3 : E2.length ≤ k + 1 := by omega
        clear hO3 hE2 hown8 hgrow hat hlt8 hbw8 g4 g5 hb6 hb6' hb7 hb7' p4 p5 pf F Cm Co keep5 HOW hszo hBw b1 b2 b3 b4
        go_wp2_with fail
        go_roundw
        case rel => exact ⟨k + 1, E2, by omega, by go_num, HO3, hE3⟩
        case measure => simp [intOf]; omega
      · have hy0 : y = 0 := by omega
        have hO2 : Hid (ROut wo wt n (C + 1) u8 E (derM i (mvT (L.take (k + 1))))) := by
          refine hO.out.eq2 ?_
          rw [Htk.out, hy0, Int.mul_zero]
          exact hO.out.eq.zero _
        clear hy0
        go_wp2_with fail
        go_roundw
        case rel => exact ⟨k + 1, E, by omega, by go_num, hO2, by omega⟩
        case measure => simp [intOf]; omega
    · have hall : L.take k = L := List.take_of_length_le (by rw [HL.out]; omega)
      have hO2 := hO.out
      rw [hall] at hO2
      obtain ⟨B, d, rfl, Cp⟩ := hO2.out (by omega) (by omega) (by omega)
      have HCp := Lib.hid Cp
      have Hb := Lib.hid hO2.bel
      have hlt' : ¬ (k : Int) < (ma : Int) := by omega
      clear hall hO2 Cp hO
      go_wp2_with fail
      refine HCp.out.mono ?_
      intro e w9 h9
      obtain ⟨A9, c9, T, rfl, t1, t2, t3, t4, t5, t6⟩ := h9.from_ Hb.out
      have F : Hid (GivesP wo n (derM i (mvT L)) (.returned (.tuple #[.slice A9 T.length c9, .int .i64 0])) w9) := ⟨A9, c9, T, rfl, t1, t2, t3, t4, t5, t6⟩
      clear h9 t3 t4 t5 t6
      go_wp2_with fail
      go_ret2
      exact F.out
end Go.Proofs.YtjmbejodcloapaaGreat
namespace Cl
open Go Go.RowKit
theorem Limbs.cell1 {w : World} {A : Option Addr} {n : Nat} {xs : List Int} (h : Limbs w A n xs) {p : Addr} {i : Int} (hp : w.cell? p = some (.int .i64 i)) (u : Value) : Limbs (w.setCell p u) A n xs := by
  refine ⟨h.len, fun hm => ?_, h.ok⟩
  obtain ⟨bb, o, e, hb, hc⟩ := h.at_ hm
  refine ⟨bb, o, e, by simpa using hb, fun j hj => ?_⟩
  have := hc j hj
  rw [World.cell?_setCell_other _ _ _ _ (fun e => ?_)]
  · exact this
  · rw [← e, hp] at this; injection this with this; cases this
end Cl
namespace Go.Proofs.YtjmbejodcloapaaGreat
open Go.RowKit Cl
attribute [local go_sem ↓] Go.wp_at_zero Go.wp_at_succ
theorem ev_take {i : Nat} {X : Int} {L : List TV} {k : Nat} (hk : k < L.length) : evM i X (mvT (L.take (k + 1))) = evM i X (mvT (L.take k)) ++ [((L[k]).2.set i 0, intZ (L[k]).1.1 (L[k]).1.2 * X ^ (nth (L[k]).2 i).toNat)] := by
  rw [List.take_succ_eq_append_getElem hk, mvT_append]
  exact mapM_append _ _ _ _
theorem own_far {w : World} {base : Nat} {e : TypeId} {size : Nat} {g n cap : Nat} {xs : List Value} (h : w.ownsRow base e size (.slice (some ⟨g, 0, none⟩) n cap) n xs) {p : Addr} (hp : g ≠ p.block) (u : Value) : (w.setCell p u).ownsRow base e size (.slice (some ⟨g, 0, none⟩) n cap) n xs := by
  refine ⟨h.1, ?_⟩
  rcases h.2 with h2 | ⟨g', cap', cur, hv, h1, h2, h3⟩
  · exact .inl h2
  · have hv' := hv
    injection hv with e1 e2 e3
    injection e1 with e1
    injection e1 with e1
    subst e1
    exact .inr ⟨g, cap', cur, hv', h1, (Below.heap_setCell w p u g hp).trans h2, h3⟩
set_option maxRecDepth 100000 in
set_option maxHeartbeats 16000000 in
theorem r17eval (n C : Nat) (A : Option Addr) (ma ca : Nat) (L : List TV) (i : Nat) (sx : Bool) (Ax : Option Addr) (kx cx : Nat) (zs : List Int) (w : World) (hx : Trs w A ma L) (ho : OkL (n : Int) L) (hi : i < n) (hC : ∀ t ∈ L, t.1.2.length ≤ C) (hC1 : C ≤ 100000)
    (hX : Limbs w Ax kx zs) (hxc : kx ≤ cx) (hcx : cx ≤ 9223372036854775807) (hkx : kx ≤ 100) :
    Calls Tryz.prog 13 #[.int .i64 (n : Int), .slice A ma ca, .int .i64 (i : Int), .agg #[.bool sx, .slice Ax kx cx]] w (GivesP w n (evM i (intZ sx zs) (mvT L))) := by
  obtain ⟨i0, hi0, hz0, hz1, hz2⟩ := info_parts term_infoR
  obtain ⟨j0, hj, hy0, hy1, hy2⟩ := info_parts int_infoF
  have hcnt := ho.2.2.1
  have hn6 := ho.2.1
  have hml := hx.len
  have hm : ma ≤ 4096 := by omega
  have b0 : Below w.heap.size w (w.alloc (.cells #[.bool sx, .slice Ax kx cx] 32)) := (Below.refl _ _).alloc (Nat.le_refl _) _
  have Cc := Lib.hid (r17check (n : Int) A ma ca L (w.alloc (.cells #[.bool sx, .slice Ax kx cx] 32)) (hx.bel b0))
  have hck := chkN_ok ho
  unfold RChk at Cc
  rw [hck] at Cc
  have HDx := Lib.hid (Duo.new w (.bool sx) (.slice Ax kx cx))
  have HX := Lib.hid (hX.bel b0)
  have Hx := Lib.hid (hx.bel b0)
  have HB0 := Lib.hid b0
  have HL := Lib.hid hml
  have Hl := Lib.hid (ok_len ho)
  have HC := Lib.hid hC
  have HO := Lib.hid ho
  have hii0 : ¬ (i : Int) < 0 := by omega
  have hi1 : (i : Int) < (n : Int) := by omega
  have hi1' : ¬ (n : Int) ≤ (i : Int) := by omega
  have hi2 : (0 : Int) ≤ (i : Int) := by omega
  have hd1 : decide ((i : Int) < 0) = false := decide_eq_false hii0
  have hd2 : decide ((n : Int) ≤ (i : Int)) = false := decide_eq_false hi1'
  have hd3 : decide (n ≤ i) = false := decide_eq_false (by omega)
  have hg0 : w.heap.size < (w.alloc (.cells #[.bool sx, .slice Ax kx cx] 32)).heap.size := by simp
  clear hx ho hml hC hck hcnt hX b0
  go_enter Tryz.func13, Tryz.ntmps13
  go_wp2_with fail
  generalize hwo : w.alloc (.cells #[.bool sx, .slice Ax kx cx] 32) = wo at *
  clear hwo
  obtain ⟨gx, hgx⟩ : ∃ g, w.heap.size = g := ⟨_, rfl⟩
  have HFin : Hid (∀ e w', GivesP wo n (evM i (intZ sx zs) (mvT L)) e w' → GivesP w n (evM i (intZ sx zs) (mvT L)) e w') := fun e w' h => h.from_ HB0.out
  clear HB0
  rw [hgx] at HDx hg0 ⊢
  clear hgx
  refine Cc.out.mono ?_
  rintro e w1 ⟨rfl, rfl⟩
  clear Cc
  go_wp2_with fail
  go_loopw [10, 11] (fun v kk wr => ∃ (k : Nat) (E : List EntT), k ≤ ma ∧ kk = .int .i64 (k : Int) ∧ Hid (ROut wo wr n (C + kx * 1000) v E (evM i (intZ sx zs) (mvT (L.take k)))) ∧ E.length ≤ k) (fun _ kk _ => ma - (intOf kk).toNat)
  case atStart => exact ⟨0, [], by omega, rfl, ROut.start _ _ _, Nat.le_refl _⟩
  case round =>
    obtain ⟨k, E, hk, rfl, hO, hEl⟩ := hrel
    obtain ⟨wt, rfl⟩ : ∃ wt : World, wt = wr := ⟨_, rfl⟩
    have hvb := Lib.hid (fun j (h : u10.ownBlock = some j) => hO.out.own.lt j h)
    by_cases hlt : k < ma
    · obtain ⟨b, o, rfl, hb, hc⟩ := Hx.out.at_ (by omega)
      have hkL : k < L.length := by rw [HL.out]; exact hlt
      obtain ⟨Ai, ci, Ei, ei, e1, e2, e3, e4, e5, e6, e7, e8, e9⟩ := hc k hkL
      have hll := Hl.out _ (List.getElem_mem hkL)
      have hlC := HC.out _ (List.getElem_mem hkL)
      have hbd : 0 ≤ nth (L[k]).2 i ∧ nth (L[k]).2 i ≤ 1000 := (HO.out.2.2.2 k hkL).2 i (by have := hll; omega)
      have Htk := Lib.hid (ev_take (i := i) (X := intZ sx zs) hkL)
      clear hc
      generalize L[k] = x at *
      obtain ⟨⟨s, xs⟩, ps⟩ := x
      simp only at e1 e2 e3 e4 e6 e8 e9 hll hlC hbd
      have Hll := Lib.hid hll
      rw [Nat.mul_comm 3 k] at e1 e2 e3
      rw [← Nat.add_assoc] at e2 e3
      have hlt' : (k : Int) < (ma : Int) := by omega
      have hk0 : (0 : Int) ≤ (k : Int) := by omega
      have hin : (i : Int) < (ps.length : Int) := by omega
      obtain ⟨be, oe, rfl, hbe, hce⟩ := e9.at_ (by omega)
      have hwt := Lib.hid hO.out.bel
      have keepA : Hid (∀ W, Below wo.heap.size wo W → W.cell? ⟨b, o + k * 3, none⟩ = some (.bool s) ∧ W.cell? ⟨b, o + k * 3 + 1, none⟩ = some (.slice Ai xs.length ci) ∧ W.cell? ⟨b, o + k * 3 + 2, none⟩ = some (.slice (some ⟨be, oe, none⟩) ps.length ei)) := fun W hW =>
        ⟨(hW.cell (p := ⟨b, o + k * 3, none⟩) hb).trans e1, (hW.cell (p := ⟨b, o + k * 3 + 1, none⟩) hb).trans e2, (hW.cell (p := ⟨b, o + k * 3 + 2, none⟩) hb).trans e3⟩
      have E8 := Lib.hid e8
      have E9 := Lib.hid e9
      obtain ⟨a1, a2, a3⟩ := keepA.out _ hwt.out
      obtain ⟨b1, b2, b3⟩ := keepA.out _ (hwt.out.alloc hwt.out.size (.cells #[] 3))
      clear e8 e9 e1 e2 e3 hll hce
      obtain ⟨Y, hY⟩ : ∃ Y : Nat, nth ps i = (Y : Int) := ⟨(nth ps i).toNat, by omega⟩
      have hYb : Y ≤ 1000 := by omega
      have HY := Lib.hid hY
      have hR : Hid (Reads wt wt.heap.size 1 (some ⟨be, oe, none⟩) ps.length (ints ps)) := (E9.out.bel hwt.out).reads
      have hpok := Lib.hid E9.out.ok
      have hpl : ps.length ≤ 1000000 := by have := Hll.out; omega
      have q1 : 0 + ps.length ≤ maxLen := by unfold maxLen; omega
      have q2 : (0 + ps.length) * 8 ≤ 140737488355328 := by omega
      clear hY hbd
      go_wp2_with (at_builtin; refine wpList_append_any (w := wt.alloc (.cells #[] 3)) rfl _ _ 43 rfl wt.heap.size 3 j0 (.int .i64 0) 1 8 Tryz.underlying43 hj hy0 hy1 hy2 rfl (by decide) _ 0 [] rfl (own_empty wt 3 (Nat.le_refl _)) wt.heap.size (some ⟨be, oe, none⟩) ps.length ei (ints ps) rfl (hR.out.alloc (Nat.le_refl _) _) (ints_oneCellF ps) q1 q2 (by simp) ?_; intro v' w1 hown hgrow hat; rw [List.nil_append, Nat.zero_add] at hown; have hb1 : Below wt.heap.size wt w1 := ((Below.refl _ wt).alloc (Nat.le_refl _) _).grown hgrow (by simp) (fun k hk => ((own_empty wt 3 (Nat.le_refl _)).lt k hk).1); obtain ⟨ge, ce, rfl, hgB, hgl⟩ := hown.form (by omega); obtain ⟨d1, d2, d3⟩ := keepA.out _ (hwt.out.trans (hb1.mono hwt.out.size)))
      have hdc := Duo.new w1 (.bool s) (.slice Ai xs.length ci)
      have hb2 : Below wt.heap.size wt (w1.alloc (.cells #[.bool s, .slice Ai xs.length ci] 32)) := hb1.alloc hb1.size _
      have ho2 := hown.alloc (.cells #[.bool s, .slice Ai xs.length ci] 32)
      obtain ⟨gc, hgc⟩ : ∃ g, w1.heap.size = g := ⟨_, rfl⟩
      have hgeq : ge < gc := by rw [← hgc]; exact hgl
      have hgcl : wt.heap.size ≤ gc := by rw [← hgc]; exact hb1.size
      rw [hgc] at hdc ⊢
      have HDc := Lib.hid hdc
      have HB2 := Lib.hid hb2
      have HO2 := Lib.hid ho2
      clear hdc hb2 ho2 hgc hown hgrow hat hb1 hgl d1 d2 d3 b1 b2 b3 a1 a2 a3 q1 q2 hR
      generalize w1.alloc (.cells #[.bool s, .slice Ai xs.length ci] 32) = w2 at *
      have hst0 : Hid (ps.set i (Y : Int) = ps) := by
        show _ = _
        rw [← HY.out, nth_lt (by omega), List.set_getElem_self]
      have hcaps := own_caps HO2.out
      have hfar0 : Hid (0 < xs.length → ∀ z, Ai = some z → u10.ownBlock ≠ some z.block) := fun h0 z hz e => by
        have h10 := limbs_blk E8.out h0 hz
        have h11 := (hvb.out _ e).1
        omega
      go_loopg [45] (Y + 1) (fun gk _ wr => ∃ (r : Nat) (sc : Bool) (Ac : Option Addr) (kc cc : Nat) (lc : List Int), r ≤ Y ∧ r < gk ∧ Hid (Duo wr gc (.bool sc) (.slice Ac kc cc)) ∧ kc ≤ cc ∧ cc ≤ 9223372036854775807 ∧ Hid (kc ≤ C + kx * (Y - r)) ∧ Hid (Limbs wr Ac kc lc) ∧ Hid (intZ sc lc = intZ s xs * intZ sx zs ^ (Y - r)) ∧ Hid (0 < kc → ∀ z, Ac = some z → u10.ownBlock ≠ some z.block) ∧ Hid (wr.ownsRow wt.heap.size 3 1 (.slice (some ⟨ge, 0, none⟩) ps.length ce) ps.length (ints (ps.set i (r : Int)))) ∧ Hid (Below wt.heap.size wt wr))
      case atStart =>
        refine ⟨Y, s, Ai, xs.length, ci, xs, Nat.le_refl _, Nat.lt_succ_self _, HDc, e4, e5, (by show _ ≤ _; omega), E8.out.bel (hwt.out.trans (HB2.out.mono hwt.out.size)), ?_, hfar0, ?_, HB2⟩
        · show _ = _; rw [Nat.sub_self]; simp
        · show World.ownsRow _ _ _ _ _ _ _; rw [hst0.out]; exact HO2.out
      case round =>
        obtain ⟨r, sc, Ac, kc, cc, lc, hr1, hr2, hD, hc1, hc2, hcK, hLc, hval, hfar, hown, hbw⟩ := hrel
        have hcell : wr.cell? ⟨ge, i, none⟩ = some (.int .i64 (r : Int)) := by
          have h := hown.out.cells (g := ge) rfl i _ (ints_get (by rw [List.length_set]; omega))
          rw [Go.WideShapes.add_plain, Nat.zero_add, nth_set (by omega), if_pos rfl] at h
          exact h
        have hfz : wr.frozen? ⟨ge, i, none⟩ = false := hown.out.frozenAt _
        have hbwo := Lib.hid (hwt.out.trans (hbw.out.mono hwt.out.size))
        have hDx := HDx.out.bel hbwo.out
        have x0 := hDx.cell0
        have x1 := hDx.cell1
        have y0 := hD.out.cell0
        have y1 := hD.out.cell1
        have hgl := (hown.out.lt ge rfl).2
        have hdl := hD.out.lt
        cases r with
        | zero =>
          have hcell0 : wr.cell? ⟨ge, i, none⟩ = some (.int .i64 0) := hcell
          have hO2 := hO.out.bel2 hbw.out
          have hsok : ∀ j, I64 (nth (ps.set i (0 : Int)) j) := fun j => by
            rw [nth_set (by omega)]
            split
            · constructor <;> omega
            · exact hpok.out j
          have hIe : Ints wr (some ⟨ge, 0, none⟩) ps.length (ps.set i (0 : Int)) := Ints.of_own hown.out hsok
          have hl0 : (ps.set i (0 : Int)).length = ps.length := List.length_set
          have hkc : kc ≤ C + kx * 1000 := by
            have h1 := hcK.out
            have h2 := Nat.mul_le_mul_left kx (show Y - 0 ≤ 1000 by omega)
            omega
          have hEl2 : E.length ≤ 4096 := by omega
          have q1 : E.length + 1 ≤ maxLen := by unfold maxLen; omega
          have q2 : (E.length + 1) * 56 ≤ 140737488355328 := by omega
          have q3 : wo.heap.size ≤ (wr.alloc (.cells #[.bool sc, .slice Ac kc cc, .slice (some ⟨ge, 0, none⟩) ps.length ce] 45)).heap.size := by have := hbwo.out.size; simp; omega
          have hA6 : Hid ((wr.alloc (.cells #[.bool sc, .slice Ac kc cc, .slice (some ⟨ge, 0, none⟩) ps.length ce] 45)).ownsRow wo.heap.size 45 3 u10 E.length (tcells E)) := hO2.own.alloc _
          have F : Hid (∀ (w8 : World) (gg cap : Nat), w8.ownsRow wo.heap.size 45 3 (.slice (some ⟨gg, 0, none⟩) (E.length + 1) cap) (E.length + 1) (tcells E ++ [.bool sc, .slice Ac kc cc, .slice (some ⟨ge, 0, none⟩) ps.length ce]) → (wr.alloc (.cells #[.bool sc, .slice Ac kc cc, .slice (some ⟨ge, 0, none⟩) ps.length ce] 45)).grownBy w8 u10.ownBlock → (u10.ownBlock = some gg ∨ gg = wr.heap.size + 1) → ∃ E2 : List EntT, E2.length = E.length + 1 ∧ ROut wo w8 n (C + kx * 1000) (.slice (some ⟨gg, 0, none⟩) (E.length + 1) cap) E2 (evM i (intZ sx zs) (mvT (L.take (k + 1))))) := fun w8 gg cap h7 h8 h9 => by
            have hLc' := hLc.out
            have hfar' := hfar.out
            obtain rfl := hLc'.len
            have hnx := hO2.next (x := (((Ac, cc), (some ⟨ge, 0, none⟩, ce)), ((sc, lc), ps.set i (0 : Int)))) (o := (.cells #[.bool sc, .slice Ac lc.length cc, .slice (some ⟨ge, 0, none⟩) ps.length ce] 45)) (Below.refl _ _) ⟨hc1, hc2, by show (ps.set i (0 : Int)).length ≤ ce; rw [hl0]; exact hcaps.1, hcaps.2, hLc', by show Ints wr _ (ps.set i (0 : Int)).length _; rw [hl0]; exact hIe⟩ (by show (ps.set i (0 : Int)).length = n; rw [hl0]; exact Hll.out) hkc
              hfar' (fun h0 z hz e => by injection hz with hz; subst hz; have h11 := hvb.out ge e; omega)
              (by show w8.ownsRow _ _ _ _ _ (tcells E ++ [.bool sc, .slice Ac lc.length cc, .slice (some ⟨ge, 0, none⟩) (ps.set i (0 : Int)).length ce]); rw [hl0]; exact h7) h8 h9 rfl
            refine ⟨E ++ [(((Ac, cc), (some ⟨ge, 0, none⟩, ce)), ((sc, lc), ps.set i (0 : Int)))], by rw [List.length_append]; rfl, ?_⟩
            have e : valT ((sc, lc), ps.set i (0 : Int)) = (ps.set i 0, intZ s xs * intZ sx zs ^ (nth ps i).toNat) := by
              show (ps.set i (0 : Int), intZ sc lc) = _
              rw [hval.out, HY.out]
              rfl
            rw [Htk.out, ← e]
            exact hnx
          clear hO2 hsok hIe hDx hcell
          go_wp2_with (at_builtin; refine wpList_append_lies (w := wr.alloc (.cells #[.bool sc, .slice Ac kc cc, .slice (some ⟨ge, 0, none⟩) ps.length ce] 45)) (by rfl) _ _ _ (by rfl) wo.heap.size 45 i0 _ 3 56 Tryz.underlying22 hi0 hz0 hz1 hz2 rfl (by omega) u10 E.length (tcells E) (by rfl) hA6.out ⟨wr.heap.size, 0, none⟩ 1 1 [.bool sc, .slice Ac kc cc, .slice (some ⟨ge, 0, none⟩) ps.length ce] (by rfl) (by rfl) (World.news_of_block (cs := #[.bool sc, .slice Ac kc cc, .slice (some ⟨ge, 0, none⟩) ps.length ce]) (t := 45) (fr := (0, 0)) (heap_alloc_new wr _)) (by simp [Value.oneCell']) (Nat.one_pos) q1 q2 q3 (wr.heap.size + 1) (by simp) ?_; intro gg cap w8 hown8 hgrow hat hlt8)
          obtain ⟨E2, hE2, hO3⟩ := F.out w8 gg cap hown8 hgrow hat
          have HO3 := Lib.hid hO3
          have hE3 : E2.length ≤ k + 1 := by omega
          clear hO3 hE2 hown8 hgrow hat hlt8 hown hLc hval hfar hcK hbw hbwo hD x0 x1 y0 y1 hcell0 hfz hA6 hkc hl0 F
          go_wp2_with fail
          go_roundw
          case rel => exact ⟨k + 1, E2, by omega, by go_num, HO3, hE3⟩
          case measure => simp [intOf]; omega
        | succ r =>
          have hrp : (0 : Int) < (r : Int) + 1 := by omega
          have Cm := Lib.hid (r2mulF sc sx Ac Ax kc kx cc cx lc zs wr hLc.out (HX.out.bel hbwo.out) hc1 hc2 hxc hcx (by have := hcK.out; have := Nat.mul_le_mul_left kx (show Y - (r + 1) ≤ 1000 by omega); omega) (by omega))
          clear hDx
          go_wp2_with fail
          refine Cm.out.mono ?_
          rintro e w3 ⟨s3, A3, k3, c3, l3, rfl, g1, g2, g3, g4, g5, g6, hb3⟩
          have hD3 := hD.out.bel hb3
          have z0 := hD3.cell0
          have z1 := hD3.cell1
          have f0 := hD3.frozen 0
          have f1 := hD3.frozen 1
          have hcell3 := (hb3.cell (p := ⟨ge, i, none⟩) hgl).trans hcell
          have hfz3 := (hb3.frozen (p := ⟨ge, i, none⟩) hgl).trans hfz
          have hne1 : ge ≠ gc := by omega
          have hne2 : gc ≠ ge := by omega
          have hd9 := hD3.set (.bool s3) (.slice A3 k3 c3)
          have hl9 := hD3.limbs (.bool s3) (.slice A3 k3 c3) rfl rfl g4
          have ho9 : ((w3.setCell ⟨gc, 0, none⟩ (.bool s3)).setCell ⟨gc, 1, none⟩ (.slice A3 k3 c3)).ownsRow wt.heap.size 3 1 (.slice (some ⟨ge, 0, none⟩) ps.length ce) ps.length (ints (ps.set i ((r + 1 : Nat) : Int))) :=
            own_far (own_far (own_below hown.out hb3) (p := ⟨gc, 0, none⟩) hne1 _) (p := ⟨gc, 1, none⟩) hne1 _
          have hcell9 : ((w3.setCell ⟨gc, 0, none⟩ (.bool s3)).setCell ⟨gc, 1, none⟩ (.slice A3 k3 c3)).cell? ⟨ge, i, none⟩ = some (.int .i64 ((r : Int) + 1)) := by
            rw [World.cell?_setCell_other _ _ _ _ (fun e => hne1 (by first | exact congrArg Addr.block e | exact (congrArg Addr.block e).symm)), World.cell?_setCell_other _ _ _ _ (fun e => hne1 (by first | exact congrArg Addr.block e | exact (congrArg Addr.block e).symm))]
            exact hcell3
          have hl10 := Lib.hid (hl9.cell1 hcell9 (.int .i64 (r : Int)))
          have hd10 := Lib.hid (hd9.other ⟨ge, i, none⟩ (by show ge ≠ gc; exact hne1) (.int .i64 (r : Int)))
          have hst := (ho9.stored i (.int .i64 (r : Int))).1
          rw [ints_set, List.set_set] at hst
          have Hst := Lib.hid hst
          have hB9 := ((hbw.out.trans (hb3.mono hbw.out.size)).setCell (p := ⟨gc, 0, none⟩) hgcl (.bool s3)).setCell (p := ⟨gc, 1, none⟩) hgcl (.slice A3 k3 c3)
          have HB10 := Lib.hid (hB9.setCell (p := ⟨ge, i, none⟩) hgB (.int .i64 (r : Int)))
          have Hv10 : Hid (intZ s3 l3 = intZ s xs * intZ sx zs ^ (Y - r)) := by
            show _ = _
            rw [g5.eq, hval.out, Int.mul_assoc, ← Int.pow_succ]
            congr 2
            omega
          have Hk10 : Hid (k3 ≤ C + kx * (Y - r)) := by
            have h1 := hcK.out
            show _ ≤ _
            rw [show Y - r = (Y - (r + 1)) + 1 by omega, Nat.mul_add, Nat.mul_one]
            omega
          have Hf10 : Hid (0 < k3 → ∀ z, A3 = some z → u10.ownBlock ≠ some z.block) := fun h0 z hz e => by
            have h10 := g6 h0 z hz
            have h11 := (hvb.out _ e).2
            have h12 := hbw.out.size
            omega
          clear hD hD3 hd9 hl9 ho9 hcell9 hst hB9 g4 g5 g6 hb3 hbw hown hLc hval hcK hfar hbwo x0 x1 y0 y1 hcell hfz Cm hgl hdl
          go_wp2_with fail
          go_roundg (gk - 1)
          case measure => omega
          case rel => exact ⟨r, s3, A3, k3, c3, l3, by omega, by omega, hd10, g1, g2, Hk10, hl10, Hv10, Hf10, Hst, HB10⟩
    · have hall : L.take k = L := List.take_of_length_le (by rw [HL.out]; omega)
      have hO2 := hO.out
      rw [hall] at hO2
      obtain ⟨B, d, rfl, Cp⟩ := hO2.out (by omega) (by have := Nat.mul_le_mul_right 1000 hkx; omega) (by omega)
      have HCp := Lib.hid Cp
      have Hb := Lib.hid hO2.bel
      have hlt' : ¬ (k : Int) < (ma : Int) := by omega
      clear hall hO2 Cp hO
      go_wp2_with fail
      refine HCp.out.mono ?_
      intro e w9 h9
      obtain ⟨A9, c9, T, rfl, t1, t2, t3, t4, t5, t6⟩ := h9.from_ Hb.out
      have F : Hid (GivesP w n (evM i (intZ sx zs) (mvT L)) (.returned (.tuple #[.slice A9 T.length c9, .int .i64 0])) w9) := HFin.out _ _ ⟨A9, c9, T, rfl, t1, t2, t3, t4, t5, t6⟩
      clear h9 t3 t4 t5 t6
      go_wp2_with fail
      go_ret2
      exact F.out
end Go.Proofs.YtjmbejodcloapaaGreat
