/- Contract: the document's contents and the rest.
   Contracts: the document's values and contents where the arguments may not be.
   What the program and the document tell of one polynomial: the same, each pair of calls by what determines it.
   The walk of MpolyTurns: derivatives, values, degrees and contents are what the document says. -/
import Derived.Test.YtjmbejodcloapaaGreatPRdes
import Derived.Test.YtjmbejodcloapaaGreatPRfs
set_option linter.unusedVariables false
set_option linter.unusedSimpArgs false
namespace Go.Proofs.YtjmbejodcloapaaGreat
open Go.RowKit Cl
attribute [local go_sem ↓] Go.wp_at_zero Go.wp_at_succ
theorem cnt_take {T : List TV} {k : Nat} (hk : k < T.length) : cntM (mvT (T.take (k + 1))) = Nat.gcd (cntM (mvT (T.take k))) (limbs (T[k]).1.2) := by
  rw [List.take_succ_eq_append_getElem hk, mvT_append, show mvT [T[k]] = [valT T[k]] from rfl, cntM_snoc]
  congr 1
  show (intZ _ _).natAbs = _
  unfold intZ
  split <;> simp
theorem pr_take {T : List TV} {k : Nat} (hk : k < T.length) : (prM (mvT T)).take (k + 1) = (prM (mvT T)).take k ++ [((T[k]).2, intZ (T[k]).1.1 (T[k]).1.2 / czM (mvT T))] := by
  have h : prM (mvT T) = T.map (fun t => (t.2, intZ t.1.1 t.1.2 / czM (mvT T))) := by
    unfold prM
    show (T.map valT).map _ = _
    rw [List.map_map]
    rfl
  rw [h, ← List.map_take, ← List.map_take, List.take_succ_eq_append_getElem hk, List.map_append]
  rfl
theorem trs_duo {w : World} {A : Option Addr} {m : Nat} {L : List TV} (h : Trs w A m L) {g : Nat} (hd : Duo w g (.bool false) (.slice none 0 0)) (hfar : ∀ b, A = some b → b.block ≠ g) (u v : Value) : Trs ((w.setCell ⟨g, 0, none⟩ u).setCell ⟨g, 1, none⟩ v) A m L :=
  ⟨h.len, fun hm => by
    obtain ⟨b, o, e, hlt, hc⟩ := h.at_ hm
    have hne := hfar _ e
    refine ⟨b, o, e, by simpa using hlt, fun i hi => ?_⟩
    obtain ⟨Ai, ci, Ei, ei, h1, h2, h3, h4, h5, h8, h9, h6, h7⟩ := hc i hi
    have far : ∀ {a : Nat} {x : Value}, w.cell? ⟨b, a, none⟩ = some x → ((w.setCell ⟨g, 0, none⟩ u).setCell ⟨g, 1, none⟩ v).cell? ⟨b, a, none⟩ = some x := fun hx => by
      rw [World.cell?_setCell_other _ _ _ _ (fun e => hne (by first | exact congrArg Addr.block e | exact (congrArg Addr.block e).symm)), World.cell?_setCell_other _ _ _ _ (fun e => hne (by first | exact congrArg Addr.block e | exact (congrArg Addr.block e).symm))]
      exact hx
    exact ⟨Ai, ci, Ei, ei, far h1, far h2, far h3, h4, h5, h8, h9, hd.limbs u v rfl rfl h6, hd.ints u v rfl rfl h7⟩⟩
theorem zval_limbs {s : Bool} {ls : List Int} {X : Nat} (h : ZVal s ls (X : Int)) : limbs ls = X := (zval_false h).2
theorem bel_duo {w : World} {B : Nat} {w0 : World} (h : Below B w0 w) {g : Nat} (hg : B ≤ g) (u v : Value) : Below B w0 ((w.setCell ⟨g, 0, none⟩ u).setCell ⟨g, 1, none⟩ v) := (h.setCell (p := ⟨g, 0, none⟩) hg _).setCell (p := ⟨g, 1, none⟩) hg _
set_option maxRecDepth 100000 in
set_option maxHeartbeats 16000000 in
theorem r17prim (n C K : Nat) (A : Option Addr) (ma ca : Nat) (L : List TV) (w : World) (hx : Trs w A ma L) (ho : OkL (n : Int) L) (hC : ∀ t ∈ L, t.1.2.length ≤ C) (hC1 : C ≤ 100000) (hK : K ≤ 100000) (hab : absM (mvT L) < 2 ^ (64 * K)) :
    Calls Tryz.prog 17 #[.int .i64 (n : Int), .slice A ma ca] w (GivesPrim w n (mvT L)) := by
  obtain ⟨i0, hi0, hz0, hz1, hz2⟩ := info_parts term_infoR
  have hcnt := ho.2.2.1
  have hn6 := ho.2.1
  have hml := hx.len
  have hm : ma ≤ 4096 := by omega
  have b0 : Below w.heap.size w (w.alloc (.cells #[.bool false, .slice none 0 0] 32)) := (Below.refl _ _).alloc (Nat.le_refl _) _
  have Cc := Lib.hid (r17check (n : Int) A ma ca L (w.alloc (.cells #[.bool false, .slice none 0 0] 32)) (hx.bel b0))
  have Cp := Lib.hid (r17plain n C K A ma ca L (w.alloc (.cells #[.bool false, .slice none 0 0] 32)) (hx.bel b0) (ok_len ho) hC (by omega) (by omega) hab (by omega) (by omega))
  have hck := chkN_ok ho
  unfold RChk at Cc
  rw [hck] at Cc
  have HD0 := Lib.hid (Duo.new w (.bool false) (.slice none 0 0))
  have HB0 := Lib.hid b0
  have Hab := Lib.hid hab
  have Hcl : Hid (L.length ≤ 4096) := by show _ ≤ _; omega
  clear hx ho hml hC hck hcnt b0 hab
  go_enter Tryz.func17, Tryz.ntmps17
  go_wp2_with fail
  generalize w.alloc (.cells #[.bool false, .slice none 0 0] 32) = w0 at *
  refine Cc.out.mono ?_
  rintro e w1 ⟨rfl, rfl⟩
  clear Cc
  go_wp2_with fail
  refine Cp.out.mono ?_
  rintro e w1 ⟨B, cB, T, rfl, t1, t2, t3, t4, t5, t6⟩
  have HT1 := Lib.hid t3
  have HP := Lib.hid t4
  have HE := Lib.hid t5
  have HD1 := Lib.hid (HD0.out.bel t6)
  have HB1 := Lib.hid (HB0.out.trans (t6.mono HB0.out.size))
  have htl : T.length ≤ 4096 := by
    have := t4.mv.count t5
    rw [mvT_length, mvT_length] at this
    have := Hcl.out
    omega
  have Hco : Hid (∀ t ∈ T, t.1.2.length ≤ K) := fun t ht => by
    have h1 := t4.mv.small t5 (List.mem_map.2 ⟨t, ht, rfl⟩ : valT t ∈ mvT T)
    exact zval_short (t4.co t ht) (Nat.lt_of_le_of_lt h1 Hab.out)
  clear t3 t4 t5 t6 Cp HD0 HB0 Hab Hcl
  go_wp2_with fail
  refine (r2of 0 w1 (by omega) (by omega)).mono ?_
  rintro e w2 ⟨s0, A0, k0, c0, l0, rfl, g1, g2, g3, g4, g5, hb2⟩
  have HT2 := Lib.hid (HT1.out.bel hb2)
  have HD2 := Lib.hid (HD1.out.bel hb2)
  have HB2 := Lib.hid (HB1.out.trans (hb2.mono HB1.out.size))
  have hd3 := Lib.hid (Duo.new w2 (.bool s0) (.slice A0 k0 c0))
  have hL3 := Lib.hid (g4.alloc (.cells #[.bool s0, .slice A0 k0 c0] 32))
  have hb3 := Lib.hid ((Below.refl w2.heap.size w2).alloc (Nat.le_refl _) (.cells #[.bool s0, .slice A0 k0 c0] 32))
  have G5 := Lib.hid g5
  clear g4 g5 hb2 HT1 HD1 HB1
  obtain ⟨gc, hgc⟩ : ∃ g, w2.heap.size = g := ⟨_, rfl⟩
  have Hgc := Lib.hid hgc
  have hwg : w.heap.size < gc := by have := HD2.out.lt; omega
  go_wp2_with fail
  rw [hgc] at hd3 hb3
  generalize w2.alloc (.cells #[.bool s0, .slice A0 k0 c0] 32) = w3 at *
  clear hgc
  obtain ⟨m, hTm⟩ : ∃ m, T.length = m := ⟨_, rfl⟩
  rw [hTm] at htl t1 ⊢
  have HTm := Lib.hid hTm
  have HT : Hid (Trs w2 B m T) := by have h := HT2.out; rw [hTm] at h; exact h
  clear hTm HT2
  go_loopw [9] (fun v wr => ∃ (k : Nat) (s : Bool) (Ac : Option Addr) (kc cc : Nat) (ls : List Int), k ≤ m ∧ v = .int .i64 (k : Int) ∧ Hid (Duo wr gc (.bool s) (.slice Ac kc cc)) ∧ Hid (Limbs wr Ac kc ls) ∧ kc ≤ cc ∧ cc ≤ 9223372036854775807 ∧ kc ≤ K + 1 ∧ Hid (ZVal s ls (cntM (mvT (T.take k)) : Int)) ∧ Hid (Below gc w2 wr)) (fun v _ => m - (intOf v).toNat)
  case atStart => exact ⟨0, s0, A0, k0, c0, l0, by omega, rfl, hd3, hL3, g1, g2, by omega, G5, hb3⟩
  case round =>
    clear hd3 hL3 G5 hb3 g1 g2 g3
    obtain ⟨k, s, Ac, kc, cc, ls, hk, rfl, hD, hLc, c1, c2, c3, hZ, hB⟩ := hrel
    have hDb : Hid (∀ W, Below gc w2 W → Duo W w.heap.size (.bool false) (.slice none 0 0)) := fun W hW => HD2.out.keep (hW.block _ (by omega))
    have y0 := hD.out.cell0
    have y1 := hD.out.cell1
    have HBw : Hid (∀ W, Below gc w2 W → Below w.heap.size w W) := fun W hW => HB2.out.trans (hW.mono (by omega))
    by_cases hlt : k < m
    · obtain ⟨b, o, rfl, hb, hc⟩ := HT.out.at_ (by omega)
      have hkT : k < T.length := by rw [HTm.out]; exact hlt
      obtain ⟨Ai, ci, Ei, ei, e1, e2, e3, e4, e5, e6, e7, e8, e9⟩ := hc k hkT
      have hct := Lib.hid (cnt_take hkT)
      have hlC := Hco.out _ (List.getElem_mem hkT)
      clear hc
      generalize T[k] = x at *
      obtain ⟨⟨sx, xs⟩, ps⟩ := x
      simp only at e1 e2 e3 e4 e6 e8 e9 hlC
      rw [Nat.mul_comm 3 k] at e1 e2 e3
      rw [← Nat.add_assoc] at e2 e3
      have hlt' : (k : Int) < (m : Int) := by omega
      have hk0 : (0 : Int) ≤ (k : Int) := by omega
      have hbl : b < gc := by rw [← Hgc.out]; exact hb
      have hlb : ∀ W, Below gc w2 W → Limbs W Ai xs.length xs := fun W hW => e8.bel (by rw [Hgc.out]; exact hW)
      have k1 := (hB.out.cell (p := ⟨b, o + k * 3, none⟩) hbl).trans e1
      have k2 := (hB.out.cell (p := ⟨b, o + k * 3 + 1, none⟩) hbl).trans e2
      have Cg : Hid (∀ W, Below wr.heap.size wr W → Calls Tryz.prog 47 #[.agg #[.bool s, .slice Ac kc cc], .agg #[.bool sx, .slice Ai xs.length ci]] W (GivesZ W ((Nat.gcd (limbs ls) (limbs xs) : Nat) : Int) (max kc xs.length))) := fun W hW =>
        r2gcd s sx Ac Ai kc xs.length cc ci ls xs W (hLc.out.bel hW) (hlb W (hB.out.trans (hW.mono (by have := hD.out.lt; omega)))) c1 c2 e4 e5 (by omega) (by omega)
      have hls := zval_limbs hZ.out
      rw [hls, ← hct.out] at Cg
      obtain ⟨G, hG⟩ : ∃ G, cntM (mvT (T.take (k + 1))) = G := ⟨_, rfl⟩
      rw [hG] at Cg
      have HG := Lib.hid hG
      clear hG
      have hgw := hD.out.lt
      have HBt := Lib.hid (fun W (hW : Below wr.heap.size wr W) => hB.out.trans (hW.mono (by omega)))
      have hfz : Hid (∀ W, Below wr.heap.size wr W → Duo W gc (.bool s) (.slice Ac kc cc)) := fun W hW => hD.out.bel hW
      clear e1 e2 e3 e8 e9 hlb hls hct hD hLc hZ hB hDb HBw
      go_wp2_with fail
      go_region_with
        (first | (go_at_call 47; refine (Cg.out _ (by first | exact (Below.refl _ _).drew | exact Below.refl _ _)).mono ?_; rintro e we ⟨s1, A1, k1', c1', l1, rfl, z1, z2, z3, z4, z5, hbe'⟩; have hbe : Below wr.heap.size wr we := (by first | exact (Below.refl _ _).drew.trans hbe' | exact hbe'); have hde := hfz.out _ hbe; have fe0 := hde.frozen 0; have fe1 := hde.frozen 1; have ce0 := hde.cell0; have ce1 := hde.cell1))
      all_goals
        have hd9 := Lib.hid (hde.set (.bool s1) (.slice A1 k1' c1'))
        have hl9 := Lib.hid (hde.limbs (.bool s1) (.slice A1 k1' c1') rfl rfl z4)
        have hb9 := Lib.hid (bel_duo (HBt.out _ hbe) (Nat.le_refl gc) (.bool s1) (.slice A1 k1' c1'))
        have Z5 : Hid (ZVal s1 l1 (cntM (mvT (T.take (k + 1))) : Int)) := by show ZVal _ _ _; rw [HG.out]; exact z5
        have hk9 : k1' ≤ K + 1 := by omega
        clear hde fe0 fe1 ce0 ce1 z4 z5 hbe hbe' k1 k2 y0 y1
        go_wp2_with fail
        go_roundw
        case rel => exact ⟨k + 1, s1, A1, k1', c1', l1, by omega, by go_num, hd9, hl9, z1, z2, hk9, Z5, hb9⟩
        case measure => simp [intOf]; omega
    · have hkm : k = m := by omega
      have hlt' : ¬ (k : Int) < (m : Int) := by omega
      have hZm : Hid (ZVal s ls (cntM (mvT T) : Int)) := by
        have h := hZ.out
        rw [List.take_of_length_le (by rw [HTm.out]; omega)] at h
        exact h
      clear hkm hZ
      by_cases hm0 : m = 0
      · have hT0 : T = [] := List.eq_nil_of_length_eq_zero (by rw [HTm.out]; exact hm0)
        have hmz : ((m : Int) == 0) = true := by simp [hm0]
        have hDr := hDb.out _ hB.out
        have r0 := hDr.cell0
        have r1 := hDr.cell1
        have f0 := hDr.frozen 0
        have f1 := hDr.frozen 1
        have HDr := Lib.hid hDr
        have F : Hid (∀ W, Limbs W Ac kc ls → Below w.heap.size w W → GivesPrim w n (mvT L) (.returned (.tuple #[.agg #[.bool s, .slice Ac kc cc], .slice none 0 0, .int .i64 0])) W) := fun W h1 h2 => by
          have hz := hZm.out
          have hp := HP.out
          have he := HE.out
          rw [hT0] at hz hp he
          exact ⟨s, Ac, kc, cc, ls, none, 0, [], [], rfl, c1, c2, h1, hp, he, hz, Nat.le_refl _, by omega, Trs.nil _ _, hp, rfl, h2⟩
        have Hbw := Lib.hid (HBw.out _ hB.out)
        clear hm0 hT0 hDr hZm hB hD HBw hDb
        go_wp2_with fail
        refine bodyPost_ret (results_cell_tmp2 (fn := Tryz.f17) rfl _ _ _ _ _ _ _ rfl (HDr.out.set (.bool s) (.slice Ac kc cc)) Tryz.underlying32 rfl aint_size) rfl ?_
        exact F.out _ (HDr.out.limbs _ _ rfl rfl hLc.out) (bel_duo Hbw.out (Nat.le_refl _) _ _)
      · have hT0 : 0 < T.length := by rw [HTm.out]; omega
        obtain ⟨b, o, rfl, hb, hc⟩ := HT.out.at_ (by omega)
        obtain ⟨Ai, ci, Ei, ei, e1, e2, e3, e4, e5, e6, e7, e8, e9⟩ := hc 0 hT0
        have hz0' := HP.out.co _ (List.getElem_mem hT0)
        have hcz : czM (mvT T) = if intZ (T[0]).1.1 (T[0]).1.2 < 0 then -(cntM (mvT T) : Int) else (cntM (mvT T) : Int) := by
          obtain ⟨t, T', hTT⟩ : ∃ t T', T = t :: T' := by
            cases hTc : T with
            | nil => rw [hTc] at hT0; exact absurd hT0 (by simp)
            | cons t T' => exact ⟨t, T', rfl⟩
          have : (T[0]) = t := by simp [hTT]
          rw [this, hTT]
          rfl
        have hcpos : 0 < cntM (mvT T) := cntM_eq_zero HP.out.mv (fun e => by have := congrArg List.length e; rw [mvT_length] at this; simp at this; rw [this] at hT0; exact absurd hT0 (by simp))
        have hneg : intZ (T[0]).1.1 (T[0]).1.2 < 0 ↔ (T[0]).1.1 = true := by
          constructor
          · intro h
            unfold intZ at h
            split at h
            · assumption
            · omega
          · intro h
            have h1 := hz0'.nz h
            have h2 := hz0'.pl.nil_iff
            unfold intZ
            rw [if_pos h]
            omega
        have hmz : ((m : Int) == 0) = false := by simp [hm0]
        rw [Nat.mul_zero, Nat.add_zero] at e1
        have hbl : b < gc := by rw [← Hgc.out]; exact hb
        have k1 := (hB.out.cell (p := ⟨b, o, none⟩) hbl).trans e1
        have hm0' : 0 < (m : Int) := by omega
        have Hcz := Lib.hid hcz
        have Hcpos := Lib.hid hcpos
        have Hneg := Lib.hid hneg
        clear hc e1 e2 e3 e8 e9 hz0' hcz hcpos hneg hm0
        generalize (T[0]).1.1 = sg at *
        go_upto_if 43 with fail
        go_cut [] (fun wx => ∃ (s : Bool) (Ac : Option Addr) (kc cc : Nat) (ls : List Int), Hid (Duo wx gc (.bool s) (.slice Ac kc cc)) ∧ Hid (Limbs wx Ac kc ls) ∧ kc ≤ cc ∧ cc ≤ 9223372036854775807 ∧ kc ≤ K + 1 ∧ Hid (ZVal s ls (czM (mvT T))) ∧ Hid (Below gc w2 wx))
        case first =>
          cases sg with
          | true =>
            have Cn := Lib.hid (r2neg s Ac kc cc ls wr hLc.out c1 c2 (by omega))
            have hzv : Hid (-intZ s ls = czM (mvT T)) := by
              show _ = _
              rw [Hcz.out, if_pos (Hneg.out.2 rfl), hZm.out.eq]
            rw [hzv.out] at Cn
            have hfz := Lib.hid (fun W (hW : Below wr.heap.size wr W) => hD.out.bel hW)
            have HBt := Lib.hid (fun W (hW : Below wr.heap.size wr W) => hB.out.trans (hW.mono (by have := hD.out.lt; omega)))
            clear hD hLc hB hZm
            go_wp2_with fail
            refine Cn.out.mono ?_
            rintro e we ⟨s1, A1, k1', c1', l1, rfl, z1, z2, z3, z4, z5, hbe⟩
            have hde := hfz.out _ hbe
            have fe0 := hde.frozen 0
            have fe1 := hde.frozen 1
            have ce0 := hde.cell0
            have ce1 := hde.cell1
            have hd9 := Lib.hid (hde.set (.bool s1) (.slice A1 k1' c1'))
            have hl9 := Lib.hid (hde.limbs (.bool s1) (.slice A1 k1' c1') rfl rfl z4)
            have hb9 := Lib.hid (bel_duo (HBt.out _ hbe) (Nat.le_refl gc) (.bool s1) (.slice A1 k1' c1'))
            have Z5 := Lib.hid z5
            have hk9 : k1' ≤ K + 1 := by omega
            clear hde z4 z5 hbe k1 y0 y1
            go_wp2_with fail
            go_meet
            exact ⟨s1, A1, k1', c1', l1, hd9, hl9, z1, z2, hk9, Z5, hb9⟩
          | false =>
            have hzv : Hid (ZVal s ls (czM (mvT T))) := by
              show ZVal _ _ _
              rw [Hcz.out, if_neg (fun h => by have := Hneg.out.1 h; cases this)]
              exact hZm.out
            go_wp2_with fail
            go_meet
            exact ⟨s, Ac, kc, cc, ls, hD, hLc, c1, c2, c3, hzv, hB⟩
        case rest =>
          clear hD hLc c1 c2 c3 hZm hB y0 y1 k1 hDb HBw Hneg
          obtain ⟨s5, A5, k5, c5, l5, hD, hLc, c1, c2, c3, hZ, hB⟩ := hcut
          obtain ⟨w6, rfl⟩ : ∃ W : World, W = wc := ⟨_, rfl⟩
          have hls0 : Hid (0 < limbs l5) := by
            have h1 := hZ.out.eq
            have h2 := Hcpos.out
            have h3 := czM_abs (mvT T)
            show _ < _
            have h4 : (intZ s5 l5).natAbs = limbs l5 := by unfold intZ; split <;> omega
            rw [h1] at h4
            omega
          have hT6 : Hid (Trs w6 (some ⟨b, o, none⟩) m T) := HT.out.bel (by rw [Hgc.out]; exact hB.out)
          have hb6 : b < w6.heap.size := by have := hD.out.lt; omega
          have Hpl : Hid ((prM (mvT T)).length = m) := by show _ = _; unfold prM; rw [List.length_map, mvT_length, HTm.out]
          go_wp2_with fail
          go_loopw [10, 11] (fun v j wr => ∃ (k : Nat) (E : List EntT), k ≤ m ∧ j = .int .i64 (k : Int) ∧ Hid (ROut w6 wr n (2 * K + 20) v E (mvT (E.map (·.2)))) ∧ E.length ≤ k ∧ Hid (mvT (E.map (·.2)) = (prM (mvT T)).take k) ∧ Hid (∀ x ∈ E, ZVal x.2.1.1 x.2.1.2 (intZ x.2.1.1 x.2.1.2))) (fun _ j _ => m - (intOf j).toNat)
          case atStart => exact ⟨0, [], by omega, rfl, ROut.start _ _ _, Nat.le_refl _, rfl, fun x hx => by cases hx⟩
          case round =>
            obtain ⟨k, E, hk, rfl, hO, hEl, hEv, hEz⟩ := hrel
            obtain ⟨wv, rfl⟩ : ∃ wv : World, wv = wr := ⟨_, rfl⟩
            have hvb := Lib.hid (fun j (h : u10.ownBlock = some j) => hO.out.own.lt j h)
            have hbv := Lib.hid hO.out.bel
            by_cases hlt : k < m
            · obtain ⟨b', o', e', _, hc⟩ := hT6.out.at_ (by omega)
              injection e' with e'
              injection e' with eb eo
              subst eb eo
              have hkT : k < T.length := by rw [HTm.out]; exact hlt
              obtain ⟨Ai, ci, Ei, ei, e1, e2, e3, e4, e5, e6, e7, e8, e9⟩ := hc k hkT
              have hlC := Hco.out _ (List.getElem_mem hkT)
              have hll : (T[k]).2.length = n := HP.out.mv.len (valT T[k]) (List.mem_map.2 ⟨_, List.getElem_mem hkT, rfl⟩)
              have hdv : intZ (T[k]).1.1 (T[k]).1.2 % czM (mvT T) = 0 := czM_dvd (List.mem_map.2 ⟨_, List.getElem_mem hkT, rfl⟩ : valT T[k] ∈ mvT T)
              have htk := pr_take hkT
              have Htk := Lib.hid htk
              have Hdv := Lib.hid hdv
              clear hc htk hdv
              generalize T[k] = x at *
              obtain ⟨⟨sx, xs⟩, ps⟩ := x
              simp only at e1 e2 e3 e4 e6 e8 e9 hlC hll
              have Hll := Lib.hid hll
              rw [Nat.mul_comm 3 k] at e1 e2 e3
              rw [← Nat.add_assoc] at e2 e3
              have hlt' : (k : Int) < (m : Int) := by omega
              have hk0 : (0 : Int) ≤ (k : Int) := by omega
              have hg6 := hD.out.lt
              have keep6 : Hid (∀ W, Below w6.heap.size w6 W → W.cell? ⟨b, o + k * 3, none⟩ = some (.bool sx) ∧ W.cell? ⟨b, o + k * 3 + 1, none⟩ = some (.slice Ai xs.length ci) ∧ W.cell? ⟨b, o + k * 3 + 2, none⟩ = some (.slice Ei ps.length ei) ∧ W.cell? ⟨gc, 0, none⟩ = some (.bool s5) ∧ W.cell? ⟨gc, 1, none⟩ = some (.slice A5 k5 c5)) := fun W hW =>
                ⟨(hW.cell (p := ⟨b, o + k * 3, none⟩) hb6).trans e1, (hW.cell (p := ⟨b, o + k * 3 + 1, none⟩) hb6).trans e2, (hW.cell (p := ⟨b, o + k * 3 + 2, none⟩) hb6).trans e3, (hD.out.bel hW).cell0, (hD.out.bel hW).cell1⟩
              have keepV : Hid (∀ W, Below wv.heap.size wv W → W.cell? ⟨b, o + k * 3, none⟩ = some (.bool sx) ∧ W.cell? ⟨b, o + k * 3 + 1, none⟩ = some (.slice Ai xs.length ci) ∧ W.cell? ⟨b, o + k * 3 + 2, none⟩ = some (.slice Ei ps.length ei) ∧ W.cell? ⟨gc, 0, none⟩ = some (.bool s5) ∧ W.cell? ⟨gc, 1, none⟩ = some (.slice A5 k5 c5)) := fun W hW => keep6.out _ (hbv.out.trans (hW.mono hbv.out.size))
              obtain ⟨a1, a2, a3, a4, a5⟩ := keep6.out _ hbv.out
              have Ce : Hid (∀ W, Below wv.heap.size wv W → Calls Tryz.prog 49 #[.agg #[.bool sx, .slice Ai xs.length ci], .agg #[.bool s5, .slice A5 k5 c5]] W (RExactZF W (xs.length + k5 + 10) (intZ sx xs) (intZ s5 l5))) := fun W hW =>
                r2exactF sx s5 Ai A5 xs.length k5 ci c5 xs l5 W (e8.bel (hbv.out.trans (hW.mono hbv.out.size))) (hLc.out.bel (hbv.out.trans (hW.mono hbv.out.size))) e4 e5 c1 c2 (by omega) (by omega) hls0.out
              rw [hZ.out.eq] at Ce
              have E9 := Lib.hid e9
              have hb69 := Lib.hid (fun (h0 : 0 < ps.length) {y : Addr} (hy : Ei = some y) => ints_blk e9 h0 hy)
              have hll9 := Lib.hid hll
              clear e1 e2 e3 e8 e9 hll
              go_wp2_with fail
              go_cut [12] (fun s12 wx => ∃ (gd : Nat) (s1 : Bool) (A1 : Option Addr) (k1 c1 : Nat) (l1 : List Int), s12 = .pointer (some ⟨gd, 0, none⟩) ∧ wv.heap.size ≤ gd ∧ Hid (Duo wx gd (.bool s1) (.slice A1 k1 c1)) ∧ k1 ≤ xs.length + k5 + 10 ∧ k1 ≤ c1 ∧ c1 ≤ 9223372036854775807 ∧ Hid (Limbs wx A1 k1 l1) ∧ Hid (ZVal s1 l1 (intZ sx xs / czM (mvT T))) ∧ Hid (0 < k1 → ∀ y, A1 = some y → wv.heap.size ≤ y.block) ∧ Hid (Below wv.heap.size wv wx))
              case first =>
                go_region_held3 (fun W => W.cell? ⟨b, o + k * 3, none⟩ = some (.bool sx) ∧ W.cell? ⟨b, o + k * 3 + 1, none⟩ = some (.slice Ai xs.length ci) ∧ W.cell? ⟨b, o + k * 3 + 2, none⟩ = some (.slice Ei ps.length ei) ∧ W.cell? ⟨gc, 0, none⟩ = some (.bool s5) ∧ W.cell? ⟨gc, 1, none⟩ = some (.slice A5 k5 c5))
                  (first | go_keep | exact keepV.out _ (Below.refl _ _).drew | exact keepV.out _ ((Below.refl _ _).alloc (Nat.le_refl _) _).drew | exact keepV.out _ hbe | exact keepV.out _ (hbe.alloc hbe.size _) | exact keepV.out _ (bel_duo hbe (Nat.le_refl _) _ _))
                  (first | (go_at_call 49; refine (Ce.out _ (by first | exact (Below.refl _ _).drew | exact ((Below.refl _ _).alloc (Nat.le_refl _) _).drew)).mono ?_; rintro e we ⟨s1, A1, k1', c1', l1, rfl, z1, z2, z3, z4, z5, z6, hbe'⟩; have hbe : Below wv.heap.size wv we := (by first | exact (Below.refl _ _).drew.trans hbe' | exact ((Below.refl _ _).alloc (Nat.le_refl _) _).drew.trans (hbe'.mono (by simp))); (first | (have tD := (Duo.new wv (.bool false) (.slice none 0 0)); have tE := Duo.bel (w := (World.alloc wv _).drew) tD hbe'; have u0 := tE.cell0; have u1 := tE.cell1; have v0 := tE.frozen 0; have v1 := tE.frozen 1) | skip)))
                all_goals
                  go_wp2_with fail
                  go_meet
                  first
                    | exact ⟨wv.heap.size, s1, A1, k1', c1', l1, rfl, Nat.le_refl _, tE.set _ _, z1, z2, z3, tE.limbs _ _ rfl rfl z4, z5 Hdv.out, (fun h0 y hy => by first | exact z6 h0 y hy | (have h := z6 h0 y hy; simp at h; omega)), bel_duo hbe (Nat.le_refl _) _ _⟩
                    | exact ⟨we.heap.size, s1, A1, k1', c1', l1, rfl, hbe.size, Duo.new we _ _, z1, z2, z3, z4.alloc _, z5 Hdv.out, (fun h0 y hy => by first | exact z6 h0 y hy | (have h := z6 h0 y hy; simp at h; omega)), hbe.alloc hbe.size _⟩
              case rest =>
                obtain ⟨gd, s1, A1, k1, d1, l1, rfl, hgd, hDd, p1, p2, p3, hLd, hZd, hFd, hBd⟩ := hcut
                obtain ⟨w7, rfl⟩ : ∃ W : World, W = wc := ⟨_, rfl⟩
                have keep7 : Hid (∀ W, Below w7.heap.size w7 W → W.cell? ⟨b, o + k * 3 + 2, none⟩ = some (.slice Ei ps.length ei) ∧ W.cell? ⟨gd, 0, none⟩ = some (.bool s1) ∧ W.cell? ⟨gd, 1, none⟩ = some (.slice A1 k1 d1)) := fun W hW =>
                  ⟨(keepV.out _ (hBd.out.trans (hW.mono hBd.out.size))).2.2.1, (hDd.out.bel hW).cell0, (hDd.out.bel hW).cell1⟩
                obtain ⟨m1, m2, m3⟩ := keep7.out _ (Below.refl _ _)
                have hO7 := Lib.hid (hO.out.bel2 hBd.out)
                have hEl2 : E.length ≤ 4096 := by omega
                have q1 : E.length + 1 ≤ maxLen := by unfold maxLen; omega
                have q2 : (E.length + 1) * 56 ≤ 140737488355328 := by omega
                have q3 : Hid (∀ (W : World) (ob : Obj), Below w7.heap.size w7 W → w6.heap.size ≤ (W.alloc ob).heap.size) := fun W ob hW => by have h1 := hW.size; have h2 := hO7.out.bel.size; simp; omega
                have HOW := Lib.hid (fun W (hW : Below w7.heap.size w7 W) => own_below hO7.out.own hW)
                have F : Hid (∀ (w8 : World) (gg cap : Nat), w8.ownsRow w6.heap.size 45 3 (.slice (some ⟨gg, 0, none⟩) (E.length + 1) cap) (E.length + 1) (tcells E ++ [.bool s1, .slice A1 k1 d1, .slice Ei ps.length ei]) → (w7.drew.alloc (.cells #[.bool s1, .slice A1 k1 d1, .slice Ei ps.length ei] 45)).grownBy w8 u10.ownBlock → (u10.ownBlock = some gg ∨ gg = w7.heap.size + 1) → ∃ E2 : List EntT, E2.length = E.length + 1 ∧ ROut w6 w8 n (2 * K + 20) (.slice (some ⟨gg, 0, none⟩) (E.length + 1) cap) E2 (mvT (E2.map (·.2))) ∧ mvT (E2.map (·.2)) = (prM (mvT T)).take (k + 1) ∧ (∀ x ∈ E2, ZVal x.2.1.1 x.2.1.2 (intZ x.2.1.1 x.2.1.2))) := fun w8 gg cap h7 h8 h9 => by
                  have hLd' := hLd.out
                  obtain rfl := hLd'.len
                  have hnx := hO7.out.next (w2 := w7.drew) (x := (((A1, d1), (Ei, ei)), ((s1, l1), ps))) (o := (.cells #[.bool s1, .slice A1 l1.length d1, .slice Ei ps.length ei] 45)) (Below.refl _ _).drew ⟨p2, p3, e6, e7, hLd'.bel (Below.refl _ _).drew, (E9.out.bel (hbv.out.trans (hBd.out.mono hbv.out.size))).bel (Below.refl _ _).drew⟩ hll9.out (by show l1.length ≤ _; omega)
                    (fun h0 z hz e => by have h10 := hFd.out h0 z hz; have h11 := (hvb.out _ e).2; omega) (fun h0 z hz e => by have h10 := hb69.out h0 hz; have h11 := (hvb.out _ e).1; omega)
                    h7 h8 h9 rfl
                  have e : valT ((s1, l1), ps) = (ps, intZ sx xs / czM (mvT T)) := by
                    show (ps, intZ s1 l1) = _
                    rw [hZd.out.eq]
                  have hv : mvT ((E ++ [((((A1, d1), (Ei, ei)), ((s1, l1), ps)) : EntT)]).map (·.2)) = mvT (E.map (·.2)) ++ [valT ((s1, l1), ps)] := by rw [List.map_append, mvT_append]; rfl
                  refine ⟨E ++ [(((A1, d1), (Ei, ei)), ((s1, l1), ps))], by rw [List.length_append]; rfl, by rw [hv]; exact hnx, by rw [hv, Htk.out, e, hEv.out], fun x hx => ?_⟩
                  rcases List.mem_append.1 hx with hx | hx
                  · exact hEz.out x hx
                  · rw [List.mem_singleton.1 hx]
                    show ZVal s1 l1 (intZ s1 l1)
                    rw [hZd.out.eq]; exact hZd.out
                have keepG : Hid (∀ w8, (w7.drew.alloc (.cells #[.bool s1, .slice A1 k1 d1, .slice Ei ps.length ei] 45)).grownBy w8 u10.ownBlock → w8.cell? ⟨b, o + k * 3 + 2, none⟩ = some (.slice Ei ps.length ei) ∧ w8.cell? ⟨gd, 0, none⟩ = some (.bool s1) ∧ w8.cell? ⟨gd, 1, none⟩ = some (.slice A1 k1 d1)) := fun w8 hg => by
                  obtain ⟨r1, r2, r3⟩ := keep7.out _ ((Below.refl w7.heap.size w7).drew.alloc (by simp) (.cells #[.bool s1, .slice A1 k1 d1, .slice Ei ps.length ei] 45))
                  have n1 : some b ≠ u10.ownBlock := fun e => by have := (hvb.out _ e.symm).1; omega
                  have n2 : some gd ≠ u10.ownBlock := fun e => by have := (hvb.out _ e.symm).2; omega
                  exact ⟨hg.cell r1 n1, hg.cell r2 n2, hg.cell r3 n2⟩
                go_wp2_with fail
                go_region_held3 (fun W => W.cell? ⟨b, o + k * 3 + 2, none⟩ = some (.slice Ei ps.length ei) ∧ W.cell? ⟨gd, 0, none⟩ = some (.bool s1) ∧ W.cell? ⟨gd, 1, none⟩ = some (.slice A1 k1 d1))
                  (first | go_keep | exact keep7.out _ (Below.refl _ _).drew | exact keep7.out _ ((Below.refl _ _).alloc (Nat.le_refl _) _).drew | exact keepG.out _ hgrow)
                  (first
                    | ((refine step_append_lies _ (by rfl) _ _ _ (by rfl) w6.heap.size 45 i0 _ 3 56 Tryz.underlying22 hi0 hz0 hz1 hz2 rfl (by omega) u10 E.length (tcells E) (by rfl) (own_drew ((HOW.out _ (Below.refl _ _)).alloc _)) ⟨w7.heap.size, 0, none⟩ 1 1 [.bool s1, .slice A1 k1 d1, .slice Ei ps.length ei] (by rfl) (by rfl) (World.news_of_block (cs := #[.bool s1, .slice A1 k1 d1, .slice Ei ps.length ei]) (t := 45) (fr := (0, 0)) (heap_alloc_new w7 _)) (by simp [Value.oneCell']) (Nat.one_pos) q1 q2 (q3.out _ _ (Below.refl _ _)) (w7.heap.size + 1) (by simp) ?_); intro gg cap w8 hown8 hgrow hat hlt8))
                obtain ⟨E2, hE2, hO3, hv3, hz3⟩ := F.out w8 gg cap hown8 hgrow hat
                have HO3 := Lib.hid hO3
                have HV3 := Lib.hid hv3
                have HZ3 := Lib.hid hz3
                have hE3 : E2.length ≤ k + 1 := by omega
                clear hO3 hE2 hv3 hz3 hown8 hgrow hat hlt8 F keepG keep7 m1 m2 m3 a1 a2 a3 a4 a5
                go_wp2_with fail
                go_roundw
                case rel => exact ⟨k + 1, E2, by omega, by go_num, HO3, hE3, HV3, HZ3⟩
                case measure => simp [intOf]; omega
            · have hlt' : ¬ (k : Int) < (m : Int) := by omega
              obtain ⟨B9, d9, rfl, r1, r2, r3⟩ := trs_of_own hO.out.own rfl hO.out.ok
              have hDr := (HD2.out.keep (hB.out.block _ (by omega))).bel hbv.out
              have v0 := hDr.cell0
              have v1 := hDr.cell1
              have f0 := hDr.frozen 0
              have f1 := hDr.frozen 1
              have HDr := Lib.hid hDr
              have hDg := hD.out.bel hbv.out
              have d0 := hDg.cell0
              have d1 := hDg.cell1
              have Hlg := Lib.hid (hLc.out.bel hbv.out)
              have Hbw : Hid (Below w.heap.size w wv) := (HB2.out.trans (hB.out.mono (by omega))).trans (hbv.out.mono (by have := hD.out.lt; omega))
              have hpr : mvT (E.map (·.2)) = prM (mvT T) := by
                rw [hEv.out, List.take_of_length_le (by rw [Hpl.out]; omega)]
              have hlE : (E.map (·.2)).length = E.length := List.length_map _
              have hPE : PlainT n (E.map (·.2)) := ⟨by rw [hpr]; exact prM_plain HP.out.mv (fun e => by have h1 := hls0.out; have h2 := hZ.out.eq; rw [e] at h2; unfold intZ at h2; split at h2 <;> omega), fun t ht => by
                obtain ⟨x, hx, rfl⟩ := List.mem_map.1 ht
                exact hEz.out x hx⟩
              have HR3 := Lib.hid r3
              have hBf : Hid (∀ y, B9 = some y → y.block ≠ w.heap.size) := fun y hy e => by have := (hvb.out y.block (by subst hy; rfl)).1; have := hD.out.lt; omega
              have F : Hid (∀ W, Limbs W A5 k5 l5 → Trs W B9 E.length (E.map (·.2)) → Below w.heap.size w W → GivesPrim w n (mvT L) (.returned (.tuple #[.agg #[.bool s5, .slice A5 k5 c5], .slice B9 E.length d9, .int .i64 0])) W) := fun W h1 h2 h3 => by
                rw [← hlE] at h2 ⊢
                exact ⟨s5, A5, k5, c5, l5, B9, d9, E.map (·.2), T, rfl, c1, c2, h1, HP.out, HE.out, hZ.out, by rw [hlE]; exact r1, by unfold maxLen at r2; omega, h2, hPE, hpr, h3⟩
              have HTr : Hid (∀ W u v, Duo wv w.heap.size (.bool false) (.slice none 0 0) → W = ((wv.setCell ⟨w.heap.size, 0, none⟩ u).setCell ⟨w.heap.size, 1, none⟩ v) → Trs W B9 E.length (E.map (·.2))) := fun W u v hd hW => by
                subst hW
                exact trs_duo HR3.out hd (fun y hy e => hBf.out y hy e) u v
              clear r3 hDr hDg hpr hPE hlE hO hEz hEv
              go_wp2_with fail
              refine bodyPost_ret (results_cell_tmp2 (fn := Tryz.f17) rfl _ _ _ _ _ _ _ rfl (HDr.out.set (.bool s5) (.slice A5 k5 c5)) Tryz.underlying32 rfl aint_size) rfl ?_
              exact F.out _ (HDr.out.limbs _ _ rfl rfl Hlg.out) (HTr.out _ _ _ HDr.out rfl) (bel_duo Hbw.out (Nat.le_refl _) _ _)
end Go.Proofs.YtjmbejodcloapaaGreat
namespace Go.Proofs.YtjmbejodcloapaaGreat
open Go.RowKit Cl
attribute [local go_sem ↓] Go.wp_at_zero Go.wp_at_succ
set_option maxRecDepth 100000 in
theorem r17eval_no (n i : Int) (A : Option Addr) (ma ca : Nat) (L : List TV) (sx : Bool) (Ax : Option Addr) (kx cx : Nat) (w : World) (hx : Trs w A ma L) (hno : chkN n L = 1 ∨ i < 0 ∨ n ≤ i) :
    Calls Tryz.prog 13 #[.int .i64 n, .slice A ma ca, .int .i64 i, .agg #[.bool sx, .slice Ax kx cx]] w (GivesNo w) := by
  have hb : Below w.heap.size w (w.alloc (.cells #[.bool sx, .slice Ax kx cx] 32)) := (Below.refl _ _).alloc (Nat.le_refl _) _
  have Cc := Lib.hid (r17check n A ma ca L (w.alloc (.cells #[.bool sx, .slice Ax kx cx] 32)) (hx.bel hb))
  unfold RChk at Cc
  have Hno := Lib.hid hno
  have Hb := Lib.hid hb
  clear hx hno hb
  rcases chk_cases n L with ⟨h, _⟩ | h
  · have h1 : i < 0 ∨ n ≤ i := by rcases Hno.out with h2 | h2; (· rw [h] at h2; cases h2); exact h2
    rw [h] at Cc
    clear h Hno
    by_cases h2 : i < 0
    · clear h1
      go_enter Tryz.func13, Tryz.ntmps13
      go_wp2_with fail
      refine Cc.out.mono ?_
      rintro e w1 ⟨rfl, rfl⟩
      go_wp2_with fail
      go_ret2
      exact ⟨rfl, Hb.out⟩
    · have h3 : n ≤ i := by omega
      have h4 : ¬ i < n := by omega
      clear h1
      go_enter Tryz.func13, Tryz.ntmps13
      go_wp2_with fail
      refine Cc.out.mono ?_
      rintro e w1 ⟨rfl, rfl⟩
      go_wp2_with fail
      go_ret2
      exact ⟨rfl, Hb.out⟩
  · rw [h] at Cc
    clear h Hno
    go_enter Tryz.func13, Tryz.ntmps13
    go_wp2_with fail
    refine Cc.out.mono ?_
    rintro e w1 ⟨rfl, rfl⟩
    go_wp2_with fail
    go_ret2
    exact ⟨rfl, Hb.out⟩
set_option maxRecDepth 100000 in
theorem r17prim_no (n : Int) (A : Option Addr) (ma ca : Nat) (L : List TV) (w : World) (hx : Trs w A ma L) (h : chkN n L = 1) :
    Calls Tryz.prog 17 #[.int .i64 n, .slice A ma ca] w (GivesNoP w) := by
  have b0 : Below w.heap.size w (w.alloc (.cells #[.bool false, .slice none 0 0] 32)) := (Below.refl _ _).alloc (Nat.le_refl _) _
  have Cc := Lib.hid (r17check n A ma ca L (w.alloc (.cells #[.bool false, .slice none 0 0] 32)) (hx.bel b0))
  unfold RChk at Cc
  rw [h] at Cc
  have HD0 := Lib.hid (Duo.new w (.bool false) (.slice none 0 0))
  have HB0 := Lib.hid b0
  clear hx h b0
  go_enter Tryz.func17, Tryz.ntmps17
  go_wp2_with fail
  generalize w.alloc (.cells #[.bool false, .slice none 0 0] 32) = w0 at *
  refine Cc.out.mono ?_
  rintro e w1 ⟨rfl, rfl⟩
  have y0 := HD0.out.cell0
  have y1 := HD0.out.cell1
  have f0 := HD0.out.frozen 0
  have f1 := HD0.out.frozen 1
  go_wp2_with fail
  refine bodyPost_ret (results_cell_tmp2 (fn := Tryz.f17) rfl _ _ _ _ _ _ _ rfl (HD0.out.set (.bool false) (.slice none 0 0)) Tryz.underlying32 rfl aint_size) rfl ?_
  exact ⟨rfl, bel_duo HB0.out (Nat.le_refl _) _ _⟩
end Go.Proofs.YtjmbejodcloapaaGreat
namespace Go.Proofs.YtjmbejodcloapaaGreat
open Go.RowKit Cl
attribute [local go_sem ↓] Go.wp_at_zero Go.wp_at_succ
def GivesE (w : World) (err : Int) (P : List TV → Prop) (e : Ending) (w' : World) : Prop :=
  ∃ A c T, e = .returned (.tuple #[.slice A T.length c, .int .i64 err]) ∧ T.length ≤ 4096 ∧ Trs w' A T.length T ∧ P T ∧ Below w.heap.size w w'
def GivesEI (w : World) (err : Int) (P : Int → Prop) (e : Ending) (w' : World) : Prop :=
  ∃ d, e = .returned (.tuple #[.int .i64 d, .int .i64 err]) ∧ P d ∧ Below w.heap.size w w'
def GivesEP (w : World) (err : Int) (P : Bool → List Int → List TV → Prop) (e : Ending) (w' : World) : Prop :=
  ∃ s A k c ls B cB T, e = .returned (.tuple #[.agg #[.bool s, .slice A k c], .slice B T.length cB, .int .i64 err]) ∧ k ≤ 9223372036854775807 ∧ Limbs w' A k ls ∧ T.length ≤ 4096 ∧ Trs w' B T.length T ∧ P s ls T ∧ Below w.heap.size w w'
theorem givesE_P {w : World} {n : Nat} {M : Mv} {e : Ending} {w' : World} (h : GivesP w n M e w') (hM : M.length ≤ 4096) : GivesE w 0 (fun T => PlainT n T ∧ EqM n (mvT T) M) e w' := by
  obtain ⟨A, c, T, h1, h2, h3, h4, h5, h6, h7⟩ := h
  have := h5.mv.count h6
  rw [mvT_length] at this
  exact ⟨A, c, T, h1, by omega, h4, ⟨h5, h6⟩, h7⟩
theorem givesE_no {w : World} {e : Ending} {w' : World} (h : GivesNo w e w') : GivesE w 1 (fun T => T = []) e w' := by
  obtain ⟨rfl, h⟩ := h
  exact ⟨none, 0, [], rfl, by simp, Trs.nil _ _, rfl, h⟩
theorem givesEI_D {w : World} {n i : Nat} {M : Mv} {e : Ending} {w' : World} (h : GivesD w n i M e w') : GivesEI w 0 (fun d => ∃ T, PlainT n T ∧ EqM n (mvT T) M ∧ d = degL i (mvT T)) e w' := by
  obtain ⟨T, h1, h2, h3, h4⟩ := h
  exact ⟨_, h3, ⟨T, h1, h2, rfl⟩, h4⟩
theorem givesEI_no {w : World} {e : Ending} {w' : World} (h : GivesNoI w e w') : GivesEI w 1 (fun d => d = 0) e w' := ⟨0, h.1, rfl, h.2⟩
theorem givesEP_P {w : World} {n : Nat} {M : Mv} {e : Ending} {w' : World} (h : GivesPrim w n M e w') (hM : M.length ≤ 4096) : GivesEP w 0 (fun s ls T => ∃ P, PlainT n P ∧ EqM n (mvT P) M ∧ ZVal s ls (czM (mvT P)) ∧ PlainT n T ∧ mvT T = prM (mvT P)) e w' := by
  obtain ⟨s, A, k, c, ls, B, cB, T, P, h1, h2, h3, h4, h5, h6, h7, h8, h9, h10, h11, h12, h13⟩ := h
  have h14 := h5.mv.count h6
  rw [mvT_length] at h14
  have h15 : T.length = P.length := by
    have := congrArg List.length h12
    unfold prM at this
    rw [List.length_map, mvT_length, mvT_length] at this
    exact this
  exact ⟨s, A, k, c, ls, B, cB, T, h1, by omega, h4, by omega, h10, ⟨P, h5, h6, h7, h11, h12⟩, h13⟩
theorem givesEP_no {w : World} {e : Ending} {w' : World} (h : GivesNoP w e w') : GivesEP w 1 (fun s ls T => s = false ∧ ls = [] ∧ T = []) e w' := by
  obtain ⟨rfl, h⟩ := h
  exact ⟨false, none, 0, 0, [], none, 0, [], rfl, by omega, Limbs.nil _ _, by simp, Trs.nil _ _, ⟨rfl, rfl, rfl⟩, h⟩
theorem arg_of_ok {n C : Nat} {L : List TV} (h : OkL (n : Int) L) (hC : ∀ t ∈ L, t.1.2.length ≤ C) : Arg n C L :=
  ⟨ok_len h, fun t ht x hx => ok_bd h (valT t) (List.mem_map.2 ⟨t, ht, rfl⟩) x hx, hC, h.2.2.1⟩
section
variable (n i : Int) (A : Option Addr) (ma ca : Nat) (L : List TV) (sx : Bool) (Ax : Option Addr) (kx cx : Nat) (zs : List Int) (w : World)
theorem okn {n i : Int} {L : List TV} (h : ¬ (chkN n L = 1 ∨ i < 0 ∨ n ≤ i)) : ∃ nn ii : Nat, n = (nn : Int) ∧ i = (ii : Int) ∧ ii < nn ∧ OkL (nn : Int) L ∧ nn ≤ 6 := by
  rcases chk_cases n L with ⟨_, ho⟩ | h1
  · have h0 := ho.1
    have h6 := ho.2.1
    refine ⟨n.toNat, i.toNat, by omega, by omega, by omega, ?_, by omega⟩
    rw [show ((n.toNat : Nat) : Int) = n by omega]; exact ho
  · exact absurd (.inl h1) h
theorem pair_deriv (hC : ∀ t ∈ L, t.1.2.length ≤ 2) : ∃ (err : Int) (P : List TV → Prop), (∀ T T', P T → P T' → T = T') ∧
    (∀ W, Trs W A ma L → Calls Tryz.prog 10 #[.int .i64 n, .slice A ma ca, .int .i64 i] W (GivesE W err P)) ∧
    (∀ W, Trs W A ma L → Calls Tryz.prog 11 #[.int .i64 n, .slice A ma ca, .int .i64 i] W (GivesE W err P)) := by
  by_cases h : chkN n L = 1 ∨ i < 0 ∨ n ≤ i
  · exact ⟨1, fun T => T = [], fun T T' h1 h2 => h1.trans h2.symm, fun W hW => (pDeriv_no n i A ma ca L W hW h).mono fun _ _ h => givesE_no h, fun W hW => (r17deriv_no n i A ma ca L W hW h).mono fun _ _ h => givesE_no h⟩
  · obtain ⟨nn, ii, rfl, rfl, hlt, ho, hn6⟩ := okn h
    have hl : (derM ii (mvT L)).length ≤ 4096 := by unfold derM; rw [mapM_length, mvT_length]; exact ho.2.2.1
    refine ⟨0, fun T => PlainT nn T ∧ EqM nn (mvT T) (derM ii (mvT L)), fun T T' h1 h2 => h1.1.unique h2.1 (h1.2.trans h2.2.symm), fun W hW => ?_, fun W hW => ?_⟩
    · exact (pDeriv nn 2 A ma ca L ii W hW (arg_of_ok ho hC) hn6 hlt (by omega) (der_bd (ok_bd ho) (by omega))).mono fun _ _ h => givesE_P h hl
    · exact (r17deriv nn 2 A ma ca L ii W hW ho hlt hC (by omega)).mono fun _ _ h => givesE_P h hl
theorem pair_eval (hC : ∀ t ∈ L, t.1.2.length ≤ 2) (hxc : kx ≤ cx) (hcx : cx ≤ 9223372036854775807) (hkx : kx ≤ 2) : ∃ (err : Int) (P : List TV → Prop), (∀ T T', P T → P T' → T = T') ∧
    (∀ W, Trs W A ma L → Limbs W Ax kx zs → Calls Tryz.prog 12 #[.int .i64 n, .slice A ma ca, .int .i64 i, .agg #[.bool sx, .slice Ax kx cx]] W (GivesE W err P)) ∧
    (∀ W, Trs W A ma L → Limbs W Ax kx zs → Calls Tryz.prog 13 #[.int .i64 n, .slice A ma ca, .int .i64 i, .agg #[.bool sx, .slice Ax kx cx]] W (GivesE W err P)) := by
  by_cases h : chkN n L = 1 ∨ i < 0 ∨ n ≤ i
  · exact ⟨1, fun T => T = [], fun T T' h1 h2 => h1.trans h2.symm, fun W hW _ => (pEval_no n i A ma ca L sx Ax kx cx W hW h).mono fun _ _ h => givesE_no h, fun W hW _ => (r17eval_no n i A ma ca L sx Ax kx cx W hW h).mono fun _ _ h => givesE_no h⟩
  · obtain ⟨nn, ii, rfl, rfl, hlt, ho, hn6⟩ := okn h
    have hl : (evM ii (intZ sx zs) (mvT L)).length ≤ 4096 := by unfold evM; rw [mapM_length, mvT_length]; exact ho.2.2.1
    refine ⟨0, fun T => PlainT nn T ∧ EqM nn (mvT T) (evM ii (intZ sx zs) (mvT L)), fun T T' h1 h2 => h1.1.unique h2.1 (h1.2.trans h2.2.symm), fun W hW hX => ?_, fun W hW hX => ?_⟩
    · exact (pEval nn 2 A ma ca L ii sx Ax kx cx zs W hW (arg_of_ok ho hC) hn6 hlt (by omega) (ev_bd (ok_bd ho) (by omega)) hX hxc hcx hkx).mono fun _ _ h => givesE_P h hl
    · exact (r17eval nn 2 A ma ca L ii sx Ax kx cx zs W hW ho hlt hC (by omega) hX hxc hcx (by omega)).mono fun _ _ h => givesE_P h hl
theorem abs3 {W : World} (hW : Trs W A ma L) (hC : ∀ t ∈ L, t.1.2.length ≤ 2) (hl : L.length ≤ 4096) : absM (mvT L) < 2 ^ (64 * 3) :=
  abs_of_len (C := 2) (k := 4096) hC (trs_limbs hW) hl (by omega)
theorem pair_degree (hC : ∀ t ∈ L, t.1.2.length ≤ 2) : ∃ (err : Int) (P : Int → Prop), (∀ d d', P d → P d' → d = d') ∧
    (∀ W, Trs W A ma L → Calls Tryz.prog 14 #[.int .i64 n, .slice A ma ca, .int .i64 i] W (GivesEI W err P)) ∧
    (∀ W, Trs W A ma L → Calls Tryz.prog 15 #[.int .i64 n, .slice A ma ca, .int .i64 i] W (GivesEI W err P)) := by
  by_cases h : chkN n L = 1 ∨ i < 0 ∨ n ≤ i
  · exact ⟨1, fun d => d = 0, fun T T' h1 h2 => h1.trans h2.symm, fun W hW => (mdegree_no n i A ma ca L W hW h).mono fun _ _ h => givesEI_no h, fun W hW => (r17degree_no n i A ma ca L W hW h).mono fun _ _ h => givesEI_no h⟩
  · obtain ⟨nn, ii, rfl, rfl, hlt, ho, hn6⟩ := okn h
    refine ⟨0, fun d => ∃ T, PlainT nn T ∧ EqM nn (mvT T) (mvT L) ∧ d = degL ii (mvT T), ?_, fun W hW => ?_, fun W hW => ?_⟩
    · rintro d d' ⟨T, h1, h2, rfl⟩ ⟨T', h3, h4, rfl⟩
      rw [h1.unique h3 (h2.trans h4.symm)]
    · exact (mdegree nn 2 A ma ca L ii W hW (arg_of_ok ho hC) hn6 hlt (by omega)).mono fun _ _ h => givesEI_D h
    · exact (r17degree nn 2 3 A ma ca L ii W hW ho hlt hC (by omega) (by omega) (abs3 A ma L hW hC ho.2.2.1)).mono fun _ _ h => givesEI_D h
theorem pair_prim (hC : ∀ t ∈ L, t.1.2.length ≤ 2) : ∃ (err : Int) (P : Bool → List Int → List TV → Prop), (∀ s ls T s' ls' T', P s ls T → P s' ls' T' → s = s' ∧ ls = ls' ∧ T = T') ∧
    (∀ W, Trs W A ma L → Calls Tryz.prog 16 #[.int .i64 n, .slice A ma ca] W (GivesEP W err P)) ∧
    (∀ W, Trs W A ma L → Calls Tryz.prog 17 #[.int .i64 n, .slice A ma ca] W (GivesEP W err P)) := by
  rcases chk_cases n L with ⟨_, ho'⟩ | h
  · obtain ⟨nn, rfl⟩ : ∃ nn : Nat, n = (nn : Int) := ⟨n.toNat, by have := ho'.1; omega⟩
    have hn6 : nn ≤ 6 := by have := ho'.2.1; omega
    have hl : (mvT L).length ≤ 4096 := by rw [mvT_length]; exact ho'.2.2.1
    refine ⟨0, fun s ls T => ∃ P, PlainT nn P ∧ EqM nn (mvT P) (mvT L) ∧ ZVal s ls (czM (mvT P)) ∧ PlainT nn T ∧ mvT T = prM (mvT P), ?_, fun W hW => ?_, fun W hW => ?_⟩
    · rintro s ls T s' ls' T' ⟨P, h1, h2, h3, h4, h5⟩ ⟨P', k1, k2, k3, k4, k5⟩
      obtain rfl := h1.unique k1 (h2.trans k2.symm)
      obtain ⟨e1, e2⟩ := h3.unique k3
      exact ⟨e1, e2, h4.unique k4 (fun p _ => by rw [h5, k5])⟩
    · exact (mprim nn 2 A ma ca L W hW (arg_of_ok ho' hC) hn6 (by omega)).mono fun _ _ h => givesEP_P h hl
    · exact (r17prim nn 2 3 A ma ca L W hW ho' hC (by omega) (by omega) (abs3 A ma L hW hC ho'.2.2.1)).mono fun _ _ h => givesEP_P h hl
  · exact ⟨1, fun s ls T => s = false ∧ ls = [] ∧ T = [], fun s ls T s' ls' T' h1 h2 => ⟨h1.1.trans h2.1.symm, h1.2.1.trans h2.2.1.symm, h1.2.2.trans h2.2.2.symm⟩, fun W hW => (mprim_no n A ma ca L W hW h).mono fun _ _ h => givesEP_no h, fun W hW => (r17prim_no n A ma ca L W hW h).mono fun _ _ h => givesEP_no h⟩
end
end Go.Proofs.YtjmbejodcloapaaGreat
namespace Go.Proofs.YtjmbejodcloapaaGreat
open Go.RowKit Cl
attribute [local go_sem ↓] Go.wp_at_zero Go.wp_at_succ
set_option maxRecDepth 1000000 in
set_option maxHeartbeats 16000000 in
theorem law_MpolyTurns (a0 : Int) (A1 : Option Addr) (m1 c1 : Nat) (L1 : List TV) (a2 : Int) (s3 : Bool) (A3 : Option Addr) (n3 c3 : Nat) (xs3 : List Int) (w : World) (lo0 : -9223372036854775808 ≤ a0) (hi0 : a0 ≤ 9223372036854775807)
    (w1 : Trs w A1 m1 L1) (h1 : m1 ≤ c1) (k1 : c1 ≤ 9223372036854775807) (lo2 : -9223372036854775808 ≤ a2) (hi2 : a2 ≤ 9223372036854775807) (w3 : Limbs w A3 n3 xs3) (y3 : n3 ≤ c3) (z3 : c3 ≤ 9223372036854775807) :
    Calls Tryz.prog 4 #[.int .i64 a0, .slice A1 m1 c1, .int .i64 a2, .agg #[.bool s3, .slice A3 n3 c3]] w fun e w' => e = .returned (.bool true) ∧ Below w.heap.size w w' := by
  have Ta := Lib.hid w1
  have X := Lib.hid w3
  clear w1 w3
  have hd0 := Lib.hid (Duo.new w (.bool s3) (.slice A3 n3 c3))
  have hb0 : Hid (Below w.heap.size w (w.alloc (.cells #[.bool s3, .slice A3 n3 c3] 32))) := (Below.refl _ _).alloc (Nat.le_refl _) _
  go_enter Tryz.func4, Tryz.ntmps4
  go_wp2_with fail
  generalize w.alloc (.cells #[.bool s3, .slice A3 n3 c3] 32) = w0 at *
  refine (awake17 w0).mono ?_
  rintro e wa ⟨rfl, hba⟩
  have hba' : Below w.heap.size w wa := hb0.out.trans (hba.mono hb0.out.size)
  have hda := Lib.hid (hd0.out.bel hba)
  have hb3 : Below w.heap.size w (wa.alloc (.cells #[.slice A1 m1 c1] 22)) := hba'.alloc hba'.size _
  have hq := heap_alloc_new wa (.cells #[.slice A1 m1 c1] 22)
  have hd3 := Lib.hid (hda.out.bel ((Below.refl wa.heap.size wa).alloc (Nat.le_refl _) (.cells #[.slice A1 m1 c1] 22)))
  clear hd0 hb0 hba hda
  go_wp2_with fail
  generalize wa.alloc (.cells #[.slice A1 m1 c1] 22) = wb at *
  have hc0 : wb.cell? ⟨wa.heap.size, 0, none⟩ = some (.slice A1 m1 c1) := (cell_of_row wb _ 0 _ _ (0, 0) hq).trans rfl
  have hsmall : ∀ k, k < 1 → wb.cell? ⟨wa.heap.size, k, none⟩ = some (.slice A1 m1 c1) ∧ Trs wb A1 m1 L1 ∧ m1 ≤ 9223372036854775807 := fun k hk => by
    obtain rfl : k = 0 := by omega
    exact ⟨hc0, Ta.out.bel hb3, by omega⟩
  refine (lsmall 12 2 20 wa.heap.size 1 1 (fun _ => A1) (fun _ => m1) (fun _ => c1) (fun _ => L1) wb (by omega) hsmall).mono ?_
  rintro e wc ⟨sm, rfl, rfl, hsm⟩
  have Hb := Lib.hid hb3
  have Hsm := Lib.hid hsm
  have hx0 := hd3.out.cell0
  have hx1 := hd3.out.cell1
  have hgx := hd3.out.lt
  clear hb3 hq hba' hsm hd3 hc0 hsmall
  cases sm with
  | false =>
    go_wp2_with fail
    go_ret
    exact ⟨rfl, Hb.out⟩
  | true =>
    by_cases hbig : 2 < (n3 : Int)
    · go_wp2_with fail
      go_ret
      exact ⟨rfl, Hb.out⟩
    · have hs1 := Hsm.out rfl 0 (by omega)
      have hC : ∀ t ∈ L1, t.1.2.length ≤ 2 := fun t ht => by
        obtain ⟨j, hj, rfl⟩ := List.mem_iff_getElem.1 ht
        have h9 : ((L1[j]).1.2.length : Int) ≤ 2 := (hs1.2 j hj).1
        omega
      obtain ⟨er1, P1, U1, D1, D2⟩ := pair_deriv a0 a2 A1 m1 c1 L1 hC
      obtain ⟨er2, P2, U2, V1, V2⟩ := pair_eval a0 a2 A1 m1 c1 L1 s3 A3 n3 c3 xs3 hC y3 z3 (by omega)
      obtain ⟨er3, P3, U3, G1, G2⟩ := pair_degree a0 a2 A1 m1 c1 L1 hC
      obtain ⟨er4, P4, U4, Q1, Q2⟩ := pair_prim a0 A1 m1 c1 L1 hC
      have HD1 := Lib.hid D1
      have HD2 := Lib.hid D2
      have HV1 := Lib.hid V1
      have HV2 := Lib.hid V2
      have HG1 := Lib.hid G1
      have HG2 := Lib.hid G2
      have HQ1 := Lib.hid Q1
      have HQ2 := Lib.hid Q2
      have HU1 := Lib.hid U1
      have HU2 := Lib.hid U2
      have HU3 := Lib.hid U3
      have HU4 := Lib.hid U4
      clear hs1 hC D1 D2 V1 V2 G1 G2 Q1 Q2 U1 U2 U3 U4 Hsm
      go_wp2_with fail
      refine (HD1.out wb (Ta.out.bel Hb.out)).mono ?_
      rintro e w1 ⟨B1, d1, T1, rfl, tl1, tr1, tp1, hb⟩
      replace hx0 := (hb.cell (p := ⟨w.heap.size, 0, none⟩) hgx).trans hx0
      replace hx1 := (hb.cell (p := ⟨w.heap.size, 1, none⟩) hgx).trans hx1
      replace hgx : w.heap.size < w1.heap.size := Nat.lt_of_lt_of_le hgx hb.size
      have HB_w1 : Hid (Below w.heap.size w w1) := Hb.out.trans (hb.mono Hb.out.size)
      have K1 := Lib.hid tr1
      have p1 := Lib.hid tp1
      clear hb Hb tr1 tp1
      go_wp2_with fail
      refine (HD2.out w1 (Ta.out.bel HB_w1.out)).mono ?_
      rintro e w2 ⟨B2, d2, T2, rfl, tl2, tr2, tp2, hb⟩
      replace hx0 := (hb.cell (p := ⟨w.heap.size, 0, none⟩) hgx).trans hx0
      replace hx1 := (hb.cell (p := ⟨w.heap.size, 1, none⟩) hgx).trans hx1
      replace hgx : w.heap.size < w2.heap.size := Nat.lt_of_lt_of_le hgx hb.size
      have HB_w2 : Hid (Below w.heap.size w w2) := HB_w1.out.trans (hb.mono HB_w1.out.size)
      replace K1 := Lib.hid (K1.out.bel hb)
      have K2 := Lib.hid tr2
      have p2 := Lib.hid tp2
      clear hb HB_w1 tr2 tp2
      obtain rfl := HU1.out _ _ p1.out p2.out
      go_wp2_with fail
      refine (HV1.out w2 (Ta.out.bel HB_w2.out) (X.out.bel HB_w2.out)).mono ?_
      rintro e w3 ⟨B3, d3, T3, rfl, tl3, tr3, tp3, hb⟩
      replace hx0 := (hb.cell (p := ⟨w.heap.size, 0, none⟩) hgx).trans hx0
      replace hx1 := (hb.cell (p := ⟨w.heap.size, 1, none⟩) hgx).trans hx1
      replace hgx : w.heap.size < w3.heap.size := Nat.lt_of_lt_of_le hgx hb.size
      have HB_w3 : Hid (Below w.heap.size w w3) := HB_w2.out.trans (hb.mono HB_w2.out.size)
      replace K1 := Lib.hid (K1.out.bel hb)
      replace K2 := Lib.hid (K2.out.bel hb)
      have K3 := Lib.hid tr3
      have p3 := Lib.hid tp3
      clear hb HB_w2 tr3 tp3
      go_wp2_with fail
      refine (HV2.out w3 (Ta.out.bel HB_w3.out) (X.out.bel HB_w3.out)).mono ?_
      rintro e w4 ⟨B4, d4, T4, rfl, tl4, tr4, tp4, hb⟩
      replace hx0 := (hb.cell (p := ⟨w.heap.size, 0, none⟩) hgx).trans hx0
      replace hx1 := (hb.cell (p := ⟨w.heap.size, 1, none⟩) hgx).trans hx1
      replace hgx : w.heap.size < w4.heap.size := Nat.lt_of_lt_of_le hgx hb.size
      have HB_w4 : Hid (Below w.heap.size w w4) := HB_w3.out.trans (hb.mono HB_w3.out.size)
      replace K1 := Lib.hid (K1.out.bel hb)
      replace K2 := Lib.hid (K2.out.bel hb)
      replace K3 := Lib.hid (K3.out.bel hb)
      have K4 := Lib.hid tr4
      have p4 := Lib.hid tp4
      clear hb HB_w3 tr4 tp4
      obtain rfl := HU2.out _ _ p3.out p4.out
      go_wp2_with fail
      refine (HG1.out w4 (Ta.out.bel HB_w4.out)).mono ?_
      rintro e w5 ⟨g5, rfl, tp5, hb⟩
      replace hx0 := (hb.cell (p := ⟨w.heap.size, 0, none⟩) hgx).trans hx0
      replace hx1 := (hb.cell (p := ⟨w.heap.size, 1, none⟩) hgx).trans hx1
      replace hgx : w.heap.size < w5.heap.size := Nat.lt_of_lt_of_le hgx hb.size
      have HB_w5 : Hid (Below w.heap.size w w5) := HB_w4.out.trans (hb.mono HB_w4.out.size)
      replace K1 := Lib.hid (K1.out.bel hb)
      replace K2 := Lib.hid (K2.out.bel hb)
      replace K3 := Lib.hid (K3.out.bel hb)
      replace K4 := Lib.hid (K4.out.bel hb)
      have p5 := Lib.hid tp5
      clear hb HB_w4 tp5
      go_wp2_with fail
      refine (HG2.out w5 (Ta.out.bel HB_w5.out)).mono ?_
      rintro e w6 ⟨g6, rfl, tp6, hb⟩
      replace hx0 := (hb.cell (p := ⟨w.heap.size, 0, none⟩) hgx).trans hx0
      replace hx1 := (hb.cell (p := ⟨w.heap.size, 1, none⟩) hgx).trans hx1
      replace hgx : w.heap.size < w6.heap.size := Nat.lt_of_lt_of_le hgx hb.size
      have HB_w6 : Hid (Below w.heap.size w w6) := HB_w5.out.trans (hb.mono HB_w5.out.size)
      replace K1 := Lib.hid (K1.out.bel hb)
      replace K2 := Lib.hid (K2.out.bel hb)
      replace K3 := Lib.hid (K3.out.bel hb)
      replace K4 := Lib.hid (K4.out.bel hb)
      have p6 := Lib.hid tp6
      clear hb HB_w5 tp6
      obtain rfl := HU3.out _ _ p5.out p6.out
      go_wp2_with fail
      refine (HQ1.out w6 (Ta.out.bel HB_w6.out)).mono ?_
      rintro e w7 ⟨s7, A7, k7, c7, ls7, B7, d7, T7, rfl, tc7, tn7, tl7, tr7, tp7, hb⟩
      replace hx0 := (hb.cell (p := ⟨w.heap.size, 0, none⟩) hgx).trans hx0
      replace hx1 := (hb.cell (p := ⟨w.heap.size, 1, none⟩) hgx).trans hx1
      replace hgx : w.heap.size < w7.heap.size := Nat.lt_of_lt_of_le hgx hb.size
      have HB_w7 : Hid (Below w.heap.size w w7) := HB_w6.out.trans (hb.mono HB_w6.out.size)
      replace K1 := Lib.hid (K1.out.bel hb)
      replace K2 := Lib.hid (K2.out.bel hb)
      replace K3 := Lib.hid (K3.out.bel hb)
      replace K4 := Lib.hid (K4.out.bel hb)
      have K7 := Lib.hid tr7
      have N7 := Lib.hid tn7
      have p7 := Lib.hid tp7
      clear hb HB_w6 tr7 tn7 tp7
      have hb : Below w7.heap.size w7 (w7.alloc (.cells #[.bool s7, .slice A7 k7 c7] 32)) := (Below.refl _ _).alloc (Nat.le_refl _) _
      have M7 := Lib.hid (Duo.new w7 (.bool s7) (.slice A7 k7 c7))
      replace K1 := Lib.hid (K1.out.bel hb)
      replace K2 := Lib.hid (K2.out.bel hb)
      replace K3 := Lib.hid (K3.out.bel hb)
      replace K4 := Lib.hid (K4.out.bel hb)
      replace K7 := Lib.hid (K7.out.bel hb)
      replace N7 := Lib.hid (N7.out.bel hb)
      have HB8 : Hid (Below w.heap.size w (w7.alloc (.cells #[.bool s7, .slice A7 k7 c7] 32))) := HB_w7.out.trans (hb.mono HB_w7.out.size)
      clear hb HB_w7
      go_wp2_with fail
      generalize hg7 : w7.heap.size = gp at *
      clear hg7
      generalize w7.alloc (.cells #[.bool s7, .slice A7 k7 c7] 32) = w8 at *
      refine (HQ2.out w8 (Ta.out.bel HB8.out)).mono ?_
      rintro e w9 ⟨s9, A9, k9, c9, ls9, B9, d9, T9, rfl, tc9, tn9, tl9, tr9, tp9, hb⟩
      obtain ⟨rfl, rfl, rfl⟩ := HU4.out _ _ _ _ _ _ p7.out tp9
      replace K1 := Lib.hid (K1.out.bel hb)
      replace K2 := Lib.hid (K2.out.bel hb)
      replace K3 := Lib.hid (K3.out.bel hb)
      replace K4 := Lib.hid (K4.out.bel hb)
      replace K7 := Lib.hid (K7.out.bel hb)
      replace N7 := Lib.hid (N7.out.bel hb)
      replace M7 := Lib.hid (M7.out.bel hb)
      have HB9 : Hid (Below w.heap.size w w9) := HB8.out.trans (hb.mono HB8.out.size)
      have K9 := Lib.hid tr9
      have N9 := Lib.hid tn9
      clear hb HB8 tr9 tn9 tp9
      have hb : Below w9.heap.size w9 (w9.alloc (.cells #[.bool s7, .slice A9 k9 c9] 32)) := (Below.refl _ _).alloc (Nat.le_refl _) _
      have M9 := Lib.hid (Duo.new w9 (.bool s7) (.slice A9 k9 c9))
      replace K1 := Lib.hid (K1.out.bel hb)
      replace K2 := Lib.hid (K2.out.bel hb)
      replace K3 := Lib.hid (K3.out.bel hb)
      replace K4 := Lib.hid (K4.out.bel hb)
      replace K7 := Lib.hid (K7.out.bel hb)
      replace N7 := Lib.hid (N7.out.bel hb)
      replace M7 := Lib.hid (M7.out.bel hb)
      replace K9 := Lib.hid (K9.out.bel hb)
      replace N9 := Lib.hid (N9.out.bel hb)
      have HB10 : Hid (Below w.heap.size w (w9.alloc (.cells #[.bool s7, .slice A9 k9 c9] 32))) := HB9.out.trans (hb.mono HB9.out.size)
      clear hb HB9 hx0 hx1 hgx
      have e1 : (er1 == er1) = true := by simp
      have e2 : (er2 == er2) = true := by simp
      have e3 : (er3 == er3) = true := by simp
      have e4 : (er4 == er4) = true := by simp
      have e5 : (g5 == g5) = true := by simp
      obtain ⟨gq, hgq⟩ : ∃ g, w9.heap.size = g := ⟨_, rfl⟩
      rw [hgq] at M9
      have y0 := M7.out.cell0
      have y1 := M7.out.cell1
      have v0 := M9.out.cell0
      have v1 := M9.out.cell1
      go_wp2_with fail
      refine (lsame_true _ _ _ _ _ _ _ K1.out K2.out (by omega)).mono ?_
      rintro e x1 ⟨rfl, hb⟩
      replace y0 := (M7.out.bel hb).cell0
      replace y1 := (M7.out.bel hb).cell1
      replace v0 := (M9.out.bel hb).cell0
      replace v1 := (M9.out.bel hb).cell1
      replace K1 := Lib.hid (K1.out.bel hb)
      replace K2 := Lib.hid (K2.out.bel hb)
      replace K3 := Lib.hid (K3.out.bel hb)
      replace K4 := Lib.hid (K4.out.bel hb)
      replace K7 := Lib.hid (K7.out.bel hb)
      replace N7 := Lib.hid (N7.out.bel hb)
      replace M7 := Lib.hid (M7.out.bel hb)
      replace K9 := Lib.hid (K9.out.bel hb)
      replace N9 := Lib.hid (N9.out.bel hb)
      replace M9 := Lib.hid (M9.out.bel hb)
      have HB_x1 : Hid (Below w.heap.size w x1) := HB10.out.trans (hb.mono HB10.out.size)
      clear hb HB10
      go_wp2_with fail
      refine (lsame_true _ _ _ _ _ _ _ K3.out K4.out (by omega)).mono ?_
      rintro e x2 ⟨rfl, hb⟩
      replace y0 := (M7.out.bel hb).cell0
      replace y1 := (M7.out.bel hb).cell1
      replace v0 := (M9.out.bel hb).cell0
      replace v1 := (M9.out.bel hb).cell1
      replace K1 := Lib.hid (K1.out.bel hb)
      replace K2 := Lib.hid (K2.out.bel hb)
      replace K3 := Lib.hid (K3.out.bel hb)
      replace K4 := Lib.hid (K4.out.bel hb)
      replace K7 := Lib.hid (K7.out.bel hb)
      replace N7 := Lib.hid (N7.out.bel hb)
      replace M7 := Lib.hid (M7.out.bel hb)
      replace K9 := Lib.hid (K9.out.bel hb)
      replace N9 := Lib.hid (N9.out.bel hb)
      replace M9 := Lib.hid (M9.out.bel hb)
      have HB_x2 : Hid (Below w.heap.size w x2) := HB_x1.out.trans (hb.mono HB_x1.out.size)
      clear hb HB_x1
      go_wp2_with fail
      refine (same02_any s7 s7 A7 A9 k7 k9 c7 c9 ls7 ls7 x2 N7.out N9.out tc7 tc9 true ⟨fun _ => rfl, fun _ => ⟨rfl, rfl⟩⟩).mono ?_
      rintro e x3 ⟨rfl, hb⟩
      replace K1 := Lib.hid (K1.out.bel hb)
      replace K2 := Lib.hid (K2.out.bel hb)
      replace K3 := Lib.hid (K3.out.bel hb)
      replace K4 := Lib.hid (K4.out.bel hb)
      replace K7 := Lib.hid (K7.out.bel hb)
      replace N7 := Lib.hid (N7.out.bel hb)
      replace M7 := Lib.hid (M7.out.bel hb)
      replace K9 := Lib.hid (K9.out.bel hb)
      replace N9 := Lib.hid (N9.out.bel hb)
      replace M9 := Lib.hid (M9.out.bel hb)
      have HB_x3 : Hid (Below w.heap.size w x3) := HB_x2.out.trans (hb.mono HB_x2.out.size)
      clear hb HB_x2
      go_wp2_with fail
      refine (lsame_true _ _ _ _ _ _ _ K7.out K9.out (by omega)).mono ?_
      rintro e x4 ⟨rfl, hb⟩
      replace K1 := Lib.hid (K1.out.bel hb)
      replace K2 := Lib.hid (K2.out.bel hb)
      replace K3 := Lib.hid (K3.out.bel hb)
      replace K4 := Lib.hid (K4.out.bel hb)
      replace K7 := Lib.hid (K7.out.bel hb)
      replace N7 := Lib.hid (N7.out.bel hb)
      replace M7 := Lib.hid (M7.out.bel hb)
      replace K9 := Lib.hid (K9.out.bel hb)
      replace N9 := Lib.hid (N9.out.bel hb)
      replace M9 := Lib.hid (M9.out.bel hb)
      have HB_x4 : Hid (Below w.heap.size w x4) := HB_x3.out.trans (hb.mono HB_x3.out.size)
      clear hb HB_x3
      go_wp2_with fail
      go_ret
      exact ⟨rfl, HB_x4.out⟩
end Go.Proofs.YtjmbejodcloapaaGreat
