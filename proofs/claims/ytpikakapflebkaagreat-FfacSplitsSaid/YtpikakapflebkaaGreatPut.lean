/- cleaverref09.Put: a factor more, in Order: the factors of a product by an irreducible one. -/
import Derived.Test.YtpikakapflebkaaGreatPutA
namespace Go.Proofs.YtpikakapflebkaaGreat
open Go.RowKit Cl
attribute [local go_sem ↓] Go.wp_at_zero Go.wp_at_succ

section
variable {A Q : Option Addr} {n c cq : Nat} {w : World} {q : Prm} {b f : Poly (Zp q)} {L : List (Poly (Zp q) × Nat)}
set_option maxRecDepth 100000 in
set_option maxHeartbeats 8000000 in
theorem rputR (hx : Prs w A n L) (hnc : n ≤ c) (hcm : c ≤ maxLen) (hn : n ≤ 1000000) (hq : Ints w Q f.len (fromP f)) (hl : f.len ≤ 900000000) (hL : ∀ x ∈ L, x.1.len ≤ 900000000 ∧ x.2 ≤ 900000000) (hb : b ≠ 0) (hfac : Poly.IsFac b L) (hf : f.Irr) :
    Calls Tryz.prog 12 #[.slice A n c, .slice Q f.len cq] w (GivesPut w (b * f)) := by
  obtain ⟨i0, hi, hz0, hz1, hz2⟩ := info_parts fac9_info
  obtain ⟨E, hEn, hEk, hE, hc⟩ := prs_entq hx
  have HEn := Lib.hid hEn
  have HEk := Lib.hid hEk
  have HE := Lib.hid hE
  have Hc := Lib.hid hc
  have Hr := Lib.hid (reads_fcells hEn hc)
  have HLn := Lib.hid hx.len
  have HL : Hid (∀ x ∈ E, x.2.1.len ≤ 900000000 ∧ x.2.2 ≤ 900000000) := fun x hx => hL x.2 (by rw [← hEk]; exact List.mem_map.2 ⟨x, hx, rfl⟩)
  have Hnew : Hid (∀ k, k ≤ n → (∀ j (hj : j < L.length), j < k → Poly.Bef (L[j]).1 f) → (∀ hk : k < L.length, Poly.Bef f (L[k]).1) → ∀ x : EntQ q, x.2 = (f, 1) → Poly.IsFac (b * f) ((E.take k ++ (x :: E.drop k)).map (·.2))) := fun k hk h1 h2 x hx => by
    have h3 := hfac.put_new hb hf (k := k) (by have := HLn.out; omega) h1 h2
    rw [List.map_append, List.map_cons, List.map_take, List.map_drop, hEk, hx]
    exact h3
  have Hold : Hid (∀ k (hk : k < L.length), (L[k]).1 = f → ∀ x : EntQ q, x.2 = (f, (L[k]).2 + 1) → Poly.IsFac (b * f) ((E.set k x).map (·.2))) := fun k hk h1 x hx => by
    have h3 := hfac.put_same hb hf hk h1
    rw [List.map_set, hEk, hx]
    exact h3
  have Hq := Lib.hid hq
  have Hfi := Lib.hid hf
  have Hnc := Lib.hid hnc
  have Hcm := Lib.hid hcm
  have HEl : Hid (∀ k (h : k < L.length) (h2 : k < E.length), L[k] = (E[k]).2) := fun k h h2 => by simp [← hEk]
  clear hx hE hc hq hfac hf hL hb hnc hcm hEn hEk
  go_enter Tryz.func12, Tryz.ntmps12
  go_wp2_with fail
  go_loopw [5] (fun i wr => ∃ k m : Nat, k ≤ n ∧ i = .int .i64 (k : Int) ∧ wr = w.drewN m ∧ Hid (∀ j (hj : j < L.length), j < k → Poly.Bef (L[j]).1 f)) (fun i _ => n - (intOf i).toNat)
  case atStart => exact ⟨0, 0, by omega, rfl, rfl, fun j _ h => absurd h (by omega)⟩
  case round =>
    obtain ⟨k, m, hk, rfl, rfl, hbef⟩ := hrel
    have hbel0 : Below w.heap.size w (w.drewN m) := below_drewN (Below.refl _ _) _
    by_cases hlt : k < n
    · obtain ⟨bb, o, rfl, hbb, hcc⟩ := Hc.out (by omega)
      have hkE : k < E.length := by rw [HEn.out]; exact hlt
      have hkL : k < L.length := by rw [HLn.out]; exact hlt
      obtain ⟨e1, e2⟩ := hcc k hkE
      have Hx := Lib.hid (HE.out _ (List.getElem_mem hkE))
      obtain ⟨hm1, hm2⟩ := HL.out _ (List.getElem_mem hkE)
      have hlx := HEl.out k hkL hkE
      have Hold1 := Lib.hid (Hold.out k hkL)
      have Hbk : Hid (∀ h : Poly.Bef (L[k]).1 f, ∀ j (hj : j < L.length), j < k + 1 → Poly.Bef (L[j]).1 f) := fun h j hj hjk => by
        by_cases e : j = k
        · subst e; exact h
        · exact hbef.out j hj (by omega)
      have Hnk : Hid ((Poly.Bef f (L[k]).1) → ∀ x : EntQ q, x.2 = (f, 1) → Poly.IsFac (b * f) ((E.take k ++ (x :: E.drop k)).map (·.2))) := fun h => Hnew.out k hk hbef.out (fun _ => h)
      rw [hlx] at Hold1 Hbk Hnk
      have Hg1 := Lib.hid (fcells_get1 hkE)
      have Hset : Hid (∀ mm : Nat, (fcells E).set (2 * k + 1) (.int .i64 (mm : Int)) = fcells (E.set k (E[k].1, (E[k].2.1, mm)))) := fun mm => fcells_set1 E k hkE mm
      clear hlx hcc
      generalize E[k] = x at *
      obtain ⟨⟨Ak, ck⟩, ⟨P, kk⟩⟩ := x
      simp only at e1 e2 hm1 hm2
      rw [Nat.mul_comm 2 k] at e1 e2
      rw [← Nat.add_assoc] at e2
      have hcx : (w.drewN m).cell? ⟨bb, o + k * 2, none⟩ = some (.slice Ak P.len ck) := e1
      have hlt' : (k : Int) < (n : Int) := by omega
      have Hx' : Ints w Ak P.len (fromP P) := Hx.out
      have HX := Lib.hid Hx'
      clear Hx Hx' e1
      have C := Lib.hid (rless_any Ak Q P.len f.len ck cq (fromP P) (fromP f) (w.drewN m) (HX.out.drewN _) (Hq.out.drewN _) (by omega) (by omega))
      by_cases hbf : Poly.Bef P f
      · have hless : lessI (fromP P) (fromP f) = true := lessI_iff.2 hbf
        rw [hless] at C
        have Hbk1 := Lib.hid (Hbk.out hbf)
        clear hless hbf
        go_wp2_with fail
        refine C.out.mono ?_
        rintro e w1 ⟨rfl, k1, rfl⟩
        go_wp2_with fail
        go_roundw
        case rel => exact ⟨k + 1, _, by omega, by go_num, by first | rfl | exact World.drewN_drewN _ _ _, Hbk1⟩
        case measure => simp [intOf]; omega
      · have hless : lessI (fromP P) (fromP f) = false := by
          cases h : lessI (fromP P) (fromP f) with
          | true => exact absurd (lessI_iff.1 h) hbf
          | false => rfl
        rw [hless] at C
        have Hnb := Lib.hid hbf
        clear hless hbf
        go_wp2_with fail
        refine C.out.mono ?_
        rintro e w1 ⟨rfl, k1, rfl⟩
        have C2 := Lib.hid (same06_any Ak Q P.len f.len ck cq (fromP P) (fromP f) (w.drewN (m + k1)) (HX.out.drewN _) (Hq.out.drewN _) (by omega) (by omega))
        have hcx2 : (w.drewN (m + k1)).cell? ⟨bb, o + k * 2, none⟩ = some (.slice Ak P.len ck) := hcx
        by_cases hPf : P = f
        · have heq : eqI (fromP P) (fromP f) = true := eqI_yes (by rw [hPf])
          rw [heq] at C2
          have Hold2 := Lib.hid (Hold1.out hPf)
          have HPf := Lib.hid hPf
          clear heq hPf Hbk Hnk C
          go_wp2_with fail
          refine C2.out.mono ?_
          rintro e w2 ⟨rfl, k2, rfl⟩
          have hbw : Below w.heap.size w ((w.drewN (m + k1)).drewN k2) := below_drewN (below_drewN (Below.refl _ _) _) _
          have Hr1 := Lib.hid (Hr.out.below hbw)
          have HE1 : Hid (∀ x ∈ E, Ints ((w.drewN (m + k1)).drewN k2) x.1.1 x.2.1.len (fromP x.2.1)) := fun x hx => (HE.out x hx).bel hbw
          have Hx1 := Lib.hid (HX.out.bel hbw)
          generalize ((w.drewN (m + k1)).drewN k2) = wt at *
          have hs6 := hbw.size
          clear Hc
          have Hr2 := Lib.hid (Hr1.out.more hs6)
          have HA : Hid (World.ownsRow (wt.alloc (.cells #[] 50)) wt.heap.size 50 2 (.slice (some ⟨wt.heap.size, 0, none⟩) 0 0) 0 []) := own_empty2 wt _ (Nat.le_refl _)
          have BA : Hid (Below wt.heap.size wt (wt.alloc (.cells #[] 50))) := (Below.refl _ _).alloc (Nat.le_refl _) _
          have RA := Lib.hid (Hr2.out.below BA.out)
          have hl1 : 0 + n ≤ maxLen := by unfold maxLen; omega
          have hl2 : (0 + n) * 32 ≤ 140737488355328 := by omega
          have Hc1 : Hid (∀ (W : World) (g cap : Nat), W.ownsRow wt.heap.size 50 2 (.slice (some ⟨g, 0, none⟩) n cap) n (fcells E) → W.cell? ⟨g, k * 2 + 1, none⟩ = some (.int .i64 (kk : Int))) := fun W g cap hW => by
            have h := hW.cells (g := g) rfl (2 * k + 1) _ Hg1.out
            rw [Go.WideShapes.add_plain, Nat.zero_add, Nat.mul_comm 2 k] at h
            exact h
          go_wp2_with (at_builtin; refine wpList_append_any _ (by rfl) _ _ _ (by rfl) wt.heap.size 50 i0 _ 2 32 Tryz.underlying30 hi hz0 hz1 hz2 rfl (by omega) (.slice (some ⟨wt.heap.size, 0, none⟩) 0 0) 0 [] (by rfl) HA.out wt.heap.size (some ⟨bb, o, none⟩) n c (fcells E) (by rfl) RA.out (fcells_oneCell E) hl1 hl2 BA.out.size ?_; intro v1 w1 hown1 hg1 hat1; rw [List.nil_append, Nat.zero_add] at hown1; obtain ⟨g, cap, rfl, hgB, hgl⟩ := hown1.form (by omega); have hc1 : w1.cell? ⟨g, k * 2 + 1, none⟩ = some (.int .i64 (kk : Int)) := Hc1.out w1 g cap hown1; have hf1 : w1.frozen? ⟨g, k * 2 + 1, none⟩ = false := hown1.frozenAt _)
          have hb1 := BA.out.grown hg1 BA.out.size (fun k hk => (HA.out.lt k hk).1)
          have hown2 := (hown1.stored (2 * k + 1) (.int .i64 ((kk + 1 : Nat) : Int))).1
          rw [Hset.out (kk + 1), Nat.mul_comm 2 k, show ((kk + 1 : Nat) : Int) = (kk : Int) + 1 from rfl] at hown2
          have hfin := Hold2.out ((Ak, ck), (P, kk + 1)) (by rw [HPf.out])
          have hb2 := hb1.setCell (p := ⟨g, k * 2 + 1, none⟩) hgB (.int .i64 ((kk : Int) + 1))
          obtain ⟨B9, d9, e9, hd1, hd2, hd3, hprs⟩ := prs_of_own hown2 (by rw [List.length_set, HEn.out]) (fun x hx => by
            rcases List.mem_or_eq_of_mem_set hx with hx | rfl
            · exact (HE1.out x hx).bel hb2
            · exact Hx1.out.bel hb2)
          injection e9 with e91 e92 e93
          subst e91
          subst e93
          go_ret
          exact ⟨_, _, _, _, rfl, hd1, hd2, hd3, hprs, hfin, hbw.trans (hb2.mono hs6)⟩
        · have hfrom : fromP P ≠ fromP f := fun h => hPf (by exact fromP_inj h)
          have heq : eqI (fromP P) (fromP f) = false := eqI_no hfrom
          rw [heq] at C2
          have Hfin : Hid (∀ x : EntQ q, x.2 = (f, 1) → Poly.IsFac (b * f) ((E.take k ++ (x :: E.drop k)).map (·.2))) := Hnk.out (by
            rcases Poly.Bef.tri P f with h | h | h
            · exact absurd h Hnb.out
            · exact absurd h hPf
            · exact h)
          clear heq hPf Hbk Hnk C hfrom
          go_wp2_with fail
          refine C2.out.mono ?_
          rintro e w2 ⟨rfl, k2, rfl⟩
          have hbw : Below w.heap.size w ((w.drewN (m + k1)).drewN k2) := below_drewN (below_drewN (Below.refl _ _) _) _
          have Hr1 := Lib.hid (Hr.out.below hbw)
          have Hq1 := Lib.hid (Hq.out.bel hbw)
          have HE1 : Hid (∀ x ∈ E, Ints ((w.drewN (m + k1)).drewN k2) x.1.1 x.2.1.len (fromP x.2.1)) := fun x hx => (HE.out x hx).bel hbw
          generalize ((w.drewN (m + k1)).drewN k2) = wt at *
          have hs6 := hbw.size
          have hkc : (k : Int) ≤ (c : Int) := by have := Hnc.out; omega
          have hnc2 : (n : Int) ≤ (c : Int) := by have := Hnc.out; omega
          have hk0 : (0 : Int) ≤ (k : Int) := by omega
          have hkn : (k : Int) ≤ (n : Int) := by omega
          clear Hc
          go_wp2_with fail
          have Hr2 := Lib.hid (Hr1.out.more hs6)
          have HA : Hid (World.ownsRow (wt.alloc (.cells #[] 50)).drew wt.heap.size 50 2 (.slice (some ⟨wt.heap.size, 0, none⟩) 0 0) 0 []) := own_drew (own_empty2 wt _ (Nat.le_refl _))
          have HB : Hid (World.ownsRow ((wt.alloc (.cells #[] 50)).alloc (.cells #[.slice Q f.len cq, .int .i64 1] 50)).drew wt.heap.size 50 2 (.slice (some ⟨wt.heap.size, 0, none⟩) 0 0) 0 []) := own_drew ((own_empty2 wt _ (Nat.le_refl _)).alloc _)
          have HC : Hid (World.ownsRow ((wt.alloc (.cells #[.slice Q f.len cq, .int .i64 1] 50)).alloc (.cells #[] 50)).drew wt.heap.size 50 2 (.slice (some ⟨wt.heap.size + 1, 0, none⟩) 0 0) 0 []) := own_drew (by have := own_empty2 (wt.alloc (.cells #[.slice Q f.len cq, .int .i64 1] 50)) (base := wt.heap.size) 50 (by simp); simpa using this)
          have BA : Hid (Below wt.heap.size wt (wt.alloc (.cells #[] 50)).drew) := ((Below.refl _ _).alloc (Nat.le_refl _) _).drew
          have BB : Hid (Below wt.heap.size wt ((wt.alloc (.cells #[] 50)).alloc (.cells #[.slice Q f.len cq, .int .i64 1] 50)).drew) := (((Below.refl _ _).alloc (Nat.le_refl _) _).alloc (by simp) _).drew
          have BC : Hid (Below wt.heap.size wt ((wt.alloc (.cells #[.slice Q f.len cq, .int .i64 1] 50)).alloc (.cells #[] 50)).drew) := (((Below.refl _ _).alloc (Nat.le_refl _) _).alloc (by simp) _).drew
          have hrq : Reads wt wt.heap.size 2 (some ⟨bb, o, none⟩) k ((fcells E).take (k * 2)) := reads_take2 Hr2.out hk
          have RA := Lib.hid (hrq.below BA.out)
          have RB := Lib.hid (hrq.below BB.out)
          have RC := Lib.hid (hrq.below BC.out)
          have NBk : Hid (∀ w', World.grownBy ((wt.alloc (.cells #[] 50)).alloc (.cells #[.slice Q f.len cq, .int .i64 1] 50)).drew w' (Value.slice (some ⟨wt.heap.size, 0, none⟩) 0 0).ownBlock → Reads w' (wt.heap.size + 1 + 1) 2 (some ⟨wt.heap.size + 1, 0, none⟩) 1 [.slice Q f.len cq, .int .i64 1]) := fun w' hg => by
            obtain ⟨h0, h1⟩ := cells_new2 (wt.alloc (.cells #[] 50)) (.slice Q f.len cq) (.int .i64 1) 50
            rw [World.size_alloc] at h0 h1
            exact reads_two (hg.cell h0 (by simp [Value.ownBlock])) (hg.cell h1 (by simp [Value.ownBlock])) (by omega)
          have NCk : Hid (∀ w', World.grownBy ((wt.alloc (.cells #[.slice Q f.len cq, .int .i64 1] 50)).alloc (.cells #[] 50)).drew w' (Value.slice (some ⟨wt.heap.size + 1, 0, none⟩) 0 0).ownBlock → Reads w' (wt.heap.size + 1) 2 (some ⟨wt.heap.size, 0, none⟩) 1 [.slice Q f.len cq, .int .i64 1]) := fun w' hg => by
            obtain ⟨h0, h1⟩ := cells_new2 wt (.slice Q f.len cq) (.int .i64 1) 50
            have h0' := (World.cell?_alloc_lt (wt.alloc (.cells #[.slice Q f.len cq, .int .i64 1] 50)) (.cells #[] 50) ⟨wt.heap.size, 0, none⟩ (by simp)).trans h0
            have h1' := (World.cell?_alloc_lt (wt.alloc (.cells #[.slice Q f.len cq, .int .i64 1] 50)) (.cells #[] 50) ⟨wt.heap.size, 1, none⟩ (by simp)).trans h1
            exact reads_two (hg.cell h0' (by simp [Value.ownBlock])) (hg.cell h1' (by simp [Value.ownBlock])) (by omega)
          have hl1 : 0 + k ≤ maxLen := by unfold maxLen; omega
          have hl2 : (0 + k) * 32 ≤ 140737488355328 := by omega
          have hl3 : 0 + k + 1 ≤ maxLen := by unfold maxLen; omega
          have hl4 : (0 + k + 1) * 32 ≤ 140737488355328 := by omega
          have hl5 : 0 + k + 1 + (n - k) ≤ maxLen := by unfold maxLen; omega
          have hl6 : (0 + k + 1 + (n - k)) * 32 ≤ 140737488355328 := by omega
          have Hone : Hid (∀ u ∈ (fcells E).take (k * 2), u.oneCell' = true) := fun u hu => fcells_oneCell _ u (List.mem_of_mem_take hu)
          have Hct : Hid (Reads wt wt.heap.size 2 (if c = k then some ⟨bb, o, none⟩ else some ⟨bb, o + k * 2, none⟩) (n - k) ((fcells E).drop (k * 2))) := by
            have h := Hr2.out.cut hk Hnc.out
            rw [Option.map_some, Go.WideShapes.add_plain] at h
            exact h
          clear hrq
          go_region_held3 (fun w' => Below wt.heap.size wt w')
            (first | exact hb3 | exact hb2 | exact hb1 | exact BA.out | exact BB.out | exact BC.out | exact hb1.alloc hb1.size _ | exact (Below.refl _ _).drew | exact ((Below.refl _ _).alloc (Nat.le_refl _) _).drew)
            (first
              | (refine step_append_any (w := (wt.alloc (.cells #[] 50)).drew) (by rfl) (.tmp 47) (.tmp 50) _ (by rfl) wt.heap.size 50 i0 _ 2 32 Tryz.underlying30 hi hz0 hz1 hz2 rfl (by omega) (.slice (some ⟨wt.heap.size, 0, none⟩) 0 0) 0 [] (by rfl) HA.out wt.heap.size (some ⟨bb, o, none⟩) k c ((fcells E).take (k * 2)) (by rfl) RA.out Hone.out hl1 hl2 BA.out.size ?_; intro v1 w1 hown1 hg1 hat1; have hb1 := BA.out.grown hg1 BA.out.size (fun k hk => (HA.out.lt k hk).1))
              | (refine step_append_any (w := ((wt.alloc (.cells #[] 50)).alloc (.cells #[.slice Q f.len cq, .int .i64 1] 50)).drew) (by rfl) (.tmp 47) (.tmp 50) _ (by rfl) wt.heap.size 50 i0 _ 2 32 Tryz.underlying30 hi hz0 hz1 hz2 rfl (by omega) (.slice (some ⟨wt.heap.size, 0, none⟩) 0 0) 0 [] (by rfl) HB.out wt.heap.size (some ⟨bb, o, none⟩) k c ((fcells E).take (k * 2)) (by rfl) RB.out Hone.out hl1 hl2 BB.out.size ?_; intro v1 w1 hown1 hg1 hat1; have hb1 := BB.out.grown hg1 BB.out.size (fun k hk => (HB.out.lt k hk).1); have hn1 := NBk.out _ hg1)
              | (refine step_append_any (w := ((wt.alloc (.cells #[.slice Q f.len cq, .int .i64 1] 50)).alloc (.cells #[] 50)).drew) (by rfl) (.tmp 47) (.tmp 50) _ (by rfl) wt.heap.size 50 i0 _ 2 32 Tryz.underlying30 hi hz0 hz1 hz2 rfl (by omega) (.slice (some ⟨wt.heap.size + 1, 0, none⟩) 0 0) 0 [] (by rfl) HC.out wt.heap.size (some ⟨bb, o, none⟩) k c ((fcells E).take (k * 2)) (by rfl) RC.out Hone.out hl1 hl2 BC.out.size ?_; intro v1 w1 hown1 hg1 hat1; have hb1 := BC.out.grown hg1 BC.out.size (fun k hk => (HC.out.lt k hk).1); have hn1 := NCk.out _ hg1)
              | (refine step_append_any (w := w1.alloc (.cells #[.slice Q f.len cq, .int .i64 1] 50)) (by rfl) (.tmp 51) (.tmp 54) _ (by rfl) wt.heap.size 50 i0 _ 2 32 Tryz.underlying30 hi hz0 hz1 hz2 rfl (by omega) v1 (0 + k) ([] ++ (fcells E).take (k * 2)) (by rfl) (hown1.alloc _) (w1.heap.size + 1) (some ⟨w1.heap.size, 0, none⟩) 1 1 [.slice Q f.len cq, .int .i64 1] (by rfl) (reads_new0 w1 _ _ _) (by simp [Value.oneCell']) hl3 hl4 (hb1.alloc hb1.size _).size ?_; intro v2 w2 hown2 hg2 hat2; have hb2 := (hb1.alloc hb1.size _).grown hg2 (hb1.alloc hb1.size _).size (fun k hk => (hown1.lt k hk).1))
              | (refine step_append_any (w := w1) (by rfl) (.tmp 51) (.tmp 54) _ (by rfl) wt.heap.size 50 i0 _ 2 32 Tryz.underlying30 hi hz0 hz1 hz2 rfl (by omega) v1 (0 + k) ([] ++ (fcells E).take (k * 2)) (by rfl) hown1 _ _ 1 1 [.slice Q f.len cq, .int .i64 1] (by rfl) hn1 (by simp [Value.oneCell']) hl3 hl4 hb1.size ?_; intro v2 w2 hown2 hg2 hat2; have hb2 := hb1.grown hg2 hb1.size (fun k hk => (hown1.lt k hk).1))
              | (refine step_append_any (w := w2) (by rfl) (.tmp 55) (.tmp 58) _ (by rfl) wt.heap.size 50 i0 _ 2 32 Tryz.underlying30 hi hz0 hz1 hz2 rfl (by omega) v2 (0 + k + 1) ([] ++ (fcells E).take (k * 2) ++ [.slice Q f.len cq, .int .i64 1]) (by rfl) hown2 wt.heap.size (if c = k then some ⟨bb, o, none⟩ else some ⟨bb, o + k * 2, none⟩) (n - k) (c - k) ((fcells E).drop (k * 2)) (by rfl) (Hct.out.below hb2) (fun u hu => fcells_oneCell _ u (List.mem_of_mem_drop hu)) hl5 hl6 hb2.size ?_; intro v3 w3 hown3 hg3 hat3; have hb3 := hb2.grown hg3 hb2.size (fun k hk => (hown2.lt k hk).1)))
          all_goals
            have he : [] ++ (fcells E).take (k * 2) ++ [.slice Q f.len cq, .int .i64 1] ++ (fcells E).drop (k * 2) = fcells (E.take k ++ ((((Q, cq), (f, 1)) : EntQ q) :: E.drop k)) := by
              rw [fcells_append, fcells_cons, fcells_take, fcells_drop, List.nil_append, List.append_assoc]; rfl
            rw [he, show 0 + k + 1 + (n - k) = n + 1 by omega] at hown3
            have hfin := Hfin.out ((Q, cq), (f, 1)) rfl
            obtain ⟨B9, d9, rfl, hd1, hd2, hd3, hprs⟩ := prs_of_own hown3 (by rw [List.length_append, List.length_cons, List.length_take, List.length_drop, HEn.out]; omega) (fun x hx => by
              rcases List.mem_append.1 hx with hx | hx
              · exact (HE1.out x (List.mem_of_mem_take hx)).bel hb3
              · rcases List.mem_cons.1 hx with rfl | hx
                · exact Hq1.out.bel hb3
                · exact (HE1.out x (List.mem_of_mem_drop hx)).bel hb3)
            have hb9 := hbw.trans (hb3.mono hs6)
            clear hown3 hg3 hat3 hown2 hg2 hat2 hown1 hg1 hat1 hb1 hb2 hb3 he
            go_wp2_with fail
            all_goals
              go_ret
              exact ⟨B9, _, d9, _, rfl, hd1, hd2, hd3, hprs, hfin, hb9⟩
    · obtain rfl : k = n := by omega
      have hlt' : ¬ (k : Int) < (k : Int) := by omega
      have Hfin : Hid (∀ x : EntQ q, x.2 = (f, 1) → Poly.IsFac (b * f) ((E.take k ++ (x :: E.drop k)).map (·.2))) := Hnew.out k hk hbef.out (fun h => absurd h (by rw [HLn.out]; omega))
      have hbw : Below w.heap.size w (w.drewN m) := hbel0
      have Hr1 := Lib.hid (Hr.out.below hbw)
      have Hq1 := Lib.hid (Hq.out.bel hbw)
      have HE1 : Hid (∀ x ∈ E, Ints (w.drewN m) x.1.1 x.2.1.len (fromP x.2.1)) := fun x hx => (HE.out x hx).bel hbw
      generalize (w.drewN m) = wt at *
      have hs6 := hbw.size
      have hkc : (k : Int) ≤ (c : Int) := by have := Hnc.out; omega
      have hnc2 : (k : Int) ≤ (c : Int) := by have := Hnc.out; omega
      have hk0 : (0 : Int) ≤ (k : Int) := by omega
      have hkn : (k : Int) ≤ (k : Int) := by omega
      clear Hc
      go_wp2_with fail
      have Hr2 := Lib.hid (Hr1.out.more hs6)
      have HA : Hid (World.ownsRow (wt.alloc (.cells #[] 50)).drew wt.heap.size 50 2 (.slice (some ⟨wt.heap.size, 0, none⟩) 0 0) 0 []) := own_drew (own_empty2 wt _ (Nat.le_refl _))
      have HB : Hid (World.ownsRow ((wt.alloc (.cells #[] 50)).alloc (.cells #[.slice Q f.len cq, .int .i64 1] 50)).drew wt.heap.size 50 2 (.slice (some ⟨wt.heap.size, 0, none⟩) 0 0) 0 []) := own_drew ((own_empty2 wt _ (Nat.le_refl _)).alloc _)
      have HC : Hid (World.ownsRow ((wt.alloc (.cells #[.slice Q f.len cq, .int .i64 1] 50)).alloc (.cells #[] 50)).drew wt.heap.size 50 2 (.slice (some ⟨wt.heap.size + 1, 0, none⟩) 0 0) 0 []) := own_drew (by have := own_empty2 (wt.alloc (.cells #[.slice Q f.len cq, .int .i64 1] 50)) (base := wt.heap.size) 50 (by simp); simpa using this)
      have BA : Hid (Below wt.heap.size wt (wt.alloc (.cells #[] 50)).drew) := ((Below.refl _ _).alloc (Nat.le_refl _) _).drew
      have BB : Hid (Below wt.heap.size wt ((wt.alloc (.cells #[] 50)).alloc (.cells #[.slice Q f.len cq, .int .i64 1] 50)).drew) := (((Below.refl _ _).alloc (Nat.le_refl _) _).alloc (by simp) _).drew
      have BC : Hid (Below wt.heap.size wt ((wt.alloc (.cells #[.slice Q f.len cq, .int .i64 1] 50)).alloc (.cells #[] 50)).drew) := (((Below.refl _ _).alloc (Nat.le_refl _) _).alloc (by simp) _).drew
      have hrq : Reads wt wt.heap.size 2 A k ((fcells E).take (k * 2)) := reads_take2 Hr2.out hk
      have RA := Lib.hid (hrq.below BA.out)
      have RB := Lib.hid (hrq.below BB.out)
      have RC := Lib.hid (hrq.below BC.out)
      have NBk : Hid (∀ w', World.grownBy ((wt.alloc (.cells #[] 50)).alloc (.cells #[.slice Q f.len cq, .int .i64 1] 50)).drew w' (Value.slice (some ⟨wt.heap.size, 0, none⟩) 0 0).ownBlock → Reads w' (wt.heap.size + 1 + 1) 2 (some ⟨wt.heap.size + 1, 0, none⟩) 1 [.slice Q f.len cq, .int .i64 1]) := fun w' hg => by
        obtain ⟨h0, h1⟩ := cells_new2 (wt.alloc (.cells #[] 50)) (.slice Q f.len cq) (.int .i64 1) 50
        rw [World.size_alloc] at h0 h1
        exact reads_two (hg.cell h0 (by simp [Value.ownBlock])) (hg.cell h1 (by simp [Value.ownBlock])) (by omega)
      have NCk : Hid (∀ w', World.grownBy ((wt.alloc (.cells #[.slice Q f.len cq, .int .i64 1] 50)).alloc (.cells #[] 50)).drew w' (Value.slice (some ⟨wt.heap.size + 1, 0, none⟩) 0 0).ownBlock → Reads w' (wt.heap.size + 1) 2 (some ⟨wt.heap.size, 0, none⟩) 1 [.slice Q f.len cq, .int .i64 1]) := fun w' hg => by
        obtain ⟨h0, h1⟩ := cells_new2 wt (.slice Q f.len cq) (.int .i64 1) 50
        have h0' := (World.cell?_alloc_lt (wt.alloc (.cells #[.slice Q f.len cq, .int .i64 1] 50)) (.cells #[] 50) ⟨wt.heap.size, 0, none⟩ (by simp)).trans h0
        have h1' := (World.cell?_alloc_lt (wt.alloc (.cells #[.slice Q f.len cq, .int .i64 1] 50)) (.cells #[] 50) ⟨wt.heap.size, 1, none⟩ (by simp)).trans h1
        exact reads_two (hg.cell h0' (by simp [Value.ownBlock])) (hg.cell h1' (by simp [Value.ownBlock])) (by omega)
      have hl1 : 0 + k ≤ maxLen := by unfold maxLen; omega
      have hl2 : (0 + k) * 32 ≤ 140737488355328 := by omega
      have hl3 : 0 + k + 1 ≤ maxLen := by unfold maxLen; omega
      have hl4 : (0 + k + 1) * 32 ≤ 140737488355328 := by omega
      have hl5 : 0 + k + 1 + 0 ≤ maxLen := by unfold maxLen; omega
      have hl6 : (0 + k + 1 + 0) * 32 ≤ 140737488355328 := by omega
      have Hone : Hid (∀ u ∈ (fcells E).take (k * 2), u.oneCell' = true) := fun u hu => fcells_oneCell _ u (List.mem_of_mem_take hu)
      have Hct : Hid (Reads wt wt.heap.size 2 (if c = k then A else Option.map (fun x => x.add (k * 2)) A) 0 ((fcells E).drop (k * 2))) := by
        have h := Hr2.out.cut hk Hnc.out
        rw [Nat.sub_self] at h
        exact h
      clear hrq
      go_region_held3 (fun w' => Below wt.heap.size wt w')
        (first | exact hb3 | exact hb2 | exact hb1 | exact BA.out | exact BB.out | exact BC.out | exact hb1.alloc hb1.size _ | exact (Below.refl _ _).drew | exact ((Below.refl _ _).alloc (Nat.le_refl _) _).drew)
        (first
          | (refine step_append_any (w := (wt.alloc (.cells #[] 50)).drew) (by rfl) (.tmp 47) (.tmp 50) _ (by rfl) wt.heap.size 50 i0 _ 2 32 Tryz.underlying30 hi hz0 hz1 hz2 rfl (by omega) (.slice (some ⟨wt.heap.size, 0, none⟩) 0 0) 0 [] (by rfl) HA.out wt.heap.size A k c ((fcells E).take (k * 2)) (by rfl) RA.out Hone.out hl1 hl2 BA.out.size ?_; intro v1 w1 hown1 hg1 hat1; have hb1 := BA.out.grown hg1 BA.out.size (fun k hk => (HA.out.lt k hk).1))
          | (refine step_append_any (w := ((wt.alloc (.cells #[] 50)).alloc (.cells #[.slice Q f.len cq, .int .i64 1] 50)).drew) (by rfl) (.tmp 47) (.tmp 50) _ (by rfl) wt.heap.size 50 i0 _ 2 32 Tryz.underlying30 hi hz0 hz1 hz2 rfl (by omega) (.slice (some ⟨wt.heap.size, 0, none⟩) 0 0) 0 [] (by rfl) HB.out wt.heap.size A k c ((fcells E).take (k * 2)) (by rfl) RB.out Hone.out hl1 hl2 BB.out.size ?_; intro v1 w1 hown1 hg1 hat1; have hb1 := BB.out.grown hg1 BB.out.size (fun k hk => (HB.out.lt k hk).1); have hn1 := NBk.out _ hg1)
          | (refine step_append_any (w := ((wt.alloc (.cells #[.slice Q f.len cq, .int .i64 1] 50)).alloc (.cells #[] 50)).drew) (by rfl) (.tmp 47) (.tmp 50) _ (by rfl) wt.heap.size 50 i0 _ 2 32 Tryz.underlying30 hi hz0 hz1 hz2 rfl (by omega) (.slice (some ⟨wt.heap.size + 1, 0, none⟩) 0 0) 0 [] (by rfl) HC.out wt.heap.size A k c ((fcells E).take (k * 2)) (by rfl) RC.out Hone.out hl1 hl2 BC.out.size ?_; intro v1 w1 hown1 hg1 hat1; have hb1 := BC.out.grown hg1 BC.out.size (fun k hk => (HC.out.lt k hk).1); have hn1 := NCk.out _ hg1)
          | (refine step_append_any (w := w1.alloc (.cells #[.slice Q f.len cq, .int .i64 1] 50)) (by rfl) (.tmp 51) (.tmp 54) _ (by rfl) wt.heap.size 50 i0 _ 2 32 Tryz.underlying30 hi hz0 hz1 hz2 rfl (by omega) v1 (0 + k) ([] ++ (fcells E).take (k * 2)) (by rfl) (hown1.alloc _) (w1.heap.size + 1) (some ⟨w1.heap.size, 0, none⟩) 1 1 [.slice Q f.len cq, .int .i64 1] (by rfl) (reads_new0 w1 _ _ _) (by simp [Value.oneCell']) hl3 hl4 (hb1.alloc hb1.size _).size ?_; intro v2 w2 hown2 hg2 hat2; have hb2 := (hb1.alloc hb1.size _).grown hg2 (hb1.alloc hb1.size _).size (fun k hk => (hown1.lt k hk).1))
          | (refine step_append_any (w := w1) (by rfl) (.tmp 51) (.tmp 54) _ (by rfl) wt.heap.size 50 i0 _ 2 32 Tryz.underlying30 hi hz0 hz1 hz2 rfl (by omega) v1 (0 + k) ([] ++ (fcells E).take (k * 2)) (by rfl) hown1 _ _ 1 1 [.slice Q f.len cq, .int .i64 1] (by rfl) hn1 (by simp [Value.oneCell']) hl3 hl4 hb1.size ?_; intro v2 w2 hown2 hg2 hat2; have hb2 := hb1.grown hg2 hb1.size (fun k hk => (hown1.lt k hk).1))
          | (refine step_append_any (w := w2) (by rfl) (.tmp 55) (.tmp 58) _ (by rfl) wt.heap.size 50 i0 _ 2 32 Tryz.underlying30 hi hz0 hz1 hz2 rfl (by omega) v2 (0 + k + 1) ([] ++ (fcells E).take (k * 2) ++ [.slice Q f.len cq, .int .i64 1]) (by rfl) hown2 wt.heap.size (if c = k then A else Option.map (fun x => x.add (k * 2)) A) 0 (c - k) ((fcells E).drop (k * 2)) (by rfl) (Hct.out.below hb2) (fun u hu => fcells_oneCell _ u (List.mem_of_mem_drop hu)) hl5 hl6 hb2.size ?_; intro v3 w3 hown3 hg3 hat3; have hb3 := hb2.grown hg3 hb2.size (fun k hk => (hown2.lt k hk).1)))
      all_goals
        have he : [] ++ (fcells E).take (k * 2) ++ [.slice Q f.len cq, .int .i64 1] ++ (fcells E).drop (k * 2) = fcells (E.take k ++ ((((Q, cq), (f, 1)) : EntQ q) :: E.drop k)) := by
          rw [fcells_append, fcells_cons, fcells_take, fcells_drop, List.nil_append, List.append_assoc]; rfl
        rw [he, show 0 + k + 1 + 0 = k + 1 by omega] at hown3
        have hfin := Hfin.out ((Q, cq), (f, 1)) rfl
        obtain ⟨B9, d9, rfl, hd1, hd2, hd3, hprs⟩ := prs_of_own hown3 (by rw [List.length_append, List.length_cons, List.length_take, List.length_drop, HEn.out]; omega) (fun x hx => by
          rcases List.mem_append.1 hx with hx | hx
          · exact (HE1.out x (List.mem_of_mem_take hx)).bel hb3
          · rcases List.mem_cons.1 hx with rfl | hx
            · exact Hq1.out.bel hb3
            · exact (HE1.out x (List.mem_of_mem_drop hx)).bel hb3)
        have hb9 := hbw.trans (hb3.mono hs6)
        clear hown3 hg3 hat3 hown2 hg2 hat2 hown1 hg1 hat1 hb1 hb2 hb3 he
        go_wp2_with fail
        all_goals
          go_ret
          exact ⟨B9, _, d9, _, rfl, hd1, hd2, hd3, hprs, hfin, hb9⟩
end
end Go.Proofs.YtpikakapflebkaaGreat
