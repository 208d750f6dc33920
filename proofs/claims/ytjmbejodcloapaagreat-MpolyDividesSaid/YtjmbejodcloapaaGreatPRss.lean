/- Contracts: the document's Scale: a number times terms.
   Contracts: the document's Sum: two rows of terms, one behind the other, made plain. -/
import Derived.Test.YtjmbejodcloapaaGreatPRdes
set_option linter.unusedVariables false
set_option linter.unusedSimpArgs false
namespace Cl
theorem scale_take {c : Int} {L : List TV} {k : Nat} (h : k < L.length) : scaleM c (mvT (L.take (k + 1))) = scaleM c (mvT (L.take k)) ++ [((valT L[k]).1, c * (valT L[k]).2)] := by
  rw [List.take_succ_eq_append_getElem h, mvT_append]
  unfold scaleM
  rw [List.map_append]
  rfl
end Cl
namespace Go.Proofs.YtjmbejodcloapaaGreat
open Go.RowKit Cl
attribute [local go_sem ↓] Go.wp_at_zero Go.wp_at_succ
set_option maxRecDepth 100000 in
set_option maxHeartbeats 16000000 in
theorem r17scale (n C K : Nat) (A : Option Addr) (ma ca : Nat) (L : List TV) (sx : Bool) (Ax : Option Addr) (kx cx : Nat) (zs : List Int) (w : World) (hx : Trs w A ma L) (hl : ∀ t ∈ L, t.2.length = n) (hC : ∀ t ∈ L, t.1.2.length ≤ C) (hz : Limbs w Ax kx zs) (hkx : kx ≤ K) (hkc : kx ≤ cx) (hcx : cx ≤ 9223372036854775807) (hm : ma ≤ 1000000) (hn : n ≤ 1000000) (hCK : C + K ≤ 800000) :
    Calls Tryz.prog 62 #[.slice A ma ca, .agg #[.bool sx, .slice Ax kx cx]] w (GivesR w n (scaleM (intZ sx zs) (mvT L))) := by
  obtain ⟨i0, hi0, hz0, hz1, hz2⟩ := info_parts term_infoR
  have Hx := Lib.hid hx
  have HL := Lib.hid hx.len
  have Hl := Lib.hid hl
  have HC := Lib.hid hC
  have Hz := Lib.hid hz
  clear hx hl hC hz
  go_enter Tryz.func62, Tryz.ntmps62
  go_wp2_with fail
  have hb0 : Below w.heap.size w (w.alloc (.cells #[.bool sx, .slice Ax kx cx] 32)) := (Below.refl _ _).alloc (Nat.le_refl _) _
  have hd0 := Duo.new w (.bool sx) (.slice Ax kx cx)
  have HG := Lib.hid (fun M e w' (h : GivesR (w.alloc (.cells #[.bool sx, .slice Ax kx cx] 32)) n M e w') => h.from_ hb0)
  have Hx := Lib.hid (Hx.out.bel hb0)
  have Hz := Lib.hid (Hz.out.bel hb0)
  clear hb0
  generalize w.alloc (.cells #[.bool sx, .slice Ax kx cx] 32) = wo at *
  have Hd0 := Lib.hid hd0
  clear hd0
  generalize w.heap.size = gc at *
  go_loopw [5, 6] (fun v kk wr => ∃ (k : Nat) (E : List EntT), k ≤ ma ∧ kk = .int .i64 (k : Int) ∧ Hid (ROut wo wr n (C + K + 1) v E (scaleM (intZ sx zs) (mvT (L.take k)))) ∧ E.length ≤ k) (fun _ kk _ => ma - (intOf kk).toNat)
  case atStart => exact ⟨0, [], by omega, rfl, ROut.start _ _ _, Nat.le_refl _⟩
  case round =>
    obtain ⟨k, E, hk, rfl, hO, hEl⟩ := hrel
    obtain ⟨wt, rfl⟩ : ∃ wt : World, wt = wr := ⟨_, rfl⟩
    have hO1 := Lib.hid (fun j (h : u5.ownBlock = some j) => hO.out.own.lt j h)
    by_cases hlt : k < ma
    · obtain ⟨b, o, rfl, hb, hc⟩ := Hx.out.at_ (by omega)
      have hkL : k < L.length := by rw [HL.out]; exact hlt
      obtain ⟨Ai, ci, Ei, ei, e1, e2, e3, e4, e5, e6, e7, e8, e9⟩ := hc k hkL
      have hll := Hl.out _ (List.getElem_mem hkL)
      have hlC := HC.out _ (List.getElem_mem hkL)
      have Htk := Lib.hid (scale_take (c := intZ sx zs) hkL)
      clear hc
      generalize L[k] = x at *
      obtain ⟨⟨s, xs⟩, ps⟩ := x
      simp only at e1 e2 e3 e4 e6 e8 e9 hll hlC
      have Hll := Lib.hid hll
      rw [Nat.mul_comm 3 k] at e1 e2 e3
      rw [← Nat.add_assoc] at e2 e3
      have hlt' : (k : Int) < (ma : Int) := by omega
      have hk0 : (0 : Int) ≤ (k : Int) := by omega
      have hwt := Lib.hid hO.out.bel
      have keepA : Hid (∀ W, Below wo.heap.size wo W → W.cell? ⟨b, o + k * 3, none⟩ = some (.bool s) ∧ W.cell? ⟨b, o + k * 3 + 1, none⟩ = some (.slice Ai xs.length ci) ∧ W.cell? ⟨b, o + k * 3 + 2, none⟩ = some (.slice Ei ps.length ei) ∧ W.cell? ⟨gc, 0, none⟩ = some (.bool sx) ∧ W.cell? ⟨gc, 1, none⟩ = some (.slice Ax kx cx)) := fun W hW =>
        ⟨(hW.cell (p := ⟨b, o + k * 3, none⟩) hb).trans e1, (hW.cell (p := ⟨b, o + k * 3 + 1, none⟩) hb).trans e2, (hW.cell (p := ⟨b, o + k * 3 + 2, none⟩) hb).trans e3, (Hd0.out.bel hW).cell0, (Hd0.out.bel hW).cell1⟩
      have E8 := Lib.hid e8
      have E9 := Lib.hid e9
      obtain ⟨a1, a2, a3, a4, a5⟩ := keepA.out _ hwt.out
      clear e8 e9 e1 e2 e3 hll
      have keep5 : Hid (∀ W, Below wt.heap.size wt W → W.cell? ⟨b, o + k * 3, none⟩ = some (.bool s) ∧ W.cell? ⟨b, o + k * 3 + 1, none⟩ = some (.slice Ai xs.length ci) ∧ W.cell? ⟨b, o + k * 3 + 2, none⟩ = some (.slice Ei ps.length ei) ∧ W.cell? ⟨gc, 0, none⟩ = some (.bool sx) ∧ W.cell? ⟨gc, 1, none⟩ = some (.slice Ax kx cx)) := fun W hW => keepA.out _ (hwt.out.trans (hW.mono hwt.out.size))
      have Cm : Hid (∀ W, Below wt.heap.size wt W → Calls Tryz.prog 40 #[.agg #[.bool s, .slice Ai xs.length ci], .agg #[.bool sx, .slice Ax kx cx]] W (GivesZF W (intZ s xs * intZ sx zs) (xs.length + kx))) := fun W hW =>
        r2mulF s sx Ai Ax xs.length kx ci cx xs zs W (E8.out.bel (hwt.out.trans (hW.mono hwt.out.size))) (Hz.out.bel (hwt.out.trans (hW.mono hwt.out.size))) e4 e5 hkc hcx (by omega) (by omega)
      have q1 : E.length + 1 ≤ maxLen := by unfold maxLen; omega
      have q2 : (E.length + 1) * 56 ≤ 140737488355328 := by omega
      have hvb : Hid (∀ j, u5.ownBlock = some j → wo.heap.size ≤ j ∧ j < wt.heap.size) := hO1.out
      have F : Hid (∀ (w7 w8 : World) (s2 : Bool) (A2 : Option Addr) (k2 c2 : Nat) (ls : List Int) (gg cap : Nat), Below wt.heap.size wt w7 → k2 ≤ c2 → c2 ≤ 9223372036854775807 → k2 ≤ xs.length + kx → Limbs w7 A2 k2 ls → ZVal s2 ls (intZ s xs * intZ sx zs) → (0 < k2 → ∀ z, A2 = some z → wt.heap.size ≤ z.block) → w8.ownsRow wo.heap.size 45 3 (.slice (some ⟨gg, 0, none⟩) (E.length + 1) cap) (E.length + 1) (tcells E ++ [.bool s2, .slice A2 k2 c2, .slice Ei ps.length ei]) → (w7.alloc (.cells #[.bool s2, .slice A2 k2 c2, .slice Ei ps.length ei] 45)).grownBy w8 u5.ownBlock → (u5.ownBlock = some gg ∨ gg = w7.heap.size + 1) → ∃ E2 : List EntT, E2.length = E.length + 1 ∧ ROut wo w8 n (C + K + 1) (.slice (some ⟨gg, 0, none⟩) (E.length + 1) cap) E2 (scaleM (intZ sx zs) (mvT (L.take (k + 1))))) := fun w7 w8 s2 A2 k2 c2 ls gg cap hb h1 h2 h3 h4 h5 h6 h7 h8 h9 => by
        obtain rfl := h4.len
        have hnx := hO.out.next (x := (((A2, c2), (Ei, ei)), ((s2, ls), ps))) (o := (.cells #[.bool s2, .slice A2 ls.length c2, .slice Ei ps.length ei] 45)) hb ⟨h1, h2, e6, e7, h4, (E9.out.bel hwt.out).bel hb⟩ Hll.out (by show ls.length ≤ C + K + 1; omega)
          (fun h0 z hz e => by have h10 := h6 h0 z hz; have h11 := hvb.out _ e; have := hb.size; omega) (fun h0 z hz e => by have h10 := ints_blk E9.out h0 hz; have h11 := hvb.out _ e; omega)
          h7 h8 h9 rfl
        refine ⟨E ++ [(((A2, c2), (Ei, ei)), ((s2, ls), ps))], by rw [List.length_append]; rfl, ?_⟩
        have e : valT ((s2, ls), ps) = (ps, intZ sx zs * intZ s xs) := by
          show (ps, intZ s2 ls) = _
          rw [h5.eq, Int.mul_comm]
        rw [Htk.out]
        show ROut _ _ _ _ _ _ (_ ++ [(ps, intZ sx zs * intZ s xs)])
        rw [← e]
        exact hnx
      have HOW := Lib.hid (fun W (hW : Below wt.heap.size wt W) => own_below hO.out.own hW)
      have hszo : Hid (∀ (W : World) (ob : Obj), Below wt.heap.size wt W → wo.heap.size ≤ (W.alloc ob).heap.size) := fun W ob hW => by have := hW.size; have := hwt.out.size; simp; omega
      have hBw := Lib.hid (fun W (hW : Below wt.heap.size wt W) => hwt.out.trans (hW.mono hwt.out.size))
      clear hO hwt E8 E9 a1 a2 a3 a4 a5
      obtain ⟨a1, a2, a3, a4, a5⟩ := keep5.out _ (Below.refl _ _)
      go_wp2_with fail
      go_region_held3 (fun W => W.cell? ⟨b, o + k * 3, none⟩ = some (.bool s) ∧ W.cell? ⟨b, o + k * 3 + 1, none⟩ = some (.slice Ai xs.length ci) ∧ W.cell? ⟨b, o + k * 3 + 2, none⟩ = some (.slice Ei ps.length ei) ∧ W.cell? ⟨gc, 0, none⟩ = some (.bool sx) ∧ W.cell? ⟨gc, 1, none⟩ = some (.slice Ax kx cx))
        (first | go_keep | exact keep5.out _ (Below.refl _ _).drew | exact keep5.out _ hb7 | exact keep5.out _ (hb7.alloc hb7.size _) | exact keepA.out _ hbw8)
        (first
          | (go_at_call 40; refine (Cm.out _ (by first | exact (Below.refl _ _).drew | exact Below.refl _ _)).mono ?_; rintro e w7 ⟨s2, A2, k2, c2, ls, rfl, p1, p2, p3, p4, p5, pf, hb7'⟩; have hb7 : Below wt.heap.size wt w7 := (by first | exact (Below.refl _ _).drew.trans hb7' | exact hb7'))
          | ((refine step_append_lies _ (by rfl) _ _ _ (by rfl) wo.heap.size 45 i0 _ 3 56 Tryz.underlying22 hi0 hz0 hz1 hz2 rfl (by omega) u5 E.length (tcells E) (by rfl) ((HOW.out _ hb7).alloc _) ⟨w7.heap.size, 0, none⟩ 1 1 [.bool s2, .slice A2 k2 c2, .slice Ei ps.length ei] (by rfl) (by rfl) (World.news_of_block (cs := #[.bool s2, .slice A2 k2 c2, .slice Ei ps.length ei]) (t := 45) (fr := (0, 0)) (heap_alloc_new w7 _)) (by simp [Value.oneCell']) (Nat.one_pos) q1 q2 (hszo.out _ _ hb7) (w7.heap.size + 1) (by simp) ?_); intro gg cap w8 hown8 hgrow hat hlt8; have hbw8 : Below wo.heap.size wo w8 := ((hBw.out _ hb7).alloc (hBw.out _ hb7).size _).grown hgrow ((hBw.out _ hb7).alloc (hBw.out _ hb7).size _).size (fun j hj => (hvb.out j hj).1)))
      obtain ⟨E2, hE2, hO3⟩ := F.out w7 w8 s2 A2 k2 c2 ls gg cap hb7 p1 p2 p3 p4 p5 pf hown8 hgrow hat
      have HO3 := Lib.hid hO3
      have hE3 : E2.length ≤ k + 1 := by omega
      clear hO3 hE2 hown8 hgrow hat hlt8 hbw8 hb7 hb7' p4 p5 pf F Cm keep5 HOW hszo hBw a1 a2 a3 a4 a5
      go_wp2_with fail
      go_roundw
      case rel => exact ⟨k + 1, E2, by omega, by go_num, HO3, hE3⟩
      case measure => simp [intOf]; omega
    · have hall : L.take k = L := List.take_of_length_le (by rw [HL.out]; omega)
      have hO2 := hO.out
      rw [hall] at hO2
      obtain ⟨B, d, rfl, Cp⟩ := hO2.out (by omega) (by omega) (by omega)
      have HCp := Lib.hid Cp
      have Hb := Lib.hid hO2.bel
      have hlt' : ¬ (k : Int) < (ma : Int) := by omega
      clear hall hO2 Cp hO
      go_wp2_with fail
      refine HCp.out.mono ?_
      intro e w9 h9
      obtain ⟨A9, c9, T, rfl, t1, t2, t3, t4, t5, t6⟩ := HG.out _ _ _ (h9.from_ Hb.out)
      have F : Hid (GivesR w n (scaleM (intZ sx zs) (mvT L)) (.returned (.slice A9 T.length c9)) w9) := ⟨A9, c9, T, rfl, t1, t2, t3, t4, t5, t6⟩
      clear h9 t3 t4 t5 t6
      go_wp2_with fail
      go_ret
      exact F.out
end Go.Proofs.YtjmbejodcloapaaGreat
namespace Go.Proofs.YtjmbejodcloapaaGreat
open Go.RowKit Cl
attribute [local go_sem ↓] Go.wp_at_zero Go.wp_at_succ
theorem trs_ents {w : World} {A : Option Addr} {m : Nat} {L : List TV} (h : Trs w A m L) : ∃ E : List EntT, E.map (·.2) = L ∧ E.length = m ∧ (∀ x ∈ E, EntOk w x) ∧ Reads w w.heap.size 3 A m (tcells E) := by
  rcases Nat.eq_zero_or_pos m with rfl | hm
  · have hL : L = [] := List.length_eq_zero_iff.1 h.len
    subst hL
    exact ⟨[], rfl, rfl, fun x hx => (by cases hx), reads_tcells rfl fun h0 => absurd h0 (Nat.lt_irrefl 0)⟩
  · obtain ⟨b, o, e, hb, hc⟩ := h.at_ hm
    have key : ∀ k, k ≤ L.length → ∃ E : List EntT, E.length = k ∧ E.map (·.2) = L.take k ∧ (∀ x ∈ E, EntOk w x) ∧ ∀ i (h : i < E.length), w.cell? ⟨b, o + 3 * i, none⟩ = some (.bool (E[i]).2.1.1) ∧ w.cell? ⟨b, o + (3 * i + 1), none⟩ = some (.slice (E[i]).1.1.1 (E[i]).2.1.2.length (E[i]).1.1.2) ∧ w.cell? ⟨b, o + (3 * i + 2), none⟩ = some (.slice (E[i]).1.2.1 (E[i]).2.2.length (E[i]).1.2.2) := by
      intro k
      induction k with
      | zero => intro _; exact ⟨[], rfl, by rw [List.take_zero]; rfl, fun x hx => (by cases hx), fun i hi => absurd hi (Nat.not_lt_zero i)⟩
      | succ k ih =>
        intro hk
        obtain ⟨E, k1, k2, k3, k4⟩ := ih (by omega)
        obtain ⟨Ai, ci, Ei, ei, e1, e2, e3, e4, e5, e6, e7, e8, e9⟩ := hc k (by omega)
        refine ⟨E ++ [(((Ai, ci), (Ei, ei)), L[k])], by rw [List.length_append, k1]; rfl, by rw [List.map_append, k2, List.take_succ_eq_append_getElem (by omega)]; rfl, fun x hx => ?_, fun i hi => ?_⟩
        · rcases List.mem_append.1 hx with hx | hx
          · exact k3 x hx
          · rw [List.mem_singleton.1 hx]; exact ⟨e4, e5, e6, e7, e8, e9⟩
        · rcases Nat.lt_or_ge i E.length with hlt | hge
          · rw [List.getElem_append_left hlt]; exact k4 i hlt
          · rw [List.length_append] at hi
            have hi2 : i < E.length + 1 := hi
            obtain rfl : i = E.length := by omega
            rw [List.getElem_append_right (Nat.le_refl _)]
            subst k1
            simp only [Nat.sub_self, List.getElem_cons_zero]
            exact ⟨e1, e2, e3⟩
    obtain ⟨E, k1, k2, k3, k4⟩ := key L.length (Nat.le_refl _)
    rw [List.take_length] at k2
    exact ⟨E, k2, k1.trans h.len, k3, reads_tcells (k1.trans h.len) fun _ => ⟨b, o, e, hb, k4⟩⟩
set_option maxRecDepth 100000 in
set_option maxHeartbeats 8000000 in
theorem r17sumF (n C K : Nat) (A B : Option Addr) (ma ca mb cb : Nat) (L T : List TV) (w : World) (hx : Trs w A ma L) (hy : Trs w B mb T) (hl : ∀ t ∈ L, t.2.length = n) (hlT : ∀ t ∈ T, t.2.length = n) (hC : ∀ t ∈ L, t.1.2.length ≤ C) (hCT : ∀ t ∈ T, t.1.2.length ≤ C) (hC1 : C ≤ 1000000) (hK : K ≤ 1000000) (hab : absM (mvT L) + absM (mvT T) < 2 ^ (64 * K)) (hm : ma + mb ≤ 2400000000000) (hn : n ≤ 1000000) :
    Calls Tryz.prog 61 #[.slice A ma ca, .slice B mb cb] w (GivesRF w n (mvT L ++ mvT T)) := by
  obtain ⟨i0, hi, hz0, hz1, hz2⟩ := info_parts term_infoR
  obtain ⟨E, k1, k2, k3, k4⟩ := trs_ents hx
  obtain ⟨F, j1, j2, j3, j4⟩ := trs_ents hy
  have al : Below w.heap.size w (w.alloc (.cells #[] 45)) := (Below.refl _ _).alloc (Nat.le_refl _) _
  have HA : Hid (World.ownsRow (w.alloc (.cells #[] 45)) w.heap.size 45 3 (.slice (some ⟨w.heap.size, 0, none⟩) 0 0) 0 []) := own_empty3 w _ (Nat.le_refl _)
  have hr1 : Hid (Reads (w.alloc (.cells #[] 45)) w.heap.size 3 A ma (tcells E)) := k4.alloc (Nat.le_refl _) _
  have hr2 : Hid (∀ W, Below w.heap.size w W → Reads W w.heap.size 3 B mb (tcells F)) := fun W hW => j4.below hW
  have o1 := tcells_oneCell E
  have o2 := tcells_oneCell F
  have q1 : 0 + ma ≤ maxLen := by unfold maxLen; omega
  have q2 : (0 + ma) * 56 ≤ 140737488355328 := by omega
  have q3 : 0 + ma + mb ≤ maxLen := by unfold maxLen; omega
  have q4 : (0 + ma + mb) * 56 ≤ 140737488355328 := by omega
  have Fin : Hid (∀ W v, Below w.heap.size w W → W.ownsRow w.heap.size 45 3 v (0 + ma + mb) ([] ++ tcells E ++ tcells F) → ∃ D d, v = .slice D (0 + ma + mb) d ∧ Calls Tryz.prog 32 #[.slice D (0 + ma + mb) d] W (GivesRF w n (mvT L ++ mvT T))) := fun W v hW hown => by
    have hEF : (E ++ F).length = 0 + ma + mb := by rw [List.length_append, k2, j2]; omega
    have hmap : (E ++ F).map (·.2) = L ++ T := by rw [List.map_append, k1, j1]
    obtain ⟨D, d, e, _, _, ht⟩ := trs_of_own (E := E ++ F) (by rw [tcells_append]; exact hown) hEF fun x hx => by
      rcases List.mem_append.1 hx with hx | hx
      · exact (k3 x hx).bel hW
      · exact (j3 x hx).bel hW
    rw [hmap] at ht
    refine ⟨D, d, e, (r17plainF n C K D _ d (L ++ T) W ht (fun t ht => (List.mem_append.1 ht).elim (hl t) (hlT t)) (fun t ht => (List.mem_append.1 ht).elim (hC t) (hCT t)) hC1 hK (by rw [mvT_append, absM_append]; exact hab) (by omega) hn).mono fun e w' h => ?_⟩
    have h2 := h.from_ hW
    rwa [mvT_append] at h2
  clear hx hy hl hlT hC hCT k1 k2 k3 k4 j1 j2 j3 j4 hab
  go_enter Tryz.func61, Tryz.ntmps61
  go_wp2_with (first
    | (at_builtin; refine wpList_append_any (w := w1) rfl _ _ 22 rfl w.heap.size 45 i0 _ 3 56 Tryz.underlying22 hi hz0 hz1 hz2 rfl (by decide) v1 (0 + ma) ([] ++ tcells E) rfl hown1 w.heap.size B mb cb (tcells F) rfl (hr2.out w1 hbw1) o2 q3 q4 hbw1.size ?_; intro v2 w2 hown2 hg2 hat2; have hbw2 : Below w.heap.size w w2 := hbw1.grown hg2 hbw1.size (fun k hk => (hown1.lt k hk).1); obtain ⟨D, d, rfl, Cp⟩ := Fin.out w2 v2 hbw2 hown2; have HCp := Lib.hid Cp; clear Cp hg2 hat2 hown2 hown1)
    | (at_builtin; refine wpList_append_any (w := w.alloc (.cells #[] 45)) rfl _ _ 22 rfl w.heap.size 45 i0 _ 3 56 Tryz.underlying22 hi hz0 hz1 hz2 rfl (by decide) _ 0 [] rfl HA.out w.heap.size A ma ca (tcells E) rfl hr1.out o1 q1 q2 (by simp) ?_; intro v1 w1 hown1 hg1 hat1; have hbw1 : Below w.heap.size w w1 := al.grown hg1 (by simp) (fun k hk => by have hk' : some w.heap.size = some k := hk; injection hk' with hk'; omega); clear hg1 hat1))
  have HC2 := HCp.out
  rw [Nat.zero_add] at HC2
  refine HC2.mono ?_
  intro e w9 h9
  clear Fin HA hr1 hr2 al o1 o2 hi hz0 hz1 hz2 hbw1 hbw2 HCp HC2 q1 q2 q3 q4
  obtain ⟨A9, c9, T9, rfl, t1, t2, t3, t4, t5, t6, t7⟩ := h9
  have G : Hid (GivesRF w n (mvT L ++ mvT T) (.returned (.slice A9 T9.length c9)) w9) := ⟨A9, c9, T9, rfl, t1, t2, t3, t4, t5, t6, t7⟩
  clear t3 t4 t5 t6 t7
  go_wp2_with fail
  go_ret
  exact G.out
end Go.Proofs.YtjmbejodcloapaaGreat
