/- Contracts: sum.add and sum.times where the numbers themselves stay small. (Printed by gen/sumc.py from XSumK.) -/
import Derived.Test.YtjmbejodcloapaaGreatPSumK
set_option linter.unusedVariables false
set_option linter.unusedSimpArgs false
namespace Cl
open Go.RowKit
theorem ZVal.cap {s : Bool} {xs : List Int} {z : Int} {K : Nat} (h : ZVal s xs z) (hz : z.natAbs < 2 ^ (64 * K)) : xs.length ≤ K := by
  rcases Nat.lt_or_ge K xs.length with hlt | hge
  · exfalso
    have h1 := h.pl.low (by omega)
    have h2 : 2 ^ (64 * K) ≤ 2 ^ (64 * (xs.length - 1)) := Nat.pow_le_pow_right (by omega) (by omega)
    have h3 : z.natAbs = limbs xs := by
      rw [← h.eq]
      unfold intZ
      cases s <;> simp
    omega
  · exact hge
theorem co_timesOne {n : Nat} {p q ps : Plc} {z : Int} {s : Bool} {xs : List Int} (h : addP p (padP n ps) = q) : coM (timesT n p z (mvT [((s, xs), ps)])) q = z * intZ s xs := by
  rw [show timesT n p z (mvT [((s, xs), ps)]) = [(addP p (padP n ps), z * intZ s xs)] from rfl, coM_cons, coM_nil, if_pos h, Int.add_zero]
end Cl
namespace Go.Proofs.YtjmbejodcloapaaGreat
open Go.RowKit Cl
attribute [local go_sem ↓] Go.wp_at_zero Go.wp_at_succ
set_option maxRecDepth 100000 in
set_option maxHeartbeats 4000000 in
theorem maddC (b nc n B C K : Nat) (L : Mv) (p : Plc) (s : Bool) (A : Option Addr) (k c : Nat) (ls : List Int) (w : World) (hs : SumM w b nc n B L) (hp : GoodP n p) (hnc : nc < maxLen) (hx : Limbs w A k ls) (hkc : k ≤ c) (hc : c ≤ 9223372036854775807) (hk : k ≤ C) (hB : B ≤ 1000000) (hC : C ≤ 1000000) (hcap : (coM L p + intZ s ls).natAbs < 2 ^ (64 * K)) :
    Calls Tryz.prog 27 #[.map (some b), plcV p, .agg #[.bool s, .slice A k c]] w fun e w' => e = .returned (.tuple #[]) ∧ SumM w' b (nc + 1) n (max B K) (L ++ [(p, intZ s ls)]) ∧ Only (fun x => x = b) w w' := by
  obtain ⟨D, hm, hd⟩ := hs
  have hkey := keyOf_plc hp.len hp.i64
  have hlt := hm.lt
  have Hp := Lib.hid hp
  have Hk := Lib.hid hkey
  have Hcap := Lib.hid hcap
  clear hcap
  unfold plcV at hkey ⊢
  obtain ⟨x0, x1, x2, x3, x4, x5, rfl⟩ : ∃ x0 x1 x2 x3 x4 x5, p = [x0, x1, x2, x3, x4, x5] := by
    match p, hp.len with
    | [x0, x1, x2, x3, x4, x5], _ => exact ⟨_, _, _, _, _, _, rfl⟩
  show Calls _ _ #[.map (some b), .agg #[.int .i64 x0, .int .i64 x1, .int .i64 x2, .int .i64 x3, .int .i64 x4, .int .i64 x5], .agg #[.bool s, .slice A k c]] _ _
  have hkey' : keyOf Tryz.prog 48 (.agg #[.int .i64 x0, .int .i64 x1, .int .i64 x2, .int .i64 x3, .int .i64 x4, .int .i64 x5]) = some (plcLit [x0, x1, x2, x3, x4, x5]) := hkey
  clear hkey hp
  go_enter Tryz.func27, Tryz.ntmps27
  go_wp2_with fail
  have b2 : Below w.heap.size w ((w.alloc (.cells #[.int .i64 x0, .int .i64 x1, .int .i64 x2, .int .i64 x3, .int .i64 x4, .int .i64 x5] 48)).alloc (.cells #[.bool s, .slice A k c] 32)) := ((Below.refl _ _).alloc (Nat.le_refl _) _).alloc (by simp) _
  have hrow : ((w.alloc (.cells #[.int .i64 x0, .int .i64 x1, .int .i64 x2, .int .i64 x3, .int .i64 x4, .int .i64 x5] 48)).alloc (.cells #[.bool s, .slice A k c] 32)).heap[w.heap.size]? = some (.cells #[.int .i64 x0, .int .i64 x1, .int .i64 x2, .int .i64 x3, .int .i64 x4, .int .i64 x5] 48 (0, 0)) :=
    (heap_alloc_old _ _ (by simp)).trans (heap_alloc_new _ _)
  have hduo := Duo.new (w.alloc (.cells #[.int .i64 x0, .int .i64 x1, .int .i64 x2, .int .i64 x3, .int .i64 x4, .int .i64 x5] 48)) (.bool s) (.slice A k c)
  rw [World.size_alloc] at hduo
  have hsz : w.heap.size + 1 < ((w.alloc (.cells #[.int .i64 x0, .int .i64 x1, .int .i64 x2, .int .i64 x3, .int .i64 x4, .int .i64 x5] 48)).alloc (.cells #[.bool s, .slice A k c] 32)).heap.size := by simp
  generalize ((w.alloc (.cells #[.int .i64 x0, .int .i64 x1, .int .i64 x2, .int .i64 x3, .int .i64 x4, .int .i64 x5] 48)).alloc (.cells #[.bool s, .slice A k c] 32)) = wt at *
  have pc : Hid (∀ W, Below wt.heap.size wt W → W.cell? ⟨w.heap.size, 0, none⟩ = some (.int .i64 x0) ∧ W.cell? ⟨w.heap.size, 1, none⟩ = some (.int .i64 x1) ∧ W.cell? ⟨w.heap.size, 2, none⟩ = some (.int .i64 x2) ∧ W.cell? ⟨w.heap.size, 3, none⟩ = some (.int .i64 x3) ∧ W.cell? ⟨w.heap.size, 4, none⟩ = some (.int .i64 x4) ∧ W.cell? ⟨w.heap.size, 5, none⟩ = some (.int .i64 x5) ∧ W.cell? ⟨w.heap.size + 1, 0, none⟩ = some (.bool s) ∧ W.cell? ⟨w.heap.size + 1, 1, none⟩ = some (.slice A k c)) := fun W hW => by
    have hr := (hW.block w.heap.size (by omega)).trans hrow
    have hd' := hduo.bel hW
    exact ⟨(cell_of_row W w.heap.size 0 _ _ (0, 0) hr).trans rfl, (cell_of_row W w.heap.size 1 _ _ (0, 0) hr).trans rfl, (cell_of_row W w.heap.size 2 _ _ (0, 0) hr).trans rfl, (cell_of_row W w.heap.size 3 _ _ (0, 0) hr).trans rfl, (cell_of_row W w.heap.size 4 _ _ (0, 0) hr).trans rfl, (cell_of_row W w.heap.size 5 _ _ (0, 0) hr).trans rfl, hd'.cell0, hd'.cell1⟩
  obtain ⟨y0, y1, y2, y3, y4, y5, z0, z1⟩ := pc.out wt (Below.refl _ _)
  have hmt := map_bel hm b2
  have hdt := hd.bel b2
  have hxt := hx.bel b2
  have Hm := Lib.hid hmt
  have Hd := Lib.hid hdt
  have Hx := Lib.hid hxt
  clear hrow hduo hmt hdt hxt hm hd hx hsz
  obtain ⟨v0, ps0, hrun0, hv0⟩ := Hm.out.drew.lookup plc_law Tryz.underlying51 (zeroInt _) (R := intEl) rfl hkey'
  obtain ⟨s0, A0, k0, c0, ls0, rfl, h1, h2, h3, h4, h5⟩ := (Hd.out.look Hp.out hv0).ex
  have H4 := Lib.hid h4
  have H5 := Lib.hid h5
  clear hv0 h4 h5
  go_region_with (go_at_call 55; refine (zadd s0 s A0 A k0 k c0 c ls0 ls _ H4.out.drew Hx.out.drew h1 h2 hkc hc (by omega) (by omega)).mono ?_; rintro e w1 ⟨s1, A1, k1, c1, ls1, rfl, g1, g2, g3, g4, g5, hbw1'⟩; have hbw1 : Below wt.heap.size wt w1 := (Below.refl _ _).drew.trans hbw1'; obtain ⟨y0', y1', y2', y3', y4', y5', z0', z1'⟩ := pc.out w1 hbw1; obtain ⟨w7, hrun7, hm7, hg7⟩ := (map_bel Hm.out hbw1).update plc_law Tryz.underlying51 hnc hkey' (intEl_mk s1 A1 k1 c1))
  all_goals
    have o1 : Only (fun x => x = b) w w1 := ⟨hbw1.os.trans b2.os, hbw1.tape.trans b2.tape, hbw1.output.trans b2.output, Nat.le_trans b2.size hbw1.size, fun i hi _ => (hbw1.block i (Nat.lt_of_lt_of_le hi b2.size)).trans (b2.block i hi)⟩
    have o2 : Only (fun x => x = b) w1 w7 := (Only.of_grown hg7).mono (fun i hi => by injection hi with hi; exact hi.symm)
    have d1 := (sumD_map (Hd.out.bel hbw1) (map_bel Hm.out hbw1) o2).mono (C := max B K) (by omega)
    have z1' : ZAt w7 (.agg #[.bool s1, .slice A1 k1 c1]) (max B K) (coM L [x0, x1, x2, x3, x4, x5] + intZ s ls) :=
      ⟨s1, A1, k1, c1, ls1, rfl, g1, g2, by have hc1 := g5.cap (K := K) (by rw [H5.out]; exact Hcap.out); rw [g4.len] at hc1; omega, limbs_map g4 (map_bel Hm.out hbw1) o2, by rw [← H5.out]; exact g5.eq⟩
    have d2 := d1.put Hp.out z1'
    have Fin : Hid (SumM w7 b (nc + 1) n (max B K) (L ++ [([x0, x1, x2, x3, x4, x5], intZ s ls)]) ∧ Only (fun x => x = b) w w7) := ⟨⟨_, hm7, d2⟩, o1.trans o2⟩
    clear d1 z1' d2 o1 o2 hm7 hg7
    go_end0
    exact ⟨rfl, Fin.out⟩
set_option maxRecDepth 100000 in
set_option maxHeartbeats 8000000 in
theorem mtimesC (bb nc n B K C Kc : Nat) (L : Mv) (p : Plc) (s : Bool) (A : Option Addr) (kk c : Nat) (ls : List Int) (Bt : Option Addr) (m cb : Nat) (T : List TV) (w : World)
    (hs : SumM w bb nc n B L) (hp : p.length = 6) (hpb : ∀ x ∈ p, 0 ≤ x ∧ x ≤ 1000000000000) (hp0 : ∀ i, n ≤ i → nth p i = 0) (hT : TermsOk n C T) (hTb : ∀ t ∈ T, ∀ x ∈ t.2, x ≤ 1000000000000) (hnc : nc + m < maxLen) (hx : Limbs w A kk ls) (hkc : kk ≤ c) (hc : c ≤ 9223372036854775807) (hk : kk ≤ K) (hB : B ≤ Kc) (hKc : Kc ≤ 1000000) (hK : K ≤ 400000) (hC : C ≤ 100000) (hcap : ∀ j, j < m → ∀ q, GoodP n q → (coM (L ++ timesT n p (intZ s ls) (mvT (T.take (j + 1)))) q).natAbs < 2 ^ (64 * Kc)) (ht : Trs w Bt m T) (hm : m ≤ 100000) (hn : n ≤ 6) :
    Calls Tryz.prog 28 #[.map (some bb), plcV p, .agg #[.bool s, .slice A kk c], .slice Bt m cb] w fun e w' => e = .returned (.tuple #[]) ∧ SumM w' bb (nc + m) n (Kc) (L ++ timesT n p (intZ s ls) (mvT T)) ∧ Only (fun x => x = bb) w w' := by
  have hmp := hs
  obtain ⟨D0, hm0, _⟩ := hmp
  have hltb := hm0.lt
  obtain ⟨x0, x1, x2, x3, x4, x5, hpe⟩ : ∃ x0 x1 x2 x3 x4 x5, p = [x0, x1, x2, x3, x4, x5] := by
    match p, hp with
    | [x0, x1, x2, x3, x4, x5], _ => exact ⟨_, _, _, _, _, _, rfl⟩
  have hcall : plcV p = .agg #[.int .i64 x0, .int .i64 x1, .int .i64 x2, .int .i64 x3, .int .i64 x4, .int .i64 x5] := by rw [hpe]; rfl
  rw [hcall]
  clear hcall
  have HT := Lib.hid hT
  have HTb := Lib.hid hTb
  have Hpl := Lib.hid hp
  have Hpb := Lib.hid hpb
  have Hp0 := Lib.hid hp0
  have Htl := Lib.hid ht.len
  have Hpe := Lib.hid hpe
  have Hcap := Lib.hid hcap
  clear hT hTb hp hpb hp0 hpe hcap
  go_enter Tryz.func28, Tryz.ntmps28
  go_wp2_with fail
  have b2 : Below w.heap.size w ((w.alloc (.cells #[.int .i64 x0, .int .i64 x1, .int .i64 x2, .int .i64 x3, .int .i64 x4, .int .i64 x5] 48)).alloc (.cells #[.bool s, .slice A kk c] 32)) := ((Below.refl _ _).alloc (Nat.le_refl _) _).alloc (by simp) _
  have hrow : Row ((w.alloc (.cells #[.int .i64 x0, .int .i64 x1, .int .i64 x2, .int .i64 x3, .int .i64 x4, .int .i64 x5] 48)).alloc (.cells #[.bool s, .slice A kk c] 32)) w.heap.size 48 [x0, x1, x2, x3, x4, x5] :=
    (heap_alloc_old _ _ (by simp)).trans (heap_alloc_new _ _)
  have hduo := Duo.new (w.alloc (.cells #[.int .i64 x0, .int .i64 x1, .int .i64 x2, .int .i64 x3, .int .i64 x4, .int .i64 x5] 48)) (.bool s) (.slice A kk c)
  rw [World.size_alloc] at hduo
  have hsz : w.heap.size + 1 < ((w.alloc (.cells #[.int .i64 x0, .int .i64 x1, .int .i64 x2, .int .i64 x3, .int .i64 x4, .int .i64 x5] 48)).alloc (.cells #[.bool s, .slice A kk c] 32)).heap.size := by simp
  generalize ((w.alloc (.cells #[.int .i64 x0, .int .i64 x1, .int .i64 x2, .int .i64 x3, .int .i64 x4, .int .i64 x5] 48)).alloc (.cells #[.bool s, .slice A kk c] 32)) = wt at *
  have Hm := Lib.hid (map_bel hm0 b2)
  have Hx := Lib.hid (hx.bel b2)
  have Ht := Lib.hid (ht.bel b2)
  have Hrow := Lib.hid hrow
  have Hduo := Lib.hid hduo
  have hs0 : Hid (SumM wt bb nc n Kc L) := sumM_mono (sumM_bel hs b2) (by omega)
  have hob : Only (fun x => x = bb) w wt := ⟨b2.os, b2.tape, b2.output, b2.size, fun i hi _ => b2.block i hi⟩
  clear hm0 hx ht hrow hduo hs b2
  go_loopw [15] (fun i wr => ∃ k : Nat, k ≤ m ∧ i = .int .i64 k ∧ Hid (SumM wr bb (nc + k) n Kc (L ++ timesT n p (intZ s ls) (mvT (T.take k)))) ∧ Only (fun x => x = bb) wt wr) (fun i _ => m - (intOf i).toNat)
  case atStart =>
    refine ⟨0, by omega, rfl, ?_, Only.refl _ _⟩
    show SumM _ _ _ _ _ _
    rw [List.take_zero]
    show SumM _ _ _ _ _ (L ++ [])
    rw [List.append_nil]
    exact hs0.out
  case round =>
    clear hs0
    obtain ⟨k, hk', rfl, hsum, hon⟩ := hrel
    obtain ⟨wo, rfl⟩ : ∃ wo : World, wo = wr := ⟨_, rfl⟩
    by_cases hlt : k < m
    · obtain ⟨b, o, rfl, hb, hcc⟩ := Ht.out.at_ (by omega)
      have hkl : k < T.length := by rw [Htl.out]; exact hlt
      obtain ⟨Ai, ci, Ei, ei, e1, e2, e3, e4, e5, e6, e7, e8, e9⟩ := hcc k hkl
      have hmem : T[k] ∈ T := List.getElem_mem hkl
      have t1 := HT.out.len _ hmem
      have t2 := HT.out.bd _ hmem
      have t3 := HT.out.co _ hmem
      have t4 := HTb.out _ hmem
      have htk : Hid (T.take (k + 1) = T.take k ++ [T[k]]) := by show _ = _; rw [List.take_succ_eq_append_getElem hkl]
      clear hcc hmem
      generalize T[k] = x at *
      obtain ⟨⟨s', xs⟩, ps⟩ := x
      simp only at e1 e2 e3 e4 e6 e8 e9 t1 t2 t3 t4
      have hlt' : (k : Int) < (m : Int) := by omega
      have hk0 : (0 : Int) ≤ (k : Int) := by omega
      have k1 := cells_map Hm.out hon (p := ⟨b, o + 3 * k, none⟩) hb e1
      have k2 := cells_map Hm.out hon (p := ⟨b, o + (3 * k + 1), none⟩) hb e2
      have k3 := cells_map Hm.out hon (p := ⟨b, o + (3 * k + 2), none⟩) hb e3
      rw [Nat.mul_comm 3 k] at k1 k2 k3
      rw [← Nat.add_assoc] at k2 k3
      rw [t1] at k3 e9 e6
      have E8 := Lib.hid (limbs_map e8 Hm.out hon)
      have E9 := Lib.hid (ints_mapO e9 Hm.out hon)
      have T2 := Lib.hid t2
      have T4 := Lib.hid t4
      have T1 := Lib.hid t1
      clear e8 e9 e1 e2 e3 t2 t1 t4
      have hrowo : Hid (Row wo w.heap.size 48 [x0, x1, x2, x3, x4, x5]) := Hrow.out.only hon (by omega)
      have hduoo : Hid (Duo wo (w.heap.size + 1) (.bool s) (.slice A kk c)) := Hduo.out.keep (hon.block _ (by omega) (by omega))
      have hlo2 : w.heap.size + 1 < wo.heap.size := Nat.lt_of_lt_of_le hsz hon.size
      have hlo : w.heap.size < wo.heap.size := by omega
      have y0 : wo.cell? ⟨w.heap.size, 0, none⟩ = some (.int .i64 x0) := hrowo.out.cell (i := 0) (by show 0 < 6; omega)
      have y1 : wo.cell? ⟨w.heap.size, 1, none⟩ = some (.int .i64 x1) := hrowo.out.cell (i := 1) (by show 1 < 6; omega)
      have y2 : wo.cell? ⟨w.heap.size, 2, none⟩ = some (.int .i64 x2) := hrowo.out.cell (i := 2) (by show 2 < 6; omega)
      have y3 : wo.cell? ⟨w.heap.size, 3, none⟩ = some (.int .i64 x3) := hrowo.out.cell (i := 3) (by show 3 < 6; omega)
      have y4 : wo.cell? ⟨w.heap.size, 4, none⟩ = some (.int .i64 x4) := hrowo.out.cell (i := 4) (by show 4 < 6; omega)
      have y5 : wo.cell? ⟨w.heap.size, 5, none⟩ = some (.int .i64 x5) := hrowo.out.cell (i := 5) (by show 5 < 6; omega)
      go_wp2_with fail
      have hq : Below wo.heap.size wo ((wo.alloc (.cells #[.bool s', .slice Ai xs.length ci, .slice Ei n ei] 45)).alloc (.cells #[.int .i64 x0, .int .i64 x1, .int .i64 x2, .int .i64 x3, .int .i64 x4, .int .i64 x5] 48)) := ((Below.refl _ _).alloc (Nat.le_refl _) _).alloc (by simp) _
      have hrq : Row ((wo.alloc (.cells #[.bool s', .slice Ai xs.length ci, .slice Ei n ei] 45)).alloc (.cells #[.int .i64 x0, .int .i64 x1, .int .i64 x2, .int .i64 x3, .int .i64 x4, .int .i64 x5] 48)) (wo.alloc (.cells #[.bool s', .slice Ai xs.length ci, .slice Ei n ei] 45)).heap.size 48 [x0, x1, x2, x3, x4, x5] := heap_alloc_new _ _
      rw [World.size_alloc] at hrq
      have htq := (heap_alloc_old (wo.alloc (.cells #[.bool s', .slice Ai xs.length ci, .slice Ei n ei] 45)) (.cells #[.int .i64 x0, .int .i64 x1, .int .i64 x2, .int .i64 x3, .int .i64 x4, .int .i64 x5] 48) (r := wo.heap.size) (by simp)).trans (heap_alloc_new wo _)
      have hqs : wo.heap.size + 1 < ((wo.alloc (.cells #[.bool s', .slice Ai xs.length ci, .slice Ei n ei] 45)).alloc (.cells #[.int .i64 x0, .int .i64 x1, .int .i64 x2, .int .i64 x3, .int .i64 x4, .int .i64 x5] 48)).heap.size := by simp
      generalize ((wo.alloc (.cells #[.bool s', .slice Ai xs.length ci, .slice Ei n ei] 45)).alloc (.cells #[.int .i64 x0, .int .i64 x1, .int .i64 x2, .int .i64 x3, .int .i64 x4, .int .i64 x5] 48)) = w3 at *
      have hr0 : Hid (Row w3 (wo.heap.size + 1) 48 (midP p ps 0)) := by show Row _ _ _ _; rw [midP_zero Hpl.out, Hpe.out]; exact hrq
      have Htq := Lib.hid htq
      clear htq hrq y0 y1 y2 y3 y4 y5 k1 k2 k3
      go_loopw [23] (fun i wr => ∃ j : Nat, j ≤ n ∧ i = .int .i64 j ∧ Hid (Row wr (wo.heap.size + 1) 48 (midP p ps j)) ∧ Only (fun x => x = wo.heap.size + 1) w3 wr) (fun i _ => n - (intOf i).toNat)
      case atStart => exact ⟨0, by omega, rfl, hr0, Only.refl _ _⟩
      case round =>
        obtain ⟨j, hj, rfl, hrj, hoj⟩ := hrel
        obtain ⟨wi, rfl⟩ : ∃ wi : World, wi = wr := ⟨_, rfl⟩
        by_cases hjl : j < n
        · obtain ⟨b3, o3, rfl, hb3, hc3⟩ := E9.out.at_ (by omega)
          have hce := (hoj.cell (p := ⟨b3, o3 + j, none⟩) (Nat.lt_of_lt_of_le hb3 hq.size) (by show ¬ b3 = wo.heap.size + 1; omega)).trans ((hq.cell (p := ⟨b3, o3 + j, none⟩) hb3).trans (hc3 j hjl))
          have hcp := hrj.out.cell (i := j) (by rw [midP_length]; omega)
          rw [nth_midP (by omega), if_neg (by omega)] at hcp
          have hfp := hrj.out.frozen j
          have hjl' : (j : Int) < (n : Int) := by omega
          have hj0 : (0 : Int) ≤ (j : Int) := by omega
          have hj6 : (j : Int) < 6 := by omega
          obtain ⟨q1, q2⟩ : 0 ≤ nth p j ∧ nth p j ≤ 1000000000000 := Hpb.out _ (nth_mem (by rw [Hpl.out]; omega))
          have q3 : 0 ≤ nth ps j ∧ nth ps j ≤ 1000000000000 := ⟨(T2.out _ (nth_mem (by rw [T1.out]; omega))).1, T4.out _ (nth_mem (by rw [T1.out]; omega))⟩
          obtain ⟨q3, q4⟩ := q3
          have ew : IntKind.i64.wrap (nth p j + nth ps j) = nth p j + nth ps j := IntWalk.i64_in _ (by omega)
          have hset : Hid (Row (wi.setCell ⟨wo.heap.size + 1, j, none⟩ (.int .i64 (nth p j + nth ps j))) (wo.heap.size + 1) 48 (midP p ps (j + 1))) := by
            have := hrj.out.set j (nth p j + nth ps j)
            rw [midP_step (by omega)] at this
            exact this
          have hoj2 := Lib.hid (hoj.setCell (p := ⟨wo.heap.size + 1, j, none⟩) rfl (.int .i64 (nth p j + nth ps j)))
          clear hc3 hrj hoj q1 q2 q3 q4
          go_wp2_with fail
          go_roundw
          case rel => exact ⟨j + 1, by omega, by go_num, hset, hoj2.out⟩
          case measure => simp [intOf]; omega
        · obtain rfl : j = n := by omega
          have hjl' : ¬ (j : Int) < (j : Int) := by omega
          have hbi : Below wo.heap.size wo wi := hq.trans (hoj.below (B := wo.heap.size) hq.size (fun x hx => by omega))
          have Hgood := Lib.hid (good_midP (n := j) (q := ps) hn Hpl.out T1.out Hpb.out (fun x hx => ⟨(T2.out x hx).1, T4.out x hx⟩) Hp0.out)
          have hend := midP_end (n := j) (q := ps) hn Hpl.out T1.out
          obtain ⟨z0, z1, z2, z3, z4, z5, hpad⟩ : ∃ z0 z1 z2 z3 z4 z5, midP p ps j = [z0, z1, z2, z3, z4, z5] := by
            match midP p ps j, midP_length p ps j with
            | [z0, z1, z2, z3, z4, z5], _ => exact ⟨_, _, _, _, _, _, rfl⟩
          rw [hpad] at hrj Hgood hend
          have Hend := Lib.hid hend
          have hdi : Hid (Duo wi (w.heap.size + 1) (.bool s) (.slice A kk c)) := hduoo.out.keep (hbi.block _ hlo2)
          have hti : Hid (wi.heap[wo.heap.size]? = some (.cells #[.bool s', .slice Ai xs.length ci, .slice Ei j ei] 45 (0, 0))) := (hoj.block wo.heap.size (by omega) (by omega)).trans Htq.out
          have Hsum := Lib.hid (sumM_bel hsum.out hbi)
          have HA := Lib.hid ((limbs_map Hx.out Hm.out hon).bel hbi)
          have HAi := Lib.hid (E8.out.bel hbi)
          have hgi : wo.heap.size + 1 < wi.heap.size := Nat.lt_of_lt_of_le hqs hoj.size
          have keepX : Hid (∀ W, Only (fun x => x = bb) wi W → W.cell? ⟨wo.heap.size + 1, 0, none⟩ = some (.int .i64 z0) ∧ W.cell? ⟨wo.heap.size + 1, 1, none⟩ = some (.int .i64 z1) ∧ W.cell? ⟨wo.heap.size + 1, 2, none⟩ = some (.int .i64 z2) ∧ W.cell? ⟨wo.heap.size + 1, 3, none⟩ = some (.int .i64 z3) ∧ W.cell? ⟨wo.heap.size + 1, 4, none⟩ = some (.int .i64 z4) ∧ W.cell? ⟨wo.heap.size + 1, 5, none⟩ = some (.int .i64 z5) ∧ W.cell? ⟨w.heap.size + 1, 0, none⟩ = some (.bool s) ∧ W.cell? ⟨w.heap.size + 1, 1, none⟩ = some (.slice A kk c) ∧ W.cell? ⟨wo.heap.size, 0, none⟩ = some (.bool s') ∧ W.cell? ⟨wo.heap.size, 1, none⟩ = some (.slice Ai xs.length ci)) := fun W hW => by
            have r1 := hrj.out.only hW (by omega)
            have r2 : Duo W (w.heap.size + 1) (.bool s) (.slice A kk c) := hdi.out.keep (hW.block _ (by omega) (by omega))
            have r3 := (hW.block wo.heap.size (by omega) (by omega)).trans hti.out
            exact ⟨r1.cell (i := 0) (by show 0 < 6; omega), r1.cell (i := 1) (by show 1 < 6; omega), r1.cell (i := 2) (by show 2 < 6; omega), r1.cell (i := 3) (by show 3 < 6; omega), r1.cell (i := 4) (by show 4 < 6; omega), r1.cell (i := 5) (by show 5 < 6; omega), r2.cell0, r2.cell1, (cell_of_row W wo.heap.size 0 _ _ (0, 0) r3).trans rfl, (cell_of_row W wo.heap.size 1 _ _ (0, 0) r3).trans rfl⟩
          have Hall : Hid (Only (fun x => x = bb) wt wi) := hon.trans ⟨hbi.os, hbi.tape, hbi.output, hbi.size, fun i hi _ => hbi.block i hi⟩
          have HcapK : Hid ((coM (L ++ timesT j p (intZ s ls) (mvT (T.take k))) [z0, z1, z2, z3, z4, z5] + intZ s ls * intZ s' xs).natAbs < 2 ^ (64 * Kc)) := by
            have h1 := Hcap.out k hlt [z0, z1, z2, z3, z4, z5] Hgood.out
            rw [htk.out, mvT_append, timesT_append, ← List.append_assoc, coM_append] at h1
            have h2 := co_timesOne (n := j) (p := p) (z := intZ s ls) (s := s') (xs := xs) (ps := ps) Hend.out.symm
            rw [h2] at h1
            exact h1
          obtain ⟨v0, v1, v2, v3, v4, v5, v6, v7, v8, v9⟩ := keepX.out wi (Only.refl _ _)
          clear hend hpad hbi hrj hoj hq hqs hon hsum hdi hti Htq E8 E9 hduoo hrowo
          go_wp2_with fail
          go_region_held3 (fun W => W.cell? ⟨wo.heap.size + 1, 0, none⟩ = some (.int .i64 z0) ∧ W.cell? ⟨wo.heap.size + 1, 1, none⟩ = some (.int .i64 z1) ∧ W.cell? ⟨wo.heap.size + 1, 2, none⟩ = some (.int .i64 z2) ∧ W.cell? ⟨wo.heap.size + 1, 3, none⟩ = some (.int .i64 z3) ∧ W.cell? ⟨wo.heap.size + 1, 4, none⟩ = some (.int .i64 z4) ∧ W.cell? ⟨wo.heap.size + 1, 5, none⟩ = some (.int .i64 z5) ∧ W.cell? ⟨w.heap.size + 1, 0, none⟩ = some (.bool s) ∧ W.cell? ⟨w.heap.size + 1, 1, none⟩ = some (.slice A kk c) ∧ W.cell? ⟨wo.heap.size, 0, none⟩ = some (.bool s') ∧ W.cell? ⟨wo.heap.size, 1, none⟩ = some (.slice Ai xs.length ci))
            (first | go_keep | exact keepX.out _ (Only.refl _ _).drew | exact keepX.out _ ho1 | exact keepX.out _ ho2)
            (first
              | (go_at_call 38; refine (zmul s s' A Ai kk xs.length c ci ls xs _ HA.out.drew HAi.out.drew hkc hc e4 e5 (by omega) (by omega)).mono ?_; rintro e w1 ⟨s1, A1, k1, c1, ls1, rfl, g1, g2, g3, g4, g5, hbw1'⟩; have hbw1 : Below wi.heap.size wi w1 := (Below.refl _ _).drew.trans hbw1'; have ho1 : Only (fun x => x = bb) wi w1 := ⟨hbw1.os, hbw1.tape, hbw1.output, hbw1.size, fun i hi _ => hbw1.block i hi⟩)
              | (go_at_call 27; refine (maddC bb (nc + k) j Kc (K + C + 1) Kc _ [z0, z1, z2, z3, z4, z5] s1 A1 k1 c1 ls1 w1 (sumM_bel Hsum.out hbw1) Hgood.out (by omega) g4 g1 g2 (by omega) (by omega) (by omega) (by rw [g5.eq]; exact HcapK.out)).mono ?_; rintro e w2 ⟨rfl, hs2, ho2'⟩; have ho2 : Only (fun x => x = bb) wi w2 := ho1.trans ho2'))
          have hs3 : Hid (SumM w2 bb (nc + (k + 1)) j Kc (L ++ timesT j p (intZ s ls) (mvT (T.take (k + 1))))) := by
            have q1 : max Kc Kc = Kc := by omega
            rw [q1] at hs2
            have q2 : L ++ timesT j p (intZ s ls) (mvT (T.take (k + 1))) = (L ++ timesT j p (intZ s ls) (mvT (T.take k))) ++ [([z0, z1, z2, z3, z4, z5], intZ s1 ls1)] := by
              rw [htk.out, mvT_append, timesT_append, List.append_assoc, Hend.out, g5.eq]
              rfl
            show SumM _ _ _ _ _ _
            rw [q2]; exact hs2
          have Ho := Lib.hid (Hall.out.trans ho2)
          clear hs2 ho2' ho1 hbw1 hbw1'
          go_wp2
          go_roundw
          case rel => exact ⟨k + 1, by omega, by go_num, hs3, Ho.out⟩
          case measure => simp [intOf]; omega
    · obtain rfl : k = m := by omega
      have hlt' : ¬ (k : Int) < (k : Int) := by omega
      have hall : T.take k = T := List.take_of_length_le (by rw [Htl.out]; exact Nat.le_refl _)
      have hs := hsum.out
      rw [hall] at hs
      have Hs := Lib.hid hs
      have Ho := Lib.hid (hob.trans hon)
      clear hs hall hsum
      go_wp2_with fail
      go_end0
      exact ⟨rfl, Hs.out, Ho.out⟩
end Go.Proofs.YtjmbejodcloapaaGreat
