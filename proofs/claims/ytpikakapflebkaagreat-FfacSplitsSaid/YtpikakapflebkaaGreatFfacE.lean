/- Contract: a squarefree polynomial parted: the program's. -/
import Derived.Test.YtpikakapflebkaaGreatFfacD
import Derived.Test.YtpikakapflebkaaGreatPolyTop
import Derived.Test.YtpikakapflebkaaGreatFfacBase
import Derived.Deep.LoopGhost
import Derived.Deep.Onto
namespace Go.Proofs.YtpikakapflebkaaGreat
open Go.RowKit Cl
attribute [local go_sem ↓] Go.wp_at_zero Go.wp_at_succ

section
variable {q : Prm}
/-- How things stand on the way. -/
structure Stp (B0 : Nat) (w wr : World) (base : Nat) (v : Value) (m : Poly (Zp q)) (T : Nat → Nat → Poly (Zp q)) (d kk cc ii : Nat) (L : List (EntP q)) : Prop where
  pls : Pls wr base v L
  inv : Poly.PInv m (L.map (·.2))
  done : Poly.DoneL T d kk cc ii (L.map (·.2))
  bel : Below base w wr
  fresh : ∀ x ∈ L, ∀ y, x.1.1 = some y → B0 ≤ y.block
theorem Pls.lower {w : World} {base base' : Nat} {v : Value} {L : List (EntP q)} (h : Pls w base v L) (hb : base' ≤ base) : Pls w base' v L := ⟨h.own.mono hb, h.rd⟩
theorem map_set2 (L : List (EntP q)) (i : Nat) (x : EntP q) : (L.set i x).map (·.2) = (L.map (·.2)).set i x.2 := by simp [List.map_set]
end
/-- A call that hands back a polynomial's irreducible parts. -/
def GivesPts {q : Prm} (B0 : Nat) (w : World) (m : Poly (Zp q)) (e : Ending) (w' : World) : Prop :=
  ∃ A c, ∃ L : List (EntP q), e = .returned (.slice A L.length c) ∧ Pls w' w.heap.size (.slice A L.length c) L ∧ Poly.PInv m (L.map (·.2)) ∧ (∀ x ∈ L, x.2.Irr) ∧ Below w.heap.size w w' ∧ L.length ≤ 64 ∧ (∀ x ∈ L, ∀ y, x.1.1 = some y → B0 ≤ y.block)

set_option maxRecDepth 100000 in
set_option maxHeartbeats 8000000 in
theorem fparted (A B D : Option Addr) (n d nd cA cB cD : Nat) (p : Int) (hp : Pr p) (m : Poly (Zp ⟨p, hp⟩)) (rows : List (List Int)) (ds : List Int) (w : World)
    (hx : Ints w A m.len (fromP m)) (hm : m.Mon) (hl : m.len = n + 1) (hn : 1 ≤ n) (hn2 : n ≤ 64) (hB : Mat w B d rows) (hbas : ∃ col, Poly.Bas m n d (fun c => toP ⟨p, hp⟩ (rAt rows c)) col) (hsh : ∀ i, (rAt rows i).length ≤ 64) (hd64 : d ≤ 64) (hdc : d ≤ cB) (hcB : cB ≤ 9223372036854775807)
    (hsq : ∀ f : Poly (Zp ⟨p, hp⟩), f.Irr → Poly.val f m ≤ 1) (hds : Ints w D nd ds) (hnd : nd ≤ 64) (B0 : Nat) (hB0 : B0 ≤ w.heap.size) (hA0 : ∀ y, A = some y → B0 ≤ y.block) :
    Calls Tryz.prog 39 #[.slice A m.len cA, .slice B d cB, .int .i64 p, .slice D nd cD] w (GivesPts B0 w m) := by
  have hp2 := hp.two
  have hpm := hp.max
  obtain ⟨i0, hi, hz0, hz1, hz2⟩ := info_parts rows_info
  obtain ⟨col, hbas⟩ := hbas
  obtain ⟨k, fs, hfs⟩ := Poly.facs_exist hm hsq
  have hkd : k = d := Nat.le_antisymm (hfs.le hbas) (hfs.ge hbas)
  subst hkd
  have hpos := hbas.pos
  obtain ⟨e1, rfl⟩ : ∃ e1, k = e1 + 1 := ⟨k - 1, by omega⟩
  obtain ⟨T, hT⟩ : ∃ T : Nat → Nat → Poly (Zp ⟨p, hp⟩), T = fun c j => Poly.trialP (toP ⟨p, hp⟩ (rAt rows c)) (Zp.of ⟨p, hp⟩ (nx ds p j)) := ⟨_, rfl⟩
  have HTc : Hid (∀ c j, T c j = Poly.trialP (toP ⟨p, hp⟩ (rAt rows c)) (Zp.of ⟨p, hp⟩ (nx ds p j))) := fun c j => by rw [hT]
  have Hcnt : Hid (∀ ls : List (Poly (Zp ⟨p, hp⟩)), Poly.PInv m ls → ls.length ≤ e1 + 1) := fun ls h => h.count hfs
  have Hfull : Hid (∀ ls : List (Poly (Zp ⟨p, hp⟩)), Poly.PInv m ls → ls.length = e1 + 1 → ∀ x ∈ ls, x.Irr) := fun ls h e => h.full hfs e
  have Htry : Hid (∀ (ls : List (Poly (Zp ⟨p, hp⟩))) (kk : Nat), Poly.PInv m ls → (kk : Int) = p + nd → Poly.DoneL T (e1 + 1) kk 1 0 ls → ∀ x ∈ ls, x.Irr) := fun ls kk h hkk hdn => by
    refine h.tried hfs hbas fun c h0 h1 r hr => ?_
    have hr' : (r : Int) < p := hr
    have h2 := hdn.rounds (nd + r) (by omega) c h0 h1
    rw [hT] at h2
    have h3 : nx ds p (nd + r) = (r : Int) := by rw [nx_ge (by rw [hds.len]; omega), hds.len]; omega
    show Poly.UniL (Poly.trialP (toP _ (rAt rows c)) _) ls
    rw [← h3]; exact h2
  have Hsq : Hid (∀ (ls : List (Poly (Zp ⟨p, hp⟩))) (x : Poly (Zp ⟨p, hp⟩)), Poly.PInv m ls → x ∈ ls → x.len ≤ 65) := fun ls x h hx => by
    have := Poly.len_le_of_dvd (h.dvd hm.ne hx) hm.ne; omega
  have hpos2 : 0 < m.len := by omega
  have hst0 : Hid (Poly.PInv m [m]) := Poly.PInv.start hm (by omega)
  have Hsh := Lib.hid hsh
  have Hx := Lib.hid hx
  have HB := Lib.hid hB
  have Hds := Lib.hid hds
  have Hm := Lib.hid hm
  obtain ⟨w2, hw2⟩ : ∃ w2, w2 = (w.alloc (.cells #[.int .i64 p] 3)).alloc (.cells #[.slice D nd cD] 22) := ⟨_, rfl⟩
  have hb2 : Below w.heap.size w w2 := by rw [hw2]; exact ((Below.refl _ _).alloc (Nat.le_refl _) _).alloc (by simp) _
  have hs2 : w2.heap.size = w.heap.size + 1 + 1 := by rw [hw2]; simp
  have hgp2 : w2.cell? ⟨w.heap.size, 0, none⟩ = some (.int .i64 p) := by rw [hw2]; simp
  have hgd2 : w2.cell? ⟨w.heap.size + 1, 0, none⟩ = some (.slice D nd cD) := by rw [hw2]; simp
  have Hgp2 := Lib.hid hgp2
  have Hgd2 := Lib.hid hgd2
  have Hb2 := Lib.hid hb2
  have hpl1 : Hid (Pls (w2.alloc (.cells #[.slice A m.len cA] 22)) (w.heap.size + 1 + 1) (.slice (some ⟨w.heap.size + 1 + 1, 0, none⟩) 1 1) [((A, cA), m)]) := by
    have h1 := Pls.one (base := w.heap.size + 1 + 1) w2 (x := ((A, cA), m)) hpos2 (hx.bel hb2) (by omega)
    rw [hs2] at h1
    exact h1
  have hal1 : Hid (Below (w.heap.size + 1 + 1) w2 (w2.alloc (.cells #[.slice A m.len cA] 22))) := (Below.refl _ _).alloc (by omega) _
  have Hs2 := Lib.hid hs2
  have hfr0 : Hid (∀ x ∈ [((A, cA), m)], ∀ y, x.1.1 = some y → B0 ≤ y.block) := fun x hx y hy => by
    rw [List.mem_singleton] at hx
    subst hx
    exact hA0 y hy
  have Hw2 := Lib.hid hw2
  clear hx hB hds hm hfs hbas hsq hT hsh hgp2 hgd2 hb2 hs2 hw2
  have Hl := Lib.hid hl
  obtain ⟨b, o, rfl, hbl, hcb⟩ := HB.out.at_ hpos
  have Hcb := Lib.hid hcb
  clear hl hcb
  go_enter Tryz.func39, Tryz.ntmps39
  go_wp2
  go_step3
  go_wp2
  go_step3
  go_wp2
  rw [← Hw2.out]
  go_loopg [10, 11] ((p + nd).toNat + 1) (fun g1 v i wr => ∃ (L : List (EntP ⟨p, hp⟩)) (kk : Nat), (kk : Int) ≤ p + nd ∧ g1 = (p + nd).toNat + 1 - kk ∧ i = .int .i64 (kk : Int) ∧ Hid (Stp B0 w2 wr (w.heap.size + 1 + 1) v m T (e1 + 1) kk 1 0 L))
  case atStart => exact ⟨[((A, cA), m)], 0, by omega, by omega, rfl, hpl1.out, hst0.out, Poly.DoneL.start _ _ _, hal1.out, hfr0.out⟩
  case round =>
    obtain ⟨L, kk, hkk, hg1, rfl, st⟩ := hrel
    obtain ⟨g1, rfl⟩ : ∃ x : Nat, x = gk := ⟨_, rfl⟩
    obtain ⟨wo, rfl⟩ : ∃ wo : World, wo = wr := ⟨_, rfl⟩
    have hgp := (st.out.bel.cell (p := ⟨w.heap.size, 0, none⟩) (by show w.heap.size < _; omega)).trans Hgp2.out
    have hgd := (st.out.bel.cell (p := ⟨w.heap.size + 1, 0, none⟩) (by show w.heap.size + 1 < _; omega)).trans Hgd2.out
    by_cases hlt : (kk : Int) < p + nd
    · have hk2 : (e1 : Int) + 1 ≤ (cB : Int) := by omega
      by_cases hc1 : cB = 1
      · obtain rfl : e1 = 0 := by omega
        subst hc1
        go_wp2
        go_loopg [10, 30] 1 (fun g2 v i wr => g2 = 1 ∧ i = .int .i64 0 ∧ Hid (Stp B0 w2 wr (w.heap.size + 1 + 1) v m T (0 + 1) kk 1 0 L))
        case atStart => exact ⟨rfl, rfl, st⟩
        case round =>
          obtain ⟨rfl, rfl, st2⟩ := hrel
          go_wp2
          go_roundg (g1 - 1)
          case measure => omega
          case rel => exact ⟨L, kk + 1, by omega, by omega, by go_num, st2.out.pls, st2.out.inv, st2.out.done.round (by omega), st2.out.bel, st2.out.fresh⟩
      · go_wp2
        clear hgp hgd
        go_loopg [10, 30] (e1 + 1) (fun g2 v i wr => ∃ (L : List (EntP ⟨p, hp⟩)) (cc : Nat), cc ≤ e1 ∧ g2 = e1 + 1 - cc ∧ i = .int .i64 (cc : Int) ∧ Hid (Stp B0 w2 wr (w.heap.size + 1 + 1) v m T (e1 + 1) kk (cc + 1) 0 L))
        case atStart => exact ⟨L, 0, by omega, by omega, rfl, st⟩
        case round =>
          clear st
          obtain ⟨L, cc, hcc, hg2, rfl, st⟩ := hrel
          obtain ⟨g2, rfl⟩ : ∃ x : Nat, x = gk := ⟨_, rfl⟩
          by_cases hlt2 : cc < e1
          · obtain ⟨Aj, cj, hj1, hj2⟩ := Hcb.out (cc + 1) (by omega)
            have hjl := Hsh.out (cc + 1)
            have hj3 := (Hb2.out.cell (p := ⟨b, o + (cc + 1), none⟩) hbl).trans hj1
            have hj4 := (st.out.bel.cell (p := ⟨b, o + (cc + 1), none⟩) (by show b < _; omega)).trans hj3
            rw [show o + (cc + 1) = o + 1 + cc by omega] at hj4
            have HV : Hid (Rd (q := ⟨p, hp⟩) w2 Aj (rAt rows (cc + 1)).length (toP ⟨p, hp⟩ (rAt rows (cc + 1)))) := Rd.of_list (hj2.bel Hb2.out)
            have HT1 := Lib.hid (HTc.out (cc + 1))
            have hlt2' : (cc : Int) < (e1 : Int) := by omega
            have hcc0 : (0 : Int) ≤ (cc : Int) := by omega
            clear hj1 hj2 hj3
            generalize toP ⟨p, hp⟩ (rAt rows (cc + 1)) = V at *
            generalize (rAt rows (cc + 1)).length = lv at *
            go_wp2
            clear hj4
            go_loopg [10, 14] 66 (fun g3 v i wr => ∃ (L : List (EntP ⟨p, hp⟩)) (j : Nat), j ≤ L.length ∧ L.length ≤ 65 ∧ g3 = 66 - j ∧ i = .int .i64 (j : Int) ∧ Hid (Stp B0 w2 wr (w.heap.size + 1 + 1) v m T (e1 + 1) kk (cc + 1) j L))
            case atStart => exact ⟨L, 0, by omega, by (have := Hcnt.out _ st.out.inv; rw [List.length_map] at this; omega), by omega, rfl, st⟩
            case round =>
              clear st
              obtain ⟨L, j, hj, hL65, hg3, rfl, st⟩ := hrel
              obtain ⟨g3, rfl⟩ : ∃ x : Nat, x = gk := ⟨_, rfl⟩
              by_cases hlt3 : j < L.length
              · obtain ⟨g, cap, rfl, hgb, hglt, hgc, hgm⟩ := st.out.pls.form (by omega)
                have hlt3' : (j : Int) < (L.length : Int) := by omega
                have hj0 : (0 : Int) ≤ (j : Int) := by omega
                by_cases hfull : L.length = e1 + 1
                · have hq1 : ((L.length : Int) == (e1 : Int) + 1) = true := beq_iff_eq.2 (by omega)
                  have hirr : Hid (∀ x ∈ L, x.2.Irr) := fun x hx => Hfull.out _ st.out.inv (by rw [List.length_map]; exact hfull) x.2 (List.mem_map.2 ⟨x, hx, rfl⟩)
                  clear hfull
                  go_wp2
                  try rw [Exit.noGoto_ret]
                  go_ret
                  exact ⟨_, _, L, rfl, st.out.pls.lower (by omega), st.out.inv, hirr.out, Hb2.out.trans (st.out.bel.mono (by omega)), by have := Hcnt.out _ st.out.inv; rw [List.length_map] at this; omega, st.out.fresh⟩
                · have hq1 : ((L.length : Int) == (e1 : Int) + 1) = false := beq_eq_false_iff_ne.2 (by omega)
                  clear hfull
                  have hxm := st.out.inv.mon ((L[j]'hlt3).2) (List.mem_map.2 ⟨_, List.getElem_mem hlt3, rfl⟩)
                  have hxl1 := st.out.inv.len ((L[j]'hlt3).2) (List.mem_map.2 ⟨_, List.getElem_mem hlt3, rfl⟩)
                  have hx65 := Hsq.out _ ((L[j]'hlt3).2) st.out.inv (List.mem_map.2 ⟨_, List.getElem_mem hlt3, rfl⟩)
                  have hxc := st.out.pls.cell rfl hlt3
                  obtain ⟨_, hxI, hxg⟩ := st.out.pls.rd _ (List.getElem_mem hlt3)
                  have hxe : Hid ((ecells L)[j]? = some (.slice (L[j]'hlt3).1.1 (L[j]'hlt3).2.len (L[j]'hlt3).1.2)) := ecells_get hlt3
                  have hLm : Hid ((L.map (·.2))[j]'(by rw [List.length_map]; exact hlt3) = (L[j]'hlt3).2) := by show _ = _; simp
                  have Hxm := Lib.hid hxm
                  have HxI := Lib.hid hxI
                  have hgp := (st.out.bel.cell (p := ⟨w.heap.size, 0, none⟩) (by show w.heap.size < _; omega)).trans Hgp2.out
                  have hgd := Lib.hid ((st.out.bel.cell (p := ⟨w.heap.size + 1, 0, none⟩) (by show w.heap.size + 1 < _; omega)).trans Hgd2.out)
                  have hws : w.heap.size + 1 < wr.heap.size := by have := st.out.bel.size; have := Hs2.out; omega
                  have hD := Lib.hid ((Hds.out.bel Hb2.out).below st.out.bel (by have := Hs2.out; omega))
                  have hVw := Lib.hid (show Rd (q := ⟨p, hp⟩) wr Aj lv V from by obtain ⟨ys, h1, h2⟩ := HV.out; exact ⟨ys, h1.below st.out.bel (by have := Hs2.out; omega), h2⟩)
                  have hz := Lib.hid (nx_bd (ds := ds) (p := p) (k := kk) hp2 (by rw [Hds.out.len]; exact hlt))
                  have HT2 := Lib.hid (HT1.out kk)
                  clear hxm hxI
                  generalize L[j]'hlt3 = ent at *
                  obtain ⟨⟨Ai, ci⟩, x⟩ := ent
                  simp only at hxc hxl1 hx65 hxg
                  have hkb : kk ≤ 1000000 := by omega
                  have Cn : Hid (∀ W, Below wr.heap.size wr W → Calls Tryz.prog 67 #[.int .i64 (kk : Int), .pointer (some ⟨w.heap.size + 1, 0, none⟩), .pointer (some ⟨w.heap.size, 0, none⟩)] W fun e w' => e = .returned (.int .i64 (nx ds p kk)) ∧ ∃ m, w' = W.drewN m) := fun W hW =>
                    fnext D nd cD (w.heap.size + 1) w.heap.size kk ds p W (hD.out.bel hW) hnd ((hW.cell (p := ⟨w.heap.size + 1, 0, none⟩) hws).trans hgd.out) ((hW.cell (p := ⟨w.heap.size, 0, none⟩) (by show w.heap.size < _; omega)).trans hgp) hp2 hpm hkb
                  generalize nx ds p kk = z at *
                  have Ct : Hid (∀ W, Below wr.heap.size wr W → Calls Tryz.prog 68 #[.slice Aj lv cj, .int .i64 z, .slice Ai x.len ci, .int .i64 p] W (GivesR W 66 (Poly.trialM V (Zp.of ⟨p, hp⟩ z) x))) := fun W hW =>
                    ftrialR (Rd.bel hVw.out hW) (Rd.of (HxI.out.bel hW)) hjl hx65 hz.out Hxm.out.ne
                  have hgmon : Hid ((Poly.gcdP (Poly.trialM V (Zp.of ⟨p, hp⟩ z) x) x).Mon) := Poly.gcd_mon Hxm.out.ne
                  have hgdv : Hid (Poly.gcdP (Poly.trialM V (Zp.of ⟨p, hp⟩ z) x) x ∣ x) := (Poly.gcd_is _ _).r
                  have hus : Hid (¬ (1 < (Poly.gcdP (Poly.trialM V (Zp.of ⟨p, hp⟩ z) x) x).len ∧ (Poly.gcdP (Poly.trialM V (Zp.of ⟨p, hp⟩ z) x) x).len < x.len) → Poly.Uni (T (cc + 1) kk) x) := fun h => by rw [HT2.out]; exact Poly.uni_still Hxm.out h
                  have huf : Hid (Poly.Uni (T (cc + 1) kk) (Poly.gcdP (Poly.trialM V (Zp.of ⟨p, hp⟩ z) x) x)) := by show Poly.Uni _ _; rw [HT2.out]; exact Poly.uni_found Hxm.out
                  have hgle : (Poly.gcdP (Poly.trialM V (Zp.of ⟨p, hp⟩ z) x) x).len ≤ x.len := Poly.len_le_of_dvd hgdv.out Hxm.out.ne
                  have Cg : Hid (∀ W A7 c7, Below wr.heap.size wr W → (Poly.trialM V (Zp.of ⟨p, hp⟩ z) x).len ≤ 66 → Ints W A7 (Poly.trialM V (Zp.of ⟨p, hp⟩ z) x).len (fromP (Poly.trialM V (Zp.of ⟨p, hp⟩ z) x)) → Calls Tryz.prog 44 #[.slice A7 (Poly.trialM V (Zp.of ⟨p, hp⟩ z) x).len c7, .slice Ai x.len ci, .int .i64 p] W (GivesRat W 66 (Poly.gcdP (Poly.trialM V (Zp.of ⟨p, hp⟩ z) x) x))) := fun W A7 c7 hW h66 hI =>
                    fgcdAt (Rd.of hI) (Rd.of (HxI.out.bel hW)) h66 (by omega) (by omega) Hxm.out.ne
                  clear hjl hlt HT2 hVw hD
                  generalize Poly.trialM V (Zp.of ⟨p, hp⟩ z) x = t at *
                  generalize hgg : Poly.gcdP t x = gg at *
                  clear hgg hgd
                  go_wp2
                  go_region_held3 (fun w' => w'.cell? ⟨g, j, none⟩ = some (.slice Ai x.len ci) ∧ w'.cell? ⟨w.heap.size, 0, none⟩ = some (.int .i64 p))
                    (first | go_keep | exact ⟨(hb6.cell (p := ⟨g, j, none⟩) hglt).trans hxc, (hb6.cell (p := ⟨w.heap.size, 0, none⟩) (by show w.heap.size < _; omega)).trans hgp⟩ | exact ⟨(hb5.cell (p := ⟨g, j, none⟩) hglt).trans hxc, (hb5.cell (p := ⟨w.heap.size, 0, none⟩) (by show w.heap.size < _; omega)).trans hgp⟩)
                    (first
                      | (go_at_call 67; refine (Cn.out _ (by first | exact (Below.refl _ _).drew | exact below_drewN (Below.refl _ _) _)).mono ?_; rintro e w4 ⟨rfl, mq, rfl⟩)
                      | (go_at_call 68; refine (Ct.out _ (by first | exact below_drewN (Below.refl _ _) _ | exact (below_drewN (Below.refl _ _) _).drew | exact below_drewN (Below.refl _ _).drew _)).mono ?_; rintro e w5 ⟨A5, c5, rfl, l5, h5, hb5'⟩; have hb5 : Below wr.heap.size wr w5 := (below_drewN (Below.refl _ _) _).trans hb5')
                      | (go_at_call 44; refine (Cg.out _ _ _ hb5 l5 h5).mono ?_; rintro e w6 ⟨A6, c6, rfl, l6, h6, hb6', hf6⟩; have hb6 : Below wr.heap.size wr w6 := below_tr hb5 hb6'))
                  have H6 := Lib.hid h6
                  have hf6' : Hid (∀ y, A6 = some y → wr.heap.size ≤ y.block) := fun y hy => by have h1 := hf6 y hy; have h2 := hb5.size; omega
                  have hxc6 := (hb6.cell (p := ⟨g, j, none⟩) hglt).trans hxc
                  have hgp6 := (hb6.cell (p := ⟨w.heap.size, 0, none⟩) (by show w.heap.size < _; omega)).trans hgp
                  have hpl6 := Lib.hid (st.out.pls.bel hb6)
                  have hbel6 : Hid (Below (w.heap.size + 1 + 1) w2 w6) := st.out.bel.trans (hb6.mono (by omega))
                  have hs6 := hb6.size
                  have hxi6 : Hid (Rd (q := ⟨p, hp⟩) w6 Ai x.len x) := Rd.of (HxI.out.bel hb6)
                  have Hb6 := Lib.hid hb6
                  clear h5 hb5 hb5' hb6 hb6' h6 hf6 l5 hxc hgp Cn Ct Cg HxI
                  by_cases hsp : 1 < gg.len ∧ gg.len < x.len
                  · obtain ⟨hs1, hs2⟩ := hsp
                    have hs1' : (1 : Int) < (gg.len : Int) := by omega
                    have hs2' : (gg.len : Int) < (x.len : Int) := by omega
                    have Cb : Hid (∀ W, Below w6.heap.size w6 W → Calls Tryz.prog 45 #[.slice Ai x.len ci, .slice A6 gg.len c6, .int .i64 p] W (GivesRat W 66 (Poly.quo x gg))) := fun W hW =>
                      fbyAt (M := 66) (Rd.bel hxi6.out hW) (Rd.of (H6.out.bel hW)) (by omega) l6 (by omega) (by omega) hgmon.out.ne
                    have hqm : Hid (0 < (Poly.quo x gg).len) := Poly.len_pos (Poly.quo_mon Hxm.out hgmon.out hgdv.out).ne
                    have hsplit : Hid (Poly.PInv m ((L.map (·.2)).set j gg ++ [Poly.quo x gg])) := by
                      have h1 := st.out.inv.split (g := gg) (i := j) (by rw [List.length_map]; exact hlt3) hgmon.out (by rw [hLm.out]; exact hgdv.out) hs1 (by rw [hLm.out]; exact hs2)
                      rwa [hLm.out] at h1
                    have hdone : Hid (Poly.DoneL T (e1 + 1) kk (cc + 1) (j + 1) ((L.map (·.2)).set j gg ++ [Poly.quo x gg])) := by
                      have h1 := st.out.done.split (g := gg) (by rw [List.length_map]; exact hlt3) hgmon.out.ne (by rw [hLm.out]; exact hgdv.out) huf.out
                      rwa [hLm.out] at h1
                    clear hus huf hgmon hgdv
                    generalize Poly.quo x gg = qq at *
                    go_wp2
                    have hw6a : (⟨w.heap.size, 0, none⟩ : Addr).block < w6.heap.size := by show w.heap.size < _; omega
                    have hw6b : (⟨g, j, none⟩ : Addr).block < w6.heap.size := by show g < _; omega
                    have hw2a : (⟨w.heap.size, 0, none⟩ : Addr).block < w.heap.size + 1 + 1 := by show w.heap.size < _; omega
                    go_region_held3 (fun w' => w'.cell? ⟨g, j, none⟩ = some (.slice Ai x.len ci) ∧ w'.cell? ⟨w.heap.size, 0, none⟩ = some (.int .i64 p))
                      (first | exact ⟨hxc6, hgp6⟩ | exact ⟨(hb7.cell hw6b).trans hxc6, (hb7.cell hw6a).trans hgp6⟩ | exact ⟨((hb7.alloc hb7.size _).cell hw6b).trans hxc6, ((hb7.alloc hb7.size _).cell hw6a).trans hgp6⟩ | exact ⟨hkeep j _ hxe.out, (hb8.cell hw2a).trans Hgp2.out⟩)
                      (first
                        | (go_at_call 45; refine (Cb.out _ (by first | exact (Below.refl _ _).drew | exact Below.refl _ _)).mono ?_; rintro e w7 ⟨A7, c7, rfl, l7, h7, hb7', hf7⟩; have hb7 : Below w6.heap.size w6 w7 := (Below.refl _ _).drew.trans hb7')
                        | (refine step_append_keeps (by rfl) _ _ _ (by rfl) (w.heap.size + 1 + 1) 22 i0 _ 1 24 Tryz.underlying44 hi hz0 hz1 hz2 rfl (by omega) g cap L.length (ecells L) (by rfl) (((hpl6.out.bel hb7).own).alloc _) ⟨w7.heap.size, 0, none⟩ 1 1 [.slice A7 qq.len c7] (by rfl) (by rfl) (World.news_of_block (cs := #[.slice A7 qq.len c7]) (t := 22) (fr := (0, 0)) (heap_alloc_new w7 _)) (by simp [Value.oneCell']) (by omega) (by unfold maxLen; omega) (by omega) (by have := hb7.size; simp; omega) (w7.heap.size + 1) (by simp) ?_; intro gn capn w8 hown8 hgrow hat hlt8 hkeep; have hb8 : Below (w.heap.size + 1 + 1) w2 w8 := below_app' (hbel6.out.trans (hb7.mono (by omega))) (hpl6.out.bel hb7).own hgrow (by have := hb7.size; omega)))
                    have hs7 := hb7.size
                    have hfar7 : ∀ y, A7 = some y → (Value.slice (some ⟨g, 0, none⟩) L.length cap).ownBlock ≠ some y.block := fun y hy e => by
                      have h1 := hf7 y hy
                      have h2 : g = y.block := by injection e
                      simp at h1
                      omega
                    have hfar6 : ∀ y, A6 = some y → (Value.slice (some ⟨g, 0, none⟩) L.length cap).ownBlock ≠ some y.block := fun y hy e => by
                      have h1 := hf6'.out y hy
                      have h2 : g = y.block := by injection e
                      omega
                    have hpl8 : Pls w8 (w.heap.size + 1 + 1) (.slice (some ⟨gn, 0, none⟩) (L.length + 1) capn) (L ++ [((A7, c7), qq)]) :=
                      (hpl6.out.bel hb7).app (x := ((A7, c7), qq)) hgrow hat (by simp) hown8 rfl hqm.out h7 hfar7
                    have H68 : Ints w8 A6 gg.len (fromP gg) := ((H6.out.bel hb7).alloc _).grown hgrow (fun _ y hy e => hfar6 y hy e)
                    have hne8 : ∀ y, A6 = some y → y.block ≠ gn := fun y hy e => by
                      have h1 := hf6'.out y hy
                      have h2 := H6.out.blk_lt (by omega) y hy
                      rcases hat with h3 | h3
                      · have h4 : g = gn := by injection h3
                        omega
                      · omega
                    have hbel8 : Below (w.heap.size + 1 + 1) w2 w8 := below_app' (hbel6.out.trans (hb7.mono (by omega))) (hpl6.out.bel hb7).own hgrow (by omega)
                    have hgn1 : w.heap.size + 1 + 1 ≤ gn := (hpl8.own.lt gn rfl).1
                    have hset := hpl8.set (by simp) (i := j) (by simp; omega) (x := ((A6, c6), gg)) (by show 0 < gg.len; omega) H68 hne8
                    have hc8 := hpl8.cell (by simp) (i := j) (by simp; omega)
                    have hf8 := hpl8.frozen (by simp) j
                    have hfr8 : ∀ x ∈ (L ++ [((A7, c7), qq)]).set j ((A6, c6), gg), ∀ y, x.1.1 = some y → B0 ≤ y.block := fun z hz y hy => by
                      rcases List.mem_or_eq_of_mem_set hz with h4 | h4
                      · rcases List.mem_append.1 h4 with h5 | h5
                        · exact st.out.fresh z h5 y hy
                        · rw [List.mem_singleton] at h5
                          subst h5
                          have h6 := hf7 y hy
                          simp at h6
                          omega
                      · subst h4
                        have h6 := hf6'.out y hy
                        omega
                    have hst : Hid (Stp B0 w2 (w8.setCell ⟨gn, j, none⟩ (.slice A6 gg.len c6)) (w.heap.size + 1 + 1) (.slice (some ⟨gn, 0, none⟩) (L.length + 1) capn) m T (e1 + 1) kk (cc + 1) (j + 1) ((L ++ [((A7, c7), qq)]).set j ((A6, c6), gg))) := by
                      have e : ((L ++ [((A7, c7), qq)]).set j ((A6, c6), gg)).map (·.2) = (L.map (·.2)).set j gg ++ [qq] := by
                        rw [map_set2, List.map_append, List.set_append_left _ _ (by rw [List.length_map]; exact hlt3)]; rfl
                      exact ⟨hset, by rw [e]; exact hsplit.out, by rw [e]; exact hdone.out, hbel8.setCell (p := ⟨gn, j, none⟩) hgn1 _, hfr8⟩
                    have hlen9 : L.length + 1 ≤ 65 := by have := Hcnt.out _ hsplit.out; simp at this; omega
                    have hjl9 : (j : Int) < (L.length : Int) + 1 := by omega
                    clear hfr8 hkeep hb8 hset hpl8 hown8 hgrow hat H68 hne8 hfar6 hfar7 hbel8 h7 hb7 hb7' hf7 hpl6 hxc6 hgp6 Cb hsplit hdone hs1 hs2 hs1' hs2'
                    generalize (L ++ [((A7, c7), qq)])[j]'_ = ent8 at *
                    go_wp2
                    go_roundg (g3 - 1)
                    case measure => omega
                    case rel => exact ⟨_, j + 1, by simp; omega, by simp; omega, by omega, by go_num, hst⟩
                  · have st6 : Hid (Stp B0 w2 w6 (w.heap.size + 1 + 1) (.slice (some ⟨g, 0, none⟩) L.length cap) m T (e1 + 1) kk (cc + 1) (j + 1) L) :=
                      ⟨hpl6.out, st.out.inv, st.out.done.still (by rw [List.length_map]; exact hlt3) (by rw [hLm.out]; exact hus.out hsp), hbel6.out, st.out.fresh⟩
                    clear hpl6 hxi6 hgmon hgdv hus huf
                    by_cases hs1 : 1 < gg.len
                    · have hs2 : ¬ gg.len < x.len := fun h => hsp ⟨hs1, h⟩
                      have hs1' : (1 : Int) < (gg.len : Int) := by omega
                      have hs2' : ¬ (gg.len : Int) < (x.len : Int) := by omega
                      clear hsp
                      go_wp2
                      go_roundg (g3 - 1)
                      case measure => omega
                      case rel => exact ⟨L, j + 1, by omega, hL65, by omega, by go_num, st6⟩
                    · have hs1' : ¬ (1 : Int) < (gg.len : Int) := by omega
                      clear hsp
                      go_wp2
                      go_roundg (g3 - 1)
                      case measure => omega
                      case rel => exact ⟨L, j + 1, by omega, hL65, by omega, by go_num, st6⟩
              · have hlt3' : ¬ (j : Int) < (L.length : Int) := by omega
                obtain ⟨g, cap, rfl, hgb, hglt, hgc, hgm⟩ := st.out.pls.form (by have := Hcnt.out; have := (st.out.inv.ne_nil (by have := Hl.out; omega)); rw [List.length_map] at this; exact this)
                have st2 : Hid (Stp B0 w2 wr (w.heap.size + 1 + 1) (.slice (some ⟨g, 0, none⟩) L.length cap) m T (e1 + 1) kk (cc + 1 + 1) 0 L) := ⟨st.out.pls, st.out.inv, st.out.done.elem (by rw [List.length_map]; omega), st.out.bel, st.out.fresh⟩
                go_wp2
                go_roundg (g2 - 1)
                case measure => omega
                case rel => exact ⟨L, cc + 1, by omega, by omega, by go_num, st2⟩
          · have hlt2' : ¬ (cc : Int) < (e1 : Int) := by omega
            have st2 : Hid (Stp B0 w2 wr (w.heap.size + 1 + 1) _ m T (e1 + 1) (kk + 1) 1 0 L) := ⟨st.out.pls, st.out.inv, st.out.done.round (by omega), st.out.bel, st.out.fresh⟩
            go_wp2
            go_roundg (g1 - 1)
            case measure => omega
            case rel => exact ⟨L, kk + 1, by omega, by omega, by go_num, st2⟩
    · have hirr : Hid (∀ x ∈ L, x.2.Irr) := fun x hx => Htry.out _ kk st.out.inv (by omega) st.out.done x.2 (List.mem_map.2 ⟨x, hx, rfl⟩)
      obtain ⟨g, cap, rfl, hgb, hglt, hgc, hgm⟩ := st.out.pls.form (by have := (st.out.inv.ne_nil (by have := Hl.out; omega)); rw [List.length_map] at this; exact this)
      go_wp2
      try rw [Exit.noGoto_ret]
      go_ret
      exact ⟨_, _, L, rfl, st.out.pls.lower (by omega), st.out.inv, hirr.out, Hb2.out.trans (st.out.bel.mono (by omega)), by have := Hcnt.out _ st.out.inv; rw [List.length_map] at this; omega, st.out.fresh⟩
end Go.Proofs.YtpikakapflebkaaGreat
