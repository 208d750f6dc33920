/- Contracts: layer 8's parts: the program's.
   Contracts: layer 8's radical, and what its functions answer where something is wrong: the program's. -/
import Derived.Test.YtpikakapflebkaaGreatSqfBase
import Derived.ScopeJumps
import Derived.WalkMore
import Derived.Test.YtpikakapflebkaaGreatPrsAll
namespace Go.Proofs.YtpikakapflebkaaGreat
open Go.RowKit Cl
attribute [local go_sem ↓] Go.wp_at_zero Go.wp_at_succ

theorem scope_jumps {P : Program} {a : Act} {w : World} {Q : Exit → Act → World → Prop} {c rest : Code} (l : Nat) (J : Act → World → Prop) (μ : Act → World → Nat) (hf : findLabel c l = some (.seq .skip rest))
    (pass : ∀ a w, J a w → rest.wp P (Exit.jump l (fun a' w' => J a' w' ∧ μ a' w' < μ a w) Q) a w)
    (first : (∀ a w, J a w → rest.wp P (Exit.jump l J Q) a w) → c.wp P (Exit.jump l J Q) a w) : (Code.scope c).wp P Q a w :=
  wp_scope_jumps l J μ hf (first fun a w h => Code.wp_mono (fun e a' w' he => by
    cases e with
    | goto l' => exact ⟨he.1, he.2.1⟩
    | normal => exact he
    | exit id => exact he
    | ret => exact he
    | panic ch => exact he
    | outgrown => exact he) (pass a w h)) fun a w h => wp_seq (wp_skip (pass a w h))
theorem grown_of_below {w w' : World} (h : Below w.heap.size w w') : w.grownBy w' none := ⟨h.os, h.tape, h.output, h.size, fun i hi _ => h.block i hi⟩
theorem map_bel {w w' : World} {P : Program} {k : TypeId} {R : Value → Option (DataW Value × List MemPlace)} {b n : Nat} {D : DataW Value} (h : w.ownsMap P k R b n D) (hb : Below w.heap.size w w') : w'.ownsMap P k R b n D := h.kept (grown_of_below hb) (by simp)
theorem below_map {B : Nat} {w0 w w' : World} {b : Nat} (h : Below B w0 w) (hg : w.grownBy w' (some b)) (hB : B ≤ w.heap.size) (hb : B ≤ b) : Below B w0 w' := h.grown hg hB (fun k hk => by injection hk; omega)
/-- A slice's length. -/
def lenOf : Value → Nat
  | .slice _ n _ => n
  | _ => 0
section
variable {q : Prm}
def GivesPrs (w : World) (L : List (Poly (Zp q) × Nat)) (err : Int) (e : Ending) (w' : World) : Prop :=
  ∃ A c, e = .returned (.tuple #[.slice A L.length c, .int .i64 err]) ∧ Prs w' A L.length L ∧ Below w.heap.size w w'
end

theorem ex_u {F : (Nat → Value) → Act} {a : Act} {S : Prop} (h : a = F fun i => a.tmps.getD i undef) (hS : S) : ∃ u, a = F u ∧ S := ⟨_, h, hS⟩
theorem root_half {q : Prm} {f c : Poly (Zp q)} {n : Nat} (hf : f.Mon) (hi : Poly.SqIn f n 1 c) : 2 * (c.root.len - 1) + 1 ≤ f.len := by
  obtain ⟨hD, hv⟩ := hi.c_D
  have h1 := Poly.root_len hi.cm.ne hD
  have h2 : c ∣ f := Poly.dvd_of_val hi.cm.ne hf.ne fun g hg => by rw [hv g hg]; split <;> omega
  have h3 := Poly.len_le_of_dvd h2 hf.ne
  have h4 : 2 ≤ q.p.toNat := by have := q.pr.two; omega
  have : 2 * (c.root.len - 1) ≤ q.p.toNat * (c.root.len - 1) := Nat.mul_le_mul_right _ h4
  omega

set_option maxRecDepth 1000000 in
set_option maxHeartbeats 8000000 in
theorem sparts_yes (A : Option Addr) (n c : Nat) (xs : List Int) (p : Int) (w : World) (hp : Pr p) (hx : Ints w A n xs) (hn : n ≤ 100000000) (h0 : toP ⟨p, hp⟩ xs ≠ 0) :
    Calls Tryz.prog 28 #[.slice A n c, .int .i64 p] w (GivesPrs w (Poly.partsL (toP ⟨p, hp⟩ xs)) 0) := by
  have hp1 := hp.two
  have hp2 := hp.max
  have C := Lib.hid (smonicR (c := c) (Rd.of_list (q := ⟨p, hp⟩) hx) (Nat.le_refl n) (by omega) h0)
  have hla : (toP ⟨p, hp⟩ xs).len ≤ n := len_le_toP hx.len
  generalize toP ⟨p, hp⟩ xs = a at *
  go_enter Tryz.func28, Tryz.ntmps28
  have hmm := @run_makeMap Tryz.prog
  go_wp2
  refine scope_jumps 0 (fun a' w' => ∃ (s : Nat) (f : Poly (Zp ⟨p, hp⟩)) (Af : Option Addr) (cf : Nat) (D : DataW Value) (nb bm : Nat) (u : Nat → Value), a' = { tmps := #[.slice A n c, .int .i64 p, u 2, u 3, .slice none 0 0, .int .i64 0, .slice Af f.len cf, .int .i64 0, .map (some bm), .int .i64 (s : Int), u 10, u 11, u 12, u 13, u 14, u 15, u 16, u 17, u 18, u 19, u 20, u 21, u 22, u 23, u 24, u 25, u 26, u 27, u 28, u 29, u 30, u 31, u 32, u 33, u 34, u 35, u 36, u 37, u 38, u 39, u 40, u 41, u 42, u 43, u 44, u 45, u 46, u 47, u 48, u 49, u 50, u 51, u 52, u 53, u 54, u 55, u 56, u 57, u 58, u 59, u 60, u 61, u 62, u 63, u 64, u 65, u 66, u 67, u 68, u 69, u 70, u 71, u 72, u 73, u 74, u 75, u 76, u 77, u 78, u 79, u 80, u 81, u 82, u 83, u 84, u 85, u 86, u 87, u 88, u 89, u 90, u 91, u 92, u 93, u 94, u 95, u 96, u 97, u 98, u 99, u 100, u 101, u 102, u 103, u 104, u 105, u 106, u 107, u 108, u 109, u 110, u 111, u 112, u 113, u 114], defers := [] } ∧ Hid (Ints w' Af f.len (fromP f)) ∧ Hid (Poly.SqOut a s f) ∧ w'.ownsMap Tryz.prog 3 slEl bm nb D ∧ Hid (Found w' D a (Done p.toNat s 1)) ∧ nb + 2 * (f.len - 1) ≤ 2 * a.len ∧ s ≤ a.len ∧ f.len ≤ a.len ∧ w.heap.size ≤ bm ∧ Hid (Below w.heap.size w w')) (fun a' _ => lenOf (a'.tmps.getD 6 undef)) rfl ?_ ?_
  · rintro a' w' ⟨s, f, Af, cf, D, nb, bm, u, rfl, hF, hO, hmap, hfnd, hnb, hsb, hfl, hbm, hbel⟩
    clear C hmm
    have hfn : f.len ≤ n := by omega
    go_wp2_with fail
    refine (derivR (hp := hp) (N := n) (Rd.of hF.out) hfn (by omega)).mono ?_
    rintro e w2 ⟨A2, c2, rfl, l2, h2, hb2⟩
    go_wp2_with fail
    refine (gcdR (hp := hp) (N := n) (Rd.of (hF.out.bel hb2)) (Rd.of h2) hfn l2 (by omega)).mono ?_
    rintro e w3 ⟨A3, c3, rfl, l3, h3, hb3⟩
    have hC0 := Poly.SqIn.start hO.out.fm (c := Poly.gcdP f f.D) rfl
    go_wp2_with fail
    refine (sbyR (hp := hp) (N := n) (M := n) (Rd.of ((hF.out.bel hb2).bel hb3)) (Rd.of h3) hfn l3 (by omega) (by omega) hC0.cm.ne).mono ?_
    rintro e w4 ⟨A4, c4, rfl, l4, h4, hb4⟩
    have hb24 := below_tr (below_tr hb2 hb3) hb4
    have hIn0 := Lib.hid hC0
    have hmap4 : w4.ownsMap Tryz.prog 3 slEl bm nb D := map_bel hmap hb24
    have hfnd4 := Lib.hid (hfnd.out.bel hb24)
    have h3' := Lib.hid (h3.bel hb4)
    have h4' := Lib.hid h4
    have hbel4 := Lib.hid (below_tr hbel.out hb24)
    clear hb2 hb3 hb4 hb24 h2 h3 h4 l2 hC0 hmap hfnd hbel hF
    go_wp2_with fail
    go_loopg [12, 14, 15] (f.len + 1) (fun gk v12 v14 v15 wr => ∃ (k : Nat) (W C : Poly (Zp ⟨p, hp⟩)) (Aw Ac : Option Addr) (cw cc : Nat) (D : DataW Value) (nc : Nat), f.len - k < gk ∧ v12 = .slice Ac C.len cc ∧ v14 = .slice Aw W.len cw ∧ v15 = .int .i64 k ∧ 1 ≤ k ∧ k ≤ f.len ∧ W.len ≤ n ∧ C.len ≤ n ∧ Hid (Ints wr Ac C.len (fromP C)) ∧ Hid (Ints wr Aw W.len (fromP W)) ∧ Hid (Poly.SqIn f k W C) ∧ wr.ownsMap Tryz.prog 3 slEl bm nc D ∧ Hid (Found wr D a (Done p.toNat s k)) ∧ nc ≤ nb + (k - 1) ∧ Hid (Below w.heap.size w wr))
    case atStart => exact ⟨1, _, _, A4, A3, c4, c3, D, nb, by omega, rfl, rfl, rfl, Nat.le_refl _, Poly.len_pos hO.out.fm.ne, l4, l3, h3', h4', hIn0, hmap4, hfnd4, by omega, hbel4⟩
    case round =>
      obtain ⟨k, W, Cc, Aw, Ac, cw, cc, D, nc, hgk, rfl, rfl, rfl, hk1, hkf, hWn, hCn, hC, hW, hIn, hmap, hfnd, hnc, hbel⟩ := hrel
      clear hIn0 hmap4 hfnd4 h3' h4' hbel4 l3 l4
      by_cases hw : 1 < W.len
      · obtain ⟨hs1, hs2⟩ := sq_small h0 hO.out hIn.out hk1 hw
        have hstep := Lib.hid (hIn.out.step rfl)
        have hw' : (1 : Int) < (W.len : Int) := by omega
        go_wp2_with fail
        refine (gcdR (hp := hp) (N := n) (Rd.of hW.out) (Rd.of hC.out) hWn hCn (by omega)).mono ?_
        rintro e w5 ⟨A5, c5, rfl, l5, h5, hb5⟩
        go_wp2_with fail
        refine (sbyR (hp := hp) (N := n) (M := n) (Rd.of (hW.out.bel hb5)) (Rd.of h5) hWn l5 (by omega) (by omega) hstep.out.1.wm.ne).mono ?_
        rintro e w6 ⟨A6, c6, rfl, l6, h6, hb6⟩
        have hb56 := below_tr hb5 hb6
        have hmap6 : w6.ownsMap Tryz.prog 3 slEl bm nc D := map_bel hmap hb56
        have hfnd6 := Lib.hid (hfnd.out.bel hb56)
        have hbel6 := Lib.hid (below_tr hbel.out hb56)
        have hC6 := Lib.hid (hC.out.bel hb56)
        have h56 := Lib.hid (h5.bel hb6)
        have hks : 1 ≤ k * s := Nat.mul_pos hk1 hO.out.sp
        have hks2 : Hid ((k : Int) * (s : Int) = ((k * s : Nat) : Int)) := show _ = _ by simp
        have hm1 : (0 : Int) ≤ (k : Int) * (s : Int) := by rw [hks2.out]; omega
        have hm2 : (k : Int) * (s : Int) ≤ 100000000 := by rw [hks2.out]; omega
        clear hb5 hb6 hb56 h5 hmap hfnd hbel hC hW
        by_cases hown : Poly.quo W (Poly.gcdP W Cc) = 1
        · have hl1 : ¬ (1 : Int) < ((Poly.quo W (Poly.gcdP W Cc)).len : Int) := by rw [hown, Poly.len_one]; decide
          have hfnd7 : Hid (Found w6 D a (Done p.toNat s (k + 1))) := by
            show Found _ _ _ _
            by_cases hpk : p.toNat ∣ k
            · exact hfnd6.out.iff fun j _ _ => done_skip hpk
            · have he := hO.out.own h0 hk1 hpk hIn.out
              rw [hown] at he
              exact (hfnd6.out.skip he.symm).iff fun j _ _ => done_step hO.out.sp hpk
          clear hown
          go_wp2_with fail
          refine (sbyR (hp := hp) (N := n) (M := n) (Rd.of hC6.out) (Rd.of h56.out) hCn l5 (by omega) (by omega) hstep.out.1.wm.ne).mono ?_
          rintro e w7 ⟨A7, c7, rfl, l7, h7, hb7⟩
          have hmap7 : w7.ownsMap Tryz.prog 3 slEl bm nc D := map_bel hmap6 hb7
          have hfnd8 := Lib.hid (hfnd7.out.bel hb7)
          have hbel7 := Lib.hid (below_tr hbel6.out hb7)
          have h57 := Lib.hid (h56.out.bel hb7)
          have h7' := Lib.hid h7
          have hst7 := Lib.hid hstep.out.1
          go_wp2_with fail
          go_roundg (f.len - k)
          case measure => omega
          case rel => exact ⟨k + 1, _, _, A5, A7, c5, c7, D, nc, by omega, rfl, rfl, by go_num, by omega, by omega, l5, l7, h7', h57, hst7, hmap7, hfnd8, by omega, hbel7⟩
        · have hpk : ¬ p.toNat ∣ k := fun hd => hown (hIn.out.own_one hd)
          have he : Hid (Poly.quo W (Poly.gcdP W Cc) = Poly.lvl a (k * s)) := hO.out.own h0 hk1 hpk hIn.out
          have hl1 : (1 : Int) < ((Poly.quo W (Poly.gcdP W Cc)).len : Int) := by
            have h1 := hstep.out.2.1.len_gt.2 hown
            omega
          have hne : Hid (Poly.lvl a (k * s) ≠ 1) := by rw [← he.out]; exact hown
          have h6' := h6
          rw [he.out] at h6'
          have H6 := Lib.hid h6'
          rw [he.out] at hl1 ⊢
          have hkey := key_int (k * s) (by omega)
          have hncb : nc < maxLen := by unfold maxLen; omega
          clear h6 h6' hown
          go_wp2_with (at_mapUpdate; go_must (refine wpList_mapUpdate_own _ rfl _ _ _ 74 rfl 3 22 int_law Tryz.underlying74 slEl bm nc D rfl hmap6 hncb _ _ _ rfl rfl (by rw [hks2.out]; exact hkey) _ [] (slEl_mk _ _ _) ?_); intro w7 hmap7 hgm)
          have hfnd7 : Hid (Found w7 (D.put (.int .i64 ((k * s : Nat) : Int)) (.held (.slice A6 (Poly.lvl a (k * s)).len c6))) a (Done p.toNat s (k + 1))) :=
            ((hfnd6.out.map hmap6 hgm).put hmap6.isMap hks hne.out (ints_map H6.out hmap6 hgm)).iff fun j _ _ => done_step hO.out.sp hpk
          have hC7 := Lib.hid (ints_map hC6.out hmap6 hgm)
          have h57 := Lib.hid (ints_map h56.out hmap6 hgm)
          have hbel7 := Lib.hid (below_map hbel6.out hgm hbel6.out.size hbm)
          clear hgm hmap6 hfnd6 H6 hkey hC6 h56
          go_wp2_with fail
          refine (sbyR (hp := hp) (N := n) (M := n) (Rd.of hC7.out) (Rd.of h57.out) hCn l5 (by omega) (by omega) hstep.out.1.wm.ne).mono ?_
          rintro e w8 ⟨A8, c8, rfl, l8, h8, hb8⟩
          have hmap8 := map_bel hmap7 hb8
          have hfnd8 := Lib.hid (hfnd7.out.bel hb8)
          have hbel8 := Lib.hid (below_tr hbel7.out hb8)
          have h58 := Lib.hid (h57.out.bel hb8)
          have h8' := Lib.hid h8
          have hst8 := Lib.hid hstep.out.1
          go_wp2_with fail
          go_roundg (f.len - k)
          case measure => omega
          case rel => exact ⟨k + 1, _, _, A5, A8, c5, c8, _, nc + 1, by omega, rfl, rfl, by go_num, by omega, by omega, l5, l8, h8', h58, hst8, hmap8, hfnd8, by omega, hbel8⟩
      · have hW1 : W = 1 := Classical.byContradiction fun h => hw (hIn.out.wm.len_gt.2 h)
        subst hW1
        have hw' : ¬ (1 : Int) < ((1 : Poly (Zp ⟨p, hp⟩)).len : Int) := by omega
        by_cases hc : 1 < Cc.len
        · have hD := hIn.out.c_D.1
          have hsc : s * p.toNat < a.len := sq_scale h0 hO.out hIn.out hc
          have hrl : Hid (Cc.len = p.toNat * (Cc.root.len - 1) + 1) := Poly.root_len hIn.out.cm.ne hD
          have hr1 : 1 ≤ Cc.root.len := Poly.len_pos (hIn.out.cm.root_mon hD).ne
          have hrlt := Poly.SqIn.root_lt hO.out.fm hIn.out hc
          have hrhf := root_half hO.out.fm hIn.out
          have hnext : Hid (Poly.SqOut a (s * p.toNat) Cc.root) := hO.out.next hIn.out
          have hde : Hid (Found wr D a (Done p.toNat (s * p.toNat) 1)) := hfnd.out.iff fun j h1 h2 => done_end h0 hO.out hIn.out h1 h2
          have hc' : (1 : Int) < (Cc.len : Int) := by omega
          have hsp : Hid ((s : Int) * p = ((s * p.toNat : Nat) : Int)) := by show _ = _; rw [Int.natCast_mul]; congr 1; omega
          have hm1 : (0 : Int) ≤ (s : Int) * p := by rw [hsp.out]; omega
          have hm2 : (s : Int) * p ≤ 100000000 := by rw [hsp.out]; omega
          have hpn : Hid (((p.toNat : Nat) : Int) = p) := by show _ = _; omega
          have hJ0 : Hid (0 = 0 * p.toNat) := by show _ = _; omega
          have hns : 1 ≤ s * p.toNat := hnext.out.sp
          obtain ⟨i0, hi, hz0, hz1, hz2⟩ := info_parts int_info
          clear hfnd hW hIn hO hD
          obtain ⟨wo, rfl⟩ : ∃ wo : World, wo = wr := ⟨_, rfl⟩
          go_wp2_with fail
          go_loopw [6, 19] (fun v i w9 => ∃ (j J : Nat), j ≤ Cc.root.len ∧ Hid (J = j * p.toNat) ∧ i = .int .i64 (J : Int) ∧ w9.ownsRow wo.heap.size 3 1 v j (ints (tab j (fun i => (Cc.root.co i).val))) ∧ Below wo.heap.size wo w9) (fun _ i _ => Cc.len - (intOf i).toNat)
          case atStart => exact ⟨0, 0, by omega, hJ0, rfl, World.ownsRow_nil _ _ _ _, Below.refl _ _⟩
          case round =>
            obtain ⟨j, J, hj, hJ, rfl, hown, hb⟩ := hrel
            by_cases hlt : j < Cc.root.len
            · obtain ⟨b, o, rfl, hbb, hcc⟩ := hC.out.at_ (by omega)
              have hJl : J < Cc.len := by
                have h1 : j * p.toNat ≤ (Cc.root.len - 1) * p.toNat := Nat.mul_le_mul_right _ (by omega)
                rw [hJ.out, hrl.out, Nat.mul_comm p.toNat]; omega
              have hcx : wr.cell? ⟨b, o + J, none⟩ = some (.int .i64 (nth (fromP Cc) J)) := (hb.cell (p := ⟨b, o + J, none⟩) hbb).trans (hcc J hJl)
              have hv : (Cc.root.co j).val = nth (fromP Cc) J := by rw [nth_fromP, hJ.out]; rfl
              have hJ1 : Hid (J + p.toNat = (j + 1) * p.toNat) := by show _ = _; rw [hJ.out, Nat.add_mul, Nat.one_mul]
              have hJ2 : Hid ((J : Int) + p = ((J + p.toNat : Nat) : Int)) := by show _ = _; rw [Int.natCast_add, hpn.out]
              have hJl' : (J : Int) < (Cc.len : Int) := by omega
              have hsz := hb.size
              clear hcc hJ
              go_wp2_with (at_builtin; go_must (refine wpList_append_lies _ (by rfl) _ _ _ (by rfl) wo.heap.size 3 i0 _ 1 8 Tryz.underlying22 hi hz0 hz1 hz2 rfl (by omega) u6 j (ints (tab j (fun i => (Cc.root.co i).val))) (by rfl) (hown.alloc _) ⟨wr.heap.size, 0, none⟩ 1 1 [.int .i64 (nth (fromP Cc) J)] (by rfl) (by rfl) (World.news_of_block (cs := #[.int .i64 (nth (fromP Cc) J)]) (t := 3) (fr := (0, 0)) (heap_alloc_new wr _)) (by simp [Value.oneCell']) (by omega) (by unfold maxLen; omega) (by omega) (by simp; omega) (wr.heap.size + 1) (by simp) ?_); intro gg cap w3 hown3 hgrow hat hlt3)
              have hb3 := below_app' hb hown hgrow hsz
              rw [← hv, ints_tab_succ j (fun i => (Cc.root.co i).val)] at hown3
              clear hgrow hat hown hv
              go_wp2
              go_roundw
              case rel => exact ⟨j + 1, J + p.toNat, by omega, hJ1, by rw [hJ2.out], hown3, hb3⟩
              case measure => rw [hJ2.out]; simp [intOf]; omega
            · obtain rfl : j = Cc.root.len := by omega
              obtain ⟨A9, c9, rfl⟩ := own_slice hown
              have hin : Hid (Ints wr A9 Cc.root.len (fromP Cc.root)) := Ints.of_own hown (fromP_i64 _)
              have hJl : ¬ (J : Int) < (Cc.len : Int) := by
                have h1 : p.toNat * Cc.root.len = p.toNat * (Cc.root.len - 1) + p.toNat := by rw [← Nat.mul_succ]; congr 1; omega
                have h2 := hrl.out
                have h3 := hJ.out
                rw [Nat.mul_comm] at h3
                omega
              have hmap9 := Lib.hid (map_bel hmap hb)
              have hfnd9 := Lib.hid (hde.out.bel hb)
              have hbel9 := Lib.hid (below_tr hbel.out hb)
              clear hown hC hde hmap hbel hb
              go_wp2_with fail
              rw [hsp.out]
              go_step3
              refine ⟨rfl, ⟨s * p.toNat, Cc.root, A9, c9, D, nc, bm, ex_u rfl ⟨hin, hnext, hmap9.out, hfnd9, by omega, by omega, by omega, by omega, hbel9⟩⟩, ?_⟩
              show Cc.root.len < f.len
              omega
        · have hC1 : Cc = 1 := Classical.byContradiction fun h => hc (hIn.out.cm.len_gt.2 h)
          subst hC1
          have hc' : ¬ (1 : Int) < ((1 : Poly (Zp ⟨p, hp⟩)).len : Int) := by omega
          have hall : Hid (Found wr D a fun _ => True) := hfnd.out.iff fun j h1 h2 => done_last h0 hO.out hIn.out h1 h2
          have hsz := map_size hmap
          have hbmlt := hmap.lt
          have hncb : nc ≤ 200000000 := by omega
          obtain ⟨i0, hi, hz0, hz1, hz2⟩ := info_parts part_info
          obtain ⟨wo, rfl⟩ : ∃ wo : World, wo = wr := ⟨_, rfl⟩
          clear hfnd hC hW hIn hO hc hw
          go_wp2_with (at_range; go_must (refine wpList_range_own _ rfl _ 74 rfl 3 22 int_law Tryz.underlying74 slEl bm nc D rfl hmap ?_); intro w0 hrg0 hg0 hs0)
          go_loopw [20] (fun v w9 => ∃ (left : Lit → Bool) (cnt : Nat) (L : List Ent), w9.ranges Tryz.prog 3 slEl bm wo.heap.size nc D left cnt ∧ w9.ownsRow (wo.heap.size + 1) 56 2 v L.length (pcells (fun k => (Poly.lvl a k).len) L) ∧ Hid (Gathered wo D a left L) ∧ Below wo.heap.size wo w9 ∧ wo.heap.size + 1 ≤ w9.heap.size ∧ L.length + cnt ≤ nc) (fun _ w9 => w9.rangeLeft bm wo.heap.size)
          case atStart => exact ⟨_, _, [], hrg0, World.ownsRow_nil _ _ _ _, Gathered.start hall.out, (Below.refl _ _).grown hg0 (Nat.le_refl _) (by simp), by omega, by simpa using hsz⟩
          case round =>
            obtain ⟨left, cnt, L, hrg, hown, hG, hb, hsz9, hlen⟩ := hrel
            go_wp2_with (at_next; go_must (refine wpList_next_ranges _ rfl _ rfl 3 int_law slEl (Value.int .i64) mkSl mkI_inv slEl_inv bm wo.heap.size nc D left cnt rfl hrg ?_ ?_))
            · intro hc0 hl0
              rcases hown.2 with ⟨hv, hn0⟩ | ⟨g, cap, cur, hv, hgb, hh, _⟩
              · subst hv
                obtain rfl : L = [] := List.eq_nil_of_length_eq_zero hn0
                have hpl := Lib.hid (hG.out.none_ h0 hl0)
                have C := Lib.hid (ssort_none 0 wr)
                have hbel9 := Lib.hid (below_tr hbel.out hb)
                clear hrg hown hG hb hall hmap
                go_wp2_with fail
                refine C.out.mono ?_
                rintro e w' ⟨rfl, rfl⟩
                go_wp2_with fail
                go_ret2
                exact ⟨none, 0, by rw [hpl.out]; rfl, by rw [hpl.out]; exact Prs.nil _ _, hbel9.out⟩
              · subst hv
                have hgl : g < wr.heap.size := (Array.getElem?_eq_some_iff.1 hh).1
                have C := Lib.hid (ssort_any (fun k => (Poly.lvl a k).len) wr (wo.heap.size + 1) g cap L hown hgl (fun x hx => by have h1 := hG.out.ent x hx; have := Poly.lvl_lt h0 h1.1 h1.2.1; omega) (by omega))
                clear hrg hown hall hmap hh
                go_wp2_with fail
                refine C.out.mono ?_
                rintro e w' ⟨rfl, L', hp', hs', hcl, honly⟩
                have hb2 : Below wo.heap.size wo w' := hb.trans (honly.below (by omega) (fun k hk => by omega))
                obtain ⟨hl2, hprs⟩ := hG.out.done h0 hl0 hp' hs' hb2 (by have := honly.size; omega) hcl
                have hbel9 := Lib.hid (below_tr hbel.out hb2)
                have Hprs := Lib.hid hprs
                rw [hl2]
                clear hp' hs' hcl honly hprs hb2 hb
                go_wp2_with fail
                go_ret2
                exact ⟨_, _, rfl, Hprs.out, hbel9.out⟩
            · intro x cA cn ccp kl y1 y2 w10 cnt' hkey hlk hR hat hrg1 hlt hg1 hs1 hen
              obtain ⟨k2, Ak, cp, rfl, hme, h1, h2, hG1⟩ := hG.out.step (c := (cA, cn, ccp)) (y := (y1, y2)) hall.out hkey hlk hR hat
              have hm0 : wr.rangeLeft bm wo.heap.size = cnt := hrg.left_eq
              have hown1 := hown.kept hg1 (by
                cases hob : u20.ownBlock with
                | none => exact Or.inl rfl
                | some g => exact Or.inr (fun e => by have := (hown.lt g hob).1; injection e; omega))
              have hb1 := below_map hb hg1 hb.size (Nat.le_refl _)
              have HG1 := Lib.hid hG1
              have hsz10 : wo.heap.size + 1 ≤ w10.heap.size := by omega
              have hkb := Poly.lvl_lt h0 h1 h2
              rw [hme] at hen ⊢
              clear hrg hown hG hb hG1 hkey hlk hR hat hme hg1 hs1 hsz9
              go_wp2_with (at_builtin; go_must (refine wpList_append_lies _ (by rfl) _ _ _ (by rfl) (wo.heap.size + 1) 56 i0 _ 2 32 Tryz.underlying53 hi hz0 hz1 hz2 rfl (by omega) u20 L.length (pcells (fun k => (Poly.lvl a k).len) L) (by rfl) (hown1.alloc _) ⟨w10.heap.size, 0, none⟩ 1 1 [.slice Ak (Poly.lvl a k2).len cp, .int .i64 (k2 : Int)] (by rfl) (by rfl) (World.news_of_block (cs := #[.slice Ak (Poly.lvl a k2).len cp, .int .i64 (k2 : Int)]) (t := 56) (fr := (0, 0)) (heap_alloc_new w10 _)) (by simp [Value.oneCell']) (by omega) (by unfold maxLen; omega) (by omega) (by simp; omega) (w10.heap.size + 1) (by simp) ?_); intro gg cap w3 hown3 hgrow hat hlt3)
              have hb3 := below_app' hb1 (own_mono hown1 (by omega)) hgrow (by omega)
              have hrg3 := (hrg1.alloc (.cells #[.slice Ak (Poly.lvl a k2).len cp, .int .i64 (k2 : Int)] 56)).kept hgrow (fun e => by have := (hown1.lt bm e.symm).1; omega) (fun e => by have := (hown1.lt _ e.symm).1; omega)
              have hs3 := hgrow.size
              have hs4 : w10.heap.size ≤ (w10.alloc (.cells #[.slice Ak (Poly.lvl a k2).len cp, .int .i64 (k2 : Int)] 56)).heap.size := by simp
              have hsz3 : wo.heap.size + 1 ≤ w3.heap.size := by omega
              have hrg4 := Lib.hid hrg3
              clear hgrow hat hown1 hrg1 hs3 hs4 hrg3
              go_wp2_with fail
              go_roundw
              case rel => exact ⟨_, _, L ++ [((Ak, cp), k2)], hrg4.out, by rw [pcells_snoc, List.length_append]; exact hown3, HG1, hb3, hsz3, by rw [List.length_append, List.length_singleton]; omega⟩
              case measure => rw [hrg4.out.left_eq, hm0]; omega
  · intro hpass
    go_wp2_with fail
    refine C.out.mono ?_
    rintro e w1 ⟨A1, c1, rfl, l1, h1, hb1⟩
    have hr := hmm 74
    clear hmm
    have hs1 := hb1.size
    go_wp2_with fail
    rename_i Kx hKx
    go_step3
    refine hKx _ _ ?_
    refine hpass _ _ ?_
    have hml := Poly.monic_len h0
    have hl1 := Poly.len_pos h0
    exact (⟨1, a.monic, A1, c1, .map [], 0, w1.heap.size, ex_u rfl ⟨h1.alloc _, Poly.SqOut.start h0, World.ownsMap_made _ _ _ _, Found.start _ _ (fun k hk => Done.start hk), by omega, by omega, by omega, hs1, hb1.alloc hs1 _⟩⟩)
end Go.Proofs.YtpikakapflebkaaGreat

namespace Go.Proofs.YtpikakapflebkaaGreat
open Go.RowKit Cl
attribute [local go_sem ↓] Go.wp_at_zero Go.wp_at_succ

theorem sparts_no (A : Option Addr) (n c : Nat) (p : Int) (w : World) (h3 : -9223372036854775808 ≤ p) (h4 : p ≤ 9223372036854775807) (hp : isPrime p = false) :
    Calls Tryz.prog 28 #[.slice A n c, .int .i64 p] w fun e w' => e = .returned (.tuple #[.slice none 0 0, .int .i64 1]) ∧ w = w' := by
  go_enter Tryz.func28, Tryz.ntmps28
  go_wp2
  refine scope_jumps 0 (fun _ _ => False) (fun _ _ => 0) rfl (fun _ _ h => h.elim) ?_
  intro _
  go_wp2_with fail
  refine (smonic_no _ _ _ _ _ h3 h4 hp).mono ?_
  rintro e w' ⟨rfl, rfl⟩
  go_wp2_with fail
  dsimp only [Exit.jump]
  go_ret2
  exact ⟨rfl, rfl⟩
section
variable {A : Option Addr} {n c N : Nat} {p : Int} {w : World} {hp : Pr p} {a : Poly (Zp ⟨p, hp⟩)}
theorem sparts0R (ha : Rd w A n a) (hn : n ≤ N) (hN : N ≤ 900000000) (h0 : a = 0) :
    Calls Tryz.prog 28 #[.slice A n c, .int .i64 p] w fun e w' => e = .returned (.tuple #[.slice none 0 0, .int .i64 8]) ∧ Below w.heap.size w w' := by
  have C := Lib.hid (smonic0R (c := c) ha hn hN h0)
  clear ha h0
  go_enter Tryz.func28, Tryz.ntmps28
  go_wp2
  refine scope_jumps 0 (fun _ _ => False) (fun _ _ => 0) rfl (fun _ _ h => h.elim) ?_
  intro _
  go_wp2_with fail
  refine C.out.mono ?_
  rintro e w1 ⟨rfl, hb1⟩
  go_wp2_with fail
  dsimp only [Exit.jump]
  go_ret2
  exact ⟨rfl, hb1⟩
theorem spartsR (ha : Rd w A n a) (hn : n ≤ N) (hN : N ≤ 100000000) (h0 : a ≠ 0) :
    Calls Tryz.prog 28 #[.slice A n c, .int .i64 p] w (GivesPrs w (Poly.partsL a) 0) := by
  obtain ⟨xs, hx, rfl⟩ := ha
  exact sparts_yes A n c xs p w hp hx (by omega) h0
end
end Go.Proofs.YtpikakapflebkaaGreat
