/- Contracts: the document's layer 8: Parts. -/
import Derived.Test.YtbcapmnklgdeoaaQsfC
namespace Go.Proofs.Ytbcapmnklgdeoaa
open Go.RowKit Cl
attribute [local go_sem ↓] Go.wp_at_zero Go.wp_at_succ

theorem part8_info : (Try.prog.info? 47).map (fun i => (i.zero, i.size, i.bytes)) = some (some (.agg #[.slice none 0 0, .int .i64 0]), 2, 32) := by kernel_rfl
theorem qparts_no (A : Option Addr) (n c : Nat) (p : Int) (w : World) (h3 : -9223372036854775808 ≤ p) (h4 : p ≤ 9223372036854775807) (hp : isPrime p = false) :
    Calls Try.prog 14 #[.slice A n c, .int .i64 p] w fun e w' => e = .returned (.tuple #[.slice none 0 0, .int .i64 1]) ∧ w = w' := by
  go_enter Try.func14, Try.ntmps14
  go_wp2_with fail
  refine (qwrong_no _ _ _ _ _ h3 h4 hp).mono ?_
  rintro e w' ⟨rfl, rfl⟩
  go_wp2_with fail
  go_ret2
  exact ⟨rfl, rfl⟩
section
variable {A : Option Addr} {n c N : Nat} {p : Int} {w : World} {hp : Pr p} {a : Poly (Zp ⟨p, hp⟩)}
theorem qparts0R (ha : Rd w A n a) (hn : n ≤ N) (hN : N ≤ 90000000) (h0 : a = 0) : Calls Try.prog 14 #[.slice A n c, .int .i64 p] w fun e w' => e = .returned (.tuple #[.slice none 0 0, .int .i64 8]) ∧ Below w.heap.size w w' := by
  have C := Lib.hid (qwrong0R (c := c) ha hn (by omega) h0)
  clear ha h0
  go_enter Try.func14, Try.ntmps14
  go_wp2_with fail
  refine C.out.mono ?_
  rintro e w1 ⟨rfl, hb1⟩
  go_wp2_with fail
  go_ret2
  exact ⟨rfl, hb1⟩
set_option maxRecDepth 100000 in
set_option maxHeartbeats 8000000 in
theorem qpartsR (ha : Rd w A n a) (hn : n ≤ N) (hN : N ≤ 90000000) (h0 : a ≠ 0) : Calls Try.prog 14 #[.slice A n c, .int .i64 p] w (GivesPrs w (Poly.partsL a) 0) := by
  obtain ⟨i0, hi, hz0, hz1, hz2⟩ := info_parts part8_info
  have C := Lib.hid (qwrongR (c := c) ha hn (by omega) h0)
  have Ha := Lib.hid ha
  have han : a.len ≤ N := by obtain ⟨xs, hx, rfl⟩ := ha; exact Nat.le_trans (len_le_toP hx.len) hn
  have hml := Lib.hid (Poly.monic_len h0)
  have hlv := Lib.hid (Poly.Lv.start h0)
  clear ha
  go_enter Try.func14, Try.ntmps14
  go_wp2_with fail
  refine C.out.mono ?_
  rintro e w1 ⟨rfl, hb1⟩
  have Ha1 : Hid (Rd w1 A n a) := by obtain ⟨xs, hx, e⟩ := Ha.out; exact ⟨xs, hx.bel hb1, e⟩
  clear Ha C
  go_wp2_with fail
  refine (qmonicR (hp := hp) Ha1.out hn (by omega)).mono ?_
  rintro e w2 ⟨A2, c2, rfl, l2, h2, hb2⟩
  have H2 := Lib.hid h2
  have hbel0 := below_tr hb1 hb2
  clear h2 hb1 hb2 Ha1
  go_wp2_with fail
  go_loopg [7, 8, 10] (a.len + 1) (fun gk v7 v8 v10 wr => ∃ (l : Poly (Zp ⟨p, hp⟩)) (Al : Option Addr) (cl nn : Nat) (L : List Ent), l.len < gk ∧ v8 = .slice Al l.len cl ∧ v10 = .int .i64 (nn : Int) ∧ 1 ≤ nn ∧ nn + l.len ≤ a.len + 1 ∧ L.length < nn ∧ Hid (Poly.Lv a nn l) ∧ Hid (Ints wr Al l.len (fromP l)) ∧ wr.ownsRow w.heap.size 47 2 v7 L.length (pcells (fun k => (Poly.lvl a k).len) L) ∧ Hid (L.map (·.2) = Poly.lvlsTo a nn) ∧ Hid (Ents wr a v7 L) ∧ (∀ y, Al = some y → v7.ownBlock ≠ some y.block) ∧ Hid (Below w.heap.size w wr))
  case atStart => exact ⟨_, A2, c2, 1, [], by rw [hml.out]; omega, rfl, rfl, Nat.le_refl _, by rw [hml.out]; omega, Nat.one_pos, hlv, H2, World.ownsRow_nil _ _ _ _, (Poly.lvlsTo_one a).symm, (fun x hx => by cases hx), (fun y _ e => by cases e), hbel0⟩
  case round =>
    obtain ⟨l, Al, cl, nn, L, hgk, rfl, rfl, hnn, hln, hLn, hl, hAl, hown, hLk, hE, hsep, hbel⟩ := hrel
    clear hlv H2 hbel0 l2
    by_cases hg : 1 < l.len
    · obtain ⟨hs1, hs2, hs3⟩ := hl.out.step hnn h0 hg
      have Hs1 := Lib.hid hs1
      have Hs3 := Lib.hid hs3
      have hg' : (1 : Int) < (l.len : Int) := by omega
      have hrm := Lib.hid (Poly.rad_mon hl.out.mon.ne)
      have hrm2 := Lib.hid (Poly.rad_mon hs1.mon.ne)
      clear hs1 hs3
      go_wp2_with fail
      refine (qradicalR (hp := hp) (N := N) (Rd.of hAl.out) (by omega) hN hl.out.mon.ne).mono ?_
      rintro e w3 ⟨A3, c3, rfl, l3, h3, hb3⟩
      have H3 := Lib.hid h3
      have hAl3 := Lib.hid (hAl.out.bel hb3)
      have hown3 := own_bel hown hb3
      have hE3 := Lib.hid (hE.out.bel hb3)
      have hbel3 := Lib.hid (below_tr hbel.out hb3)
      clear h3 hb3 hAl hown hE hbel hsep
      go_wp2_with fail
      refine (qbyAt (hp := hp) (N := N) (M := N) (Rd.of hAl3.out) (Rd.of H3.out) (by omega) l3 (by omega) (by omega) hrm.out.ne).mono ?_
      rintro e w4 ⟨A4, c4, rfl, l4, h4, hb4, hloc4⟩
      have H4 := Lib.hid h4
      have H34 := Lib.hid (H3.out.bel hb4)
      have hsep4 : ∀ y, A4 = some y → u7.ownBlock ≠ some y.block := fun y hy e => by have h1 := (hown3.lt _ e).2; have h2 := hloc4 y hy; omega
      have hown4 := own_bel hown3 hb4
      have hE4 := Lib.hid (hE3.out.bel hb4)
      have hbel4 := Lib.hid (below_tr hbel3.out hb4)
      clear h4 hb4 hAl3 hown3 hE3 hbel3 H3 hloc4
      go_wp2_with fail
      refine (qradicalR (hp := hp) (N := N) (Rd.of H4.out) (by omega) hN Hs1.out.mon.ne).mono ?_
      rintro e w5 ⟨A5, c5, rfl, l5, h5, hb5⟩
      have H5 := Lib.hid h5
      have H45 := Lib.hid (H4.out.bel hb5)
      have H35 := Lib.hid (H34.out.bel hb5)
      have hown5 := own_bel hown4 hb5
      have hE5 := Lib.hid (hE4.out.bel hb5)
      have hbel5 := Lib.hid (below_tr hbel4.out hb5)
      clear h5 hb5 hown4 hE4 hbel4 H4 H34
      go_wp2_with fail
      refine (qbyAt (hp := hp) (N := N) (M := N) (Rd.of H35.out) (Rd.of H5.out) l3 l5 (by omega) (by omega) hrm2.out.ne).mono ?_
      rintro e w6 ⟨A6, c6, rfl, l6, h6, hb6, hloc6⟩
      rw [Hs3.out] at h6 l6 ⊢
      have H6 := Lib.hid h6
      have H46 := Lib.hid (H45.out.bel hb6)
      have hsep6 : ∀ y, A6 = some y → u7.ownBlock ≠ some y.block := fun y hy e => by have h1 := (hown5.lt _ e).2; have h2 := hloc6 y hy; omega
      have hown6 := own_bel hown5 hb6
      have hE6 := Lib.hid (hE5.out.bel hb6)
      have hbel6 := Lib.hid (below_tr hbel5.out hb6)
      have hsz6 := hbel6.out.size
      clear h6 hb6 hown5 hE5 hbel5 H5 H45 H35 hloc6 Hs3
      by_cases hone : Poly.lvl a nn = 1
      · have ho1 : ¬ (1 : Int) < ((Poly.lvl a nn).len : Int) := by rw [hone, Poly.len_one]; decide
        have hLk2 : Hid (L.map (·.2) = Poly.lvlsTo a (nn + 1)) := by show _ = _; rw [Poly.lvlsTo_no hone]; exact hLk.out
        clear hone
        go_wp2_with fail
        go_roundg l.len
        case measure => omega
        case rel => exact ⟨_, A4, c4, nn + 1, L, hs2, rfl, by go_num, by omega, by omega, by omega, Hs1, H46, hown6, hLk2, hE6, hsep4, hbel6⟩
      · have hgt : 1 < (Poly.lvl a nn).len := (Poly.lvl_mon h0 nn).len_gt.2 hone
        have ho1 : (1 : Int) < ((Poly.lvl a nn).len : Int) := by omega
        have hLk2 : Hid ((L ++ [((A6, c6), nn)]).map (·.2) = Poly.lvlsTo a (nn + 1)) := by show _ = _; rw [Poly.lvlsTo_yes hnn hone, List.map_append, hLk.out]; rfl
        clear hone
        go_wp2_with (at_builtin; go_must (refine wpList_append_lies _ (by rfl) _ _ _ (by rfl) w.heap.size 47 i0 _ 2 32 Try.underlying36 hi hz0 hz1 hz2 rfl (by omega) u7 L.length (pcells (fun k => (Poly.lvl a k).len) L) (by rfl) (hown6.alloc _) ⟨w6.heap.size, 0, none⟩ 1 1 [.slice A6 (Poly.lvl a nn).len c6, .int .i64 (nn : Int)] (by rfl) (by rfl) (World.news_of_block (cs := #[.slice A6 (Poly.lvl a nn).len c6, .int .i64 (nn : Int)]) (t := 47) (fr := (0, 0)) (heap_alloc_new w6 _)) (by simp [Value.oneCell']) (by omega) (by unfold maxLen; omega) (by omega) (by simp; omega) (w6.heap.size + 1) (by simp) ?_); intro gg cap w7 hown7 hgrow hat hlt7)
        have hb7 := below_app' hbel6.out hown6 hgrow hsz6
        have hE7 := Lib.hid (hE6.out.app (n := L.length + 1) (c := cap) (x := ((A6, c6), nn)) hgrow hat (by simp) (Nat.lt_trans Nat.zero_lt_one hgt) H6.out hsep6)
        have H47 : Hid (Ints w7 A4 (Poly.quo l (Poly.rad l)).len (fromP (Poly.quo l (Poly.rad l)))) := (H46.out.alloc _).grown hgrow (fun _ y hy e => hsep4 y hy e)
        have hsep7 : ∀ y, A4 = some y → (Value.slice (some ⟨gg, 0, none⟩) (L.length + 1) cap).ownBlock ≠ some y.block := fun y hy e => by
          have e' : gg = y.block := by injection e
          rcases hat with h4 | h4
          · exact hsep4 y hy (by rw [h4, e'])
          · have hq1 : 0 < (Poly.quo l (Poly.rad l)).len := Poly.len_pos Hs1.out.mon.ne
            have := H46.out.blk_lt hq1 y hy
            omega
        clear hgrow hat hown6 hE6 H46
        go_wp2_with fail
        go_roundg l.len
        case measure => omega
        case rel => exact ⟨_, A4, c4, nn + 1, L ++ [((A6, c6), nn)], hs2, rfl, by go_num, by omega, by omega, by rw [List.length_append, List.length_singleton]; omega, Hs1, H47, by rw [pcells_snoc, List.length_append]; exact hown7, hLk2, hE7, hsep7, hb7⟩
    · have hg' : ¬ (1 : Int) < (l.len : Int) := by omega
      have hall : L.map (·.2) = Poly.lvls a := by rw [hLk.out]; exact hl.out.done h0 hnn hg
      obtain ⟨A9, c9, e9, hprs⟩ := hE.out.prs hown hall
      have E9 := Lib.hid e9
      have Hprs := Lib.hid hprs
      clear hown hE hLk hall e9 hprs hsep hAl
      rw [E9.out]
      go_wp2_with fail
      go_ret2
      exact ⟨A9, c9, rfl, Hprs.out, hbel.out⟩
end
end Go.Proofs.Ytbcapmnklgdeoaa
