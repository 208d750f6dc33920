/- Contract: polynomials under headers, sorted: the library's sort with the program's order.
   Contracts: a squarefree polynomial's factors in order; is a polynomial irreducible? The program's. -/
import Derived.Test.YtpikakapflebkaaGreatFfacD
import Derived.Test.YtpikakapflebkaaGreatSortRows
import Derived.Test.YtpikakapflebkaaGreatFfacE
import Derived.Test.YtpikakapflebkaaGreatQsfAll
namespace Go.Proofs.YtpikakapflebkaaGreat
open Go.RowKit Cl
attribute [local go_sem ↓] Go.wp_at_zero Go.wp_at_succ

theorem _root_.Cl.Ints.only {w w' : World} {S : Nat → Prop} {A : Option Addr} {n : Nat} {xs : List Int} (h : Ints w A n xs) (ho : Only S w w') (hA : ∀ y, A = some y → ¬ S y.block) : Ints w' A n xs :=
  ⟨h.len, fun hn => by
    obtain ⟨b, o, e, hb, hc⟩ := h.at_ hn
    refine ⟨b, o, e, Nat.lt_of_lt_of_le hb ho.size, fun i hi => ?_⟩
    rw [ho.cell (p := ⟨b, o + i, none⟩) hb (hA ⟨b, o, none⟩ e)]
    exact hc i hi, h.ok⟩
theorem only_world {α : Type} [Inhabited α] (enc : α → Value) (k : Nat) (w : World) (blk off m : Nat) (dk : Array α) (os : Array Obj) : Only (fun j => j = blk) w (sortWorld enc w blk off m dk os) := by
  unfold sortWorld Sort.grow Sort.putRow Sort.mapBlock Sort.ahead
  refine ⟨rfl, rfl, rfl, by simp, fun j hj hne => ?_⟩
  have h1 : j < (w.heap.modify blk (Sort.onCells (Sort.putCells enc off dk))).size := by simpa using hj
  show (w.heap.modify blk (Sort.onCells (Sort.putCells enc off dk)) ++ os)[j]? = _
  rw [Array.getElem?_append_left h1, Array.getElem?_modify, if_neg (fun e => hne e.symm)]
section
variable {q : Prm}
abbrev lstOf (L : List (EntP q)) : Type := {x : EntP q // x ∈ L}
noncomputable def cmpE {L : List (EntP q)} (x y : lstOf L) : Int := cmpI (fromP x.1.2) (fromP y.1.2)
theorem swoE {L : List (EntP q)} : Sort.SWO (ltOf (cmpE (L := L))) where
  irrefl x := by unfold ltOf cmpE; rw [cmpI_self]; rfl
  trans x y z h1 h2 := by
    unfold ltOf cmpE at *
    exact decide_eq_true (cmpI_trans (of_decide_eq_true h1) (of_decide_eq_true h2))
  ntrans x y z h1 h2 := by
    unfold ltOf cmpE at *
    exact decide_eq_false (cmpI_ntrans (of_decide_eq_false h1) (of_decide_eq_false h2))
/-- The list's members, each with its membership. -/
def attachA (L : List (EntP q)) : Array (lstOf L) := (L.attach).toArray
theorem attachA_size (L : List (EntP q)) : (attachA L).size = L.length := by simp [attachA, lstOf]
theorem attachA_get (L : List (EntP q)) [Inhabited (lstOf L)] {i : Nat} (h : i < L.length) : ((attachA L)[i]!).1 = L[i] := by
  rw [getElem!_pos _ i (by rw [attachA_size]; exact h)]
  unfold attachA
  simp
set_option maxHeartbeats 2000000 in
theorem fsort_rows (w : World) (base g cap : Nat) (L : List (EntP q)) (hp : Pls w base (.slice (some ⟨g, 0, none⟩) L.length cap) L) (h0 : 0 < L.length) (hL : L.length < 1000000000) (hlen : ∀ x ∈ L, x.2.len ≤ 1000000000) :
    Calls Tryz.prog 40 #[.slice (some ⟨g, 0, none⟩) L.length cap, .func (.func 31) #[] #[]] w fun e w' => e = .returned (.tuple #[]) ∧ ∃ L' : List (EntP q), L'.Perm L ∧ L'.Pairwise (fun x y => ¬ Poly.Bef y.2 x.2) ∧
      (∀ i (h : i < L'.length), w'.cell? ⟨g, i, none⟩ = some (.slice (L'[i]).1.1 (L'[i]).2.len (L'[i]).1.2)) ∧ Only (fun j => j = g) w w' := by
  have hinh : Inhabited (lstOf L) := ⟨⟨L[0], List.getElem_mem h0⟩⟩
  obtain ⟨_, _, hv, _, hgl, _, _⟩ := hp.form h0
  have hg' : g < w.heap.size := (hp.own.lt g rfl).2
  have hH : Sort.Holds (fun x : lstOf L => ecell x.1) w g 0 (attachA L) := by
    intro j hj
    rw [attachA_size] at hj
    have e1 := attachA_get L hj
    rw [Nat.zero_add]
    refine ⟨?_, hp.frozen rfl j⟩
    show _ = some (ecell ((attachA L)[j]!).1)
    rw [e1]
    exact hp.cell rfl hj
  have eg : ∀ args w, (callFunc 31 args).run Tryz.prog w = .ok (.enter 31 args) w := enters_of Tryz.func31 (by kernel_rfl) rfl
  have hcmp : CmpLays1 Tryz.prog 31 #[] (fun x : lstOf L => ecell x.1) cmpE g 0 (attachA L).size w := fun m os dk hs x y => by
    have ho := only_world (fun x : lstOf L => ecell x.1) 0 w g 0 m dk os
    obtain ⟨hx1, hx2, hx3⟩ := hp.rd x.1 x.2
    obtain ⟨hy1, hy2, hy3⟩ := hp.rd y.1 y.2
    have l1 := hlen x.1 x.2
    have l2 := hlen y.1 y.2
    have hxo := hx2.only ho (fun a ha e => hx3 a ha (by show some g = some a.block; rw [e]))
    have hyo := hy2.only ho (fun a ha e => hy3 a ha (by show some g = some a.block; rw [e]))
    refine (fcmp_any x.1.1.1 y.1.1.1 x.1.2.len y.1.2.len x.1.1.2 y.1.1.2 _ _ _ hxo hyo (by omega) (by omega)).mono ?_
    rintro e w' ⟨rfl, k, rfl⟩
    exact ⟨rfl, k, #[], by rw [Sort.grow_empty]⟩
  have hcon := Any.slices_SortFunc sortRows (fun x : lstOf L => ecell x.1) (fun x => rfl) cmpE swoE 31 #[] g 0 cap (attachA L) w eg hcmp hH hg' (by rw [attachA_size]; omega)
  rw [attachA_size] at hcon
  refine hcon.mono ?_
  rintro e w' ⟨rfl, d', n, os, hpm, hs, rfl⟩
  have hsz : d'.size = L.length := by rw [hpm.1, attachA_size]
  have hH' := (SW.holds (enc := fun x : lstOf L => ecell x.1) ⟨n, os, rfl⟩ hg' hH (by rw [hsz, attachA_size]) : Sort.Holds _ _ g 0 d')
  refine ⟨rfl, d'.toList.map (·.1), ?_, ?_, fun i hi => ?_, only_world _ 0 _ _ _ _ _ _⟩
  · have h1 := hpm.2.2
    rw [Array.extract_eq_self_of_le (by rw [hsz]; omega), Array.extract_eq_self_of_le (by rw [attachA_size]; omega)] at h1
    have h2 := h1.map (fun x : lstOf L => x.1)
    have h3 : (attachA L).toList.map (fun x : lstOf L => x.1) = L := by
      unfold attachA
      rw [List.toList_toArray]
      exact List.attach_map_subtype_val L
    rwa [h3] at h2
  · rw [List.pairwise_map, List.pairwise_iff_getElem]
    intro i j hi hj hij
    have h1 := hs i j (Nat.zero_le _) hij (by rw [← hsz]; simpa using hj)
    rw [getElem!_pos _ i (by simpa using hi), getElem!_pos _ j (by simpa using hj)] at h1
    unfold ltOf cmpE at h1
    have h2 := of_decide_eq_false h1
    exact h2
  · have hi' : i < d'.size := by simpa using hi
    have c0 := (hH' i hi').1
    rw [getElem!_pos d' i hi', Nat.zero_add] at c0
    have e1 : (d'.toList.map (·.1))[i] = (d'[i]).1 := by simp
    rw [e1]
    exact c0
end
end Go.Proofs.YtpikakapflebkaaGreat

namespace Go.Proofs.YtpikakapflebkaaGreat
open Go.RowKit Cl
attribute [local go_sem ↓] Go.wp_at_zero Go.wp_at_succ

section
variable {q : Prm}
theorem spl_of {m : Poly (Zp q)} {L L' : List (EntP q)} (hm : m ≠ 0) (hinv : Poly.PInv m (L.map (·.2))) (hperm : L'.Perm L) (hirr : ∀ x ∈ L, x.2.Irr) (hs : ∀ f : Poly (Zp q), f.Irr → Poly.val f m ≤ 1)
    (hsort : L'.Pairwise (fun x y => ¬ Poly.Bef y.2 x.2)) : Poly.IsSpl m (L'.map (·.2)) := by
  have hpm : (L'.map (·.2)).Perm (L.map (·.2)) := hperm.map _
  have hinv' : Poly.PInv m (L'.map (·.2)) := ⟨fun x hx => hinv.mon x (hpm.mem_iff.1 hx), fun x hx => hinv.len x (hpm.mem_iff.1 hx), fun f hf => by rw [Poly.tot_perm f hpm]; exact hinv.all f hf⟩
  have hirr' : ∀ x ∈ L'.map (·.2), x.Irr := fun x hx => by
    obtain ⟨y, hy, rfl⟩ := List.mem_map.1 hx
    exact hirr y (hperm.mem_iff.1 hy)
  refine ⟨?_, hinv'.mem hm hirr'⟩
  have h1 := hinv'.nodup hirr' hs
  rw [List.pairwise_map] at h1 ⊢
  refine (List.Pairwise.and hsort h1).imp ?_
  rintro x y ⟨h2, h3⟩
  rcases Poly.Bef.tri x.2 y.2 with h4 | h4 | h4
  · exact h4
  · exact absurd h4 h3
  · exact absurd h4 h2
theorem spl_monic {a : Poly (Zp q)} (h0 : a ≠ 0) {ls : List (Poly (Zp q))} (h : Poly.IsSpl a.monic ls) : Poly.IsSpl a ls :=
  ⟨h.ord, fun f => (h.mem f).trans ⟨fun ⟨h1, h2⟩ => ⟨h1, (h1.dvd_val h0).2 (by rw [← h1.val_monic h0]; exact (h1.dvd_val (Poly.monic_mon h0).ne).1 h2)⟩, fun ⟨h1, h2⟩ => ⟨h1, Poly.dvd_monic h2⟩⟩⟩
theorem spl_one {a : Poly (Zp q)} (h : a.len = 1) : Poly.IsSpl a [] := by
  refine ⟨List.Pairwise.nil, fun f => ⟨fun h => (by cases h), fun ⟨h1, h2⟩ => ?_⟩⟩
  have h3 := Poly.len_le_of_dvd h2 (fun e => by rw [e, Poly.len_zero] at h; omega)
  have := h1.len
  omega
/-- Polynomials under headers, all of it in blocks from B0 on. -/
structure PolF (B0 : Nat) (w : World) (A : Option Addr) (n : Nat) (ls : List (Poly (Zp q))) : Prop where
  len : ls.length = n
  at_ : 0 < n → ∃ b o, A = some ⟨b, o, none⟩ ∧ B0 ≤ b ∧ b < w.heap.size ∧ ∀ i (h : i < ls.length), ∃ Ai ci, w.cell? ⟨b, o + i, none⟩ = some (.slice Ai (ls[i]).len ci) ∧ Ints w Ai (ls[i]).len (fromP (ls[i])) ∧ ∀ y, Ai = some y → B0 ≤ y.block
theorem PolF.pol {B0 : Nat} {w : World} {A : Option Addr} {n : Nat} {ls : List (Poly (Zp q))} (h : PolF B0 w A n ls) : Pol w A n ls :=
  ⟨h.len, fun hn => by
    obtain ⟨b, o, e, _, hb, hc⟩ := h.at_ hn
    exact ⟨b, o, e, hb, fun i hi => by
      obtain ⟨Ai, ci, h1, h2, _⟩ := hc i hi
      exact ⟨Ai, ci, h1, h2⟩⟩⟩
theorem pol_sorted {B0 : Nat} {w3 w4 : World} {base g cap : Nat} {L L' : List (EntP q)} (h : Pls w3 base (.slice (some ⟨g, 0, none⟩) L.length cap) L) (hperm : L'.Perm L)
    (hc : ∀ i (h : i < L'.length), w4.cell? ⟨g, i, none⟩ = some (.slice (L'[i]).1.1 (L'[i]).2.len (L'[i]).1.2)) (ho : Only (fun j => j = g) w3 w4) (hgB : B0 ≤ g) (hf : ∀ x ∈ L, ∀ y, x.1.1 = some y → B0 ≤ y.block) : PolF B0 w4 (some ⟨g, 0, none⟩) L.length (L'.map (·.2)) := by
  refine ⟨by rw [List.length_map, hperm.length_eq], fun h0 => ⟨g, 0, rfl, hgB, Nat.lt_of_lt_of_le (h.own.lt g rfl).2 ho.size, fun i hi => ?_⟩⟩
  have hi' : i < L'.length := by simpa using hi
  have e : (L'.map (·.2))[i] = (L'[i]).2 := by simp
  rw [e, Nat.zero_add]
  obtain ⟨h1, h2, h3⟩ := h.rd _ (hperm.mem_iff.1 (List.getElem_mem hi'))
  exact ⟨_, _, hc i hi', h2.only ho (fun y hy e => h3 y hy (by show some g = some y.block; rw [e])), hf _ (hperm.mem_iff.1 (List.getElem_mem hi'))⟩
/-- A call that hands back a squarefree polynomial's factors. -/
def GivesSpl (w : World) (a : Poly (Zp q)) (e : Ending) (w' : World) : Prop :=
  ∃ A n c ls, e = .returned (.tuple #[.slice A n c, .int .i64 0]) ∧ PolF w.heap.size w' A n ls ∧ Poly.IsSpl a ls ∧ Below w.heap.size w w' ∧ n ≤ 64
end
section
variable {A D : Option Addr} {n c nd cD : Nat} {p : Int} {w : World} {hp : Pr p} {a : Poly (Zp ⟨p, hp⟩)}
theorem sq_val (h0 : a ≠ 0) (h : sqB a = true) (f : Poly (Zp ⟨p, hp⟩)) (hf : f.Irr) : Poly.val f a.monic ≤ 1 := by
  have hm := Poly.monic_mon h0
  unfold sqB at h
  have h1 : (Poly.gcdP a.monic a.monic.D).len = 1 := by have := beq_iff_eq.1 h; omega
  rw [(sq_iff hm).1 h1, Poly.val_rad hm.ne hf]
  split <;> omega
theorem _root_.Cl.Ints.take {xs : List Int} (h : Ints w A n xs) {k : Nat} (hk : k ≤ n) : Ints w A k (xs.take k) :=
  ⟨by rw [List.length_take, h.len]; omega, fun h0 => by
    obtain ⟨b, o, e, hb, hc⟩ := h.at_ (by omega)
    refine ⟨b, o, e, hb, fun i hi => ?_⟩
    rw [hc i (by omega)]
    congr 2
    unfold nth
    simp [List.getD, List.getElem?_take, hi], fun i => by
    by_cases hi : i < k
    · have e : nth (xs.take k) i = nth xs i := by unfold nth; simp [List.getD, List.getElem?_take, hi]
      rw [e]; exact h.ok i
    · rw [nth_ge (by rw [List.length_take]; omega)]; exact I64.zero⟩
/-- The same as square, in a new block. -/
theorem fmonicAt (ha : Rd w A n a) (hn : n * 8 ≤ 140737488355328) (h0 : a ≠ 0) (hl : a.len ≤ 65) :
    Calls Tryz.prog 27 #[.slice A n c, .int .i64 p] w fun e w' => ∃ A1 c1, e = .returned (.tuple #[.slice A1 a.monic.len c1, .int .i64 0]) ∧ a.monic.len ≤ 65 ∧ Ints w' A1 a.monic.len (fromP a.monic) ∧ Below w.heap.size w w' ∧ ∀ y, A1 = some y → w.heap.size ≤ y.block := by
  have C : Hid (Calls Tryz.prog 53 #[.slice A n c, .int .i64 p] w (GivesPE w a.monic 0)) := by
    obtain ⟨xs, hx, rfl⟩ := ha
    exact pmonic_yes A n c xs p w hp hx (by omega)
  have hml := Poly.monic_len h0
  have g0 : ((a.monic.len : Int) == 0) = false := beq_eq_false_iff_ne.2 (by have := Poly.len_pos h0; omega)
  have g1 : ¬ (65 : Int) < (a.monic.len : Int) := by omega
  have Hl : Hid (a.monic.len ≤ 65) := by show _ ≤ _; omega
  clear ha h0 hml hl
  go_enter Tryz.func27, Tryz.ntmps27
  go_wp2_with fail
  refine C.out.mono ?_
  rintro e w1 ⟨A1, c1, rfl, hn1⟩
  go_wp2_with fail
  go_ret2
  exact ⟨_, _, rfl, Hl.out, hn1.rd, hn1.bel, hn1.fresh⟩
theorem fsquareAt (ha : Rd w A n a) (hn : n * 8 ≤ 140737488355328) (h0 : a ≠ 0) (hl : a.len ≤ 65) (hs : sqB a = true) :
    Calls Tryz.prog 38 #[.slice A n c, .int .i64 p] w fun e w' => ∃ A1 c1, e = .returned (.tuple #[.slice A1 a.monic.len c1, .int .i64 0]) ∧ a.monic.len ≤ 65 ∧ Ints w' A1 a.monic.len (fromP a.monic) ∧ Below w.heap.size w w' ∧ ∀ y, A1 = some y → w.heap.size ≤ y.block := by
  have C := Lib.hid (fmonicAt (c := c) ha hn h0 hl)
  have Hs : Hid (sqB a.monic = true) := by
    show _ = _
    rw [← hs]; unfold sqB
    rw [(Poly.monic_mon h0).monic_eq]
  have H0 : Hid (a.monic ≠ 0) := (Poly.monic_mon h0).ne
  clear ha h0 hl hs
  go_enter Tryz.func38, Tryz.ntmps38
  go_wp2_with fail
  refine C.out.mono ?_
  rintro e w1 ⟨A1, c1, rfl, l1, h1, hb1, hf1⟩
  have H1 := Lib.hid h1
  have Hf1 := Lib.hid hf1
  clear h1 hf1
  go_wp2_with fail
  refine (sisR (N := 65) (hp := hp) (Rd.of H1.out) l1 (by omega) H0.out).mono ?_
  rintro e w2 ⟨rfl, hb2⟩
  rw [Hs.out]
  go_wp2_with fail
  go_ret2
  exact ⟨_, _, rfl, l1, H1.out.bel hb2, below_tr hb1 hb2, Hf1.out⟩
set_option maxRecDepth 100000 in
set_option maxHeartbeats 8000000 in
theorem fsplitR {ds : List Int} (ha : Rd w A n a) (hn : n * 8 ≤ 140737488355328) (h0 : a ≠ 0) (hl : a.len ≤ 65) (hs : sqB a = true) (hd : Ints w D nd ds) (hdn : D = none → cD = 0) (hdc : nd ≤ cD) (hdm : cD ≤ 9223372036854775807) :
    Calls Tryz.prog 19 #[.slice A n c, .int .i64 p, .slice D nd cD] w (GivesSpl w a) := by
  have C := Lib.hid (fsquareAt (c := c) ha hn h0 hl hs)
  have hml := Poly.monic_len h0
  have hmp := Poly.len_pos h0
  have Hm := Lib.hid (Poly.monic_mon h0)
  have Hsq := Lib.hid (sq_val h0 hs)
  have Hsm : Hid (∀ ls, Poly.IsSpl a.monic ls → Poly.IsSpl a ls) := fun ls h => spl_monic h0 h
  have Hd := Lib.hid hd
  clear ha h0 hs hd
  by_cases h1 : a.len = 1
  · have g0 : ((a.monic.len : Int) == 1) = true := beq_iff_eq.2 (by omega)
    have Hsp : Hid (Poly.IsSpl a []) := spl_one h1
    clear h1 hml
    go_enter Tryz.func19, Tryz.ntmps19
    go_wp2_with fail
    refine C.out.mono ?_
    rintro e w1 ⟨A1, c1, rfl, l1, h1, hb1, hf1⟩
    clear hf1
    go_wp2_with fail
    go_ret2
    exact ⟨none, 0, 0, [], rfl, ⟨rfl, fun h => by omega⟩, Hsp.out, hb1, by omega⟩
  · have g0 : ((a.monic.len : Int) == 1) = false := beq_eq_false_iff_ne.2 (by omega)
    obtain ⟨t, ht⟩ : ∃ t, a.monic.len = t + 1 := ⟨a.monic.len - 1, by omega⟩
    have Ht := Lib.hid ht
    have ht1 : 1 ≤ t := by omega
    have ht2 : t ≤ 64 := by omega
    clear h1 hml ht hl hmp
    go_enter Tryz.func19, Tryz.ntmps19
    go_wp2_with fail
    refine C.out.mono ?_
    rintro e w1 ⟨A1, c1, rfl, l1, h1, hb1, hf1⟩
    have H1 := Lib.hid h1
    have Hb1 := Lib.hid hb1
    have Hf1 := Lib.hid hf1
    clear hf1
    have Hd1 := Lib.hid (Hd.out.bel hb1)
    clear h1 hb1 C Hd
    obtain ⟨nd', hnd', hndn, hmin⟩ : ∃ nd' : Nat, nd' ≤ 64 ∧ nd' ≤ nd ∧ min (nd : Int) 64 = (nd' : Int) := by
      by_cases h : nd ≤ 64
      · exact ⟨nd, h, Nat.le_refl _, by omega⟩
      · exact ⟨64, Nat.le_refl _, by omega, by omega⟩
    have Hd2 := Lib.hid (Hd1.out.take hndn)
    have Cf : Hid (∀ W, Below w1.heap.size w1 W → Calls Tryz.prog 37 #[.slice A1 a.monic.len c1, .int .i64 p] W (GivesBas W a.monic t)) := fun W hW => by
      rw [Ht.out]
      exact ffixed A1 t c1 p hp a.monic W (by have := H1.out.bel hW; rwa [Ht.out] at this) Hm.out Ht.out ht1 ht2
    have Cp : Hid (∀ W A2 d2 c2 rows2 cD', Below w1.heap.size w1 W → Mat W A2 d2 rows2 → (∃ col, Poly.Bas a.monic t d2 (fun c => toP ⟨p, hp⟩ (rAt rows2 c)) col) → (∀ i, (rAt rows2 i).length ≤ 64) → d2 ≤ 64 → d2 ≤ c2 → c2 ≤ 9223372036854775807 → Calls Tryz.prog 39 #[.slice A1 a.monic.len c1, .slice A2 d2 c2, .int .i64 p, .slice D nd' cD'] W (GivesPts w.heap.size W a.monic)) := fun W A2 d2 c2 rows2 cD' hW hm2 hb2 hs2 hd2 hdc2 hcm2 =>
      fparted A1 A2 D t d2 nd' c1 c2 cD' p hp a.monic rows2 _ W (H1.out.bel hW) Hm.out Ht.out ht1 ht2 hm2 hb2 hs2 hd2 hdc2 hcm2 Hsq.out (Hd2.out.bel hW) hnd' w.heap.size (by have := Hb1.out.size; have := hW.size; omega) Hf1.out
    have hdc' : (nd' : Int) ≤ (cD : Int) := by omega
    have hdc0 : (0 : Int) ≤ (nd' : Int) := by omega
    cases D with
    | none =>
      obtain rfl : cD = 0 := hdn rfl
      obtain rfl : nd = 0 := by omega
      obtain rfl : nd' = 0 := by omega
      have hm0 : min (0 : Int) 64 = 0 := by omega
      clear hmin hdc' hdc0 hdn hdc hndn
      go_wp2_with fail
      go_region_held3 (fun _ => True) (trivial)
        (first
          | (go_at_call 37; refine (Cf.out _ (by first | exact (Below.refl _ _).drew | exact Below.refl _ _)).mono ?_; rintro e w2 ⟨A2, d2, c2, rows2, rfl, hm2, hbas2, hsh2, hd64, hb2', hdc2, hcm2⟩; have hb2 : Below w1.heap.size w1 w2 := (Below.refl _ _).drew.trans hb2')
          | (go_at_call 39; refine (Cp.out _ _ _ _ _ _ hb2 hm2 hbas2 hsh2 hd64 hdc2 hcm2).mono ?_; rintro e w3 ⟨A3, c3, L3, rfl, hpl3, hinv3, hirr3, hb3', hl3, hfr3⟩))
      all_goals
        obtain ⟨g, cap, e3, hg1, hg2, hg3, hg4⟩ := hpl3.form (by have := hinv3.ne_nil (by have := Ht.out; omega); rwa [List.length_map] at this)
        simp only [Value.slice.injEq, true_and] at e3
        obtain ⟨rfl, rfl⟩ := e3
        have Hpl3 := Lib.hid hpl3
        have Hinv3 := Lib.hid hinv3
        have Hirr3 := Lib.hid hirr3
        have Hfr3 := Lib.hid hfr3
        have h03 : 0 < L3.length := by have := hinv3.ne_nil (by have := Ht.out; omega); rwa [List.length_map] at this
        have hl65 : Hid (∀ x ∈ L3, x.2.len ≤ 1000000000) := fun x hx => by have h1 := Poly.len_le_of_dvd (hinv3.dvd Hm.out.ne (List.mem_map.2 ⟨x, hx, rfl⟩)) Hm.out.ne; omega
        have Hb3 : Hid (Below w.heap.size w w3) := (Hb1.out.trans (hb2.mono Hb1.out.size)).trans (hb3'.mono (by have := hb2.size; have := Hb1.out.size; omega))
        have hwg : w.heap.size ≤ g := by have := hb2.size; have := Hb1.out.size; omega
        clear hpl3 hinv3 hirr3 hfr3 hb2 hb2' hb3' hm2 hbas2 hsh2 Cf Cp
        go_wp2_with fail
        refine (fsort_rows w3 _ g _ L3 Hpl3.out h03 (by omega) hl65.out).mono ?_
        rintro e w4 ⟨rfl, L4, hperm, hsort, hcells, honly⟩
        have Hsp : Hid (Poly.IsSpl a (L4.map (·.2))) := Hsm.out _ (spl_of Hm.out.ne Hinv3.out hperm Hirr3.out Hsq.out hsort)
        have Hpol : Hid (PolF w.heap.size w4 (some ⟨g, 0, none⟩) L3.length (L4.map (·.2))) := pol_sorted Hpl3.out hperm hcells honly hwg Hfr3.out
        have Hbel : Hid (Below w.heap.size w w4) := Hb3.out.trans (honly.below (by have := Hb3.out.size; omega) (fun k hk => by rw [hk]; exact hwg))
        clear hperm hsort hcells honly
        go_wp2_with fail
        go_ret2
        exact ⟨_, _, _, _, rfl, Hpol.out, Hsp.out, Hbel.out, hl3⟩
    | some ad =>
      go_wp2_with fail
      go_region_held3 (fun _ => True) (trivial)
        (first
          | (go_at_call 37; refine (Cf.out _ (by first | exact (Below.refl _ _).drew | exact Below.refl _ _)).mono ?_; rintro e w2 ⟨A2, d2, c2, rows2, rfl, hm2, hbas2, hsh2, hd64, hb2', hdc2, hcm2⟩; have hb2 : Below w1.heap.size w1 w2 := (Below.refl _ _).drew.trans hb2')
          | (go_at_call 39; refine (Cp.out _ _ _ _ _ _ hb2 hm2 hbas2 hsh2 hd64 hdc2 hcm2).mono ?_; rintro e w3 ⟨A3, c3, L3, rfl, hpl3, hinv3, hirr3, hb3', hl3, hfr3⟩))
      all_goals
        obtain ⟨g, cap, e3, hg1, hg2, hg3, hg4⟩ := hpl3.form (by have := hinv3.ne_nil (by have := Ht.out; omega); rwa [List.length_map] at this)
        simp only [Value.slice.injEq, true_and] at e3
        obtain ⟨rfl, rfl⟩ := e3
        have Hpl3 := Lib.hid hpl3
        have Hinv3 := Lib.hid hinv3
        have Hirr3 := Lib.hid hirr3
        have Hfr3 := Lib.hid hfr3
        have h03 : 0 < L3.length := by have := hinv3.ne_nil (by have := Ht.out; omega); rwa [List.length_map] at this
        have hl65 : Hid (∀ x ∈ L3, x.2.len ≤ 1000000000) := fun x hx => by have h1 := Poly.len_le_of_dvd (hinv3.dvd Hm.out.ne (List.mem_map.2 ⟨x, hx, rfl⟩)) Hm.out.ne; omega
        have Hb3 : Hid (Below w.heap.size w w3) := (Hb1.out.trans (hb2.mono Hb1.out.size)).trans (hb3'.mono (by have := hb2.size; have := Hb1.out.size; omega))
        have hwg : w.heap.size ≤ g := by have := hb2.size; have := Hb1.out.size; omega
        clear hpl3 hinv3 hirr3 hfr3 hb2 hb2' hb3' hm2 hbas2 hsh2 Cf Cp
        go_wp2_with fail
        refine (fsort_rows w3 _ g _ L3 Hpl3.out h03 (by omega) hl65.out).mono ?_
        rintro e w4 ⟨rfl, L4, hperm, hsort, hcells, honly⟩
        have Hsp : Hid (Poly.IsSpl a (L4.map (·.2))) := Hsm.out _ (spl_of Hm.out.ne Hinv3.out hperm Hirr3.out Hsq.out hsort)
        have Hpol : Hid (PolF w.heap.size w4 (some ⟨g, 0, none⟩) L3.length (L4.map (·.2))) := pol_sorted Hpl3.out hperm hcells honly hwg Hfr3.out
        have Hbel : Hid (Below w.heap.size w w4) := Hb3.out.trans (honly.below (by have := Hb3.out.size; omega) (fun k hk => by rw [hk]; exact hwg))
        clear hperm hsort hcells honly
        go_wp2_with fail
        go_ret2
        exact ⟨_, _, _, _, rfl, Hpol.out, Hsp.out, Hbel.out, hl3⟩
end
end Go.Proofs.YtpikakapflebkaaGreat
