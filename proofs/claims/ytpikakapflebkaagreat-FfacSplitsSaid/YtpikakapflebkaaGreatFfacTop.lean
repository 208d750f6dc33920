/- Words on memory: factors, each beside how often, two cells each; sorted by the program's order.
   Contract: a polynomial's factors, and how often: the program's.
   Contract: is a polynomial irreducible? The program's. -/
import Derived.Test.YtpikakapflebkaaGreatFfacMid
import Derived.Test.YtpikakapflebkaaGreatSortFac
import Derived.Test.YtpikakapflebkaaGreatPrsAll
import Derived.Test.YtpikakapflebkaaGreatSqfBase
import Derived.Test.YtpikakapflebkaaGreatLaw8Base
namespace Go.Proofs.YtpikakapflebkaaGreat
open Go.RowKit Cl
attribute [local go_sem ↓] Go.wp_at_zero Go.wp_at_succ

/-- Where a polynomial lies, the polynomial, a number. -/
abbrev EntQ (q : Prm) := (Option Addr × Nat) × (Poly (Zp q) × Nat)
section
variable {q : Prm}
noncomputable def fcell (x : EntQ q) : List Value := [.slice x.1.1 x.2.1.len x.1.2, .int .i64 (x.2.2 : Int)]
noncomputable def fcells (L : List (EntQ q)) : List Value := L.flatMap fcell
theorem fcells_length (L : List (EntQ q)) : (fcells L).length = L.length * 2 := by
  induction L with
  | nil => rfl
  | cons x L ih => unfold fcells at *; rw [List.flatMap_cons, List.length_append, ih]; show 2 + _ = _; rw [List.length_cons]; omega
theorem fcells_snoc (L : List (EntQ q)) (x : EntQ q) : fcells (L ++ [x]) = fcells L ++ fcell x := by simp [fcells, List.flatMap_append]
theorem fcells_get0 : ∀ {L : List (EntQ q)} {i : Nat} (h : i < L.length), (fcells L)[2 * i]? = some (.slice (L[i]).1.1 (L[i]).2.1.len (L[i]).1.2)
  | [], _, h => by simp at h
  | x :: L, 0, _ => rfl
  | x :: L, i + 1, h => by
    have := fcells_get0 (L := L) (i := i) (by simpa using h)
    show (fcell x ++ fcells L)[2 * (i + 1)]? = _
    rw [List.getElem?_append_right (by show 2 ≤ _; omega)]
    show (fcells L)[2 * (i + 1) - 2]? = _
    rw [show 2 * (i + 1) - 2 = 2 * i by omega, this]; rfl
theorem fcells_get1 : ∀ {L : List (EntQ q)} {i : Nat} (h : i < L.length), (fcells L)[2 * i + 1]? = some (.int .i64 ((L[i]).2.2 : Int))
  | [], _, h => by simp at h
  | x :: L, 0, _ => rfl
  | x :: L, i + 1, h => by
    have := fcells_get1 (L := L) (i := i) (by simpa using h)
    show (fcell x ++ fcells L)[2 * (i + 1) + 1]? = _
    rw [List.getElem?_append_right (by show 2 ≤ _; omega)]
    show (fcells L)[2 * (i + 1) + 1 - 2]? = _
    rw [show 2 * (i + 1) + 1 - 2 = 2 * i + 1 by omega, this]; rfl
theorem fcells_oneCell (L : List (EntQ q)) : ∀ u ∈ fcells L, u.oneCell' = true := by
  intro u hu
  simp only [fcells, List.mem_flatMap] at hu
  obtain ⟨x, _, hx⟩ := hu
  simp only [fcell, List.mem_cons, List.not_mem_nil, or_false] at hx
  rcases hx with rfl | rfl <;> rfl
/-- Factors in a row of the call's own: none lies in the row's block. -/
structure Fls (t : TypeId) (w : World) (base : Nat) (v : Value) (L : List (EntQ q)) : Prop where
  own : w.ownsRow base t 2 v L.length (fcells L)
  rd : ∀ x ∈ L, 0 < x.2.1.len ∧ Ints w x.1.1 x.2.1.len (fromP x.2.1) ∧ ∀ y, x.1.1 = some y → v.ownBlock ≠ some y.block
variable {t : TypeId} {w w' : World} {base : Nat} {v : Value} {L : List (EntQ q)}
theorem Fls.bel (h : Fls t w base v L) (hb : Below w.heap.size w w') : Fls t w' base v L :=
  ⟨own_bel h.own hb, fun x hx => ⟨(h.rd x hx).1, (h.rd x hx).2.1.bel hb, (h.rd x hx).2.2⟩⟩
theorem Fls.nil (t : TypeId) (w : World) (base : Nat) : Fls (q := q) t w base (.slice none 0 0) [] := ⟨World.ownsRow_nil _ _ _ _, fun x hx => by cases hx⟩
theorem Fls.form (h : Fls t w base v L) (hn : 0 < L.length) : ∃ g cap, v = .slice (some ⟨g, 0, none⟩) L.length cap ∧ base ≤ g ∧ g < w.heap.size := by
  rcases h.own.2 with ⟨hv, h0⟩ | ⟨g, cap, cur, hv, hg, hh, _⟩
  · omega
  · exact ⟨g, cap, hv, hg, (Array.getElem?_eq_some_iff.1 hh).1⟩
theorem Fls.slice (h : Fls t w base v L) : ∃ A cap, v = .slice A L.length cap := by
  rcases h.own.2 with ⟨hv, h0⟩ | ⟨g, cap, cur, hv, _⟩
  · exact ⟨none, 0, by rw [hv, h0]⟩
  · exact ⟨_, _, hv⟩
theorem Fls.cells {g n cap : Nat} (h : Fls t w base (.slice (some ⟨g, 0, none⟩) n cap) L) {i : Nat} (hi : i < L.length) : w.cell? ⟨g, 2 * i, none⟩ = some (.slice (L[i]).1.1 (L[i]).2.1.len (L[i]).1.2) ∧ w.cell? ⟨g, 2 * i + 1, none⟩ = some (.int .i64 ((L[i]).2.2 : Int)) := by
  have h0 := h.own.cells (g := g) rfl (2 * i) _ (fcells_get0 hi)
  have h1 := h.own.cells (g := g) rfl (2 * i + 1) _ (fcells_get1 hi)
  rw [Go.WideShapes.add_plain, Nat.zero_add] at h0 h1
  exact ⟨h0, h1⟩
theorem Fls.frozen {g n cap : Nat} (h : Fls t w base (.slice (some ⟨g, 0, none⟩) n cap) L) (o : Nat) : w.frozen? ⟨g, o, none⟩ = false := by
  rcases h.own.2 with ⟨hv, _⟩ | ⟨g', cap', cur, hv, _, hh, _⟩
  · cases hv
  · injection hv with h1; injection h1 with h1; injection h1 with h1; subst h1
    simp [World.frozen?, hh]
/-- A factor more. -/
theorem Fls.app {x : EntQ q} {o : Obj} {g n cap H : Nat} (h : Fls t w base v L) (hg : (w.alloc o).grownBy w' v.ownBlock) (hat : v.ownBlock = some g ∨ g = H) (hH : (w.alloc o).heap.size = H)
    (hown : w'.ownsRow base t 2 (.slice (some ⟨g, 0, none⟩) n cap) n (fcells L ++ fcell x)) (hn : n = L.length + 1)
    (hp : 0 < x.2.1.len) (hx : Ints w x.1.1 x.2.1.len (fromP x.2.1)) (hl : ∀ y, x.1.1 = some y → v.ownBlock ≠ some y.block) : Fls t w' base (.slice (some ⟨g, 0, none⟩) n cap) (L ++ [x]) := by
  have key : ∀ z : EntQ q, 0 < z.2.1.len → Ints w z.1.1 z.2.1.len (fromP z.2.1) → (∀ y, z.1.1 = some y → v.ownBlock ≠ some y.block) → 0 < z.2.1.len ∧ Ints w' z.1.1 z.2.1.len (fromP z.2.1) ∧ ∀ y, z.1.1 = some y → (Value.slice (some ⟨g, 0, none⟩) n cap).ownBlock ≠ some y.block := by
    intro z h1 h2 h3
    refine ⟨h1, (h2.alloc o).grown hg (fun _ y hy e => h3 y hy e), fun y hy e => ?_⟩
    have hlt := h2.blk_lt h1 y hy
    have e' : g = y.block := by injection e
    rcases hat with h4 | h4
    · exact h3 y hy (by rw [h4, e'])
    · rw [← hH] at h4; simp at h4; omega
  refine ⟨?_, fun z hz => ?_⟩
  · rw [fcells_snoc, List.length_append]
    subst hn
    exact hown
  · rcases List.mem_append.1 hz with hz | hz
    · exact key z (h.rd z hz).1 (h.rd z hz).2.1 (h.rd z hz).2.2
    · rw [List.mem_singleton] at hz; subst hz; exact key z hp hx hl
theorem Fls.prs {A : Option Addr} {n c : Nat} (h : Fls t w base (.slice A n c) L) : Prs w A L.length (L.map (·.2)) := by
  refine ⟨by simp, fun hn => ?_⟩
  obtain ⟨g, cap, hv, _, hg⟩ := h.form hn
  injection hv with h1 h2 h3
  subst h1
  subst h2
  refine ⟨g, 0, rfl, hg, fun i hi => ?_⟩
  have hi' : i < L.length := by simpa using hi
  have e : (L.map (·.2))[i] = (L[i]).2 := by simp
  obtain ⟨h0, h1⟩ := h.cells hi'
  rw [e, Nat.zero_add, Nat.zero_add]
  exact ⟨_, _, h0, h1, (h.rd _ (List.getElem_mem hi')).2.1⟩

abbrev lstQ (L : List (EntQ q)) : Type := {x : EntQ q // x ∈ L}
noncomputable def cmpQ {L : List (EntQ q)} (x y : lstQ L) : Int := cmpI (fromP x.1.2.1) (fromP y.1.2.1)
theorem swoQ {L : List (EntQ q)} : Sort.SWO (ltOf (cmpQ (L := L))) where
  irrefl x := by unfold ltOf cmpQ; rw [cmpI_self]; rfl
  trans x y z h1 h2 := by
    unfold ltOf cmpQ at *
    exact decide_eq_true (cmpI_trans (of_decide_eq_true h1) (of_decide_eq_true h2))
  ntrans x y z h1 h2 := by
    unfold ltOf cmpQ at *
    exact decide_eq_false (cmpI_ntrans (of_decide_eq_false h1) (of_decide_eq_false h2))
def attachQ (L : List (EntQ q)) : Array (lstQ L) := (L.attach).toArray
theorem attachQ_size (L : List (EntQ q)) : (attachQ L).size = L.length := by simp [attachQ]
theorem attachQ_get (L : List (EntQ q)) [Inhabited (lstQ L)] {i : Nat} (h : i < L.length) : ((attachQ L)[i]!).1 = L[i] := by
  rw [getElem!_pos _ i (by rw [attachQ_size]; exact h)]
  unfold attachQ
  simp
theorem only_worldK {α : Type} [Inhabited α] (enc : α → List Value) (k : Nat) (w : World) (blk off m : Nat) (dk : Array α) (os : Array Obj) : Only (fun j => j = blk) w (sortWorldK enc k w blk off m dk os) := by
  unfold sortWorldK Sort.grow Sort.putRowK Sort.putRow Sort.mapBlock Sort.ahead
  refine ⟨rfl, rfl, rfl, by simp, fun j hj hne => ?_⟩
  have h1 : j < (w.heap.modify blk (Sort.onCells (Sort.putCells id off (Sort.flatK enc k dk)))).size := by simpa using hj
  show (w.heap.modify blk (Sort.onCells (Sort.putCells id off (Sort.flatK enc k dk))) ++ os)[j]? = _
  rw [Array.getElem?_append_left h1, Array.getElem?_modify, if_neg (fun e => hne e.symm)]
set_option maxHeartbeats 1000000 in
/-- The comparison of two factors: two blocks are laid. -/
theorem fcmp_fac (x y : EntQ q) (W : World) (hx : Ints W x.1.1 x.2.1.len (fromP x.2.1)) (hy : Ints W y.1.1 y.2.1.len (fromP y.2.1)) (h1 : x.2.1.len ≤ 1000000000) (h2 : y.2.1.len ≤ 1000000000) :
    Calls Tryz.prog 30 #[.agg (fcell x).toArray, .agg (fcell y).toArray] W fun e w' => e = .returned (.int .i64 (cmpI (fromP x.2.1) (fromP y.2.1))) ∧ ∃ q os', w' = Sort.grow (W.drewN q) os' := by
  obtain ⟨⟨xA, xc⟩, ⟨xP, xn⟩⟩ := x
  obtain ⟨⟨yA, yc⟩, ⟨yP, yn⟩⟩ := y
  simp only at hx hy h1 h2
  have C := Lib.hid (fcmp_any xA yA xP.len yP.len xc yc (fromP xP) (fromP yP) ((W.alloc (.cells #[.slice xA xP.len xc, .int .i64 (xn : Int)] 33)).alloc (.cells #[.slice yA yP.len yc, .int .i64 (yn : Int)] 33)) ((hx.alloc _).alloc _) ((hy.alloc _).alloc _) (by omega) (by omega))
  show Calls Tryz.prog 30 #[.agg #[.slice xA xP.len xc, .int .i64 (xn : Int)], .agg #[.slice yA yP.len yc, .int .i64 (yn : Int)]] W _
  clear hx hy
  show Calls _ _ _ W fun e w' => e = .returned (.int .i64 (cmpI (fromP xP) (fromP yP))) ∧ ∃ q os', w' = Sort.grow (W.drewN q) os'
  generalize cmpI (fromP xP) (fromP yP) = z at *
  go_enter Tryz.func30, Tryz.ntmps30
  go_wp2_with fail
  refine C.out.mono ?_
  rintro e w' ⟨rfl, k, rfl⟩
  go_wp2_with fail
  go_ret
  exact ⟨rfl, k, _, by rw [Sort.alloc_eq_grow, Sort.alloc_eq_grow, Sort.grow_grow]; rfl⟩
set_option maxHeartbeats 2000000 in
theorem fsort_fac (w : World) (base g cap : Nat) (L : List (EntQ q)) (hp : Fls 33 w base (.slice (some ⟨g, 0, none⟩) L.length cap) L) (h0 : 0 < L.length) (hL : L.length < 1000000000) (hlen : ∀ x ∈ L, x.2.1.len ≤ 1000000000) :
    Calls Tryz.prog 29 #[.slice (some ⟨g, 0, none⟩) L.length cap, .func (.func 30) #[] #[]] w fun e w' => e = .returned (.tuple #[]) ∧ ∃ L' : List (EntQ q), L'.Perm L ∧ L'.Pairwise (fun x y => ¬ Poly.Bef y.2.1 x.2.1) ∧
      (∀ i (h : i < L'.length), w'.cell? ⟨g, 2 * i, none⟩ = some (.slice (L'[i]).1.1 (L'[i]).2.1.len (L'[i]).1.2) ∧ w'.cell? ⟨g, 2 * i + 1, none⟩ = some (.int .i64 ((L'[i]).2.2 : Int))) ∧ Only (fun j => j = g) w w' := by
  have hinh : Inhabited (lstQ L) := ⟨⟨L[0], List.getElem_mem h0⟩⟩
  have hg' : g < w.heap.size := (hp.own.lt g rfl).2
  have hH : Sort.HoldsK (fun x : lstQ L => fcell x.1) 2 w g 0 (attachQ L) := by
    intro j hj
    rw [Sort.size_flatK, attachQ_size] at hj
    refine ⟨?_, hp.frozen _⟩
    rw [Sort.get_flatK _ _ _ _ (by rw [attachQ_size]; exact hj), Nat.zero_add]
    show _ = some (id ((fcell ((attachQ L)[j / 2]!).1)[j % 2]!))
    rw [attachQ_get L (by omega)]
    obtain ⟨c0, c1⟩ := hp.cells (i := j / 2) (by omega)
    rcases Nat.mod_two_eq_zero_or_one j with h2 | h2
    · rw [show 2 * (j / 2) = j by omega] at c0
      rw [c0, h2]; rfl
    · rw [show 2 * (j / 2) + 1 = j by omega] at c1
      rw [c1, h2]; rfl
  have eg : ∀ args w, (callFunc 30 args).run Tryz.prog w = .ok (.enter 30 args) w := enters_of Tryz.func30 (by kernel_rfl) rfl
  have hcmp : CmpLays Tryz.prog 30 #[] (fun x : lstQ L => fcell x.1) 2 cmpQ g 0 (attachQ L).size w := fun m os dk hs x y => by
    have ho := only_worldK (fun x : lstQ L => fcell x.1) 2 w g 0 m dk os
    obtain ⟨hx1, hx2, hx3⟩ := hp.rd x.1 x.2
    obtain ⟨hy1, hy2, hy3⟩ := hp.rd y.1 y.2
    have hxo := hx2.only ho (fun a ha e => hx3 a ha (by show some g = some a.block; rw [e]))
    have hyo := hy2.only ho (fun a ha e => hy3 a ha (by show some g = some a.block; rw [e]))
    exact fcmp_fac x.1 y.1 _ hxo hyo (hlen x.1 x.2) (hlen y.1 y.2)
  have hcon := AnyQ.slices_SortFunc sortFac 2 Tryz.isAgg33 Tryz.sizeOf33 (fun x : lstQ L => fcell x.1) (fun _ => rfl) (fun x v hv => fcells_oneCell [x.1] v (by simpa [fcells] using hv)) cmpQ swoQ 30 #[] g 0 cap (attachQ L) w eg hcmp hH hg' (by rw [attachQ_size]; omega)
  rw [attachQ_size] at hcon
  refine hcon.mono ?_
  rintro e w' ⟨rfl, d', n, os, hpm, hs, rfl⟩
  have hsz : d'.size = L.length := by rw [hpm.1, attachQ_size]
  have hH' := holdsK_sortWorldK_c (fun x : lstQ L => fcell x.1) 2 w g 0 (attachQ L) d' n os hH hg' (by rw [hsz, attachQ_size])
  refine ⟨rfl, d'.toList.map (·.1), ?_, ?_, fun i hi => ?_, only_worldK _ _ _ _ _ _ _ _⟩
  · have h1 := hpm.2.2
    rw [Array.extract_eq_self_of_le (by rw [hsz]; omega), Array.extract_eq_self_of_le (by rw [attachQ_size]; omega)] at h1
    have h2 := h1.map (fun x : lstQ L => x.1)
    have h3 : (attachQ L).toList.map (fun x : lstQ L => x.1) = L := by
      unfold attachQ
      rw [List.toList_toArray]
      exact List.attach_map_subtype_val L
    rwa [h3] at h2
  · rw [List.pairwise_map, List.pairwise_iff_getElem]
    intro i j hi hj hij
    have h1 := hs i j (Nat.zero_le _) hij (by rw [← hsz]; simpa using hj)
    rw [getElem!_pos _ i (by simpa using hi), getElem!_pos _ j (by simpa using hj)] at h1
    unfold ltOf cmpQ at h1
    have h2 := of_decide_eq_false h1
    exact h2
  · have hi' : i < d'.size := by simpa using hi
    have c0 := (Sort.HoldsK.cell hH' (i := i) (c := 0) hi' (by omega)).1
    have c1 := (Sort.HoldsK.cell hH' (i := i) (c := 1) hi' (by omega)).1
    rw [getElem!_pos d' i hi'] at c0 c1
    have e1 : (d'.toList.map (·.1))[i] = (d'[i]).1 := by simp
    rw [e1]
    rw [show 0 + i * 2 + 0 = 2 * i by omega] at c0
    rw [show 0 + i * 2 + 1 = 2 * i + 1 by omega] at c1
    exact ⟨c0, c1⟩
theorem prs_sorted {w3 w4 : World} {g cap : Nat} {L L' : List (EntQ q)} (h : Fls t w3 base (.slice (some ⟨g, 0, none⟩) L.length cap) L) (hperm : L'.Perm L)
    (hc : ∀ i (h : i < L'.length), w4.cell? ⟨g, 2 * i, none⟩ = some (.slice (L'[i]).1.1 (L'[i]).2.1.len (L'[i]).1.2) ∧ w4.cell? ⟨g, 2 * i + 1, none⟩ = some (.int .i64 ((L'[i]).2.2 : Int))) (ho : Only (fun j => j = g) w3 w4) : Prs w4 (some ⟨g, 0, none⟩) L.length (L'.map (·.2)) := by
  refine ⟨by rw [List.length_map, hperm.length_eq], fun h0 => ⟨g, 0, rfl, Nat.lt_of_lt_of_le (h.own.lt g rfl).2 ho.size, fun i hi => ?_⟩⟩
  have hi' : i < L'.length := by simpa using hi
  have e : (L'.map (·.2))[i] = (L'[i]).2 := by simp
  rw [e, Nat.zero_add, Nat.zero_add]
  obtain ⟨h1, h2, h3⟩ := h.rd _ (hperm.mem_iff.1 (List.getElem_mem hi'))
  exact ⟨_, _, (hc i hi').1, (hc i hi').2, h2.only ho (fun y hy e => h3 y hy (by show some g = some y.block; rw [e]))⟩
end
end Go.Proofs.YtpikakapflebkaaGreat

namespace Go.Proofs.YtpikakapflebkaaGreat
open Go.RowKit Cl
attribute [local go_sem ↓] Go.wp_at_zero Go.wp_at_succ

theorem fac_info : (Tryz.prog.info? 33).map (fun i => (i.zero, i.size, i.bytes)) = some (some (.agg #[.slice none 0 0, .int .i64 0]), 2, 32) := by kernel_rfl
theorem fsort_fac_none (c : Nat) (w : World) :
    Calls Tryz.prog 29 #[.slice none 0 c, .func (.func 30) #[] #[]] w fun e w' => e = .returned (.tuple #[]) ∧ w' = w :=
  AnyF.slices_SortFunc_none { sortFac with } none c _ w
/-- A call that hands back a polynomial's factors. -/
def GivesFac {q : Prm} (w : World) (a : Poly (Zp q)) (e : Ending) (w' : World) : Prop :=
  ∃ A n c L, e = .returned (.tuple #[.slice A n c, .int .i64 0]) ∧ Prs w' A n L ∧ Poly.IsFac a L ∧ Below w.heap.size w w'
section
variable {A D : Option Addr} {n c nd cD : Nat} {p : Int} {w : World} {hp : Pr p} {a : Poly (Zp ⟨p, hp⟩)}
set_option maxRecDepth 100000 in
set_option maxHeartbeats 8000000 in
theorem ffactorsR {ds : List Int} (ha : Rd w A n a) (hn : n * 8 ≤ 140737488355328) (h0 : a ≠ 0) (hl : a.len ≤ 65) (hd : Ints w D nd ds) (hdn : D = none → cD = 0) (hdc : nd ≤ cD) (hdm : cD ≤ 9223372036854775807) :
    Calls Tryz.prog 9 #[.slice A n c, .int .i64 p, .slice D nd cD] w (GivesFac w a) := by
  obtain ⟨i0, hi, hz0, hz1, hz2⟩ := info_parts fac_info
  have C := Lib.hid (fmonicR (c := c) ha hn h0 hl)
  have Hm := Lib.hid (Poly.monic_mon h0)
  have Hfin : Hid (∀ L, Poly.IsFac a.monic L → Poly.IsFac a L) := fun L h => h.of_val fun f hf => hf.val_monic h0
  have Hd := Lib.hid hd
  have Hdn := Lib.hid hdn
  have Hdc := Lib.hid hdc
  have Hdm := Lib.hid hdm
  clear ha h0 hd hdn hdc hdm hl
  go_enter Tryz.func9, Tryz.ntmps9
  go_wp2_with fail
  refine C.out.mono ?_
  rintro e w1 ⟨A1, c1, rfl, l1, h1, hb1⟩
  have H1 := Lib.hid h1
  have Hd1 := Lib.hid (Hd.out.bel hb1)
  clear h1 C Hd
  generalize a.monic = m at *
  go_wp2_with fail
  refine (spartsR (N := 65) (hp := hp) (Rd.of H1.out) l1 (by omega) Hm.out.ne).mono ?_
  rintro e w2 ⟨A2, c2, rfl, hP2, hb2⟩
  have HP2 := Lib.hid hP2
  have Hd2 := Lib.hid (Hd1.out.bel hb2)
  have Hb02 := Lib.hid (below_tr hb1 hb2)
  have hKl : (Poly.partsL m).length ≤ 65 := by
    rw [Poly.partsL_length]
    have h3 : (Poly.lvls m).length ≤ m.len := by unfold Poly.lvls; exact Nat.le_trans (List.length_filter_le _ _) (by rw [List.length_range]; omega)
    omega
  obtain ⟨K, hKe⟩ : ∃ K, K = (Poly.partsL m).length := ⟨_, rfl⟩
  have HK := Lib.hid hKe
  have HK2 : Hid ((Poly.lvls m).length = K) := by show _ = _; rw [hKe, Poly.partsL_length]
  rw [← HK.out] at hKl ⊢
  clear hP2 hb1 hb2 hKe H1 Hd1
  go_wp2_with fail
  go_loopw [10, 36] (fun v i wr => ∃ (L : List (EntQ ⟨p, hp⟩)) (k : Nat), k ≤ K ∧ i = .int .i64 (k : Int) ∧ L.length ≤ 64 * k ∧ Hid (L = [] → v = .slice none 0 0) ∧ Hid (Fls 33 wr w2.heap.size v L) ∧ Hid (Poly.Coll m k [] 0 (L.map (·.2))) ∧ Hid (Below w2.heap.size w2 wr)) (fun _ i _ => K - (intOf i).toNat)
  case atStart => exact ⟨[], 0, by omega, rfl, by simp, fun _ => rfl, Fls.nil _ _ _, Poly.Coll.start m, Below.refl _ _⟩
  case round =>
    obtain ⟨L, k, hk, rfl, hLk, hnil, hfl, hco, hbel⟩ := hrel
    obtain ⟨wo, rfl⟩ : ∃ wo : World, wo = wr := ⟨_, rfl⟩
    by_cases hlt : k < K
    · obtain ⟨b, o, rfl, hb, hc⟩ := HP2.out.at_ (by rw [← HK.out]; omega)
      have hkl : k < (Poly.partsL m).length := by rw [← HK.out]; exact hlt
      have hkl2 : k < (Poly.lvls m).length := by rw [HK2.out]; exact hlt
      obtain ⟨Ai, ci, e1, e2, e3⟩ := hc k hkl
      rw [Poly.partsL_get] at e1 e2 e3
      have hks := (Poly.mem_lvls Hm.out.ne).1 (List.getElem_mem hkl2)
      have HCn : Hid (∀ (ls : List (Poly (Zp ⟨p, hp⟩))) (j : Nat) (M : List (Poly (Zp ⟨p, hp⟩) × Nat)), Poly.Coll m k ls j M → Poly.IsSpl (Poly.lvl m (Poly.lvls m)[k]) ls → ∀ hj : j < ls.length, Poly.Coll m k ls (j + 1) (M ++ [(ls[j], (Poly.lvls m)[k])])) := fun ls j M h1 h2 hj => h1.next Hm.out.ne hkl2 h2 hj
      have HCd : Hid (∀ (ls : List (Poly (Zp ⟨p, hp⟩))) (j : Nat) (M : List (Poly (Zp ⟨p, hp⟩) × Nat)), Poly.Coll m k ls j M → Poly.IsSpl (Poly.lvl m (Poly.lvls m)[k]) ls → ls.length ≤ j → Poly.Coll m (k + 1) [] 0 M) := fun ls j M h1 h2 hj => h1.done hkl2 h2 hj
      clear hc
      generalize (Poly.lvls m)[k] = kk at *
      have hk1 := hks.1
      have hll := Poly.lvl_len Hm.out.ne hk1
      have hk65 := Poly.lvl_lt Hm.out.ne hk1 hks.2
      have Hlm := Lib.hid (Poly.lvl_mon Hm.out.ne kk)
      have hsq : Hid (sqB (hp := hp) (Poly.lvl m kk) = true) := sq_bool (Poly.lvl_mon Hm.out.ne kk) (lvl_rad Hm.out.ne hk1)
      rw [Nat.mul_comm 2 k] at e1 e2
      rw [← Nat.add_assoc] at e2
      have c1' := (hbel.out.cell (p := ⟨b, o + k * 2, none⟩) hb).trans e1
      have c2' := (hbel.out.cell (p := ⟨b, o + k * 2 + 1, none⟩) hb).trans e2
      have HI := Lib.hid (e3.bel hbel.out)
      have Hdw := Lib.hid (Hd2.out.bel hbel.out)
      have hlt' : (k : Int) < (K : Int) := by omega
      have hk0 : (0 : Int) ≤ (k : Int) := by omega
      clear e1 e2 e3 hks hkl hkl2
      have hal : Below wo.heap.size wo (wo.alloc (.cells #[.slice Ai (Poly.lvl m kk).len ci, .int .i64 (kk : Int)] 56)) := (Below.refl _ _).alloc (Nat.le_refl _) _
      have hX0 : (wo.alloc (.cells #[.slice Ai (Poly.lvl m kk).len ci, .int .i64 (kk : Int)] 56)).cell? ⟨wo.heap.size, 1, none⟩ = some (.int .i64 (kk : Int)) := by
        rw [cell_of_row _ _ 1 _ _ (0, 0) (heap_alloc_new wo _)]; rfl
      have HX0 := Lib.hid hX0
      have Hal := Lib.hid hal
      clear hX0 hal
      go_wp2_with fail
      refine (fsplitR (hp := hp) (Rd.of (HI.out.bel Hal.out)) (by omega) Hlm.out.ne (by omega) hsq.out (Hdw.out.bel Hal.out) Hdn.out Hdc.out Hdm.out).mono ?_
      rintro e w3 ⟨A3, n3, c3, ls, rfl, hpol, hspl, hb3, hn3⟩
      have hsz0 : (wo.alloc (.cells #[.slice Ai (Poly.lvl m kk).len ci, .int .i64 (kk : Int)] 56)).heap.size = wo.heap.size + 1 := by simp
      rw [hsz0] at hpol hb3
      have Hpol := Lib.hid hpol
      have Hspl := Lib.hid hspl
      have hs3 := hb3.size
      rw [hsz0] at hs3
      have HX3 : Hid (w3.cell? ⟨wo.heap.size, 1, none⟩ = some (.int .i64 (kk : Int))) := (hb3.cell (p := ⟨wo.heap.size, 1, none⟩) (by show wo.heap.size < _; omega)).trans HX0.out
      have Hb3 : Hid (Below wo.heap.size wo w3) := Hal.out.trans (hb3.mono (by omega))
      have hfl3 := Lib.hid (hfl.out.bel Hb3.out)
      have hbel3 : Hid (Below w2.heap.size w2 w3) := below_tr hbel.out Hb3.out
      have hlslen : Hid (ls.length = n3) := hpol.len
      have hgo : Hid (∀ x, u10.ownBlock = some x → x < wo.heap.size) := fun x hx => (hfl.out.own.lt x hx).2
      obtain ⟨S, hS1, hS2, hS3, hS4⟩ : ∃ S : Nat → Prop, Hid (∀ x, wo.heap.size ≤ x → x < w3.heap.size → ¬ S x) ∧ Hid (∀ x, w3.heap.size ≤ x → S x) ∧ Hid (∀ x, u10.ownBlock = some x → S x) ∧ Hid (∀ x, S x → w2.heap.size ≤ x) := by
        refine ⟨fun x => u10.ownBlock = some x ∨ w3.heap.size ≤ x, fun x h1 h2 h3 => ?_, fun x h => .inr h, fun x h => .inl h, fun x h => ?_⟩
        · rcases h3 with h3 | h3
          · have := hgo.out x h3
            omega
          · omega
        · rcases h with h | h
          · exact (hfl.out.own.lt x h).1
          · have := hbel3.out.size
            omega
      have hco3 : Hid (Poly.Coll m k ls 0 (L.map (·.2))) := hco.out.head
      clear hpol hspl hb3 hsz0 HX0 Hal hfl hco HI Hdw hsq Hlm hgo c1' c2'
      go_wp2_with fail
      go_loopw [10, 50] (fun v i wr => ∃ (L : List (EntQ ⟨p, hp⟩)) (j : Nat), j ≤ n3 ∧ i = .int .i64 (j : Int) ∧ L.length ≤ 64 * k + j ∧ Hid (L = [] → v = .slice none 0 0) ∧ Hid (Fls 33 wr w2.heap.size v L) ∧ Hid (Poly.Coll m k ls j (L.map (·.2))) ∧ Hid (Only S w3 wr) ∧ Hid (∀ x, v.ownBlock = some x → S x) ∧ Hid (Below w2.heap.size w2 wr)) (fun _ i _ => n3 - (intOf i).toNat)
      case atStart => exact ⟨L, 0, by omega, rfl, by omega, hnil, hfl3, hco3, Only.refl _ _, hS3, hbel3⟩
      case round =>
        clear hnil hfl3 hco3 hbel3 hLk
        obtain ⟨L, j, hj, rfl, hLj, hnil, hfl, hco, honly, hvS, hbel2⟩ := hrel
        by_cases hjl : j < n3
        · have hjl2 : j < ls.length := by rw [hlslen.out]; exact hjl
          obtain ⟨bl, ol, rfl, hbl0, hbl1, hcl⟩ := Hpol.out.at_ (by omega)
          obtain ⟨Aq, cq, q1, q2, q3⟩ := hcl j hjl2
          have hq1 := (honly.out.cell (p := ⟨bl, ol + j, none⟩) hbl1 (hS1.out bl (by omega) hbl1)).trans q1
          have hX := (honly.out.cell (p := ⟨wo.heap.size, 1, none⟩) (by show wo.heap.size < _; omega) (hS1.out wo.heap.size (Nat.le_refl _) (by omega))).trans HX3.out
          have hQirr := (Hspl.out.mem (ls[j]'hjl2)).1 (List.getElem_mem hjl2)
          have hQl := hQirr.1.len
          have hnS : Hid (∀ y, Aq = some y → ¬ S y.block) := fun y hy => hS1.out _ (by have := q3 y hy; omega) (q2.blk_lt (by omega) y hy)
          have hqI := Lib.hid (q2.only honly.out (fun y hy => hnS.out y hy))
          have hcoN := Lib.hid (HCn.out ls j _ hco.out Hspl.out hjl2)
          have hjl' : (j : Int) < (n3 : Int) := by omega
          have hj0 : (0 : Int) ≤ (j : Int) := by omega
          have hbs := hbel2.out.size
          clear hcl q1 q2 q3 hQirr
          generalize ls[j]'hjl2 = Q at *
          go_wp2_with (first
            | (at_builtin; refine wpList_append_lies _ (by rfl) _ _ _ (by rfl) w2.heap.size 33 i0 _ 2 32 Tryz.underlying26 hi hz0 hz1 hz2 rfl (by omega) u10 L.length (fcells L) (by rfl) (hfl.out.own.alloc _) ⟨wr.heap.size, 0, none⟩ 1 1 [.slice Aq Q.len cq, .int .i64 (kk : Int)] (by rfl) (by rfl) (World.news_of_block (cs := #[.slice Aq Q.len cq, .int .i64 (kk : Int)]) (t := 33) (fr := (0, 0)) (heap_alloc_new wr _)) (by simp [Value.oneCell']) (by omega) (by unfold maxLen; omega) (by omega) (by simp; omega) (wr.heap.size + 1) (by simp) ?_; intro gg cap w8 hown8 hgrow hat hlt8))
          have hfl8 : Hid (Fls 33 w8 w2.heap.size (.slice (some ⟨gg, 0, none⟩) (L.length + 1) cap) (L ++ [((Aq, cq), (Q, kk))])) :=
            hfl.out.app (x := ((Aq, cq), (Q, kk))) hgrow hat (by simp) hown8 rfl (by show 0 < Q.len; omega) hqI.out (fun y hy e => hnS.out y hy (hvS.out _ e))
          have hco8 : Hid (Poly.Coll m k ls (j + 1) ((L ++ [((Aq, cq), (Q, kk))]).map (·.2))) := by
            have h1 := hcoN.out
            show Poly.Coll _ _ _ _ _
            rw [List.map_append]
            exact h1
          have hon8 : Hid (Only S w3 w8) := honly.out.trans (((Only.refl S wr).alloc _).trans ((Only.of_grown hgrow).mono fun x hx => hvS.out x hx))
          have hvS8 : Hid (∀ x, (Value.slice (some ⟨gg, 0, none⟩) (L.length + 1) cap).ownBlock = some x → S x) := fun x hx => by
            have e : gg = x := by injection hx
            rcases hat with h1 | h1
            · exact hvS.out x (by rw [h1, e])
            · exact hS2.out x (by have := honly.out.size; omega)
          have hbel8 : Hid (Below w2.heap.size w2 w8) := below_app' hbel2.out hfl.out.own hgrow (by omega)
          clear hown8 hgrow hat hfl hco honly hvS hbel2 hqI hcoN hnS hq1 hX
          go_wp2
          go_roundw
          case rel => exact ⟨_, j + 1, by omega, by go_num, by simp; omega, (fun h => by simp at h), hfl8, hco8, hon8, hvS8, hbel8⟩
          case measure => simp [intOf]; omega
        · obtain rfl : j = n3 := by omega
          have hjl' : ¬ (j : Int) < (j : Int) := by omega
          have hcoD := Lib.hid (HCd.out ls j _ hco.out Hspl.out (by rw [hlslen.out]; omega))
          go_wp2
          go_roundw
          case rel => exact ⟨L, k + 1, by omega, by go_num, by omega, hnil, hfl, hcoD, hbel2⟩
          case measure => simp [intOf]; omega
    · obtain rfl : k = K := by omega
      have hlt' : ¬ (k : Int) < (k : Int) := by omega
      by_cases hLe : L = []
      · have hv := hnil.out hLe
        subst hv
        subst hLe
        have hfac : Hid (Poly.IsFac m []) := by
          have := hco.out.fac (M := []) Hm.out.ne (by rw [HK2.out]; omega) (List.Perm.refl _) List.Pairwise.nil
          exact this
        go_wp2_with fail
        refine (fsort_fac_none _ _).mono ?_
        rintro e w4 ⟨rfl, rfl⟩
        go_wp2_with fail
        go_ret2
        exact ⟨none, 0, 0, [], rfl, Prs.nil _ _, Hfin.out _ hfac.out, below_tr Hb02.out hbel.out⟩
      · have hLp : 0 < L.length := List.length_pos_iff.2 hLe
        obtain ⟨g, cap, hv, hg1, hg2⟩ := hfl.out.form hLp
        subst hv
        clear hLe
        have hsm : Hid (∀ x ∈ L, x.2.1.len ≤ 1000000000) := fun x hx => by
          rcases (hco.out.mem x.2.1 x.2.2).1 (List.mem_map.2 ⟨x, hx, rfl⟩) with ⟨t, ht, h2, h3, h4, h5⟩ | ⟨_, h4⟩
          · have h6 := (Poly.mem_lvls Hm.out.ne).1 (List.getElem_mem h2)
            have h7 := Poly.len_le_of_dvd h5 (Poly.lvl_mon Hm.out.ne _).ne
            have h8 := Poly.lvl_len Hm.out.ne (k := x.2.2) (by rw [← h3]; exact h6.1)
            omega
          · simp at h4
        go_wp2_with fail
        refine (fsort_fac _ _ g _ L hfl.out hLp (by omega) hsm.out).mono ?_
        rintro e w4 ⟨rfl, L4, hperm, hsort, hcells, honly⟩
        have hfac : Hid (Poly.IsFac m (L4.map (·.2))) := hco.out.fac Hm.out.ne (by rw [HK2.out]; omega) (hperm.map _) (by rw [List.pairwise_map]; exact hsort)
        have hprs := Lib.hid (prs_sorted hfl.out hperm hcells honly)
        have hb4 : Hid (Below w.heap.size w w4) := (below_tr Hb02.out hbel.out).trans (honly.below (by have := hbel.out.size; have := Hb02.out.size; omega) (fun x hx => by rw [hx]; have := Hb02.out.size; omega))
        clear hperm hsort hcells honly
        go_wp2_with fail
        go_ret2
        exact ⟨_, _, _, _, rfl, hprs.out, Hfin.out _ hfac.out, hb4.out⟩
end
end Go.Proofs.YtpikakapflebkaaGreat

namespace Go.Proofs.YtpikakapflebkaaGreat
open Go.RowKit Cl
attribute [local go_sem ↓] Go.wp_at_zero Go.wp_at_succ

section
variable {q : Prm}
theorem irr_sq {m : Poly (Zp q)} (h : m.Irr) : (((Poly.gcdP m.monic m.monic.D).len : Int) == 1) = true :=
  sq_bool h.mon ((h.mon.eq_rad h.ne fun f hf => by
    classical
    rw [hf.val_irr h]
    by_cases e : f = m
    · rw [if_pos e, if_pos (Nat.le_refl 1)]
    · rw [if_neg e, if_neg (by omega)]))
theorem bas_irr {m : Poly (Zp q)} {n d : Nat} {B : Nat → Poly (Zp q)} {col : Nat → Nat} (hm : m.Mon) (hl : 1 < m.len) (hs : ∀ f : Poly (Zp q), f.Irr → Poly.val f m ≤ 1) (hb : Poly.Bas m n d B col) : m.Irr ↔ d = 1 := by
  obtain ⟨k, fs, hf⟩ := Poly.facs_exist hm hs
  have hkd : k = d := Nat.le_antisymm (hf.le hb) (hf.ge hb)
  subst hkd
  have hpos := hb.pos
  constructor
  · intro hi
    apply Classical.byContradiction
    intro hne
    have h0 := (hf.irr 0 (by omega)).eq_of_dvd hi (hf.dvd 0 (by omega))
    have h1 := (hf.irr 1 (by omega)).eq_of_dvd hi (hf.dvd 1 (by omega))
    have := hf.inj 0 1 (by omega) (by omega) (h0.trans h1.symm)
    omega
  · intro h1
    exact (Poly.PInv.start hm hl).full hf (by rw [h1]; rfl) m (List.mem_singleton.2 rfl)
/-- A call that tells whether a polynomial is irreducible. -/
def GivesIrr (w : World) (a : Poly (Zp q)) (e : Ending) (w' : World) : Prop :=
  ∃ r : Bool, e = .returned (.tuple #[.bool r, .int .i64 0]) ∧ (r = true ↔ a.monic.Irr) ∧ Below w.heap.size w w'
end
section
variable {A : Option Addr} {n c : Nat} {p : Int} {w : World} {hp : Pr p} {a : Poly (Zp ⟨p, hp⟩)}
set_option maxRecDepth 100000 in
set_option maxHeartbeats 4000000 in
theorem firrR (ha : Rd w A n a) (hn : n * 8 ≤ 140737488355328) (h0 : a ≠ 0) (hl : a.len ≤ 65) :
    Calls Tryz.prog 16 #[.slice A n c, .int .i64 p] w (GivesIrr w a) := by
  have C := Lib.hid (fmonicR (c := c) ha hn h0 hl)
  have Hm := Lib.hid (Poly.monic_mon h0)
  have hmq : Hid (a.monic.monic = a.monic) := (Poly.monic_mon h0).monic_eq
  have Hfin : Hid (∀ (r : Bool) w', (r = true ↔ a.monic.Irr) → Below w.heap.size w w' → GivesIrr w a (.returned (.tuple #[.bool r, .int .i64 0])) w') := fun r w' h1 h2 => ⟨r, rfl, h1, h2⟩
  have hmp : 0 < a.monic.len := Poly.len_pos (Poly.monic_mon h0).ne
  clear ha h0
  generalize a.monic = m at *
  go_enter Tryz.func16, Tryz.ntmps16
  go_wp2_with fail
  refine C.out.mono ?_
  rintro e w1 ⟨A1, c1, rfl, l1, h1, hb1⟩
  have H1 := Lib.hid h1
  clear h1
  go_wp2_with fail
  refine (sisR (N := 65) (hp := hp) (Rd.of H1.out) l1 (by omega) Hm.out.ne).mono ?_
  rintro e w2 ⟨rfl, hb2⟩
  have hb12 := below_tr hb1 hb2
  have H2 := Lib.hid (H1.out.bel hb2)
  clear hb1 hb2 H1 C
  cases hs : sqB m with
  | false =>
    have hn1 : Hid (false = true ↔ m.Irr) := ⟨fun h => (by cases h), fun h => by have h2 := irr_sq h; unfold sqB at hs; rw [h2] at hs; exact hs.symm⟩
    clear hs
    go_wp2_with fail
    go_ret2
    exact Hfin.out false _ hn1.out hb12
  | true =>
    have Hs := Lib.hid hs
    have hsv : Hid (∀ f : Poly (Zp ⟨p, hp⟩), f.Irr → Poly.val f m ≤ 1) := fun f hf => by
      have := sq_val Hm.out.ne hs f hf
      rwa [hmq.out] at this
    clear hs
    by_cases h1 : m.len = 1
    · have g0 : ¬ (1 : Int) < (m.len : Int) := by omega
      have hn1 : Hid (false = true ↔ m.Irr) := ⟨fun h => (by cases h), fun h => by have := h.len; omega⟩
      clear h1
      go_wp2_with fail
      go_ret2
      exact Hfin.out false _ hn1.out hb12
    · have g0 : (1 : Int) < (m.len : Int) := by omega
      obtain ⟨t, ht⟩ : ∃ t, m.len = t + 1 := ⟨m.len - 1, by omega⟩
      have Ht := Lib.hid ht
      have ht1 : 1 ≤ t := by omega
      have ht2 : t ≤ 64 := by omega
      have hgt1 : 1 < m.len := by omega
      have Cf : Hid (Calls Tryz.prog 37 #[.slice A1 m.len c1, .int .i64 p] w2 (GivesBas w2 m t)) := by
        show Calls _ _ _ _ _
        rw [Ht.out]
        exact ffixed A1 t c1 p hp m w2 (by have := H2.out; rwa [Ht.out] at this) Hm.out Ht.out ht1 ht2
      clear ht h1
      go_wp2_with fail
      refine Cf.out.mono ?_
      rintro e w3 ⟨A3, d3, c3, rows3, rfl, hm3, hbas3, hsh3, hd64, hb3, hdc3, hcm3⟩
      have hiff : Hid (m.Irr ↔ d3 = 1) := by
        obtain ⟨col, hb⟩ := hbas3
        exact bas_irr Hm.out hgt1 hsv.out hb
      have hb13 := below_tr hb12 hb3
      clear hm3 hbas3 hsh3 hb3 Cf
      by_cases hd : d3 = 1
      · have hn1 : Hid (True ↔ m.Irr) := ⟨fun _ => hiff.out.2 hd, fun _ => trivial⟩
        have g1 : ((d3 : Int) == 1) = true := beq_iff_eq.2 (by omega)
        clear hd
        go_wp2_with fail
        go_ret2
        exact Hfin.out true _ ⟨fun _ => hn1.out.1 trivial, fun _ => rfl⟩ hb13
      · have hn1 : Hid (false = true ↔ m.Irr) := ⟨fun h => (by cases h), fun h => absurd (hiff.out.1 h) hd⟩
        have g1 : ((d3 : Int) == 1) = false := beq_eq_false_iff_ne.2 (by omega)
        clear hd
        go_wp2_with fail
        go_ret2
        exact Hfin.out false _ hn1.out hb13
end
end Go.Proofs.YtpikakapflebkaaGreat
