/- Layer 8: what the program keeps in its map.
   Layer 8's parts sorted: the library's sort at them.
   Layer 8's parts: the walk over the map, and what is handed back. -/
import Derived.Test.YtpikakapflebkaaGreatSqfA
import Derived.Test.YtpikakapflebkaaGreatPrsAll
import Derived.Test.YtpikakapflebkaaGreatRefTop
import Derived.Maps.RangeWalk
import Derived.Test.YtpikakapflebkaaGreatSortPart
import Derived.Test.YtpikakapflebkaaGreatFlinA
namespace Go.Proofs.YtpikakapflebkaaGreat
open Go.RowKit Cl
attribute [local go_sem ↓] Go.wp_at_zero Go.wp_at_succ

/-- How a slice in a map reads: as itself. -/
def slEl : Value → Option (DataW Value × List MemPlace)
  | .slice A n c => some (.held (.slice A n c), [])
  | _ => none
theorem slEl_mk (A : Option Addr) (n c : Nat) : slEl (.slice A n c) = some (.held (.slice A n c), []) := rfl
def mkSl (x : Option Addr × Nat × Nat) : Value := .slice x.1 x.2.1 x.2.2
theorem slEl_inv (v : Value) (y : DataW Value × List MemPlace) (h : slEl v = some y) : ∃ x, v = mkSl x := by
  cases v <;> simp [slEl] at h
  exact ⟨(_, _, _), rfl⟩
theorem mkI_inv (key : Value) (kl : Lit) (h : keyOf Tryz.prog 3 key = some kl) : ∃ x : Int, key = .int .i64 x := by
  obtain ⟨x, rfl, _⟩ := Maps.keyOf_int_inv Tryz.underlying3 h
  exact ⟨x, rfl⟩
theorem int_law : Maps.Keyed Tryz.prog 3 := Maps.int_keyed Tryz.underlying3
theorem key_int (k : Nat) (hk : k ≤ 9223372036854775807) : keyOf Tryz.prog 3 (.int .i64 (k : Int)) = some (.int .i64 (k : Int)) := Maps.keyOf_int_mk Tryz.underlying3 (WalkArith.wf_i64 (by omega))

/-- A write into a map turns no list of numbers. -/
theorem ints_map {w w' : World} {A : Option Addr} {n : Nat} {xs : List Int} {k : TypeId} {R : Value → Option (DataW Value × List MemPlace)} {b m : Nat} {D : DataW Value} (h : Ints w A n xs) (hm : w.ownsMap Tryz.prog k R b m D) (hg : w.grownBy w' (some b)) : Ints w' A n xs := by
  obtain ⟨es, clock, hb, _⟩ := hm
  refine h.grown hg fun hn x hx e => ?_
  obtain ⟨bb, o, e2, _, hc⟩ := h.at_ hn
  rw [e2] at hx
  cases hx
  injection e with e
  have := hc 0 hn
  simp only at e
  rw [← e] at this
  simp [World.cell?, hb] at this

section
variable {q : Prm}
/-- The map holds the levels of which S speaks. -/
structure Found (w : World) (D : DataW Value) (a : Poly (Zp q)) (S : Nat → Prop) : Prop where
  key : ∀ kl, Maps.has D kl = true → ∃ k : Nat, kl = .int .i64 (k : Int) ∧ 1 ≤ k ∧ Poly.lvl a k ≠ 1 ∧ S k
  at_ : ∀ k : Nat, 1 ≤ k → Poly.lvl a k ≠ 1 → S k → ∃ A c, Maps.has D (.int .i64 (k : Int)) = true ∧ (∀ zd, D.atKey (.int .i64 (k : Int)) zd = .held (.slice A (Poly.lvl a k).len c)) ∧ Ints w A (Poly.lvl a k).len (fromP (Poly.lvl a k))
section
variable {w w' : World} {D : DataW Value} {a : Poly (Zp q)} {S T : Nat → Prop}
theorem Found.bel (h : Found w D a S) (hb : Below w.heap.size w w') : Found w' D a S :=
  ⟨h.key, fun k h1 h2 h3 => by obtain ⟨A, c, g1, g2, g3⟩ := h.at_ k h1 h2 h3; exact ⟨A, c, g1, g2, g3.bel hb⟩⟩
theorem Found.map {k : TypeId} {R : Value → Option (DataW Value × List MemPlace)} {b m : Nat} {D' : DataW Value} (h : Found w D a S) (hm : w.ownsMap Tryz.prog k R b m D') (hg : w.grownBy w' (some b)) : Found w' D a S :=
  ⟨h.key, fun k h1 h2 h3 => by obtain ⟨A, c, g1, g2, g3⟩ := h.at_ k h1 h2 h3; exact ⟨A, c, g1, g2, ints_map g3 hm hg⟩⟩
theorem Found.iff (h : Found w D a S) (hi : ∀ k, 1 ≤ k → Poly.lvl a k ≠ 1 → (S k ↔ T k)) : Found w D a T :=
  ⟨fun kl hk => by obtain ⟨k, e, h1, h2, h3⟩ := h.key kl hk; exact ⟨k, e, h1, h2, (hi k h1 h2).1 h3⟩, fun k h1 h2 h3 => h.at_ k h1 h2 ((hi k h1 h2).2 h3)⟩
theorem Found.start (w : World) (a : Poly (Zp q)) (hS : ∀ k, 1 ≤ k → ¬ S k) : Found w (.map []) a S :=
  ⟨fun kl hk => by simp [Maps.has] at hk, fun k h1 _ h3 => absurd h3 (hS k h1)⟩
theorem Found.put (h : Found w D a S) (hD : Maps.IsMap D) {m : Nat} (hm : 1 ≤ m) (hl : Poly.lvl a m ≠ 1) {A : Option Addr} {c : Nat} (hi : Ints w A (Poly.lvl a m).len (fromP (Poly.lvl a m))) :
    Found w (D.put (.int .i64 (m : Int)) (.held (.slice A (Poly.lvl a m).len c))) a (fun k => S k ∨ k = m) := by
  have hk : WideAt.IsKeyLit (.int .i64 (m : Int)) := trivial
  constructor
  · intro kl hkl
    by_cases e : kl = .int .i64 (m : Int)
    · exact ⟨m, e, hm, hl, .inr rfl⟩
    · rw [Maps.has_put_other e] at hkl
      obtain ⟨k, e, h1, h2, h3⟩ := h.key kl hkl
      exact ⟨k, e, h1, h2, .inl h3⟩
  · intro k h1 h2 h3
    by_cases e : k = m
    · subst e
      exact ⟨A, c, Maps.has_put_same hD hk _, fun zd => Maps.atKey_put_same hD hk _ zd, hi⟩
    · have hne : (Lit.int .i64 (k : Int)) ≠ .int .i64 (m : Int) := fun e2 => by injection e2; omega
      obtain ⟨A', c', g1, g2, g3⟩ := h.at_ k h1 h2 (h3.resolve_right e)
      exact ⟨A', c', by rw [Maps.has_put_other hne]; exact g1, fun zd => by rw [Maps.atKey_put_other hne]; exact g2 zd, g3⟩
theorem Found.skip (h : Found w D a S) {m : Nat} (hl : Poly.lvl a m = 1) : Found w D a (fun k => S k ∨ k = m) :=
  h.iff fun k _ h2 => ⟨.inl, fun h3 => h3.resolve_right fun e => h2 (by rw [e]; exact hl)⟩
end
/-- Which levels are found: those of numbers that s does not divide, and those less than n times s, p not dividing. -/
def Done (p s n k : Nat) : Prop := ¬ s ∣ k ∨ (s ∣ k ∧ ¬ p ∣ k / s ∧ k / s < n)
theorem Done.start {p k : Nat} (hk : 1 ≤ k) : ¬ Done p 1 1 k := fun h => by
  rcases h with h | ⟨_, _, h⟩
  · exact h ⟨k, by omega⟩
  · rw [Nat.div_one] at h; omega
theorem done_step {p s n k : Nat} (hs : 0 < s) (hp : ¬ p ∣ n) : (Done p s n k ∨ k = n * s) ↔ Done p s (n + 1) k := by
  unfold Done
  constructor
  · rintro ((h | ⟨h1, h2, h3⟩) | h)
    · exact .inl h
    · exact .inr ⟨h1, h2, by omega⟩
    · subst h
      exact .inr ⟨⟨n, Nat.mul_comm _ _⟩, by rw [Nat.mul_div_cancel _ hs]; exact hp, by rw [Nat.mul_div_cancel _ hs]; omega⟩
  · rintro (h | ⟨h1, h2, h3⟩)
    · exact .inl (.inl h)
    · by_cases e : k / s = n
      · exact .inr (by rw [← e]; exact (Nat.div_mul_cancel h1).symm)
      · exact .inl (.inr ⟨h1, h2, by omega⟩)
theorem done_skip {p s n k : Nat} (hp : p ∣ n) : Done p s n k ↔ Done p s (n + 1) k := by
  unfold Done
  constructor
  · rintro (h | ⟨h1, h2, h3⟩)
    · exact .inl h
    · exact .inr ⟨h1, h2, by omega⟩
  · rintro (h | ⟨h1, h2, h3⟩)
    · exact .inl h
    · refine .inr ⟨h1, h2, ?_⟩
      have : k / s ≠ n := fun e => h2 (by rw [e]; exact hp)
      omega
/-- Behind the inner loop: just those levels are left whose number s p divides. -/
theorem done_end {a f c : Poly (Zp q)} {s n k : Nat} (ha : a ≠ 0) (hO : Poly.SqOut a s f) (hi : Poly.SqIn f n 1 c) (hk : 1 ≤ k) (hl : Poly.lvl a k ≠ 1) : Done q.p.toNat s n k ↔ Done q.p.toNat (s * q.p.toNat) 1 k := by
  have hp : 0 < q.p.toNat := by have := q.pr.two; omega
  have hR : Done q.p.toNat (s * q.p.toNat) 1 k ↔ ¬ s * q.p.toNat ∣ k := by
    unfold Done
    refine ⟨fun h => ?_, .inl⟩
    rcases h with h | ⟨h1, _, h3⟩
    · exact h
    · have := Nat.div_pos (Nat.le_of_dvd hk h1) (Nat.mul_pos hO.sp hp)
      omega
  rw [hR]
  unfold Done
  constructor
  · rintro (h | ⟨h1, h2, _⟩) hd
    · exact h (Nat.dvd_trans (Nat.dvd_mul_right _ _) hd)
    · obtain ⟨m, hm⟩ := hd
      exact h2 ⟨m, by rw [hm, Nat.mul_assoc, Nat.mul_div_cancel_left _ hO.sp]⟩
  · intro h
    by_cases hd : s ∣ k
    · have h2 : ¬ q.p.toNat ∣ k / s := fun ⟨m, hm⟩ => h ⟨m, by rw [Nat.mul_assoc, ← hm, Nat.mul_div_cancel' hd]⟩
      obtain ⟨g, hg, hv⟩ := (Poly.lvl_mon ha k).exists_irr_of_ne hl
      rw [Poly.val_lvl ha hk hg] at hv
      split at hv
      · next e =>
        have hvf : Poly.val g f = k / s := by rw [hO.val g hg, e, if_pos hd]
        exact .inr ⟨hd, h2, by rw [← hvf]; exact hi.w_one hg (by rw [hvf]; exact h2)⟩
      · omega
    · exact .inl hd
/-- Behind the last round all levels are found. -/
theorem done_last {a f : Poly (Zp q)} {s n k : Nat} (ha : a ≠ 0) (hO : Poly.SqOut a s f) (hi : Poly.SqIn f n 1 1) (hk : 1 ≤ k) (hl : Poly.lvl a k ≠ 1) : Done q.p.toNat s n k ↔ True := by
  rw [done_end ha hO hi hk hl]
  refine iff_true_intro (.inl fun hd => ?_)
  obtain ⟨g, hg, hv⟩ := (Poly.lvl_mon ha k).exists_irr_of_ne hl
  rw [Poly.val_lvl ha hk hg] at hv
  split at hv
  · next e =>
    have := hO.last hi hg (by rw [e]; exact hd)
    omega
  · omega
/-- A round of the inner loop: its number is small. -/
theorem sq_small {a f w c : Poly (Zp q)} {s n : Nat} (ha : a ≠ 0) (hO : Poly.SqOut a s f) (hi : Poly.SqIn f n w c) (hn : 1 ≤ n) (hw : 1 < w.len) : n < f.len ∧ n * s < a.len := by
  obtain ⟨g, hg, hv⟩ := hi.wm.exists_irr_of_ne (hi.wm.len_gt.1 hw)
  rw [hi.w g hg] at hv
  split at hv
  · next h =>
    have h1 := Poly.val_lt hO.fm.ne hg
    have h2 := Poly.val_lt ha hg
    have h3 := hO.val g hg
    refine ⟨by omega, ?_⟩
    split at h3
    · next hd =>
      have h4 : n * s ≤ Poly.val g f * s := Nat.mul_le_mul_right _ h.2
      rw [h3, Nat.div_mul_cancel hd] at h4
      omega
    · omega
  · omega
theorem sq_scale {a f c : Poly (Zp q)} {s n : Nat} (ha : a ≠ 0) (hO : Poly.SqOut a s f) (hi : Poly.SqIn f n 1 c) (hc : 1 < c.len) : s * q.p.toNat < a.len := by
  obtain ⟨_, hv⟩ := hi.c_D
  obtain ⟨g, hg, h1⟩ := hi.cm.exists_irr_of_ne (hi.cm.len_gt.1 hc)
  rw [hv g hg] at h1
  split at h1
  · next hd =>
    obtain ⟨m, hm⟩ := hd
    have h2 := Poly.val_lt ha hg
    have h3 := hO.val g hg
    split at h3
    · next hd2 =>
      obtain ⟨j, hj⟩ := hd2
      rw [hj, Nat.mul_div_cancel_left _ hO.sp, hm] at h3
      have hm1 : 1 ≤ m := by
        rcases Nat.eq_zero_or_pos m with e | e
        · rw [hm, e] at h1; omega
        · exact e
      have h5 : s * q.p.toNat ≤ s * (q.p.toNat * m) := Nat.mul_le_mul_left _ (Nat.le_mul_of_pos_right _ hm1)
      rw [h3, ← hj] at h5
      omega
    · omega
  · omega
end
end Go.Proofs.YtpikakapflebkaaGreat

namespace Go.Proofs.YtpikakapflebkaaGreat
open Go.RowKit Cl
attribute [local go_sem ↓] Go.wp_at_zero Go.wp_at_succ

/-- An entry, its number below 2^62. -/
abbrev EntF := (Option Addr × Nat) × Fin 4611686018427387904
instance : Inhabited EntF := ⟨((none, 0), ⟨0, by omega⟩)⟩
def unF (x : EntF) : Ent := (x.1, x.2.val)
def toF (x : Ent) : EntF := (x.1, ⟨x.2 % 4611686018427387904, Nat.mod_lt _ (by omega)⟩)
theorem unF_toF {x : Ent} (h : x.2 < 4611686018427387904) : unF (toF x) = x := by
  unfold unF toF
  show (x.1, x.2 % 4611686018427387904) = x
  rw [Nat.mod_eq_of_lt h]
def encF (len : Nat → Nat) (x : EntF) : List Value := pcell len (unF x)
def cmpF (x y : EntF) : Int := (x.2.val : Int) - (y.2.val : Int)
theorem ltF (x y : EntF) : ltOf cmpF x y = decide (x.2.val < y.2.val) := by
  unfold ltOf cmpF
  by_cases h : x.2.val < y.2.val
  · simp [h]; omega
  · simp [h]; omega
theorem swoF : Sort.SWO (ltOf cmpF) where
  irrefl x := by rw [ltF]; simp
  trans x y z h1 h2 := by rw [ltF] at *; simp at *; omega
  ntrans x y z h1 h2 := by rw [ltF] at *; simp at *; omega

/-- What the sort leaves: but for one block nothing that was there has turned. -/
theorem only_sort (enc : EntF → List Value) (k : Nat) (w : World) (blk off m : Nat) (dk : Array EntF) (os : Array Obj) : Only (fun j => j = blk) w (sortWorldK enc k w blk off m dk os) := by
  unfold sortWorldK Sort.grow Sort.putRowK Sort.putRow Sort.mapBlock Sort.ahead
  refine ⟨rfl, rfl, rfl, by simp, fun j hj hne => ?_⟩
  have h1 : j < (w.heap.modify blk (Sort.onCells (Sort.putCells id off (Sort.flatK enc k dk)))).size := by simpa using hj
  show (w.heap.modify blk (Sort.onCells (Sort.putCells id off (Sort.flatK enc k dk))) ++ os)[j]? = _
  rw [Array.getElem?_append_left h1, Array.getElem?_modify, if_neg (fun e => hne e.symm)]

set_option maxHeartbeats 1000000 in
/-- The comparison of two parts, in whatever world: two blocks are laid. -/
theorem cmp_part (len : Nat → Nat) (x y : EntF) (W : World) : Calls Tryz.prog 59 #[.agg (encF len x).toArray, .agg (encF len y).toArray] W fun e w' => e = .returned (.int .i64 (cmpF x y)) ∧ ∃ q os', w' = Sort.grow (W.drewN q) os' := by
  obtain ⟨⟨xA, xc⟩, ⟨xk, hx⟩⟩ := x
  obtain ⟨⟨yA, yc⟩, ⟨yk, hy⟩⟩ := y
  have hx' : (xk : Int) < 4611686018427387904 := by omega
  have hy' : (yk : Int) < 4611686018427387904 := by omega
  have e1 : IntKind.i64.wrap ((xk : Int) - (yk : Int)) = (xk : Int) - (yk : Int) := IntWalk.i64_in _ (by omega)
  have hc : Hid (cmpF ((xA, xc), ⟨xk, hx⟩) ((yA, yc), ⟨yk, hy⟩) = (xk : Int) - (yk : Int)) := rfl
  show Calls Tryz.prog 59 #[.agg #[.slice xA (len xk) xc, .int .i64 (xk : Int)], .agg #[.slice yA (len yk) yc, .int .i64 (yk : Int)]] W _
  rw [hc.out]
  clear hc hx hy
  go_enter Tryz.func59, Tryz.ntmps59
  go_wp2
  go_ret
  exact ⟨rfl, 0, _, by rw [Sort.alloc_eq_grow, Sort.alloc_eq_grow, Sort.grow_grow]; rfl⟩

set_option maxHeartbeats 2000000 in
/-- The parts, sorted by how often. -/
theorem ssort_any (len : Nat → Nat) (w : World) (base g cap : Nat) (L : List Ent) (hown : w.ownsRow base 56 2 (.slice (some ⟨g, 0, none⟩) L.length cap) L.length (pcells len L)) (hgl : g < w.heap.size) (hk : ∀ x ∈ L, x.2 < 4611686018427387904) (hL : L.length < 1000000000) :
    Calls Tryz.prog 58 #[.slice (some ⟨g, 0, none⟩) L.length cap, .func (.func 59) #[] #[]] w fun e w' => e = .returned (.tuple #[]) ∧ ∃ L' : List Ent, L'.Perm L ∧ L'.Pairwise (fun x y => x.2 ≤ y.2) ∧
      (∀ i (h : i < L'.length), w'.cell? ⟨g, 2 * i, none⟩ = some (.slice (L'[i]).1.1 (len (L'[i]).2) (L'[i]).1.2) ∧ w'.cell? ⟨g, 2 * i + 1, none⟩ = some (.int .i64 ((L'[i]).2 : Int))) ∧ Only (fun j => j = g) w w' := by
  have hds : (L.map toF).toArray.size = L.length := by simp
  have hget : ∀ i (h : i < L.length), ((L.map toF).toArray)[i]! = toF (L[i]) := fun i h => by
    rw [getElem!_pos _ i (by simpa using h)]; simp
  have hun : ∀ i (h : i < L.length), unF (toF (L[i])) = L[i] := fun i h => unF_toF (hk _ (List.getElem_mem h))
  have hfz : ∀ o, w.frozen? ⟨g, o, none⟩ = false := fun o => by
    rcases hown.2 with ⟨hv, _⟩ | ⟨g', cap', cur, hv, _, hh, _⟩
    · cases hv
    · injection hv with h1; injection h1 with h1; injection h1 with h1; subst h1
      simp [World.frozen?, hh]
  have hcell : ∀ j u, (pcells len L)[j]? = some u → w.cell? ⟨g, j, none⟩ = some u := fun j u hu => by
    have := hown.cells (g := g) rfl j u hu
    rwa [Go.WideShapes.add_plain, Nat.zero_add] at this
  have hH : Sort.HoldsK (encF len) 2 w g 0 (L.map toF).toArray := by
    intro j hj
    rw [Sort.size_flatK, hds] at hj
    refine ⟨?_, hfz _⟩
    rw [Sort.get_flatK _ _ _ _ (by rw [hds]; exact hj), Nat.zero_add, hget (j / 2) (by omega)]
    unfold encF
    rw [hun _ (by omega)]
    rcases Nat.mod_two_eq_zero_or_one j with h2 | h2
    · have := hcell _ _ (pcells_get0 (len := len) (L := L) (i := j / 2) (by omega))
      rw [show 2 * (j / 2) = j by omega] at this
      rw [this, h2]; rfl
    · have := hcell _ _ (pcells_get1 (len := len) (L := L) (i := j / 2) (by omega))
      rw [show 2 * (j / 2) + 1 = j by omega] at this
      rw [this, h2]; rfl
  have eg : ∀ args w, (callFunc 59 args).run Tryz.prog w = .ok (.enter 59 args) w := enters_of Tryz.func59 (by kernel_rfl) rfl
  have hcon := AnyQ.slices_SortFunc sortPart 2 Tryz.isAgg56 Tryz.sizeOf56 (encF len) (fun _ => rfl) (fun x v hv => pcells_oneCell len [unF x] v (by simpa [pcells, encF] using hv)) cmpF swoF 59 #[] g 0 cap (L.map toF).toArray w eg (fun _ _ _ _ x y => cmp_part len x y _) hH hgl (by rw [hds]; omega)
  rw [hds] at hcon
  refine hcon.mono ?_
  rintro e w' ⟨rfl, d', n, os, hp, hs, rfl⟩
  have hsz : d'.size = L.length := by rw [hp.1, hds]
  have hH' := holdsK_sortWorldK_c (encF len) 2 w g 0 (L.map toF).toArray d' n os hH hgl (by rw [hsz, hds])
  refine ⟨rfl, d'.toList.map unF, ?_, ?_, fun i hi => ?_, only_sort _ _ _ _ _ _ _ _⟩
  · have h1 := hp.2.2
    rw [Array.extract_eq_self_of_le (by rw [hsz]; omega), Array.extract_eq_self_of_le (by omega)] at h1
    have h2 := h1.map unF
    have h3 : ((L.map toF).toArray.toList).map unF = L := by
      rw [List.toList_toArray, List.map_map]
      conv => rhs; rw [← List.map_id L]
      exact List.map_congr_left fun x hx => unF_toF (hk x hx)
    rwa [h3] at h2
  · rw [List.pairwise_map, List.pairwise_iff_getElem]
    intro i j hi hj hij
    have h1 := hs i j (Nat.zero_le _) hij (by rw [← hsz]; simpa using hj)
    rw [ltF] at h1
    simp only [decide_eq_false_iff_not] at h1
    rw [getElem!_pos _ i (by simpa using hi), getElem!_pos _ j (by simpa using hj)] at h1
    show (d'.toList[i]).2.val ≤ (d'.toList[j]).2.val
    simp only [Array.getElem_toList]
    omega
  · have hi' : i < d'.size := by simpa using hi
    have c0 := (Sort.HoldsK.cell hH' (i := i) (c := 0) hi' (by omega)).1
    have c1 := (Sort.HoldsK.cell hH' (i := i) (c := 1) hi' (by omega)).1
    rw [getElem!_pos d' i hi'] at c0 c1
    have e1 : (d'.toList.map unF)[i] = unF d'[i] := by simp
    rw [e1]
    rw [show 0 + i * 2 + 0 = 2 * i by omega] at c0
    rw [show 0 + i * 2 + 1 = 2 * i + 1 by omega] at c1
    exact ⟨c0, c1⟩
theorem ssort_none (c : Nat) (w : World) :
    Calls Tryz.prog 58 #[.slice none 0 c, .func (.func 59) #[] #[]] w fun e w' => e = .returned (.tuple #[]) ∧ w' = w :=
  AnyF.slices_SortFunc_none { sortPart with } none c _ w
end Go.Proofs.YtpikakapflebkaaGreat

namespace Go.Proofs.YtpikakapflebkaaGreat
open Go.RowKit Cl

set_option maxRecDepth 100000 in
theorem part_info : (Tryz.prog.info? 56).map (fun i => (i.zero, i.size, i.bytes)) = some (some (.agg #[.slice none 0 0, .int .i64 0]), 2, 32) := by kernel_rfl
set_option maxRecDepth 100000 in
theorem map_size {w : World} {P : Program} {k : TypeId} {R : Value → Option (DataW Value × List MemPlace)} {b n : Nat} {D : DataW Value} (h : w.ownsMap P k R b n D) : Maps.size D ≤ n := by
  obtain ⟨es, clock, _, _, hs, rfl⟩ := h
  rw [Maps.size_eq, Go.length_sorted, List.length_map, Array.length_toList]
  exact hs
section
variable {q : Prm}
/-- What the loop has seen: all of the levels that are not to come. -/
structure Gathered (w : World) (D : DataW Value) (a : Poly (Zp q)) (left : Lit → Bool) (L : List Ent) : Prop where
  ent : ∀ x ∈ L, 1 ≤ x.2 ∧ Poly.lvl a x.2 ≠ 1 ∧ left (.int .i64 (x.2 : Int)) = false ∧ Ints w x.1.1 (Poly.lvl a x.2).len (fromP (Poly.lvl a x.2))
  all : ∀ k : Nat, 1 ≤ k → Poly.lvl a k ≠ 1 → left (.int .i64 (k : Int)) = false → ∃ x ∈ L, x.2 = k
  left : ∀ kl, left kl = true → Maps.has D kl = true
  dis : L.Pairwise fun x y => x.2 ≠ y.2
set_option maxRecDepth 100000 in
theorem Gathered.start {w : World} {D : DataW Value} {a : Poly (Zp q)} (h : Found w D a fun _ => True) : Gathered w D a (Maps.has D) [] :=
  { ent := fun x hx => by cases hx
    all := fun k h1 h2 h3 => by
      obtain ⟨A, c, g, _⟩ := h.at_ k h1 h2 trivial
      rw [g] at h3; cases h3
    left := fun _ h => h
    dis := List.Pairwise.nil }
set_option maxRecDepth 100000 in
theorem key_of {x : Int} {kl : Lit} (h : keyOf Tryz.prog 3 (.int .i64 x) = some kl) : kl = .int .i64 x := by
  obtain ⟨y, e, h2, _⟩ := Maps.keyOf_int_inv Tryz.underlying3 h
  cases e
  exact h2
set_option maxRecDepth 100000 in
/-- A step of the loop: an entry is one of the levels. -/
theorem Gathered.step {w : World} {D : DataW Value} {a : Poly (Zp q)} {left : Lit → Bool} {L : List Ent} (hf : Found w D a fun _ => True) (h : Gathered w D a left L) {x : Int} {c : Option Addr × Nat × Nat} {kl : Lit} {y : DataW Value × List MemPlace}
    (hk : keyOf Tryz.prog 3 (.int .i64 x) = some kl) (hl : left kl = true) (hR : slEl (mkSl c) = some y) (hat : ∀ zd, D.atKey kl zd = y.1) :
    ∃ (k : Nat) (A : Option Addr) (cp : Nat), x = (k : Int) ∧ mkSl c = .slice A (Poly.lvl a k).len cp ∧ 1 ≤ k ∧ Poly.lvl a k ≠ 1 ∧ Gathered w D a (fun z => left z && !z.sameKey kl) (L ++ [((A, cp), k)]) := by
  have e := key_of hk
  obtain ⟨k, e2, h1, h2, _⟩ := hf.key kl (h.left kl hl)
  obtain ⟨A, cp, g1, g2, g3⟩ := hf.at_ k h1 h2 trivial
  have e3 : x = (k : Int) := by rw [e] at e2; injection e2
  have e4 : mkSl c = .slice A (Poly.lvl a k).len cp := by
    have h5 := hat (.held undef)
    rw [e2, g2] at h5
    have h6 : y = (.held (mkSl c), []) := by
      have : slEl (mkSl c) = some (.held (mkSl c), []) := rfl
      rw [this] at hR; cases hR; rfl
    rw [h6] at h5
    injection h5 with h7
    exact h7.symm
  have hkey : WideAt.IsKeyLit kl := by rw [e2]; trivial
  refine ⟨k, A, cp, e3, e4, h1, h2, fun z hz => ?_, fun j hj1 hj2 hj3 => ?_, fun z hz => h.left z (by rw [Bool.and_eq_true] at hz; exact hz.1), ?_⟩
  · rcases List.mem_append.1 hz with hz | hz
    · obtain ⟨i1, i2, i3, i4⟩ := h.ent z hz
      exact ⟨i1, i2, by show (left _ && _) = false; rw [i3]; rfl, i4⟩
    · rw [List.mem_singleton] at hz
      subst hz
      refine ⟨h1, h2, ?_, g3⟩
      show (left _ && !Lit.sameKey (.int .i64 (k : Int)) kl) = false
      rw [← e2, WideAt.sameKey_self hkey]; simp
  · by_cases e5 : j = k
    · exact ⟨_, List.mem_append_right _ (List.mem_singleton.2 rfl), e5.symm⟩
    · have : left (.int .i64 (j : Int)) = false := by
        have h8 : (left (.int .i64 (j : Int)) && !Lit.sameKey (.int .i64 (j : Int)) kl) = false := hj3
        rw [e2, Maps.sameKey_ne (fun e6 => by injection e6; omega)] at h8
        simpa using h8
      obtain ⟨z, hz, e7⟩ := h.all j hj1 hj2 this
      exact ⟨z, List.mem_append_left _ hz, e7⟩
  · rw [List.pairwise_append]
    refine ⟨h.dis, List.pairwise_singleton _ _, fun z hz u hu => ?_⟩
    rw [List.mem_singleton] at hu
    subst hu
    intro e8
    have := (h.ent z hz).2.2.1
    rw [show z.2 = k from e8, ← e2, hl] at this
    cases this
set_option maxRecDepth 100000 in
/-- The numbers, sorted, are those of the levels. -/
theorem Gathered.keys {w : World} {D : DataW Value} {a : Poly (Zp q)} {left : Lit → Bool} {L L' : List Ent} (ha : a ≠ 0) (h : Gathered w D a left L) (hl : ∀ kl, left kl = false) (hp : L'.Perm L) (hs : L'.Pairwise fun x y => x.2 ≤ y.2) : L'.map (·.2) = Poly.lvls a := by
  refine rising_ext ?_ (Poly.lvls_rising a) fun k => ?_
  · rw [List.pairwise_map]
    have h1 : L'.Pairwise fun x y => x.2 ≠ y.2 := hp.symm.pairwise h.dis (fun hxy e => hxy e.symm)
    exact (hs.and h1).imp fun h => by omega
  · rw [Poly.mem_lvls ha, List.mem_map]
    constructor
    · rintro ⟨x, hx, rfl⟩
      have := h.ent x (hp.mem_iff.1 hx)
      exact ⟨this.1, this.2.1⟩
    · intro ⟨h1, h2⟩
      obtain ⟨x, hx, e⟩ := h.all k h1 h2 (hl _)
      exact ⟨x, hp.mem_iff.2 hx, e⟩
set_option maxRecDepth 100000 in
theorem Gathered.done {w w' : World} {D : DataW Value} {a : Poly (Zp q)} {left : Lit → Bool} {L L' : List Ent} {g : Nat} (ha : a ≠ 0) (h : Gathered w D a left L) (hl : ∀ kl, left kl = false) (hp : L'.Perm L) (hs : L'.Pairwise fun x y => x.2 ≤ y.2) (hb : Below w.heap.size w w') (hg : g < w'.heap.size)
    (hc : ∀ i (h : i < L'.length), w'.cell? ⟨g, 2 * i, none⟩ = some (.slice (L'[i]).1.1 (Poly.lvl a (L'[i]).2).len (L'[i]).1.2) ∧ w'.cell? ⟨g, 2 * i + 1, none⟩ = some (.int .i64 ((L'[i]).2 : Int))) :
    L.length = (Poly.partsL a).length ∧ Prs w' (some ⟨g, 0, none⟩) (Poly.partsL a).length (Poly.partsL a) := by
  have hk := h.keys ha hl hp hs
  have e : Poly.partsL a = L'.map fun x => (Poly.lvl a x.2, x.2) := by
    unfold Poly.partsL
    rw [← hk, List.map_map]; rfl
  refine ⟨by rw [e, List.length_map, hp.length_eq], rfl, fun _ => ⟨g, 0, rfl, hg, fun i hi => ?_⟩⟩
  have hi' : i < L'.length := by rw [e, List.length_map] at hi; exact hi
  obtain ⟨c0, c1⟩ := hc i hi'
  have hin := (h.ent _ (hp.mem_iff.1 (List.getElem_mem hi'))).2.2.2
  have eg : (Poly.partsL a)[i] = (Poly.lvl a (L'[i]).2, (L'[i]).2) := by
    have : (Poly.partsL a)[i]? = (L'.map fun x => (Poly.lvl a x.2, x.2))[i]? := by rw [e]
    rw [List.getElem?_eq_getElem hi, List.getElem?_map, List.getElem?_eq_getElem hi'] at this
    exact Option.some.inj this
  refine ⟨(L'[i]).1.1, (L'[i]).1.2, ?_, ?_, ?_⟩
  · rw [eg, Nat.zero_add]; exact c0
  · rw [eg, Nat.zero_add]; exact c1
  · rw [eg]; exact hin.bel hb
set_option maxRecDepth 100000 in
/-- No level: nothing is handed back. -/
theorem Gathered.none_ {w : World} {D : DataW Value} {a : Poly (Zp q)} {left : Lit → Bool} (ha : a ≠ 0) (h : Gathered w D a left []) (hl : ∀ kl, left kl = false) : Poly.partsL a = [] := by
  have := h.keys ha hl (L' := []) (List.Perm.refl _) List.Pairwise.nil
  unfold Poly.partsL
  rw [← this]; rfl
end
end Go.Proofs.YtpikakapflebkaaGreat
