/- Words on memory: polynomials, each beside a number, two cells each; the levels of a polynomial as a list. No program in sight.
   Plain facts on levels: their product is the radical; how a polynomial is made of them. No program in sight.
   Plain facts on the document's radical and parts. No program in sight.
   Plain facts: how many factors there are; factors collected level by level. No program in sight. -/
import Derived.Test.YtpikakapflebkaaGreatBase
import Derived.Test.YtpikakapflebkaaGreatPolyB
import Derived.Test.YtpikakapflebkaaGreatPolyTop
namespace Cl
open Go Go.RowKit

/-- A slice's header and a number: where a polynomial lies, and how often it is one. -/
abbrev Ent := (Option Addr × Nat) × Nat
/-- An entry's cells; len tells how long its polynomial is. -/
def pcell (len : Nat → Nat) (x : Ent) : List Value := [.slice x.1.1 (len x.2) x.1.2, .int .i64 (x.2 : Int)]
def pcells (len : Nat → Nat) (L : List Ent) : List Value := L.flatMap (pcell len)
theorem pcells_length (len : Nat → Nat) (L : List Ent) : (pcells len L).length = L.length * 2 := by
  induction L with
  | nil => rfl
  | cons x L ih => unfold pcells at *; rw [List.flatMap_cons, List.length_append, ih]; show 2 + _ = _; rw [List.length_cons]; omega
theorem pcells_snoc (len : Nat → Nat) (L : List Ent) (x : Ent) : pcells len (L ++ [x]) = pcells len L ++ pcell len x := by simp [pcells, List.flatMap_append]
theorem pcells_get0 {len : Nat → Nat} : ∀ {L : List Ent} {i : Nat} (h : i < L.length), (pcells len L)[2 * i]? = some (.slice (L[i]).1.1 (len (L[i]).2) (L[i]).1.2)
  | [], _, h => by simp at h
  | x :: L, 0, _ => rfl
  | x :: L, i + 1, h => by
    have := pcells_get0 (len := len) (L := L) (i := i) (by simpa using h)
    show (pcell len x ++ pcells len L)[2 * (i + 1)]? = _
    rw [List.getElem?_append_right (by show 2 ≤ _; omega)]
    show (pcells len L)[2 * (i + 1) - 2]? = _
    rw [show 2 * (i + 1) - 2 = 2 * i by omega, this]; rfl
theorem pcells_get1 {len : Nat → Nat} : ∀ {L : List Ent} {i : Nat} (h : i < L.length), (pcells len L)[2 * i + 1]? = some (.int .i64 ((L[i]).2 : Int))
  | [], _, h => by simp at h
  | x :: L, 0, _ => rfl
  | x :: L, i + 1, h => by
    have := pcells_get1 (len := len) (L := L) (i := i) (by simpa using h)
    show (pcell len x ++ pcells len L)[2 * (i + 1) + 1]? = _
    rw [List.getElem?_append_right (by show 2 ≤ _; omega)]
    show (pcells len L)[2 * (i + 1) + 1 - 2]? = _
    rw [show 2 * (i + 1) + 1 - 2 = 2 * i + 1 by omega, this]; rfl
theorem pcells_oneCell (len : Nat → Nat) (L : List Ent) : ∀ u ∈ pcells len L, u.oneCell' = true := by
  intro u hu
  simp only [pcells, List.mem_flatMap] at hu
  obtain ⟨x, _, hx⟩ := hu
  simp only [pcell, List.mem_cons, List.not_mem_nil, or_false] at hx
  rcases hx with rfl | rfl <;> rfl

section
variable {q : Prm}
/-- The slice at A, of n elements, tells polynomials, each beside a number. -/
structure Prs (w : World) (A : Option Addr) (n : Nat) (L : List (Poly (Zp q) × Nat)) : Prop where
  len : L.length = n
  at_ : 0 < n → ∃ b o, A = some ⟨b, o, none⟩ ∧ b < w.heap.size ∧ ∀ i (h : i < L.length), ∃ Ai ci, w.cell? ⟨b, o + 2 * i, none⟩ = some (.slice Ai (L[i]).1.len ci) ∧ w.cell? ⟨b, o + (2 * i + 1), none⟩ = some (.int .i64 ((L[i]).2 : Int)) ∧ Ints w Ai (L[i]).1.len (fromP (L[i]).1)
theorem Prs.bel {w w' : World} {A : Option Addr} {n : Nat} {L : List (Poly (Zp q) × Nat)} (h : Prs w A n L) (hb : Below w.heap.size w w') : Prs w' A n L :=
  ⟨h.len, fun hn => by
    obtain ⟨b, o, e, hlt, hc⟩ := h.at_ hn
    refine ⟨b, o, e, Nat.lt_of_lt_of_le hlt hb.size, fun i hi => ?_⟩
    obtain ⟨Ai, ci, h1, h2, h3⟩ := hc i hi
    exact ⟨Ai, ci, (hb.cell (p := ⟨b, o + 2 * i, none⟩) hlt).trans h1, (hb.cell (p := ⟨b, o + (2 * i + 1), none⟩) hlt).trans h2, h3.bel hb⟩⟩
theorem Prs.drewN {w : World} {A : Option Addr} {n : Nat} {L : List (Poly (Zp q) × Nat)} (h : Prs w A n L) (k : Nat) : Prs (w.drewN k) A n L := h.bel (below_drewN (Below.refl _ _) k)
theorem Prs.nil (w : World) (A : Option Addr) : Prs (q := q) w A 0 [] := ⟨rfl, fun h => absurd h (by omega)⟩
end

/-! The levels of a polynomial as a list. -/
/-- Two rising lists of the same numbers are one. -/
theorem rising_ext : ∀ {l m : List Nat}, l.Pairwise (· < ·) → m.Pairwise (· < ·) → (∀ x, x ∈ l ↔ x ∈ m) → l = m
  | [], [], _, _, _ => rfl
  | [], y :: m, _, _, h => absurd ((h y).2 (List.mem_cons_self ..)) (by simp)
  | x :: l, [], _, _, h => absurd ((h x).1 (List.mem_cons_self ..)) (by simp)
  | x :: l, y :: m, hl, hm, h => by
    obtain ⟨hl1, hl2⟩ := List.pairwise_cons.1 hl
    obtain ⟨hm1, hm2⟩ := List.pairwise_cons.1 hm
    have e : x = y := by
      rcases List.mem_cons.1 ((h x).1 (List.mem_cons_self ..)) with e | hx
      · exact e
      · rcases List.mem_cons.1 ((h y).2 (List.mem_cons_self ..)) with e | hy
        · exact e.symm
        · have := hm1 x hx
          have := hl1 y hy
          omega
    subst e
    rw [rising_ext hl2 hm2 fun z => ?_]
    constructor
    · intro hz
      rcases List.mem_cons.1 ((h z).1 (List.mem_cons_of_mem _ hz)) with e | hz'
      · have := hl1 z hz; omega
      · exact hz'
    · intro hz
      rcases List.mem_cons.1 ((h z).2 (List.mem_cons_of_mem _ hz)) with e | hz'
      · have := hm1 z hz; omega
      · exact hz'
namespace Poly
variable {F : Type} [CField F]
open Classical in
/-- How often a polynomial's factors are in it: all numbers, rising. -/
noncomputable def lvls (a : Poly F) : List Nat := (List.range a.len).filter fun k => decide (1 ≤ k ∧ lvl a k ≠ 1)
/-- The parts. -/
noncomputable def partsL (a : Poly F) : List (Poly F × Nat) := (lvls a).map fun k => (lvl a k, k)
theorem lvl_lt {a : Poly F} (ha : a ≠ 0) {k : Nat} (hk : 1 ≤ k) (h : lvl a k ≠ 1) : k < a.len := by
  obtain ⟨f, hf, hv⟩ := (lvl_mon ha k).exists_irr_of_ne h
  rw [val_lvl ha hk hf] at hv
  split at hv
  · next e => rw [← e]; exact val_lt ha hf
  · omega
theorem mem_lvls {a : Poly F} (ha : a ≠ 0) {k : Nat} : k ∈ lvls a ↔ 1 ≤ k ∧ lvl a k ≠ 1 := by
  unfold lvls
  rw [List.mem_filter, List.mem_range]
  constructor
  · intro ⟨_, h⟩; simpa using h
  · intro ⟨h1, h2⟩; exact ⟨lvl_lt ha h1 h2, by simpa using ⟨h1, h2⟩⟩
theorem lvls_rising (a : Poly F) : (lvls a).Pairwise (· < ·) := (List.pairwise_lt_range).filter _
end Poly
end Cl

namespace Cl
namespace Poly
section
variable {F : Type} [CField F]
/-- The product of the levels of a list of numbers. -/
noncomputable def prodL (a : Poly F) (l : List Nat) : Poly F := l.foldl (fun P k => P * lvl a k) 1
theorem prodL_snoc (a : Poly F) (l : List Nat) (k : Nat) : prodL a (l ++ [k]) = prodL a l * lvl a k := by simp [prodL, List.foldl_append]
theorem one_mon : (1 : Poly F).Mon := by
  have := Poly.len_one (F := F)
  show (1 : Poly F).lc = 1
  unfold lc
  rw [this]
  show (1 : Poly F).co 0 = 1
  rw [co_one, if_pos rfl]
theorem list_snoc {α : Type} {P : List α → Prop} (h0 : P []) (h1 : ∀ l x, P l → P (l ++ [x])) : ∀ l, P l := by
  intro l
  have : ∀ n (l : List α), l.length = n → P l := by
    intro n
    induction n with
    | zero => intro l h; rw [List.eq_nil_of_length_eq_zero h]; exact h0
    | succ n ih =>
      intro l h
      have hne : l ≠ [] := fun e => by rw [e] at h; simp at h
      rw [← List.dropLast_concat_getLast hne]
      exact h1 _ _ (ih _ (by rw [List.length_dropLast]; omega))
  exact this _ l rfl
theorem prodL_mon {a : Poly F} (ha : a ≠ 0) : ∀ l : List Nat, (prodL a l).Mon :=
  list_snoc one_mon fun l k h => by rw [prodL_snoc]; exact h.mul (lvl_mon ha k)
theorem val_prodL {a : Poly F} (ha : a ≠ 0) {f : Poly F} (hf : f.Irr) : ∀ l : List Nat, l.Pairwise (· < ·) → (∀ k ∈ l, 1 ≤ k) → val f (prodL a l) = if val f a ∈ l then 1 else 0 :=
  list_snoc (fun _ _ => by simp [prodL, val_one hf]) fun l k ih hp h1 => by
    rw [List.pairwise_append] at hp
    rw [prodL_snoc, hf.val_mul (prodL_mon ha l).ne (lvl_mon ha k).ne, ih hp.1 fun j hj => h1 j (List.mem_append_left _ hj), val_lvl ha (h1 k (List.mem_append_right _ (List.mem_singleton.2 rfl))) hf]
    by_cases e : val f a = k
    · have hn : ¬ val f a ∈ l := fun hm => by have := hp.2.2 _ hm k (List.mem_singleton.2 rfl); omega
      rw [if_neg hn, if_pos e, if_pos (List.mem_append_right _ (List.mem_singleton.2 e))]
    · rw [if_neg e]
      by_cases hm : val f a ∈ l
      · rw [if_pos hm, if_pos (List.mem_append_left _ hm)]
      · rw [if_neg hm, if_neg fun h => (List.mem_append.1 h).elim hm fun h2 => e (List.mem_singleton.1 h2)]
theorem prodL_rad {a : Poly F} (ha : a ≠ 0) : prodL a (lvls a) = rad a :=
  (prodL_mon ha _).eq_rad ha fun f hf => by
    rw [val_prodL ha hf _ (lvls_rising a) fun k hk => ((mem_lvls ha).1 hk).1]
    by_cases h : 1 ≤ val f a
    · rw [if_pos h, if_pos ((mem_lvls ha).2 ⟨h, fun e => (lvl_one_iff ha h).1 e f hf rfl⟩)]
    · rw [if_neg h, if_neg fun hm => h ((mem_lvls ha).1 hm).1]
theorem len_of_val {a P : Poly F} (ha : a ≠ 0) (hP : P ≠ 0) (h : ∀ f, f.Irr → val f P ≤ val f a) : P.len ≤ a.len := len_le_of_dvd (dvd_of_val hP ha h) ha
theorem lvl_len {a : Poly F} (ha : a ≠ 0) {k : Nat} (hk : 1 ≤ k) : (lvl a k).len ≤ a.len :=
  len_of_val ha (lvl_mon ha k).ne fun f hf => by rw [val_lvl ha hk hf]; split <;> omega
theorem rad_len {a : Poly F} (ha : a ≠ 0) : (rad a).len ≤ a.len :=
  len_of_val ha (rad_mon ha).ne fun f hf => by rw [val_rad ha hf]; split <;> omega
theorem prodL_len {a : Poly F} (ha : a ≠ 0) {l : List Nat} (hp : l.Pairwise (· < ·)) (h1 : ∀ k ∈ l, 1 ≤ k) : (prodL a l).len ≤ a.len :=
  len_of_val ha (prodL_mon ha l).ne fun f hf => by
    rw [val_prodL ha hf l hp h1]
    split
    · next h => exact h1 _ h
    · omega
theorem prodL_take_len {a : Poly F} (ha : a ≠ 0) (i : Nat) : (prodL a ((lvls a).take i)).len ≤ a.len :=
  prodL_len ha ((lvls_rising a).sublist (List.take_sublist _ _)) fun _ hk => ((mem_lvls ha).1 (List.mem_of_mem_take hk)).1
theorem take_succ_get {α : Type} {l : List α} {i : Nat} (h : i < l.length) : l.take (i + 1) = l.take i ++ [l[i]] := by rw [List.take_add_one, List.getElem?_eq_getElem h]; rfl
theorem partsL_length (a : Poly F) : (partsL a).length = (lvls a).length := by simp [partsL]
theorem partsL_get (a : Poly F) (i : Nat) (h : i < (partsL a).length) : (partsL a)[i] = (lvl a ((lvls a)[i]'(by rwa [partsL_length] at h)), (lvls a)[i]'(by rwa [partsL_length] at h)) := by
  simp [partsL]
end
end Poly
end Cl

namespace Cl
namespace Poly
section
variable {F : Type} [CField F]
theorem rad_congr {a b : Poly F} (ha : a ≠ 0) (hb : b ≠ 0) (h : ∀ f, f.Irr → (1 ≤ val f a ↔ 1 ≤ val f b)) : rad a = rad b :=
  (rad_mon ha).eq_rad hb fun f hf => by
    rw [val_rad ha hf]
    by_cases h1 : 1 ≤ val f a
    · rw [if_pos h1, if_pos ((h f hf).1 h1)]
    · rw [if_neg h1, if_neg fun h2 => h1 ((h f hf).2 h2)]
theorem rad_monic {a : Poly F} (ha : a ≠ 0) : rad a.monic = rad a := rad_congr (monic_mon ha).ne ha fun f hf => by rw [hf.val_monic ha]
theorem rad_one : rad (1 : Poly F) = 1 := (rad_mon one_mon.ne).eq_one_of_val fun f hf => by rw [val_rad one_mon.ne hf, val_one hf]; rfl
theorem rad_small {a : Poly F} (ha : a ≠ 0) (h : a.monic.len ≤ 1) : rad a = 1 := by
  have h1 := len_pos (monic_mon ha).ne
  rw [← rad_monic ha, (monic_mon ha).one_of_len (by omega), rad_one]
theorem rad_ne_one {a : Poly F} (ha : a.Mon) (h : a ≠ 1) : 1 < (rad a).len := by
  obtain ⟨f, hf, hv⟩ := ha.exists_irr_of_ne h
  refine (rad_mon ha.ne).len_gt.2 fun e => ?_
  have := val_rad ha.ne hf
  rw [e, val_one hf, if_pos hv] at this
  omega
theorem rad_dvd {a : Poly F} (ha : a ≠ 0) : rad a ∣ a := dvd_of_val (rad_mon ha).ne ha fun f hf => by rw [val_rad ha hf]; split <;> omega
/-- The document's loop that strikes from a all factors of b. -/
structure Wo (a b W : Poly F) : Prop where
  mon : W.Mon
  keep : ∀ f, f.Irr → val f b = 0 → val f W = val f a
  le : ∀ f, f.Irr → val f W ≤ val f a
theorem Wo.start {a b : Poly F} (ha : a.Mon) : Wo a b a := ⟨ha, fun _ _ _ => rfl, fun _ _ => Nat.le_refl _⟩
theorem Wo.step {a b W : Poly F} (h : Wo a b W) (hb : b ≠ 0) (hg : 1 < (gcdP W b).len) : Wo a b (quo W (gcdP W b)) ∧ (quo W (gcdP W b)).len < W.len := by
  have hi := gcd_is W b
  have hm := hi.mon_of (.inl h.mon.ne)
  have hv : ∀ f, f.Irr → val f (quo W (gcdP W b)) = val f W - min (val f W) (val f b) := fun f hf => by rw [val_quo hf h.mon.ne hm.ne hi.l, hi.val h.mon.ne hb hf]
  refine ⟨⟨quo_mon h.mon hm hi.l, fun f hf h0 => by rw [hv f hf, h0, ← h.keep f hf h0]; omega, fun f hf => by rw [hv f hf]; have := h.le f hf; omega⟩, ?_⟩
  have h1 := (quo_mon h.mon hm hi.l).ne
  have h2 : W.len = (quo W (gcdP W b)).len + (gcdP W b).len - 1 := by
    have h3 := (len_mul h1 hm.ne).1
    rw [quo_mul hm.ne hi.l] at h3
    exact h3
  omega
theorem Wo.done {a b W : Poly F} (h : Wo a b W) (hb : b ≠ 0) (hg : ¬ 1 < (gcdP W b).len) : ∀ f, f.Irr → val f W = if 1 ≤ val f b then 0 else val f a := fun f hf => by
  have hi := gcd_is W b
  have hm := hi.mon_of (.inl h.mon.ne)
  have h1 : gcdP W b = 1 := Classical.byContradiction fun h => hg (hm.len_gt.2 h)
  have h2 := hi.val h.mon.ne hb hf
  rw [h1, val_one hf] at h2
  split
  · omega
  · exact h.keep f hf (by omega)
open Classical in
/-- The levels' numbers less than n. -/
noncomputable def lvlsTo (a : Poly F) (n : Nat) : List Nat := (List.range n).filter fun k => decide (1 ≤ k ∧ lvl a k ≠ 1)
theorem lvlsTo_one (a : Poly F) : lvlsTo a 1 = [] := by simp [lvlsTo]
theorem lvlsTo_yes {a : Poly F} {n : Nat} (hn : 1 ≤ n) (h : lvl a n ≠ 1) : lvlsTo a (n + 1) = lvlsTo a n ++ [n] := by
  unfold lvlsTo
  rw [List.range_succ, List.filter_append, List.filter_cons_of_pos (by simp [h]; omega)]
  rfl
theorem lvlsTo_no {a : Poly F} {n : Nat} (h : lvl a n = 1) : lvlsTo a (n + 1) = lvlsTo a n := by
  unfold lvlsTo
  rw [List.range_succ, List.filter_append, List.filter_cons_of_neg (by simp [h])]
  simp
theorem lvlsTo_all {a : Poly F} (ha : a ≠ 0) {n : Nat} (h : ∀ k, n ≤ k → 1 ≤ k → lvl a k = 1) : lvlsTo a n = lvls a := by
  refine rising_ext ((List.pairwise_lt_range).filter _) (lvls_rising a) fun k => ?_
  rw [mem_lvls ha]
  unfold lvlsTo
  rw [List.mem_filter, List.mem_range]
  constructor
  · intro ⟨_, h2⟩; simpa using h2
  · intro ⟨h1, h2⟩
    refine ⟨Nat.lt_of_not_le fun hk => h2 (h k hk h1), by simpa using ⟨h1, h2⟩⟩
/-- The document's loop over the levels, ahead of level n. -/
structure Lv (a : Poly F) (n : Nat) (l : Poly F) : Prop where
  mon : l.Mon
  val : ∀ f, f.Irr → val f l = Poly.val f a - (n - 1)
theorem Lv.start {a : Poly F} (ha : a ≠ 0) : Lv a 1 a.monic := ⟨monic_mon ha, fun f hf => by rw [hf.val_monic ha]; omega⟩
theorem Lv.step {a l : Poly F} {n : Nat} (h : Lv a n l) (hn : 1 ≤ n) (ha : a ≠ 0) (hl : 1 < l.len) :
    Lv a (n + 1) (quo l (rad l)) ∧ (quo l (rad l)).len < l.len ∧ quo (rad l) (rad (quo l (rad l))) = lvl a n := by
  have hd := rad_dvd h.mon.ne
  have hr := rad_mon h.mon.ne
  have hq := quo_mon h.mon hr hd
  have hv : ∀ f, f.Irr → Poly.val f (quo l (rad l)) = Poly.val f a - n := fun f hf => by
    rw [val_quo hf h.mon.ne hr.ne hd, val_rad h.mon.ne hf, h.val f hf]
    split <;> omega
  have hd2 : rad (quo l (rad l)) ∣ rad l := dvd_of_val (rad_mon hq.ne).ne hr.ne fun f hf => by
    rw [val_rad hq.ne hf, val_rad h.mon.ne hf, hv f hf, h.val f hf]
    split
    · rw [if_pos (by omega)]; omega
    · omega
  refine ⟨⟨hq, fun f hf => by rw [hv f hf]; omega⟩, ?_, ?_⟩
  · have h1 := rad_ne_one h.mon (h.mon.len_gt.1 hl)
    have h5 := (len_mul hq.ne hr.ne).1
    rw [quo_mul hr.ne hd] at h5
    omega
  · refine (quo_mon hr (rad_mon hq.ne) hd2).eq_lvl ha hn fun f hf => ?_
    rw [val_quo hf hr.ne (rad_mon hq.ne).ne hd2, val_rad h.mon.ne hf, val_rad hq.ne hf, hv f hf, h.val f hf]
    by_cases e : Poly.val f a = n
    · rw [if_pos (by omega), if_neg (by omega), if_pos e]
    · rw [if_neg e]
      by_cases e2 : 1 ≤ Poly.val f a - n
      · rw [if_pos (by omega), if_pos e2]
      · rw [if_neg (by omega), if_neg e2]
theorem Lv.done {a l : Poly F} {n : Nat} (h : Lv a n l) (ha : a ≠ 0) (hn : 1 ≤ n) (hl : ¬ 1 < l.len) : lvlsTo a n = lvls a := by
  have h1 : l = 1 := Classical.byContradiction fun h' => hl (h.mon.len_gt.2 h')
  refine lvlsTo_all ha fun k hk h1' => (lvl_one_iff ha h1').2 fun f hf e => ?_
  have := h.val f hf
  rw [h1, val_one hf] at this
  omega
end
section
variable {q : Prm}
theorem rad_root {m : Poly (Zp q)} (hm : m.Mon) (hD : m.D = 0) : rad m.root = rad m :=
  rad_congr (hm.root_mon hD).ne hm.ne fun f hf => by
    rw [← val_root hm.ne hD hf]
    have hp : 1 ≤ q.p.toNat := by have := q.pr.two; omega
    constructor
    · intro h; exact Nat.mul_pos hp h
    · intro h; rcases Nat.eq_zero_or_pos (val f m.root) with e | e
      · rw [e] at h; omega
      · exact e
theorem root_shorter {m : Poly (Zp q)} (hm : m.Mon) (hD : m.D = 0) (h : 1 < m.len) : m.root.len < m.len := by
  have h1 := root_len hm.ne hD
  have h4 : 2 ≤ q.p.toNat := by have := q.pr.two; omega
  have : 2 * (m.root.len - 1) ≤ q.p.toNat * (m.root.len - 1) := Nat.mul_le_mul_right _ h4
  omega
theorem D_shorter {m : Poly (Zp q)} (h : m ≠ 0) : m.D.len < m.len := by
  have h1 := len_pos h
  have : m.D.len ≤ m.len - 1 := len_le fun i hi => by rw [co_D, len_sh m (i + 1) (by omega), CRing.nsmul_of_zero]
  omega
theorem rad_step {m W : Poly (Zp q)} (hm : m.Mon) (hD : m.D ≠ 0) (hW : W.Mon) (hv : ∀ f, f.Irr → val f W = if 1 ≤ val f (quo m (gcdP m m.D)) then 0 else val f (gcdP m m.D)) :
    (quo m (gcdP m m.D)).Mon ∧ (gcdP m m.D).Mon ∧ quo m (gcdP m m.D) * rad W = rad m ∧ W.len < m.len := by
  have hi := gcd_is m m.D
  have hg := hi.mon_of (.inl hm.ne)
  have hq := quo_mon hm hg hi.l
  have hvg : ∀ f, f.Irr → val f (gcdP m m.D) = if q.p.toNat ∣ val f m then val f m else val f m - 1 := fun f hf => hf.val_gcd_D hm.ne hi
  have hvq : ∀ f, f.Irr → val f (quo m (gcdP m m.D)) = if q.p.toNat ∣ val f m then 0 else 1 := fun f hf => by
    rw [val_quo hf hm.ne hg.ne hi.l, hvg f hf]
    split
    · omega
    · next h =>
      have : val f m ≠ 0 := fun e => h (by rw [e]; exact ⟨0, by omega⟩)
      omega
  refine ⟨hq, hg, ?_, ?_⟩
  · refine (hq.mul (rad_mon hW.ne)).eq_rad hm.ne fun f hf => ?_
    rw [hf.val_mul hq.ne (rad_mon hW.ne).ne, hvq f hf, val_rad hW.ne hf, hv f hf, hvq f hf, hvg f hf]
    by_cases h : q.p.toNat ∣ val f m
    · simp only [if_pos h]
      rw [if_neg (by omega : ¬ 1 ≤ 0)]
      omega
    · simp only [if_neg h]
      have : val f m ≠ 0 := fun e => h (by rw [e]; exact ⟨0, by omega⟩)
      rw [if_pos (by omega : 1 ≤ 1), if_neg (by omega : ¬ 1 ≤ 0), if_pos (by omega)]
  · have h1 : W ∣ gcdP m m.D := dvd_of_val hW.ne hg.ne fun f hf => by rw [hv f hf]; split <;> omega
    have h2 := len_le_of_dvd h1 hg.ne
    have h3 := len_le_of_dvd hi.r hD
    have h4 := D_shorter hm.ne
    omega
end
end Poly
end Cl

namespace Cl
open CRing Poly
namespace Poly
section
variable {F : Type} [CField F]
theorem count_le : ∀ (l : List (Poly F)) (a : Poly F), a ≠ 0 → l.Pairwise (· ≠ ·) → (∀ f ∈ l, f.Irr ∧ f ∣ a) → l.length + 1 ≤ a.len
  | [], a, ha, _, _ => by have := len_pos ha; show 0 + 1 ≤ a.len; omega
  | f :: l, a, ha, hp, hd => by
    rw [List.pairwise_cons] at hp
    obtain ⟨hf, b, hb⟩ := hd f List.mem_cons_self
    have hb0 : b ≠ 0 := fun e => ha (by rw [hb, e, mul_zero])
    have h1 := count_le l b hb0 hp.2 fun g hg => by
      obtain ⟨h2, h3⟩ := hd g (List.mem_cons_of_mem _ hg)
      rw [hb] at h3
      rcases h2.prime h3 with h4 | h4
      · exact absurd (h2.eq_of_dvd hf h4) (fun e => hp.1 g hg e.symm)
      · exact ⟨h2, h4⟩
    have h5 := (len_mul hf.ne hb0).1
    rw [← hb] at h5
    have := hf.len
    rw [List.length_cons]
    omega
end
variable {q : Prm}
theorem IsFac.irr {a : Poly (Zp q)} {L : List (Poly (Zp q) × Nat)} (h : IsFac a L) {x : Poly (Zp q) × Nat} (hx : x ∈ L) : x.1.Irr ∧ 1 ≤ x.2 ∧ val x.1 a = x.2 := (h.mem x.1 x.2).1 hx
theorem IsFac.ne {a : Poly (Zp q)} {L : List (Poly (Zp q) × Nat)} (h : IsFac a L) : (L.map (·.1)).Pairwise (· ≠ ·) := by
  rw [List.pairwise_map]
  refine h.ord.imp ?_
  intro x y hb e
  rw [e] at hb
  exact Bef.irrefl y.1 hb
theorem IsFac.len {a : Poly (Zp q)} {L : List (Poly (Zp q) × Nat)} (ha : a ≠ 0) (h : IsFac a L) : L.length + 1 ≤ a.len := by
  have := count_le (L.map (·.1)) a ha h.ne fun f hf => by
    obtain ⟨x, hx, rfl⟩ := List.mem_map.1 hf
    obtain ⟨h1, h2, h3⟩ := h.irr hx
    exact ⟨h1, (h1.dvd_val ha).2 (by omega)⟩
  rwa [List.length_map] at this
theorem IsFac.small {a : Poly (Zp q)} {L : List (Poly (Zp q) × Nat)} (ha : a ≠ 0) (h : IsFac a L) {x : Poly (Zp q) × Nat} (hx : x ∈ L) : 1 < x.1.len ∧ x.1.len ≤ a.len ∧ 1 ≤ x.2 ∧ x.2 < a.len := by
  obtain ⟨h1, h2, h3⟩ := h.irr hx
  have h4 := val_lt ha h1
  exact ⟨h1.len, len_le_of_dvd ((h1.dvd_val ha).2 (by omega)) ha, h2, by omega⟩
/-- What is collected: all factors of the first i levels, and the next one's first j. -/
structure Coll (a : Poly (Zp q)) (i : Nat) (ls : List (Poly (Zp q))) (j : Nat) (L : List (Poly (Zp q) × Nat)) : Prop where
  mem : ∀ f n, (f, n) ∈ L ↔ (∃ t, t < i ∧ ∃ h : t < (lvls a).length, (lvls a)[t] = n ∧ f.Irr ∧ f ∣ lvl a n) ∨ ((∃ h : i < (lvls a).length, (lvls a)[i] = n) ∧ f ∈ ls.take j)
  ne : L.Pairwise (fun x y => x.1 ≠ y.1)
theorem Coll.start (a : Poly (Zp q)) : Coll a 0 [] 0 [] := by
  refine ⟨fun f n => ⟨fun h => ?_, fun h => ?_⟩, List.Pairwise.nil⟩
  · cases h
  · rcases h with ⟨t, ht, _⟩ | ⟨_, h⟩
    · omega
    · simp at h
theorem Coll.head {a : Poly (Zp q)} {i : Nat} {ls ls' : List (Poly (Zp q))} {L : List (Poly (Zp q) × Nat)} (h : Coll a i ls 0 L) : Coll a i ls' 0 L :=
  ⟨fun f n => by rw [h.mem f n, List.take_zero, List.take_zero], h.ne⟩
theorem Coll.next {a : Poly (Zp q)} {i : Nat} {ls : List (Poly (Zp q))} {j : Nat} {L : List (Poly (Zp q) × Nat)} (ha : a ≠ 0) (h : Coll a i ls j L) (hi : i < (lvls a).length) (hs : IsSpl (lvl a (lvls a)[i]) ls) (hj : j < ls.length) :
    Coll a i ls (j + 1) (L ++ [(ls[j], (lvls a)[i])]) := by
  have hl1 := (mem_lvls ha).1 (List.getElem_mem hi)
  refine ⟨fun f n => ?_, ?_⟩
  · rw [List.mem_append, h.mem f n, List.take_add_one, List.mem_append, List.getElem?_eq_getElem hj, List.mem_singleton, Option.toList_some, List.mem_singleton]
    constructor
    · rintro (h1 | h1)
      · rcases h1 with h2 | ⟨h2, h3⟩
        · exact .inl h2
        · exact .inr ⟨h2, .inl h3⟩
      · have e1 : f = ls[j] := (Prod.mk.inj h1).1
        have e2 : n = (lvls a)[i] := (Prod.mk.inj h1).2
        exact .inr ⟨⟨hi, e2.symm⟩, .inr e1⟩
    · rintro (h1 | ⟨⟨h2, h3⟩, h4 | h4⟩)
      · exact .inl (.inl h1)
      · exact .inl (.inr ⟨⟨h2, h3⟩, h4⟩)
      · exact .inr (by rw [h4, h3])
  · rw [List.pairwise_append]
    refine ⟨h.ne, List.pairwise_singleton _ _, fun x hx y hy e => ?_⟩
    rw [List.mem_singleton] at hy
    subst hy
    have e' : x.1 = ls[j] := e
    have hirr := (hs.mem ls[j]).1 (List.getElem_mem hj)
    have hv := (hirr.1.dvd_val (lvl_mon ha _).ne).1 hirr.2
    rw [val_lvl ha hl1.1 hirr.1] at hv
    have hv2 : val ls[j] a = (lvls a)[i] := by
      by_cases h5 : val ls[j] a = (lvls a)[i]
      · exact h5
      · rw [if_neg h5] at hv; omega
    rcases (h.mem x.1 x.2).1 hx with ⟨t, ht, h2, h3, h4, h5⟩ | ⟨⟨h2, h3⟩, h4⟩
    · have h6 := (mem_lvls ha).1 (List.getElem_mem h2)
      rw [← h3] at h5
      have h7 := (h4.dvd_val (lvl_mon ha _).ne).1 h5
      rw [val_lvl ha h6.1 h4] at h7
      have h8 : val x.1 a = (lvls a)[t] := by
        by_cases h9 : val x.1 a = (lvls a)[t]
        · exact h9
        · rw [if_neg h9] at h7; omega
      rw [e', hv2] at h8
      have := List.pairwise_iff_getElem.1 (lvls_rising a) t i h2 hi ht
      omega
    · rw [e'] at h4
      obtain ⟨s, hs1, hs2⟩ := List.getElem_of_mem h4
      rw [List.length_take] at hs1
      rw [List.getElem_take] at hs2
      have := List.pairwise_iff_getElem.1 hs.ord s j (by omega) hj (by omega)
      rw [hs2] at this
      exact Bef.irrefl _ this
theorem Coll.done {a : Poly (Zp q)} {i : Nat} {ls ls' : List (Poly (Zp q))} {j : Nat} {L : List (Poly (Zp q) × Nat)} (h : Coll a i ls j L) (hi : i < (lvls a).length) (hs : IsSpl (lvl a (lvls a)[i]) ls) (hj : ls.length ≤ j) : Coll a (i + 1) ls' 0 L := by
  refine ⟨fun f n => ?_, h.ne⟩
  rw [h.mem f n, List.take_of_length_le hj, List.take_zero]
  constructor
  · rintro (⟨t, ht, h1⟩ | ⟨⟨h2, h3⟩, h4⟩)
    · exact .inl ⟨t, by omega, h1⟩
    · subst h3
      exact .inl ⟨i, by omega, h2, rfl, (hs.mem f).1 h4⟩
  · rintro (⟨t, ht, h2, h3, h4, h5⟩ | ⟨_, h4⟩)
    · by_cases e : t = i
      · subst e; subst h3; exact .inr ⟨⟨h2, rfl⟩, (hs.mem f).2 ⟨h4, h5⟩⟩
      · exact .inl ⟨t, by omega, h2, h3, h4, h5⟩
    · cases h4
/-- All that is collected, sorted. -/
theorem Coll.fac {a : Poly (Zp q)} {i : Nat} {ls : List (Poly (Zp q))} {L M : List (Poly (Zp q) × Nat)} (ha : a ≠ 0) (h : Coll a i ls 0 L) (hi : (lvls a).length ≤ i) (hp : M.Perm L) (hs : M.Pairwise (fun x y => ¬ Bef y.1 x.1)) : IsFac a M := by
  refine ⟨?_, fun f n => ?_⟩
  · have h1 : M.Pairwise (fun x y => x.1 ≠ y.1) := (hp.pairwise_iff (fun h e => h e.symm)).2 h.ne
    refine (List.Pairwise.and hs h1).imp ?_
    rintro x y ⟨h2, h3⟩
    rcases Bef.tri x.1 y.1 with h4 | h4 | h4
    · exact h4
    · exact absurd h4 h3
    · exact absurd h4 h2
  · rw [hp.mem_iff, h.mem f n, List.take_zero]
    constructor
    · rintro (⟨t, ht, h2, h3, h4, h5⟩ | ⟨_, h4⟩)
      · have h6 := (mem_lvls ha).1 (List.getElem_mem h2)
        rw [h3] at h6
        have h7 := (h4.dvd_val (lvl_mon ha _).ne).1 h5
        rw [val_lvl ha h6.1 h4] at h7
        refine ⟨h4, h6.1, ?_⟩
        by_cases h9 : val f a = n
        · exact h9
        · rw [if_neg h9] at h7; omega
      · cases h4
    · rintro ⟨h1, h2, h3⟩
      have h4 : lvl a n ≠ 1 := fun e => (lvl_one_iff ha h2).1 e f h1 h3
      obtain ⟨t, ht, e⟩ := List.getElem_of_mem ((mem_lvls ha).2 ⟨h2, h4⟩)
      exact .inl ⟨t, by omega, ht, e, h1, (h1.dvd_val (lvl_mon ha _).ne).2 (by rw [val_lvl ha h2 h1, if_pos h3]; omega)⟩
end Poly
end Cl
