/- Words on memory: a slice that reads as a list of whole numbers; a block that is known whole; what is kept. -/
import Derived.WalkKit
import Derived.Deep.Draws
import Derived.Deep.Slices
import Derived.Deep.Matrix
import Derived.Laws.Rows
import Derived.Laws.OwnMore
import Derived.OpenShut
namespace Cl
open Go Go.RowKit

/-- The i-th number of a list; 0 beyond the end. -/
def nth (xs : List Int) (i : Nat) : Int := xs.getD i 0
theorem nth_lt {xs : List Int} {i : Nat} (h : i < xs.length) : nth xs i = xs[i] := by unfold nth; simp [List.getD, h]
theorem nth_ge {xs : List Int} {i : Nat} (h : xs.length ≤ i) : nth xs i = 0 := by unfold nth; simp [List.getD, h]
theorem nth_set {xs : List Int} {i : Nat} (h : i < xs.length) (v : Int) (j : Nat) : nth (xs.set i v) j = if j = i then v else nth xs j := by
  unfold nth
  simp only [List.getD, List.getElem?_set]
  by_cases e : j = i
  · subst e; simp [h]
  · rw [if_neg (fun h => e h.symm), if_neg e]
theorem nth_append_lt {xs ys : List Int} {i : Nat} (h : i < xs.length) : nth (xs ++ ys) i = nth xs i := by unfold nth; simp [List.getD, List.getElem?_append_left h]
theorem nth_append_ge {xs ys : List Int} {i : Nat} (h : xs.length ≤ i) : nth (xs ++ ys) i = nth ys (i - xs.length) := by unfold nth; simp [List.getD, List.getElem?_append_right h]
theorem list_ext {xs ys : List Int} (hl : xs.length = ys.length) (h : ∀ i, i < xs.length → nth xs i = nth ys i) : xs = ys := by
  apply List.ext_getElem hl
  intro i h1 h2
  have := h i h1
  rwa [nth_lt h1, nth_lt h2] at this
theorem nth_map_range (n : Nat) (f : Nat → Int) (i : Nat) : nth ((List.range n).map f) i = if i < n then f i else 0 := by
  unfold nth
  by_cases h : i < n <;> simp [List.getD, h]
theorem nth_mem {xs : List Int} {i : Nat} (h : i < xs.length) : nth xs i ∈ xs := by rw [nth_lt h]; exact List.getElem_mem h

/-- The list of f's first n values. -/
def tab (n : Nat) (f : Nat → Int) : List Int := (List.range n).map f
@[simp] theorem tab_length (n : Nat) (f : Nat → Int) : (tab n f).length = n := by simp [tab]
theorem nth_tab (n : Nat) (f : Nat → Int) (i : Nat) : nth (tab n f) i = if i < n then f i else 0 := nth_map_range n f i
theorem tab_congr {n : Nat} {f g : Nat → Int} (h : ∀ i, i < n → f i = g i) : tab n f = tab n g := by
  refine list_ext (by rw [tab_length, tab_length]) fun i hi => ?_
  rw [tab_length] at hi
  rw [nth_tab, nth_tab, if_pos hi, if_pos hi, h i hi]
theorem eq_tab (xs : List Int) : xs = tab xs.length (nth xs) := by
  refine list_ext (by rw [tab_length]) fun i hi => ?_
  rw [nth_tab, if_pos hi]
theorem map_eq_tab (xs : List Int) (g : Int → Int) : xs.map g = tab xs.length (fun i => g (nth xs i)) := by
  refine list_ext (by rw [tab_length, List.length_map]) fun i hi => ?_
  rw [List.length_map] at hi
  rw [nth_tab, if_pos hi, nth_lt (by simpa using hi), List.getElem_map, nth_lt hi]
theorem tab_set {n k : Nat} (hk : k < n) (f : Nat → Int) (v : Int) : (tab n f).set k v = tab n (fun i => if i = k then v else f i) := by
  refine list_ext (by rw [List.length_set, tab_length, tab_length]) fun i hi => ?_
  rw [List.length_set, tab_length] at hi
  rw [nth_set (by rw [tab_length]; exact hk), nth_tab, nth_tab, if_pos hi, if_pos hi]
theorem tab_take {n k : Nat} (hk : k ≤ n) (f : Nat → Int) : (tab n f).take k = tab k f := by
  refine list_ext (by simp [tab_length, hk]) fun i hi => ?_
  have hik : i < k := by simp [tab_length] at hi; omega
  rw [nth_tab, if_pos hik]
  unfold nth tab
  simp [List.getD, hik, show i < n by omega]
theorem tab_succ (n : Nat) (f : Nat → Int) : tab (n + 1) f = tab n f ++ [f n] := by simp [tab, List.range_succ]
/-- A made row, filled as far as k. -/
def fillTo (n k : Nat) (f : Nat → Int) : List Int := tab n (fun i => if i < k then f i else 0)
theorem fillTo_length (n k : Nat) (f : Nat → Int) : (fillTo n k f).length = n := tab_length _ _
theorem fillTo_zero (n : Nat) (f : Nat → Int) : fillTo n 0 f = List.replicate n 0 := by
  refine list_ext (by rw [fillTo_length, List.length_replicate]) fun i hi => ?_
  rw [fillTo_length] at hi
  unfold fillTo
  rw [nth_tab, if_pos hi, if_neg (by omega), nth_lt (by simpa using hi)]; simp
theorem fillTo_set {n k : Nat} (hk : k < n) (f : Nat → Int) : (fillTo n k f).set k (f k) = fillTo n (k + 1) f := by
  unfold fillTo
  rw [tab_set hk]
  refine tab_congr fun i _ => ?_
  by_cases e : i = k
  · subst e; rw [if_pos rfl, if_pos (by omega)]
  · rw [if_neg e]
    by_cases h : i < k
    · rw [if_pos h, if_pos (by omega)]
    · rw [if_neg h, if_neg (by omega)]
theorem fillTo_full (n : Nat) (f : Nat → Int) : fillTo n n f = tab n f := by
  unfold fillTo; exact tab_congr fun i hi => if_pos hi

/-- A whole number of 64 bits. -/
def I64 (a : Int) : Prop := -9223372036854775808 ≤ a ∧ a ≤ 9223372036854775807

def ints (xs : List Int) : List Value := xs.map (Value.int .i64)
theorem ints_length (xs : List Int) : (ints xs).length = xs.length := by simp [ints]
theorem ints_get {xs : List Int} {i : Nat} (h : i < xs.length) : (ints xs)[i]? = some (.int .i64 (nth xs i)) := by
  simp [ints, nth_lt h, h]
theorem ints_append (xs ys : List Int) : ints (xs ++ ys) = ints xs ++ ints ys := by simp [ints]
theorem ints_set (xs : List Int) (i : Nat) (v : Int) : (ints xs).set i (.int .i64 v) = ints (xs.set i v) := by simp [ints, List.map_set]
theorem ints_oneCell (xs : List Int) : ∀ u ∈ ints xs, u.oneCell' = true := by
  intro u hu
  simp only [ints, List.mem_map] at hu
  obtain ⟨x, _, rfl⟩ := hu
  rfl

/-- The slice at A, of n elements, reads as the numbers xs. -/
structure Ints (w : World) (A : Option Addr) (n : Nat) (xs : List Int) : Prop where
  len : xs.length = n
  at_ : 0 < n → ∃ b o, A = some ⟨b, o, none⟩ ∧ b < w.heap.size ∧ ∀ i, i < n → w.cell? ⟨b, o + i, none⟩ = some (.int .i64 (nth xs i))
  ok : ∀ i, I64 (nth xs i)

theorem I64.zero : I64 0 := by constructor <;> decide
theorem allI64_nth {xs : List Int} (h : ∀ x ∈ xs, I64 x) (i : Nat) : I64 (nth xs i) := by
  by_cases hi : i < xs.length
  · rw [nth_lt hi]; exact h _ (List.getElem_mem hi)
  · rw [nth_ge (by omega)]; exact I64.zero

section
variable {w w' : World} {A : Option Addr} {n : Nat} {xs : List Int}
theorem Ints.keep (h : Ints w A n xs) (hs : w.heap.size ≤ w'.heap.size) (hk : ∀ p : Addr, p.block < w.heap.size → w'.cell? p = w.cell? p) : Ints w' A n xs :=
  ⟨h.len, fun hn => by
    obtain ⟨b, o, e, hb, hc⟩ := h.at_ hn
    exact ⟨b, o, e, by omega, fun i hi => (hk ⟨b, o + i, none⟩ hb).trans (hc i hi)⟩, h.ok⟩
theorem Ints.below (h : Ints w A n xs) {B : Nat} (hb : Below B w w') (hB : w.heap.size ≤ B) : Ints w' A n xs := h.keep hb.size fun _ hp => hb.cell (by omega)
theorem Ints.bel (h : Ints w A n xs) (hb : Below w.heap.size w w') : Ints w' A n xs := h.below hb (Nat.le_refl _)
theorem Ints.drew (h : Ints w A n xs) : Ints w.drew A n xs := ⟨h.len, h.at_, h.ok⟩
theorem Ints.drewN (h : Ints w A n xs) (k : Nat) : Ints (w.drewN k) A n xs := ⟨h.len, h.at_, h.ok⟩
theorem Ints.alloc (h : Ints w A n xs) (o : Obj) : Ints (w.alloc o) A n xs := h.keep (by simp) fun p hp => World.cell?_alloc_lt w o p hp
theorem Ints.of_own {base : Nat} {e : TypeId} {c : Nat} (h : w.ownsRow base e 1 (.slice A n c) n (ints xs)) (hok : ∀ i, I64 (nth xs i)) : Ints w A n xs := by
  have hl := h.1
  rw [ints_length, Nat.mul_one] at hl
  refine ⟨hl, fun hn => ?_, hok⟩
  rcases h.2 with ⟨h', h0⟩ | ⟨g, cap, cur, hv, _, hg, hnc, hcm, hcs, htake⟩
  · omega
  · simp only [Value.slice.injEq] at hv
    obtain ⟨rfl, _, rfl⟩ := hv
    refine ⟨g, 0, rfl, (Array.getElem?_eq_some_iff.1 hg).1, fun i hi => ?_⟩
    rw [Nat.zero_add, cell_of_row w g i cur e (0, 0) hg]
    have := ints_get (xs := xs) (i := i) (by omega)
    rw [← htake, List.getElem?_take, if_pos (by omega)] at this
    simpa using this
end

/-- Block g is just the numbers xs, none of them frozen. -/
def Row (w : World) (g : Nat) (t : TypeId) (xs : List Int) : Prop := w.heap[g]? = some (.cells (ints xs).toArray t (0, 0))
section
variable {w w' : World} {g : Nat} {t : TypeId} {xs : List Int}
theorem Row.lt (h : Row w g t xs) : g < w.heap.size := (Array.getElem?_eq_some_iff.1 h).1
theorem Row.cell (h : Row w g t xs) {i : Nat} (hi : i < xs.length) : w.cell? ⟨g, i, none⟩ = some (.int .i64 (nth xs i)) := by
  rw [cell_of_row w g i _ t (0, 0) h]
  have := ints_get hi
  simpa using this
theorem Row.frozen (h : Row w g t xs) (i : Nat) : w.frozen? ⟨g, i, none⟩ = false := by
  unfold Row at h; simp [World.frozen?, h]
theorem Row.drew (h : Row w g t xs) : Row w.drew g t xs := h
theorem Row.drewN (h : Row w g t xs) (n : Nat) : Row (w.drewN n) g t xs := h
theorem Row.alloc (h : Row w g t xs) (o : Obj) : Row (w.alloc o) g t xs := (Below.heap_alloc w o g h.lt).trans h
theorem Row.set (h : Row w g t xs) (i : Nat) (v : Int) : Row (w.setCell ⟨g, i, none⟩ (.int .i64 v)) g t (xs.set i v) := by
  unfold Row at h ⊢
  simp [World.setCell, Array.getElem?_modify, h, ← ints_set]
theorem Row.far (h : Row w g t xs) {p : Addr} (hp : g ≠ p.block) (u : Value) : Row (w.setCell p u) g t xs := (Below.heap_setCell w p u g hp).trans h
theorem Row.below {B : Nat} (h : Row w g t xs) (hb : Below B w w') (hg : g < B) : Row w' g t xs := (hb.block g hg).trans h
theorem Row.bel (h : Row w g t xs) (hb : Below w.heap.size w w') : Row w' g t xs := h.below hb h.lt
theorem Row.grown {row : Option Nat} (h : Row w g t xs) (hb : w.grownBy w' row) (hg : some g ≠ row) : Row w' g t xs := (hb.block g h.lt hg).trans h
theorem Row.new (w : World) (t : TypeId) (xs : List Int) : Row (w.alloc (.cells (ints xs).toArray t)) w.heap.size t xs := heap_alloc_new w _
theorem Row.made (w : World) (t : TypeId) (n : Nat) : Row (w.alloc (.cells (madeCells #[Value.int .i64 0] n) t)) w.heap.size t (List.replicate n 0) := by
  have e : madeCells #[Value.int .i64 0] n = (ints (List.replicate n 0)).toArray := by
    apply Array.toList_inj.1
    rw [toList_madeCells_one]
    simp [ints]
  rw [e]; exact Row.new w t _
/-- A block's first n numbers, as a slice of the call's own. -/
theorem Row.own (h : Row w g t xs) {base n : Nat} (hb : base ≤ g) (hn : n ≤ xs.length) (hm : xs.length ≤ maxLen) :
    w.ownsRow base t 1 (.slice (some ⟨g, 0, none⟩) n xs.length) n (ints (xs.take n)) :=
  ⟨by simp [ints_length, hn], .inr ⟨g, xs.length, _, rfl, hb, h, hn, hm, by simp [ints_length], by simp [ints, List.map_take]⟩⟩
theorem Row.ints (h : Row w g t xs) (hok : ∀ i, I64 (nth xs i)) : Ints w (some ⟨g, 0, none⟩) xs.length xs :=
  ⟨rfl, fun _ => ⟨g, 0, rfl, h.lt, fun i hi => by rw [Nat.zero_add]; exact h.cell hi⟩, hok⟩
end

/-- make([]int, n). -/
theorem run_make_ints {P : Program} {t e : TypeId} {i : TypeInfo} (ht : P.underlying t = some (.slice e)) (hi : P.info? e = some i) (hz : i.zero = some (.int .i64 0)) (hs : i.size = 1) (hb : i.bytes = 8)
    (n : Nat) (hn : n * 8 ≤ 281474976710656) (w : World) :
    (Instr.makeSlice t (.int .i64 (n : Int)) (.int .i64 (n : Int))).run P w = .ok (.slice (some ⟨w.heap.size, 0, none⟩) n n) (w.alloc (.cells (ints (List.replicate n 0)).toArray e)) := by
  have hr := run_make (P := P) w t e i (.int .i64 0) ht hi hz .i64 .i64 n n (by omega) (by omega) (by rw [hb]; omega) (by omega)
  have e1 : madeCells (Value.int .i64 0).cells (n * 1) = (ints (List.replicate n 0)).toArray := by
    apply Array.toList_inj.1
    show (madeCells #[Value.int .i64 0] (n * 1)).toList = _
    rw [toList_madeCells_one, Nat.mul_one]
    simp [ints]
  simp only [Int.toNat_natCast, hs] at hr
  rw [hr, e1]

/-- The i-th row; none beyond the end. -/
def rAt (rows : List (List Int)) (i : Nat) : List Int := rows.getD i []
theorem rAt_lt {rows : List (List Int)} {i : Nat} (h : i < rows.length) : rAt rows i = rows[i] := by unfold rAt; simp [List.getD, h]
theorem rAt_ge {rows : List (List Int)} {i : Nat} (h : rows.length ≤ i) : rAt rows i = [] := by unfold rAt; simp [List.getD, h]
theorem rAt_mem {rows : List (List Int)} {i : Nat} (h : i < rows.length) : rAt rows i ∈ rows := by rw [rAt_lt h]; exact List.getElem_mem h
theorem rows_ext {a b : List (List Int)} (hl : a.length = b.length) (h : ∀ i, i < a.length → rAt a i = rAt b i) : a = b := by
  apply List.ext_getElem hl
  intro i h1 h2
  have := h i h1
  rwa [rAt_lt h1, rAt_lt h2] at this

/-- The slice at A, of n slices, reads as the rows. -/
structure Mat (w : World) (A : Option Addr) (n : Nat) (rows : List (List Int)) : Prop where
  len : rows.length = n
  small : n ≤ 9223372036854775807
  at_ : 0 < n → ∃ b o, A = some ⟨b, o, none⟩ ∧ b < w.heap.size ∧ ∀ i, i < n → ∃ Ai ci, w.cell? ⟨b, o + i, none⟩ = some (.slice Ai (rAt rows i).length ci) ∧ Ints w Ai (rAt rows i).length (rAt rows i)
section
variable {w w' : World} {A : Option Addr} {n : Nat} {rows : List (List Int)}
theorem Mat.keep (h : Mat w A n rows) (hs : w.heap.size ≤ w'.heap.size) (hk : ∀ p : Addr, p.block < w.heap.size → w'.cell? p = w.cell? p) : Mat w' A n rows :=
  ⟨h.len, h.small, fun hn => by
    obtain ⟨b, o, e, hb, hc⟩ := h.at_ hn
    exact ⟨b, o, e, by omega, fun i hi => by
      obtain ⟨Ai, ci, h1, h2⟩ := hc i hi
      exact ⟨Ai, ci, (hk ⟨b, o + i, none⟩ hb).trans h1, h2.keep hs hk⟩⟩⟩
theorem Mat.below (h : Mat w A n rows) {B : Nat} (hb : Below B w w') (hB : w.heap.size ≤ B) : Mat w' A n rows := h.keep hb.size fun _ hp => hb.cell (by omega)
theorem Mat.bel (h : Mat w A n rows) (hb : Below w.heap.size w w') : Mat w' A n rows := h.below hb (Nat.le_refl _)
end

/-- The place of a row's first number that is not 0; its length, if there is none. -/
def leadN (xs : List Int) : Nat := xs.findIdx (fun x => x != 0)
theorem leadN_le (xs : List Int) : leadN xs ≤ xs.length := List.findIdx_le_length
theorem leadN_eq {xs : List Int} {k : Nat} (hk : k < xs.length) (h : ∀ i, i < k → nth xs i = 0) (hn : nth xs k ≠ 0) : leadN xs = k := by
  unfold leadN
  rw [List.findIdx_eq hk]
  refine ⟨by rw [nth_lt hk] at hn; simpa using hn, fun j hj => ?_⟩
  have := h j hj
  rw [nth_lt (by omega)] at this
  simpa using this
theorem leadN_none {xs : List Int} (h : ∀ i, i < xs.length → nth xs i = 0) : leadN xs = xs.length := by
  unfold leadN
  rw [List.findIdx_eq_length]
  intro x hx
  obtain ⟨i, hi, rfl⟩ := List.getElem_of_mem hx
  have := h i hi
  rw [nth_lt hi] at this
  simpa using this
theorem leadN_nz {xs : List Int} (h : leadN xs < xs.length) : nth xs (leadN xs) ≠ 0 := by
  have := List.findIdx_getElem (w := h)
  rw [nth_lt h]; unfold leadN; simpa using this
theorem leadN_before {xs : List Int} {i : Nat} (h : i < leadN xs) : nth xs i = 0 := by
  have hl := leadN_le xs
  have := List.not_of_lt_findIdx h
  rw [nth_lt (by omega)]; simpa using this
/-- The same as Go tells it: -1, if there is none. -/
def leadI (xs : List Int) : Int := if leadN xs < xs.length then (leadN xs : Int) else -1
theorem leadI_some {xs : List Int} {k : Nat} (hk : k < xs.length) (h : ∀ i, i < k → nth xs i = 0) (hn : nth xs k ≠ 0) : leadI xs = k := by
  unfold leadI; rw [leadN_eq hk h hn, if_pos hk]
theorem leadI_none {xs : List Int} (h : ∀ i, i < xs.length → nth xs i = 0) : leadI xs = -1 := by
  unfold leadI; rw [leadN_none h, if_neg (by omega)]

/-- Are they the same? -/
def eqI (a b : List Int) : Bool := decide (a = b)
def eqR (a b : List (List Int)) : Bool := decide (a = b)
theorem eqI_yes {a b : List Int} (h : a = b) : eqI a b = true := decide_eq_true h
theorem eqI_no {a b : List Int} (h : a ≠ b) : eqI a b = false := decide_eq_false h
theorem eqR_yes {a b : List (List Int)} (h : a = b) : eqR a b = true := decide_eq_true h
theorem eqR_no {a b : List (List Int)} (h : a ≠ b) : eqR a b = false := decide_eq_false h

theorem ints_tab_succ (n : Nat) (f : Nat → Int) : ints (tab n f) ++ [.int .i64 (f n)] = ints (tab (n + 1) f) := by
  rw [tab_succ, ints_append]; rfl
theorem below_app {B : Nat} {a w w' : World} {t : TypeId} {sz n : Nat} {v : Value} {xs : List Value} {o : Obj} (h : Below B a w) (hown : w.ownsRow B t sz v n xs) (hg : (w.alloc o).drew.grownBy w' v.ownBlock) (hB : B ≤ w.heap.size) : Below B a w' :=
  ((h.alloc hB o).drew).grown hg (by simp; omega) (fun k hk => (hown.lt k hk).1)
theorem below_app' {B : Nat} {a w w' : World} {t : TypeId} {sz n : Nat} {v : Value} {xs : List Value} {o : Obj} (h : Below B a w) (hown : w.ownsRow B t sz v n xs) (hg : (w.alloc o).grownBy w' v.ownBlock) (hB : B ≤ w.heap.size) : Below B a w' :=
  (h.alloc hB o).grown hg (by simp; omega) (fun k hk => (hown.lt k hk).1)
theorem own_mono {w : World} {base base' : Nat} {e : TypeId} {sz n : Nat} {v : Value} {xs : List Value} (h : w.ownsRow base e sz v n xs) (hb : base' ≤ base) : w.ownsRow base' e sz v n xs := by
  refine ⟨h.1, ?_⟩
  rcases h.2 with h2 | ⟨g, cap, cur, hv, hg, r⟩
  · exact .inl h2
  · exact .inr ⟨g, cap, cur, hv, by omega, r⟩
theorem own_bel {w w' : World} {base : Nat} {e : TypeId} {sz n : Nat} {v : Value} {xs : List Value} (h : w.ownsRow base e sz v n xs) (hb : Below w.heap.size w w') : w'.ownsRow base e sz v n xs := by
  refine ⟨h.1, ?_⟩
  rcases h.2 with h2 | ⟨g, cap, cur, hv, hg, hh, r⟩
  · exact .inl h2
  · exact .inr ⟨g, cap, cur, hv, hg, (hb.block g (Array.getElem?_eq_some_iff.1 hh).1).trans hh, r⟩
theorem own_drew {w : World} {base : Nat} {e : TypeId} {sz n : Nat} {v : Value} {xs : List Value} (h : w.ownsRow base e sz v n xs) : w.drew.ownsRow base e sz v n xs := h
theorem own_drewN {w : World} {base : Nat} {e : TypeId} {sz n : Nat} {v : Value} {xs : List Value} (h : w.ownsRow base e sz v n xs) (k : Nat) : (w.drewN k).ownsRow base e sz v n xs := h
theorem below_drewN {B : Nat} {a w : World} (h : Below B a w) (n : Nat) : Below B a (w.drewN n) := ⟨h.os, h.tape, h.output, h.size, h.block⟩

/-- What a call that makes a new slice of numbers leaves: it is the call's own, reads as told; nothing that was there has turned. -/
structure NewInts (t : TypeId) (w w' : World) (A : Option Addr) (c n : Nat) (ys : List Int) : Prop where
  len : ys.length = n
  own : w'.ownsRow w.heap.size t 1 (.slice A n c) n (ints ys)
  rd : Ints w' A n ys
  bel : Below w.heap.size w w'
theorem NewInts.of {t : TypeId} {w w' : World} {A : Option Addr} {c n : Nat} {ys : List Int} (hown : w'.ownsRow w.heap.size t 1 (.slice A n c) n (ints ys)) (hn : ys.length = n) (hok : ∀ i, I64 (nth ys i)) (hb : Below w.heap.size w w') : NewInts t w w' A c n ys :=
  ⟨hn, hown, Ints.of_own hown hok, hb⟩
/-- A call that hands back a new slice of n numbers, and turns nothing that was there. -/
def GivesInts (t : TypeId) (w : World) (n : Nat) (ys : List Int) (e : Ending) (w' : World) : Prop :=
  ∃ A c, e = .returned (.slice A n c) ∧ NewInts t w w' A c n ys
/-- The same beside an error's number. -/
def GivesIntsE (t : TypeId) (w : World) (n : Nat) (ys : List Int) (err : Int) (e : Ending) (w' : World) : Prop :=
  ∃ A c, e = .returned (.tuple #[.slice A n c, .int .i64 err]) ∧ NewInts t w w' A c n ys
theorem own_slice {w' : World} {base : Nat} {t : TypeId} {v : Value} {n : Nat} {xs : List Value} (hown : w'.ownsRow base t 1 v n xs) : ∃ A c, v = .slice A n c := by
  rcases hown.2 with ⟨hv, h0⟩ | ⟨g, cap, cur, hv, _⟩
  · exact ⟨none, 0, by rw [hv, h0]⟩
  · exact ⟨_, _, hv⟩
theorem GivesInts.of_own {t : TypeId} {w w' : World} {ys : List Int} {v : Value} {n : Nat} (hown : w'.ownsRow w.heap.size t 1 v n (ints ys)) (hn : ys.length = n) (hok : ∀ i, I64 (nth ys i)) (hb : Below w.heap.size w w') :
    GivesInts t w n ys (.returned v) w' := by
  obtain ⟨A, c, rfl⟩ := own_slice hown
  exact ⟨A, c, rfl, NewInts.of hown hn hok hb⟩
theorem GivesIntsE.of_own {t : TypeId} {w w' : World} {ys : List Int} {v : Value} {n : Nat} {err : Int} (hown : w'.ownsRow w.heap.size t 1 v n (ints ys)) (hn : ys.length = n) (hok : ∀ i, I64 (nth ys i)) (hb : Below w.heap.size w w') :
    GivesIntsE t w n ys err (.returned (.tuple #[v, .int .i64 err])) w' := by
  obtain ⟨A, c, rfl⟩ := own_slice hown
  exact ⟨A, c, rfl, NewInts.of hown hn hok hb⟩
theorem GivesIntsE.nil (t : TypeId) {w w' : World} (err : Int) (hb : Below w.heap.size w w') : GivesIntsE t w 0 [] err (.returned (.tuple #[.slice none 0 0, .int .i64 err])) w' :=
  ⟨none, 0, rfl, NewInts.of (World.ownsRow_nil _ _ _ _) rfl (fun i => by rw [nth_ge (by simp)]; exact I64.zero) hb⟩
theorem GivesInts.mk {t : TypeId} {w w' : World} {ys : List Int} {g n : Nat} (hr : Row w' g t ys) (hg : w.heap.size ≤ g) (hn : ys.length = n) (hm : n ≤ maxLen) (hok : ∀ i, I64 (nth ys i)) (hb : Below w.heap.size w w') :
    GivesInts t w n ys (.returned (.slice (some ⟨g, 0, none⟩) n n)) w' := by
  subst hn
  have := hr.own hg (Nat.le_refl _) hm
  rw [List.take_length] at this
  exact ⟨_, _, rfl, NewInts.of this rfl hok hb⟩
theorem I64.small {a : Int} (h0 : 0 ≤ a) (h1 : a ≤ 9223372036854775807) : I64 a := ⟨by omega, h1⟩
theorem tab_i64 {n : Nat} {f : Nat → Int} (h : ∀ i, I64 (f i)) (i : Nat) : I64 (nth (tab n f) i) := by
  rw [nth_tab]; split
  · exact h i
  · exact I64.zero

/-- Only blocks of which S speaks, and new ones, may have turned. -/
structure Only (S : Nat → Prop) (w w' : World) : Prop where
  os : w'.os = w.os
  tape : w'.tape = w.tape
  output : w'.output = w.output
  size : w.heap.size ≤ w'.heap.size
  block : ∀ k, k < w.heap.size → ¬ S k → w'.heap[k]? = w.heap[k]?
section
variable {S T : Nat → Prop} {w w' w'' : World}
theorem Only.refl (S : Nat → Prop) (w : World) : Only S w w := ⟨rfl, rfl, rfl, Nat.le_refl _, fun _ _ _ => rfl⟩
theorem Only.trans (h : Only S w w') (k : Only S w' w'') : Only S w w'' :=
  ⟨k.os.trans h.os, k.tape.trans h.tape, k.output.trans h.output, Nat.le_trans h.size k.size, fun i hi hs => (k.block i (Nat.lt_of_lt_of_le hi h.size) hs).trans (h.block i hi hs)⟩
theorem Only.mono (h : Only S w w') (hs : ∀ k, S k → T k) : Only T w w' := ⟨h.os, h.tape, h.output, h.size, fun k hk ht => h.block k hk (fun hs' => ht (hs k hs'))⟩
theorem Only.setCell (h : Only S w w') {p : Addr} (hp : S p.block) (u : Value) : Only S w (w'.setCell p u) :=
  ⟨h.os, h.tape, h.output, by simpa [World.setCell] using h.size, fun k hk hs => (Below.heap_setCell w' p u k (fun e => hs (by rw [e]; exact hp))).trans (h.block k hk hs)⟩
theorem Only.drew (h : Only S w w') : Only S w w'.drew := ⟨h.os, h.tape, h.output, h.size, h.block⟩
theorem Only.drewN (h : Only S w w') (n : Nat) : Only S w (w'.drewN n) := ⟨h.os, h.tape, h.output, h.size, h.block⟩
theorem Only.alloc (h : Only S w w') (o : Obj) : Only S w (w'.alloc o) :=
  ⟨h.os, h.tape, h.output, Nat.le_trans h.size (by simp), fun k hk hs => (Below.heap_alloc _ _ _ (Nat.lt_of_lt_of_le hk h.size)).trans (h.block k hk hs)⟩
theorem Only.cell (h : Only S w w') {p : Addr} (hp : p.block < w.heap.size) (hs : ¬ S p.block) : w'.cell? p = w.cell? p := World.cell?_of_block (h.block _ hp hs)
theorem Only.below {B : Nat} (h : Only S w w') (hB : B ≤ w.heap.size) (hs : ∀ k, S k → B ≤ k) : Below B w w' :=
  ⟨h.os, h.tape, h.output, h.size, fun k hk => h.block k (by omega) (fun h' => by have := hs k h'; omega)⟩
theorem Only.of_below {B : Nat} (h : Below B w w') : Only (fun k => B ≤ k) w w' := ⟨h.os, h.tape, h.output, h.size, fun k _ hs => h.block k (by omega)⟩
theorem Only.of_grown {row : Option Nat} (h : w.grownBy w' row) : Only (fun k => row = some k) w w' := ⟨h.os, h.tape, h.output, h.size, fun k hk hs => h.block k hk (fun e => hs e.symm)⟩
theorem Row.only {g : Nat} {t : TypeId} {xs : List Int} (h : Row w g t xs) (ho : Only S w w') (hs : ¬ S g) : Row w' g t xs := (ho.block g h.lt hs).trans h
end

/-- A row of numbers never lies in the block of a slice of other things. -/
theorem own_row_ne {w : World} {base : Nat} {e t : TypeId} {sz n : Nat} {v : Value} {xs : List Value} {g : Nat} {ys : List Int} (h : w.ownsRow base e sz v n xs) (hr : Row w g t ys) (hne : e ≠ t) : some g ≠ v.ownBlock := by
  rcases h.2 with ⟨rfl, _⟩ | ⟨g', cap, cur, rfl, _, hh, _⟩
  · simp [Value.ownBlock]
  · intro he
    have : g = g' := by simpa [Value.ownBlock] using he
    subst this
    unfold Row at hr
    rw [hh] at hr
    injection hr with hr
    injection hr with _ ht
    exact hne ht
/-- A new row that a header tells of is appended. -/
theorem rows_app {w w' : World} {base : Nat} {e t : TypeId} {sz n : Nat} {v : Value} {xs : List Value} {g : Nat} {ys : List Int} {o : Obj} (h : w.ownsRow base e sz v n xs) (hr : Row w g t ys) (hne : e ≠ t) (hg : (w.alloc o).grownBy w' v.ownBlock) : Row w' g t ys :=
  (hr.alloc o).grown hg (own_row_ne h hr hne)

/-- A call that hands back rows of which P holds, and an error's number. -/
def GivesRows (w : World) (err : Int) (P : List (List Int) → Prop) (e : Ending) (w' : World) : Prop :=
  ∃ A n c rows', e = .returned (.tuple #[.slice A n c, .int .i64 err]) ∧ Mat w' A n rows' ∧ P rows' ∧ Below w.heap.size w w'

/-- A store into a cell that holds no number turns no list of numbers. -/
theorem Ints.far {w : World} {A : Option Addr} {n : Nat} {xs : List Int} (h : Ints w A n xs) {p : Addr} {u x : Value} (hp : w.cell? p = some u) (hu : ∀ k i, u ≠ .int k i) : Ints (w.setCell p x) A n xs :=
  ⟨h.len, fun hn => by
    obtain ⟨b, o, e, hb, hc⟩ := h.at_ hn
    refine ⟨b, o, e, by simpa [World.setCell] using hb, fun i hi => ?_⟩
    rw [World.cell?_setCell_other w p ⟨b, o + i, none⟩ x (fun e2 => ?_)]
    · exact hc i hi
    · have := hc i hi
      rw [← e2, hp] at this
      injection this with this
      exact hu _ _ this, h.ok⟩

end Cl
