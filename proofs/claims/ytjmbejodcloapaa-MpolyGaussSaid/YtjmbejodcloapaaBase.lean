/- Words on memory: a slice that reads as a list of whole numbers; a block that is known whole; what is kept.
   An append onto a row of the call's own, whatever its source (after the guide's plain theorems to copy).
   A block whose first cells are numbers, with room behind them: what an append leaves, stored into.
   Small facts that the walks want: bits of whole numbers, results. -/
import Derived.WalkKit
import Derived.Deep.Draws
import Derived.Deep.Slices
import Derived.Deep.Matrix
import Derived.Laws.Rows
import Derived.Laws.OwnMore
import Derived.OpenShut
import Derived.Maps.AppendAt
import Derived.Deep.AppendLies
import Derived.RegionTactic
import Derived.OwnWalk
import Derived.Laws.BitsAllLaws
import Derived.Laws.BitsLemmas
import Derived.Deep.QuietTactic
namespace Cl
open Go Go.RowKit

/-- The i-th number of a list; 0 beyond the end. -/
def nth (xs : List Int) (i : Nat) : Int := xs.getD i 0
theorem nth_lt {xs : List Int} {i : Nat} (h : i < xs.length) : nth xs i = xs[i] := by unfold nth; simp [List.getD, h]
theorem nth_ge {xs : List Int} {i : Nat} (h : xs.length ≤ i) : nth xs i = 0 := by unfold nth; simp [List.getD, h]
theorem nth_set {xs : List Int} {i : Nat} (h : i < xs.length) (v : Int) (j : Nat) : nth (xs.set i v) j = if j = i then v else nth xs j := by
  unfold nth
  simp only [List.getD, List.getElem?_set]
  by_cases e : j = i
  · subst e; simp [h]
  · rw [if_neg (fun h => e h.symm), if_neg e]
theorem nth_append_lt {xs ys : List Int} {i : Nat} (h : i < xs.length) : nth (xs ++ ys) i = nth xs i := by unfold nth; simp [List.getD, List.getElem?_append_left h]
theorem nth_append_ge {xs ys : List Int} {i : Nat} (h : xs.length ≤ i) : nth (xs ++ ys) i = nth ys (i - xs.length) := by unfold nth; simp [List.getD, List.getElem?_append_right h]
theorem list_ext {xs ys : List Int} (hl : xs.length = ys.length) (h : ∀ i, i < xs.length → nth xs i = nth ys i) : xs = ys := by
  apply List.ext_getElem hl
  intro i h1 h2
  have := h i h1
  rwa [nth_lt h1, nth_lt h2] at this
theorem nth_map_range (n : Nat) (f : Nat → Int) (i : Nat) : nth ((List.range n).map f) i = if i < n then f i else 0 := by
  unfold nth
  by_cases h : i < n <;> simp [List.getD, h]
theorem nth_mem {xs : List Int} {i : Nat} (h : i < xs.length) : nth xs i ∈ xs := by rw [nth_lt h]; exact List.getElem_mem h

/-- The list of f's first n values. -/
def tab (n : Nat) (f : Nat → Int) : List Int := (List.range n).map f
@[simp] theorem tab_length (n : Nat) (f : Nat → Int) : (tab n f).length = n := by simp [tab]
theorem nth_tab (n : Nat) (f : Nat → Int) (i : Nat) : nth (tab n f) i = if i < n then f i else 0 := nth_map_range n f i
theorem tab_congr {n : Nat} {f g : Nat → Int} (h : ∀ i, i < n → f i = g i) : tab n f = tab n g := by
  refine list_ext (by rw [tab_length, tab_length]) fun i hi => ?_
  rw [tab_length] at hi
  rw [nth_tab, nth_tab, if_pos hi, if_pos hi, h i hi]
theorem eq_tab (xs : List Int) : xs = tab xs.length (nth xs) := by
  refine list_ext (by rw [tab_length]) fun i hi => ?_
  rw [nth_tab, if_pos hi]
theorem map_eq_tab (xs : List Int) (g : Int → Int) : xs.map g = tab xs.length (fun i => g (nth xs i)) := by
  refine list_ext (by rw [tab_length, List.length_map]) fun i hi => ?_
  rw [List.length_map] at hi
  rw [nth_tab, if_pos hi, nth_lt (by simpa using hi), List.getElem_map, nth_lt hi]
theorem tab_set {n k : Nat} (hk : k < n) (f : Nat → Int) (v : Int) : (tab n f).set k v = tab n (fun i => if i = k then v else f i) := by
  refine list_ext (by rw [List.length_set, tab_length, tab_length]) fun i hi => ?_
  rw [List.length_set, tab_length] at hi
  rw [nth_set (by rw [tab_length]; exact hk), nth_tab, nth_tab, if_pos hi, if_pos hi]
theorem tab_take {n k : Nat} (hk : k ≤ n) (f : Nat → Int) : (tab n f).take k = tab k f := by
  refine list_ext (by simp [tab_length, hk]) fun i hi => ?_
  have hik : i < k := by simp [tab_length] at hi; omega
  rw [nth_tab, if_pos hik]
  unfold nth tab
  simp [List.getD, hik, show i < n by omega]
theorem tab_succ (n : Nat) (f : Nat → Int) : tab (n + 1) f = tab n f ++ [f n] := by simp [tab, List.range_succ]
/-- A made row, filled as far as k. -/
def fillTo (n k : Nat) (f : Nat → Int) : List Int := tab n (fun i => if i < k then f i else 0)
theorem fillTo_length (n k : Nat) (f : Nat → Int) : (fillTo n k f).length = n := tab_length _ _
theorem fillTo_zero (n : Nat) (f : Nat → Int) : fillTo n 0 f = List.replicate n 0 := by
  refine list_ext (by rw [fillTo_length, List.length_replicate]) fun i hi => ?_
  rw [fillTo_length] at hi
  unfold fillTo
  rw [nth_tab, if_pos hi, if_neg (by omega), nth_lt (by simpa using hi)]; simp
theorem fillTo_set {n k : Nat} (hk : k < n) (f : Nat → Int) : (fillTo n k f).set k (f k) = fillTo n (k + 1) f := by
  unfold fillTo
  rw [tab_set hk]
  refine tab_congr fun i _ => ?_
  by_cases e : i = k
  · subst e; rw [if_pos rfl, if_pos (by omega)]
  · rw [if_neg e]
    by_cases h : i < k
    · rw [if_pos h, if_pos (by omega)]
    · rw [if_neg h, if_neg (by omega)]
theorem fillTo_full (n : Nat) (f : Nat → Int) : fillTo n n f = tab n f := by
  unfold fillTo; exact tab_congr fun i hi => if_pos hi

/-- A whole number of 64 bits. -/
def I64 (a : Int) : Prop := -9223372036854775808 ≤ a ∧ a ≤ 9223372036854775807

def ints (xs : List Int) : List Value := xs.map (Value.int .i64)
theorem ints_length (xs : List Int) : (ints xs).length = xs.length := by simp [ints]
theorem ints_get {xs : List Int} {i : Nat} (h : i < xs.length) : (ints xs)[i]? = some (.int .i64 (nth xs i)) := by
  simp [ints, nth_lt h, h]
theorem ints_append (xs ys : List Int) : ints (xs ++ ys) = ints xs ++ ints ys := by simp [ints]
theorem ints_set (xs : List Int) (i : Nat) (v : Int) : (ints xs).set i (.int .i64 v) = ints (xs.set i v) := by simp [ints, List.map_set]
theorem ints_oneCell (xs : List Int) : ∀ u ∈ ints xs, u.oneCell' = true := by
  intro u hu
  simp only [ints, List.mem_map] at hu
  obtain ⟨x, _, rfl⟩ := hu
  rfl

/-- The slice at A, of n elements, reads as the numbers xs. -/
structure Ints (w : World) (A : Option Addr) (n : Nat) (xs : List Int) : Prop where
  len : xs.length = n
  at_ : 0 < n → ∃ b o, A = some ⟨b, o, none⟩ ∧ b < w.heap.size ∧ ∀ i, i < n → w.cell? ⟨b, o + i, none⟩ = some (.int .i64 (nth xs i))
  ok : ∀ i, I64 (nth xs i)

theorem I64.zero : I64 0 := by constructor <;> decide
theorem allI64_nth {xs : List Int} (h : ∀ x ∈ xs, I64 x) (i : Nat) : I64 (nth xs i) := by
  by_cases hi : i < xs.length
  · rw [nth_lt hi]; exact h _ (List.getElem_mem hi)
  · rw [nth_ge (by omega)]; exact I64.zero

section
variable {w w' : World} {A : Option Addr} {n : Nat} {xs : List Int}
theorem Ints.keep (h : Ints w A n xs) (hs : w.heap.size ≤ w'.heap.size) (hk : ∀ p : Addr, p.block < w.heap.size → w'.cell? p = w.cell? p) : Ints w' A n xs :=
  ⟨h.len, fun hn => by
    obtain ⟨b, o, e, hb, hc⟩ := h.at_ hn
    exact ⟨b, o, e, by omega, fun i hi => (hk ⟨b, o + i, none⟩ hb).trans (hc i hi)⟩, h.ok⟩
theorem Ints.below (h : Ints w A n xs) {B : Nat} (hb : Below B w w') (hB : w.heap.size ≤ B) : Ints w' A n xs := h.keep hb.size fun _ hp => hb.cell (by omega)
theorem Ints.bel (h : Ints w A n xs) (hb : Below w.heap.size w w') : Ints w' A n xs := h.below hb (Nat.le_refl _)
theorem Ints.drew (h : Ints w A n xs) : Ints w.drew A n xs := ⟨h.len, h.at_, h.ok⟩
theorem Ints.drewN (h : Ints w A n xs) (k : Nat) : Ints (w.drewN k) A n xs := ⟨h.len, h.at_, h.ok⟩
theorem Ints.alloc (h : Ints w A n xs) (o : Obj) : Ints (w.alloc o) A n xs := h.keep (by simp) fun p hp => World.cell?_alloc_lt w o p hp
theorem Ints.of_own {base : Nat} {e : TypeId} {c : Nat} (h : w.ownsRow base e 1 (.slice A n c) n (ints xs)) (hok : ∀ i, I64 (nth xs i)) : Ints w A n xs := by
  have hl := h.1
  rw [ints_length, Nat.mul_one] at hl
  refine ⟨hl, fun hn => ?_, hok⟩
  rcases h.2 with ⟨h', h0⟩ | ⟨g, cap, cur, hv, _, hg, hnc, hcm, hcs, htake⟩
  · omega
  · simp only [Value.slice.injEq] at hv
    obtain ⟨rfl, _, rfl⟩ := hv
    refine ⟨g, 0, rfl, (Array.getElem?_eq_some_iff.1 hg).1, fun i hi => ?_⟩
    rw [Nat.zero_add, cell_of_row w g i cur e (0, 0) hg]
    have := ints_get (xs := xs) (i := i) (by omega)
    rw [← htake, List.getElem?_take, if_pos (by omega)] at this
    simpa using this
end

/-- Block g is just the numbers xs, none of them frozen. -/
def Row (w : World) (g : Nat) (t : TypeId) (xs : List Int) : Prop := w.heap[g]? = some (.cells (ints xs).toArray t (0, 0))
section
variable {w w' : World} {g : Nat} {t : TypeId} {xs : List Int}
theorem Row.lt (h : Row w g t xs) : g < w.heap.size := (Array.getElem?_eq_some_iff.1 h).1
theorem Row.cell (h : Row w g t xs) {i : Nat} (hi : i < xs.length) : w.cell? ⟨g, i, none⟩ = some (.int .i64 (nth xs i)) := by
  rw [cell_of_row w g i _ t (0, 0) h]
  have := ints_get hi
  simpa using this
theorem Row.frozen (h : Row w g t xs) (i : Nat) : w.frozen? ⟨g, i, none⟩ = false := by
  unfold Row at h; simp [World.frozen?, h]
theorem Row.drew (h : Row w g t xs) : Row w.drew g t xs := h
theorem Row.drewN (h : Row w g t xs) (n : Nat) : Row (w.drewN n) g t xs := h
theorem Row.alloc (h : Row w g t xs) (o : Obj) : Row (w.alloc o) g t xs := (Below.heap_alloc w o g h.lt).trans h
theorem Row.set (h : Row w g t xs) (i : Nat) (v : Int) : Row (w.setCell ⟨g, i, none⟩ (.int .i64 v)) g t (xs.set i v) := by
  unfold Row at h ⊢
  simp [World.setCell, Array.getElem?_modify, h, ← ints_set]
theorem Row.far (h : Row w g t xs) {p : Addr} (hp : g ≠ p.block) (u : Value) : Row (w.setCell p u) g t xs := (Below.heap_setCell w p u g hp).trans h
theorem Row.below {B : Nat} (h : Row w g t xs) (hb : Below B w w') (hg : g < B) : Row w' g t xs := (hb.block g hg).trans h
theorem Row.bel (h : Row w g t xs) (hb : Below w.heap.size w w') : Row w' g t xs := h.below hb h.lt
theorem Row.grown {row : Option Nat} (h : Row w g t xs) (hb : w.grownBy w' row) (hg : some g ≠ row) : Row w' g t xs := (hb.block g h.lt hg).trans h
theorem Row.new (w : World) (t : TypeId) (xs : List Int) : Row (w.alloc (.cells (ints xs).toArray t)) w.heap.size t xs := heap_alloc_new w _
theorem Row.made (w : World) (t : TypeId) (n : Nat) : Row (w.alloc (.cells (madeCells #[Value.int .i64 0] n) t)) w.heap.size t (List.replicate n 0) := by
  have e : madeCells #[Value.int .i64 0] n = (ints (List.replicate n 0)).toArray := by
    apply Array.toList_inj.1
    rw [toList_madeCells_one]
    simp [ints]
  rw [e]; exact Row.new w t _
/-- A block's first n numbers, as a slice of the call's own. -/
theorem Row.own (h : Row w g t xs) {base n : Nat} (hb : base ≤ g) (hn : n ≤ xs.length) (hm : xs.length ≤ maxLen) :
    w.ownsRow base t 1 (.slice (some ⟨g, 0, none⟩) n xs.length) n (ints (xs.take n)) :=
  ⟨by simp [ints_length, hn], .inr ⟨g, xs.length, _, rfl, hb, h, hn, hm, by simp [ints_length], by simp [ints, List.map_take]⟩⟩
theorem Row.ints (h : Row w g t xs) (hok : ∀ i, I64 (nth xs i)) : Ints w (some ⟨g, 0, none⟩) xs.length xs :=
  ⟨rfl, fun _ => ⟨g, 0, rfl, h.lt, fun i hi => by rw [Nat.zero_add]; exact h.cell hi⟩, hok⟩
end

/-- make([]int, n). -/
theorem run_make_ints {P : Program} {t e : TypeId} {i : TypeInfo} (ht : P.underlying t = some (.slice e)) (hi : P.info? e = some i) (hz : i.zero = some (.int .i64 0)) (hs : i.size = 1) (hb : i.bytes = 8)
    (n : Nat) (hn : n * 8 ≤ 281474976710656) (w : World) :
    (Instr.makeSlice t (.int .i64 (n : Int)) (.int .i64 (n : Int))).run P w = .ok (.slice (some ⟨w.heap.size, 0, none⟩) n n) (w.alloc (.cells (ints (List.replicate n 0)).toArray e)) := by
  have hr := run_make (P := P) w t e i (.int .i64 0) ht hi hz .i64 .i64 n n (by omega) (by omega) (by rw [hb]; omega) (by omega)
  have e1 : madeCells (Value.int .i64 0).cells (n * 1) = (ints (List.replicate n 0)).toArray := by
    apply Array.toList_inj.1
    show (madeCells #[Value.int .i64 0] (n * 1)).toList = _
    rw [toList_madeCells_one, Nat.mul_one]
    simp [ints]
  simp only [Int.toNat_natCast, hs] at hr
  rw [hr, e1]

/-- The i-th row; none beyond the end. -/
def rAt (rows : List (List Int)) (i : Nat) : List Int := rows.getD i []
theorem rAt_lt {rows : List (List Int)} {i : Nat} (h : i < rows.length) : rAt rows i = rows[i] := by unfold rAt; simp [List.getD, h]
theorem rAt_ge {rows : List (List Int)} {i : Nat} (h : rows.length ≤ i) : rAt rows i = [] := by unfold rAt; simp [List.getD, h]
theorem rAt_mem {rows : List (List Int)} {i : Nat} (h : i < rows.length) : rAt rows i ∈ rows := by rw [rAt_lt h]; exact List.getElem_mem h
theorem rows_ext {a b : List (List Int)} (hl : a.length = b.length) (h : ∀ i, i < a.length → rAt a i = rAt b i) : a = b := by
  apply List.ext_getElem hl
  intro i h1 h2
  have := h i h1
  rwa [rAt_lt h1, rAt_lt h2] at this

/-- The slice at A, of n slices, reads as the rows. -/
structure Mat (w : World) (A : Option Addr) (n : Nat) (rows : List (List Int)) : Prop where
  len : rows.length = n
  small : n ≤ 9223372036854775807
  at_ : 0 < n → ∃ b o, A = some ⟨b, o, none⟩ ∧ b < w.heap.size ∧ ∀ i, i < n → ∃ Ai ci, w.cell? ⟨b, o + i, none⟩ = some (.slice Ai (rAt rows i).length ci) ∧ Ints w Ai (rAt rows i).length (rAt rows i)
section
variable {w w' : World} {A : Option Addr} {n : Nat} {rows : List (List Int)}
theorem Mat.keep (h : Mat w A n rows) (hs : w.heap.size ≤ w'.heap.size) (hk : ∀ p : Addr, p.block < w.heap.size → w'.cell? p = w.cell? p) : Mat w' A n rows :=
  ⟨h.len, h.small, fun hn => by
    obtain ⟨b, o, e, hb, hc⟩ := h.at_ hn
    exact ⟨b, o, e, by omega, fun i hi => by
      obtain ⟨Ai, ci, h1, h2⟩ := hc i hi
      exact ⟨Ai, ci, (hk ⟨b, o + i, none⟩ hb).trans h1, h2.keep hs hk⟩⟩⟩
theorem Mat.below (h : Mat w A n rows) {B : Nat} (hb : Below B w w') (hB : w.heap.size ≤ B) : Mat w' A n rows := h.keep hb.size fun _ hp => hb.cell (by omega)
theorem Mat.bel (h : Mat w A n rows) (hb : Below w.heap.size w w') : Mat w' A n rows := h.below hb (Nat.le_refl _)
end

/-- The place of a row's first number that is not 0; its length, if there is none. -/
def leadN (xs : List Int) : Nat := xs.findIdx (fun x => x != 0)
theorem leadN_le (xs : List Int) : leadN xs ≤ xs.length := List.findIdx_le_length
theorem leadN_eq {xs : List Int} {k : Nat} (hk : k < xs.length) (h : ∀ i, i < k → nth xs i = 0) (hn : nth xs k ≠ 0) : leadN xs = k := by
  unfold leadN
  rw [List.findIdx_eq hk]
  refine ⟨by rw [nth_lt hk] at hn; simpa using hn, fun j hj => ?_⟩
  have := h j hj
  rw [nth_lt (by omega)] at this
  simpa using this
theorem leadN_none {xs : List Int} (h : ∀ i, i < xs.length → nth xs i = 0) : leadN xs = xs.length := by
  unfold leadN
  rw [List.findIdx_eq_length]
  intro x hx
  obtain ⟨i, hi, rfl⟩ := List.getElem_of_mem hx
  have := h i hi
  rw [nth_lt hi] at this
  simpa using this
theorem leadN_nz {xs : List Int} (h : leadN xs < xs.length) : nth xs (leadN xs) ≠ 0 := by
  have := List.findIdx_getElem (w := h)
  rw [nth_lt h]; unfold leadN; simpa using this
theorem leadN_before {xs : List Int} {i : Nat} (h : i < leadN xs) : nth xs i = 0 := by
  have hl := leadN_le xs
  have := List.not_of_lt_findIdx h
  rw [nth_lt (by omega)]; simpa using this
/-- The same as Go tells it: -1, if there is none. -/
def leadI (xs : List Int) : Int := if leadN xs < xs.length then (leadN xs : Int) else -1
theorem leadI_some {xs : List Int} {k : Nat} (hk : k < xs.length) (h : ∀ i, i < k → nth xs i = 0) (hn : nth xs k ≠ 0) : leadI xs = k := by
  unfold leadI; rw [leadN_eq hk h hn, if_pos hk]
theorem leadI_none {xs : List Int} (h : ∀ i, i < xs.length → nth xs i = 0) : leadI xs = -1 := by
  unfold leadI; rw [leadN_none h, if_neg (by omega)]

/-- Are they the same? -/
def eqI (a b : List Int) : Bool := decide (a = b)
def eqR (a b : List (List Int)) : Bool := decide (a = b)
theorem eqI_yes {a b : List Int} (h : a = b) : eqI a b = true := decide_eq_true h
theorem eqI_no {a b : List Int} (h : a ≠ b) : eqI a b = false := decide_eq_false h
theorem eqR_yes {a b : List (List Int)} (h : a = b) : eqR a b = true := decide_eq_true h
theorem eqR_no {a b : List (List Int)} (h : a ≠ b) : eqR a b = false := decide_eq_false h

theorem ints_tab_succ (n : Nat) (f : Nat → Int) : ints (tab n f) ++ [.int .i64 (f n)] = ints (tab (n + 1) f) := by
  rw [tab_succ, ints_append]; rfl
theorem below_app {B : Nat} {a w w' : World} {t : TypeId} {sz n : Nat} {v : Value} {xs : List Value} {o : Obj} (h : Below B a w) (hown : w.ownsRow B t sz v n xs) (hg : (w.alloc o).drew.grownBy w' v.ownBlock) (hB : B ≤ w.heap.size) : Below B a w' :=
  ((h.alloc hB o).drew).grown hg (by simp; omega) (fun k hk => (hown.lt k hk).1)
theorem below_app' {B : Nat} {a w w' : World} {t : TypeId} {sz n : Nat} {v : Value} {xs : List Value} {o : Obj} (h : Below B a w) (hown : w.ownsRow B t sz v n xs) (hg : (w.alloc o).grownBy w' v.ownBlock) (hB : B ≤ w.heap.size) : Below B a w' :=
  (h.alloc hB o).grown hg (by simp; omega) (fun k hk => (hown.lt k hk).1)
theorem own_mono {w : World} {base base' : Nat} {e : TypeId} {sz n : Nat} {v : Value} {xs : List Value} (h : w.ownsRow base e sz v n xs) (hb : base' ≤ base) : w.ownsRow base' e sz v n xs := by
  refine ⟨h.1, ?_⟩
  rcases h.2 with h2 | ⟨g, cap, cur, hv, hg, r⟩
  · exact .inl h2
  · exact .inr ⟨g, cap, cur, hv, by omega, r⟩
theorem own_bel {w w' : World} {base : Nat} {e : TypeId} {sz n : Nat} {v : Value} {xs : List Value} (h : w.ownsRow base e sz v n xs) (hb : Below w.heap.size w w') : w'.ownsRow base e sz v n xs := by
  refine ⟨h.1, ?_⟩
  rcases h.2 with h2 | ⟨g, cap, cur, hv, hg, hh, r⟩
  · exact .inl h2
  · exact .inr ⟨g, cap, cur, hv, hg, (hb.block g (Array.getElem?_eq_some_iff.1 hh).1).trans hh, r⟩
theorem own_drew {w : World} {base : Nat} {e : TypeId} {sz n : Nat} {v : Value} {xs : List Value} (h : w.ownsRow base e sz v n xs) : w.drew.ownsRow base e sz v n xs := h
theorem own_drewN {w : World} {base : Nat} {e : TypeId} {sz n : Nat} {v : Value} {xs : List Value} (h : w.ownsRow base e sz v n xs) (k : Nat) : (w.drewN k).ownsRow base e sz v n xs := h
theorem below_drewN {B : Nat} {a w : World} (h : Below B a w) (n : Nat) : Below B a (w.drewN n) := ⟨h.os, h.tape, h.output, h.size, h.block⟩

/-- What a call that makes a new slice of numbers leaves: it is the call's own, reads as told; nothing that was there has turned. -/
structure NewInts (t : TypeId) (w w' : World) (A : Option Addr) (c n : Nat) (ys : List Int) : Prop where
  len : ys.length = n
  own : w'.ownsRow w.heap.size t 1 (.slice A n c) n (ints ys)
  rd : Ints w' A n ys
  bel : Below w.heap.size w w'
theorem NewInts.of {t : TypeId} {w w' : World} {A : Option Addr} {c n : Nat} {ys : List Int} (hown : w'.ownsRow w.heap.size t 1 (.slice A n c) n (ints ys)) (hn : ys.length = n) (hok : ∀ i, I64 (nth ys i)) (hb : Below w.heap.size w w') : NewInts t w w' A c n ys :=
  ⟨hn, hown, Ints.of_own hown hok, hb⟩
/-- A call that hands back a new slice of n numbers, and turns nothing that was there. -/
def GivesInts (t : TypeId) (w : World) (n : Nat) (ys : List Int) (e : Ending) (w' : World) : Prop :=
  ∃ A c, e = .returned (.slice A n c) ∧ NewInts t w w' A c n ys
/-- The same beside an error's number. -/
def GivesIntsE (t : TypeId) (w : World) (n : Nat) (ys : List Int) (err : Int) (e : Ending) (w' : World) : Prop :=
  ∃ A c, e = .returned (.tuple #[.slice A n c, .int .i64 err]) ∧ NewInts t w w' A c n ys
theorem own_slice {w' : World} {base : Nat} {t : TypeId} {v : Value} {n : Nat} {xs : List Value} (hown : w'.ownsRow base t 1 v n xs) : ∃ A c, v = .slice A n c := by
  rcases hown.2 with ⟨hv, h0⟩ | ⟨g, cap, cur, hv, _⟩
  · exact ⟨none, 0, by rw [hv, h0]⟩
  · exact ⟨_, _, hv⟩
theorem GivesInts.of_own {t : TypeId} {w w' : World} {ys : List Int} {v : Value} {n : Nat} (hown : w'.ownsRow w.heap.size t 1 v n (ints ys)) (hn : ys.length = n) (hok : ∀ i, I64 (nth ys i)) (hb : Below w.heap.size w w') :
    GivesInts t w n ys (.returned v) w' := by
  obtain ⟨A, c, rfl⟩ := own_slice hown
  exact ⟨A, c, rfl, NewInts.of hown hn hok hb⟩
theorem GivesIntsE.of_own {t : TypeId} {w w' : World} {ys : List Int} {v : Value} {n : Nat} {err : Int} (hown : w'.ownsRow w.heap.size t 1 v n (ints ys)) (hn : ys.length = n) (hok : ∀ i, I64 (nth ys i)) (hb : Below w.heap.size w w') :
    GivesIntsE t w n ys err (.returned (.tuple #[v, .int .i64 err])) w' := by
  obtain ⟨A, c, rfl⟩ := own_slice hown
  exact ⟨A, c, rfl, NewInts.of hown hn hok hb⟩
theorem GivesIntsE.nil (t : TypeId) {w w' : World} (err : Int) (hb : Below w.heap.size w w') : GivesIntsE t w 0 [] err (.returned (.tuple #[.slice none 0 0, .int .i64 err])) w' :=
  ⟨none, 0, rfl, NewInts.of (World.ownsRow_nil _ _ _ _) rfl (fun i => by rw [nth_ge (by simp)]; exact I64.zero) hb⟩
theorem GivesInts.mk {t : TypeId} {w w' : World} {ys : List Int} {g n : Nat} (hr : Row w' g t ys) (hg : w.heap.size ≤ g) (hn : ys.length = n) (hm : n ≤ maxLen) (hok : ∀ i, I64 (nth ys i)) (hb : Below w.heap.size w w') :
    GivesInts t w n ys (.returned (.slice (some ⟨g, 0, none⟩) n n)) w' := by
  subst hn
  have := hr.own hg (Nat.le_refl _) hm
  rw [List.take_length] at this
  exact ⟨_, _, rfl, NewInts.of this rfl hok hb⟩
theorem I64.small {a : Int} (h0 : 0 ≤ a) (h1 : a ≤ 9223372036854775807) : I64 a := ⟨by omega, h1⟩
theorem tab_i64 {n : Nat} {f : Nat → Int} (h : ∀ i, I64 (f i)) (i : Nat) : I64 (nth (tab n f) i) := by
  rw [nth_tab]; split
  · exact h i
  · exact I64.zero

/-- Only blocks of which S speaks, and new ones, may have turned. -/
structure Only (S : Nat → Prop) (w w' : World) : Prop where
  os : w'.os = w.os
  tape : w'.tape = w.tape
  output : w'.output = w.output
  size : w.heap.size ≤ w'.heap.size
  block : ∀ k, k < w.heap.size → ¬ S k → w'.heap[k]? = w.heap[k]?
section
variable {S T : Nat → Prop} {w w' w'' : World}
theorem Only.refl (S : Nat → Prop) (w : World) : Only S w w := ⟨rfl, rfl, rfl, Nat.le_refl _, fun _ _ _ => rfl⟩
theorem Only.trans (h : Only S w w') (k : Only S w' w'') : Only S w w'' :=
  ⟨k.os.trans h.os, k.tape.trans h.tape, k.output.trans h.output, Nat.le_trans h.size k.size, fun i hi hs => (k.block i (Nat.lt_of_lt_of_le hi h.size) hs).trans (h.block i hi hs)⟩
theorem Only.mono (h : Only S w w') (hs : ∀ k, S k → T k) : Only T w w' := ⟨h.os, h.tape, h.output, h.size, fun k hk ht => h.block k hk (fun hs' => ht (hs k hs'))⟩
theorem Only.setCell (h : Only S w w') {p : Addr} (hp : S p.block) (u : Value) : Only S w (w'.setCell p u) :=
  ⟨h.os, h.tape, h.output, by simpa [World.setCell] using h.size, fun k hk hs => (Below.heap_setCell w' p u k (fun e => hs (by rw [e]; exact hp))).trans (h.block k hk hs)⟩
theorem Only.drew (h : Only S w w') : Only S w w'.drew := ⟨h.os, h.tape, h.output, h.size, h.block⟩
theorem Only.drewN (h : Only S w w') (n : Nat) : Only S w (w'.drewN n) := ⟨h.os, h.tape, h.output, h.size, h.block⟩
theorem Only.alloc (h : Only S w w') (o : Obj) : Only S w (w'.alloc o) :=
  ⟨h.os, h.tape, h.output, Nat.le_trans h.size (by simp), fun k hk hs => (Below.heap_alloc _ _ _ (Nat.lt_of_lt_of_le hk h.size)).trans (h.block k hk hs)⟩
theorem Only.cell (h : Only S w w') {p : Addr} (hp : p.block < w.heap.size) (hs : ¬ S p.block) : w'.cell? p = w.cell? p := World.cell?_of_block (h.block _ hp hs)
theorem Only.below {B : Nat} (h : Only S w w') (hB : B ≤ w.heap.size) (hs : ∀ k, S k → B ≤ k) : Below B w w' :=
  ⟨h.os, h.tape, h.output, h.size, fun k hk => h.block k (by omega) (fun h' => by have := hs k h'; omega)⟩
theorem Only.of_below {B : Nat} (h : Below B w w') : Only (fun k => B ≤ k) w w' := ⟨h.os, h.tape, h.output, h.size, fun k _ hs => h.block k (by omega)⟩
theorem Only.of_grown {row : Option Nat} (h : w.grownBy w' row) : Only (fun k => row = some k) w w' := ⟨h.os, h.tape, h.output, h.size, fun k hk hs => h.block k hk (fun e => hs e.symm)⟩
theorem Row.only {g : Nat} {t : TypeId} {xs : List Int} (h : Row w g t xs) (ho : Only S w w') (hs : ¬ S g) : Row w' g t xs := (ho.block g h.lt hs).trans h
end

/-- A row of numbers never lies in the block of a slice of other things. -/
theorem own_row_ne {w : World} {base : Nat} {e t : TypeId} {sz n : Nat} {v : Value} {xs : List Value} {g : Nat} {ys : List Int} (h : w.ownsRow base e sz v n xs) (hr : Row w g t ys) (hne : e ≠ t) : some g ≠ v.ownBlock := by
  rcases h.2 with ⟨rfl, _⟩ | ⟨g', cap, cur, rfl, _, hh, _⟩
  · simp [Value.ownBlock]
  · intro he
    have : g = g' := by simpa [Value.ownBlock] using he
    subst this
    unfold Row at hr
    rw [hh] at hr
    injection hr with hr
    injection hr with _ ht
    exact hne ht
/-- A new row that a header tells of is appended. -/
theorem rows_app {w w' : World} {base : Nat} {e t : TypeId} {sz n : Nat} {v : Value} {xs : List Value} {g : Nat} {ys : List Int} {o : Obj} (h : w.ownsRow base e sz v n xs) (hr : Row w g t ys) (hne : e ≠ t) (hg : (w.alloc o).grownBy w' v.ownBlock) : Row w' g t ys :=
  (hr.alloc o).grown hg (own_row_ne h hr hne)

/-- A call that hands back rows of which P holds, and an error's number. -/
def GivesRows (w : World) (err : Int) (P : List (List Int) → Prop) (e : Ending) (w' : World) : Prop :=
  ∃ A n c rows', e = .returned (.tuple #[.slice A n c, .int .i64 err]) ∧ Mat w' A n rows' ∧ P rows' ∧ Below w.heap.size w w'

/-- A store into a cell that holds no number turns no list of numbers. -/
theorem Ints.far {w : World} {A : Option Addr} {n : Nat} {xs : List Int} (h : Ints w A n xs) {p : Addr} {u x : Value} (hp : w.cell? p = some u) (hu : ∀ k i, u ≠ .int k i) : Ints (w.setCell p x) A n xs :=
  ⟨h.len, fun hn => by
    obtain ⟨b, o, e, hb, hc⟩ := h.at_ hn
    refine ⟨b, o, e, by simpa [World.setCell] using hb, fun i hi => ?_⟩
    rw [World.cell?_setCell_other w p ⟨b, o + i, none⟩ x (fun e2 => ?_)]
    · exact hc i hi
    · have := hc i hi
      rw [← e2, hp] at this
      injection this with this
      exact hu _ _ this, h.ok⟩

end Cl

namespace Cl
open Go Go.RowKit

theorem block_of_add (a : Addr) (n : Nat) : (a.add n).block = a.block := by unfold Addr.add; split <;> rfl
theorem add_of_add (a : Addr) (i j : Nat) : (a.add i).add j = a.add (i + j) := by
  unfold Addr.add
  by_cases hi : i = 0 <;> by_cases hj : j = 0 <;> simp [hi, hj, Nat.add_assoc]

def Reads (w : World) (B size : Nat) (A : Option Addr) (n : Nat) (xs : List Value) : Prop :=
  xs.length = n * size ∧ (0 < n → ∃ ad, A = some ad ∧ ad.block < B ∧ ∀ j u, xs[j]? = some u → w.cell? (ad.add j) = some u)

section
variable {w w' : World} {B B' size n : Nat} {A : Option Addr} {xs : List Value}
theorem Reads.none_ : Reads w B size A 0 [] := ⟨by simp, fun h => absurd h (by omega)⟩
theorem Reads.at_ {k : Nat} (h : Reads w B 1 A n xs) (hk : k < n) : ∃ ad u, A = some ad ∧ ad.block < B ∧ xs[k]? = some u ∧ w.cell? (ad.add k) = some u := by
  obtain ⟨ad, e, hb, hc⟩ := h.2 (by omega)
  have hl : k < xs.length := by have := h.1; omega
  exact ⟨ad, xs[k], e, hb, List.getElem?_eq_getElem hl, hc k _ (List.getElem?_eq_getElem hl)⟩
theorem Reads.keep (h : Reads w B size A n xs) (hk : ∀ p : Addr, p.block < B → w'.cell? p = w.cell? p) : Reads w' B size A n xs :=
  ⟨h.1, fun hn => by
    obtain ⟨ad, e, hb, hc⟩ := h.2 hn
    exact ⟨ad, e, hb, fun j u hu => (hk _ (by rw [block_of_add]; exact hb)).trans (hc j u hu)⟩⟩
theorem Reads.more (h : Reads w B size A n xs) (hB : B ≤ B') : Reads w B' size A n xs :=
  ⟨h.1, fun hn => by
    obtain ⟨ad, e, hb, hc⟩ := h.2 hn
    exact ⟨ad, e, by omega, hc⟩⟩
theorem Reads.below (h : Reads w B size A n xs) (hb : Below B w w') : Reads w' B size A n xs := h.keep fun _ hp => hb.cell hp
theorem Reads.drew (h : Reads w B size A n xs) : Reads w.drew B size A n xs := h
theorem Reads.drewN (h : Reads w B size A n xs) (k : Nat) : Reads (w.drewN k) B size A n xs := h
theorem Reads.alloc (h : Reads w B size A n xs) (hB : B ≤ w.heap.size) (o : Obj) : Reads (w.alloc o) B size A n xs := h.keep fun p hp => World.cell?_alloc_lt w o p (by omega)
theorem Reads.setCell (h : Reads w B size A n xs) {p : Addr} (hB : B ≤ p.block) (u : Value) : Reads (w.setCell p u) B size A n xs :=
  h.keep fun q hq => World.cell?_setCell_other w p q u (fun e => by subst e; omega)
theorem Reads.grown (h : Reads w B size A n xs) {row : Option Nat} (hg : w.grownBy w' row) (hB : B ≤ w.heap.size) (hr : ∀ g, row = some g → B ≤ g) : Reads w' B size A n xs :=
  h.keep fun p hp => World.cell?_of_block (hg.block p.block (by omega) (fun e => by have := hr _ e.symm; omega))
theorem Reads.cut (h : Reads w B size A n xs) {k cap : Nat} (hk : k ≤ n) (hc : n ≤ cap) :
    Reads w B size (if cap = k then A else A.map (·.add (k * size))) (n - k) (xs.drop (k * size)) := by
  refine ⟨by rw [List.length_drop, h.1, Nat.sub_mul], fun hn => ?_⟩
  obtain ⟨ad, rfl, hb, hcell⟩ := h.2 (by omega)
  rw [if_neg (by omega)]
  refine ⟨ad.add (k * size), rfl, by rw [block_of_add]; exact hb, fun j u hu => ?_⟩
  rw [add_of_add]
  exact hcell _ u (by rw [← hu, List.getElem?_drop])
theorem Reads.of_own {base : Nat} {e : TypeId} {c : Nat} (h : w.ownsRow base e size (.slice A n c) n xs) : Reads w w.heap.size size A n xs := by
  refine ⟨h.1, fun hn => ?_⟩
  obtain ⟨g, cap, hv, _, hlt⟩ := h.form hn
  have hA : A = some ⟨g, 0, none⟩ := by injection hv
  subst hA
  exact ⟨_, rfl, hlt, h.cells (g := g) rfl⟩
end

section
variable {P : Program} (w : World)

theorem run_append_of_nil (base : Nat) (t ty e : TypeId) (i : TypeInfo) (size : Nat) (ht : P.underlying t = some (.slice e)) (hi : P.info? e = some i)
    (v : Value) (n : Nat) (xs : List Value) (hown : w.ownsRow base e size v n xs) (c : Nat) : (Builtin.append_ #[t, t] ty #[v, .slice none 0 c]).run P w = .ok v w := by
  rcases hown.2 with ⟨rfl, rfl⟩ | ⟨g, cap, cur, rfl, _, _, hnc, _⟩
  · simp [Builtin.append_, run_underlying ht, Go.sizeOf, typeInfo, hi, Builtin.lenOf, Builtin.firstCells]
  · simp [Builtin.append_, run_underlying ht, Go.sizeOf, typeInfo, hi, Builtin.lenOf, Builtin.firstCells, hnc, storeCells]

theorem run_append_any (base : Nat) (t ty e : TypeId) (i : TypeInfo) (z : Value) (size bytes : Nat) (ht : P.underlying t = some (.slice e)) (hi : P.info? e = some i) (hz : i.zero = some z)
    (hsize : i.size = size) (hby : i.bytes = bytes) (hzs : z.cells.size = size) (hsz : 0 < size)
    (v : Value) (n : Nat) (xs : List Value) (hown : w.ownsRow base e size v n xs)
    (B : Nat) (A : Option Addr) (m c : Nat) (news : List Value) (hr : Reads w B size A m news) (h1 : ∀ u ∈ news, u.oneCell' = true)
    (h63 : n + m ≤ maxLen) (hbytes : (n + m) * bytes ≤ 140737488355328) (hbase : base ≤ w.heap.size) :
    ∃ v' w', (Builtin.append_ #[t, t] ty #[v, .slice A m c]).run P w = .ok v' w' ∧ w'.ownsRow base e size v' (n + m) (xs ++ news) ∧ w.grownBy w' v.ownBlock ∧
      (v'.ownBlock = v.ownBlock ∨ v'.ownBlock = some w.heap.size) := by
  rcases A with _ | ad
  · have hm : m = 0 := by
      rcases Nat.eq_zero_or_pos m with h0 | h0
      · exact h0
      · obtain ⟨ad, h, _⟩ := hr.2 h0
        cases h
    subst hm
    have hn : news = [] := List.eq_nil_of_length_eq_zero (by simpa using hr.1)
    subst hn
    exact ⟨v, w, run_append_of_nil w base t ty e i size ht hi v n xs hown c, by simpa using hown, World.grownBy.refl w _, .inl rfl⟩
  · have hcells : ∀ j u, news[j]? = some u → w.cell? (ad.add j) = some u := by
      intro j u hu
      rcases Nat.eq_zero_or_pos m with h0 | h0
      · subst h0
        have hn : news = [] := List.eq_nil_of_length_eq_zero (by simpa using hr.1)
        subst hn
        simp at hu
      · obtain ⟨ad', h, _, hc⟩ := hr.2 h0
        injection h with h
        subst h
        exact hc j u hu
    obtain ⟨v', w', hrun, h2, h3, _, h5⟩ := run_append_own_at (P := P) w base t ty e i z size bytes ht hi hz hsize hby hzs hsz v n xs hown ad m c news hr.1 hcells h1 h63 hbytes hbase
    exact ⟨v', w', hrun, h2, h3, h5⟩

theorem wp_append_any {o : Oper} {a : Act} {K : Act → World → Prop} {Q : Exit → Act → World → Prop} (s x : Operand) (t : TypeId)
    (ho : o.op = .call { callee := .builtin .append, args := #[s, x], argTypes := #[t, t] })
    (base : Nat) (e : TypeId) (i : TypeInfo) (z : Value) (size bytes : Nat) (ht : P.underlying t = some (.slice e)) (hi : P.info? e = some i) (hz : i.zero = some z)
    (hsize : i.size = size) (hby : i.bytes = bytes) (hzs : z.cells.size = size) (hsz : 0 < size)
    (v : Value) (n : Nat) (xs : List Value) (hs : a.eval s = v) (hown : w.ownsRow base e size v n xs)
    (B : Nat) (A : Option Addr) (m c : Nat) (news : List Value) (hx : a.eval x = .slice A m c) (hr : Reads w B size A m news) (h1 : ∀ u ∈ news, u.oneCell' = true)
    (h63 : n + m ≤ maxLen) (hbytes : (n + m) * bytes ≤ 140737488355328) (hbase : base ≤ w.heap.size)
    (h : ∀ v' w', w'.ownsRow base e size v' (n + m) (xs ++ news) → w.grownBy w' v.ownBlock → (v'.ownBlock = v.ownBlock ∨ v'.ownBlock = some w.heap.size) → K (a.put o.dst v') w') : o.wp P a w K Q := by
  obtain ⟨v', w', hrun, h2, h3, h4⟩ := run_append_any (P := P) w base t o.type e i z size bytes ht hi hz hsize hby hzs hsz v n xs hown B A m c news hr h1 h63 hbytes hbase
  unfold Oper.wp execOp
  simp only [ho, resolve, invoke, builtin, Sem.run_bind, Sem.run_pure, Result.andThen_ok, List.map_toArray, List.map_cons, List.map_nil, hs, hx, hrun]
  exact h v' w' h2 h3 h4

theorem wpList_append_any {ops : Array Oper} {rest : List Oper} {o : Oper} {a : Act} {Q : Exit → Act → World → Prop} (hgd : o.guard = none) (s x : Operand) (t : TypeId)
    (ho : o.op = .call { callee := .builtin .append, args := #[s, x], argTypes := #[t, t] })
    (base : Nat) (e : TypeId) (i : TypeInfo) (z : Value) (size bytes : Nat) (ht : P.underlying t = some (.slice e)) (hi : P.info? e = some i) (hz : i.zero = some z)
    (hsize : i.size = size) (hby : i.bytes = bytes) (hzs : z.cells.size = size) (hsz : 0 < size)
    (v : Value) (n : Nat) (xs : List Value) (hs : a.eval s = v) (hown : w.ownsRow base e size v n xs)
    (B : Nat) (A : Option Addr) (m c : Nat) (news : List Value) (hx : a.eval x = .slice A m c) (hr : Reads w B size A m news) (h1 : ∀ u ∈ news, u.oneCell' = true)
    (h63 : n + m ≤ maxLen) (hbytes : (n + m) * bytes ≤ 140737488355328) (hbase : base ≤ w.heap.size)
    (h : ∀ v' w', w'.ownsRow base e size v' (n + m) (xs ++ news) → w.grownBy w' v.ownBlock → (v'.ownBlock = v.ownBlock ∨ v'.ownBlock = some w.heap.size) → wpList P ops Q rest (a.put o.dst v') w') : wpList P ops Q (o :: rest) a w :=
  wpList_plain hgd fun _ hK => wp_append_any w s x t ho base e i z size bytes ht hi hz hsize hby hzs hsz v n xs hs hown B A m c news hx hr h1 h63 hbytes hbase fun v' w' h2 h3 h4 => hK _ _ (h v' w' h2 h3 h4)

theorem step_append_any {ops : Array Oper} {o : Oper} {a : Act} {K : Act → World → Prop} {Q : Exit → Act → World → Prop} {E : Prop} (hgd : o.guard = none) (s x : Operand) (t : TypeId)
    (ho : o.op = .call { callee := .builtin .append, args := #[s, x], argTypes := #[t, t] })
    (base : Nat) (e : TypeId) (i : TypeInfo) (z : Value) (size bytes : Nat) (ht : P.underlying t = some (.slice e)) (hi : P.info? e = some i) (hz : i.zero = some z)
    (hsize : i.size = size) (hby : i.bytes = bytes) (hzs : z.cells.size = size) (hsz : 0 < size)
    (v : Value) (n : Nat) (xs : List Value) (hs : a.eval s = v) (hown : w.ownsRow base e size v n xs)
    (B : Nat) (A : Option Addr) (m c : Nat) (news : List Value) (hx : a.eval x = .slice A m c) (hr : Reads w B size A m news) (h1 : ∀ u ∈ news, u.oneCell' = true)
    (h63 : n + m ≤ maxLen) (hbytes : (n + m) * bytes ≤ 140737488355328) (hbase : base ≤ w.heap.size)
    (h : ∀ v' w', w'.ownsRow base e size v' (n + m) (xs ++ news) → w.grownBy w' v.ownBlock → (v'.ownBlock = v.ownBlock ∨ v'.ownBlock = some w.heap.size) → K (a.put o.dst v') w') :
    if Region.wanted o (yielded ops a.tmps) = true then Oper.wp P o a w K Q else E := by
  have hw : Region.wanted o (yielded ops a.tmps) = true := by simp [Region.wanted, hgd]
  rw [if_pos hw]
  exact wp_append_any w s x t ho base e i z size bytes ht hi hz hsize hby hzs hsz v n xs hs hown B A m c news hx hr h1 h63 hbytes hbase h
end

/-- An empty literal is the call's own. -/
theorem own_empty (w : World) {base : Nat} (e : TypeId) (hb : base ≤ w.heap.size) : (w.alloc (.cells #[] e)).ownsRow base e 1 (.slice (some ⟨w.heap.size, 0, none⟩) 0 0) 0 [] := by
  have := World.ownsRow_lit (e := e) (size := 1) w #[] 0 hb (by unfold maxLen; omega) (by simp)
  simpa using this
theorem reads_of_cell {w : World} {B : Nat} {g : Nat} {u : Value} (h : w.cell? ⟨g, 0, none⟩ = some u) (hg : g < B) : Reads w B 1 (some ⟨g, 0, none⟩) 1 [u] :=
  ⟨by simp, fun _ => ⟨_, rfl, hg, fun j v hv => by
    match j, hv with
    | 0, hv => simp at hv; subst hv; simpa [Addr.add] using h⟩⟩
theorem cell_new0 (w : World) (u : Value) (t : TypeId) : (w.alloc (.cells #[u] t)).cell? ⟨w.heap.size, 0, none⟩ = some u := by
  rw [cell_of_row _ _ 0 #[u] t (0, 0) (heap_alloc_new w _)]; rfl

theorem Reads.take {w : World} {B n q : Nat} {A : Option Addr} {xs : List Value} (h : Reads w B 1 A n xs) (hq : q ≤ n) : Reads w B 1 A q (xs.take q) :=
  ⟨by rw [List.length_take, h.1]; omega, fun h0 => by
    obtain ⟨ad, e, hb, hc⟩ := h.2 (by omega)
    refine ⟨ad, e, hb, fun j u hu => hc j u ?_⟩
    rw [List.getElem?_take] at hu
    split at hu
    · exact hu
    · cases hu⟩
theorem cell_new1 (w : World) (o : Obj) (u : Value) (t : TypeId) : ((w.alloc o).alloc (.cells #[u] t)).cell? ⟨w.heap.size + 1, 0, none⟩ = some u := by
  simp
theorem cell_old0 (w : World) (o : Obj) (u : Value) (t : TypeId) : ((w.alloc (.cells #[u] t)).alloc o).cell? ⟨w.heap.size, 0, none⟩ = some u := by
  rw [World.cell?_alloc_lt _ _ _ (by simp)]; exact cell_new0 w u t

end Cl

namespace Cl
open Go Go.RowKit

/-- Block g has cap cells, the first of them just these numbers, none of them frozen. -/
def RowA (w : World) (g : Nat) (t : TypeId) (cap : Nat) (xs : List Int) : Prop :=
  ∃ cur : Array Value, w.heap[g]? = some (.cells cur t (0, 0)) ∧ cur.size = cap ∧ cap ≤ maxLen ∧ xs.length ≤ cap ∧ cur.toList.take xs.length = ints xs
section
variable {w w' : World} {g cap : Nat} {t : TypeId} {xs : List Int}
theorem RowA.lt (h : RowA w g t cap xs) : g < w.heap.size := by obtain ⟨cur, h1, _⟩ := h; exact (Array.getElem?_eq_some_iff.1 h1).1
theorem RowA.le (h : RowA w g t cap xs) : xs.length ≤ cap ∧ cap ≤ maxLen := by obtain ⟨cur, _, _, h3, h4, _⟩ := h; exact ⟨h4, h3⟩
theorem RowA.cell (h : RowA w g t cap xs) {i : Nat} (hi : i < xs.length) : w.cell? ⟨g, i, none⟩ = some (.int .i64 (nth xs i)) := by
  obtain ⟨cur, h1, h2, h3, h4, h5⟩ := h
  rw [cell_of_row w g i cur t (0, 0) h1]
  have := ints_get hi
  rw [← h5, List.getElem?_take, if_pos hi] at this
  simpa using this
theorem RowA.frozen (h : RowA w g t cap xs) (i : Nat) : w.frozen? ⟨g, i, none⟩ = false := by
  obtain ⟨cur, h1, _⟩ := h; simp [World.frozen?, h1]
theorem RowA.drew (h : RowA w g t cap xs) : RowA w.drew g t cap xs := h
theorem RowA.drewN (h : RowA w g t cap xs) (n : Nat) : RowA (w.drewN n) g t cap xs := h
theorem RowA.keep (h : RowA w g t cap xs) (hk : w'.heap[g]? = w.heap[g]?) : RowA w' g t cap xs := by obtain ⟨cur, h1, r⟩ := h; exact ⟨cur, hk.trans h1, r⟩
theorem RowA.alloc (h : RowA w g t cap xs) (o : Obj) : RowA (w.alloc o) g t cap xs := h.keep (Below.heap_alloc w o g h.lt)
theorem RowA.set (h : RowA w g t cap xs) {i : Nat} (_hi : i < xs.length) (v : Int) : RowA (w.setCell ⟨g, i, none⟩ (.int .i64 v)) g t cap (xs.set i v) := by
  obtain ⟨cur, h1, h2, h3, h4, h5⟩ := h
  refine ⟨cur.setIfInBounds i (.int .i64 v), ?_, by simp [h2], h3, by simpa using h4, ?_⟩
  · simp [World.setCell, Array.getElem?_modify, h1]
  · rw [List.length_set, Array.toList_setIfInBounds, List.take_set, h5, Cl.ints_set]
theorem RowA.far (h : RowA w g t cap xs) {p : Addr} (hp : g ≠ p.block) (u : Value) : RowA (w.setCell p u) g t cap xs := h.keep (Below.heap_setCell w p u g hp)
theorem RowA.below {B : Nat} (h : RowA w g t cap xs) (hb : Below B w w') (hg : g < B) : RowA w' g t cap xs := h.keep (hb.block g hg)
theorem RowA.bel (h : RowA w g t cap xs) (hb : Below w.heap.size w w') : RowA w' g t cap xs := h.below hb h.lt
theorem RowA.only {S : Nat → Prop} (h : RowA w g t cap xs) (ho : Only S w w') (hs : ¬ S g) : RowA w' g t cap xs := h.keep (ho.block g h.lt hs)
theorem RowA.own (h : RowA w g t cap xs) {base : Nat} (hb : base ≤ g) : w.ownsRow base t 1 (.slice (some ⟨g, 0, none⟩) xs.length cap) xs.length (ints xs) := by
  obtain ⟨cur, h1, h2, h3, h4, h5⟩ := h
  exact ⟨by simp [ints_length], .inr ⟨g, cap, cur, rfl, hb, h1, h4, h3, by rw [Nat.mul_one]; exact h2, by rw [Nat.mul_one]; exact h5⟩⟩
theorem RowA.of_own {base c n : Nat} {a : Addr} (h : w.ownsRow base t 1 (.slice (some a) n c) n (ints xs)) : ∃ g, a = ⟨g, 0, none⟩ ∧ base ≤ g ∧ RowA w g t c xs := by
  have hl := h.1
  rw [ints_length, Nat.mul_one] at hl
  rcases h.2 with ⟨hv, _⟩ | ⟨g, cap, cur, hv, hg, hh, hnc, hcm, hcs, htake⟩
  · cases hv
  · simp only [Value.slice.injEq, Option.some.injEq] at hv
    obtain ⟨rfl, _, rfl⟩ := hv
    exact ⟨g, rfl, hg, cur, hh, by rw [Nat.mul_one] at hcs; exact hcs, hcm, by omega, by rw [Nat.mul_one, ← hl] at htake; exact htake⟩
theorem RowA.ints (h : RowA w g t cap xs) (hok : ∀ i, I64 (nth xs i)) : Ints w (some ⟨g, 0, none⟩) xs.length xs :=
  ⟨rfl, fun _ => ⟨g, 0, rfl, h.lt, fun i hi => by rw [Nat.zero_add]; exact h.cell hi⟩, hok⟩
theorem Row.toA (h : Row w g t xs) (hm : xs.length ≤ maxLen) : RowA w g t xs.length xs := ⟨_, h, by simp [ints_length], hm, Nat.le_refl _, by rw [List.take_of_length_le (by simp [ints_length])]⟩
/-- An owned slice that is not empty. -/
theorem own_some {base n : Nat} {v : Value} (h : w.ownsRow base t 1 v n (Cl.ints xs)) (hn : 0 < n) : ∃ g cap, v = .slice (some ⟨g, 0, none⟩) n cap ∧ base ≤ g ∧ RowA w g t cap xs := by
  rcases h.2 with ⟨_, h0⟩ | ⟨g, cap, cur, hv, _⟩
  · omega
  · subst hv
    obtain ⟨g', e, h2, h3⟩ := RowA.of_own h
    injection e with e
    subst e
    exact ⟨_, _, rfl, h2, h3⟩
end
/-- An append of a whole list of numbers. -/
theorem Ints.reads {w : World} {A : Option Addr} {n : Nat} {xs : List Int} (h : Ints w A n xs) : Reads w w.heap.size 1 A n (ints xs) :=
  ⟨by rw [ints_length, h.len, Nat.mul_one], fun hn => by
    obtain ⟨b, o, rfl, hb, hc⟩ := h.at_ hn
    refine ⟨_, rfl, hb, fun j u hu => ?_⟩
    have hj : j < xs.length := by
      have := (List.getElem?_eq_some_iff.1 hu).1
      rwa [ints_length] at this
    rw [ints_get hj] at hu
    injection hu with hu
    subst hu
    rw [Go.WideShapes.add_plain]
    exact hc j (by rw [← h.len]; exact hj)⟩
end Cl

namespace Cl
open Go

theorem ofInt_i64 (a : Nat) (ha : a < 9223372036854775808) : (BitVec.ofInt 64 (a : Int)).toNat = a := by
  rw [BitVec.ofInt_natCast, BitVec.toNat_ofNat]; exact Nat.mod_eq_of_lt (by omega)
theorem i64_and_nat (a b : Nat) (ha : a < 9223372036854775808) (hb : b < 9223372036854775808) : bits .and .i64 (a : Int) (b : Int) = ((a &&& b : Nat) : Int) := by
  have hx : a &&& b < 2 ^ 63 := Nat.and_lt_two_pow _ (by omega)
  show IntKind.i64.wrap ((BitVec.ofInt 64 (a : Int) &&& BitVec.ofInt 64 (b : Int)).toNat : Int) = _
  rw [BitVec.toNat_and, ofInt_i64 a ha, ofInt_i64 b hb, IntKind.wrap_i64]
  omega
theorem i64_and_one {k : Int} (h0 : 0 ≤ k) (h1 : k ≤ 9223372036854775807) : bits .and .i64 k 1 = k % 2 := by
  obtain ⟨n, rfl⟩ := Int.eq_ofNat_of_zero_le h0
  have := i64_and_nat n 1 (by omega) (by omega)
  rw [Nat.and_one_is_mod] at this
  have e : ((1 : Nat) : Int) = 1 := rfl
  rw [e] at this
  rw [this]; omega

theorem ret_int {k : IntKind} {a b : Int} (h : a = b) : Ending.returned (.int k a) = .returned (.int k b) := by rw [h]
theorem ret_bool {a b : Bool} (h : a = b) : Ending.returned (.bool a) = .returned (.bool b) := by rw [h]
theorem ret_int2 {k j : IntKind} {a b c : Int} (h : a = b) : Ending.returned (.tuple #[.int k a, .int j c]) = .returned (.tuple #[.int k b, .int j c]) := by rw [h]

theorem i64_and_mask (n : Int) (k : Nat) (hk : k ≤ 62) : bits .and .i64 n ((2 ^ k - 1 : Nat) : Int) = n % (2 ^ k : Nat) := by
  have hpos : 0 < 2 ^ k := Nat.two_pow_pos k
  have hle : 2 ^ k ≤ 2 ^ 62 := Nat.pow_le_pow_right (by omega) hk
  have e1 : (BitVec.ofInt 64 n).toNat &&& (2 ^ k - 1) = (BitVec.ofInt 64 n).toNat % 2 ^ k := Nat.and_two_pow_sub_one_eq_mod _ _
  have hlt : (BitVec.ofInt 64 n).toNat % 2 ^ k < 2 ^ k := Nat.mod_lt _ hpos
  show IntKind.i64.wrap ((BitVec.ofInt 64 n &&& BitVec.ofInt 64 ((2 ^ k - 1 : Nat) : Int)).toNat : Int) = _
  rw [BitVec.toNat_and, ofInt_i64 (2 ^ k - 1) (by omega), e1]
  have e2 : ((BitVec.ofInt 64 n).toNat : Int) = n % (2 ^ 64 : Nat) := by
    rw [BitVec.toNat_ofInt]; exact Int.toNat_of_nonneg (Int.emod_nonneg _ (by simp))
  have e3 : ((BitVec.ofInt 64 n).toNat : Int) % (2 ^ k : Nat) = n % (2 ^ k : Nat) := by
    rw [e2, Int.emod_emod_of_dvd]
    exact Int.natCast_dvd_natCast.2 (Nat.pow_dvd_pow 2 (by omega))
  have e4 : (((BitVec.ofInt 64 n).toNat % 2 ^ k : Nat) : Int) = n % (2 ^ k : Nat) := by
    rw [← e3]; exact Int.natCast_emod _ _
  rw [IntKind.wrap_i64, ← e4]
  omega

theorem quiet_add_left {P : Program} {f : FuncId} {args : Array Value} {w : World} {a n : Nat} {v : Value}
    (h : Calls P f args (w.drewN (a + n)) fun e w' => e = .returned v ∧ w.drewN (a + n) = w') :
    Calls P f args (w.drewN (a + n)) fun e w'' => e = .returned v ∧ ∃ m, w'' = w.drewN (a + m) :=
  h.mono fun _ _ ⟨he, hm⟩ => ⟨he, n, hm.symm⟩
theorem quiet_left {P : Program} {f : FuncId} {args : Array Value} {w : World} {n : Nat} {v : Value}
    (h : Calls P f args (w.drewN n) fun e w' => e = .returned v ∧ w.drewN n = w') : Calls P f args (w.drewN n) fun e w'' => e = .returned v ∧ ∃ m, w'' = w.drewN m :=
  h.mono fun _ _ ⟨he, hm⟩ => ⟨he, n, hm.symm⟩
theorem quiet_ex {P : Program} {f : FuncId} {args : Array Value} {w : World} {n : Nat} {v : Value}
    (h : Calls P f args (w.drewN n) fun e w' => e = .returned v ∧ ∃ k, w' = (w.drewN n).drewN k) : Calls P f args (w.drewN n) fun e w'' => e = .returned v ∧ ∃ m, w'' = w.drewN m :=
  h.mono fun _ _ ⟨he, k, hm⟩ => ⟨he, n + k, by rw [hm, World.drewN_drewN]⟩
theorem quiet_add_ex {P : Program} {f : FuncId} {args : Array Value} {w : World} {a n : Nat} {v : Value}
    (h : Calls P f args (w.drewN (a + n)) fun e w' => e = .returned v ∧ ∃ k, w' = (w.drewN (a + n)).drewN k) : Calls P f args (w.drewN (a + n)) fun e w'' => e = .returned v ∧ ∃ m, w'' = w.drewN (a + m) :=
  h.mono fun _ _ ⟨he, k, hm⟩ => ⟨he, n + k, by rw [hm, World.drewN_drewN, Nat.add_assoc]⟩

end Cl
