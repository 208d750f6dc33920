/- Contract: a matrix's plain rows: the program's. -/
import Derived.Test.YthpkpnpkkflfpaaFlinF
import Derived.Test.YthpkpnpkkflfpaaFlinEch
import Derived.Test.YthpkpnpkkflfpaaFlinD
import Derived.Deep.LoopGhost
namespace Go.Proofs.Ythpkpnpkkflfpaa
open Go.RowKit Cl
attribute [local go_sem ↓] Go.wp_at_zero Go.wp_at_succ

theorem rows_info : (Try.prog.info? 39).map (fun i => (i.zero, i.size, i.bytes)) = some (some (.slice none 0 0), 1, 24) := by kernel_rfl

/-- The headers of rows in blocks of their own. -/
def heads (G : Nat → Nat) (L m : Nat) : List Value := (List.range m).map fun i => .slice (some ⟨G i, 0, none⟩) L L
theorem heads_length (G : Nat → Nat) (L m : Nat) : (heads G L m).length = m := by simp [heads]
theorem heads_get {G : Nat → Nat} {L m i : Nat} (h : i < m) : (heads G L m)[i]? = some (.slice (some ⟨G i, 0, none⟩) L L) := by simp [heads, h]
theorem heads_congr {G G' : Nat → Nat} {L m : Nat} (h : ∀ i, i < m → G i = G' i) : heads G L m = heads G' L m := by
  unfold heads
  exact List.map_congr_left fun i hi => by rw [h i (List.mem_range.1 hi)]
theorem heads_succ (G : Nat → Nat) (L m : Nat) : heads G L (m + 1) = heads G L m ++ [.slice (some ⟨G m, 0, none⟩) L L] := by simp [heads, List.range_succ]
theorem heads_set {G : Nat → Nat} {L m : Nat} (j g : Nat) : (heads G L m).set j (.slice (some ⟨g, 0, none⟩) L L) = heads (fun i => if i = j then g else G i) L m := by
  apply List.ext_getElem
  · simp [heads]
  · intro i h1 h2
    simp only [List.getElem_set, heads, List.getElem_map, List.getElem_range]
    by_cases e : j = i
    · subst e; simp
    · rw [if_neg e, if_neg (fun h => e h.symm)]
theorem heads_oneCell (G : Nat → Nat) (L m : Nat) : ∀ u ∈ heads G L m, u.oneCell' = true := by
  intro u hu
  simp only [heads, List.mem_map] at hu
  obtain ⟨x, _, rfl⟩ := hu
  rfl

/-- Rows in blocks of their own, under headers in a block of the call's own. -/
structure Grid (w : World) (B : Nat) (v : Value) (G : Nat → Nat) (m L : Nat) (R : Nat → List Int) (p : Int) : Prop where
  own : w.ownsRow B 39 1 v m (heads G L m)
  row : ∀ i, i < m → Row w (G i) 3 (R i)
  len : ∀ i, i < m → (R i).length = L
  pl : ∀ i, i < m → Pl p (R i)
  inj : ∀ i j, i < m → j < m → G i = G j → i = j
  ge : ∀ i, i < m → B ≤ G i

theorem Grid.push {w w2 w3 : World} {B L k : Nat} {v : Value} {G : Nat → Nat} {R : Nat → List Int} {p : Int} {o : Obj} {gg cap : Nat} (h : Grid w B v G k L R p) (hb2 : Below w.heap.size w w2) (hB : B ≤ w.heap.size) (hrow : Row w2 w.heap.size 3 (R k)) (hl : (R k).length = L) (hpl : Pl p (R k))
    (hown : w3.ownsRow B 39 1 (.slice (some ⟨gg, 0, none⟩) (k + 1) cap) (k + 1) (heads G L k ++ [.slice (some ⟨w.heap.size, 0, none⟩) L L])) (hgrow : (w2.alloc o).grownBy w3 v.ownBlock) :
    Grid w3 B (.slice (some ⟨gg, 0, none⟩) (k + 1) cap) (fun i => if i = k then w.heap.size else G i) (k + 1) L R p := by
  have hlt : ∀ i, i < k → G i < w.heap.size := fun i hi => (h.row i hi).lt
  have hown2 := own_bel h.own hb2
  refine ⟨?_, fun i hi => ?_, fun i hi => ?_, fun i hi => ?_, fun i j hi hj e => ?_, fun i hi => ?_⟩
  · have e : heads (fun i => if i = k then w.heap.size else G i) L (k + 1) = heads G L k ++ [.slice (some ⟨w.heap.size, 0, none⟩) L L] := by
      rw [heads_succ, if_pos rfl]
      congr 1
      exact heads_congr fun i hi => if_neg (by omega)
    rw [e]; exact hown
  · by_cases e : i = k
    · subst e; simp only [if_true]; exact rows_app hown2 hrow (by decide) hgrow
    · simp only [if_neg e]
      exact rows_app hown2 ((h.row i (by omega)).bel hb2) (by decide) hgrow
  · by_cases e : i = k
    · subst e; exact hl
    · exact h.len i (by omega)
  · by_cases e : i = k
    · subst e; exact hpl
    · exact h.pl i (by omega)
  · by_cases e1 : i = k <;> by_cases e2 : j = k
    · omega
    · rw [if_pos e1, if_neg e2] at e; have := hlt j (by omega); omega
    · rw [if_neg e1, if_pos e2] at e; have := hlt i (by omega); omega
    · rw [if_neg e1, if_neg e2] at e; exact h.inj i j (by omega) (by omega) e
  · by_cases e : i = k
    · simp only [if_pos e]; exact hB
    · simp only [if_neg e]; exact h.ge i (by omega)

theorem Grid.form {w : World} {B L m : Nat} {v : Value} {G : Nat → Nat} {R : Nat → List Int} {p : Int} (h : Grid w B v G m L R p) (hm : 0 < m) : ∃ g cap, v = .slice (some ⟨g, 0, none⟩) m cap ∧ B ≤ g ∧ m ≤ cap ∧ cap ≤ 9223372036854775807 := by
  rcases h.own.2 with ⟨_, h0⟩ | ⟨g, cap, cur, hv, hg, _, hc, hm2, _⟩
  · omega
  · exact ⟨g, cap, hv, hg, hc, by unfold maxLen at hm2; omega⟩
section
variable {w w' : World} {B L m g cap : Nat} {G : Nat → Nat} {R : Nat → List Int} {p : Int}
theorem Grid.cell (h : Grid w B (.slice (some ⟨g, 0, none⟩) m cap) G m L R p) {i : Nat} (hi : i < m) : w.cell? ⟨g, i, none⟩ = some (.slice (some ⟨G i, 0, none⟩) L L) := by
  rw [h.own.cellAt i (by omega), heads_get hi]
theorem Grid.ne (h : Grid w B (.slice (some ⟨g, 0, none⟩) m cap) G m L R p) {i : Nat} (hi : i < m) : G i ≠ g := by
  intro e
  have := own_row_ne h.own (h.row i hi) (by decide)
  exact this (by rw [e]; rfl)
theorem Grid.lt (h : Grid w B (.slice (some ⟨g, 0, none⟩) m cap) G m L R p) : g < w.heap.size := (h.own.lt g rfl).2
/-- Nothing of it has turned. -/
theorem Grid.only {S : Nat → Prop} (h : Grid w B (.slice (some ⟨g, 0, none⟩) m cap) G m L R p) (ho : Only S w w') (hg : ¬ S g) (hr : ∀ i, i < m → ¬ S (G i)) : Grid w' B (.slice (some ⟨g, 0, none⟩) m cap) G m L R p := by
  refine ⟨⟨h.own.1, ?_⟩, fun i hi => (h.row i hi).only ho (hr i hi), h.len, h.pl, h.inj, h.ge⟩
  rcases h.own.2 with h2 | ⟨g', cap', cur, hv, hg', hh, r⟩
  · exact .inl h2
  · have : g' = g := by simp only [Value.slice.injEq, Option.some.injEq, Addr.mk.injEq] at hv; exact hv.1.1.symm
    subst this
    exact .inr ⟨g', cap', cur, hv, hg', (ho.block g' (Array.getElem?_eq_some_iff.1 hh).1 hg).trans hh, r⟩
end

theorem Grid.drewN {w : World} {B L m g cap : Nat} {G : Nat → Nat} {R : Nat → List Int} {p : Int} (h : Grid w B (.slice (some ⟨g, 0, none⟩) m cap) G m L R p) (q : Nat) : Grid (w.drewN q) B (.slice (some ⟨g, 0, none⟩) m cap) G m L R p :=
  h.only ((Only.refl (fun _ => False) _).drewN q) (fun h => h) (fun _ _ h => h)
theorem Grid.others {w : World} {B L m g cap : Nat} {G : Nat → Nat} {R : Nat → List Int} {p : Int} (h : Grid w B (.slice (some ⟨g, 0, none⟩) m cap) G m L R p) {a k : Nat} (hk : a + k ≤ m) :
    Others w (some ⟨g, a, none⟩) k (fun i => G (a + i)) (fun i => R (a + i)) L p :=
  ⟨fun _ => ⟨g, a, rfl, h.lt, fun i hi => ⟨h.cell (by omega), h.ne (by omega)⟩⟩, fun i hi => h.row _ (by omega), fun i hi => h.len _ (by omega), fun i hi => h.pl _ (by omega), fun i j hi hj e => by have := h.inj _ _ (by omega) (by omega) e; omega⟩

theorem Grid.alloc {w : World} {B L m g cap : Nat} {G : Nat → Nat} {R : Nat → List Int} {p : Int} (h : Grid w B (.slice (some ⟨g, 0, none⟩) m cap) G m L R p) (o : Obj) : Grid (w.alloc o) B (.slice (some ⟨g, 0, none⟩) m cap) G m L R p :=
  h.only ((Only.refl (fun _ => False) _).alloc o) (fun h => h) (fun _ _ h => h)
theorem row_one (w : World) (t : TypeId) (c : Nat) : Row (w.alloc (.cells #[.int .i64 ((c : Int) + 1)] t)) w.heap.size t [((c + 1 : Nat) : Int)] := by
  have := Row.new w t [(c : Int) + 1]
  exact this

theorem Grid.mat {w : World} {B L m g cap n : Nat} {G : Nat → Nat} {R : Nat → List Int} {p : Int} (h : Grid w B (.slice (some ⟨g, 0, none⟩) m cap) G m L R p) (hn : n ≤ m) (hm : m ≤ 64) (hp : p ≤ 65521) : Mat w (some ⟨g, 0, none⟩) n (rowsTab n R) := by
  refine ⟨rowsTab_length _ _, by omega, fun _ => ⟨g, 0, rfl, h.lt, fun i hi => ?_⟩⟩
  rw [rAt_rowsTab, if_pos hi, Nat.zero_add, h.len i (by omega)]
  refine ⟨some ⟨G i, 0, none⟩, L, h.cell (by omega), ?_⟩
  have := (h.row i (by omega)).ints (fun j => (h.pl i (by omega)).i64 hp j)
  rwa [h.len i (by omega)] at this

theorem Grid.drew {w : World} {B L m g cap : Nat} {G : Nat → Nat} {R : Nat → List Int} {p : Int} (h : Grid w B (.slice (some ⟨g, 0, none⟩) m cap) G m L R p) : Grid w.drew B (.slice (some ⟨g, 0, none⟩) m cap) G m L R p :=
  h.only (Only.refl (fun _ => False) _).drew (fun h => h) (fun _ _ h => h)
theorem Grid.congr {w : World} {B L m : Nat} {v : Value} {G : Nat → Nat} {R R' : Nat → List Int} {p : Int} (h : Grid w B v G m L R p) (hr : ∀ i, i < m → R i = R' i) : Grid w B v G m L R' p :=
  ⟨h.own, fun i hi => hr i hi ▸ h.row i hi, fun i hi => hr i hi ▸ h.len i hi, fun i hi => hr i hi ▸ h.pl i hi, h.inj, h.ge⟩
/-- Two headers changed about. -/
def swapG (G : Nat → Nat) (a b : Nat) : Nat → Nat := fun i => if i = a then G b else if i = b then G a else G i
theorem swapG_ne {G : Nat → Nat} {a b m x : Nat} (h : ∀ i, i < m → G i ≠ x) (ha : a < m) (hb : b < m) (i : Nat) (hi : i < m) : swapG G a b i ≠ x := by
  unfold swapG; split
  · exact h b hb
  · split
    · exact h a ha
    · exact h i hi
theorem swapG_left (G : Nat → Nat) (a b : Nat) : swapG G a b a = G b := if_pos rfl
theorem Grid.swap {w : World} {B L m g cap : Nat} {G : Nat → Nat} {R : Nat → List Int} {p : Int} (h : Grid w B (.slice (some ⟨g, 0, none⟩) m cap) G m L R p) {a b : Nat} (ha : a < m) (hb : b < m) :
    Grid ((w.setCell ⟨g, a, none⟩ (.slice (some ⟨G b, 0, none⟩) L L)).setCell ⟨g, b, none⟩ (.slice (some ⟨G a, 0, none⟩) L L)) B (.slice (some ⟨g, 0, none⟩) m cap) (swapG G a b) m L (swapR R a b) p := by
  have h1 := (h.own.stored a (.slice (some ⟨G b, 0, none⟩) L L)).1
  have h2 := (h1.stored b (.slice (some ⟨G a, 0, none⟩) L L)).1
  have hrow : ∀ i, i < m → Row ((w.setCell ⟨g, a, none⟩ (.slice (some ⟨G b, 0, none⟩) L L)).setCell ⟨g, b, none⟩ (.slice (some ⟨G a, 0, none⟩) L L)) (G i) 3 (R i) := fun i hi => ((h.row i hi).far (h.ne hi) _).far (h.ne hi) _
  have hs : ∀ (P : Nat → Prop), P (G a) → P (G b) → (∀ i, i < m → P (G i)) → ∀ i, i < m → P (swapG G a b i) := by
    intro P _ _ h3 i hi
    unfold swapG; split
    · exact h3 b hb
    · split
      · exact h3 a ha
      · exact h3 i hi
  refine ⟨?_, fun i hi => ?_, fun i hi => ?_, fun i hi => ?_, fun i j hi hj e => ?_, fun i hi => hs _ (h.ge a ha) (h.ge b hb) h.ge i hi⟩
  · rw [heads_set, heads_set] at h2
    have e : heads (swapG G a b) L m = heads (fun i => if i = b then G a else if i = a then G b else G i) L m := heads_congr fun i _ => by
      unfold swapG
      by_cases e1 : i = a <;> by_cases e2 : i = b
      · subst e1; subst e2; simp
      · rw [if_pos e1, if_neg e2, if_pos e1]
      · rw [if_neg e1, if_pos e2, if_pos e2]
      · rw [if_neg e1, if_neg e2, if_neg e2, if_neg e1]
    rw [e]; exact h2
  · unfold swapG swapR; split
    · exact hrow b hb
    · split
      · exact hrow a ha
      · exact hrow i hi
  · unfold swapR; split
    · exact h.len b hb
    · split
      · exact h.len a ha
      · exact h.len i hi
  · unfold swapR; split
    · exact h.pl b hb
    · split
      · exact h.pl a ha
      · exact h.pl i hi
  · unfold swapG at e
    have inj := h.inj
    by_cases e1 : i = a <;> by_cases e2 : j = a <;> by_cases e3 : i = b <;> by_cases e4 : j = b <;> simp only [e1, e2, e3, e4, if_true, if_false] at e ⊢ <;> first
      | omega
      | (have := inj _ _ (by omega) (by omega) e; omega)
      | (split at e <;> first | (have := inj _ _ (by omega) (by omega) e; omega) | omega)
section
variable {w w' : World} {B L m g cap : Nat} {G : Nat → Nat} {R : Nat → List Int} {p : Int}
/-- One row has turned. -/
theorem Grid.setRow (h : Grid w B (.slice (some ⟨g, 0, none⟩) m cap) G m L R p) {i : Nat} (hi : i < m) {r : List Int} (hr : Row w' (G i) 3 r) (hl : r.length = L) (hpl : Pl p r) (ho : Only (fun x => x = G i) w w') :
    Grid w' B (.slice (some ⟨g, 0, none⟩) m cap) G m L (fun t => if t = i then r else R t) p := by
  have h1 : Grid w' B (.slice (some ⟨g, 0, none⟩) m cap) G m L (fun t => if t = i then r else R t) p → Grid w' B (.slice (some ⟨g, 0, none⟩) m cap) G m L (fun t => if t = i then r else R t) p := id
  refine ⟨⟨h.own.1, ?_⟩, fun t ht => ?_, fun t ht => ?_, fun t ht => ?_, h.inj, h.ge⟩
  · rcases h.own.2 with h2 | ⟨g', cap', cur, hv, hg', hh, r2⟩
    · exact .inl h2
    · have : g' = g := by simp only [Value.slice.injEq, Option.some.injEq, Addr.mk.injEq] at hv; exact hv.1.1.symm
      subst this
      exact .inr ⟨g', cap', cur, hv, hg', (ho.block g' (Array.getElem?_eq_some_iff.1 hh).1 (fun e => h.ne hi e.symm)).trans hh, r2⟩
  · by_cases e : t = i
    · subst e; simp only [if_true]; exact hr
    · simp only [if_neg e]; exact (h.row t ht).only ho (fun e2 => e (h.inj t i ht hi e2))
  · by_cases e : t = i
    · simp only [if_pos e]; exact hl
    · simp only [if_neg e]; exact h.len t ht
  · by_cases e : t = i
    · simp only [if_pos e]; exact hpl
    · simp only [if_neg e]; exact h.pl t ht
/-- No row is struck. -/
theorem Grid.struck0 (h : Grid w B (.slice (some ⟨g, 0, none⟩) m cap) G m L R p) {H : Nat → Nat} {R' : Nat → List Int} {c : Nat} {own : List Int} (hs : Struck w w' 0 H R' own c p 0) :
    Grid w' B (.slice (some ⟨g, 0, none⟩) m cap) G m L R p :=
  h.only hs.only (fun ⟨i, hi, _⟩ => absurd hi (by omega)) (fun _ _ ⟨i, hi, _⟩ => absurd hi (by omega))
/-- Some rows are struck. -/
theorem Grid.struck (h : Grid w B (.slice (some ⟨g, 0, none⟩) m cap) G m L R p) {a k c : Nat} {own : List Int} (hk : a + k ≤ m) (hp : 1 ≤ p) (hs : Struck w w' k (fun i => G (a + i)) (fun i => R (a + i)) own c p k) :
    Grid w' B (.slice (some ⟨g, 0, none⟩) m cap) G m L (fun t => if a ≤ t ∧ t < a + k then strikeRow own c p (R t) else R t) p := by
  have hno : ∀ x, (∀ i, i < k → x ≠ G (a + i)) → ¬ ∃ i, i < k ∧ x = G (a + i) := fun x hx ⟨i, hi, e⟩ => hx i hi e
  refine ⟨⟨h.own.1, ?_⟩, fun t ht => ?_, fun t ht => ?_, fun t ht => ?_, h.inj, h.ge⟩
  · rcases h.own.2 with h2 | ⟨g', cap', cur, hv, hg', hh, r2⟩
    · exact .inl h2
    · have : g' = g := by simp only [Value.slice.injEq, Option.some.injEq, Addr.mk.injEq] at hv; exact hv.1.1.symm
      subst this
      exact .inr ⟨g', cap', cur, hv, hg', (hs.only.block g' (Array.getElem?_eq_some_iff.1 hh).1 (hno _ (fun i hi e => h.ne (i := a + i) (by omega) e.symm))).trans hh, r2⟩
  · by_cases e : a ≤ t ∧ t < a + k
    · simp only [if_pos e]
      have := hs.done (t - a) (by omega)
      rwa [show a + (t - a) = t by omega] at this
    · simp only [if_neg e]
      refine (h.row t ht).only hs.only (hno _ (fun i hi e2 => ?_))
      have := h.inj t (a + i) ht (by omega) e2
      omega
  · by_cases e : a ≤ t ∧ t < a + k
    · simp only [if_pos e]; rw [strikeRow_length]; exact h.len t ht
    · simp only [if_neg e]; exact h.len t ht
  · by_cases e : a ≤ t ∧ t < a + k
    · simp only [if_pos e]; exact strikeRow_pl hp
    · simp only [if_neg e]; exact h.pl t ht
end

end Go.Proofs.Ythpkpnpkkflfpaa
