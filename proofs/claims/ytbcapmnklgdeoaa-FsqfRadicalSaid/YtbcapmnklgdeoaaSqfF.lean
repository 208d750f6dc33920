/- Layer 8's parts: the walk over the map, and what is handed back. -/
import Derived.Test.YtbcapmnklgdeoaaSqfD
import Derived.Test.YtbcapmnklgdeoaaFlinA
namespace Go.Proofs.Ytbcapmnklgdeoaa
open Go.RowKit Cl

theorem part_info : (Try.prog.info? 32).map (fun i => (i.zero, i.size, i.bytes)) = some (some (.agg #[.slice none 0 0, .int .i64 0]), 2, 32) := by kernel_rfl
theorem map_size {w : World} {P : Program} {k : TypeId} {R : Value → Option (DataW Value × List MemPlace)} {b n : Nat} {D : DataW Value} (h : w.ownsMap P k R b n D) : Maps.size D ≤ n := by
  obtain ⟨es, clock, _, _, hs, rfl⟩ := h
  rw [Maps.size_eq, Go.length_sorted, List.length_map, Array.length_toList]
  exact hs
section
variable {q : Prm}
/-- What the loop has seen: all of the levels that are not to come. -/
structure Gathered (w : World) (D : DataW Value) (a : Poly (Zp q)) (left : Lit → Bool) (L : List Ent) : Prop where
  ent : ∀ x ∈ L, 1 ≤ x.2 ∧ Poly.lvl a x.2 ≠ 1 ∧ left (.int .i64 (x.2 : Int)) = false ∧ Ints w x.1.1 (Poly.lvl a x.2).len (fromP (Poly.lvl a x.2))
  all : ∀ k : Nat, 1 ≤ k → Poly.lvl a k ≠ 1 → left (.int .i64 (k : Int)) = false → ∃ x ∈ L, x.2 = k
  left : ∀ kl, left kl = true → Maps.has D kl = true
  dis : L.Pairwise fun x y => x.2 ≠ y.2
theorem Gathered.start {w : World} {D : DataW Value} {a : Poly (Zp q)} (h : Found w D a fun _ => True) : Gathered w D a (Maps.has D) [] :=
  { ent := fun x hx => by cases hx
    all := fun k h1 h2 h3 => by
      obtain ⟨A, c, g, _⟩ := h.at_ k h1 h2 trivial
      rw [g] at h3; cases h3
    left := fun _ h => h
    dis := List.Pairwise.nil }
theorem key_of {x : Int} {kl : Lit} (h : keyOf Try.prog 3 (.int .i64 x) = some kl) : kl = .int .i64 x := by
  obtain ⟨y, e, h2, _⟩ := Maps.keyOf_int_inv Try.underlying3 h
  cases e
  exact h2
/-- A step of the loop: an entry is one of the levels. -/
theorem Gathered.step {w : World} {D : DataW Value} {a : Poly (Zp q)} {left : Lit → Bool} {L : List Ent} (hf : Found w D a fun _ => True) (h : Gathered w D a left L) {x : Int} {c : Option Addr × Nat × Nat} {kl : Lit} {y : DataW Value × List MemPlace}
    (hk : keyOf Try.prog 3 (.int .i64 x) = some kl) (hl : left kl = true) (hR : slEl (mkSl c) = some y) (hat : ∀ zd, D.atKey kl zd = y.1) :
    ∃ (k : Nat) (A : Option Addr) (cp : Nat), x = (k : Int) ∧ mkSl c = .slice A (Poly.lvl a k).len cp ∧ 1 ≤ k ∧ Poly.lvl a k ≠ 1 ∧ Gathered w D a (fun z => left z && !z.sameKey kl) (L ++ [((A, cp), k)]) := by
  have e := key_of hk
  obtain ⟨k, e2, h1, h2, _⟩ := hf.key kl (h.left kl hl)
  obtain ⟨A, cp, g1, g2, g3⟩ := hf.at_ k h1 h2 trivial
  have e3 : x = (k : Int) := by rw [e] at e2; injection e2
  have e4 : mkSl c = .slice A (Poly.lvl a k).len cp := by
    have h5 := hat (.held undef)
    rw [e2, g2] at h5
    have h6 : y = (.held (mkSl c), []) := by
      have : slEl (mkSl c) = some (.held (mkSl c), []) := rfl
      rw [this] at hR; cases hR; rfl
    rw [h6] at h5
    injection h5 with h7
    exact h7.symm
  have hkey : WideAt.IsKeyLit kl := by rw [e2]; trivial
  refine ⟨k, A, cp, e3, e4, h1, h2, fun z hz => ?_, fun j hj1 hj2 hj3 => ?_, fun z hz => h.left z (by rw [Bool.and_eq_true] at hz; exact hz.1), ?_⟩
  · rcases List.mem_append.1 hz with hz | hz
    · obtain ⟨i1, i2, i3, i4⟩ := h.ent z hz
      exact ⟨i1, i2, by show (left _ && _) = false; rw [i3]; rfl, i4⟩
    · rw [List.mem_singleton] at hz
      subst hz
      refine ⟨h1, h2, ?_, g3⟩
      show (left _ && !Lit.sameKey (.int .i64 (k : Int)) kl) = false
      rw [← e2, WideAt.sameKey_self hkey]; simp
  · by_cases e5 : j = k
    · exact ⟨_, List.mem_append_right _ (List.mem_singleton.2 rfl), e5.symm⟩
    · have : left (.int .i64 (j : Int)) = false := by
        have h8 : (left (.int .i64 (j : Int)) && !Lit.sameKey (.int .i64 (j : Int)) kl) = false := hj3
        rw [e2, Maps.sameKey_ne (fun e6 => by injection e6; omega)] at h8
        simpa using h8
      obtain ⟨z, hz, e7⟩ := h.all j hj1 hj2 this
      exact ⟨z, List.mem_append_left _ hz, e7⟩
  · rw [List.pairwise_append]
    refine ⟨h.dis, List.pairwise_singleton _ _, fun z hz u hu => ?_⟩
    rw [List.mem_singleton] at hu
    subst hu
    intro e8
    have := (h.ent z hz).2.2.1
    rw [show z.2 = k from e8, ← e2, hl] at this
    cases this
/-- The numbers, sorted, are those of the levels. -/
theorem Gathered.keys {w : World} {D : DataW Value} {a : Poly (Zp q)} {left : Lit → Bool} {L L' : List Ent} (ha : a ≠ 0) (h : Gathered w D a left L) (hl : ∀ kl, left kl = false) (hp : L'.Perm L) (hs : L'.Pairwise fun x y => x.2 ≤ y.2) : L'.map (·.2) = Poly.lvls a := by
  refine rising_ext ?_ (Poly.lvls_rising a) fun k => ?_
  · rw [List.pairwise_map]
    have h1 : L'.Pairwise fun x y => x.2 ≠ y.2 := hp.symm.pairwise h.dis (fun hxy e => hxy e.symm)
    exact (hs.and h1).imp fun h => by omega
  · rw [Poly.mem_lvls ha, List.mem_map]
    constructor
    · rintro ⟨x, hx, rfl⟩
      have := h.ent x (hp.mem_iff.1 hx)
      exact ⟨this.1, this.2.1⟩
    · intro ⟨h1, h2⟩
      obtain ⟨x, hx, e⟩ := h.all k h1 h2 (hl _)
      exact ⟨x, hp.mem_iff.2 hx, e⟩
theorem Gathered.done {w w' : World} {D : DataW Value} {a : Poly (Zp q)} {left : Lit → Bool} {L L' : List Ent} {g : Nat} (ha : a ≠ 0) (h : Gathered w D a left L) (hl : ∀ kl, left kl = false) (hp : L'.Perm L) (hs : L'.Pairwise fun x y => x.2 ≤ y.2) (hb : Below w.heap.size w w') (hg : g < w'.heap.size)
    (hc : ∀ i (h : i < L'.length), w'.cell? ⟨g, 2 * i, none⟩ = some (.slice (L'[i]).1.1 (Poly.lvl a (L'[i]).2).len (L'[i]).1.2) ∧ w'.cell? ⟨g, 2 * i + 1, none⟩ = some (.int .i64 ((L'[i]).2 : Int))) :
    L.length = (Poly.partsL a).length ∧ Prs w' (some ⟨g, 0, none⟩) (Poly.partsL a).length (Poly.partsL a) := by
  have hk := h.keys ha hl hp hs
  have e : Poly.partsL a = L'.map fun x => (Poly.lvl a x.2, x.2) := by
    unfold Poly.partsL
    rw [← hk, List.map_map]; rfl
  refine ⟨by rw [e, List.length_map, hp.length_eq], rfl, fun _ => ⟨g, 0, rfl, hg, fun i hi => ?_⟩⟩
  have hi' : i < L'.length := by rw [e, List.length_map] at hi; exact hi
  obtain ⟨c0, c1⟩ := hc i hi'
  have hin := (h.ent _ (hp.mem_iff.1 (List.getElem_mem hi'))).2.2.2
  have eg : (Poly.partsL a)[i] = (Poly.lvl a (L'[i]).2, (L'[i]).2) := by
    have : (Poly.partsL a)[i]? = (L'.map fun x => (Poly.lvl a x.2, x.2))[i]? := by rw [e]
    rw [List.getElem?_eq_getElem hi, List.getElem?_map, List.getElem?_eq_getElem hi'] at this
    exact Option.some.inj this
  refine ⟨(L'[i]).1.1, (L'[i]).1.2, ?_, ?_, ?_⟩
  · rw [eg, Nat.zero_add]; exact c0
  · rw [eg, Nat.zero_add]; exact c1
  · rw [eg]; exact hin.bel hb
/-- No level: nothing is handed back. -/
theorem Gathered.none_ {w : World} {D : DataW Value} {a : Poly (Zp q)} {left : Lit → Bool} (ha : a ≠ 0) (h : Gathered w D a left []) (hl : ∀ kl, left kl = false) : Poly.partsL a = [] := by
  have := h.keys ha hl (L' := []) (List.Perm.refl _) List.Pairwise.nil
  unfold Poly.partsL
  rw [← this]; rfl
end
end Go.Proofs.Ytbcapmnklgdeoaa
