/- Contracts: the document's layer 8: Is; parts under way. -/
import Derived.Test.YtbcapmnklgdeoaaQsfB
import Derived.Test.YtbcapmnklgdeoaaFlinC
import Derived.Test.YtbcapmnklgdeoaaSqfG
namespace Go.Proofs.Ytbcapmnklgdeoaa
open Go.RowKit Cl
attribute [local go_sem ↓] Go.wp_at_zero Go.wp_at_succ

section
variable {q : Prm}
theorem sq_iff {m : Poly (Zp q)} (hm : m.Mon) : (Poly.gcdP m m.D).len = 1 ↔ m = Poly.rad m := by
  have hi := Poly.gcd_is m m.D
  have hg := hi.mon_of (.inl hm.ne)
  have hv : ∀ f, f.Irr → Poly.val f (Poly.gcdP m m.D) = if q.p.toNat ∣ Poly.val f m then Poly.val f m else Poly.val f m - 1 := fun f hf => hf.val_gcd_D hm.ne hi
  rw [hg.len_one]
  constructor
  · intro h
    refine hm.eq_rad hm.ne fun f hf => ?_
    have h1 := hv f hf
    rw [h, Poly.val_one hf] at h1
    split at h1
    · rw [← h1]; rfl
    · next hd =>
      have : Poly.val f m ≠ 0 := fun e => hd (by rw [e]; exact ⟨0, by omega⟩)
      rw [if_pos (by omega)]; omega
  · intro h
    refine hg.eq_one_of_val fun f hf => ?_
    rw [hv f hf]
    have h1 := Poly.val_rad hm.ne hf
    rw [← h] at h1
    split
    · next hd =>
      split at h1
      · rw [h1] at hd
        have := Nat.le_of_dvd (by omega) hd
        have := q.pr.two
        omega
      · exact h1
    · split at h1 <;> omega
theorem same_sq {a : Poly (Zp q)} (h0 : a ≠ 0) : eqI (fromP a.monic) (fromP (Poly.rad a)) = (((Poly.gcdP a.monic a.monic.D).len : Int) == 1) := by
  rw [fromP_iff]
  have h1 := sq_iff (Poly.monic_mon h0)
  rw [Poly.rad_monic h0] at h1
  by_cases h : (Poly.gcdP a.monic a.monic.D).len = 1
  · rw [h, decide_eq_true (congrArg fromP (h1.1 h))]; rfl
  · rw [decide_eq_false fun e => h (h1.2 (fromP_inj e))]
    exact (beq_eq_false_iff_ne.2 (by omega)).symm
/-- Entries of a row under way: each tells its level, and lies elsewhere than the row. -/
def Ents (w : World) (a : Poly (Zp q)) (v : Value) (L : List Ent) : Prop :=
  ∀ x ∈ L, 0 < (Poly.lvl a x.2).len ∧ Ints w x.1.1 (Poly.lvl a x.2).len (fromP (Poly.lvl a x.2)) ∧ ∀ y, x.1.1 = some y → v.ownBlock ≠ some y.block
theorem Ents.bel {w w' : World} {a : Poly (Zp q)} {v : Value} {L : List Ent} (h : Ents w a v L) (hb : Below w.heap.size w w') : Ents w' a v L := fun x hx => ⟨(h x hx).1, (h x hx).2.1.bel hb, (h x hx).2.2⟩
theorem Ents.app {w w' : World} {a : Poly (Zp q)} {v : Value} {L : List Ent} {x : Ent} {o : Obj} {g n c H : Nat} (h : Ents w a v L) (hg : (w.alloc o).grownBy w' v.ownBlock) (hat : v.ownBlock = some g ∨ g = H) (hH : (w.alloc o).heap.size = H)
    (hp : 0 < (Poly.lvl a x.2).len) (hx : Ints w x.1.1 (Poly.lvl a x.2).len (fromP (Poly.lvl a x.2))) (hl : ∀ y, x.1.1 = some y → v.ownBlock ≠ some y.block) : Ents w' a (.slice (some ⟨g, 0, none⟩) n c) (L ++ [x]) := by
  have key : ∀ z : Ent, 0 < (Poly.lvl a z.2).len → Ints w z.1.1 (Poly.lvl a z.2).len (fromP (Poly.lvl a z.2)) → (∀ y, z.1.1 = some y → v.ownBlock ≠ some y.block) → 0 < (Poly.lvl a z.2).len ∧ Ints w' z.1.1 (Poly.lvl a z.2).len (fromP (Poly.lvl a z.2)) ∧ ∀ y, z.1.1 = some y → (Value.slice (some ⟨g, 0, none⟩) n c).ownBlock ≠ some y.block := by
    intro z h1 h2 h3
    refine ⟨h1, (h2.alloc o).grown hg (fun _ y hy e => h3 y hy e), fun y hy e => ?_⟩
    have hlt := h2.blk_lt h1 y hy
    have e' : g = y.block := by injection e
    rcases hat with h4 | h4
    · exact h3 y hy (by rw [h4, e'])
    · rw [← hH] at h4; simp at h4; omega
  intro z hz
  rcases List.mem_append.1 hz with hz | hz
  · exact key z (h z hz).1 (h z hz).2.1 (h z hz).2.2
  · rw [List.mem_singleton] at hz; subst hz; exact key z hp hx hl
theorem Ents.prs {w : World} {a : Poly (Zp q)} {v : Value} {L : List Ent} {base : Nat} {t : TypeId} (h : Ents w a v L) (hown : w.ownsRow base t 2 v L.length (pcells (fun k => (Poly.lvl a k).len) L)) (hk : L.map (·.2) = Poly.lvls a) :
    ∃ A c, v = .slice A (Poly.partsL a).length c ∧ Prs w A (Poly.partsL a).length (Poly.partsL a) := by
  have e : Poly.partsL a = L.map fun x => (Poly.lvl a x.2, x.2) := by
    unfold Poly.partsL
    rw [← hk, List.map_map]; rfl
  have hl : L.length = (Poly.partsL a).length := by rw [e, List.length_map]
  rcases hown.2 with ⟨hv, hn0⟩ | ⟨g, cap, cur, hv, hgb, hh, _⟩
  · refine ⟨none, 0, by rw [hv, ← hl, hn0], rfl, fun h0 => ?_⟩
    omega
  · rw [hl] at hv
    refine ⟨_, cap, hv, rfl, fun _ => ⟨g, 0, rfl, (Array.getElem?_eq_some_iff.1 hh).1, fun i hi => ?_⟩⟩
    have hi' : i < L.length := by rw [hl]; exact hi
    have hcell : ∀ j u, (pcells (fun k => (Poly.lvl a k).len) L)[j]? = some u → w.cell? ⟨g, j, none⟩ = some u := fun j u hu => by
      have := hown.cells (g := g) (by rw [hv]; rfl) j u hu
      rwa [Go.WideShapes.add_plain, Nat.zero_add] at this
    have eg : (Poly.partsL a)[i] = (Poly.lvl a (L[i]).2, (L[i]).2) := by
      have : (Poly.partsL a)[i]? = (L.map fun x => (Poly.lvl a x.2, x.2))[i]? := by rw [e]
      rw [List.getElem?_eq_getElem hi, List.getElem?_map, List.getElem?_eq_getElem hi'] at this
      exact Option.some.inj this
    refine ⟨(L[i]).1.1, (L[i]).1.2, ?_, ?_, ?_⟩
    · rw [eg, Nat.zero_add]; exact hcell _ _ (pcells_get0 hi')
    · rw [eg, Nat.zero_add]; exact hcell _ _ (pcells_get1 hi')
    · rw [eg]; exact (h _ (List.getElem_mem hi')).2.1
end
section
variable {A : Option Addr} {n c N : Nat} {p : Int} {w : World} {hp : Pr p} {a : Poly (Zp ⟨p, hp⟩)}
theorem qisR (ha : Rd w A n a) (hn : n ≤ N) (hN : N ≤ 90000000) (h0 : a ≠ 0) : Calls Try.prog 17 #[.slice A n c, .int .i64 p] w fun e w' => e = .returned (.tuple #[.bool (sqB a), .int .i64 0]) ∧ Below w.heap.size w w' := by
  have C := Lib.hid (qwrongR (c := c) ha hn (by omega) h0)
  have Ha := Lib.hid ha
  have Hs : Hid (eqI (fromP a.monic) (fromP (Poly.rad a)) = sqB a) := same_sq h0
  clear ha
  go_enter Try.func17, Try.ntmps17
  go_wp2_with fail
  refine C.out.mono ?_
  rintro e w1 ⟨rfl, hb1⟩
  have Ha1 : Hid (Rd w1 A n a) := by obtain ⟨xs, hx, e⟩ := Ha.out; exact ⟨xs, hx.bel hb1, e⟩
  go_wp2_with fail
  refine (qmonicR (hp := hp) Ha1.out hn (by omega)).mono ?_
  rintro e w2 ⟨A2, c2, rfl, l2, h2, hb2⟩
  have Ha2 : Hid (Rd w2 A n a) := by obtain ⟨xs, hx, e⟩ := Ha1.out; exact ⟨xs, hx.bel hb2, e⟩
  go_wp2_with fail
  refine (qradicalR (hp := hp) Ha2.out hn hN h0).mono ?_
  rintro e w3 ⟨A3, c3, rfl, l3, h3, hb3⟩
  have H2 := Lib.hid (h2.bel hb3)
  go_wp2_with fail
  refine (same06_any _ _ _ _ _ _ _ _ _ H2.out h3 (by omega) (by omega)).mono ?_
  rintro e w4 ⟨rfl, k, rfl⟩
  rw [Hs.out]
  go_wp2_with fail
  go_ret2
  exact ⟨rfl, below_drewN (below_tr (below_tr hb1 hb2) hb3) k⟩
end
end Go.Proofs.Ytbcapmnklgdeoaa
