/- Contract: the document's Plain: terms put in their places one by one, those of one place added. -/
import Derived.Test.YtjmbejodcloapaaGreatPTrms
import Derived.Test.YtjmbejodcloapaaGreatPZsc
import Derived.Test.YtjmbejodcloapaaGreatPRadf
import Derived.Test.YtjmbejodcloapaaGreatPTj
import Derived.Deep.DeepCutAuto
import Derived.Deep.CutBlock
set_option linter.unusedVariables false
set_option linter.unusedSimpArgs false
namespace Go.Proofs.YtjmbejodcloapaaGreat
open Go.RowKit Cl
attribute [local go_sem ↓] Go.wp_at_zero Go.wp_at_succ
theorem sgn_zero9 (z : Int) : sgn z = 0 ↔ z = 0 := by unfold sgn; split <;> (try split) <;> omega
theorem term_infoR : (Tryz.prog.info? 45).map (fun i => (i.zero, i.size, i.bytes)) = some (some (.agg #[.bool false, .slice none 0 0, .slice none 0 0]), 3, 56) := by kernel_rfl
theorem own_empty3 (w : World) {base : Nat} (e : TypeId) (hb : base ≤ w.heap.size) : (w.alloc (.cells #[] e)).ownsRow base e 3 (.slice (some ⟨w.heap.size, 0, none⟩) 0 0) 0 [] := by
  have := World.ownsRow_lit (e := e) (size := 3) w #[] 0 hb (by unfold maxLen; omega) (by simp)
  simpa using this
theorem cells_new3 (w : World) (u v x : Value) (t : TypeId) : (w.alloc (.cells #[u, v, x] t)).cell? ⟨w.heap.size, 0, none⟩ = some u ∧ (w.alloc (.cells #[u, v, x] t)).cell? ⟨w.heap.size, 1, none⟩ = some v ∧ (w.alloc (.cells #[u, v, x] t)).cell? ⟨w.heap.size, 2, none⟩ = some x := by
  have hb := heap_alloc_new w (.cells #[u, v, x] t)
  refine ⟨?_, ?_, ?_⟩ <;> simp only [World.cell?, hb] <;> rfl
theorem reads_three {w : World} {g B : Nat} {u v x : Value} (h0 : w.cell? ⟨g, 0, none⟩ = some u) (h1 : w.cell? ⟨g, 1, none⟩ = some v) (h2 : w.cell? ⟨g, 2, none⟩ = some x) (hg : g < B) : Reads w B 3 (some ⟨g, 0, none⟩) 1 [u, v, x] := by
  refine ⟨rfl, fun _ => ⟨_, rfl, hg, fun j y hy => ?_⟩⟩
  rw [Go.WideShapes.add_plain]
  match j, hy with
  | 0, hy => rw [h0]; simpa using hy
  | 1, hy => rw [h1]; simpa using hy
  | 2, hy => rw [h2]; simpa using hy
  | j + 3, hy => exact absurd hy (by simp)
theorem reads_new03 (w : World) (u v x : Value) (t : TypeId) : Reads (w.alloc (.cells #[u, v, x] t)) (w.heap.size + 1) 3 (some ⟨w.heap.size, 0, none⟩) 1 [u, v, x] := by
  obtain ⟨h0, h1, h2⟩ := cells_new3 w u v x t
  exact reads_three h0 h1 h2 (Nat.lt_succ_self _)
theorem reads_take3 {w : World} {B n k : Nat} {A : Option Addr} {xs : List Value} (h : Reads w B 3 A n xs) (hk : k ≤ n) : Reads w B 3 A k (xs.take (k * 3)) :=
  ⟨by rw [List.length_take, h.1]; omega, fun h0 => by
    obtain ⟨ad, e, hb, hc⟩ := h.2 (by omega)
    refine ⟨ad, e, hb, fun j u hu => hc j u ?_⟩
    rw [List.getElem?_take] at hu
    split at hu
    · exact hu
    · cases hu⟩
theorem own_slice3 {w' : World} {base : Nat} {t : TypeId} {v : Value} {n : Nat} {xs : List Value} (hown : w'.ownsRow base t 3 v n xs) : ∃ A c, v = .slice A n c ∧ n ≤ c ∧ c ≤ 9223372036854775807 ∧ (0 < n → ∃ g, A = some ⟨g, 0, none⟩ ∧ base ≤ g ∧ g < w'.heap.size) := by
  rcases hown.2 with ⟨hv, h0⟩ | ⟨g, cap, cur, hv, h1, h2, h3, h4, _⟩
  · exact ⟨none, 0, by rw [hv, h0], by omega, by omega, fun h => absurd h (by omega)⟩
  · exact ⟨_, _, hv, h3, by unfold maxLen at h4; omega, fun _ => ⟨g, rfl, h1, (Array.getElem?_eq_some_iff.1 h2).1⟩⟩
def Tri (w : World) (g : Nat) (u v x : Value) : Prop := w.heap[g]? = some (.cells #[u, v, x] 45 (0, 0))
section
variable {w w' : World} {g : Nat} {u v x : Value}
theorem Tri.lt (h : Tri w g u v x) : g < w.heap.size := (Array.getElem?_eq_some_iff.1 h).1
theorem Tri.cell0 (h : Tri w g u v x) : w.cell? ⟨g, 0, none⟩ = some u := by rw [cell_of_row w g 0 _ _ (0, 0) h]; rfl
theorem Tri.cell1 (h : Tri w g u v x) : w.cell? ⟨g, 1, none⟩ = some v := by rw [cell_of_row w g 1 _ _ (0, 0) h]; rfl
theorem Tri.cell2 (h : Tri w g u v x) : w.cell? ⟨g, 2, none⟩ = some x := by rw [cell_of_row w g 2 _ _ (0, 0) h]; rfl
theorem Tri.frozen (h : Tri w g u v x) (i : Nat) : w.frozen? ⟨g, i, none⟩ = false := by unfold Tri at h; simp [World.frozen?, h]
theorem Tri.bel (h : Tri w g u v x) (hb : Below w.heap.size w w') : Tri w' g u v x := (hb.block g h.lt).trans h
theorem Tri.drew (h : Tri w g u v x) : Tri w.drew g u v x := h
theorem Tri.alloc (h : Tri w g u v x) (o : Obj) : Tri (w.alloc o) g u v x := h.bel ((Below.refl _ _).alloc (Nat.le_refl _) o)
theorem Tri.new (w : World) (u v x : Value) : Tri (w.alloc (.cells #[u, v, x] 45)) w.heap.size u v x := heap_alloc_new w _
theorem Tri.grown (h : Tri w g u v x) {b : Nat} (hg : w.grownBy w' (some b)) (hne : g ≠ b) : Tri w' g u v x := (hg.block g h.lt (fun e => hne (by injection e))).trans h
theorem Tri.set (h : Tri w g u v x) (a b c : Value) : Tri (((w.setCell ⟨g, 0, none⟩ a).setCell ⟨g, 1, none⟩ b).setCell ⟨g, 2, none⟩ c) g a b c := by
  unfold Tri at h ⊢
  simp [World.setCell, Array.getElem?_modify, h]
end
theorem Tri.keeps {w : World} {g : Nat} {s : Bool} {A E : Option Addr} {m c n d : Nat} (h : Tri w g (.bool s) (.slice A m c) (.slice E n d)) (a b x : Value) {p : Addr} {u : Value} (hu : w.cell? p = some u) (h1 : ∀ s, u ≠ .bool s) (h2 : ∀ A m c, u ≠ .slice A m c) : (((w.setCell ⟨g, 0, none⟩ a).setCell ⟨g, 1, none⟩ b).setCell ⟨g, 2, none⟩ x).cell? p = some u := by
  rw [World.cell?_setCell_other _ _ _ _ (fun e => ?_), World.cell?_setCell_other _ _ _ _ (fun e => ?_), World.cell?_setCell_other _ _ _ _ (fun e => ?_)]
  · exact hu
  · rw [← e, h.cell0] at hu; injection hu with hu; exact h1 _ hu.symm
  · rw [← e, h.cell1] at hu; injection hu with hu; exact h2 _ _ _ hu.symm
  · rw [← e, h.cell2] at hu; injection hu with hu; exact h2 _ _ _ hu.symm
theorem Tri.limbs {w : World} {g : Nat} {s : Bool} {A E : Option Addr} {m c n d : Nat} (h : Tri w g (.bool s) (.slice A m c) (.slice E n d)) (a b x : Value) {B : Option Addr} {k : Nat} {ys : List Int} (hi : Limbs w B k ys) : Limbs (((w.setCell ⟨g, 0, none⟩ a).setCell ⟨g, 1, none⟩ b).setCell ⟨g, 2, none⟩ x) B k ys := by
  refine ⟨hi.len, fun hm => ?_, hi.ok⟩
  obtain ⟨bb, o, e, hb, hc⟩ := hi.at_ hm
  exact ⟨bb, o, e, by simpa using hb, fun i hlt => h.keeps a b x (hc i hlt) (fun _ e => by cases e) (fun _ _ _ e => by cases e)⟩
theorem Tri.ints {w : World} {g : Nat} {s : Bool} {A E : Option Addr} {m c n d : Nat} (h : Tri w g (.bool s) (.slice A m c) (.slice E n d)) (a b x : Value) {B : Option Addr} {k : Nat} {ys : List Int} (hi : Ints w B k ys) : Ints (((w.setCell ⟨g, 0, none⟩ a).setCell ⟨g, 1, none⟩ b).setCell ⟨g, 2, none⟩ x) B k ys := by
  refine ⟨hi.len, fun hm => ?_, hi.ok⟩
  obtain ⟨bb, o, e, hb, hc⟩ := hi.at_ hm
  exact ⟨bb, o, e, by simpa using hb, fun i hlt => h.keeps a b x (hc i hlt) (fun _ e => by cases e) (fun _ _ _ e => by cases e)⟩
theorem limbs_onlyC {w w' : World} {S : Nat → Prop} {A : Option Addr} {n : Nat} {xs : List Int} (h : Limbs w A n xs) (ho : Only S w w') (hA : 0 < n → ∀ y, A = some y → ¬ S y.block) : Limbs w' A n xs :=
  ⟨h.len, fun hn => by
    obtain ⟨b, o, e, hb, hc⟩ := h.at_ hn
    refine ⟨b, o, e, Nat.lt_of_lt_of_le hb ho.size, fun i hi => ?_⟩
    rw [ho.cell (p := ⟨b, o + i, none⟩) hb (hA hn ⟨b, o, none⟩ e)]
    exact hc i hi, h.ok⟩
theorem limbs_grown0 {w w' : World} {base g : Nat} {t : TypeId} {A : Option Addr} {n : Nat} {xs : List Int} (h : Limbs w A n xs) (hown : w.ownsRow base t 1 (.slice (some ⟨g, 0, none⟩) 0 0) 0 []) (hg : w.grownBy w' (some g)) : Limbs w' A n xs := by
  refine limbs_onlyC h (Only.of_grown hg) fun hn y hy e => ?_
  obtain ⟨b, o, eA, hb, hc⟩ := h.at_ hn
  rw [eA] at hy
  injection hy with hy
  subst hy
  injection e with e
  have e : g = b := e
  subst e
  have h0 := hc 0 hn
  rcases hown.2 with ⟨hv, _⟩ | ⟨g', cap, cur, hv, h1, h2, h3, h4, h5⟩
  · cases hv
  · injection hv with hv1 hv2 hv3
    injection hv1 with hv1
    injection hv1 with hv1
    subst hv1
    subst hv3
    rw [cell_of_row w g (o + 0) _ _ (0, 0) h2] at h0
    have hz : cur.size = 0 := by have := h5.1; simpa using this
    rw [Array.getElem?_eq_none (by omega)] at h0
    cases h0
def InsT (w0 w : World) (gt : Nat) (s : Bool) (xs : List Int) (ps : Plc) : Prop :=
  ∃ s6 A6 k6 c6 ls E7 c7, Tri w gt (.bool s6) (.slice A6 k6 c6) (.slice E7 ps.length c7) ∧ k6 ≤ c6 ∧ c6 ≤ 9223372036854775807 ∧ ps.length ≤ c7 ∧ c7 ≤ 9223372036854775807 ∧ Limbs w A6 k6 ls ∧ Ints w E7 ps.length ps ∧ ZVal s6 ls (intZ s xs) ∧ (0 < k6 → ∀ y, A6 = some y → w0.heap.size ≤ y.block) ∧ (0 < ps.length → ∀ y, E7 = some y → w0.heap.size ≤ y.block) ∧ Below w0.heap.size w0 w
def GivesR (w : World) (n : Nat) (M : Mv) (e : Ending) (w' : World) : Prop :=
  ∃ A c L, e = .returned (.slice A L.length c) ∧ L.length ≤ c ∧ c ≤ 9223372036854775807 ∧ Trs w' A L.length L ∧ PlainT n L ∧ EqM n (mvT L) M ∧ Below w.heap.size w w'
theorem GivesR.from_ {w0 w : World} {n : Nat} {M : Mv} {e : Ending} {w' : World} (h : GivesR w n M e w') (hb : Below w0.heap.size w0 w) : GivesR w0 n M e w' := by
  obtain ⟨A, c, L, h1, h2, h3, h4, h5, h6, h7⟩ := h
  exact ⟨A, c, L, h1, h2, h3, h4, h5, h6, hb.trans (h7.mono hb.size)⟩
def GivesRF (w : World) (n : Nat) (M : Mv) (e : Ending) (w' : World) : Prop :=
  ∃ A c L, e = .returned (.slice A L.length c) ∧ L.length ≤ c ∧ c ≤ 9223372036854775807 ∧ Trs w' A L.length L ∧ PlainT n L ∧ EqM n (mvT L) M ∧ (∀ W, Only (fun k => k < w.heap.size) w' W → Trs W A L.length L) ∧ Below w.heap.size w w'
theorem GivesRF.r {w : World} {n : Nat} {M : Mv} {e : Ending} {w' : World} (h : GivesRF w n M e w') : GivesR w n M e w' := by
  obtain ⟨A, c, L, h1, h2, h3, h4, h5, h6, _, h7⟩ := h
  exact ⟨A, c, L, h1, h2, h3, h4, h5, h6, h7⟩
theorem GivesRF.from_ {w0 w : World} {n : Nat} {M : Mv} {e : Ending} {w' : World} (h : GivesRF w n M e w') (hb : Below w0.heap.size w0 w) : GivesRF w0 n M e w' := by
  obtain ⟨A, c, L, h1, h2, h3, h4, h5, h6, h8, h7⟩ := h
  exact ⟨A, c, L, h1, h2, h3, h4, h5, h6, fun W hW => h8 W (hW.mono fun k hk => Nat.lt_of_lt_of_le hk hb.size), hb.trans (h7.mono hb.size)⟩
def FreshE (base : Nat) (x : EntT) : Prop := (0 < x.2.1.2.length → ∀ y, x.1.1.1 = some y → base ≤ y.block) ∧ (0 < x.2.2.length → ∀ y, x.1.2.1 = some y → base ≤ y.block)
theorem own_only {w w' : World} {base lo : Nat} {t : TypeId} {size n : Nat} {v : Value} {xs : List Value} (h : w.ownsRow base t size v n xs) (hlo : lo ≤ base) (ho : Only (fun k => k < lo) w w') : w'.ownsRow base t size v n xs := by
  refine ⟨h.1, ?_⟩
  rcases h.2 with h2 | ⟨g, cap, cur, hv, h1, h2, h3⟩
  · exact .inl h2
  · exact .inr ⟨g, cap, cur, hv, h1, (ho.block g (Array.getElem?_eq_some_iff.1 h2).1 (by omega)).trans h2, h3⟩
structure RIns (w0 wr : World) (n : Nat) (v : Value) (E : List EntT) (M : Mv) : Prop where
  own : wr.ownsRow w0.heap.size 45 3 v E.length (tcells E)
  ok : ∀ x ∈ E, EntOk wr x ∧ ZVal x.2.1.1 x.2.1.2 (intZ x.2.1.1 x.2.1.2)
  len : ∀ x ∈ E, x.2.2.length = n
  fall : FallE E
  fr : ∀ x ∈ E, FreshE w0.heap.size x
  eq : EqM n (mvT (E.map (·.2))) M
  bel : Below w0.heap.size w0 wr
theorem RIns.start (w : World) (n : Nat) : RIns w w n (.slice none 0 0) [] [] :=
  ⟨World.ownsRow_nil _ _ _ _, fun x hx => (by cases hx), fun x hx => (by cases hx), List.Pairwise.nil, fun x hx => (by cases hx), fun _ _ => rfl, Below.refl _ _⟩
theorem own_below {w w' : World} {base : Nat} {e : TypeId} {size : Nat} {v : Value} {n : Nat} {xs : List Value} (h : w.ownsRow base e size v n xs) (hb : Below w.heap.size w w') : w'.ownsRow base e size v n xs := by
  refine ⟨by simpa using h.1, ?_⟩
  rcases h.2 with h2 | ⟨g, cap, cur, hv, h1, h2, h3⟩
  · exact .inl h2
  · exact .inr ⟨g, cap, cur, hv, h1, (hb.block g (Array.getElem?_eq_some_iff.1 h2).1).trans h2, h3⟩
theorem RIns.bel2 {w0 wr wt : World} {n : Nat} {v : Value} {E : List EntT} {M : Mv} (h : RIns w0 wr n v E M) (hb : Below wr.heap.size wr wt) : RIns w0 wt n v E M :=
  ⟨own_below h.own hb, fun x hx => ⟨(h.ok x hx).1.bel hb, (h.ok x hx).2⟩, h.len, h.fall, h.fr, h.eq, h.bel.trans (hb.mono h.bel.size)⟩
theorem RIns.insert {w0 wt w3 : World} {n k : Nat} {v v3 : Value} {E : List EntT} {M : Mv} {x : EntT} (h : RIns w0 wt n v E M) (hk : k ≤ E.length)
    (h1 : ∀ j (hj : j < E.length), j < k → ltP x.2.2 (E[j]).2.2) (h2 : ∀ (hk : k < E.length), ltP (E[k]).2.2 x.2.2) (hxl : x.2.2.length = n) (hz : ZVal x.2.1.1 x.2.1.2 (intZ x.2.1.1 x.2.1.2)) (hfr : FreshE w0.heap.size x) (hx : EntOk w3 x)
    (hown : w3.ownsRow w0.heap.size 45 3 v3 (E.length + 1) (tcells (E.take k ++ x :: E.drop k))) (hb : Below wt.heap.size wt w3) : RIns w0 w3 n v3 (E.take k ++ x :: E.drop k) (M ++ [valT x.2]) := by
  have hl : (E.take k ++ x :: E.drop k).length = E.length + 1 := by simp; omega
  refine ⟨by rw [hl]; exact hown, fun y hy => ?_, fun y hy => ?_, h.fall.insert h1 h2, fun y hy => ?_, insert_eq h.eq, h.bel.trans (hb.mono h.bel.size)⟩
  · rcases List.mem_append.1 hy with hy | hy
    · exact ⟨(h.ok y (List.mem_of_mem_take hy)).1.bel hb, (h.ok y (List.mem_of_mem_take hy)).2⟩
    · rcases List.mem_cons.1 hy with rfl | hy
      · exact ⟨hx, hz⟩
      · exact ⟨(h.ok y (List.mem_of_mem_drop hy)).1.bel hb, (h.ok y (List.mem_of_mem_drop hy)).2⟩
  · rcases List.mem_append.1 hy with hy | hy
    · exact h.len y (List.mem_of_mem_take hy)
    · rcases List.mem_cons.1 hy with rfl | hy
      · exact hxl
      · exact h.len y (List.mem_of_mem_drop hy)
  · rcases List.mem_append.1 hy with hy | hy
    · exact h.fr y (List.mem_of_mem_take hy)
    · rcases List.mem_cons.1 hy with rfl | hy
      · exact hfr
      · exact h.fr y (List.mem_of_mem_drop hy)
theorem RIns.add {w0 wt w3 : World} {n k g cap : Nat} {E : List EntT} {M : Mv} {t : Trm} {s : Bool} {A : Option Addr} {c : Nat} {ls : List Int} (h : RIns w0 wt n (.slice (some ⟨g, 0, none⟩) E.length cap) E M) (hk : k < E.length)
    (hp : (E[k]).2.2 = t.1) (hz : ZVal s ls (intZ (E[k]).2.1.1 (E[k]).2.1.2 + t.2)) (hL : Limbs w3 A ls.length ls) (hc1 : ls.length ≤ c) (hc2 : c ≤ 9223372036854775807) (hfA : 0 < ls.length → ∀ y, A = some y → w0.heap.size ≤ y.block) (hb : Below wt.heap.size wt w3) :
    RIns w0 ((w3.setCell ⟨g, 3 * k, none⟩ (.bool s)).setCell ⟨g, 3 * k + 1, none⟩ (.slice A ls.length c)) n (.slice (some ⟨g, 0, none⟩) E.length cap) (E.set k (putT E[k] s A c ls)) (M ++ [t]) := by
  have h3 := h.bel2 hb
  obtain ⟨t0, t1, t2⟩ := tcells_get hk
  have c0 := h3.own.cells (g := g) rfl (3 * k) _ t0
  have c1 := h3.own.cells (g := g) rfl (3 * k + 1) _ t1
  rw [Go.WideShapes.add_plain, Nat.zero_add] at c0 c1
  have hg := h3.own.lt g rfl
  have ho : w0.heap.size ≤ g := hg.1
  have o2 := (((h3.own.stored (3 * k) (.bool s)).1).stored (3 * k + 1) (.slice A ls.length c)).1
  rw [tcells_put E k hk s A c ls] at o2
  refine ⟨by rw [List.length_set]; exact o2, fun y hy => ?_, fun y hy => ?_, h.fall.put hk _ _ _ _, fun y hy => ?_, put_eq h.eq hk hp hz.eq, (h3.bel.setCell (p := ⟨g, 3 * k, none⟩) ho _).setCell (p := ⟨g, 3 * k + 1, none⟩) ho _⟩
  · rcases List.mem_or_eq_of_mem_set hy with hy | rfl
    · exact ⟨(h3.ok y hy).1.cells2 _ _ c0 c1, (h3.ok y hy).2⟩
    · have hk4 := (h3.ok _ (List.getElem_mem hk)).1.cells2 (.bool s) (.slice A ls.length c) c0 c1
      exact ⟨⟨hc1, hc2, hk4.2.2.1, hk4.2.2.2.1, hL.cells2 c0 c1 (fun _ e => by cases e) (fun _ e => by cases e), hk4.2.2.2.2.2⟩, by show ZVal s ls (intZ s ls); rw [hz.eq]; exact hz⟩
  · rcases List.mem_or_eq_of_mem_set hy with hy | rfl
    · exact h.len y hy
    · show (E[k]).2.2.length = n
      exact h.len _ (List.getElem_mem hk)
  · rcases List.mem_or_eq_of_mem_set hy with hy | rfl
    · exact h.fr y hy
    · exact ⟨hfA, (h.fr _ (List.getElem_mem hk)).2⟩
theorem RIns.short {w0 wr : World} {n K : Nat} {v : Value} {E : List EntT} {L : List TV} {i : Nat} (h : RIns w0 wr n v E (mvT (L.take i))) (hab : absM (mvT L) < 2 ^ (64 * K)) : ∀ x ∈ E, x.2.1.2.length ≤ K := fun x hx => by
  have h1 := fall_abs h.fall h.len h.eq x hx
  have h2 : absM (mvT (L.take i)) ≤ absM (mvT L) := by
    have : mvT (L.take i) = (mvT L).take i := List.map_take
    rw [this]; exact absM_take _ _
  have h3 : limbs x.2.1.2 < 2 ^ (64 * K) := by
    have h4 : (intZ x.2.1.1 x.2.1.2).natAbs = limbs x.2.1.2 := by unfold intZ; split <;> omega
    omega
  exact plain_lenR (h.ok x hx).2.pl h3
set_option maxRecDepth 100000 in
set_option maxHeartbeats 16000000 in
theorem r17plainF (n C K : Nat) (A : Option Addr) (m c : Nat) (L : List TV) (w : World) (hx : Trs w A m L) (hl : ∀ t ∈ L, t.2.length = n) (hC : ∀ t ∈ L, t.1.2.length ≤ C) (hC1 : C ≤ 1000000) (hK : K ≤ 1000000) (hab : absM (mvT L) < 2 ^ (64 * K)) (hm : m ≤ 2400000000000) (hn : n ≤ 1000000) :
    Calls Tryz.prog 32 #[.slice A m c] w (GivesRF w n (mvT L)) := by
  obtain ⟨i0, hi, hz0, hz1, hz2⟩ := info_parts term_infoR
  obtain ⟨j0, hj, hy0, hy1, hy2⟩ := info_parts int_infoF
  have Hx := Lib.hid hx
  have HL := Lib.hid hx.len
  have Hl := Lib.hid hl
  have HC := Lib.hid hC
  have Hab := Lib.hid hab
  clear hx hl hC hab
  go_enter Tryz.func32, Tryz.ntmps32
  obtain ⟨wo, rfl⟩ : ∃ wo : World, wo = w := ⟨_, rfl⟩
  go_wp2_with fail
  go_loopw [3, 4] (fun v i wr => ∃ (k : Nat) (E : List EntT), k ≤ m ∧ i = .int .i64 (k : Int) ∧ Hid (RIns wo wr n v E (mvT (L.take k))) ∧ E.length ≤ k) (fun _ i _ => m - (intOf i).toNat)
  case atStart => exact ⟨0, [], by omega, rfl, RIns.start _ _, Nat.le_refl _⟩
  case round =>
    obtain ⟨i, E, him, rfl, hI, hEl⟩ := hrel
    obtain ⟨wt, rfl⟩ : ∃ wt : World, wt = wr := ⟨_, rfl⟩
    obtain ⟨B, cap, rfl, hcap, hcap2, hB⟩ := own_slice3 hI.out.own
    have HB := Lib.hid hB
    clear hB
    by_cases hlt : i < m
    · obtain ⟨b, o, rfl, hb, hc⟩ := Hx.out.at_ (by omega)
      have hiL : i < L.length := by rw [HL.out]; exact hlt
      obtain ⟨Ai, ci, Ei, ei, e1, e2, e3, e4, e5, e6, e7, e8, e9⟩ := hc i hiL
      have hll := Hl.out _ (List.getElem_mem hiL)
      have hlC := HC.out _ (List.getElem_mem hiL)
      have htk : mvT (L.take (i + 1)) = mvT (L.take i) ++ [valT L[i]] := by rw [List.take_succ_eq_append_getElem hiL, mvT_append]; rfl
      have Htk := Lib.hid htk
      clear hc htk
      generalize L[i] = x at *
      obtain ⟨⟨s, xs⟩, ps⟩ := x
      simp only at e1 e2 e3 e4 e6 e8 e9 hll hlC
      have Hll := Lib.hid hll
      rw [Nat.mul_comm 3 i] at e1 e2 e3
      rw [← Nat.add_assoc] at e2 e3
      have hlt' : (i : Int) < (m : Int) := by omega
      have hi0 : (0 : Int) ≤ (i : Int) := by omega
      have hwt := Lib.hid hI.out.bel
      have keepA : Hid (∀ W, Below wo.heap.size wo W → W.cell? ⟨b, o + i * 3, none⟩ = some (.bool s) ∧ W.cell? ⟨b, o + i * 3 + 1, none⟩ = some (.slice Ai xs.length ci) ∧ W.cell? ⟨b, o + i * 3 + 2, none⟩ = some (.slice Ei ps.length ei)) := fun W hW =>
        ⟨(hW.cell (p := ⟨b, o + i * 3, none⟩) hb).trans e1, (hW.cell (p := ⟨b, o + i * 3 + 1, none⟩) hb).trans e2, (hW.cell (p := ⟨b, o + i * 3 + 2, none⟩) hb).trans e3⟩
      have E8 := Lib.hid e8
      have E9 := Lib.hid e9
      clear e8 e9 e1 e2 e3 hll
      go_upto_block 2 with fail
      go_cut [5] (fun s5 wx => ∃ k q : Nat, k ≤ E.length ∧ s5 = .int .i64 (k : Int) ∧ wx = wt.drewN q ∧ Hid (∀ j (h : j < E.length), j < k → ltP ps (E[j]).2.2) ∧ Hid (∀ hk : k < E.length, ¬ ltP ps (E[k]).2.2))
      case first =>
        go_wp2_with fail
        go_loopw [5] (fun v wr => ∃ k q : Nat, k ≤ E.length ∧ v = .int .i64 (k : Int) ∧ wr = wt.drewN q ∧ Hid (∀ j (h : j < E.length), j < k → ltP ps (E[j]).2.2)) (fun v _ => E.length - (intOf v).toNat)
        case atStart => exact ⟨0, 0, by omega, rfl, rfl, fun j _ h => absurd h (by omega)⟩
        case round =>
          obtain ⟨k, q, hk, rfl, rfl, hbef⟩ := hrel
          by_cases hkE : k < E.length
          · obtain ⟨g, rfl, hg1, hg2⟩ := HB.out (by omega)
            obtain ⟨t0, t1, t2⟩ := tcells_get hkE
            have c2 := hI.out.own.cells (g := g) rfl (3 * k + 2) _ t2
            rw [Go.WideShapes.add_plain, Nat.zero_add, Nat.mul_comm 3 k] at c2
            obtain ⟨a1, a2, a3⟩ := keepA.out _ hwt.out
            have hxe := (hI.out.ok _ (List.getElem_mem hkE)).1
            have hxl := hI.out.len _ (List.getElem_mem hkE)
            have Cc : Hid (∀ q, Calls Tryz.prog 57 #[.slice (E[k]).1.2.1 (E[k]).2.2.length (E[k]).1.2.2, .slice Ei ps.length ei] (wt.drewN q) fun e w' => e = .returned (.int .i64 (cmpP (E[k]).2.2 ps)) ∧ ∃ k, w' = (wt.drewN q).drewN k) := fun q => by
              have h := compare17 (E[k]).1.2.1 Ei n (E[k]).1.2.2 ei (E[k]).2.2 ps (wt.drewN q) (by rw [← hxl]; exact hxe.2.2.2.2.2.bel (below_drewN (Below.refl _ _) _)) (by rw [← Hll.out]; exact E9.out.bel (hwt.out.trans ((below_drewN (Below.refl _ _) _).mono hwt.out.size))) (by omega)
              rw [hxl, Hll.out]; exact h
            have hxc := hxe.2.2.1
            have htri := ltP.tri (hxl.trans Hll.out.symm)
            have hkE' : (k : Int) < (E.length : Int) := by omega
            have hkd : decide ((k : Int) < (E.length : Int)) = true := decide_eq_true hkE'
            have hk0 : (0 : Int) ≤ (k : Int) := by omega
            clear t0 t1 t2 hxe hxl
            have Hbk : Hid (ltP ps (E[k]).2.2 → ∀ j (h : j < E.length), j < k + 1 → ltP ps (E[j]).2.2) := fun h j hj hjk => by
              by_cases e : j = k
              · subst e; exact h
              · exact hbef.out j hj (by omega)
            by_cases hgt : ltP ps (E[k]).2.2
            · have hcm := cmpP_gt hgt
              rw [hcm] at Cc
              have Hn := Lib.hid (Hbk.out hgt)
              clear hcm hgt htri Hbk
              generalize E[k] = y at *
              obtain ⟨⟨⟨Ay, cy⟩, ⟨Ey, dy⟩⟩, ⟨⟨sy, ys⟩, py⟩⟩ := y
              simp only at c2 Cc hxc
              go_wp2_with fail
              go_quiet ((go_at_call 57; first | exact quiet_add_ex (Cc.out _) | exact quiet_ex (Cc.out _)))
              go_wp2_with fail
              go_roundw
              case rel => exact ⟨k + 1, _, by omega, by go_num, by first | rfl | exact World.drewN_drewN _ _ _ | (rw [World.drewN_drewN, World.drewN_drewN]), Hn⟩
              case measure => simp [intOf]; omega
            · have hng : ¬ 0 < cmpP (E[k]).2.2 ps := fun h => by
                rcases htri with h1 | h1 | h1
                · rw [cmpP_lt h1] at h; omega
                · rw [h1, cmpP_eq] at h; omega
                · exact hgt h1
              have Hng : Hid (∀ hk : k < E.length, ¬ ltP ps (E[k]).2.2) := fun _ => hgt
              generalize cmpP (E[k]).2.2 ps = cv at *
              clear hgt htri Hbk
              generalize E[k] = y at *
              obtain ⟨⟨⟨Ay, cy⟩, ⟨Ey, dy⟩⟩, ⟨⟨sy, ys⟩, py⟩⟩ := y
              simp only at c2 Cc hxc
              go_wp2_with fail
              go_quiet ((go_at_call 57; first | exact quiet_add_ex (Cc.out _) | exact quiet_ex (Cc.out _)))
              go_wp2_with fail
              go_meet
              exact ⟨k, _, hk, rfl, by first | rfl | exact World.drewN_drewN _ _ _ | (rw [World.drewN_drewN, World.drewN_drewN]), hbef, Hng⟩
          · have hkd : decide ((k : Int) < (E.length : Int)) = false := decide_eq_false (by omega)
            have hkd2 : decide (k < E.length) = false := decide_eq_false hkE
            have Hng : Hid (∀ hk : k < E.length, ¬ ltP ps (E[k]).2.2) := fun h => absurd h hkE
            clear hkE
            go_wp2_with fail
            go_quiet (fail)
            go_wp2_with fail
            go_meet
            exact ⟨k, _, hk, rfl, by first | rfl | exact World.drewN_drewN _ _ _ | (rw [World.drewN_drewN, World.drewN_drewN]), hbef, Hng⟩
      case rest =>
        obtain ⟨k, q, hk, rfl, rfl, hbef, hng⟩ := hcut
        go_wp2_with fail
        go_cut [52] (fun s52 wx => ∃ q2 : Nat, wx = wt.drewN q2 ∧ ((s52 = .bool true ∧ Hid (∃ hk : k < E.length, (E[k]).2.2 = ps)) ∨ (s52 = .bool false ∧ Hid (∀ hk : k < E.length, ltP (E[k]).2.2 ps))))
        case first =>
          by_cases hkE : k < E.length
          · obtain ⟨g, rfl, hg1, hg2⟩ := HB.out (by omega)
            obtain ⟨t0, t1, t2⟩ := tcells_get hkE
            have c2 := hI.out.own.cells (g := g) rfl (3 * k + 2) _ t2
            rw [Go.WideShapes.add_plain, Nat.zero_add, Nat.mul_comm 3 k] at c2
            obtain ⟨a1, a2, a3⟩ := keepA.out _ hwt.out
            have hxe := (hI.out.ok _ (List.getElem_mem hkE)).1
            have hxl := hI.out.len _ (List.getElem_mem hkE)
            have Cc : Hid (∀ q, Calls Tryz.prog 57 #[.slice (E[k]).1.2.1 (E[k]).2.2.length (E[k]).1.2.2, .slice Ei ps.length ei] (wt.drewN q) fun e w' => e = .returned (.int .i64 (cmpP (E[k]).2.2 ps)) ∧ ∃ k, w' = (wt.drewN q).drewN k) := fun q => by
              have h := compare17 (E[k]).1.2.1 Ei n (E[k]).1.2.2 ei (E[k]).2.2 ps (wt.drewN q) (by rw [← hxl]; exact hxe.2.2.2.2.2.bel (below_drewN (Below.refl _ _) _)) (by rw [← Hll.out]; exact E9.out.bel (hwt.out.trans ((below_drewN (Below.refl _ _) _).mono hwt.out.size))) (by omega)
              rw [hxl, Hll.out]; exact h
            have hxc := hxe.2.2.1
            have htri := ltP.tri (hxl.trans Hll.out.symm)
            have hkE' : (k : Int) < (E.length : Int) := by omega
            have hkd : decide ((k : Int) < (E.length : Int)) = true := decide_eq_true hkE'
            have hk0 : (0 : Int) ≤ (k : Int) := by omega
            clear t0 t1 t2 hxe hxl
            have hng1 := hng.out hkE
            rcases htri with h | h | h
            · have hcm := cmpP_lt h
              rw [hcm] at Cc
              have Hn : Hid (∀ hk : k < E.length, ltP (E[k]).2.2 ps) := fun _ => h
              clear hcm h hng1
              generalize E[k] = y at *
              obtain ⟨⟨⟨Ay, cy⟩, ⟨Ey, dy⟩⟩, ⟨⟨sy, ys⟩, py⟩⟩ := y
              simp only at c2 Cc hxc
              go_wp2_with fail
              go_quiet ((go_at_call 57; first | exact quiet_add_ex (Cc.out _) | exact quiet_ex (Cc.out _)))
              go_wp2_with fail
              go_meet
              exact ⟨_, by first | rfl | exact World.drewN_drewN _ _ _ | (rw [World.drewN_drewN, World.drewN_drewN]), .inr ⟨rfl, Hn⟩⟩
            · have hcm : cmpP (E[k]).2.2 ps = 0 := by rw [h, cmpP_eq]
              rw [hcm] at Cc
              have Hn : Hid (∃ hk : k < E.length, (E[k]).2.2 = ps) := ⟨hkE, h⟩
              clear hcm h hng1
              generalize E[k] = y at *
              obtain ⟨⟨⟨Ay, cy⟩, ⟨Ey, dy⟩⟩, ⟨⟨sy, ys⟩, py⟩⟩ := y
              simp only at c2 Cc hxc
              go_wp2_with fail
              go_quiet ((go_at_call 57; first | exact quiet_add_ex (Cc.out _) | exact quiet_ex (Cc.out _)))
              go_wp2_with fail
              go_meet
              exact ⟨_, by first | rfl | exact World.drewN_drewN _ _ _ | (rw [World.drewN_drewN, World.drewN_drewN]), .inl ⟨rfl, Hn⟩⟩
            · exact absurd h hng1
          · have hkd : decide ((k : Int) < (E.length : Int)) = false := decide_eq_false (by omega)
            have hkd2 : decide (k < E.length) = false := decide_eq_false hkE
            have Hn : Hid (∀ hk : k < E.length, ltP (E[k]).2.2 ps) := fun h => absurd h hkE
            clear hkE
            go_wp2_with fail
            go_quiet (fail)
            go_wp2_with fail
            go_meet
            exact ⟨_, by first | rfl | exact World.drewN_drewN _ _ _ | (rw [World.drewN_drewN, World.drewN_drewN]), .inr ⟨rfl, Hn⟩⟩
        case rest =>
          obtain ⟨q2, rfl, h52⟩ := hcut
          have hd3 : Below wt.heap.size wt (wt.drewN q2) := below_drewN (Below.refl _ _) _
          generalize (wt.drewN q2) = w5 at *
          rcases h52 with ⟨rfl, hEq⟩ | ⟨rfl, hni⟩
          · obtain ⟨hkE, hpe⟩ := hEq.out
            obtain ⟨g, rfl, hg1, hg2⟩ := HB.out (by omega)
            have hI5 := hI.out.bel2 hd3
            obtain ⟨t0, t1, t2⟩ := tcells_get hkE
            have C0 := hI5.own.cells (g := g) rfl (3 * k) _ t0
            have C1 := hI5.own.cells (g := g) rfl (3 * k + 1) _ t1
            rw [Go.WideShapes.add_plain, Nat.zero_add, Nat.mul_comm 3 k] at C0 C1
            have hxe := (hI5.ok _ (List.getElem_mem hkE)).1
            have hxs := hI5.short Hab.out _ (List.getElem_mem hkE)
            have H5 := Lib.hid hI5
            have hg5 := hI5.own.lt g rfl
            have hf : Hid (∀ W, Below w5.heap.size w5 W → W.frozen? ⟨g, k * 3, none⟩ = false ∧ W.frozen? ⟨g, k * 3 + 1, none⟩ = false) := fun W hW => ⟨(H5.out.bel2 hW).own.frozenAt _, (H5.out.bel2 hW).own.frozenAt _⟩
            have HkT := Lib.hid (fun (s1 : Bool) (A1 : Option Addr) (c1 : Nat) (l1 : List Int) (w3 : World) (hz : ZVal s1 l1 (intZ (E[k]).2.1.1 (E[k]).2.1.2 + intZ s xs)) (hL : Limbs w3 A1 l1.length l1) (h1 : l1.length ≤ c1) (h2 : c1 ≤ 9223372036854775807) (hfA : 0 < l1.length → ∀ y, A1 = some y → wo.heap.size ≤ y.block) (hb : Below w5.heap.size w5 w3) => H5.out.add (t := (ps, intZ s xs)) hkE hpe hz hL h1 h2 hfA hb)
            have hset : Hid (∀ y, (E.set k y).length = E.length) := fun y => List.length_set
            have keepA5 := Lib.hid (fun W (hW : Below w5.heap.size w5 W) => keepA.out _ (H5.out.bel.trans (hW.mono H5.out.bel.size)))
            obtain ⟨b1, b2, b3⟩ := keepA5.out _ (Below.refl _ _)
            have Ca : Hid (∀ W, Below w5.heap.size w5 W → Calls Tryz.prog 58 #[.agg #[.bool (E[k]).2.1.1, .slice (E[k]).1.1.1 (E[k]).2.1.2.length (E[k]).1.1.2], .agg #[.bool s, .slice Ai xs.length ci]] W (GivesZF W (intZ (E[k]).2.1.1 (E[k]).2.1.2 + intZ s xs) (max (E[k]).2.1.2.length xs.length + 1))) := fun W hW =>
              r2addF _ s _ Ai _ xs.length _ ci _ xs W (hxe.2.2.2.2.1.bel hW) (E8.out.bel (H5.out.bel.trans (hW.mono H5.out.bel.size))) hxe.1 hxe.2.1 e4 e5 (by omega) (by omega)
            have hkE' : (k : Int) < (E.length : Int) := by omega
            have hk0 : (0 : Int) ≤ (k : Int) := by omega
            clear t0 t1 t2 hI5 hI hEq hd3 hxe hpe E8 E9 keepA HB hwt hg5
            generalize hEk : E[k] = y at *
            obtain ⟨⟨⟨Ay, cy⟩, ⟨Ey, dy⟩⟩, ⟨⟨sy, ys⟩, py⟩⟩ := y
            simp only at C0 C1 hxs HkT Ca
            clear hEk
            go_wp2_with fail
            go_region_with
              (first | (go_at_call 58; refine (Ca.out _ (by first | exact (Below.refl _ _).drew | exact Below.refl _ _)).mono ?_; rintro e w6 ⟨s6, A6, k6, c6, ls, rfl, g1, g2, g3, g4, g5, gf, hb6'⟩; have hb6 : Below w5.heap.size w5 w6 := (by first | exact (Below.refl _ _).drew.trans hb6' | exact hb6'); obtain ⟨fe0, fe1⟩ := hf.out _ hb6; have ce0 := (hb6.cell (p := ⟨g, k * 3, none⟩) (H5.out.own.lt g rfl).2).trans C0; have ce1 := (hb6.cell (p := ⟨g, k * 3 + 1, none⟩) (H5.out.own.lt g rfl).2).trans C1))
            all_goals
              obtain rfl := g4.len
              have hIn := HkT.out s6 A6 c6 ls w6 g5 g4 g1 g2 (fun h0 y hy => Nat.le_trans H5.out.bel.size (Nat.le_trans (by first | exact Nat.le_refl _ | (simp; done) | (simp; omega)) (gf h0 y hy))) hb6
              rw [Nat.mul_comm 3 k] at hIn
              have HIn : Hid (RIns wo ((w6.setCell ⟨g, k * 3, none⟩ (.bool s6)).setCell ⟨g, k * 3 + 1, none⟩ (.slice A6 ls.length c6)) n (.slice (some ⟨g, 0, none⟩) E.length cap) (E.set k (putT (((Ay, cy), (Ey, dy)), ((sy, ys), py)) s6 A6 c6 ls)) (mvT (L.take (i + 1)))) := by
                show RIns _ _ _ _ _ _
                rw [Htk.out]; exact hIn
              have HEn : Hid ((E.set k (putT (((Ay, cy), (Ey, dy)), ((sy, ys), py)) s6 A6 c6 ls)).length ≤ i + 1) := by show _ ≤ _; rw [hset.out]; omega
              clear hIn HkT hset g4 g5 gf hb6 hb6' hf ce0 ce1 fe0 fe1 C0 C1 b1 b2 b3 keepA5 H5 Ca
              generalize E.set k (putT (((Ay, cy), (Ey, dy)), ((sy, ys), py)) s6 A6 c6 ls) = E2 at *
              generalize (w6.setCell ⟨g, k * 3, none⟩ (.bool s6)).setCell ⟨g, k * 3 + 1, none⟩ (.slice A6 ls.length c6) = wq at *
              go_wp2_with fail
              go_roundw
              case rel => exact ⟨i + 1, E2, by omega, by go_num, HIn, HEn.out⟩
              case measure => simp [intOf]; omega
          · go_wp2_with fail
            have hI5 := Lib.hid (hI.out.bel2 hd3)
            have E85 := Lib.hid (E8.out.bel (hwt.out.trans (hd3.mono hwt.out.size)))
            have E95 := Lib.hid (E9.out.bel (hwt.out.trans (hd3.mono hwt.out.size)))
            have keep5 : Hid (∀ W, Below w5.heap.size w5 W → W.cell? ⟨b, o + i * 3, none⟩ = some (.bool s) ∧ W.cell? ⟨b, o + i * 3 + 1, none⟩ = some (.slice Ai xs.length ci) ∧ W.cell? ⟨b, o + i * 3 + 2, none⟩ = some (.slice Ei ps.length ei)) := fun W hW => keepA.out _ (hI5.out.bel.trans (hW.mono hI5.out.bel.size))
            have Cn : Hid (∀ W, Below w5.heap.size w5 W → Calls Tryz.prog 59 #[.agg #[.bool s, .slice Ai xs.length ci]] W (GivesZF W (intZ s xs) xs.length)) := fun W hW => r2normF s Ai xs.length ci xs W (E85.out.bel hW) e4 e5 (by omega)
            obtain ⟨b1, b2, b3⟩ := keep5.out _ (Below.refl _ _)
            have hR : Hid (Reads w5 w5.heap.size 1 Ei ps.length (ints ps)) := E95.out.reads
            have hpok := Lib.hid E95.out.ok
            have hpl : ps.length ≤ 1000000 := by have := Hll.out; omega
            have q1 : 0 + ps.length ≤ maxLen := by unfold maxLen; omega
            have q2 : (0 + ps.length) * 8 ≤ 140737488355328 := by omega
            have F : Hid (∀ W gt s6 A6 k6 c6 ls E7 c7, Tri W gt (.bool s6) (.slice A6 k6 c6) (.slice E7 ps.length c7) → k6 ≤ c6 → c6 ≤ 9223372036854775807 → Limbs W A6 k6 ls → ZVal s6 ls (intZ s xs) → (ps.length ≤ c7 ∧ c7 ≤ 9223372036854775807) → Ints W E7 ps.length ps → (0 < k6 → ∀ y, A6 = some y → w5.heap.size ≤ y.block) → (0 < ps.length → ∀ y, E7 = some y → w5.heap.size ≤ y.block) → Below w5.heap.size w5 W → InsT w5 W gt s xs ps) := fun W gt s6 A6 k6 c6 ls E7 c7 h1 h2 h3 h4 h5 h6 h8 f1 f2 h7 =>
              ⟨s6, A6, k6, c6, ls, E7, c7, h1, h2, h3, h6.1, h6.2, h4, h8, h5, f1, f2, h7⟩
            clear hI E8 E9 keepA HB hd3 hwt
            go_cut [6] (fun s6 wx => ∃ gt : Nat, s6 = .pointer (some ⟨gt, 0, none⟩) ∧ Hid (InsT w5 wx gt s xs ps))
            case first =>
              go_region_held3 (fun W => W.cell? ⟨b, o + i * 3, none⟩ = some (.bool s) ∧ W.cell? ⟨b, o + i * 3 + 1, none⟩ = some (.slice Ai xs.length ci) ∧ W.cell? ⟨b, o + i * 3 + 2, none⟩ = some (.slice Ei ps.length ei))
                (first | go_keep | exact keep5.out _ (Below.refl _ _).drew | exact keep5.out _ ((Below.refl _ _).alloc (Nat.le_refl _) _).drew | exact keep5.out _ (((Below.refl _ _).alloc (Nat.le_refl _) _).alloc (by simp) _).drew | exact keep5.out _ hb6 | exact keep5.out _ (hb6.alloc hb6.size _) | exact keep5.out _ ((hb6.alloc hb6.size _).alloc (hb6.alloc hb6.size _).size _) | exact keep5.out _ hb7 | exact keep5.out _ (hb7.alloc hb7.size _) | exact keep5.out _ (((hb7.setCell hgt7 _).setCell hgt7 _).setCell hgt7 _))
                (first
                  | (go_at_call 59; refine (Cn.out _ (by first | exact (Below.refl _ _).drew | exact ((Below.refl _ _).alloc (Nat.le_refl _) _).drew | exact (((Below.refl _ _).alloc (Nat.le_refl _) _).alloc (by simp) _).drew)).mono ?_; rintro e w6 ⟨s6, A6, k6, c6, ls, rfl, g1, g2, g3, g4, g5, gf, hb6'⟩; have hb6 : Below w5.heap.size w5 w6 := (by first | exact (Below.refl _ _).drew.trans hb6' | exact ((Below.refl _ _).alloc (Nat.le_refl _) _).drew.trans (hb6'.mono (by simp)) | exact (((Below.refl _ _).alloc (Nat.le_refl _) _).alloc (by simp) _).drew.trans (hb6'.mono (by simp; omega))); have hs6 := hb6'.size; (first | (have tN := (Tri.new w5 (.bool false) (.slice none 0 0) (.slice none 0 0)).drew.bel hb6'; have hgN := Nat.le_refl w5.heap.size) | (have tN := (Tri.new (w5.alloc _) (.bool false) (.slice none 0 0) (.slice none 0 0)).drew.bel hb6'; rw [World.size_alloc] at tN; have hgN := Nat.le_succ w5.heap.size) | (have tN := ((Tri.new w5 (.bool false) (.slice none 0 0) (.slice none 0 0)).alloc _).drew.bel hb6'; have hgN := Nat.le_refl w5.heap.size) | skip))
                  | ((with_reducible show ite _ (Oper.wp _ _ _ (World.alloc w6 (Obj.cells #[] _)) _ _) _); refine step_append_any (w := w6.alloc (.cells #[] 3)) (by rfl) (.tmp 74) (.tmp 79) _ (by rfl) w5.heap.size 3 j0 _ 1 8 Tryz.underlying43 hj hy0 hy1 hy2 rfl (by omega) (.slice (some ⟨w6.heap.size, 0, none⟩) 0 0) 0 [] (by rfl) (own_empty w6 _ hb6.size) w5.heap.size Ei ps.length ei (ints ps) (by rfl) (hR.out.below (hb6.alloc hb6.size _)) (ints_oneCellF ps) q1 q2 (hb6.alloc hb6.size _).size ?_; intro v7 w7 hown7 hg7 hat7; have hb7 : Below w5.heap.size w5 w7 := Below.grown (hb6.alloc hb6.size _) hg7 (hb6.alloc hb6.size _).size (fun k hk => (World.ownsRow.lt ((own_empty w6 _ hb6.size) : World.ownsRow (w6.alloc (.cells #[] 3)) w5.heap.size 3 1 (.slice (some ⟨w6.heap.size, 0, none⟩) 0 0) 0 []) k hk).1); have hL7 : Limbs w7 A6 k6 ls := limbs_grown0 (g4.bel ((Below.refl _ _).alloc (Nat.le_refl _) _)) ((own_empty w6 _ hb6.size) : World.ownsRow (w6.alloc (.cells #[] 3)) w5.heap.size 3 1 (.slice (some ⟨w6.heap.size, 0, none⟩) 0 0) 0 []) hg7; (first | have tW : Tri (w6.alloc (.cells #[] 3)) _ _ _ _ := tN.alloc _ | skip); (first | (have t7 := Tri.grown tW hg7 (by intro e; dsimp only at e; first | omega | (simp at hs6; omega)); have u0 := t7.cell0; have u1 := t7.cell1; have u2 := t7.cell2; have v0 := t7.frozen 0; have v1 := t7.frozen 1; have v2 := t7.frozen 2; have hgt7 := hgN) | skip); rw [List.nil_append, Nat.zero_add] at hown7; obtain ⟨E7, c7, rfl⟩ := own_slice hown7)
                  | ((with_reducible show ite _ (Oper.wp _ _ _ (World.alloc (World.alloc w6 (Obj.cells #[] _)) _) _ _) _); refine step_append_any (w := (w6.alloc (.cells #[] 3)).alloc (.cells #[.bool false, .slice none 0 0, .slice none 0 0] 45)) (by rfl) (.tmp 74) (.tmp 79) _ (by rfl) w5.heap.size 3 j0 _ 1 8 Tryz.underlying43 hj hy0 hy1 hy2 rfl (by omega) (.slice (some ⟨w6.heap.size, 0, none⟩) 0 0) 0 [] (by rfl) ((own_empty w6 _ hb6.size).alloc _) w5.heap.size Ei ps.length ei (ints ps) (by rfl) (hR.out.below ((hb6.alloc hb6.size _).alloc (hb6.alloc hb6.size _).size _)) (ints_oneCellF ps) q1 q2 ((hb6.alloc hb6.size _).alloc (hb6.alloc hb6.size _).size _).size ?_; intro v7 w7 hown7 hg7 hat7; have hb7 : Below w5.heap.size w5 w7 := Below.grown ((hb6.alloc hb6.size _).alloc (hb6.alloc hb6.size _).size _) hg7 ((hb6.alloc hb6.size _).alloc (hb6.alloc hb6.size _).size _).size (fun k hk => (World.ownsRow.lt (((own_empty w6 _ hb6.size).alloc _) : World.ownsRow ((w6.alloc (.cells #[] 3)).alloc (.cells #[.bool false, .slice none 0 0, .slice none 0 0] 45)) w5.heap.size 3 1 (.slice (some ⟨w6.heap.size, 0, none⟩) 0 0) 0 []) k hk).1); have hL7 : Limbs w7 A6 k6 ls := limbs_grown0 ((g4.bel ((Below.refl _ _).alloc (Nat.le_refl _) _)).bel ((Below.refl _ _).alloc (Nat.le_refl _) _)) (((own_empty w6 _ hb6.size).alloc _) : World.ownsRow ((w6.alloc (.cells #[] 3)).alloc (.cells #[.bool false, .slice none 0 0, .slice none 0 0] 45)) w5.heap.size 3 1 (.slice (some ⟨w6.heap.size, 0, none⟩) 0 0) 0 []) hg7; (first | (have tW := Tri.new (w6.alloc (.cells #[] 3)) (.bool false) (.slice none 0 0) (.slice none 0 0); rw [World.size_alloc] at tW) | skip); (first | (have t7 := Tri.grown tW hg7 (by intro e; dsimp only at e; first | omega | (simp at hs6; omega)); have u0 := t7.cell0; have u1 := t7.cell1; have u2 := t7.cell2; have v0 := t7.frozen 0; have v1 := t7.frozen 1; have v2 := t7.frozen 2; have hgt7 := Nat.le_succ_of_le hb6.size) | skip); rw [List.nil_append, Nat.zero_add] at hown7; obtain ⟨E7, c7, rfl⟩ := own_slice hown7)
                  | ((with_reducible show ite _ (Oper.wp _ _ _ (World.alloc (World.alloc w6 (Obj.cells #[_, _, _] _)) _) _ _) _); refine step_append_any (w := (w6.alloc (.cells #[.bool false, .slice none 0 0, .slice none 0 0] 45)).alloc (.cells #[] 3)) (by rfl) (.tmp 74) (.tmp 79) _ (by rfl) w5.heap.size 3 j0 _ 1 8 Tryz.underlying43 hj hy0 hy1 hy2 rfl (by omega) (.slice (some ⟨w6.heap.size + 1, 0, none⟩) 0 0) 0 [] (by rfl) (by have h := own_empty (base := w5.heap.size) (w6.alloc (.cells #[.bool false, .slice none 0 0, .slice none 0 0] 45)) 3 (hb6.alloc hb6.size _).size; rwa [World.size_alloc] at h) w5.heap.size Ei ps.length ei (ints ps) (by rfl) (hR.out.below ((hb6.alloc hb6.size _).alloc (hb6.alloc hb6.size _).size _)) (ints_oneCellF ps) q1 q2 ((hb6.alloc hb6.size _).alloc (hb6.alloc hb6.size _).size _).size ?_; intro v7 w7 hown7 hg7 hat7; have hb7 : Below w5.heap.size w5 w7 := Below.grown ((hb6.alloc hb6.size _).alloc (hb6.alloc hb6.size _).size _) hg7 ((hb6.alloc hb6.size _).alloc (hb6.alloc hb6.size _).size _).size (fun k hk => (World.ownsRow.lt ((by have h := own_empty (base := w5.heap.size) (w6.alloc (.cells #[.bool false, .slice none 0 0, .slice none 0 0] 45)) 3 (hb6.alloc hb6.size _).size; rwa [World.size_alloc] at h) : World.ownsRow ((w6.alloc (.cells #[.bool false, .slice none 0 0, .slice none 0 0] 45)).alloc (.cells #[] 3)) w5.heap.size 3 1 (.slice (some ⟨w6.heap.size + 1, 0, none⟩) 0 0) 0 []) k hk).1); have hL7 : Limbs w7 A6 k6 ls := limbs_grown0 ((g4.bel ((Below.refl _ _).alloc (Nat.le_refl _) _)).bel ((Below.refl _ _).alloc (Nat.le_refl _) _)) ((by have h := own_empty (base := w5.heap.size) (w6.alloc (.cells #[.bool false, .slice none 0 0, .slice none 0 0] 45)) 3 (hb6.alloc hb6.size _).size; rwa [World.size_alloc] at h) : World.ownsRow ((w6.alloc (.cells #[.bool false, .slice none 0 0, .slice none 0 0] 45)).alloc (.cells #[] 3)) w5.heap.size 3 1 (.slice (some ⟨w6.heap.size + 1, 0, none⟩) 0 0) 0 []) hg7; (first | have tW : Tri ((w6.alloc (.cells #[.bool false, .slice none 0 0, .slice none 0 0] 45)).alloc (.cells #[] 3)) _ _ _ _ := (Tri.new w6 (.bool false) (.slice none 0 0) (.slice none 0 0)).alloc _ | skip); (first | (have t7 := Tri.grown tW hg7 (by intro e; dsimp only at e; first | omega | (simp at hs6; omega)); have u0 := t7.cell0; have u1 := t7.cell1; have u2 := t7.cell2; have v0 := t7.frozen 0; have v1 := t7.frozen 1; have v2 := t7.frozen 2; have hgt7 := hb6.size) | skip); rw [List.nil_append, Nat.zero_add] at hown7; obtain ⟨E7, c7, rfl⟩ := own_slice hown7)
                  | ((with_reducible show ite _ (Oper.wp _ _ _ w6 _ _) _); refine step_append_any (w := w6) (by rfl) (.tmp 74) (.tmp 79) _ (by rfl) w5.heap.size 3 j0 _ 1 8 Tryz.underlying43 hj hy0 hy1 hy2 rfl (by omega) (.slice (some ⟨w5.heap.size, 0, none⟩) 0 0) 0 [] (by rfl) (by first | exact own_below (own_drew (own_empty w5 _ (Nat.le_refl _))) hb6' | exact own_below (own_drew ((own_empty w5 _ (Nat.le_refl _)).alloc _)) hb6') w5.heap.size Ei ps.length ei (ints ps) (by rfl) (hR.out.below hb6) (ints_oneCellF ps) q1 q2 hb6.size ?_; intro v7 w7 hown7 hg7 hat7; have hb7 : Below w5.heap.size w5 w7 := Below.grown hb6 hg7 hb6.size (fun k hk => (World.ownsRow.lt ((by first | exact own_below (own_drew (own_empty w5 _ (Nat.le_refl _))) hb6' | exact own_below (own_drew ((own_empty w5 _ (Nat.le_refl _)).alloc _)) hb6') : World.ownsRow (w6) w5.heap.size 3 1 (.slice (some ⟨w5.heap.size, 0, none⟩) 0 0) 0 []) k hk).1); have hL7 : Limbs w7 A6 k6 ls := limbs_grown0 g4 ((by first | exact own_below (own_drew (own_empty w5 _ (Nat.le_refl _))) hb6' | exact own_below (own_drew ((own_empty w5 _ (Nat.le_refl _)).alloc _)) hb6') : World.ownsRow (w6) w5.heap.size 3 1 (.slice (some ⟨w5.heap.size, 0, none⟩) 0 0) 0 []) hg7; (first | have tW : Tri (w6) _ _ _ _ := tN | skip); (first | (have t7 := Tri.grown tW hg7 (by intro e; dsimp only at e; first | omega | (simp at hs6; omega)); have u0 := t7.cell0; have u1 := t7.cell1; have u2 := t7.cell2; have v0 := t7.frozen 0; have v1 := t7.frozen 1; have v2 := t7.frozen 2; have hgt7 := hgN) | skip); rw [List.nil_append, Nat.zero_add] at hown7; obtain ⟨E7, c7, rfl⟩ := own_slice hown7)
                  | ((with_reducible show ite _ (Oper.wp _ _ _ (World.alloc w6 (Obj.cells #[_, _, _] _)) _ _) _); refine step_append_any (w := w6.alloc (.cells #[.bool false, .slice none 0 0, .slice none 0 0] 45)) (by rfl) (.tmp 74) (.tmp 79) _ (by rfl) w5.heap.size 3 j0 _ 1 8 Tryz.underlying43 hj hy0 hy1 hy2 rfl (by omega) (.slice (some ⟨w5.heap.size, 0, none⟩) 0 0) 0 [] (by rfl) (World.ownsRow.alloc (by first | exact own_below (own_drew (own_empty w5 _ (Nat.le_refl _))) hb6' | exact own_below (own_drew ((own_empty w5 _ (Nat.le_refl _)).alloc _)) hb6') _) w5.heap.size Ei ps.length ei (ints ps) (by rfl) (hR.out.below (hb6.alloc hb6.size _)) (ints_oneCellF ps) q1 q2 (hb6.alloc hb6.size _).size ?_; intro v7 w7 hown7 hg7 hat7; have hb7 : Below w5.heap.size w5 w7 := Below.grown (hb6.alloc hb6.size _) hg7 (hb6.alloc hb6.size _).size (fun k hk => (World.ownsRow.lt ((World.ownsRow.alloc (by first | exact own_below (own_drew (own_empty w5 _ (Nat.le_refl _))) hb6' | exact own_below (own_drew ((own_empty w5 _ (Nat.le_refl _)).alloc _)) hb6') _) : World.ownsRow (w6.alloc (.cells #[.bool false, .slice none 0 0, .slice none 0 0] 45)) w5.heap.size 3 1 (.slice (some ⟨w5.heap.size, 0, none⟩) 0 0) 0 []) k hk).1); have hL7 : Limbs w7 A6 k6 ls := limbs_grown0 (g4.bel ((Below.refl _ _).alloc (Nat.le_refl _) _)) ((World.ownsRow.alloc (by first | exact own_below (own_drew (own_empty w5 _ (Nat.le_refl _))) hb6' | exact own_below (own_drew ((own_empty w5 _ (Nat.le_refl _)).alloc _)) hb6') _) : World.ownsRow (w6.alloc (.cells #[.bool false, .slice none 0 0, .slice none 0 0] 45)) w5.heap.size 3 1 (.slice (some ⟨w5.heap.size, 0, none⟩) 0 0) 0 []) hg7; (first | have tW : Tri (w6.alloc (.cells #[.bool false, .slice none 0 0, .slice none 0 0] 45)) _ _ _ _ := Tri.new w6 (.bool false) (.slice none 0 0) (.slice none 0 0) | skip); (first | (have t7 := Tri.grown tW hg7 (by intro e; dsimp only at e; first | omega | (simp at hs6; omega)); have u0 := t7.cell0; have u1 := t7.cell1; have u2 := t7.cell2; have v0 := t7.frozen 0; have v1 := t7.frozen 1; have v2 := t7.frozen 2; have hgt7 := hb6.size) | skip); rw [List.nil_append, Nat.zero_add] at hown7; obtain ⟨E7, c7, rfl⟩ := own_slice hown7)
                  | ((with_reducible show ite _ (Oper.wp _ _ _ w6 _ _) _); refine step_append_any (w := w6) (by rfl) (.tmp 74) (.tmp 79) _ (by rfl) w5.heap.size 3 j0 _ 1 8 Tryz.underlying43 hj hy0 hy1 hy2 rfl (by omega) (.slice (some ⟨w5.heap.size + 1, 0, none⟩) 0 0) 0 [] (by rfl) (by have h := (own_below (own_drew (own_empty (base := w5.heap.size) (w5.alloc (.cells #[.bool false, .slice none 0 0, .slice none 0 0] 45)) _ (by simp))) hb6'); rwa [World.size_alloc] at h) w5.heap.size Ei ps.length ei (ints ps) (by rfl) (hR.out.below hb6) (ints_oneCellF ps) q1 q2 hb6.size ?_; intro v7 w7 hown7 hg7 hat7; have hb7 : Below w5.heap.size w5 w7 := Below.grown hb6 hg7 hb6.size (fun k hk => (World.ownsRow.lt ((by have h := (own_below (own_drew (own_empty (base := w5.heap.size) (w5.alloc (.cells #[.bool false, .slice none 0 0, .slice none 0 0] 45)) _ (by simp))) hb6'); rwa [World.size_alloc] at h) : World.ownsRow (w6) w5.heap.size 3 1 (.slice (some ⟨w5.heap.size + 1, 0, none⟩) 0 0) 0 []) k hk).1); have hL7 : Limbs w7 A6 k6 ls := limbs_grown0 g4 ((by have h := (own_below (own_drew (own_empty (base := w5.heap.size) (w5.alloc (.cells #[.bool false, .slice none 0 0, .slice none 0 0] 45)) _ (by simp))) hb6'); rwa [World.size_alloc] at h) : World.ownsRow (w6) w5.heap.size 3 1 (.slice (some ⟨w5.heap.size + 1, 0, none⟩) 0 0) 0 []) hg7; (first | have tW : Tri (w6) _ _ _ _ := tN | skip); (first | (have t7 := Tri.grown tW hg7 (by intro e; dsimp only at e; first | omega | (simp at hs6; omega)); have u0 := t7.cell0; have u1 := t7.cell1; have u2 := t7.cell2; have v0 := t7.frozen 0; have v1 := t7.frozen 1; have v2 := t7.frozen 2; have hgt7 := hgN) | skip); rw [List.nil_append, Nat.zero_add] at hown7; obtain ⟨E7, c7, rfl⟩ := own_slice hown7))
              all_goals
                go_wp2_with fail
                go_meet
                first
                  | exact ⟨w7.heap.size, rfl, F.out _ w7.heap.size s6 A6 k6 c6 ls E7 c7 (Tri.new w7 _ _ _) g1 g2 (hL7.bel ((Below.refl _ _).alloc (Nat.le_refl _) _)) g5 (own_caps hown7) ((Ints.of_own hown7 hpok.out).bel ((Below.refl _ _).alloc (Nat.le_refl _) _)) (fun h0 y hy => Nat.le_trans (by first | exact Nat.le_refl _ | (simp; done) | (simp; omega)) (gf h0 y hy)) (fun _ y hy => (hown7.lt y.block (by subst hy; rfl)).1) (hb7.alloc hb7.size _)⟩
                  | exact ⟨_, rfl, F.out _ _ s6 A6 k6 c6 ls E7 c7 (t7.set _ _ _) g1 g2 (t7.limbs _ _ _ hL7) g5 (own_caps hown7) (t7.ints _ _ _ (Ints.of_own hown7 hpok.out)) (fun h0 y hy => Nat.le_trans (by first | exact Nat.le_refl _ | (simp; done) | (simp; omega)) (gf h0 y hy)) (fun _ y hy => (hown7.lt y.block (by subst hy; rfl)).1) (((hb7.setCell hgt7 _).setCell hgt7 _).setCell hgt7 _)⟩
            case rest =>
              obtain ⟨gt, rfl, hT⟩ := hcut
              obtain ⟨w8, rfl⟩ : ∃ W : World, W = wc := ⟨_, rfl⟩
              obtain ⟨s6, A6, k6, c6, ls, E7, c7, hTri, g1, g2, g3, g4, hL6, hI7, hz6, hf6, hf7, hb8⟩ := hT.out
              have hI8 := Lib.hid (hI5.out.bel2 hb8)
              have keepT : Hid (∀ W, Below w8.heap.size w8 W → W.cell? ⟨gt, 0, none⟩ = some (.bool s6) ∧ W.cell? ⟨gt, 1, none⟩ = some (.slice A6 k6 c6) ∧ W.cell? ⟨gt, 2, none⟩ = some (.slice E7 ps.length c7)) := fun W hW => ⟨(hTri.bel hW).cell0, (hTri.bel hW).cell1, (hTri.bel hW).cell2⟩
              obtain ⟨m0, m1, m2⟩ := keepT.out _ (Below.refl _ _)
              have Hr2 := Lib.hid (reads_own3 hI8.out.own rfl)
              have hk6 : ls.length = k6 := hL6.len
              have hxE : Hid (∀ W, Below w8.heap.size w8 W → EntOk W (((A6, c6), (E7, c7)), ((s6, ls), ps))) := fun W hW => ⟨by show ls.length ≤ c6; omega, g2, g3, g4, by show Limbs W A6 ls.length ls; rw [hk6]; exact hL6.bel hW, hI7.bel hW⟩
              have hZ6 : Hid (ZVal s6 ls (intZ s6 ls) ∧ intZ s6 ls = intZ s xs) := ⟨by rw [hz6.eq]; exact hz6, hz6.eq⟩
              have hFr : Hid (FreshE wo.heap.size ((((A6, c6), (E7, c7)), ((s6, ls), ps)) : EntT)) := ⟨fun h0 y hy => Nat.le_trans hI5.out.bel.size (hf6 (by have h0' : 0 < ls.length := h0; omega) y hy), fun h0 y hy => Nat.le_trans hI5.out.bel.size (hf7 h0 y hy)⟩
              have Fin : Hid (∀ W v, W.ownsRow w8.heap.size 45 3 v (E.length + 1) (tcells (E.take k ++ ((((A6, c6), (E7, c7)), ((s6, ls), ps)) : EntT) :: E.drop k)) → Below w8.heap.size w8 W → RIns wo W n v (E.take k ++ ((((A6, c6), (E7, c7)), ((s6, ls), ps)) : EntT) :: E.drop k) (mvT (L.take (i + 1)))) := fun W v hown hb => by
                have h := hI8.out.insert (x := (((A6, c6), (E7, c7)), ((s6, ls), ps))) hk hbef.out hni.out Hll.out hZ6.out.1 hFr.out (hxE.out W hb) (own_mono hown hI8.out.bel.size) hb
                have e : valT ((s6, ls), ps) = valT ((s, xs), ps) := by show (ps, intZ s6 ls) = (ps, intZ s xs); rw [hZ6.out.2]
                rw [Htk.out, ← e]
                exact h
              have hkc : (k : Int) ≤ (cap : Int) := by omega
              have hnc2 : (E.length : Int) ≤ (cap : Int) := by omega
              have hk0 : (0 : Int) ≤ (k : Int) := by omega
              have hkn : (k : Int) ≤ (E.length : Int) := by omega
              have HA : Hid (World.ownsRow (w8.alloc (.cells #[] 45)).drew w8.heap.size 45 3 (.slice (some ⟨w8.heap.size, 0, none⟩) 0 0) 0 []) := own_drew (own_empty3 w8 _ (Nat.le_refl _))
              have HB2 : Hid (World.ownsRow ((w8.alloc (.cells #[] 45)).alloc (.cells #[.bool s6, .slice A6 k6 c6, .slice E7 ps.length c7] 45)).drew w8.heap.size 45 3 (.slice (some ⟨w8.heap.size, 0, none⟩) 0 0) 0 []) := own_drew ((own_empty3 w8 _ (Nat.le_refl _)).alloc _)
              have HC2 : Hid (World.ownsRow ((w8.alloc (.cells #[.bool s6, .slice A6 k6 c6, .slice E7 ps.length c7] 45)).alloc (.cells #[] 45)).drew w8.heap.size 45 3 (.slice (some ⟨w8.heap.size + 1, 0, none⟩) 0 0) 0 []) := own_drew (by have := own_empty3 (w8.alloc (.cells #[.bool s6, .slice A6 k6 c6, .slice E7 ps.length c7] 45)) (base := w8.heap.size) 45 (by simp); simpa using this)
              have BA : Hid (Below w8.heap.size w8 (w8.alloc (.cells #[] 45)).drew) := ((Below.refl _ _).alloc (Nat.le_refl _) _).drew
              have BB : Hid (Below w8.heap.size w8 ((w8.alloc (.cells #[] 45)).alloc (.cells #[.bool s6, .slice A6 k6 c6, .slice E7 ps.length c7] 45)).drew) := (((Below.refl _ _).alloc (Nat.le_refl _) _).alloc (by simp) _).drew
              have BC : Hid (Below w8.heap.size w8 ((w8.alloc (.cells #[.bool s6, .slice A6 k6 c6, .slice E7 ps.length c7] 45)).alloc (.cells #[] 45)).drew) := (((Below.refl _ _).alloc (Nat.le_refl _) _).alloc (by simp) _).drew
              have hrq : Reads w8 w8.heap.size 3 B k ((tcells E).take (k * 3)) := reads_take3 Hr2.out hk
              have RA := Lib.hid (hrq.below BA.out)
              have RB := Lib.hid (hrq.below BB.out)
              have RC := Lib.hid (hrq.below BC.out)
              have NBk : Hid (∀ w', World.grownBy ((w8.alloc (.cells #[] 45)).alloc (.cells #[.bool s6, .slice A6 k6 c6, .slice E7 ps.length c7] 45)).drew w' (Value.slice (some ⟨w8.heap.size, 0, none⟩) 0 0).ownBlock → Reads w' (w8.heap.size + 1 + 1) 3 (some ⟨w8.heap.size + 1, 0, none⟩) 1 [.bool s6, .slice A6 k6 c6, .slice E7 ps.length c7]) := fun w' hg => by
                obtain ⟨h0, h1, h2⟩ := cells_new3 (w8.alloc (.cells #[] 45)) (.bool s6) (.slice A6 k6 c6) (.slice E7 ps.length c7) 45
                rw [World.size_alloc] at h0 h1 h2
                exact reads_three (hg.cell h0 (by simp [Value.ownBlock])) (hg.cell h1 (by simp [Value.ownBlock])) (hg.cell h2 (by simp [Value.ownBlock])) (by omega)
              have NCk : Hid (∀ w', World.grownBy ((w8.alloc (.cells #[.bool s6, .slice A6 k6 c6, .slice E7 ps.length c7] 45)).alloc (.cells #[] 45)).drew w' (Value.slice (some ⟨w8.heap.size + 1, 0, none⟩) 0 0).ownBlock → Reads w' (w8.heap.size + 1) 3 (some ⟨w8.heap.size, 0, none⟩) 1 [.bool s6, .slice A6 k6 c6, .slice E7 ps.length c7]) := fun w' hg => by
                obtain ⟨h0, h1, h2⟩ := cells_new3 w8 (.bool s6) (.slice A6 k6 c6) (.slice E7 ps.length c7) 45
                have h0' := (World.cell?_alloc_lt (w8.alloc (.cells #[.bool s6, .slice A6 k6 c6, .slice E7 ps.length c7] 45)) (.cells #[] 45) ⟨w8.heap.size, 0, none⟩ (by simp)).trans h0
                have h1' := (World.cell?_alloc_lt (w8.alloc (.cells #[.bool s6, .slice A6 k6 c6, .slice E7 ps.length c7] 45)) (.cells #[] 45) ⟨w8.heap.size, 1, none⟩ (by simp)).trans h1
                have h2' := (World.cell?_alloc_lt (w8.alloc (.cells #[.bool s6, .slice A6 k6 c6, .slice E7 ps.length c7] 45)) (.cells #[] 45) ⟨w8.heap.size, 2, none⟩ (by simp)).trans h2
                exact reads_three (hg.cell h0' (by simp [Value.ownBlock])) (hg.cell h1' (by simp [Value.ownBlock])) (hg.cell h2' (by simp [Value.ownBlock])) (by omega)
              have hl1 : 0 + k ≤ maxLen := by unfold maxLen; omega
              have hl2 : (0 + k) * 56 ≤ 140737488355328 := by omega
              have hl3 : 0 + k + 1 ≤ maxLen := by unfold maxLen; omega
              have hl4 : (0 + k + 1) * 56 ≤ 140737488355328 := by omega
              have hl5 : 0 + k + 1 + (E.length - k) ≤ maxLen := by unfold maxLen; omega
              have hl6 : (0 + k + 1 + (E.length - k)) * 56 ≤ 140737488355328 := by omega
              have hlk : Hid (0 + k + 1 + (E.length - k) = E.length + 1) := by show _ = _; omega
              have Hone : Hid (∀ u ∈ (tcells E).take (k * 3), u.oneCell' = true) := fun u hu => tcells_oneCell _ u (List.mem_of_mem_take hu)
              have Hct : Hid (Reads w8 w8.heap.size 3 (if cap = k then B else Option.map (fun x => x.add (k * 3)) B) (E.length - k) ((tcells E).drop (k * 3))) := Hr2.out.cut hk hcap
              have hK6 := Lib.hid hk6
              clear hrq hTri hL6 hI7 hz6 hb8 hk6 hT hI5 E85 E95 keep5 Cn b1 b2 b3 hR hpok F q1 q2
              go_wp2_with fail
              go_region_held3 (fun W => W.cell? ⟨gt, 0, none⟩ = some (.bool s6) ∧ W.cell? ⟨gt, 1, none⟩ = some (.slice A6 k6 c6) ∧ W.cell? ⟨gt, 2, none⟩ = some (.slice E7 ps.length c7))
                (first | go_keep | exact keepT.out _ hb3 | exact keepT.out _ hb2 | exact keepT.out _ hb1 | exact keepT.out _ BA.out | exact keepT.out _ BB.out | exact keepT.out _ BC.out | exact keepT.out _ (hb1.alloc hb1.size _) | exact keepT.out _ (Below.refl _ _).drew | exact keepT.out _ ((Below.refl _ _).alloc (Nat.le_refl _) _).drew)
                (first
                  | ((with_reducible show ite _ (Oper.wp _ _ _ (World.drew (World.alloc w8 (Obj.cells #[] _))) _ _) _); refine step_append_any (w := (w8.alloc (.cells #[] 45)).drew) (by rfl) (.tmp 82) (.tmp 85) _ (by rfl) w8.heap.size 45 i0 _ 3 56 Tryz.underlying22 hi hz0 hz1 hz2 rfl (by omega) (.slice (some ⟨w8.heap.size, 0, none⟩) 0 0) 0 [] (by rfl) HA.out w8.heap.size B k cap ((tcells E).take (k * 3)) (by rfl) RA.out Hone.out hl1 hl2 BA.out.size ?_; intro v1 w1 hown1 hg1 hat1; have hb1 := BA.out.grown hg1 BA.out.size (fun k hk => (HA.out.lt k hk).1))
                  | ((with_reducible show ite _ (Oper.wp _ _ _ (World.drew (World.alloc (World.alloc w8 (Obj.cells #[] _)) _)) _ _) _); refine step_append_any (w := ((w8.alloc (.cells #[] 45)).alloc (.cells #[.bool s6, .slice A6 k6 c6, .slice E7 ps.length c7] 45)).drew) (by rfl) (.tmp 82) (.tmp 85) _ (by rfl) w8.heap.size 45 i0 _ 3 56 Tryz.underlying22 hi hz0 hz1 hz2 rfl (by omega) (.slice (some ⟨w8.heap.size, 0, none⟩) 0 0) 0 [] (by rfl) HB2.out w8.heap.size B k cap ((tcells E).take (k * 3)) (by rfl) RB.out Hone.out hl1 hl2 BB.out.size ?_; intro v1 w1 hown1 hg1 hat1; have hb1 := BB.out.grown hg1 BB.out.size (fun k hk => (HB2.out.lt k hk).1); have hn1 := NBk.out _ hg1)
                  | ((with_reducible show ite _ (Oper.wp _ _ _ (World.drew (World.alloc (World.alloc w8 (Obj.cells #[_, _, _] _)) _)) _ _) _); refine step_append_any (w := ((w8.alloc (.cells #[.bool s6, .slice A6 k6 c6, .slice E7 ps.length c7] 45)).alloc (.cells #[] 45)).drew) (by rfl) (.tmp 82) (.tmp 85) _ (by rfl) w8.heap.size 45 i0 _ 3 56 Tryz.underlying22 hi hz0 hz1 hz2 rfl (by omega) (.slice (some ⟨w8.heap.size + 1, 0, none⟩) 0 0) 0 [] (by rfl) HC2.out w8.heap.size B k cap ((tcells E).take (k * 3)) (by rfl) RC.out Hone.out hl1 hl2 BC.out.size ?_; intro v1 w1 hown1 hg1 hat1; have hb1 := BC.out.grown hg1 BC.out.size (fun k hk => (HC2.out.lt k hk).1); have hn1 := NCk.out _ hg1)
                  | ((with_reducible show ite _ (Oper.wp _ _ _ (World.alloc w1 _) _ _) _); refine step_append_any (w := w1.alloc (.cells #[.bool s6, .slice A6 k6 c6, .slice E7 ps.length c7] 45)) (by rfl) (.tmp 86) (.tmp 88) _ (by rfl) w8.heap.size 45 i0 _ 3 56 Tryz.underlying22 hi hz0 hz1 hz2 rfl (by omega) v1 (0 + k) ([] ++ (tcells E).take (k * 3)) (by rfl) (hown1.alloc _) (w1.heap.size + 1) (some ⟨w1.heap.size, 0, none⟩) 1 1 [.bool s6, .slice A6 k6 c6, .slice E7 ps.length c7] (by rfl) (reads_new03 w1 _ _ _ _) (by simp [Value.oneCell']) hl3 hl4 (hb1.alloc hb1.size _).size ?_; intro v2 w2 hown2 hg2 hat2; have hb2 := (hb1.alloc hb1.size _).grown hg2 (hb1.alloc hb1.size _).size (fun k hk => (hown1.lt k hk).1))
                  | ((with_reducible show ite _ (Oper.wp _ _ _ w1 _ _) _); refine step_append_any (w := w1) (by rfl) (.tmp 86) (.tmp 88) _ (by rfl) w8.heap.size 45 i0 _ 3 56 Tryz.underlying22 hi hz0 hz1 hz2 rfl (by omega) v1 (0 + k) ([] ++ (tcells E).take (k * 3)) (by rfl) hown1 _ _ 1 1 [.bool s6, .slice A6 k6 c6, .slice E7 ps.length c7] (by rfl) hn1 (by simp [Value.oneCell']) hl3 hl4 hb1.size ?_; intro v2 w2 hown2 hg2 hat2; have hb2 := hb1.grown hg2 hb1.size (fun k hk => (hown1.lt k hk).1))
                  | ((with_reducible show ite _ (Oper.wp _ _ _ w2 _ _) _); refine step_append_any (w := w2) (by rfl) (.tmp 89) (.tmp 92) _ (by rfl) w8.heap.size 45 i0 _ 3 56 Tryz.underlying22 hi hz0 hz1 hz2 rfl (by omega) v2 (0 + k + 1) ([] ++ (tcells E).take (k * 3) ++ [.bool s6, .slice A6 k6 c6, .slice E7 ps.length c7]) (by rfl) hown2 w8.heap.size (if cap = k then B else Option.map (fun x => x.add (k * 3)) B) (E.length - k) (cap - k) ((tcells E).drop (k * 3)) (by rfl) (Hct.out.below hb2) (fun u hu => tcells_oneCell _ u (List.mem_of_mem_drop hu)) hl5 hl6 hb2.size ?_; intro v3 w3 hown3 hg3 hat3; have hb3 := hb2.grown hg3 hb2.size (fun k hk => (hown2.lt k hk).1)))
              all_goals
                have he : [] ++ (tcells E).take (k * 3) ++ [.bool s6, .slice A6 k6 c6, .slice E7 ps.length c7] ++ (tcells E).drop (k * 3) = tcells (E.take k ++ ((((A6, c6), (E7, c7)), ((s6, ls), ps)) : EntT) :: E.drop k) := by
                  have e : tcell ((((A6, c6), (E7, c7)), ((s6, ls), ps)) : EntT) = [.bool s6, .slice A6 k6 c6, .slice E7 ps.length c7] := by
                    show [Value.bool s6, Value.slice A6 ls.length c6, Value.slice E7 ps.length c7] = _
                    rw [hK6.out]
                  rw [tcells_append, tcells_cons, tcells_take, tcells_drop, List.nil_append, List.append_assoc, e]
                rw [he, hlk.out] at hown3
                have hIn := Lib.hid (Fin.out _ _ hown3 hb3)
                have hEn : (E.take k ++ ((((A6, c6), (E7, c7)), ((s6, ls), ps)) : EntT) :: E.drop k).length ≤ i + 1 := by simp; omega
                clear hown3 hg3 hat3 hown2 hg2 hat2 hown1 hg1 hat1 hb1 hb2 hb3 he Fin hI8
                generalize E.take k ++ ((((A6, c6), (E7, c7)), ((s6, ls), ps)) : EntT) :: E.drop k = E2 at *
                go_wp2_with fail
                go_roundw
                case rel => exact ⟨i + 1, E2, by omega, by go_num, hIn, hEn⟩
                case measure => simp [intOf]; omega
    · have hIa : Hid (RIns wo wt n (.slice B E.length cap) E (mvT L)) := by
        have h := hI.out
        rw [List.take_of_length_le (by rw [HL.out]; omega)] at h
        exact h
      have hlt' : ¬ (i : Int) < (m : Int) := by omega
      have Hsh := Lib.hid (hI.out.short Hab.out)
      have hI0 := Lib.hid hIa.out
      clear hI
      go_wp2_with fail
      go_loopw [7, 8] (fun v j wr => ∃ k : Nat, k ≤ E.length ∧ j = .int .i64 (k : Int) ∧ Hid (wr.ownsRow wt.heap.size 45 3 v (fullE (E.take k)).length (tcells (fullE (E.take k)))) ∧ Hid (Below wt.heap.size wt wr)) (fun _ j _ => E.length - (intOf j).toNat)
      case atStart => exact ⟨0, by omega, rfl, World.ownsRow_nil _ _ _ _, Below.refl _ _⟩
      case round =>
        obtain ⟨k, hk, rfl, hO, hb⟩ := hrel
        obtain ⟨wv, rfl⟩ : ∃ wv : World, wv = wr := ⟨_, rfl⟩
        by_cases hkE : k < E.length
        · obtain ⟨g, rfl, hg1, hg2⟩ := HB.out (by omega)
          obtain ⟨t0, t1, t2⟩ := tcells_get hkE
          have hIv := hIa.out.bel2 hb.out
          have c0 := hIv.own.cells (g := g) rfl (3 * k) _ t0
          have c1 := hIv.own.cells (g := g) rfl (3 * k + 1) _ t1
          have c2 := hIv.own.cells (g := g) rfl (3 * k + 2) _ t2
          rw [Go.WideShapes.add_plain, Nat.zero_add, Nat.mul_comm 3 k] at c0 c1 c2
          have hxe := (hIv.ok _ (List.getElem_mem hkE)).1
          have hxs := Hsh.out _ (List.getElem_mem hkE)
          have hkE' : (k : Int) < (E.length : Int) := by omega
          have hk0 : (0 : Int) ≤ (k : Int) := by omega
          have hlE : E.length ≤ 2400000000000 := by omega
          have Cs := Lib.hid (r2sign (E[k]).2.1.1 (E[k]).1.1.1 (E[k]).2.1.2.length (E[k]).1.1.2 (E[k]).2.1.2 wv hxe.2.2.2.2.1 hxe.1 hxe.2.1 (by omega))
          have keepK : Hid (∀ W, Below wv.heap.size wv W → W.cell? ⟨g, k * 3, none⟩ = some (.bool (E[k]).2.1.1) ∧ W.cell? ⟨g, k * 3 + 1, none⟩ = some (.slice (E[k]).1.1.1 (E[k]).2.1.2.length (E[k]).1.1.2) ∧ W.cell? ⟨g, k * 3 + 2, none⟩ = some (.slice (E[k]).1.2.1 (E[k]).2.2.length (E[k]).1.2.2)) := fun W hW =>
            ⟨(hW.cell (p := ⟨g, k * 3, none⟩) (hIv.own.lt g rfl).2).trans c0, (hW.cell (p := ⟨g, k * 3 + 1, none⟩) (hIv.own.lt g rfl).2).trans c1, (hW.cell (p := ⟨g, k * 3 + 2, none⟩) (hIv.own.lt g rfl).2).trans c2⟩
          have hyes := Lib.hid (fun (h : intZ (E[k]).2.1.1 (E[k]).2.1.2 ≠ 0) => fullE_yes hkE h)
          have hno := Lib.hid (fun (h : intZ (E[k]).2.1.1 (E[k]).2.1.2 = 0) => fullE_no hkE h)
          have hsg0 := sgn_zero9 (intZ (E[k]).2.1.1 (E[k]).2.1.2)
          have hfl : (fullE (E.take k)).length ≤ k := by have := fullE_le (E.take k); rw [List.length_take] at this; omega
          clear t0 t1 t2 hIv hxe
          generalize E[k] = y at *
          obtain ⟨⟨⟨Ay, cy⟩, ⟨Ey, dy⟩⟩, ⟨⟨sy, ys⟩, py⟩⟩ := y
          simp only at c0 c1 c2 hxs Cs keepK hyes hno hsg0
          by_cases hz : intZ sy ys = 0
          · have hs0 : sgn (intZ sy ys) = 0 := hsg0.2 hz
            rw [hs0] at Cs
            have hfe := hno.out hz
            have hO2 : Hid (∀ W, Below wv.heap.size wv W → W.ownsRow wt.heap.size 45 3 u7 (fullE (E.take (k + 1))).length (tcells (fullE (E.take (k + 1))))) := fun W hW => by rw [hfe]; exact own_below hO.out hW
            clear hz hs0 hsg0 hfe hno hyes
            go_wp2_with fail
            refine Cs.out.mono ?_
            rintro e w6 ⟨rfl, hb6⟩
            have hO6 := Lib.hid (hO2.out _ hb6)
            have hB6 := Lib.hid (hb.out.trans (hb6.mono hb.out.size))
            clear hb6 hO2
            go_wp2_with fail
            go_roundw
            case rel => exact ⟨k + 1, by omega, by go_num, hO6, hB6⟩
            case measure => simp [intOf]; omega
          · have hs0 : sgn (intZ sy ys) ≠ 0 := fun e => hz (hsg0.1 e)
            have hs1 : (sgn (intZ sy ys) == 0) = false := beq_eq_false_iff_ne.2 hs0
            have hs2 : (sgn (intZ sy ys) != 0) = true := by simp [hs0]
            have hfe := hyes.out hz
            have hl : (fullE (E.take (k + 1))).length = (fullE (E.take k)).length + 1 := by rw [hfe, List.length_append]; rfl
            have hcl : tcells (fullE (E.take (k + 1))) = tcells (fullE (E.take k)) ++ [.bool sy, .slice Ay ys.length cy, .slice Ey py.length dy] := by rw [hfe, tcells_snoc]; rfl
            have hO2 : Hid (∀ (W : World) v, W.ownsRow wt.heap.size 45 3 v ((fullE (E.take k)).length + 1) (tcells (fullE (E.take k)) ++ [.bool sy, .slice Ay ys.length cy, .slice Ey py.length dy]) → W.ownsRow wt.heap.size 45 3 v (fullE (E.take (k + 1))).length (tcells (fullE (E.take (k + 1))))) := fun W v h => by rw [hl, hcl]; exact h
            clear hz hs0 hsg0 hfe hno hyes hl hcl
            generalize sgn (intZ sy ys) = sg at *
            go_wp2_with fail
            refine Cs.out.mono ?_
            rintro e w6 ⟨rfl, hb6⟩
            obtain ⟨d0, d1, d2⟩ := keepK.out _ hb6
            have hO6 := Lib.hid (own_below hO.out hb6)
            have hB6 := Lib.hid (hb.out.trans (hb6.mono hb.out.size))
            clear hb6 c0 c1 c2 hO keepK Cs
            generalize fullE (E.take k) = F at *
            have q1 : F.length + 1 ≤ maxLen := by unfold maxLen; omega
            have q2 : (F.length + 1) * 56 ≤ 140737488355328 := by omega
            have q3 : wt.heap.size ≤ (w6.alloc (.cells #[.bool sy, .slice Ay ys.length cy, .slice Ey py.length dy] 45)).heap.size := by have := hB6.out.size; simp; omega
            have hA6 : Hid ((w6.alloc (.cells #[.bool sy, .slice Ay ys.length cy, .slice Ey py.length dy] 45)).ownsRow wt.heap.size 45 3 u7 F.length (tcells F)) := hO6.out.alloc _
            go_wp2_with (at_builtin; refine wpList_append_any (w := w6.alloc (.cells #[.bool sy, .slice Ay ys.length cy, .slice Ey py.length dy] 45)) rfl _ _ 22 rfl wt.heap.size 45 i0 _ 3 56 Tryz.underlying22 hi hz0 hz1 hz2 rfl (by decide) _ F.length (tcells F) rfl hA6.out (w6.heap.size + 1) (some ⟨w6.heap.size, 0, none⟩) 1 1 [.bool sy, .slice Ay ys.length cy, .slice Ey py.length dy] rfl (reads_new03 w6 _ _ _ _) (by simp [Value.oneCell']) q1 q2 q3 ?_; intro v7 w7 hown7 hg7 hat7)
            have hO7 := Lib.hid (hO2.out _ _ hown7)
            have hB7 : Hid (Below wt.heap.size wt w7) := (hB6.out.alloc hB6.out.size _).grown hg7 (hB6.out.alloc hB6.out.size _).size (fun k hk => (hA6.out.lt k hk).1)
            clear hown7 hg7 hat7 hA6 hO2
            go_wp2_with fail
            go_roundw
            case rel => exact ⟨k + 1, by omega, by go_num, hO7, hB7⟩
            case measure => simp [intOf]; omega
        · have hkn : k = E.length := by omega
          have hlt2 : ¬ (k : Int) < (E.length : Int) := by omega
          have hO' := hO.out
          rw [hkn, List.take_length] at hO'
          have hIv := hIa.out.bel2 hb.out
          obtain ⟨B9, d9, rfl, r1, r2, r3⟩ := trs_of_own hO' rfl (fun x hx => (hIv.ok x (fullE_mem hx).1).1)
          have Fin : Hid (GivesRF wo n (mvT L) (.returned (.slice B9 (fullE E).length d9)) wv) := by
            have hl : ((fullE E).map (·.2)).length = (fullE E).length := List.length_map _
            refine ⟨B9, d9, (fullE E).map (·.2), by rw [hl], by rw [hl]; exact r1, by unfold maxLen at r2; omega, by rw [hl]; exact r3, ?_, (fullE_eq n E).trans hIv.eq, fun W hW => ?_, hIv.bel⟩
            · exact full_plain hIv.fall hIv.len (fun x hx => (hIv.ok x hx).2)
            · have hlo : wo.heap.size ≤ wt.heap.size := hI0.out.bel.size
              obtain ⟨B8, d8, e8, _, _, q3⟩ := trs_of_own (own_only hO' hlo hW) rfl (fun x hx => by
                have h9 := hIv.fr x (fullE_mem hx).1
                exact entOk_only (hIv.ok x (fullE_mem hx).1).1 hW (fun h0 y hy hk => by have h8 : wo.heap.size ≤ y.block := h9.1 h0 y hy; exact Nat.lt_irrefl _ (Nat.lt_of_lt_of_le hk h8)) (fun h0 y hy hk => by have h8 : wo.heap.size ≤ y.block := h9.2 h0 y hy; exact Nat.lt_irrefl _ (Nat.lt_of_lt_of_le hk h8)))
              injection e8 with e8
              subst e8
              rw [hl]; exact q3
          clear hkn hO' hIv r1 r2 r3 hO
          go_wp2_with fail
          go_ret
          exact Fin.out
theorem r17plain (n C K : Nat) (A : Option Addr) (m c : Nat) (L : List TV) (w : World) (hx : Trs w A m L) (hl : ∀ t ∈ L, t.2.length = n) (hC : ∀ t ∈ L, t.1.2.length ≤ C) (hC1 : C ≤ 1000000) (hK : K ≤ 1000000) (hab : absM (mvT L) < 2 ^ (64 * K)) (hm : m ≤ 2400000000000) (hn : n ≤ 1000000) :
    Calls Tryz.prog 32 #[.slice A m c] w (GivesR w n (mvT L)) :=
  (r17plainF n C K A m c L w hx hl hC hC1 hK hab hm hn).mono fun _ _ h => h.r
end Go.Proofs.YtjmbejodcloapaaGreat
