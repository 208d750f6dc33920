/- Layer 8's laws: the program's parts as the document's. -/
import Derived.Test.YtbcapmnklgdeoaaLaw8A
namespace Go.Proofs.Ytbcapmnklgdeoaa
open Go.RowKit Cl
attribute [local go_sem ↓] Go.wp_at_zero Go.wp_at_succ

section
variable {q : Prm}
theorem prs_ents {w : World} {A : Option Addr} {n : Nat} {a : Poly (Zp q)} (ha : a ≠ 0) (h : Prs w A n (Poly.partsL a)) :
    ∃ E : List Ent, E.length = n ∧ E.map (·.2) = Poly.lvls a ∧ (∀ x ∈ E, 0 < (Poly.lvl a x.2).len ∧ Ints w x.1.1 (Poly.lvl a x.2).len (fromP (Poly.lvl a x.2))) ∧
      (0 < n → ∃ b o, A = some ⟨b, o, none⟩ ∧ b < w.heap.size ∧ ∀ i (h : i < E.length), w.cell? ⟨b, o + 2 * i, none⟩ = some (.slice (E[i]).1.1 (Poly.lvl a (E[i]).2).len (E[i]).1.2) ∧ w.cell? ⟨b, o + (2 * i + 1), none⟩ = some (.int .i64 ((E[i]).2 : Int))) := by
  rcases Nat.eq_zero_or_pos n with h0 | h0
  · refine ⟨[], h0.symm, ?_, (fun x hx => by cases hx), fun h => by omega⟩
    have h1 := h.len
    rw [h0, Poly.partsL_length] at h1
    exact (List.eq_nil_of_length_eq_zero h1).symm
  · obtain ⟨b, o, e, hb, hc⟩ := h.at_ h0
    have hch : ∀ i : Fin (Poly.partsL a).length, ∃ x : Ent, x.2 = ((Poly.partsL a)[i.val]).2 ∧ w.cell? ⟨b, o + 2 * i.val, none⟩ = some (.slice x.1.1 (Poly.lvl a x.2).len x.1.2) ∧ w.cell? ⟨b, o + (2 * i.val + 1), none⟩ = some (.int .i64 (x.2 : Int)) ∧ Ints w x.1.1 (Poly.lvl a x.2).len (fromP (Poly.lvl a x.2)) := fun i => by
      obtain ⟨Ai, ci, h1, h2, h3⟩ := hc i.val i.isLt
      rw [Poly.partsL_get] at h1 h2 h3
      exact ⟨((Ai, ci), _), by rw [Poly.partsL_get], h1, h2, h3⟩
    refine ⟨List.ofFn fun i => Classical.choose (hch i), by rw [List.length_ofFn]; exact h.len, ?_, ?_, fun _ => ⟨b, o, e, hb, fun i hi => ?_⟩⟩
    · refine List.ext_getElem (by rw [List.length_map, List.length_ofFn, Poly.partsL_length]) fun i h1 h2 => ?_
      rw [List.getElem_map, List.getElem_ofFn]
      have h3 := (Classical.choose_spec (hch ⟨i, by rw [Poly.partsL_length]; exact h2⟩)).1
      rw [h3, Poly.partsL_get]
    · intro x hx
      obtain ⟨i, hi⟩ := List.mem_ofFn.1 hx
      have h3 := Classical.choose_spec (hch i)
      rw [hi] at h3
      exact ⟨Poly.len_pos (Poly.lvl_mon ha _).ne, h3.2.2.2⟩
    · rw [List.getElem_ofFn]
      have hi' : i < (Poly.partsL a).length := by rw [List.length_ofFn] at hi; exact hi
      have h3 := Classical.choose_spec (hch ⟨i, hi'⟩)
      exact ⟨h3.2.1, h3.2.2.1⟩
set_option maxRecDepth 100000 in
set_option maxHeartbeats 4000000 in
theorem theirsR (A : Option Addr) (n c : Nat) (a : Poly (Zp q)) (w : World) (ha : a ≠ 0) (_hal : a.len ≤ 900000000) (hx : Prs w A n (Poly.partsL a)) (hn : n ≤ 100000000) :
    Calls Try.prog 19 #[.slice A n c] w fun e w' => ∃ B d, e = .returned (.slice B n d) ∧ Prs w' B n (Poly.partsL a) ∧ Below w.heap.size w w' := by
  obtain ⟨i0, hi, hz0, hz1, hz2⟩ := info_parts part8_info
  have Hx := Lib.hid hx
  obtain ⟨E, hEn, hEk, hE, hc⟩ := prs_ents ha hx
  have HEn := Lib.hid hEn
  have HEk := Lib.hid hEk
  have HE := Lib.hid hE
  clear hx hEn hEk hE
  go_enter Try.func19, Try.ntmps19
  go_wp2
  go_loopw [3, 4] (fun v i wr => ∃ k : Nat, k ≤ n ∧ i = .int .i64 (k : Int) ∧ wr.ownsRow w.heap.size 47 2 v k (pcells (fun k => (Poly.lvl a k).len) (E.take k)) ∧ Below w.heap.size w wr) (fun _ i _ => n - (intOf i).toNat)
  case atStart => exact ⟨0, by omega, rfl, World.ownsRow_nil _ _ _ _, Below.refl _ _⟩
  case round =>
    obtain ⟨k, hk, rfl, hown, hbel⟩ := hrel
    by_cases hlt : k < n
    · obtain ⟨b, o, rfl, hb, hcc⟩ := hc (by omega)
      have hkE : k < E.length := by rw [HEn.out]; exact hlt
      obtain ⟨e1, e2⟩ := hcc k hkE
      have hlv := (HE.out _ (List.getElem_mem hkE)).1
      have hin : (E[k]).2 ∈ Poly.lvls a := by rw [← HEk.out]; exact List.mem_map.2 ⟨_, List.getElem_mem hkE, rfl⟩
      have hl1 := (Poly.mem_lvls ha).1 hin
      have hl2 := Poly.lvl_lt ha hl1.1 hl1.2
      have hl3 := Poly.lvl_len ha hl1.1
      have htk := Lib.hid (Poly.take_succ_get hkE)
      clear hcc hin hl1
      generalize E[k] = x at *
      obtain ⟨⟨Ak, ck⟩, kk⟩ := x
      simp only at e1 e2 hlv hl2 hl3
      rw [Nat.mul_comm 2 k] at e1 e2
      rw [← Nat.add_assoc] at e2
      have hcx := (hbel.cell (p := ⟨b, o + k * 2, none⟩) hb).trans e1
      have hcy := (hbel.cell (p := ⟨b, o + k * 2 + 1, none⟩) hb).trans e2
      have hsz := hbel.size
      have hlt' : (k : Int) < (n : Int) := by omega
      go_wp2
      go_region_held3 (fun w' => w'.cell? ⟨b, o + k * 2, none⟩ = some (.slice Ak (Poly.lvl a kk).len ck) ∧ w'.cell? ⟨b, o + k * 2 + 1, none⟩ = some (.int .i64 (kk : Int)))
        (first | go_keep | (have hb3 := below_app hbel hown hgrow hsz; exact ⟨(hb3.cell (p := ⟨b, o + k * 2, none⟩) hb).trans e1, (hb3.cell (p := ⟨b, o + k * 2 + 1, none⟩) hb).trans e2⟩))
        (first
          | (refine step_append_lies _ (by rfl) _ _ _ (by rfl) w.heap.size 47 i0 _ 2 32 Try.underlying36 hi hz0 hz1 hz2 rfl (by omega) u3 k (pcells (fun k => (Poly.lvl a k).len) (E.take k)) (by rfl) ((hown.alloc _).drew) ⟨wr.heap.size, 0, none⟩ 1 1 [.slice Ak (Poly.lvl a kk).len ck, .int .i64 (kk : Int)] (by rfl) (by rfl) (World.news_of_block (cs := #[.slice Ak (Poly.lvl a kk).len ck, .int .i64 (kk : Int)]) (t := 47) (fr := (0, 0)) (heap_alloc_new wr _)) (by simp [Value.oneCell']) (by omega) (by unfold maxLen; omega) (by omega) (by simp; omega) (wr.heap.size + 1) (by simp) ?_; intro gg cap w3 hown3 hgrow hat hlt3))
      have hb3 := below_app hbel hown hgrow hsz
      have he : pcells (fun k => (Poly.lvl a k).len) (E.take k) ++ [.slice Ak (Poly.lvl a kk).len ck, .int .i64 (kk : Int)] = pcells (fun k => (Poly.lvl a k).len) (E.take (k + 1)) := by rw [htk.out, pcells_snoc]; rfl
      rw [he] at hown3
      clear hgrow hat hown he
      go_wp2
      go_roundw
      case rel => exact ⟨k + 1, by omega, by go_num, hown3, hb3⟩
      case measure => simp [intOf]; omega
    · obtain rfl : k = n := by omega
      rw [List.take_of_length_le (by rw [HEn.out]; omega)] at hown
      have hents : Ents wr a u3 E := fun x hx => by
        obtain ⟨h1, h2⟩ := HE.out x hx
        refine ⟨h1, h2.bel hbel, fun y hy e => ?_⟩
        have h3 := h2.blk_lt h1 y hy
        have h4 := (hown.lt _ e).1
        omega
      have hown' := hown
      rw [← HEn.out] at hown'
      obtain ⟨A9, c9, e9, hprs⟩ := hents.prs hown' HEk.out
      have E9 := Lib.hid e9
      have Hprs := Lib.hid hprs
      have Hkl : Hid ((Poly.partsL a).length = k) := Hx.out.len
      clear hown hown' hents e9 hprs
      rw [Hkl.out] at Hprs
      rw [E9.out, Hkl.out]
      go_wp2
      go_ret
      exact ⟨A9, c9, rfl, Hprs.out, hbel⟩
end
end Go.Proofs.Ytbcapmnklgdeoaa
