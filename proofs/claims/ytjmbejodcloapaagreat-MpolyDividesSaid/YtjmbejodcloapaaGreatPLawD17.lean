/- What the program and the document tell of a division of small lists: the same. -/
import Derived.Test.YtjmbejodcloapaaGreatPRps
import Derived.Test.YtjmbejodcloapaaGreatPRdiq
set_option linter.unusedVariables false
set_option linter.unusedSimpArgs false
namespace Go.Proofs.YtjmbejodcloapaaGreat
open Go.RowKit Cl
attribute [local go_sem ↓] Go.wp_at_zero Go.wp_at_succ
theorem givesE_nil {w : World} {err : Int} {e : Ending} {w' : World} (h : e = .returned (.tuple #[.slice none 0 0, .int .i64 err]) ∧ Below w.heap.size w w') : GivesE w err (fun T => T = []) e w' := by
  obtain ⟨rfl, h⟩ := h
  exact ⟨none, 0, [], rfl, by simp, Trs.nil _ _, rfl, h⟩
theorem mdiv_yes (n E K : Nat) (hEE : E = 15624) (hKK : K = 32000) (A B : Option Addr) (ma ca mb cb : Nat) (L T : List TV) (w : World) (hx : Trs w A ma L) (hy : Trs w B mb T) (hn : n ≤ 6) (hL : In n 4 L) (hT : In n 4 T) (P' : Mv) (pl : Plc) (cl : Int) (hD : DivT n (wsD n) (vsD n) (2 ^ 131) (mvT T) P' pl cl) :
    Calls Tryz.prog 7 #[.int .i64 (n : Int), .slice A ma ca, .slice B mb cb] w (fun e w' => ∃ o, Dv n (mvT T) pl cl (mvT L) o ∧ GivesV w n o e w') := by
  have hml := hx.len
  have hmt := hy.len
  have hc8 := hT.cnt
  have hl8 := hL.cnt
  have h131 : 8 * 2 ^ 128 = 2 ^ 131 := by decide
  have aL := hL.ab
  have aT := hT.ab
  rw [h131] at aL aT
  clear h131
  obtain ⟨w1', w2', w3', w4', w5', w6', w7', w8'⟩ := weights hn
  refine (mdivG n 2 2 K (2 ^ 131 * (2 ^ 131) ^ E) (2 ^ 131) (4 * (vsD n).sum) 2100000000000 (wsD n) (vsD n) A B ma ca mb cb L T P' pl cl w hx hy hL.arg hT.arg hn (by omega) (by omega) hD (start_dom hEE hn hL.arg.lenM hL.bd aL) w2' w5' w8' (by omega) (by omega) (by omega) (cap_dom hEE hKK aT) (by omega) (by omega) (by omega) (by omega) fun Q q1 q2 q3 => quo_dom hn hD hT.bd hL.arg.lenM hL.bd w2' w5' q1 q2 q3).mono ?_
  rintro e w' ⟨o, d1, _, d3⟩
  exact ⟨o, d1, d3⟩
theorem pair_div (n : Int) (A B : Option Addr) (ma ca mb cb : Nat) (L T : List TV) (w : World) (hx : Trs w A ma L) (hy : Trs w B mb T) (hsL : SmallL 8 2 4 L) (hsT : SmallL 8 2 4 T) : ∃ (err : Int) (P : List TV → Prop), (∀ T T', P T → P T' → T = T') ∧
    (∀ W, Trs W A ma L → Trs W B mb T → Calls Tryz.prog 7 #[.int .i64 n, .slice A ma ca, .slice B mb cb] W (GivesE W err P)) ∧
    (∀ W, Trs W A ma L → Trs W B mb T → Calls Tryz.prog 8 #[.int .i64 n, .slice A ma ca, .slice B mb cb] W (GivesE W err P)) := by
  have nil2 : ∀ T T' : List TV, T = [] → T' = [] → T = T' := fun T T' h1 h2 => h1.trans h2.symm
  have hbad : (chkN n L = 1 ∨ chkN n T = 1) → ∃ (err : Int) (P : List TV → Prop), (∀ T T', P T → P T' → T = T') ∧
    (∀ W, Trs W A ma L → Trs W B mb T → Calls Tryz.prog 7 #[.int .i64 n, .slice A ma ca, .slice B mb cb] W (GivesE W err P)) ∧
    (∀ W, Trs W A ma L → Trs W B mb T → Calls Tryz.prog 8 #[.int .i64 n, .slice A ma ca, .slice B mb cb] W (GivesE W err P)) := fun h =>
    ⟨1, fun T => T = [], nil2, fun W hW hV => (mdiv_no n A B ma ca mb cb L T W hW hV h).mono fun _ _ h => givesE_no h, fun W hW hV => (r17div_no n A B ma ca mb cb L T W hW hV h).mono fun _ _ h => givesE_no h⟩
  rcases chk_cases n L with ⟨_, oL⟩ | h1
  · rcases chk_cases n T with ⟨_, oT⟩ | h2
    · obtain ⟨nn, rfl⟩ : ∃ nn : Nat, n = (nn : Int) := ⟨n.toNat, by have := oL.1; omega⟩
      have hn : nn ≤ 6 := by have := oL.2.1; omega
      have iL := in_of hx (by omega) hsL oL
      have iT := in_of hy (by omega) hsT oT
      have h131 : 8 * 2 ^ 128 = 2 ^ 131 := by decide
      rcases div_dom hn iT.arg.lenM iT.bd (by rw [← h131]; exact iT.ab) with h0 | ⟨P', pl, cl, hD⟩
      · exact ⟨3, fun T => T = [], nil2, fun W hW hV => (mdiv_zero nn 2 2 A B ma ca mb cb L T W hW hV iL.arg iT.arg hn (by omega) h0).mono fun _ _ h => givesE_nil h, fun W hW hV => (r17div_zero nn A B ma ca mb cb L T W hW hV oL oT iT h0).mono fun _ _ h => givesE_nil h⟩
      · have hpl : pl.length = nn := hD.pln.len (pl, cl) List.mem_cons_self
        have key : ∃ (err : Int) (P : List TV → Prop), (∀ T T', P T → P T' → T = T') ∧ ∀ W e w', (∃ o, Dv nn (mvT T) pl cl (mvT L) o ∧ GivesV W nn o e w') → GivesE W err P e w' := by
          by_cases hex : ∃ o, Dv nn (mvT T) pl cl (mvT L) o
          · obtain ⟨o, ho⟩ := hex
            have hun : ∀ o', Dv nn (mvT T) pl cl (mvT L) o' → o' = o := fun o' h => h.unique hpl (EqM.refl _ _) ho
            cases o with
            | none =>
              refine ⟨4, fun T => T = [], nil2, fun W e w' h => ?_⟩
              obtain ⟨o', d, g⟩ := h
              obtain rfl := hun o' d
              exact givesE_nil g
            | some Q =>
              by_cases hl : Q.length ≤ 4096
              · refine ⟨0, fun T => PlainT nn T ∧ EqM nn (mvT T) Q, fun T T' h1 h2 => h1.1.unique h2.1 (h1.2.trans h2.2.symm), fun W e w' h => ?_⟩
                obtain ⟨o', d, g⟩ := h
                obtain rfl := hun o' d
                exact givesE_P (g.1 hl) hl
              · refine ⟨6, fun T => T = [], nil2, fun W e w' h => ?_⟩
                obtain ⟨o', d, g⟩ := h
                obtain rfl := hun o' d
                exact givesE_nil (g.2 hl)
          · exact ⟨0, fun T => T = [], nil2, fun W e w' h => absurd ⟨h.choose, h.choose_spec.1⟩ hex⟩
        obtain ⟨err, P, hu, hk⟩ := key
        obtain ⟨E, hEE⟩ : ∃ E : Nat, E = 15624 := ⟨_, rfl⟩
        obtain ⟨K, hKK⟩ : ∃ K : Nat, K = 32000 := ⟨_, rfl⟩
        exact ⟨err, P, hu, fun W hW hV => (mdiv_yes nn E K hEE hKK A B ma ca mb cb L T W hW hV hn iL iT P' pl cl hD).mono fun _ _ h => hk _ _ _ h, fun W hW hV => (r17div_yes nn E K hEE hKK A B ma ca mb cb L T W hW hV oL oT iL iT P' pl cl hD).mono fun _ _ h => hk _ _ _ h⟩
    · exact hbad (.inr h2)
  · exact hbad (.inl h1)
end Go.Proofs.YtjmbejodcloapaaGreat
