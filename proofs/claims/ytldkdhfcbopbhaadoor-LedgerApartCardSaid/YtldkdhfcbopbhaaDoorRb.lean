/- For all arguments: aviarylaw21.LedgerApart answers true and leaves its arguments as they were; the listed variables tied to the program's text. Conditions: the row's own cells. -/
import Derived.Test.YtldkdhfcbopbhaaDoorMq
import Derived.Test.YtldkdhfcbopbhaaDoorE
import Derived.Test.YtldkdhfcbopbhaaDoorTie
import Derived.Test.YtldkdhfcbopbhaaDoorCards
import Derived.Test.YtldkdhfcbopbhaaDoorPewZ
import Derived.RowKit
import Derived.SizedLaws
namespace Go.Proofs.YtldkdhfcbopbhaaDoor
open Go Go.Pev Go.ChangeShapes Go.WideShapes Go.RowKit
set_option maxRecDepth 100000 in
theorem ledgerApart_lifted (os : Os) (started : os.Started) (H : Type) (enc : TypeId × Value → H) :
    ReturnsInHanded {} Tryd.checked os 4 .any (fun w args => (Rows.ledgerApartSpec.pre enc Tryd.prog Tryd.f4 [] false w args ∧ laidMetH Tryd.prog laid6 w) ∧ sizedMet enc Tryd.prog Tryd.f4 (OpenSpec.ofChange Rows.ledgerApartSpec) false w args)
      (Rows.ledgerApartSpec.post enc Tryd.prog Tryd.f4 false true false false) := by
  refine returnsInHanded_and_shaped (C := Tryd.checked) (X := fun w _ => laidMetH Tryd.prog laid6 w) (fun _ _ _ hh h => h.of_heap hh) own started (by kernel_rfl) Tryd.func4
    (ChangeSpec.witness_at (enc := enc) (C := Tryd.checked) (os := os) (X := fun w _ => laidMetH Tryd.prog laid6 w) false (laidWorld os) #[.slice none 0 0, .int .i64 0, .int .i64 0, .int .i64 0] 8 rfl (by kernel_rfl) (by kernel_rfl) (by kernel_rfl) (by kernel_rfl) (by kernel_rfl) (laid6_met os _)) ?_
  intro W base args ds gs before hval0 hW _ hZ hL hSh _
  have hval : ∀ (j : Nat) t v, Tryd.f4.params[j]? = some t → args[j]? = some v → Value.okWide Tryd.prog W .any base t v := hval0
  have hW' := hW
  obtain ⟨p, q, hA0, hV0, rfl, hfz, hnd⟩ := hW
  have hA : DataW.TrodAll enc Tryd.prog W 0 (fun _ => true) true Tryd.f4.params.toList args.toList ds p := hA0
  have hV : DataW.TrodVars enc Tryd.prog W (fun _ => true) [] gs q := hV0
  rw [Tryd.params4] at hA hval
  obtain ⟨v0, v1, v2, v3, d0, d1, d2, d3, p0, p1, p2, p3, rfl, rfl, rfl, h0, h1, h2, h3⟩ := trodAll_four hA
  obtain ⟨x0, g0, w0⟩ := open_sh (C := cfg) (s := (.sl shOp)) (by kernel_rfl) (by kernel_rfl) (hval 0 49 v0 rfl rfl) h0
  obtain ⟨x1, g1, w1⟩ := open_sh (C := cfg) (s := (.int .i64)) (by kernel_rfl) (by kernel_rfl) (hval 1 3 v1 rfl rfl) h1
  obtain ⟨x2, g2, w2⟩ := open_sh (C := cfg) (s := (.int .i64)) (by kernel_rfl) (by kernel_rfl) (hval 2 3 v2 rfl rfl) h2
  obtain ⟨x3, g3, w3⟩ := open_sh (C := cfg) (s := (.int .i64)) (by kernel_rfl) (by kernel_rfl) (hval 3 3 v3 rfl rfl) h3
  obtain ⟨rfl, rfl⟩ : gs = [] ∧ q = [] := by
    cases gs with
    | nil => exact ⟨rfl, hV⟩
    | cons g r => exact absurd hV (by intro h; cases h)
  have e1 : Rows.ledgerApartSpec.fn H ([d0, d1, d2, d3] ++ []) = { results := [.lit (.bool true)], args := [d0, d1, d2, d3] } := by simp [Rows.ledgerApartSpec]
  obtain ⟨H1, ht⟩ : ∃ H1, law21_LedgerApart x0 x1 x2 x3 [] [] = some (true, H1) := apart_law x0 w0 x1 x2 x3
  have hgen : (law21_LedgerApart_sp.f (encAP [.d (.sl shOp), .d (.int .i64), .d (.int .i64), .d (.int .i64), .hin] (x0, x1, x2, x3, [], [], ()))).get = some (encRet [.d .bool, .reg] (true, H1)) := by
    have hd : decAP [.d (.sl shOp), .d (.int .i64), .d (.int .i64), .d (.int .i64), .hin] (encAP [.d (.sl shOp), .d (.int .i64), .d (.int .i64), .d (.int .i64), .hin] (x0, x1, x2, x3, [], [], ())) = some (x0, x1, x2, x3, [], [], ()) := by kernel_rfl
    unfold law21_LedgerApart_sp genSpecR
    simp only [hd]
    simp only [ht]
    rfl
  refine (Contract.top (args := [encA (.sl shOp) x0, encA (.int .i64) x1, encA (.int .i64) x2, encA (.int .i64) x3]) (law21_LedgerApart_ok.2 _ _ hgen) (by kernel_rfl) (glob6_of_laid hL hSh) (.cons ((SR_glob (C := cfg) (g := globG) _ _).mpr g0) (.cons ((SR_glob (C := cfg) (g := globG) _ _).mpr g1) (.cons ((SR_glob (C := cfg) (g := globG) _ _).mpr g2) (.cons ((SR_glob (C := cfg) (g := globG) _ _).mpr g3) .nil))))).mono fun e W' hh => ?_
  · obtain ⟨rfl, hk⟩ := hh
    refine ⟨_, rfl, _, _, _, [], p0 ++ p1 ++ p2 ++ p3, [], hW', ?_, ?_, ?_, keptBut_keep hk _, fun h => by cases h⟩
    · rw [e1]; exact trodAll_mk1 (shut_bool Tryd.underlying4 true)
    · rw [e1]; exact trodAll_after laidOut hk (fun t ht => by simp at ht; rcases ht with rfl | rfl | rfl | rfl <;> exact ⟨by kernel_rfl, of_decide_eq_true (by kernel_rfl)⟩) hA
    · rw [e1]; rfl

theorem ledgerApart_holds : Rows.LedgerApartSaid :=
  OpenClaim.holds_of_wide 4 Tryd.f4 rfl rfl rfl rfl rfl rfl rfl ⟨rfl, rfl, rfl, rfl, rfl⟩ rfl rfl rfl rfl rfl (by kernel_rfl) Tryd.func4 (by kernel_rfl)
    (of_decide_eq_true (by kernel_rfl)) (by unfold Func.isWrapper; rw [if_neg (of_decide_eq_false (by kernel_rfl))]; exact ⟨rfl, rfl⟩)
    (fun os started H enc _ => ledgerApart_lifted os started H enc)

/-- The tied card. -/
theorem ledgerApart_card : Rows.LedgerApartCardSaid :=
  Claim7.holds_tied_plain_at .later [] [.handle] true (true, "57de75facbb96c941c8459ed6c0792289456d1cc024c7321c58727fc4ec96230") true
    ledgerApart_holds (fun _ h => by cases h) (by kernel_rfl) (fun _ h => by cases h) ledgerApart_row_tie rfl ⟨rfl, rfl⟩ (by kernel_rfl) rfl
    (fun f fn hf hfn => by
      obtain rfl : f = 4 := Option.some.inj ((show Tryd.prog.funcNamed "aviary/aviarylaw21.LedgerApart" = some 4 by kernel_rfl).symm.trans hf) |>.symm
      obtain rfl : fn = Tryd.f4 := (Option.some.inj (Tryd.func4.symm.trans hfn)).symm
      exact ⟨by kernel_rfl, fun j t ht => by
        rw [Tryd.params4] at ht
        have h3 : t = 3 ∨ t = 49 := by
          rcases j with _ | _ | _ | _ | j
          · have e := ht.symm; simp at e; simp [e]
          · have e := ht.symm; simp at e; simp [e]
          · have e := ht.symm; simp at e; simp [e]
          · have e := ht.symm; simp at e; simp [e]
          · simp at ht
        rcases h3 with rfl | rfl
        · exact (show Tryd.prog.wantsStandIn 3 = false by kernel_rfl)
        · exact (show Tryd.prog.wantsStandIn 49 = false by kernel_rfl)⟩)
    (by kernel_rfl)
#print axioms ledgerApart_card
end Go.Proofs.YtldkdhfcbopbhaaDoor
