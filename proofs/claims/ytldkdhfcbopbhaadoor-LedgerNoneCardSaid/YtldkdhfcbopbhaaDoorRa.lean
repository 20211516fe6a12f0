/- For all arguments: aviarylaw21.LedgerNone answers true and leaves its arguments as they were; the listed variables tied to the program's text. Conditions: the row's own cells. -/
import Derived.Test.YtldkdhfcbopbhaaDoorMa
import Derived.Test.YtldkdhfcbopbhaaDoorE
import Derived.Test.YtldkdhfcbopbhaaDoorTie
import Derived.Test.YtldkdhfcbopbhaaDoorCards
import Derived.Test.YtldkdhfcbopbhaaDoorPewY
import Derived.RowKit
import Derived.SizedLaws
namespace Go.Proofs.YtldkdhfcbopbhaaDoor
open Go Go.Pev Go.ChangeShapes Go.WideShapes Go.RowKit
set_option maxRecDepth 100000 in
theorem ledgerNone_lifted (os : Os) (started : os.Started) (H : Type) (enc : TypeId × Value → H) :
    ReturnsInHanded {} Tryd.checked os 3 .any (fun w args => (Rows.ledgerNoneSpec.pre enc Tryd.prog Tryd.f3 [] false w args ∧ laidMetH Tryd.prog laid6 w) ∧ sizedMet enc Tryd.prog Tryd.f3 (OpenSpec.ofChange Rows.ledgerNoneSpec) false w args)
      (Rows.ledgerNoneSpec.post enc Tryd.prog Tryd.f3 false true false false) := by
  refine returnsInHanded_and_shaped (C := Tryd.checked) (X := fun w _ => laidMetH Tryd.prog laid6 w) (fun _ _ _ hh h => h.of_heap hh) own started (by kernel_rfl) Tryd.func3
    (ChangeSpec.witness_at (enc := enc) (C := Tryd.checked) (os := os) (X := fun w _ => laidMetH Tryd.prog laid6 w) false (laidWorld os) #[.agg #[.int .i64 0, .int .i64 0, .int .i64 0, .int .i64 0, .int .i64 0, .slice none 0 0, .bool false, .slice none 0 0]] 8 rfl (by kernel_rfl) (by kernel_rfl) (by kernel_rfl) (by kernel_rfl) (by kernel_rfl) (laid6_met os _)) ?_
  intro W base args ds gs before hval0 hW _ hZ hL hSh _
  have hval : ∀ (j : Nat) t v, Tryd.f3.params[j]? = some t → args[j]? = some v → Value.okWide Tryd.prog W .any base t v := hval0
  have hW' := hW
  obtain ⟨p, q, hA0, hV0, rfl, hfz, hnd⟩ := hW
  have hA : DataW.TrodAll enc Tryd.prog W 0 (fun _ => true) true Tryd.f3.params.toList args.toList ds p := hA0
  have hV : DataW.TrodVars enc Tryd.prog W (fun _ => true) [] gs q := hV0
  rw [Tryd.params3] at hA hval
  obtain ⟨v0, d0, rfl, rfl, h0⟩ := trodAll_one hA
  obtain ⟨x0, g0, w0⟩ := open_sh (C := cfg) (s := shOp) (by kernel_rfl) (by kernel_rfl) (hval 0 28 v0 rfl rfl) h0
  obtain ⟨rfl, rfl⟩ : gs = [] ∧ q = [] := by
    cases gs with
    | nil => exact ⟨rfl, hV⟩
    | cons g r => exact absurd hV (by intro h; cases h)
  have e1 : Rows.ledgerNoneSpec.fn H ([d0] ++ []) = { results := [.lit (.bool true)], args := [d0] } := by simp [Rows.ledgerNoneSpec]
  obtain ⟨H1, ht⟩ : ∃ H1, law21_LedgerNone x0 [] [] = some (true, H1) := none_true x0
  have hgen : (law21_LedgerNone_sp.f (encAP [.d shOp, .hin] (x0, [], [], ()))).get = some (encRet [.d .bool, .reg] (true, H1)) := by
    have hd : decAP [.d shOp, .hin] (encAP [.d shOp, .hin] (x0, [], [], ())) = some (x0, [], [], ()) := by kernel_rfl
    unfold law21_LedgerNone_sp genSpecR
    simp only [hd]
    simp only [ht]
    rfl
  refine (Contract.top (args := [encA shOp x0]) (law21_LedgerNone_ok.2 _ _ hgen) (by kernel_rfl) (glob6_of_laid hL hSh) (.cons ((SR_glob (C := cfg) (g := globG) _ _).mpr g0) .nil)).mono fun e W' hh => ?_
  · obtain ⟨rfl, hk⟩ := hh
    refine ⟨_, rfl, _, _, _, [], p, [], hW', ?_, ?_, ?_, keptBut_keep hk _, fun h => by cases h⟩
    · rw [e1]; exact trodAll_mk1 (shut_bool Tryd.underlying4 true)
    · rw [e1]; exact trodAll_after laidOut hk (fun t ht => by simp at ht; subst ht; exact ⟨by kernel_rfl, of_decide_eq_true (by kernel_rfl)⟩) hA
    · rw [e1]; rfl

theorem ledgerNone_holds : Rows.LedgerNoneSaid :=
  OpenClaim.holds_of_wide 3 Tryd.f3 rfl rfl rfl rfl rfl rfl rfl ⟨rfl, rfl, rfl, rfl, rfl⟩ rfl rfl rfl rfl rfl (by kernel_rfl) Tryd.func3 (by kernel_rfl)
    (of_decide_eq_true (by kernel_rfl)) (by unfold Func.isWrapper; rw [if_neg (of_decide_eq_false (by kernel_rfl))]; exact ⟨rfl, rfl⟩)
    (fun os started H enc _ => ledgerNone_lifted os started H enc)

/-- The tied card. -/
theorem ledgerNone_card : Rows.LedgerNoneCardSaid :=
  Claim7.holds_tied_plain_at .later [] [.handle] true (true, "57de75facbb96c941c8459ed6c0792289456d1cc024c7321c58727fc4ec96230") true
    ledgerNone_holds (fun _ h => by cases h) (by kernel_rfl) (fun _ h => by cases h) ledgerNone_row_tie rfl ⟨rfl, rfl⟩ (by kernel_rfl) rfl
    (fun f fn hf hfn => by
      obtain rfl : f = 3 := Option.some.inj ((show Tryd.prog.funcNamed "aviary/aviarylaw21.LedgerNone" = some 3 by kernel_rfl).symm.trans hf) |>.symm
      obtain rfl : fn = Tryd.f3 := (Option.some.inj (Tryd.func3.symm.trans hfn)).symm
      exact ⟨by kernel_rfl, fun j t ht => by
        rw [Tryd.params3] at ht
        have h3 : t = 28 := by
          rcases j with _ | j
          · have e := ht.symm; simp at e; simp [e]
          · simp at ht
        rcases h3 with rfl
        · exact (show Tryd.prog.wantsStandIn 28 = false by kernel_rfl)⟩)
    (by kernel_rfl)
#print axioms ledgerNone_card
end Go.Proofs.YtldkdhfcbopbhaaDoor
