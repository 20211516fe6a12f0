/- For all arguments: aviarylaw08.IndexAlike answers true and leaves its arguments as they were; the listed variables tied to the program's text. Conditions: the row's own cells. -/
import Derived.Test.YtdiomgmckidccaaGreatDoorKm
import Derived.Test.YtdiomgmckidccaaGreatDoorE
import Derived.Test.YtdiomgmckidccaaGreatDoorTie
import Derived.Test.YtdiomgmckidccaaGreatDoorCards
import Derived.Test.YtdiomgmckidccaaGreatDoorPewZa
import Derived.RowKit
import Derived.SizedLaws
namespace Go.Proofs.YtdiomgmckidccaaGreatDoor
open Go Go.Pev Go.ChangeShapes Go.WideShapes Go.RowKit
set_option maxRecDepth 100000 in
theorem indexAlike_lifted (os : Os) (started : os.Started) (H : Type) (enc : TypeId × Value → H) :
    ReturnsInHanded {} Tryz.checked os 5 .any (fun w args => (Rows.indexAlikeSpec.pre enc Tryz.prog Tryz.f5 [] false w args ∧ laidMetH Tryz.prog laid6 w) ∧ sizedMet enc Tryz.prog Tryz.f5 (OpenSpec.ofChange Rows.indexAlikeSpec) false w args)
      (Rows.indexAlikeSpec.post enc Tryz.prog Tryz.f5 false true false false) := by
  refine returnsInHanded_and_shaped (C := Tryz.checked) (X := fun w _ => laidMetH Tryz.prog laid6 w) (fun _ _ _ hh h => h.of_heap hh) own started (by kernel_rfl) Tryz.func5
    (ChangeSpec.witness_at (enc := enc) (C := Tryz.checked) (os := os) (X := fun w _ => laidMetH Tryz.prog laid6 w) false (laidWorld os) #[.slice none 0 0, .slice none 0 0] 8 rfl (by kernel_rfl) (by kernel_rfl) (by kernel_rfl) (by kernel_rfl) (by kernel_rfl) (laid6_met os _)) ?_
  intro W base args ds gs before hval0 hW _ hZ hL hSh _
  have hval : ∀ (j : Nat) t v, Tryz.f5.params[j]? = some t → args[j]? = some v → Value.okWide Tryz.prog W .any base t v := hval0
  have hW' := hW
  obtain ⟨p, q, hA0, hV0, rfl, hfz, hnd⟩ := hW
  have hA : DataW.TrodAll enc Tryz.prog W 0 (fun _ => true) true Tryz.f5.params.toList args.toList ds p := hA0
  have hV : DataW.TrodVars enc Tryz.prog W (fun _ => true) [] gs q := hV0
  rw [Tryz.params5] at hA hval
  obtain ⟨v0, v1, d0, d1, p0, p1, rfl, rfl, rfl, h0, h1⟩ := trodAll_two hA
  obtain ⟨x0, g0, w0, zz0⟩ := open_shZ (C := cfg) (s := (.sl shOp8)) (by kernel_rfl) (by kernel_rfl) (hval 0 22 v0 rfl rfl) h0
  have z0 := zz0 fun n hn => of_decide_eq_true (List.all_eq_true.1 hZ n (DataW.weights_mem_each (j := 0) (t := 22) (d := d0) (by kernel_rfl) rfl n hn))
  obtain ⟨x1, g1, w1⟩ := open_sh (C := cfg) (s := shEvent) (by kernel_rfl) (by kernel_rfl) (hval 1 34 v1 rfl rfl) h1
  obtain ⟨rfl, rfl⟩ : gs = [] ∧ q = [] := by
    cases gs with
    | nil => exact ⟨rfl, hV⟩
    | cons g r => exact absurd hV (by intro h; cases h)
  have e1 : Rows.indexAlikeSpec.fn H ([d0, d1] ++ []) = { results := [.lit (.bool true)], args := [d0, d1] } := by simp [Rows.indexAlikeSpec]
  obtain ⟨H1, ht⟩ : ∃ H1, alikeR x0 x1 [] [] = some (true, H1) := indexAlike_law x0 z0 x1
  have hgen : (alikeR_sp.f (encAP [.d (.sl shOp8), .d shEvent, .hin] (x0, x1, [], [], ()))).get = some (encRet [.d .bool, .reg] (true, H1)) := by
    have hd : decAP [.d (.sl shOp8), .d shEvent, .hin] (encAP [.d (.sl shOp8), .d shEvent, .hin] (x0, x1, [], [], ())) = some (x0, x1, [], [], ()) := by kernel_rfl
    unfold alikeR_sp genSpecR
    simp only [hd]
    simp only [ht]
    rfl
  refine (Contract.top (args := [encA (.sl shOp8) x0, encA shEvent x1]) (alikeR_ok.2 _ _ hgen) (by kernel_rfl) (glob6_of_laid hL hSh) (.cons ((SR_glob (C := cfg) (g := globG) _ _).mpr g0) (.cons ((SR_glob (C := cfg) (g := globG) _ _).mpr g1) .nil))).mono fun e W' hh => ?_
  · obtain ⟨rfl, hk⟩ := hh
    refine ⟨_, rfl, _, _, _, [], p0 ++ p1, [], hW', ?_, ?_, ?_, keptBut_keep hk _, fun h => by cases h⟩
    · rw [e1]; exact trodAll_mk1 (shut_bool Tryz.underlying4 true)
    · rw [e1]; exact trodAll_after laidOut hk (fun t ht => by simp at ht; rcases ht with rfl | rfl <;> exact ⟨by kernel_rfl, of_decide_eq_true (by kernel_rfl)⟩) hA
    · rw [e1]; rfl

theorem indexAlike_holds : Rows.IndexAlikeSaid :=
  OpenClaim.holds_of_wide 5 Tryz.f5 rfl rfl rfl rfl rfl rfl rfl ⟨rfl, rfl, rfl, rfl, rfl⟩ rfl rfl rfl rfl rfl (by kernel_rfl) Tryz.func5 (by kernel_rfl)
    (of_decide_eq_true (by kernel_rfl)) (by unfold Func.isWrapper; rw [if_neg (of_decide_eq_false (by kernel_rfl))]; exact ⟨rfl, rfl⟩)
    (fun os started H enc _ => indexAlike_lifted os started H enc)

/-- The tied card. -/
theorem indexAlike_card : Rows.IndexAlikeCardSaid :=
  Claim7.holds_tied_plain_at .later [] [.handle] true (true, "f0c8a45ab1b13b998c283719d3c71a0d80acab74eb0e6d6a69f3db1b40014e56") true
    indexAlike_holds (fun _ h => by cases h) (by kernel_rfl) (fun _ h => by cases h) indexAlike_row_tie rfl ⟨rfl, rfl⟩ (by kernel_rfl) rfl
    (fun f fn hf hfn => by
      obtain rfl : f = 5 := Option.some.inj ((show Tryz.prog.funcNamed "aviary/aviarylaw08.IndexAlike" = some 5 by kernel_rfl).symm.trans hf) |>.symm
      obtain rfl : fn = Tryz.f5 := (Option.some.inj (Tryz.func5.symm.trans hfn)).symm
      exact ⟨by kernel_rfl, fun j t ht => by
        rw [Tryz.params5] at ht
        have h3 : t = 22 ∨ t = 34 := by
          rcases j with _ | _ | j
          · have e := ht.symm; simp at e; simp [e]
          · have e := ht.symm; simp at e; simp [e]
          · simp at ht
        rcases h3 with rfl | rfl
        · exact (show Tryz.prog.wantsStandIn 22 = false by kernel_rfl)
        · exact (show Tryz.prog.wantsStandIn 34 = false by kernel_rfl)⟩)
    (by kernel_rfl)
#print axioms indexAlike_card
end Go.Proofs.YtdiomgmckidccaaGreatDoor
