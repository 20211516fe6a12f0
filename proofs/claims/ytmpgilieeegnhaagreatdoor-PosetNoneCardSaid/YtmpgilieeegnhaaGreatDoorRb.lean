/- For all arguments: aviarylaw07.PosetNone answers true and leaves its arguments as they were; the listed variables tied to the program's text. Conditions: the row's own cells. -/
import Derived.Test.YtmpgilieeegnhaaGreatDoorKi
import Derived.Test.YtmpgilieeegnhaaGreatDoorE
import Derived.Test.YtmpgilieeegnhaaGreatDoorTie
import Derived.Test.YtmpgilieeegnhaaGreatDoorCards
import Derived.Test.YtmpgilieeegnhaaGreatDoorPewZa
import Derived.RowKit
import Derived.SizedLaws
namespace Go.Proofs.YtmpgilieeegnhaaGreatDoor
open Go Go.Pev Go.ChangeShapes Go.WideShapes Go.RowKit
set_option maxRecDepth 100000 in
theorem posetNone_lifted (os : Os) (started : os.Started) (H : Type) (enc : TypeId × Value → H) :
    ReturnsInHanded {} Tryz.checked os 6 .any (fun w args => (Rows.posetNoneSpec.pre enc Tryz.prog Tryz.f6 [] false w args ∧ laidMetH Tryz.prog laid6 w) ∧ sizedMet enc Tryz.prog Tryz.f6 (OpenSpec.ofChange Rows.posetNoneSpec) false w args)
      (Rows.posetNoneSpec.post enc Tryz.prog Tryz.f6 false true false false) := by
  refine returnsInHanded_and_shaped (C := Tryz.checked) (X := fun w _ => laidMetH Tryz.prog laid6 w) (fun _ _ _ hh h => h.of_heap hh) own started (by kernel_rfl) Tryz.func6
    (ChangeSpec.witness_at (enc := enc) (C := Tryz.checked) (os := os) (X := fun w _ => laidMetH Tryz.prog laid6 w) false (laidWorld os) #[.int .i64 0, .agg #[.bool false, .slice none 0 0]] 8 rfl (by kernel_rfl) (by kernel_rfl) (by kernel_rfl) (by kernel_rfl) (by kernel_rfl) (laid6_met os _)) ?_
  intro W base args ds gs before hval0 hW _ hZ hL hSh _
  have hval : ∀ (j : Nat) t v, Tryz.f6.params[j]? = some t → args[j]? = some v → Value.okWide Tryz.prog W .any base t v := hval0
  have hW' := hW
  obtain ⟨p, q, hA0, hV0, rfl, hfz, hnd⟩ := hW
  have hA : DataW.TrodAll enc Tryz.prog W 0 (fun _ => true) true Tryz.f6.params.toList args.toList ds p := hA0
  have hV : DataW.TrodVars enc Tryz.prog W (fun _ => true) [] gs q := hV0
  rw [Tryz.params6] at hA hval
  obtain ⟨v0, v1, d0, d1, p0, p1, rfl, rfl, rfl, h0, h1⟩ := trodAll_two hA
  obtain ⟨x0, g0, w0⟩ := open_sh (C := cfg) (s := (.int .i64)) (by kernel_rfl) (by kernel_rfl) (hval 0 3 v0 rfl rfl) h0
  obtain ⟨x1, g1, w1⟩ := open_sh (C := cfg) (s := shFil) (by kernel_rfl) (by kernel_rfl) (hval 1 31 v1 rfl rfl) h1
  obtain ⟨rfl, rfl⟩ : gs = [] ∧ q = [] := by
    cases gs with
    | nil => exact ⟨rfl, hV⟩
    | cons g r => exact absurd hV (by intro h; cases h)
  have e1 : Rows.posetNoneSpec.fn H ([d0, d1] ++ []) = { results := [.lit (.bool true)], args := [d0, d1] } := by simp [Rows.posetNoneSpec]
  obtain ⟨H1, ht⟩ : ∃ H1, law07_PosetNone x0 x1 [] [] = some (true, H1) := posetNone_law x0 x1
  have hgen : (law07_PosetNone_sp.f (encAP [.d (.int .i64), .d shFil, .hin] (x0, x1, [], [], ()))).get = some (encRet [.d .bool, .reg] (true, H1)) := by
    have hd : decAP [.d (.int .i64), .d shFil, .hin] (encAP [.d (.int .i64), .d shFil, .hin] (x0, x1, [], [], ())) = some (x0, x1, [], [], ()) := by kernel_rfl
    unfold law07_PosetNone_sp genSpecR
    simp only [hd]
    simp only [ht]
    rfl
  refine (Contract.top (args := [encA (.int .i64) x0, encA shFil x1]) (law07_PosetNone_ok.2 _ _ hgen) (by kernel_rfl) (glob6_of_laid hL hSh) (.cons ((SR_glob (C := cfg) (g := globG) _ _).mpr g0) (.cons ((SR_glob (C := cfg) (g := globG) _ _).mpr g1) .nil))).mono fun e W' hh => ?_
  · obtain ⟨rfl, hk⟩ := hh
    refine ⟨_, rfl, _, _, _, [], p0 ++ p1, [], hW', ?_, ?_, ?_, keptBut_keep hk _, fun h => by cases h⟩
    · rw [e1]; exact trodAll_mk1 (shut_bool Tryz.underlying4 true)
    · rw [e1]; exact trodAll_after laidOut hk (fun t ht => by simp at ht; rcases ht with rfl | rfl <;> exact ⟨by kernel_rfl, of_decide_eq_true (by kernel_rfl)⟩) hA
    · rw [e1]; rfl

theorem posetNone_holds : Rows.PosetNoneSaid :=
  OpenClaim.holds_of_wide 6 Tryz.f6 rfl rfl rfl rfl rfl rfl rfl ⟨rfl, rfl, rfl, rfl, rfl⟩ rfl rfl rfl rfl rfl (by kernel_rfl) Tryz.func6 (by kernel_rfl)
    (of_decide_eq_true (by kernel_rfl)) (by unfold Func.isWrapper; rw [if_neg (of_decide_eq_false (by kernel_rfl))]; exact ⟨rfl, rfl⟩)
    (fun os started H enc _ => posetNone_lifted os started H enc)

/-- The tied card. -/
theorem posetNone_card : Rows.PosetNoneCardSaid :=
  Claim7.holds_tied_plain_at .later [] [.handle] true (true, "6a66dce9585a010b0cd6f069746d3c8f26f57f88d4967e6dca18444480ad8dfe") true
    posetNone_holds (fun _ h => by cases h) (by kernel_rfl) (fun _ h => by cases h) posetNone_row_tie rfl ⟨rfl, rfl⟩ (by kernel_rfl) rfl
    (fun f fn hf hfn => by
      obtain rfl : f = 6 := Option.some.inj ((show Tryz.prog.funcNamed "aviary/aviarylaw07.PosetNone" = some 6 by kernel_rfl).symm.trans hf) |>.symm
      obtain rfl : fn = Tryz.f6 := (Option.some.inj (Tryz.func6.symm.trans hfn)).symm
      exact ⟨by kernel_rfl, fun j t ht => by
        rw [Tryz.params6] at ht
        have h3 : t = 3 ∨ t = 31 := by
          rcases j with _ | _ | j
          · have e := ht.symm; simp at e; simp [e]
          · have e := ht.symm; simp at e; simp [e]
          · simp at ht
        rcases h3 with rfl | rfl
        · exact (show Tryz.prog.wantsStandIn 3 = false by kernel_rfl)
        · exact (show Tryz.prog.wantsStandIn 31 = false by kernel_rfl)⟩)
    (by kernel_rfl)
#print axioms posetNone_card
end Go.Proofs.YtmpgilieeegnhaaGreatDoor
