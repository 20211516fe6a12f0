/- For all values and strings: aviarylaw02.ValueBack answers true and leaves its arguments as they were; the listed variables tied to the program's text. Conditions: the row's own cells. -/
import Derived.Test.YtciajnknnoecaaaDoorZn
import Derived.Test.YtciajnknnoecaaaDoorFo
namespace Go.Proofs.YtciajnknnoecaaaDoor
open Go Go.Pev Go.ChangeShapes Go.WideShapes Go.RowKit
set_option maxRecDepth 100000 in
theorem valueBack_lifted (os : Os) (started : os.Started) (H : Type) (enc : TypeId × Value → H) :
    ReturnsInHanded {} Tryd.checked os 3 .any (fun w args => (Rows.valueBackSpec.pre enc Tryd.prog Tryd.f3 [] false w args ∧ laidMetH Tryd.prog laid5 w) ∧ sizedMet enc Tryd.prog Tryd.f3 (OpenSpec.ofChange Rows.valueBackSpec) false w args)
      (Rows.valueBackSpec.post enc Tryd.prog Tryd.f3 false true false false) := by
  refine returnsInHanded_of_change_and (C := Tryd.checked) (X := fun w _ => laidMetH Tryd.prog laid5 w) (fun _ _ _ hh h => h.of_heap hh) own started (by kernel_rfl) Tryd.func3
    (ChangeSpec.witness_at (enc := enc) (C := Tryd.checked) (os := os) (X := fun w _ => laidMetH Tryd.prog laid5 w) false (laidWorld os) #[.agg #[.int .i64 0, .int .i64 0, .string ByteArray.empty, .bool false], .string ByteArray.empty] 8 rfl (by kernel_rfl) (by kernel_rfl) (by kernel_rfl) (by kernel_rfl) (by kernel_rfl) (laid5_met os _)) ?_
  intro W base args ds gs before hval0 hW _ hZ hL _
  have hval : ∀ (j : Nat) t v, Tryd.f3.params[j]? = some t → args[j]? = some v → Value.okWide Tryd.prog W .any base t v := hval0
  have hW' := hW
  obtain ⟨p, q, hA0, hV0, rfl, hfz, hnd⟩ := hW
  have hA : DataW.TrodAll enc Tryd.prog W 0 (fun _ => true) true Tryd.f3.params.toList args.toList ds p := hA0
  have hV : DataW.TrodVars enc Tryd.prog W (fun _ => true) [] gs q := hV0
  rw [Tryd.params3] at hA hval
  obtain ⟨v0, v1, d0, d1, p0, p1, rfl, rfl, rfl, h0, h1⟩ := trodAll_two hA
  obtain ⟨x0, g0, w0⟩ := open_val (hval 0 23 v0 rfl rfl) h0
  obtain ⟨x1, g1, hd1⟩ := open_strZ (hval 1 9 v1 rfl rfl) h1
  have w1 : x1.size ≤ reachBytes := by have := sized_string (j := 1) (t := 9) (bytes := x1.data.toList) hZ (by kernel_rfl) (by rw [hd1]; rfl); simpa using this
  obtain ⟨rfl, rfl⟩ : gs = [] ∧ q = [] := by
    cases gs with
    | nil => exact ⟨rfl, hV⟩
    | cons g r => exact absurd hV (by intro h; cases h)
  have e1 : Rows.valueBackSpec.fn H ([d0, d1] ++ []) = { results := [.lit (.bool true)], args := [d0, d1] } := by simp [Rows.valueBackSpec]
  refine (law3 x0 w0 x1 w1 (fun _ => False) W [v0, v1] (fun _ h => h.elim) (glob5_of_laid hL) (.cons ((SR_glob (C := cfg) (g := globT) _ _).mpr g0) (.cons ((SR_glob (C := cfg) (g := globT) _ _).mpr g1) .nil))).mono fun e W' hh => ?_
  · obtain ⟨v, rfl, hv, hk⟩ := hh
    simp only [VR, SR, LR] at hv
    subst hv
    refine ⟨_, rfl, _, _, _, [], p0 ++ p1, [], hW', ?_, ?_, ?_, keptBut_keep hk _, fun h => by cases h⟩
    · rw [e1]; exact trodAll_mk1 (shut_bool Tryd.underlying4 true)
    · rw [e1]; exact trodAll_after laidOut hk (fun t ht => by simp at ht; rcases ht with rfl | rfl <;> exact ⟨by kernel_rfl, of_decide_eq_true (by kernel_rfl)⟩) hA
    · rw [e1]; rfl

theorem valueBack_holds : Rows.ValueBackSaid :=
  OpenClaim.holds_of_wide 3 Tryd.f3 rfl rfl rfl rfl rfl rfl rfl ⟨rfl, rfl, rfl, rfl, rfl⟩ rfl rfl rfl rfl rfl (by kernel_rfl) Tryd.func3 (by kernel_rfl)
    (of_decide_eq_true (by kernel_rfl)) (by unfold Func.isWrapper; rw [if_neg (of_decide_eq_false (by kernel_rfl))]; exact ⟨rfl, rfl⟩)
    (fun os started H enc _ => valueBack_lifted os started H enc)

/-- The tied card. -/
theorem valueBack_card : Rows.ValueBackCardSaid :=
  Claim7.holds_tied_plain_at .later [] [.data, .data, .data, .sentinel, .sentinel] true (true, "037fae09c715b99551f6ffc39b6317c5ab1dc24c9da9650da149487dbb9d414c") true
    valueBack_holds (fun _ h => by cases h) (by kernel_rfl) (fun _ h => by cases h) valueBack_row_tie rfl ⟨rfl, rfl⟩ (by kernel_rfl) rfl
    (fun f fn hf hfn => by
      obtain rfl : f = 3 := Option.some.inj ((show Tryd.prog.funcNamed "aviary/aviarylaw02.ValueBack" = some 3 by kernel_rfl).symm.trans hf) |>.symm
      obtain rfl : fn = Tryd.f3 := (Option.some.inj (Tryd.func3.symm.trans hfn)).symm
      exact ⟨by kernel_rfl, fun j t ht => by
        rw [Tryd.params3] at ht
        have h3 : t = 9 ∨ t = 23 := by
          rcases j with _ | _ | j
          · have e := ht.symm; simp at e; simp [e]
          · have e := ht.symm; simp at e; simp [e]
          · simp at ht
        rcases h3 with rfl | rfl
        · exact (show Tryd.prog.wantsStandIn 9 = false by kernel_rfl)
        · exact (show Tryd.prog.wantsStandIn 23 = false by kernel_rfl)⟩)
    (by kernel_rfl)
#print axioms valueBack_card
end Go.Proofs.YtciajnknnoecaaaDoor
