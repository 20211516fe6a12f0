/- For all arguments: aviarylaw03.EventBack answers true and leaves its arguments as they were; the listed variables tied to the program's text. Conditions: the row's own cells. -/
import Derived.Test.YtkkgimhjjhhkjaaGreatDoorMn
import Derived.Test.YtkkgimhjjhhkjaaGreatDoorE
import Derived.Test.YtkkgimhjjhhkjaaGreatDoorTie
import Derived.Test.YtkkgimhjjhhkjaaGreatDoorCards
import Derived.Test.YtkkgimhjjhhkjaaGreatDoorPevX
import Derived.RowKit
import Derived.SizedLaws
namespace Go.Proofs.YtkkgimhjjhhkjaaGreatDoor
open Go Go.Pev Go.ChangeShapes Go.WideShapes Go.RowKit
set_option maxRecDepth 100000 in
theorem eventBack_lifted (os : Os) (started : os.Started) (H : Type) (enc : TypeId × Value → H) :
    ReturnsInHanded {} Tryz.checked os 5 .any (fun w args => (Rows.eventBackSpec.pre enc Tryz.prog Tryz.f5 [] false w args ∧ laidMetH Tryz.prog laid6 w) ∧ sizedMet enc Tryz.prog Tryz.f5 (OpenSpec.ofChange Rows.eventBackSpec) false w args)
      (Rows.eventBackSpec.post enc Tryz.prog Tryz.f5 false true false false) := by
  refine returnsInHanded_and_shaped (C := Tryz.checked) (X := fun w _ => laidMetH Tryz.prog laid6 w) (fun _ _ _ hh h => h.of_heap hh) own started (by kernel_rfl) Tryz.func5
    (ChangeSpec.witness_at (enc := enc) (C := Tryz.checked) (os := os) (X := fun w _ => laidMetH Tryz.prog laid6 w) false (laidWorld os) #[.slice none 0 0, .string ByteArray.empty] 8 rfl (by kernel_rfl) (by kernel_rfl) (by kernel_rfl) (by kernel_rfl) (by kernel_rfl) (laid6_met os _)) ?_
  intro W base args ds gs before hval0 hW _ hZ hL hSh _
  have hval : ∀ (j : Nat) t v, Tryz.f5.params[j]? = some t → args[j]? = some v → Value.okWide Tryz.prog W .any base t v := hval0
  have hW' := hW
  obtain ⟨p, q, hA0, hV0, rfl, hfz, hnd⟩ := hW
  have hA : DataW.TrodAll enc Tryz.prog W 0 (fun _ => true) true Tryz.f5.params.toList args.toList ds p := hA0
  have hV : DataW.TrodVars enc Tryz.prog W (fun _ => true) [] gs q := hV0
  rw [Tryz.params5] at hA hval
  obtain ⟨v0, v1, d0, d1, p0, p1, rfl, rfl, rfl, h0, h1⟩ := trodAll_two hA
  obtain ⟨x0, g0, w0⟩ := open_sh (C := cfg) (s := shEvent) (by kernel_rfl) (by kernel_rfl) (hval 0 23 v0 rfl rfl) h0
  obtain ⟨x1, g1, w1⟩ := open_sh (C := cfg) (s := .str) (by kernel_rfl) (by kernel_rfl) (hval 1 9 v1 rfl rfl) h1
  obtain ⟨rfl, rfl⟩ : gs = [] ∧ q = [] := by
    cases gs with
    | nil => exact ⟨rfl, hV⟩
    | cons g r => exact absurd hV (by intro h; cases h)
  have e1 : Rows.eventBackSpec.fn H ([d0, d1] ++ []) = { results := [.lit (.bool true)], args := [d0, d1] } := by simp [Rows.eventBackSpec]
  have hgen : (law03_EventBack_sp.f (encArgs [shEvent, .str] (x0, x1))).get = some (.bool true) := by
    have hd : decArgs [shEvent, .str] (encArgs [shEvent, .str] (x0, x1)) = some (x0, x1) := by kernel_rfl
    unfold law03_EventBack_sp genSpec
    simp only [hd]
    have ht : law03_EventBack x0 x1 = some true := eventBack_true x0 w0 x1
    simp only [ht]
    rfl
  refine (law03_EventBack_ok.2 _ _ hgen (fun _ => False) W [v0, v1] (fun _ h => h.elim) (glob6_of_laid hL hSh) (.cons ((SR_glob (C := cfg) (g := globG) _ _).mpr g0) (.cons ((SR_glob (C := cfg) (g := globG) _ _).mpr g1) .nil))).mono fun e W' hh => ?_
  · obtain ⟨v, rfl, hv, hk⟩ := hh
    simp only [VR, SR, LR] at hv
    subst hv
    refine ⟨_, rfl, _, _, _, [], p0 ++ p1, [], hW', ?_, ?_, ?_, keptBut_keep hk _, fun h => by cases h⟩
    · rw [e1]; exact trodAll_mk1 (shut_bool Tryz.underlying4 true)
    · rw [e1]; exact trodAll_after laidOut hk (fun t ht => by simp at ht; rcases ht with rfl | rfl <;> exact ⟨by kernel_rfl, of_decide_eq_true (by kernel_rfl)⟩) hA
    · rw [e1]; rfl

theorem eventBack_holds : Rows.EventBackSaid :=
  OpenClaim.holds_of_wide 5 Tryz.f5 rfl rfl rfl rfl rfl rfl rfl ⟨rfl, rfl, rfl, rfl, rfl⟩ rfl rfl rfl rfl rfl (by kernel_rfl) Tryz.func5 (by kernel_rfl)
    (of_decide_eq_true (by kernel_rfl)) (by unfold Func.isWrapper; rw [if_neg (of_decide_eq_false (by kernel_rfl))]; exact ⟨rfl, rfl⟩)
    (fun os started H enc _ => eventBack_lifted os started H enc)

/-- The tied card. -/
theorem eventBack_card : Rows.EventBackCardSaid :=
  Claim7.holds_tied_plain_at .later [] [.data, .data, .data, .handle, .sentinel, .sentinel] true (true, "0150942e4d6a33cbf8c26b8c7e2b95a27ce24187e737de4bb64ba314a9293772") true
    eventBack_holds (fun _ h => by cases h) (by kernel_rfl) (fun _ h => by cases h) eventBack_row_tie rfl ⟨rfl, rfl⟩ (by kernel_rfl) rfl
    (fun f fn hf hfn => by
      obtain rfl : f = 5 := Option.some.inj ((show Tryz.prog.funcNamed "aviary/aviarylaw03.EventBack" = some 5 by kernel_rfl).symm.trans hf) |>.symm
      obtain rfl : fn = Tryz.f5 := (Option.some.inj (Tryz.func5.symm.trans hfn)).symm
      exact ⟨by kernel_rfl, fun j t ht => by
        rw [Tryz.params5] at ht
        have h3 : t = 9 ∨ t = 23 := by
          rcases j with _ | _ | j
          · have e := ht.symm; simp at e; simp [e]
          · have e := ht.symm; simp at e; simp [e]
          · simp at ht
        rcases h3 with rfl | rfl
        · exact (show Tryz.prog.wantsStandIn 9 = false by kernel_rfl)
        · exact (show Tryz.prog.wantsStandIn 23 = false by kernel_rfl)⟩)
    (by kernel_rfl)
#print axioms eventBack_card
end Go.Proofs.YtkkgimhjjhhkjaaGreatDoor
