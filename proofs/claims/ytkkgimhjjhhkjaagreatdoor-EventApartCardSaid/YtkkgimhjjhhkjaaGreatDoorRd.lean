/- For all arguments: aviarylaw03.EventApart answers true and leaves its arguments as they were; the listed variables tied to the program's text. Conditions: the row's own cells. -/
import Derived.Test.YtkkgimhjjhhkjaaGreatDoorMk
import Derived.Test.YtkkgimhjjhhkjaaGreatDoorE
import Derived.Test.YtkkgimhjjhhkjaaGreatDoorTie
import Derived.Test.YtkkgimhjjhhkjaaGreatDoorCards
import Derived.Test.YtkkgimhjjhhkjaaGreatDoorPewZa
import Derived.RowKit
import Derived.SizedLaws
namespace Go.Proofs.YtkkgimhjjhhkjaaGreatDoor
open Go Go.Pev Go.ChangeShapes Go.WideShapes Go.RowKit
set_option maxRecDepth 100000 in
theorem eventApart_lifted (os : Os) (started : os.Started) (H : Type) (enc : TypeId × Value → H) :
    ReturnsInHanded {} Tryz.checked os 6 .any (fun w args => (Rows.eventApartSpec.pre enc Tryz.prog Tryz.f6 [] false w args ∧ laidMetH Tryz.prog laid6 w) ∧ sizedMet enc Tryz.prog Tryz.f6 (OpenSpec.ofChange Rows.eventApartSpec) false w args)
      (Rows.eventApartSpec.post enc Tryz.prog Tryz.f6 false true false false) := by
  refine returnsInHanded_and_shaped (C := Tryz.checked) (X := fun w _ => laidMetH Tryz.prog laid6 w) (fun _ _ _ hh h => h.of_heap hh) own started (by kernel_rfl) Tryz.func6
    (ChangeSpec.witness_at (enc := enc) (C := Tryz.checked) (os := os) (X := fun w _ => laidMetH Tryz.prog laid6 w) false (laidWorld os) #[.slice none 0 0, .slice none 0 0] 8 rfl (by kernel_rfl) (by kernel_rfl) (by kernel_rfl) (by kernel_rfl) (by kernel_rfl) (laid6_met os _)) ?_
  intro W base args ds gs before hval0 hW _ hZ hL hSh _
  have hval : ∀ (j : Nat) t v, Tryz.f6.params[j]? = some t → args[j]? = some v → Value.okWide Tryz.prog W .any base t v := hval0
  have hW' := hW
  obtain ⟨p, q, hA0, hV0, rfl, hfz, hnd⟩ := hW
  have hA : DataW.TrodAll enc Tryz.prog W 0 (fun _ => true) true Tryz.f6.params.toList args.toList ds p := hA0
  have hV : DataW.TrodVars enc Tryz.prog W (fun _ => true) [] gs q := hV0
  rw [Tryz.params6] at hA hval
  obtain ⟨v0, v1, d0, d1, p0, p1, rfl, rfl, rfl, h0, h1⟩ := trodAll_two hA
  obtain ⟨x0, g0, w0⟩ := open_sh (C := cfg) (s := shEvent) (by kernel_rfl) (by kernel_rfl) (hval 0 23 v0 rfl rfl) h0
  obtain ⟨x1, g1, w1⟩ := open_sh (C := cfg) (s := shEvent) (by kernel_rfl) (by kernel_rfl) (hval 1 23 v1 rfl rfl) h1
  obtain ⟨rfl, rfl⟩ : gs = [] ∧ q = [] := by
    cases gs with
    | nil => exact ⟨rfl, hV⟩
    | cons g r => exact absurd hV (by intro h; cases h)
  have e1 : Rows.eventApartSpec.fn H ([d0, d1] ++ []) = { results := [.lit (.bool true)], args := [d0, d1] } := by simp [Rows.eventApartSpec]
  obtain ⟨H1, ht⟩ : ∃ H1, law03_EventApart x0 x1 [] [] = some (true, H1) := eventApart_law x0 w0 x1 w1
  have hgen : (law03_EventApart_sp.f (encAP [.d shEvent, .d shEvent, .hin] (x0, x1, [], [], ()))).get = some (encRet [.d .bool, .reg] (true, H1)) := by
    have hd : decAP [.d shEvent, .d shEvent, .hin] (encAP [.d shEvent, .d shEvent, .hin] (x0, x1, [], [], ())) = some (x0, x1, [], [], ()) := by kernel_rfl
    unfold law03_EventApart_sp genSpecR
    simp only [hd]
    simp only [ht]
    rfl
  refine (Contract.top (args := [encA shEvent x0, encA shEvent x1]) (law03_EventApart_ok.2 _ _ hgen) (by kernel_rfl) (glob6_of_laid hL hSh) (.cons ((SR_glob (C := cfg) (g := globG) _ _).mpr g0) (.cons ((SR_glob (C := cfg) (g := globG) _ _).mpr g1) .nil))).mono fun e W' hh => ?_
  · obtain ⟨rfl, hk⟩ := hh
    refine ⟨_, rfl, _, _, _, [], p0 ++ p1, [], hW', ?_, ?_, ?_, keptBut_keep hk _, fun h => by cases h⟩
    · rw [e1]; exact trodAll_mk1 (shut_bool Tryz.underlying4 true)
    · rw [e1]; exact trodAll_after laidOut hk (fun t ht => by simp at ht; subst ht; exact ⟨by kernel_rfl, of_decide_eq_true (by kernel_rfl)⟩) hA
    · rw [e1]; rfl

theorem eventApart_holds : Rows.EventApartSaid :=
  OpenClaim.holds_of_wide 6 Tryz.f6 rfl rfl rfl rfl rfl rfl rfl ⟨rfl, rfl, rfl, rfl, rfl⟩ rfl rfl rfl rfl rfl (by kernel_rfl) Tryz.func6 (by kernel_rfl)
    (of_decide_eq_true (by kernel_rfl)) (by unfold Func.isWrapper; rw [if_neg (of_decide_eq_false (by kernel_rfl))]; exact ⟨rfl, rfl⟩)
    (fun os started H enc _ => eventApart_lifted os started H enc)

/-- The tied card. -/
theorem eventApart_card : Rows.EventApartCardSaid :=
  Claim7.holds_tied_plain_at .later [] [.data, .data, .data, .handle, .sentinel, .sentinel] true (true, "0150942e4d6a33cbf8c26b8c7e2b95a27ce24187e737de4bb64ba314a9293772") true
    eventApart_holds (fun _ h => by cases h) (by kernel_rfl) (fun _ h => by cases h) eventApart_row_tie rfl ⟨rfl, rfl⟩ (by kernel_rfl) rfl
    (fun f fn hf hfn => by
      obtain rfl : f = 6 := Option.some.inj ((show Tryz.prog.funcNamed "aviary/aviarylaw03.EventApart" = some 6 by kernel_rfl).symm.trans hf) |>.symm
      obtain rfl : fn = Tryz.f6 := (Option.some.inj (Tryz.func6.symm.trans hfn)).symm
      exact ⟨by kernel_rfl, fun j t ht => by
        rw [Tryz.params6] at ht
        have h3 : t = 23 := by
          rcases j with _ | _ | j
          · have e := ht.symm; simp at e; simp [e]
          · have e := ht.symm; simp at e; simp [e]
          · simp at ht
        rcases h3 with rfl
        · exact (show Tryz.prog.wantsStandIn 23 = false by kernel_rfl)⟩)
    (by kernel_rfl)
#print axioms eventApart_card
end Go.Proofs.YtkkgimhjjhhkjaaGreatDoor
