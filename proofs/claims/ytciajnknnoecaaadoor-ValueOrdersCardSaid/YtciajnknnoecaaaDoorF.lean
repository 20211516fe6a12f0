/- For all values: aviarylaw02.ValueLine answers true and leaves its arguments as they were; the listed variables tied to the program's text. Conditions: the row's own cells. -/
import Derived.Test.YtciajnknnoecaaaDoorD
import Derived.Test.YtciajnknnoecaaaDoorE
import Derived.Test.YtciajnknnoecaaaDoorTie
import Derived.Test.YtciajnknnoecaaaDoorCards
import Derived.RowKit
namespace Go.Proofs.YtciajnknnoecaaaDoor
open Go Go.Pev Go.ChangeShapes Go.WideShapes Go.RowKit
theorem laidOut : laidOutB Tryd.prog = true := by kernel_rfl

set_option maxRecDepth 100000 in
/-- An argument of type api.Value. -/
theorem open_val {H : Type} {enc : TypeId × Value → H} {W : World} {base : Nat} {v : Value} {d : DataW H} {ps : List MemPlace} (hv : Value.okWide Tryd.prog W .any base 23 v) (h : DataW.Trod enc Tryd.prog W 0 (fun _ => true) true 23 v d ps) :
    ∃ x : V, SR cfg (fun _ => .nilIface) (fun _ => False) W (av x) v := by
  obtain ⟨n, hn⟩ := h
  obtain ⟨y, hy⟩ := trod_RR (C := cfg) 8 23 shVal n v.cells.toList _ (by kernel_rfl) hn
  obtain ⟨cs, rfl, _⟩ := okWide_struct Tryd.underlying23 hv
  obtain ⟨k, i, s, b⟩ := y
  have hr := leaves_rel (ρ := fun _ => .nilIface) shVal (k, i, s, b) _ hy
  exact ⟨(k, i, s, b), cs.toList, rfl, hr⟩

set_option maxRecDepth 100000 in
theorem valueLine_lifted (os : Os) (started : os.Started) (H : Type) (enc : TypeId × Value → H) :
    ReturnsInHanded {} Tryd.checked os 4 .any (fun w args => (Rows.valueLineSpec.pre enc Tryd.prog Tryd.f4 [] false w args ∧ laidMetH Tryd.prog laid5 w) ∧ sizedMet enc Tryd.prog Tryd.f4 (OpenSpec.ofChange Rows.valueLineSpec) false w args)
      (Rows.valueLineSpec.post enc Tryd.prog Tryd.f4 false true false false) := by
  refine returnsInHanded_of_change_and (C := Tryd.checked) (X := fun w _ => laidMetH Tryd.prog laid5 w) (fun _ _ _ hh h => h.of_heap hh) own started (by kernel_rfl) Tryd.func4
    (ChangeSpec.witness_at (enc := enc) (C := Tryd.checked) (os := os) (X := fun w _ => laidMetH Tryd.prog laid5 w) false (laidWorld os) #[.agg #[.int .i64 0, .int .i64 0, .string ByteArray.empty, .bool false], .agg #[.int .i64 0, .int .i64 0, .string ByteArray.empty, .bool false], .agg #[.int .i64 0, .int .i64 0, .string ByteArray.empty, .bool false]] 8 rfl (by kernel_rfl) (by kernel_rfl) (by kernel_rfl) (by kernel_rfl) (by kernel_rfl) (laid5_met os _)) ?_
  intro W base args ds gs before hval0 hW _ _ hL _
  have hval : ∀ (j : Nat) t v, Tryd.f4.params[j]? = some t → args[j]? = some v → Value.okWide Tryd.prog W .any base t v := hval0
  have hW' := hW
  obtain ⟨p, q, hA0, hV0, rfl, hfz, hnd⟩ := hW
  have hA : DataW.TrodAll enc Tryd.prog W 0 (fun _ => true) true Tryd.f4.params.toList args.toList ds p := hA0
  have hV : DataW.TrodVars enc Tryd.prog W (fun _ => true) [] gs q := hV0
  rw [Tryd.params4] at hA hval
  obtain ⟨v0, v1, v2, d0, d1, d2, p0, p1, p2, rfl, rfl, rfl, h0, h1, h2⟩ := trodAll_three hA
  obtain ⟨x0, g0⟩ := open_val (hval 0 23 v0 rfl rfl) h0
  obtain ⟨x1, g1⟩ := open_val (hval 1 23 v1 rfl rfl) h1
  obtain ⟨x2, g2⟩ := open_val (hval 2 23 v2 rfl rfl) h2
  obtain ⟨rfl, rfl⟩ : gs = [] ∧ q = [] := by
    cases gs with
    | nil => exact ⟨rfl, hV⟩
    | cons g r => exact absurd hV (by intro h; cases h)
  have e1 : Rows.valueLineSpec.fn H ([d0, d1, d2] ++ []) = { results := [.lit (.bool true)], args := [d0, d1, d2] } := by simp [Rows.valueLineSpec]
  refine (law4 x0 x1 x2 (fun _ => False) W [v0, v1, v2] (fun _ h => h.elim) (fun p hp => by cases hp) (.cons g0 (.cons g1 (.cons g2 .nil)))).mono fun e W' hh => ?_
  · obtain ⟨v, rfl, hv, hk⟩ := hh
    simp only [VR, SR, LR] at hv
    subst hv
    refine ⟨_, rfl, _, _, _, [], p0 ++ p1 ++ p2, [], hW', ?_, ?_, ?_, keptBut_keep hk _, fun h => by cases h⟩
    · rw [e1]; exact trodAll_mk1 (shut_bool Tryd.underlying4 true)
    · rw [e1]; exact trodAll_after laidOut hk (fun t ht => by simp at ht; subst ht; exact ⟨by kernel_rfl, of_decide_eq_true (by kernel_rfl)⟩) hA
    · rw [e1]; rfl

theorem valueLine_holds : Rows.ValueLineSaid :=
  OpenClaim.holds_of_wide 4 Tryd.f4 rfl rfl rfl rfl rfl rfl rfl ⟨rfl, rfl, rfl, rfl, rfl⟩ rfl rfl rfl rfl rfl (by kernel_rfl) Tryd.func4 (by kernel_rfl)
    (of_decide_eq_true (by kernel_rfl)) (by unfold Func.isWrapper; rw [if_neg (of_decide_eq_false (by kernel_rfl))]; exact ⟨rfl, rfl⟩)
    (fun os started H enc _ => valueLine_lifted os started H enc)

/-- The tied card. -/
theorem valueLine_card : Rows.ValueLineCardSaid :=
  Claim7.holds_tied_plain_at .later [] [.data, .data, .data, .sentinel, .sentinel] true (true, "037fae09c715b99551f6ffc39b6317c5ab1dc24c9da9650da149487dbb9d414c") true
    valueLine_holds (fun _ h => by cases h) (by kernel_rfl) (fun _ h => by cases h) valueLine_row_tie rfl ⟨rfl, rfl⟩ (by kernel_rfl) rfl
    (fun f fn hf hfn => by
      obtain rfl : f = 4 := Option.some.inj ((show Tryd.prog.funcNamed "aviary/aviarylaw02.ValueLine" = some 4 by kernel_rfl).symm.trans hf) |>.symm
      obtain rfl : fn = Tryd.f4 := (Option.some.inj (Tryd.func4.symm.trans hfn)).symm
      exact ⟨by kernel_rfl, fun j t ht => by
        rw [Tryd.params4] at ht
        have h3 : t = 23 := by
          rcases j with _ | _ | _ | j
          · simpa using ht.symm
          · simpa using ht.symm
          · simpa using ht.symm
          · simp at ht
        subst h3
        exact (show Tryd.prog.wantsStandIn 23 = false by kernel_rfl)⟩)
    (by kernel_rfl)
#print axioms valueLine_card
end Go.Proofs.YtciajnknnoecaaaDoor
