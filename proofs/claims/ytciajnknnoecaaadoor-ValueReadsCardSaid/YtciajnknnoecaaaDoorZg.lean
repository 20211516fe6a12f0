/- For all strings: aviarylaw02.ValueReads answers true and leaves its argument as it was; the listed variables tied to the program's text. Conditions: the row's own cells. -/
import Derived.Test.YtciajnknnoecaaaDoorZf
import Derived.Test.YtciajnknnoecaaaDoorFo
namespace Go.Proofs.YtciajnknnoecaaaDoor
open Go Go.Pev Go.ChangeShapes Go.WideShapes Go.RowKit
def L7 : List (Nat × Pev.CSpec) := [(10, sp10), (12, sp12), (13, sp13), (16, sp16g), (19, sp19)]
theorem s7 : SpecsOk Tryd.prog (tabsG L7) := oneSpecGT (oneSpecGT (oneSpecGT (oneSpecGT (oneSpecGT noSpecsG (liftGT ok19)) ok16g) (liftGT ok13)) (liftTG ok12)) (liftGT (tree ok10))
/-- The two answers, held against one another. -/
def held7 (r : RRd) : Option AV :=
  let eq (x y : V) : Bool := eqB shVal (x.1, x.2.1, x.2.2.1, x.2.2.2) (y.1, y.2.1, y.2.2.1, y.2.2.2)
  let z : V := (0, 0, ⟨#[]⟩, false)
  let f : Option AV := some (.bool false)
  cond r.isVal (cond r.isVal (cond (eq r.v r.v) (some (.bool true)) f) (cond r.isBad (cond (eq r.v z) f f) (cond (eq r.v z) f f)))
    (cond r.isBad (cond r.isVal (cond (eq z r.v) f f) (cond r.isBad (some (.bool (failsB (badE r.pos) true [(1, r.pos)] 4))) f)) (cond r.isVal (cond (eq z r.v) f f) (cond r.isBad f (some (.bool true)))))
theorem eqV_self (x : V) : eqB shVal (x.1, x.2.1, x.2.2.1, x.2.2.2) (x.1, x.2.1, x.2.2.1, x.2.2.2) = true := by
  rw [show eqB shVal (x.1, x.2.1, x.2.2.1, x.2.2.2) (x.1, x.2.1, x.2.2.1, x.2.2.2) = ((x.1 == x.1) && ((x.2.1 == x.2.1) && ((x.2.2.1.toList == x.2.2.1.toList) && (x.2.2.2 == x.2.2.2)))) by kernel_rfl]
  simp
theorem held7_true (r : RRd) : held7 r = some (.bool true) := by
  cases r with
  | bad p => simp [held7, RRd.isVal, RRd.isBad, RRd.pos, failsB, badE, sameE]
  | long => rfl
  | val v =>
    show cond (eqB shVal (v.1, v.2.1, v.2.2.1, v.2.2.2) (v.1, v.2.1, v.2.2.1, v.2.2.2)) _ _ = _
    rw [eqV_self]; rfl
theorem t7 (s : ByteArray) : evalF Tryd.prog (tabsG L7) A0 7 [.str s] = some (.bool true) := by
  rw [show evalF Tryd.prog (tabsG L7) A0 7 [.str s] = cond (decide (s.size > 3000)) (cond (decide (s.size ≤ 8000)) (some (.bool true)) (held7 (readR s))) (held7 (readR s)) by kernel_rfl, held7_true]
  cases decide (s.size > 3000) <;> cases decide (s.size ≤ 8000) <;> rfl
theorem law7 (s : ByteArray) (_ : s.size ≤ maxLen) : Contract Tryd.prog cfgG 7 [.str s] (.bool true) := doneG s7 (A := A0) rfl (by kernel_rfl) (t7 s)
set_option maxRecDepth 100000 in
theorem valueReads_lifted (os : Os) (started : os.Started) (H : Type) (enc : TypeId × Value → H) :
    ReturnsInHanded {} Tryd.checked os 7 .any (fun w args => (Rows.valueReadsSpec.pre enc Tryd.prog Tryd.f7 [] false w args ∧ laidMetH Tryd.prog laid6 w) ∧ sizedMet enc Tryd.prog Tryd.f7 (OpenSpec.ofChange Rows.valueReadsSpec) false w args)
      (Rows.valueReadsSpec.post enc Tryd.prog Tryd.f7 false true false false) := by
  refine returnsInHanded_of_change_and (C := Tryd.checked) (X := fun w _ => laidMetH Tryd.prog laid6 w) (fun _ _ _ hh h => h.of_heap hh) own started (by kernel_rfl) Tryd.func7
    (ChangeSpec.witness_at (enc := enc) (C := Tryd.checked) (os := os) (X := fun w _ => laidMetH Tryd.prog laid6 w) false (laidWorld os) #[.string ByteArray.empty] 8 rfl (by kernel_rfl) (by kernel_rfl) (by kernel_rfl) (by kernel_rfl) (by kernel_rfl) (laid6_met os _)) ?_
  intro W base args ds gs before hval0 hW _ _ hL _
  have hval : ∀ (j : Nat) t v, Tryd.f7.params[j]? = some t → args[j]? = some v → Value.okWide Tryd.prog W .any base t v := hval0
  have hW' := hW
  obtain ⟨p, q, hA0, hV0, rfl, hfz, hnd⟩ := hW
  have hA : DataW.TrodAll enc Tryd.prog W 0 (fun _ => true) true Tryd.f7.params.toList args.toList ds p := hA0
  have hV : DataW.TrodVars enc Tryd.prog W (fun _ => true) [] gs q := hV0
  rw [Tryd.params7] at hA hval
  obtain ⟨v0, d0, rfl, rfl, h0⟩ := trodAll_one hA
  obtain ⟨x0, g0, w0⟩ := open_str (hval 0 9 v0 rfl rfl) h0
  obtain ⟨rfl, rfl⟩ : gs = [] ∧ q = [] := by
    cases gs with
    | nil => exact ⟨rfl, hV⟩
    | cons g r => exact absurd hV (by intro h; cases h)
  have e1 : Rows.valueReadsSpec.fn H ([d0] ++ []) = { results := [.lit (.bool true)], args := [d0] } := by simp [Rows.valueReadsSpec]
  refine (law7 x0 w0 (fun _ => False) W [v0] (fun _ h => h.elim) (glob6_of_laid hL) (.cons ((SR_glob (C := cfg) (g := globG) _ _).mpr g0) .nil)).mono fun e W' hh => ?_
  · obtain ⟨v, rfl, hv, hk⟩ := hh
    simp only [VR, SR, LR] at hv
    subst hv
    refine ⟨_, rfl, _, _, _, [], p, [], hW', ?_, ?_, ?_, keptBut_keep hk _, fun h => by cases h⟩
    · rw [e1]; exact trodAll_mk1 (shut_bool Tryd.underlying4 true)
    · rw [e1]; exact trodAll_after laidOut hk (fun t ht => by simp at ht; subst ht; exact ⟨by kernel_rfl, of_decide_eq_true (by kernel_rfl)⟩) hA
    · rw [e1]; rfl

theorem valueReads_holds : Rows.ValueReadsSaid :=
  OpenClaim.holds_of_wide 7 Tryd.f7 rfl rfl rfl rfl rfl rfl rfl ⟨rfl, rfl, rfl, rfl, rfl⟩ rfl rfl rfl rfl rfl (by kernel_rfl) Tryd.func7 (by kernel_rfl)
    (of_decide_eq_true (by kernel_rfl)) (by unfold Func.isWrapper; rw [if_neg (of_decide_eq_false (by kernel_rfl))]; exact ⟨rfl, rfl⟩)
    (fun os started H enc _ => valueReads_lifted os started H enc)

/-- The tied card. -/
theorem valueReads_card : Rows.ValueReadsCardSaid :=
  Claim7.holds_tied_plain_at .later [] [.data, .data, .data, .handle, .sentinel, .sentinel] true (true, "037fae09c715b99551f6ffc39b6317c5ab1dc24c9da9650da149487dbb9d414c") true
    valueReads_holds (fun _ h => by cases h) (by kernel_rfl) (fun _ h => by cases h) valueReads_row_tie rfl ⟨rfl, rfl⟩ (by kernel_rfl) rfl
    (fun f fn hf hfn => by
      obtain rfl : f = 7 := Option.some.inj ((show Tryd.prog.funcNamed "aviary/aviarylaw02.ValueReads" = some 7 by kernel_rfl).symm.trans hf) |>.symm
      obtain rfl : fn = Tryd.f7 := (Option.some.inj (Tryd.func7.symm.trans hfn)).symm
      exact ⟨by kernel_rfl, fun j t ht => by
        rw [Tryd.params7] at ht
        have h3 : t = 9 := by
          rcases j with _ | j
          · simpa using ht.symm
          · simp at ht
        subst h3
        exact (show Tryd.prog.wantsStandIn 9 = false by kernel_rfl)⟩)
    (by kernel_rfl)
#print axioms valueReads_card
end Go.Proofs.YtciajnknnoecaaaDoor
