/- Library functions' and values' contracts, in the trees' form. -/
import Derived.Test.YtkkgimhjjhhkjaaGreatDoorIs
import Derived.Test.YtkkgimhjjhhkjaaGreatDoorN
import Derived.Test.YtkkgimhjjhhkjaaGreatDoorZ
import Derived.Test.YtkkgimhjjhhkjaaGreatDoorZf
import Derived.Test.YtkkgimhjjhhkjaaGreatDoorPevX
namespace Go.Proofs.YtkkgimhjjhhkjaaGreatDoor
open Go Go.Pev
/-- errors.Is at a number for target. -/
def isF (e t : Err) : Option Bool := match e, t with
  | none, some ([], _) => some false
  | some (_, n), some ([], m) => some (n == m)
  | _, _ => none
def errors_Is_sp : Pev.CSpec := genSpec [.err, .err] [.bool] (fun x => isF x.1 x.2)
theorem errors_Is_ok : EnterOk Tryz.prog 44 ∧ CSpecOk Tryz.prog cfgG 44 errors_Is_sp := ⟨(liftGT okIs).1, oldSpec (liftGT okIs).2 (by
  intro ⟨e, t⟩ r h
  match e, t, h with
  | none, some ([], _), h => obtain rfl := Option.some.inj h; rfl
  | some (_, n), some ([], m), h => obtain rfl := Option.some.inj h; rfl)⟩
noncomputable def joinF (l : List ByteArray) (sep : ByteArray) : Option ByteArray := sealed (cond (decide (l.length ≤ 140737488355328 ∧ (Lib.join (l.map (·.data.toList)) sep.data.toList).length ≤ 140737488355328)) (some ⟨(Lib.join (l.map (·.data.toList)) sep.data.toList).toArray⟩) none)
theorem joinF_eq (l : List ByteArray) (sep : ByteArray) : joinF l sep = cond (decide (l.length ≤ 140737488355328 ∧ (Lib.join (l.map (·.data.toList)) sep.data.toList).length ≤ 140737488355328)) (some ⟨(Lib.join (l.map (·.data.toList)) sep.data.toList).toArray⟩) none := sealed_eq _
theorem flat_one : ∀ {l : List ByteArray} {css : List (List Value)} {M : Nat → Prop} {w : World}, All2 (RR cfgG M w .str) l css → css.flatten = l.map Value.string
  | [], _, _, _, .nil => rfl
  | x :: l, _, _, _, .cons h t => by
    obtain rfl := h
    simp only [List.flatten_cons, List.map_cons, flat_one t]; rfl
noncomputable def strings_Join_sp : Pev.CSpec := genSpec [.sl .str, .str] [.str] (fun x => joinF x.1 x.2)
theorem strings_Join_ok : EnterOk Tryz.prog 31 ∧ CSpecOk Tryz.prog cfgG 31 strings_Join_sp := ⟨enter Tryz.func31 (by kernel_rfl) (by kernel_rfl), handSpec (by
  intro ⟨(l : List ByteArray), (sep : ByteArray)⟩ r h
  replace h : joinF l sep = some r := h
  rw [joinF_eq] at h
  cases hd : decide (l.length ≤ 140737488355328 ∧ (Lib.join (l.map (·.data.toList)) sep.data.toList).length ≤ 140737488355328) with
  | false => rw [hd] at h; cases h
  | true =>
    rw [hd] at h
    obtain rfl := Option.some.inj h
    obtain ⟨h1, h2⟩ := of_decide_eq_true hd
    intro M w vs hM hg ha
    cases ha with
    | cons a1 t1 =>
      cases t1 with
      | cons a2 t2 =>
        cases t2
        rename_i v1 v2
        obtain ⟨A, c, rfl, hlc, hrow⟩ : ∃ A c, v1 = .slice A l.length c ∧ l.length ≤ c ∧ RowR cfgG M w .str A l := a1
        obtain rfl : v2 = .string sep := a2
        rcases hrow with rfl | ⟨ad, css, rfl, hr, hc⟩
        · exact (Tryz.strings_Join_none A c sep w).mono fun e w' ⟨q1, q2⟩ => ⟨_, q1, rfl, q2 ▸ KeepS.refl _ _⟩
        · cases l with
          | nil => exact (Tryz.strings_Join_none (some ad) c sep w).mono fun e w' ⟨q1, q2⟩ => ⟨_, q1, rfl, q2 ▸ KeepS.refl _ _⟩
          | cons x l =>
            have hcell := hc.now
            rw [flat_one hr] at hcell
            have h0 := hcell 0 (.string x) rfl
            obtain ⟨b, o, sp⟩ := ad
            have hsp : sp = none := by
              cases sp with
              | none => rfl
              | some k =>
                exfalso
                have : w.cell? ((⟨b, o, some k⟩ : Addr).add 0) = none := by
                  simp only [Addr.add, World.cell?]
                  split <;> simp
                rw [this] at h0; cases h0
            subst hsp
            have hb : b < w.heap.size := World.block_lt_of_cell? w _ h0
            refine (Tryz.strings_Join b o c (x :: l) sep w (fun j y hj => ?_) hb h1 hlc h2).mono fun e w' ⟨q1, q2⟩ => ⟨_, q1, rfl, KeepS.of_below q2⟩
            have := hcell j (.string y) (by rw [List.getElem?_map, hj]; rfl)
            have e : (⟨b, o, none⟩ : Addr).add j = ⟨b, o + j, none⟩ := by
              simp only [Addr.add]
              split
              · rename_i h0; rw [h0]; rfl
              · rfl
            rwa [e] at this)⟩
noncomputable def value_Check (v : V) : Option Err := sealSpec [shVal] [.err] sp17 v
noncomputable def value_Text (v : V) : Option (ByteArray × Err) := sealSpec [shVal] [.str, .err] sp11 v
noncomputable def value_Read (s : ByteArray) : Option (V × Err) := sealSpec [.str] [shVal, .err] sp12 s
noncomputable def ref02_Check (v : V) : Option (Bool × List (Int × Int) × Int) := sealSpec [shVal] [shE] sp18 v
noncomputable def ref02_Text (v : V) : Option ByteArray := sealSpec [shVal] [.str] sp35 v
noncomputable def ref02_Read (s : ByteArray) : Option (V × Bool × List (Int × Int) × Int) := sealSpec [.str] [shVal, shE] sp19 s
noncomputable def value_Check_sp : Pev.CSpec := genSpec [shVal] [.err] value_Check
noncomputable def value_Text_sp : Pev.CSpec := genSpec [shVal] [.str, .err] value_Text
noncomputable def value_Read_sp : Pev.CSpec := genSpec [.str] [shVal, .err] value_Read
noncomputable def ref02_Check_sp : Pev.CSpec := genSpec [shVal] [shE] ref02_Check
noncomputable def ref02_Text_sp : Pev.CSpec := genSpec [shVal] [.str] ref02_Text
noncomputable def ref02_Read_sp : Pev.CSpec := genSpec [.str] [shVal, shE] ref02_Read
theorem value_Check_ok : EnterOk Tryz.prog 36 ∧ CSpecOk Tryz.prog cfgG 36 value_Check_sp := ⟨ok17.1, sealSpec_ok (liftGT (tree ok17)).2⟩
theorem value_Text_ok : EnterOk Tryz.prog 30 ∧ CSpecOk Tryz.prog cfgG 30 value_Text_sp := ⟨ok11.1, sealSpec_ok (liftTG ok11).2⟩
theorem value_Read_ok : EnterOk Tryz.prog 43 ∧ CSpecOk Tryz.prog cfgG 43 value_Read_sp := ⟨ok12.1, sealSpec_ok (liftTG ok12).2⟩
theorem ref02_Check_ok : EnterOk Tryz.prog 38 ∧ CSpecOk Tryz.prog cfgG 38 ref02_Check_sp := ⟨ok18.1, sealSpec_ok (liftGT (tree ok18)).2⟩
theorem ref02_Text_ok : EnterOk Tryz.prog 65 ∧ CSpecOk Tryz.prog cfgG 65 ref02_Text_sp := ⟨ok35.1, sealSpec_ok (liftTG ok35).2⟩
theorem ref02_Read_ok : EnterOk Tryz.prog 48 ∧ CSpecOk Tryz.prog cfgG 48 ref02_Read_sp := ⟨ok19.1, sealSpec_ok (liftGT ok19).2⟩
noncomputable def L0 : List (Nat × Pev.CSpec) := [(44, errors_Is_sp), (31, strings_Join_sp), (36, value_Check_sp), (30, value_Text_sp), (43, value_Read_sp), (38, ref02_Check_sp), (65, ref02_Text_sp), (48, ref02_Read_sp)]
theorem s0 : SpecsOk Tryz.prog (tabsG L0) := oneSpecGT (oneSpecGT (oneSpecGT (oneSpecGT (oneSpecGT (oneSpecGT (oneSpecGT (oneSpecGT noSpecsG ref02_Read_ok) ref02_Text_ok) ref02_Check_ok) value_Read_ok) value_Text_ok) value_Check_ok) strings_Join_ok) errors_Is_ok
end Go.Proofs.YtkkgimhjjhhkjaaGreatDoor
