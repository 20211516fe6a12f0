/- Library functions' contracts, in the trees' form. -/
import Derived.Test.YtkkgimhjjhhkjaaGreatDoorIs
import Derived.Test.YtkkgimhjjhhkjaaGreatDoorT
import Derived.Test.YtkkgimhjjhhkjaaGreatDoorPewZa
namespace Go.Proofs.YtkkgimhjjhhkjaaGreatDoor
open Go Go.Pev
theorem noSpecsG : SpecsOk Tryz.prog (tabsG []) := ⟨(fun g sp h => by cases h), .inr (asOk [])⟩
/-- errors.Is at a number for target. -/
def isF (e t : Err) : Option Bool := match e, t with
  | none, some ([], _) => some false
  | some (_, n), some ([], m) => some (n == m)
  | _, _ => none
def errors_Is_sp : Pev.CSpec := genSpec [.err, .err] [.bool] (fun x => isF x.1 x.2)
theorem errors_Is_ok : EnterOk Tryz.prog 44 ∧ CSpecOk Tryz.prog cfgG 44 errors_Is_sp := ⟨(liftGT okIs).1, oldSpec (liftGT okIs).2 (by
  intro ⟨e, t⟩ r h
  match e, t, h with
  | none, some ([], _), h => obtain rfl := Option.some.inj h; rfl
  | some (_, n), some ([], m), h => obtain rfl := Option.some.inj h; rfl)⟩
def joinF (l : List ByteArray) (sep : ByteArray) : Option ByteArray := (cond (decide (l.length ≤ 140737488355328 ∧ (Lib.join (l.map (·.data.toList)) sep.data.toList).length ≤ 140737488355328)) (some ⟨(Lib.join (l.map (·.data.toList)) sep.data.toList).toArray⟩) none)
theorem joinF_eq (l : List ByteArray) (sep : ByteArray) : joinF l sep = cond (decide (l.length ≤ 140737488355328 ∧ (Lib.join (l.map (·.data.toList)) sep.data.toList).length ≤ 140737488355328)) (some ⟨(Lib.join (l.map (·.data.toList)) sep.data.toList).toArray⟩) none := rfl
theorem flat_one : ∀ {l : List ByteArray} {css : List (List Value)} {M : Nat → Prop} {w : World}, All2 (RR cfgG M w .str) l css → css.flatten = l.map Value.string
  | [], _, _, _, .nil => rfl
  | x :: l, _, _, _, .cons h t => by
    obtain rfl := h
    simp only [List.flatten_cons, List.map_cons, flat_one t]; rfl
noncomputable def strings_Join_sp : Pev.CSpec := genSpec [.sl .str, .str] [.str] (fun x => joinF x.1 x.2)
theorem strings_Join_ok : EnterOk Tryz.prog 31 ∧ CSpecOk Tryz.prog cfgG 31 strings_Join_sp := ⟨enter Tryz.func31 (by kernel_rfl) (by kernel_rfl), handSpec (by
  intro ⟨(l : List ByteArray), (sep : ByteArray)⟩ r h
  replace h : joinF l sep = some r := h
  rw [joinF_eq] at h
  cases hd : decide (l.length ≤ 140737488355328 ∧ (Lib.join (l.map (·.data.toList)) sep.data.toList).length ≤ 140737488355328) with
  | false => rw [hd] at h; cases h
  | true =>
    rw [hd] at h
    obtain rfl := Option.some.inj h
    obtain ⟨h1, h2⟩ := of_decide_eq_true hd
    refine Contract.of0 ?_ rfl rfl
    intro M w vs hM hg ha
    cases ha with
    | cons a1 t1 =>
      cases t1 with
      | cons a2 t2 =>
        cases t2
        rename_i v1 v2
        obtain ⟨A, c, rfl, hlc, hrow⟩ : ∃ A c, v1 = .slice A l.length c ∧ l.length ≤ c ∧ RowR cfgG M w .str A l := a1
        obtain rfl : v2 = .string sep := a2
        rcases hrow with rfl | ⟨ad, css, rfl, hr, hc⟩
        · exact (Tryz.strings_Join_none A c sep w).mono fun e w' ⟨q1, q2⟩ => ⟨_, q1, rfl, q2 ▸ KeepS.refl _ _⟩
        · cases l with
          | nil => exact (Tryz.strings_Join_none (some ad) c sep w).mono fun e w' ⟨q1, q2⟩ => ⟨_, q1, rfl, q2 ▸ KeepS.refl _ _⟩
          | cons x l =>
            have hcell := hc.now
            rw [flat_one hr] at hcell
            have h0 := hcell 0 (.string x) rfl
            obtain ⟨b, o, sp⟩ := ad
            have hsp : sp = none := by
              cases sp with
              | none => rfl
              | some k =>
                exfalso
                have : w.cell? ((⟨b, o, some k⟩ : Addr).add 0) = none := by
                  simp only [Addr.add, World.cell?]
                  split <;> simp
                rw [this] at h0; cases h0
            subst hsp
            have hb : b < w.heap.size := World.block_lt_of_cell? w _ h0
            refine (Tryz.strings_Join b o c (x :: l) sep w (fun j y hj => ?_) hb h1 hlc h2).mono fun e w' ⟨q1, q2⟩ => ⟨_, q1, rfl, KeepS.of_below q2⟩
            have := hcell j (.string y) (by rw [List.getElem?_map, hj]; rfl)
            have e : (⟨b, o, none⟩ : Addr).add j = ⟨b, o + j, none⟩ := by
              simp only [Addr.add]
              split
              · rename_i h0; rw [h0]; rfl
              · rfl
            rwa [e] at this)⟩
def cmpF (a b : ByteArray) : Option Int := some (Lib.compareBytes a.data.toList b.data.toList)
theorem cmpF_eq (a b : ByteArray) : cmpF a b = some (Lib.compareBytes a.data.toList b.data.toList) := rfl
noncomputable def strings_Compare_sp : Pev.CSpec := genSpec [.str, .str] [.int .i64] (fun x => cmpF x.1 x.2)
theorem strings_Compare_ok : EnterOk Tryz.prog 81 ∧ CSpecOk Tryz.prog cfgG 81 strings_Compare_sp := ⟨enter Tryz.func81 (by kernel_rfl) (by kernel_rfl), handSpec (by
  intro ⟨(a : ByteArray), (b : ByteArray)⟩ r h
  replace h : cmpF a b = some r := h
  rw [cmpF_eq] at h
  obtain rfl := Option.some.inj h
  refine Contract.of0 ?_ rfl rfl
  intro M w vs hM hg ha
  cases ha with
  | cons a1 t1 =>
    cases t1 with
    | cons a2 t2 =>
      cases t2
      rename_i v1 v2
      obtain rfl : v1 = .string a := a1
      obtain rfl : v2 = .string b := a2
      exact (Tryz.strings_Compare a b w).mono fun e w' ⟨q1, q2⟩ => ⟨_, q1, rfl, q2 ▸ KeepS.refl _ _⟩)⟩
noncomputable def L1 : List (Nat × Pev.CSpec) := (81, strings_Compare_sp) :: (31, strings_Join_sp) :: (44, errors_Is_sp) :: (61, sp25) :: (59, sp23) :: (93, sp47) :: []
theorem s1 : SpecsOk Tryz.prog (tabsG L1) := oneSpecGT (oneSpecGT (oneSpecGT (oneSpecGT (oneSpecGT (oneSpecGT noSpecsG (liftTG ok47)) (liftTG ok23)) (liftGT ok25)) errors_Is_ok) strings_Join_ok) strings_Compare_ok
end Go.Proofs.YtkkgimhjjhhkjaaGreatDoor
