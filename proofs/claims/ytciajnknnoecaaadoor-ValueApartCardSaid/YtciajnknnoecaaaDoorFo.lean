/- Arguments of the statements of layer 2, as data. -/
import Derived.Test.YtciajnknnoecaaaDoorE
import Derived.Test.YtciajnknnoecaaaDoorTie
import Derived.Test.YtciajnknnoecaaaDoorCards
import Derived.RowKit
import Derived.SizedLaws
namespace Go.Proofs.YtciajnknnoecaaaDoor
open Go Go.Pev Go.ChangeShapes Go.WideShapes Go.RowKit
theorem laidOut : laidOutB Tryd.prog = true := by kernel_rfl

set_option maxRecDepth 100000 in
/-- An argument of type api.Value. -/
theorem open_val {H : Type} {enc : TypeId × Value → H} {W : World} {base : Nat} {v : Value} {d : DataW H} {ps : List MemPlace} (hv : Value.okWide Tryd.prog W .any base 23 v) (h : DataW.Trod enc Tryd.prog W 0 (fun _ => true) true 23 v d ps) :
    ∃ x : V, SR cfg (fun _ => .nilIface) (fun _ => False) W (av x) v ∧ wfS shVal x := by
  obtain ⟨n, hn⟩ := h
  obtain ⟨y, hy, hw⟩ := trod_RR (C := cfg) 8 23 shVal n v.cells.toList _ (by kernel_rfl) hn
  obtain ⟨cs, rfl, _⟩ := okWide_struct Tryd.underlying23 hv
  obtain ⟨k, i, s, b⟩ := y
  have hr := leaves_rel (ρ := fun _ => .nilIface) shVal (k, i, s, b) _ hy
  exact ⟨(k, i, s, b), ⟨cs.toList, rfl, hr⟩, hw⟩
set_option maxRecDepth 100000 in
/-- A string. -/
theorem open_str {H : Type} {enc : TypeId × Value → H} {W : World} {base : Nat} {v : Value} {d : DataW H} {ps : List MemPlace} (hv : Value.okWide Tryd.prog W .any base 9 v) (h : DataW.Trod enc Tryd.prog W 0 (fun _ => true) true 9 v d ps) :
    ∃ x : ByteArray, SR cfg (fun _ => .nilIface) (fun _ => False) W (.str x) v ∧ x.size ≤ maxLen := by
  obtain ⟨s, rfl⟩ := okWide_string Tryd.underlying9 hv
  obtain ⟨fuel, hf⟩ := h
  obtain ⟨s', e, _, hs⟩ := DataW.trod_string Tryd.underlying9 hf
  simp [Value.cells] at e
  subst e
  exact ⟨s, rfl, hs⟩
set_option maxRecDepth 100000 in
/-- A string, with what it reads as. -/
theorem open_strZ {H : Type} {enc : TypeId × Value → H} {W : World} {base : Nat} {v : Value} {d : DataW H} {ps : List MemPlace} (hv : Value.okWide Tryd.prog W .any base 9 v) (h : DataW.Trod enc Tryd.prog W 0 (fun _ => true) true 9 v d ps) :
    ∃ x : ByteArray, SR cfg (fun _ => .nilIface) (fun _ => False) W (.str x) v ∧ d = .lit (.string x.data.toList) := by
  obtain ⟨s, rfl⟩ := okWide_string Tryd.underlying9 hv
  obtain ⟨fuel, hf⟩ := h
  obtain ⟨s', e, e2, hs⟩ := DataW.trod_string Tryd.underlying9 hf
  simp [Value.cells] at e
  subst e
  exact ⟨s, rfl, congrArg Prod.fst e2⟩
set_option maxRecDepth 100000 in
/-- A number. -/
theorem open_i {H : Type} {enc : TypeId × Value → H} {W : World} {base : Nat} {v : Value} {d : DataW H} {ps : List MemPlace} (hv : Value.okWide Tryd.prog W .any base 3 v) (h : DataW.Trod enc Tryd.prog W 0 (fun _ => true) true 3 v d ps) :
    ∃ x : Int, SR cfg (fun _ => .nilIface) (fun _ => False) W (.int .i64 x) v ∧ (Lit.int .i64 x).wf = true := by
  obtain ⟨n, rfl, _, _, hw⟩ := open_int Tryd.underlying3 hv h
  exact ⟨n, rfl, hw⟩
end Go.Proofs.YtciajnknnoecaaaDoor
