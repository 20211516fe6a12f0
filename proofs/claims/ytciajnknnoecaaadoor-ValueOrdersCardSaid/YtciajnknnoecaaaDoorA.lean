/- The shapes of this translation's types, and what the pure evaluator asks of the program. -/
import Derived.Test.YtciajnknnoecaaaDoorProg
import Derived.KernelRfl
import Derived.Test.YtciajnknnoecaaaDoorPevT
namespace Go.Proofs.YtciajnknnoecaaaDoor
open Go Go.Pev
abbrev shVal : Sh := (.pair (.int .i64) (.pair (.int .i64) (.pair .str .bool)))
abbrev shPlace : Sh := (.pair (.int .i64) (.int .i64))
abbrev shE : Sh := (.pair .bool (.pair (.sl shPlace) (.int .i64)))
def cfg : Cfg := ⟨38, 85, 89, []⟩
def glob : List (Nat × Value) := [(0, .iface 125 (.agg #[.pointer (some ⟨1, 26, none⟩)]))]
def shs : List (Nat × Sh) := [(2, (.int .i64)), (3, (.int .i64)), (4, .bool), (5, (.int .u8)), (7, (.pair (.int .i64) (.pair (.int .i64) (.pair .bool (.int .u8))))), (9, .str), (12, (.int .u64)), (13, (.pair .str (.int .u64))), (21, (.int .i32)), (22, (.pair (.int .i64) (.pair (.int .i64) (.pair .str .bool)))), (23, shVal), (26, .err), (37, (.sl shPlace)), (38, (.int .i64)), (39, (.pair .bool (.pair (.sl shPlace) (.int .i64)))), (40, shE), (71, (.sl shE)), (73, (.pair (.int .i64) (.int .i64))), (74, shPlace), (75, (.sl (.int .u8))), (76, (.int .u64)), (82, (.sl .err)), (83, (.sl (.int .i64))), (85, .ptr), (88, (.pair shPlace .err)), (89, (.pair shPlace .err)), (90, .ptr), (91, (.int .u64)), (114, (.int .u32)), (139, (.pair .str (.pair .str .err))), (140, (.pair .str (.pair .str .err))), (146, .str), (147, .str), (164, (.pair .str (.int .u8))), (168, (.int .u16)), (169, (.pair (.int .i32) (.pair (.int .u16) (.pair (.int .u16) (.pair (.int .u32) (.int .u32)))))), (171, (.sl (.pair (.int .i32) (.pair (.int .i32) (.pair (.int .i32) (.int .i32)))))), (173, (.pair (.int .i32) (.pair (.int .i32) (.pair (.int .i32) (.int .i32)))))]
def eqs : List Nat := [23, 74, 22, 73]
def asF : Nat := 53
def asPtr : Nat := 87
def asNum : Nat := 90
theorem shs_ok : TysOk Tryd.prog shs := ⟨(by unfold TyOk; kernel_rfl), (by unfold TyOk; kernel_rfl), (by unfold TyOk; kernel_rfl), (by unfold TyOk; kernel_rfl), (by unfold TyOk; kernel_rfl), (by unfold TyOk; kernel_rfl), (by unfold TyOk; kernel_rfl), (by unfold TyOk; kernel_rfl), (by unfold TyOk; kernel_rfl), (by unfold TyOk; kernel_rfl), (by unfold TyOk; kernel_rfl), (by unfold TyOk; kernel_rfl), (by unfold TyOk; kernel_rfl), (by unfold TyOk; kernel_rfl), (by unfold TyOk; kernel_rfl), (by unfold TyOk; kernel_rfl), (by unfold TyOk; kernel_rfl), (by unfold TyOk; kernel_rfl), (by unfold TyOk; kernel_rfl), (by unfold TyOk; kernel_rfl), (by unfold TyOk; kernel_rfl), (by unfold TyOk; kernel_rfl), (by unfold TyOk; kernel_rfl), (by unfold TyOk; kernel_rfl), (by unfold TyOk; kernel_rfl), (by unfold TyOk; kernel_rfl), (by unfold TyOk; kernel_rfl), (by unfold TyOk; kernel_rfl), (by unfold TyOk; kernel_rfl), (by unfold TyOk; kernel_rfl), (by unfold TyOk; kernel_rfl), (by unfold TyOk; kernel_rfl), (by unfold TyOk; kernel_rfl), (by unfold TyOk; kernel_rfl), (by unfold TyOk; kernel_rfl), (by unfold TyOk; kernel_rfl), (by unfold TyOk; kernel_rfl), (by unfold TyOk; kernel_rfl), trivial⟩

def A0 : Anns := ⟨[], [], 1000⟩
def tabs (ea : Nat) (specs : List (Nat × Pev.CSpec)) : Tabs := { cfg with asF := ea, asPtr := asPtr, asNum := asNum, shs := shs, eqs := eqs, specs := specs }
theorem fit (ea : Nat) (specs : List (Nat × Pev.CSpec)) : Fit Tryd.prog (tabs ea specs) := ⟨shs_ok, by kernel_rfl, by kernel_rfl, by kernel_rfl, by show cfg.errno ≠ cfg.fptr; decide⟩
theorem mixed : Tryd.prog.follows .mixedOrders = true := by kernel_rfl
/-- A function without loops told, by its evaluation. -/
theorem done {ea : Nat} {specs : List (Nat × Pev.CSpec)} (hs : SpecsOk Tryd.prog (tabs ea specs)) {A : Anns} (hA : A.orc = []) {f : Nat} (hf : fnOk Tryd.prog f = true) {args : List AV} {r : AV} (h : evalF Tryd.prog (tabs ea specs) A f args = some r) : Contract Tryd.prog cfg f args r :=
  evalF_ok (fit ea specs) hs mixed hf (noOrc hA f) h
theorem enter {g : Nat} {fn : Func} (h1 : Tryd.prog.funcs[g]? = some fn) (h2 : (fn.name == "runtime.NumGoroutine") = false) (h3 : fn.body.isNone = false) : EnterOk Tryd.prog g := by
  intro args w
  have h2' : fn.name ≠ "runtime.NumGoroutine" := by simpa using h2
  have h3' : fn.body ≠ none := by intro e; rw [e] at h3; cases h3
  simp [callFunc, h1, h2', h3']
theorem noSpecs : SpecsOk Tryd.prog (tabs 0 []) := ⟨(fun g sp h => by cases h), .inl rfl⟩
theorem oneSpecT {ea : Nat} {specs : List (Nat × Pev.CSpec)} (hs : SpecsOk Tryd.prog (tabs ea specs)) {g : Nat} {sp : Pev.CSpec} (h : EnterOk Tryd.prog g ∧ CSpecOk Tryd.prog cfg g sp) : SpecsOk Tryd.prog (tabs ea ((g, sp) :: specs)) :=
  ⟨(fun g' sp' hg => by
    rw [show Pev.get (tabs ea ((g, sp) :: specs)).specs g' = if g = g' then some sp else Pev.get specs g' from get_cons _ _ _ _] at hg
    split at hg
    · rename_i e; subst e; obtain rfl := Option.some.inj hg; exact h
    · exact hs.specs g' sp' hg), hs.as.imp id fun h => ⟨h.enter, h.calls⟩⟩
theorem oneSpec {ea : Nat} {specs : List (Nat × Pev.CSpec)} (hs : SpecsOk Tryd.prog (tabs ea specs)) {g : Nat} {sp : Pev.Spec} (h : EnterOk Tryd.prog g ∧ SpecOk Tryd.prog cfg g sp) : SpecsOk Tryd.prog (tabs ea ((g, (sp : Pev.CSpec)) :: specs)) :=
  oneSpecT hs ⟨h.1, h.2.tree⟩
/-- The same, with loops told. -/
theorem done1 {ea : Nat} {specs : List (Nat × Pev.CSpec)} (hs : SpecsOk Tryd.prog (tabs ea specs)) {A : Anns} {f : Nat} {c : Code} (hl : loopsF Tryd.prog f = [c]) (hO : OrcOk Tryd.prog (tabs ea specs) A c) (hf : fnOk Tryd.prog f = true) {args : List AV} {r : AV} (h : evalF Tryd.prog (tabs ea specs) A f args = some r) : Contract Tryd.prog cfg f args r :=
  evalF_ok (fit ea specs) hs mixed hf (fun c' hc' => by rw [hl] at hc'; obtain rfl := List.mem_singleton.1 hc'; exact hO) h
theorem orcIs {A : Anns} {c : Code} {o o' : Orc} (h : orcOf A c = some o) (h' : orcOf A c = some o') : o' = o := by rw [h] at h'; exact (Option.some.inj h').symm
end Go.Proofs.YtciajnknnoecaaaDoor

