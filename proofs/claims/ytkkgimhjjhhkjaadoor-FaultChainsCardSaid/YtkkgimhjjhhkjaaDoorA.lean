/- The shapes of this translation's types, and what the pure evaluator asks of the program. -/
import Derived.Test.YtkkgimhjjhhkjaaDoorProg
import Derived.KernelRfl
import Derived.Test.YtkkgimhjjhhkjaaDoorPevX
namespace Go.Proofs.YtkkgimhjjhhkjaaDoor
open Go Go.Pev
abbrev shPlace : Sh := (.pair (.int .i64) (.int .i64))
abbrev shE : Sh := (.pair .bool (.pair (.sl shPlace) (.int .i64)))
def cfg : Cfg := ⟨26, 31, 39, []⟩
def pow10 : List Value := ([1, 10, 100, 1000, 10000, 100000, 1000000, 10000000, 100000000, 1000000000, 10000000000, 100000000000, 1000000000000, 10000000000000, 100000000000000, 1000000000000000, 10000000000000000, 100000000000000000, 1000000000000000000, 10000000000000000000] : List Int).map (Value.int .u64)
def globT : List (Nat × GV) := [(1, .is pow10), (2, .num)]
def globG : List (Nat × GV) := (0, .is [.iface 81 (.agg #[.pointer (some ⟨7, 25, none⟩)])]) :: globT
def cfgT : Cfg := { cfg with glob := globT }
def cfgG : Cfg := { cfg with glob := globG }
def shs : List (Nat × Sh) := [(2, (.int .i64)), (3, (.int .i64)), (4, .bool), (5, (.int .u8)), (7, (.pair (.int .i64) (.pair (.int .i64) (.pair .bool (.int .u8))))), (9, .str), (12, (.int .u64)), (13, (.pair .str (.int .u64))), (21, (.int .i32)), (22, (.sl shPlace)), (25, .err), (26, (.int .i64)), (27, (.pair .bool (.pair (.sl shPlace) (.int .i64)))), (28, shE), (31, (.pt (.pair shPlace .err))), (33, .ptr), (36, (.pair (.int .i64) (.int .i64))), (37, shPlace), (38, (.pair shPlace .err)), (39, (.pair shPlace .err)), (44, (.sl (.int .i64))), (45, (.sl .bool)), (46, (.sl .err)), (47, (.sl shE)), (96, (.int .u64)), (98, (.sl .str)), (105, (.sl (.int .u8))), (113, (.int .u32)), (116, (.int .u64)), (126, (.pair (.int .u8) (.int .u8))), (127, (.pair (.int .u8) (.int .u8))), (148, (.pair .str (.int .u8))), (152, (.int .u16)), (153, (.pair (.int .i32) (.pair (.int .u16) (.pair (.int .u16) (.pair (.int .u32) (.int .u32)))))), (155, (.sl (.pair (.int .i32) (.pair (.int .i32) (.pair (.int .i32) (.int .i32)))))), (157, (.pair (.int .i32) (.pair (.int .i32) (.pair (.int .i32) (.int .i32)))))]
def eqs : List Nat := [37, 36]
def asF : Nat := 11
def asPtr : Nat := 35
def asNum : Nat := 33
theorem shs_ok : TysOk Tryd.prog shs := ⟨(by unfold TyOk; kernel_rfl), (by unfold TyOk; kernel_rfl), (by unfold TyOk; kernel_rfl), (by unfold TyOk; kernel_rfl), (by unfold TyOk; kernel_rfl), (by unfold TyOk; kernel_rfl), (by unfold TyOk; kernel_rfl), (by unfold TyOk; kernel_rfl), (by unfold TyOk; kernel_rfl), (by unfold TyOk; kernel_rfl), (by unfold TyOk; kernel_rfl), (by unfold TyOk; kernel_rfl), (by unfold TyOk; kernel_rfl), (by unfold TyOk; kernel_rfl), (by unfold TyOk; kernel_rfl), (by unfold TyOk; kernel_rfl), (by unfold TyOk; kernel_rfl), (by unfold TyOk; kernel_rfl), (by unfold TyOk; kernel_rfl), (by unfold TyOk; kernel_rfl), (by unfold TyOk; kernel_rfl), (by unfold TyOk; kernel_rfl), (by unfold TyOk; kernel_rfl), (by unfold TyOk; kernel_rfl), (by unfold TyOk; kernel_rfl), (by unfold TyOk; kernel_rfl), (by unfold TyOk; kernel_rfl), (by unfold TyOk; kernel_rfl), (by unfold TyOk; kernel_rfl), (by unfold TyOk; kernel_rfl), (by unfold TyOk; kernel_rfl), (by unfold TyOk; kernel_rfl), (by unfold TyOk; kernel_rfl), (by unfold TyOk; kernel_rfl), (by unfold TyOk; kernel_rfl), (by unfold TyOk; kernel_rfl), trivial⟩
def A0 : Anns := ⟨[], [], 1000⟩
def tabs (ea : Nat) (specs : List (Nat × Pev.CSpec)) : Tabs := { cfg with asF := ea, asPtr := asPtr, asNum := asNum, shs := shs, eqs := eqs, specs := specs }
def tabsT (specs : List (Nat × Pev.CSpec)) : Tabs := { cfgT with asF := 0, asPtr := asPtr, asNum := asNum, shs := shs, eqs := eqs, specs := specs }
def tabsG (specs : List (Nat × Pev.CSpec)) : Tabs := { cfgG with asF := asF, asPtr := asPtr, asNum := asNum, shs := shs, eqs := eqs, specs := specs }
theorem fit (ea : Nat) (specs : List (Nat × Pev.CSpec)) : Fit Tryd.prog (tabs ea specs) := ⟨shs_ok, by kernel_rfl, by kernel_rfl, by kernel_rfl, by show cfg.errno ≠ cfg.fptr; decide⟩
theorem fitT (specs : List (Nat × Pev.CSpec)) : Fit Tryd.prog (tabsT specs) := ⟨shs_ok, by kernel_rfl, by kernel_rfl, by kernel_rfl, by show cfg.errno ≠ cfg.fptr; decide⟩
theorem fitG (specs : List (Nat × Pev.CSpec)) : Fit Tryd.prog (tabsG specs) := ⟨shs_ok, by kernel_rfl, by kernel_rfl, by kernel_rfl, by show cfg.errno ≠ cfg.fptr; decide⟩
theorem mixed : Tryd.prog.follows .mixedOrders = true := by kernel_rfl
/-- A function without loops told, by its evaluation. -/
theorem done {ea : Nat} {specs : List (Nat × Pev.CSpec)} (hs : SpecsOk Tryd.prog (tabs ea specs)) {A : Anns} (hA : A.orc = []) {f : Nat} (hf : fnOk Tryd.prog f = true) {args : List AV} {r : AV} (h : evalF Tryd.prog (tabs ea specs) A f args = some r) : Contract Tryd.prog cfg f args r :=
  evalF_ok (fit ea specs) hs mixed hf (noOrc hA f) h
theorem enter {g : Nat} {fn : Func} (h1 : Tryd.prog.funcs[g]? = some fn) (h2 : (fn.name == "runtime.NumGoroutine") = false) (h3 : fn.body.isNone = false) : EnterOk Tryd.prog g := by
  intro args w
  have h2' : fn.name ≠ "runtime.NumGoroutine" := by simpa using h2
  have h3' : fn.body ≠ none := by intro e; rw [e] at h3; cases h3
  simp [callFunc, h1, h2', h3']
theorem noSpecs : SpecsOk Tryd.prog (tabs 0 []) := ⟨(fun g sp h => by cases h), .inl rfl⟩
theorem oneSpecT {ea : Nat} {specs : List (Nat × Pev.CSpec)} (hs : SpecsOk Tryd.prog (tabs ea specs)) {g : Nat} {sp : Pev.CSpec} (h : EnterOk Tryd.prog g ∧ CSpecOk Tryd.prog cfg g sp) : SpecsOk Tryd.prog (tabs ea ((g, sp) :: specs)) :=
  ⟨(fun g' sp' hg => by
    rw [show Pev.get (tabs ea ((g, sp) :: specs)).specs g' = if g = g' then some sp else Pev.get specs g' from get_cons _ _ _ _] at hg
    split at hg
    · rename_i e; subst e; obtain rfl := Option.some.inj hg; exact h
    · exact hs.specs g' sp' hg), hs.as.imp id fun h => ⟨h.enter, h.calls⟩⟩
theorem oneSpec {ea : Nat} {specs : List (Nat × Pev.CSpec)} (hs : SpecsOk Tryd.prog (tabs ea specs)) {g : Nat} {sp : Pev.Spec} (h : EnterOk Tryd.prog g ∧ SpecOk Tryd.prog cfg g sp) : SpecsOk Tryd.prog (tabs ea ((g, (sp : Pev.CSpec)) :: specs)) :=
  oneSpecT hs ⟨h.1, h.2.tree⟩
theorem noSpecsT : SpecsOk Tryd.prog (tabsT []) := ⟨(fun g sp h => by cases h), .inl rfl⟩
theorem oneSpecTT {specs : List (Nat × Pev.CSpec)} (hs : SpecsOk Tryd.prog (tabsT specs)) {g : Nat} {sp : Pev.CSpec} (h : EnterOk Tryd.prog g ∧ CSpecOk Tryd.prog cfgT g sp) : SpecsOk Tryd.prog (tabsT ((g, sp) :: specs)) := hs.cons h
theorem oneSpecGT {specs : List (Nat × Pev.CSpec)} (hs : SpecsOk Tryd.prog (tabsG specs)) {g : Nat} {sp : Pev.CSpec} (h : EnterOk Tryd.prog g ∧ CSpecOk Tryd.prog cfgG g sp) : SpecsOk Tryd.prog (tabsG ((g, sp) :: specs)) := hs.cons h
theorem oneSpecG {specs : List (Nat × Pev.CSpec)} (hs : SpecsOk Tryd.prog (tabsG specs)) {g : Nat} {sp : Pev.Spec} (h : EnterOk Tryd.prog g ∧ SpecOk Tryd.prog cfgG g sp) : SpecsOk Tryd.prog (tabsG ((g, (sp : Pev.CSpec)) :: specs)) := hs.cons ⟨h.1, h.2.tree⟩
/-- What holds without package variables holds beside them. -/
theorem liftT {g : Nat} {sp : Pev.CSpec} (h : EnterOk Tryd.prog g ∧ CSpecOk Tryd.prog cfg g sp) : EnterOk Tryd.prog g ∧ CSpecOk Tryd.prog cfgT g sp :=
  ⟨h.1, fun args res hs => Contract.glob (C := cfg) (g := globT) (h.2 args res hs) (fun p hp => by cases hp)⟩
theorem liftGT {g : Nat} {sp : Pev.CSpec} (h : EnterOk Tryd.prog g ∧ CSpecOk Tryd.prog cfg g sp) : EnterOk Tryd.prog g ∧ CSpecOk Tryd.prog cfgG g sp :=
  ⟨h.1, fun args res hs => Contract.glob (C := cfg) (g := globG) (h.2 args res hs) (fun p hp => by cases hp)⟩
theorem liftG {g : Nat} {sp : Pev.Spec} (h : EnterOk Tryd.prog g ∧ SpecOk Tryd.prog cfg g sp) : EnterOk Tryd.prog g ∧ SpecOk Tryd.prog cfgG g sp :=
  ⟨h.1, fun args res hs => Contract.glob (C := cfg) (g := globG) (h.2 args res hs) (fun p hp => by cases hp)⟩
theorem liftTG {g : Nat} {sp : Pev.CSpec} (h : EnterOk Tryd.prog g ∧ CSpecOk Tryd.prog cfgT g sp) : EnterOk Tryd.prog g ∧ CSpecOk Tryd.prog cfgG g sp :=
  ⟨h.1, fun args res hs => Contract.glob (C := cfgT) (g := globG) (h.2 args res hs) (fun p hp => List.mem_cons_of_mem _ hp)⟩
theorem tree {C : Cfg} {g : Nat} {sp : Pev.Spec} (h : EnterOk Tryd.prog g ∧ SpecOk Tryd.prog C g sp) : EnterOk Tryd.prog g ∧ CSpecOk Tryd.prog C g (sp : Pev.CSpec) := ⟨h.1, h.2.tree⟩
theorem doneT {specs : List (Nat × Pev.CSpec)} (hs : SpecsOk Tryd.prog (tabsT specs)) {A : Anns} (hA : A.orc = []) {f : Nat} (hf : fnOk Tryd.prog f = true) {args : List AV} {r : AV} (h : evalF Tryd.prog (tabsT specs) A f args = some r) : Contract Tryd.prog cfgT f args r :=
  evalF_ok (fitT specs) hs mixed hf (noOrc hA f) h
theorem doneG {specs : List (Nat × Pev.CSpec)} (hs : SpecsOk Tryd.prog (tabsG specs)) {A : Anns} (hA : A.orc = []) {f : Nat} (hf : fnOk Tryd.prog f = true) {args : List AV} {r : AV} (h : evalF Tryd.prog (tabsG specs) A f args = some r) : Contract Tryd.prog cfgG f args r :=
  evalF_ok (fitG specs) hs mixed hf (noOrc hA f) h
/-- The same, with one loop told. -/
theorem done1 {ea : Nat} {specs : List (Nat × Pev.CSpec)} (hs : SpecsOk Tryd.prog (tabs ea specs)) {A : Anns} {f : Nat} {c : Code} (hl : loopsF Tryd.prog f = [c]) (hO : OrcOk Tryd.prog (tabs ea specs) A c) (hf : fnOk Tryd.prog f = true) {args : List AV} {r : AV} (h : evalF Tryd.prog (tabs ea specs) A f args = some r) : Contract Tryd.prog cfg f args r :=
  evalF_ok (fit ea specs) hs mixed hf (fun c' hc' => by rw [hl] at hc'; obtain rfl := List.mem_singleton.1 hc'; exact hO) h
theorem doneT1 {specs : List (Nat × Pev.CSpec)} (hs : SpecsOk Tryd.prog (tabsT specs)) {A : Anns} {f : Nat} {c : Code} (hl : loopsF Tryd.prog f = [c]) (hO : OrcOk Tryd.prog (tabsT specs) A c) (hf : fnOk Tryd.prog f = true) {args : List AV} {r : AV} (h : evalF Tryd.prog (tabsT specs) A f args = some r) : Contract Tryd.prog cfgT f args r :=
  evalF_ok (fitT specs) hs mixed hf (fun c' hc' => by rw [hl] at hc'; obtain rfl := List.mem_singleton.1 hc'; exact hO) h
theorem doneG1 {specs : List (Nat × Pev.CSpec)} (hs : SpecsOk Tryd.prog (tabsG specs)) {A : Anns} {f : Nat} {c : Code} (hl : loopsF Tryd.prog f = [c]) (hO : OrcOk Tryd.prog (tabsG specs) A c) (hf : fnOk Tryd.prog f = true) {args : List AV} {r : AV} (h : evalF Tryd.prog (tabsG specs) A f args = some r) : Contract Tryd.prog cfgG f args r :=
  evalF_ok (fitG specs) hs mixed hf (fun c' hc' => by rw [hl] at hc'; obtain rfl := List.mem_singleton.1 hc'; exact hO) h
theorem orcIs {A : Anns} {c : Code} {o o' : Orc} (h : orcOf A c = some o) (h' : orcOf A c = some o') : o' = o := by rw [h] at h'; exact (Option.some.inj h').symm
end Go.Proofs.YtkkgimhjjhhkjaaDoor
