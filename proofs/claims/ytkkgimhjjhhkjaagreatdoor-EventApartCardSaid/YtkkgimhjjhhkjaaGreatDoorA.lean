/- The shapes of this translation's types, and what the pure evaluator asks of the program. -/
import Derived.Test.YtkkgimhjjhhkjaaGreatDoorProg
import Derived.KernelRfl
import Derived.Test.YtkkgimhjjhhkjaaGreatDoorPewZa
namespace Go.Proofs.YtkkgimhjjhhkjaaGreatDoor
open Go Go.Pev
abbrev shVal : Sh := (.pair (.int .i64) (.pair (.int .i64) (.pair .str .bool)))
abbrev shAttr : Sh := (.pair .str shVal)
abbrev shEvent : Sh := .sl shAttr
abbrev shPlace : Sh := (.pair (.int .i64) (.int .i64))
abbrev shE : Sh := (.pair .bool (.pair (.sl shPlace) (.int .i64)))
/-- A value of layer 2. -/
abbrev V := Int × Int × ByteArray × Bool
abbrev av (v : V) : AV := .ag [.int .i64 v.1, .int .i64 v.2.1, .str v.2.2.1, .bool v.2.2.2]
def cfg : Cfg := { errno := 31, fptr := 104, fault := 108, glob := [] }
def pow10 : List Value := ([1, 10, 100, 1000, 10000, 100000, 1000000, 10000000, 100000000, 1000000000, 10000000000, 100000000000, 1000000000000, 10000000000000, 100000000000000, 1000000000000000, 10000000000000000, 100000000000000000, 1000000000000000000, 10000000000000000000] : List Int).map (Value.int .u64)
def globT : List (Nat × GV) := [(2, .is pow10), (3, .face), (4, .face), (1, .num)]
def globG : List (Nat × GV) := (0, .is [.iface 141 (.agg #[.pointer (some ⟨7, 26, none⟩)])]) :: globT
def cfgT : Cfg := { cfg with glob := globT }
def cfgG : Cfg := { cfg with glob := globG }
def objs : List Nat := []
def caps : List Nat := []
def shs : List (Nat × Sh) := [(2, (.int .i64)), (3, (.int .i64)), (4, .bool), (5, (.int .u8)), (7, (.pair (.int .i64) (.pair (.int .i64) (.pair .bool (.int .u8))))), (9, .str), (12, (.int .u64)), (13, (.pair .str (.int .u64))), (21, (.int .i32)), (22, (.sl shAttr)), (23, shEvent), (26, .err), (30, (.sl shPlace)), (31, (.int .i64)), (32, (.pair .bool (.pair (.sl shPlace) (.int .i64)))), (33, shE), (47, (.pair (.int .i64) (.pair (.int .i64) (.pair .str .bool)))), (48, shVal), (49, (.pair .str shVal)), (50, shAttr), (61, (.sl .str)), (88, (.sl shE)), (94, (.sl (.int .u8))), (102, (.pair (.int .i64) (.int .i64))), (103, shPlace), (104, (.pt (.pair shPlace .err))), (107, (.pair shPlace .err)), (108, (.pair shPlace .err)), (109, .ptr), (118, (.sl .err)), (124, (.int .u64)), (150, (.int .u64)), (170, (.int .u32)), (182, (.pair .str (.pair .str .err))), (183, (.pair .str (.pair .str .err))), (188, .str), (189, .str), (205, (.pair .str (.int .u8))), (209, (.int .u16)), (210, (.pair (.int .i32) (.pair (.int .u16) (.pair (.int .u16) (.pair (.int .u32) (.int .u32)))))), (212, (.sl (.pair (.int .i32) (.pair (.int .i32) (.pair (.int .i32) (.int .i32)))))), (214, (.pair (.int .i32) (.pair (.int .i32) (.pair (.int .i32) (.int .i32)))))]
def eqs : List Nat := [48, 50, 103, 47, 49, 102]
def asF : Nat := 67
def asPtr : Nat := 106
def asNum : Nat := 109
theorem shs_ok : TysOk Tryz.prog shs := ⟨(by unfold TyOk; kernel_rfl), (by unfold TyOk; kernel_rfl), (by unfold TyOk; kernel_rfl), (by unfold TyOk; kernel_rfl), (by unfold TyOk; kernel_rfl), (by unfold TyOk; kernel_rfl), (by unfold TyOk; kernel_rfl), (by unfold TyOk; kernel_rfl), (by unfold TyOk; kernel_rfl), (by unfold TyOk; kernel_rfl), (by unfold TyOk; kernel_rfl), (by unfold TyOk; kernel_rfl), (by unfold TyOk; kernel_rfl), (by unfold TyOk; kernel_rfl), (by unfold TyOk; kernel_rfl), (by unfold TyOk; kernel_rfl), (by unfold TyOk; kernel_rfl), (by unfold TyOk; kernel_rfl), (by unfold TyOk; kernel_rfl), (by unfold TyOk; kernel_rfl), (by unfold TyOk; kernel_rfl), (by unfold TyOk; kernel_rfl), (by unfold TyOk; kernel_rfl), (by unfold TyOk; kernel_rfl), (by unfold TyOk; kernel_rfl), (by unfold TyOk; kernel_rfl), (by unfold TyOk; kernel_rfl), (by unfold TyOk; kernel_rfl), (by unfold TyOk; kernel_rfl), (by unfold TyOk; kernel_rfl), (by unfold TyOk; kernel_rfl), (by unfold TyOk; kernel_rfl), (by unfold TyOk; kernel_rfl), (by unfold TyOk; kernel_rfl), (by unfold TyOk; kernel_rfl), (by unfold TyOk; kernel_rfl), (by unfold TyOk; kernel_rfl), (by unfold TyOk; kernel_rfl), (by unfold TyOk; kernel_rfl), (by unfold TyOk; kernel_rfl), (by unfold TyOk; kernel_rfl), (by unfold TyOk; kernel_rfl), trivial⟩
def A0 : Anns := { l := [], orc := [], N := 1000 }
def tabs (ea : Nat) (specs : List (Nat × Pev.CSpec)) : Tabs := { cfg with asF := ea, asPtr := asPtr, asNum := asNum, shs := shs, eqs := eqs, specs := specs, objs := objs, caps := caps }
def tabsT (specs : List (Nat × Pev.CSpec)) : Tabs := { cfgT with asF := 0, asPtr := asPtr, asNum := asNum, shs := shs, eqs := eqs, specs := specs, objs := objs, caps := caps }
def tabsG (specs : List (Nat × Pev.CSpec)) : Tabs := { cfgG with asF := asF, asPtr := asPtr, asNum := asNum, shs := shs, eqs := eqs, specs := specs, objs := objs, caps := caps }
theorem fit (ea : Nat) (specs : List (Nat × Pev.CSpec)) : Fit Tryz.prog (tabs ea specs) := ⟨shs_ok, by kernel_rfl, by kernel_rfl, by kernel_rfl, by show cfg.errno ≠ cfg.fptr; decide⟩
theorem fitT (specs : List (Nat × Pev.CSpec)) : Fit Tryz.prog (tabsT specs) := ⟨shs_ok, by kernel_rfl, by kernel_rfl, by kernel_rfl, by show cfg.errno ≠ cfg.fptr; decide⟩
theorem fitG (specs : List (Nat × Pev.CSpec)) : Fit Tryz.prog (tabsG specs) := ⟨shs_ok, by kernel_rfl, by kernel_rfl, by kernel_rfl, by show cfg.errno ≠ cfg.fptr; decide⟩
theorem mixed : Tryz.prog.follows .mixedOrders = true := by kernel_rfl
/-- A function without loops told, by its evaluation. -/
theorem done {ea : Nat} {specs : List (Nat × Pev.CSpec)} (hs : SpecsOk Tryz.prog (tabs ea specs)) {A : Anns} (hA : A.orc = []) {f : Nat} (hf : fnOk Tryz.prog f = true) {args : List AV} {r : AV} (h : evalF Tryz.prog (tabs ea specs) A f args = some r) : Contract Tryz.prog cfg f args r :=
  evalF_ok (fit ea specs) hs mixed hf (noOrc hA f) h
theorem enter {g : Nat} {fn : Func} (h1 : Tryz.prog.funcs[g]? = some fn) (h2 : (fn.name == "runtime.NumGoroutine") = false) (h3 : fn.body.isNone = false) : EnterOk Tryz.prog g := by
  intro args w
  have h2' : fn.name ≠ "runtime.NumGoroutine" := by simpa using h2
  have h3' : fn.body ≠ none := by intro e; rw [e] at h3; cases h3
  simp [callFunc, h1, h2', h3']
theorem noSpecs : SpecsOk Tryz.prog (tabs 0 []) := ⟨(fun g sp h => by cases h), .inl rfl⟩
theorem oneSpecT {ea : Nat} {specs : List (Nat × Pev.CSpec)} (hs : SpecsOk Tryz.prog (tabs ea specs)) {g : Nat} {sp : Pev.CSpec} (h : EnterOk Tryz.prog g ∧ CSpecOk Tryz.prog cfg g sp) : SpecsOk Tryz.prog (tabs ea ((g, sp) :: specs)) :=
  ⟨(fun g' sp' hg => by
    rw [show Pev.get (tabs ea ((g, sp) :: specs)).specs g' = if g = g' then some sp else Pev.get specs g' from get_cons _ _ _ _] at hg
    split at hg
    · rename_i e; subst e; obtain rfl := Option.some.inj hg; exact h
    · exact hs.specs g' sp' hg), hs.as.imp id fun h => ⟨h.enter, h.calls⟩⟩
theorem oneSpec {ea : Nat} {specs : List (Nat × Pev.CSpec)} (hs : SpecsOk Tryz.prog (tabs ea specs)) {g : Nat} {sp : Pev.Spec} (h : EnterOk Tryz.prog g ∧ SpecOk Tryz.prog cfg g sp) : SpecsOk Tryz.prog (tabs ea ((g, (sp : Pev.CSpec)) :: specs)) :=
  oneSpecT hs ⟨h.1, h.2.tree⟩
theorem noSpecsT : SpecsOk Tryz.prog (tabsT []) := ⟨(fun g sp h => by cases h), .inl rfl⟩
theorem oneSpecTT {specs : List (Nat × Pev.CSpec)} (hs : SpecsOk Tryz.prog (tabsT specs)) {g : Nat} {sp : Pev.CSpec} (h : EnterOk Tryz.prog g ∧ CSpecOk Tryz.prog cfgT g sp) : SpecsOk Tryz.prog (tabsT ((g, sp) :: specs)) := hs.cons h
theorem oneSpecGT {specs : List (Nat × Pev.CSpec)} (hs : SpecsOk Tryz.prog (tabsG specs)) {g : Nat} {sp : Pev.CSpec} (h : EnterOk Tryz.prog g ∧ CSpecOk Tryz.prog cfgG g sp) : SpecsOk Tryz.prog (tabsG ((g, sp) :: specs)) := hs.cons h
theorem oneSpecG {specs : List (Nat × Pev.CSpec)} (hs : SpecsOk Tryz.prog (tabsG specs)) {g : Nat} {sp : Pev.Spec} (h : EnterOk Tryz.prog g ∧ SpecOk Tryz.prog cfgG g sp) : SpecsOk Tryz.prog (tabsG ((g, (sp : Pev.CSpec)) :: specs)) := hs.cons ⟨h.1, h.2.tree⟩
/-- What holds without package variables holds beside them. -/
theorem liftT {g : Nat} {sp : Pev.CSpec} (h : EnterOk Tryz.prog g ∧ CSpecOk Tryz.prog cfg g sp) : EnterOk Tryz.prog g ∧ CSpecOk Tryz.prog cfgT g sp :=
  ⟨h.1, fun args res hs => Contract.glob (C := cfg) (g := globT) (h.2 args res hs) (fun p hp => by cases hp)⟩
theorem liftGT {g : Nat} {sp : Pev.CSpec} (h : EnterOk Tryz.prog g ∧ CSpecOk Tryz.prog cfg g sp) : EnterOk Tryz.prog g ∧ CSpecOk Tryz.prog cfgG g sp :=
  ⟨h.1, fun args res hs => Contract.glob (C := cfg) (g := globG) (h.2 args res hs) (fun p hp => by cases hp)⟩
theorem liftG {g : Nat} {sp : Pev.Spec} (h : EnterOk Tryz.prog g ∧ SpecOk Tryz.prog cfg g sp) : EnterOk Tryz.prog g ∧ SpecOk Tryz.prog cfgG g sp :=
  ⟨h.1, fun args res hs => Contract.glob (C := cfg) (g := globG) (h.2 args res hs) (fun p hp => by cases hp)⟩
theorem liftTG {g : Nat} {sp : Pev.CSpec} (h : EnterOk Tryz.prog g ∧ CSpecOk Tryz.prog cfgT g sp) : EnterOk Tryz.prog g ∧ CSpecOk Tryz.prog cfgG g sp :=
  ⟨h.1, fun args res hs => Contract.glob (C := cfgT) (g := globG) (h.2 args res hs) (fun p hp => List.mem_cons_of_mem _ hp)⟩
theorem tree {C : Cfg} {g : Nat} {sp : Pev.Spec} (h : EnterOk Tryz.prog g ∧ SpecOk Tryz.prog C g sp) : EnterOk Tryz.prog g ∧ CSpecOk Tryz.prog C g (sp : Pev.CSpec) := ⟨h.1, h.2.tree⟩
theorem doneT {specs : List (Nat × Pev.CSpec)} (hs : SpecsOk Tryz.prog (tabsT specs)) {A : Anns} (hA : A.orc = []) {f : Nat} (hf : fnOk Tryz.prog f = true) {args : List AV} {r : AV} (h : evalF Tryz.prog (tabsT specs) A f args = some r) : Contract Tryz.prog cfgT f args r :=
  evalF_ok (fitT specs) hs mixed hf (noOrc hA f) h
theorem doneG {specs : List (Nat × Pev.CSpec)} (hs : SpecsOk Tryz.prog (tabsG specs)) {A : Anns} (hA : A.orc = []) {f : Nat} (hf : fnOk Tryz.prog f = true) {args : List AV} {r : AV} (h : evalF Tryz.prog (tabsG specs) A f args = some r) : Contract Tryz.prog cfgG f args r :=
  evalF_ok (fitG specs) hs mixed hf (noOrc hA f) h
/-- The same, with one loop told. -/
theorem done1 {ea : Nat} {specs : List (Nat × Pev.CSpec)} (hs : SpecsOk Tryz.prog (tabs ea specs)) {A : Anns} {f : Nat} {c : Code} (hl : loopsF Tryz.prog f = [c]) (hO : OrcOk Tryz.prog (tabs ea specs) A c) (hf : fnOk Tryz.prog f = true) {args : List AV} {r : AV} (h : evalF Tryz.prog (tabs ea specs) A f args = some r) : Contract Tryz.prog cfg f args r :=
  evalF_ok (fit ea specs) hs mixed hf (fun c' hc' => by rw [hl] at hc'; obtain rfl := List.mem_singleton.1 hc'; exact hO) h
theorem doneT1 {specs : List (Nat × Pev.CSpec)} (hs : SpecsOk Tryz.prog (tabsT specs)) {A : Anns} {f : Nat} {c : Code} (hl : loopsF Tryz.prog f = [c]) (hO : OrcOk Tryz.prog (tabsT specs) A c) (hf : fnOk Tryz.prog f = true) {args : List AV} {r : AV} (h : evalF Tryz.prog (tabsT specs) A f args = some r) : Contract Tryz.prog cfgT f args r :=
  evalF_ok (fitT specs) hs mixed hf (fun c' hc' => by rw [hl] at hc'; obtain rfl := List.mem_singleton.1 hc'; exact hO) h
theorem doneG1 {specs : List (Nat × Pev.CSpec)} (hs : SpecsOk Tryz.prog (tabsG specs)) {A : Anns} {f : Nat} {c : Code} (hl : loopsF Tryz.prog f = [c]) (hO : OrcOk Tryz.prog (tabsG specs) A c) (hf : fnOk Tryz.prog f = true) {args : List AV} {r : AV} (h : evalF Tryz.prog (tabsG specs) A f args = some r) : Contract Tryz.prog cfgG f args r :=
  evalF_ok (fitG specs) hs mixed hf (fun c' hc' => by rw [hl] at hc'; obtain rfl := List.mem_singleton.1 hc'; exact hO) h
theorem orcIs {A : Anns} {c : Code} {o o' : Orc} (h : orcOf A c = some o) (h' : orcOf A c = some o') : o' = o := by rw [h] at h'; exact (Option.some.inj h').symm
end Go.Proofs.YtkkgimhjjhhkjaaGreatDoor
