/- The shapes of this translation's types, and what the pure evaluator asks of the program. -/
import Derived.Test.YtldkdhfcbopbhaaDoorProg
import Derived.KernelRfl
import Derived.Test.YtldkdhfcbopbhaaDoorPewZ
namespace Go.Proofs.YtldkdhfcbopbhaaDoor
open Go Go.Pev
abbrev shVal : Sh := (.pair (.int .i64) (.pair (.int .i64) (.pair .str .bool)))
abbrev shAttr : Sh := (.pair .str shVal)
abbrev shEvent : Sh := .sl shAttr
abbrev shBound : Sh := (.pair .str (.pair (.int .i64) (.pair (.int .i64) (.pair (.int .i64) (.pair .bool (.pair .str (.pair .bool .bool)))))))
abbrev shFil : Sh := (.pair .bool (.sl shBound))
abbrev shPlace : Sh := (.pair (.int .i64) (.int .i64))
abbrev shE : Sh := (.pair .bool (.pair (.sl shPlace) (.int .i64)))
abbrev shFrom : Sh := (.pair (.int .i64) (.int .i64))
abbrev shLedger : Sh := (.pair (.rf .map) (.pair (.int .i64) (.rf .map)))
abbrev shSub : Sh := (.pair shFil (.pair (.rf .map) (.pair (.rf .map) .bool)))
abbrev shOp : Sh := (.pair (.int .i64) (.pair (.int .i64) (.pair (.int .i64) (.pair (.int .i64) (.pair (.int .i64) (.pair shEvent shFil))))))
/-- A value of layer 2. -/
abbrev V := Int × Int × ByteArray × Bool
abbrev av (v : V) : AV := .ag [.int .i64 v.1, .int .i64 v.2.1, .str v.2.2.1, .bool v.2.2.2]
def cfg : Cfg := { errno := 32, fptr := 86, fault := 90, glob := [] }
def globT : List (Nat × GV) := [(1, .num)]
def globG : List (Nat × GV) := (0, .is [.iface 133 (.agg #[.pointer (some ⟨2, 37, none⟩)])]) :: globT
def cfgT : Cfg := { cfg with glob := globT }
def cfgG : Cfg := { cfg with glob := globG }
def objs : List Nat := [64, 79]
def shs : List (Nat × Sh) := [(2, (.int .i64)), (3, (.int .i64)), (4, .bool), (5, (.int .u8)), (7, (.pair (.int .i64) (.pair (.int .i64) (.pair .bool (.int .u8))))), (9, .str), (12, (.int .u64)), (13, (.pair .str (.int .u64))), (21, (.int .i32)), (22, (.sl shAttr)), (23, shEvent), (24, (.sl shBound)), (25, (.pair .bool (.sl shBound))), (26, shFil), (27, (.pair (.int .i64) (.pair (.int .i64) (.pair (.int .i64) (.pair (.int .i64) (.pair (.int .i64) (.pair shEvent shFil))))))), (28, shOp), (30, (.rf .ptr)), (31, (.sl shPlace)), (32, (.int .i64)), (33, (.pair .bool (.pair (.sl shPlace) (.int .i64)))), (34, shE), (37, .err), (40, (.sl (.int .i64))), (49, (.sl shOp)), (61, (.rf .map)), (62, (.rf .map)), (63, (.pair (.rf .map) (.pair (.int .i64) (.rf .map)))), (64, shLedger), (65, (.pair (.int .i64) (.int .i64))), (66, shFrom), (67, (.rf .sli)), (69, (.pair (.int .i64) (.pair (.int .i64) (.pair .str .bool)))), (70, shVal), (71, (.pair .str shVal)), (72, shAttr), (73, (.rf .ptr)), (77, (.rf .map)), (78, (.pair shFil (.pair (.rf .map) (.pair (.rf .map) .bool)))), (79, shSub), (84, (.pair (.int .i64) (.int .i64))), (85, shPlace), (86, (.pt (.pair shPlace .err))), (89, (.pair shPlace .err)), (90, (.pair shPlace .err)), (91, .ptr), (92, (.sl .str)), (103, (.pair .str (.pair (.int .i64) (.pair (.int .i64) (.pair (.int .i64) (.pair .bool (.pair .str (.pair .bool .bool)))))))), (104, shBound), (144, (.sl .err)), (149, (.int .u64)), (150, (.int .u64)), (151, (.sl (.int .u8))), (161, (.int .u32)), (171, (.pair .str (.int .u8))), (175, (.int .u16)), (176, (.pair (.int .i32) (.pair (.int .u16) (.pair (.int .u16) (.pair (.int .u32) (.int .u32)))))), (178, (.sl (.pair (.int .i32) (.pair (.int .i32) (.pair (.int .i32) (.int .i32)))))), (180, (.pair (.int .i32) (.pair (.int .i32) (.pair (.int .i32) (.int .i32)))))]
def eqs : List Nat := [66, 70, 72, 85, 104, 65, 69, 71, 84, 103]
def asF : Nat := 30
def asPtr : Nat := 88
def asNum : Nat := 91
theorem shs_ok : TysOk Tryd.prog shs := ⟨(by unfold TyOk; kernel_rfl), (by unfold TyOk; kernel_rfl), (by unfold TyOk; kernel_rfl), (by unfold TyOk; kernel_rfl), (by unfold TyOk; kernel_rfl), (by unfold TyOk; kernel_rfl), (by unfold TyOk; kernel_rfl), (by unfold TyOk; kernel_rfl), (by unfold TyOk; kernel_rfl), (by unfold TyOk; kernel_rfl), (by unfold TyOk; kernel_rfl), (by unfold TyOk; kernel_rfl), (by unfold TyOk; kernel_rfl), (by unfold TyOk; kernel_rfl), (by unfold TyOk; kernel_rfl), (by unfold TyOk; kernel_rfl), (by unfold TyOk; kernel_rfl), (by unfold TyOk; kernel_rfl), (by unfold TyOk; kernel_rfl), (by unfold TyOk; kernel_rfl), (by unfold TyOk; kernel_rfl), (by unfold TyOk; kernel_rfl), (by unfold TyOk; kernel_rfl), (by unfold TyOk; kernel_rfl), (by unfold TyOk; kernel_rfl), (by unfold TyOk; kernel_rfl), (by unfold TyOk; kernel_rfl), (by unfold TyOk; kernel_rfl), (by unfold TyOk; kernel_rfl), (by unfold TyOk; kernel_rfl), (by unfold TyOk; kernel_rfl), (by unfold TyOk; kernel_rfl), (by unfold TyOk; kernel_rfl), (by unfold TyOk; kernel_rfl), (by unfold TyOk; kernel_rfl), (by unfold TyOk; kernel_rfl), (by unfold TyOk; kernel_rfl), (by unfold TyOk; kernel_rfl), (by unfold TyOk; kernel_rfl), (by unfold TyOk; kernel_rfl), (by unfold TyOk; kernel_rfl), (by unfold TyOk; kernel_rfl), (by unfold TyOk; kernel_rfl), (by unfold TyOk; kernel_rfl), (by unfold TyOk; kernel_rfl), (by unfold TyOk; kernel_rfl), (by unfold TyOk; kernel_rfl), (by unfold TyOk; kernel_rfl), (by unfold TyOk; kernel_rfl), (by unfold TyOk; kernel_rfl), (by unfold TyOk; kernel_rfl), (by unfold TyOk; kernel_rfl), (by unfold TyOk; kernel_rfl), (by unfold TyOk; kernel_rfl), (by unfold TyOk; kernel_rfl), (by unfold TyOk; kernel_rfl), (by unfold TyOk; kernel_rfl), (by unfold TyOk; kernel_rfl), trivial⟩
def A0 : Anns := { l := [], orc := [], N := 1000 }
def tabs (ea : Nat) (specs : List (Nat × Pev.CSpec)) : Tabs := { cfg with asF := ea, asPtr := asPtr, asNum := asNum, shs := shs, eqs := eqs, specs := specs, objs := objs }
def tabsT (specs : List (Nat × Pev.CSpec)) : Tabs := { cfgT with asF := 0, asPtr := asPtr, asNum := asNum, shs := shs, eqs := eqs, specs := specs, objs := objs }
def tabsG (specs : List (Nat × Pev.CSpec)) : Tabs := { cfgG with asF := asF, asPtr := asPtr, asNum := asNum, shs := shs, eqs := eqs, specs := specs, objs := objs }
theorem fit (ea : Nat) (specs : List (Nat × Pev.CSpec)) : Fit Tryd.prog (tabs ea specs) := ⟨shs_ok, by kernel_rfl, by kernel_rfl, by kernel_rfl, by show cfg.errno ≠ cfg.fptr; decide⟩
theorem fitT (specs : List (Nat × Pev.CSpec)) : Fit Tryd.prog (tabsT specs) := ⟨shs_ok, by kernel_rfl, by kernel_rfl, by kernel_rfl, by show cfg.errno ≠ cfg.fptr; decide⟩
theorem fitG (specs : List (Nat × Pev.CSpec)) : Fit Tryd.prog (tabsG specs) := ⟨shs_ok, by kernel_rfl, by kernel_rfl, by kernel_rfl, by show cfg.errno ≠ cfg.fptr; decide⟩
theorem mixed : Tryd.prog.follows .mixedOrders = true := by kernel_rfl
/-- A function without loops told, by its evaluation. -/
theorem done {ea : Nat} {specs : List (Nat × Pev.CSpec)} (hs : SpecsOk Tryd.prog (tabs ea specs)) {A : Anns} (hA : A.orc = []) {f : Nat} (hf : fnOk Tryd.prog f = true) {args : List AV} {r : AV} (h : evalF Tryd.prog (tabs ea specs) A f args = some r) : Contract Tryd.prog cfg f args r :=
  evalF_ok (fit ea specs) hs mixed hf (noOrc hA f) h
theorem enter {g : Nat} {fn : Func} (h1 : Tryd.prog.funcs[g]? = some fn) (h2 : (fn.name == "runtime.NumGoroutine") = false) (h3 : fn.body.isNone = false) : EnterOk Tryd.prog g := by
  intro args w
  have h2' : fn.name ≠ "runtime.NumGoroutine" := by simpa using h2
  have h3' : fn.body ≠ none := by intro e; rw [e] at h3; cases h3
  simp [callFunc, h1, h2', h3']
theorem noSpecs : SpecsOk Tryd.prog (tabs 0 []) := ⟨(fun g sp h => by cases h), .inl rfl⟩
theorem oneSpecT {ea : Nat} {specs : List (Nat × Pev.CSpec)} (hs : SpecsOk Tryd.prog (tabs ea specs)) {g : Nat} {sp : Pev.CSpec} (h : EnterOk Tryd.prog g ∧ CSpecOk Tryd.prog cfg g sp) : SpecsOk Tryd.prog (tabs ea ((g, sp) :: specs)) :=
  ⟨(fun g' sp' hg => by
    rw [show Pev.get (tabs ea ((g, sp) :: specs)).specs g' = if g = g' then some sp else Pev.get specs g' from get_cons _ _ _ _] at hg
    split at hg
    · rename_i e; subst e; obtain rfl := Option.some.inj hg; exact h
    · exact hs.specs g' sp' hg), hs.as.imp id fun h => ⟨h.enter, h.calls⟩⟩
theorem oneSpec {ea : Nat} {specs : List (Nat × Pev.CSpec)} (hs : SpecsOk Tryd.prog (tabs ea specs)) {g : Nat} {sp : Pev.Spec} (h : EnterOk Tryd.prog g ∧ SpecOk Tryd.prog cfg g sp) : SpecsOk Tryd.prog (tabs ea ((g, (sp : Pev.CSpec)) :: specs)) :=
  oneSpecT hs ⟨h.1, h.2.tree⟩
theorem noSpecsT : SpecsOk Tryd.prog (tabsT []) := ⟨(fun g sp h => by cases h), .inl rfl⟩
theorem oneSpecTT {specs : List (Nat × Pev.CSpec)} (hs : SpecsOk Tryd.prog (tabsT specs)) {g : Nat} {sp : Pev.CSpec} (h : EnterOk Tryd.prog g ∧ CSpecOk Tryd.prog cfgT g sp) : SpecsOk Tryd.prog (tabsT ((g, sp) :: specs)) := hs.cons h
theorem oneSpecGT {specs : List (Nat × Pev.CSpec)} (hs : SpecsOk Tryd.prog (tabsG specs)) {g : Nat} {sp : Pev.CSpec} (h : EnterOk Tryd.prog g ∧ CSpecOk Tryd.prog cfgG g sp) : SpecsOk Tryd.prog (tabsG ((g, sp) :: specs)) := hs.cons h
theorem oneSpecG {specs : List (Nat × Pev.CSpec)} (hs : SpecsOk Tryd.prog (tabsG specs)) {g : Nat} {sp : Pev.Spec} (h : EnterOk Tryd.prog g ∧ SpecOk Tryd.prog cfgG g sp) : SpecsOk Tryd.prog (tabsG ((g, (sp : Pev.CSpec)) :: specs)) := hs.cons ⟨h.1, h.2.tree⟩
/-- What holds without package variables holds beside them. -/
theorem liftT {g : Nat} {sp : Pev.CSpec} (h : EnterOk Tryd.prog g ∧ CSpecOk Tryd.prog cfg g sp) : EnterOk Tryd.prog g ∧ CSpecOk Tryd.prog cfgT g sp :=
  ⟨h.1, fun args res hs => Contract.glob (C := cfg) (g := globT) (h.2 args res hs) (fun p hp => by cases hp)⟩
theorem liftGT {g : Nat} {sp : Pev.CSpec} (h : EnterOk Tryd.prog g ∧ CSpecOk Tryd.prog cfg g sp) : EnterOk Tryd.prog g ∧ CSpecOk Tryd.prog cfgG g sp :=
  ⟨h.1, fun args res hs => Contract.glob (C := cfg) (g := globG) (h.2 args res hs) (fun p hp => by cases hp)⟩
theorem liftG {g : Nat} {sp : Pev.Spec} (h : EnterOk Tryd.prog g ∧ SpecOk Tryd.prog cfg g sp) : EnterOk Tryd.prog g ∧ SpecOk Tryd.prog cfgG g sp :=
  ⟨h.1, fun args res hs => Contract.glob (C := cfg) (g := globG) (h.2 args res hs) (fun p hp => by cases hp)⟩
theorem liftTG {g : Nat} {sp : Pev.CSpec} (h : EnterOk Tryd.prog g ∧ CSpecOk Tryd.prog cfgT g sp) : EnterOk Tryd.prog g ∧ CSpecOk Tryd.prog cfgG g sp :=
  ⟨h.1, fun args res hs => Contract.glob (C := cfgT) (g := globG) (h.2 args res hs) (fun p hp => List.mem_cons_of_mem _ hp)⟩
theorem tree {C : Cfg} {g : Nat} {sp : Pev.Spec} (h : EnterOk Tryd.prog g ∧ SpecOk Tryd.prog C g sp) : EnterOk Tryd.prog g ∧ CSpecOk Tryd.prog C g (sp : Pev.CSpec) := ⟨h.1, h.2.tree⟩
theorem doneT {specs : List (Nat × Pev.CSpec)} (hs : SpecsOk Tryd.prog (tabsT specs)) {A : Anns} (hA : A.orc = []) {f : Nat} (hf : fnOk Tryd.prog f = true) {args : List AV} {r : AV} (h : evalF Tryd.prog (tabsT specs) A f args = some r) : Contract Tryd.prog cfgT f args r :=
  evalF_ok (fitT specs) hs mixed hf (noOrc hA f) h
theorem doneG {specs : List (Nat × Pev.CSpec)} (hs : SpecsOk Tryd.prog (tabsG specs)) {A : Anns} (hA : A.orc = []) {f : Nat} (hf : fnOk Tryd.prog f = true) {args : List AV} {r : AV} (h : evalF Tryd.prog (tabsG specs) A f args = some r) : Contract Tryd.prog cfgG f args r :=
  evalF_ok (fitG specs) hs mixed hf (noOrc hA f) h
/-- The same, with one loop told. -/
theorem done1 {ea : Nat} {specs : List (Nat × Pev.CSpec)} (hs : SpecsOk Tryd.prog (tabs ea specs)) {A : Anns} {f : Nat} {c : Code} (hl : loopsF Tryd.prog f = [c]) (hO : OrcOk Tryd.prog (tabs ea specs) A c) (hf : fnOk Tryd.prog f = true) {args : List AV} {r : AV} (h : evalF Tryd.prog (tabs ea specs) A f args = some r) : Contract Tryd.prog cfg f args r :=
  evalF_ok (fit ea specs) hs mixed hf (fun c' hc' => by rw [hl] at hc'; obtain rfl := List.mem_singleton.1 hc'; exact hO) h
theorem doneT1 {specs : List (Nat × Pev.CSpec)} (hs : SpecsOk Tryd.prog (tabsT specs)) {A : Anns} {f : Nat} {c : Code} (hl : loopsF Tryd.prog f = [c]) (hO : OrcOk Tryd.prog (tabsT specs) A c) (hf : fnOk Tryd.prog f = true) {args : List AV} {r : AV} (h : evalF Tryd.prog (tabsT specs) A f args = some r) : Contract Tryd.prog cfgT f args r :=
  evalF_ok (fitT specs) hs mixed hf (fun c' hc' => by rw [hl] at hc'; obtain rfl := List.mem_singleton.1 hc'; exact hO) h
theorem doneG1 {specs : List (Nat × Pev.CSpec)} (hs : SpecsOk Tryd.prog (tabsG specs)) {A : Anns} {f : Nat} {c : Code} (hl : loopsF Tryd.prog f = [c]) (hO : OrcOk Tryd.prog (tabsG specs) A c) (hf : fnOk Tryd.prog f = true) {args : List AV} {r : AV} (h : evalF Tryd.prog (tabsG specs) A f args = some r) : Contract Tryd.prog cfgG f args r :=
  evalF_ok (fitG specs) hs mixed hf (fun c' hc' => by rw [hl] at hc'; obtain rfl := List.mem_singleton.1 hc'; exact hO) h
theorem orcIs {A : Anns} {c : Code} {o o' : Orc} (h : orcOf A c = some o) (h' : orcOf A c = some o') : o' = o := by rw [h] at h'; exact (Option.some.inj h').symm
end Go.Proofs.YtldkdhfcbopbhaaDoor
