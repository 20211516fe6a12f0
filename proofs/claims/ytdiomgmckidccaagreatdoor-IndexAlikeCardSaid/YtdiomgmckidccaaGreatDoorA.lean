/- The shapes of this translation's types, and what the pure evaluator asks of the program. -/
import Derived.Test.YtdiomgmckidccaaGreatDoorProg
import Derived.KernelRfl
import Derived.Test.YtdiomgmckidccaaGreatDoorPewZa
namespace Go.Proofs.YtdiomgmckidccaaGreatDoor
open Go Go.Pev
abbrev shVal : Sh := (.pair (.int .i64) (.pair (.int .i64) (.pair .str .bool)))
abbrev shAttr : Sh := (.pair .str shVal)
abbrev shEvent : Sh := .sl shAttr
abbrev shBound : Sh := (.pair .str (.pair (.int .i64) (.pair (.int .i64) (.pair (.int .i64) (.pair .bool (.pair .str (.pair .bool .bool)))))))
abbrev shFil : Sh := (.pair .bool (.sl shBound))
abbrev shPlace : Sh := (.pair (.int .i64) (.int .i64))
abbrev shE : Sh := (.pair .bool (.pair (.sl shPlace) (.int .i64)))
abbrev shIdx : Sh := (.pair (.rf .map) (.rf .map))
abbrev shItem : Sh := (.pair (.int .i64) shFil)
abbrev shOp8 : Sh := (.pair (.int .i64) (.pair (.int .i64) (.pair shFil shEvent)))
/-- A value of layer 2. -/
abbrev V := Int × Int × ByteArray × Bool
abbrev av (v : V) : AV := .ag [.int .i64 v.1, .int .i64 v.2.1, .str v.2.2.1, .bool v.2.2.2]
def cfg : Cfg := { errno := 36, fptr := 117, fault := 121, glob := [] }
def globT : List (Nat × GV) := [(1, .num)]
def globG : List (Nat × GV) := (0, .is [.iface 185 (.agg #[.pointer (some ⟨2, 42, none⟩)])]) :: globT
def cfgT : Cfg := { cfg with glob := globT }
def cfgG : Cfg := { cfg with glob := globG }
def objs : List Nat := [86]
def shs : List (Nat × Sh) := [(2, (.int .i64)), (3, (.int .i64)), (4, .bool), (5, (.int .u8)), (7, (.pair (.int .i64) (.pair (.int .i64) (.pair .bool (.int .u8))))), (9, .str), (12, (.int .u64)), (13, (.pair .str (.int .u64))), (21, (.int .i32)), (22, (.sl shOp8)), (24, (.rf .ptr)), (25, (.sl shItem)), (30, (.sl shBound)), (31, (.pair .bool (.sl shBound))), (32, shFil), (33, (.sl shAttr)), (34, shEvent), (35, (.sl shPlace)), (36, (.int .i64)), (37, (.pair .bool (.pair (.sl shPlace) (.int .i64)))), (38, shE), (40, (.sl (.int .i64))), (42, .err), (45, (.sl .str)), (54, (.pair (.int .i64) shFil)), (55, shItem), (57, (.pair .str (.pair (.int .i64) (.pair (.int .i64) (.pair (.int .i64) (.pair .bool (.pair .str (.pair .bool .bool)))))))), (58, shBound), (67, (.pair (.int .i64) (.pair (.int .i64) (.pair .str .bool)))), (68, shVal), (69, (.pair .str shVal)), (70, shAttr), (71, (.pair (.int .i64) (.pair (.int .i64) (.pair shFil shEvent)))), (72, shOp8), (81, (.rf .map)), (82, (.rf .map)), (83, (.rf .map)), (84, (.rf .map)), (85, (.pair (.rf .map) (.rf .map))), (86, shIdx), (113, (.int .u64)), (115, (.pair (.int .i64) (.int .i64))), (116, shPlace), (117, (.pt (.pair shPlace .err))), (120, (.pair shPlace .err)), (121, (.pair shPlace .err)), (122, .ptr), (126, (.sl .err)), (137, (.int .i64)), (145, (.int .u32)), (147, (.int .u64)), (172, (.int .u64)), (204, (.sl (.int .u8))), (223, (.pair .str (.int .u8))), (227, (.int .u16)), (228, (.pair (.int .i32) (.pair (.int .u16) (.pair (.int .u16) (.pair (.int .u32) (.int .u32)))))), (230, (.sl (.pair (.int .i32) (.pair (.int .i32) (.pair (.int .i32) (.int .i32)))))), (232, (.pair (.int .i32) (.pair (.int .i32) (.pair (.int .i32) (.int .i32)))))]
def eqs : List Nat := [58, 68, 70, 116, 57, 67, 69, 115]
def asF : Nat := 60
def asPtr : Nat := 119
def asNum : Nat := 122
theorem shs_ok : TysOk Tryz.prog shs := ⟨(by unfold TyOk; kernel_rfl), (by unfold TyOk; kernel_rfl), (by unfold TyOk; kernel_rfl), (by unfold TyOk; kernel_rfl), (by unfold TyOk; kernel_rfl), (by unfold TyOk; kernel_rfl), (by unfold TyOk; kernel_rfl), (by unfold TyOk; kernel_rfl), (by unfold TyOk; kernel_rfl), (by unfold TyOk; kernel_rfl), (by unfold TyOk; kernel_rfl), (by unfold TyOk; kernel_rfl), (by unfold TyOk; kernel_rfl), (by unfold TyOk; kernel_rfl), (by unfold TyOk; kernel_rfl), (by unfold TyOk; kernel_rfl), (by unfold TyOk; kernel_rfl), (by unfold TyOk; kernel_rfl), (by unfold TyOk; kernel_rfl), (by unfold TyOk; kernel_rfl), (by unfold TyOk; kernel_rfl), (by unfold TyOk; kernel_rfl), (by unfold TyOk; kernel_rfl), (by unfold TyOk; kernel_rfl), (by unfold TyOk; kernel_rfl), (by unfold TyOk; kernel_rfl), (by unfold TyOk; kernel_rfl), (by unfold TyOk; kernel_rfl), (by unfold TyOk; kernel_rfl), (by unfold TyOk; kernel_rfl), (by unfold TyOk; kernel_rfl), (by unfold TyOk; kernel_rfl), (by unfold TyOk; kernel_rfl), (by unfold TyOk; kernel_rfl), (by unfold TyOk; kernel_rfl), (by unfold TyOk; kernel_rfl), (by unfold TyOk; kernel_rfl), (by unfold TyOk; kernel_rfl), (by unfold TyOk; kernel_rfl), (by unfold TyOk; kernel_rfl), (by unfold TyOk; kernel_rfl), (by unfold TyOk; kernel_rfl), (by unfold TyOk; kernel_rfl), (by unfold TyOk; kernel_rfl), (by unfold TyOk; kernel_rfl), (by unfold TyOk; kernel_rfl), (by unfold TyOk; kernel_rfl), (by unfold TyOk; kernel_rfl), (by unfold TyOk; kernel_rfl), (by unfold TyOk; kernel_rfl), (by unfold TyOk; kernel_rfl), (by unfold TyOk; kernel_rfl), (by unfold TyOk; kernel_rfl), (by unfold TyOk; kernel_rfl), (by unfold TyOk; kernel_rfl), (by unfold TyOk; kernel_rfl), (by unfold TyOk; kernel_rfl), (by unfold TyOk; kernel_rfl), trivial⟩
def A0 : Anns := { l := [], orc := [], N := 1000 }
def tabs (ea : Nat) (specs : List (Nat × Pev.CSpec)) : Tabs := { cfg with asF := ea, asPtr := asPtr, asNum := asNum, shs := shs, eqs := eqs, specs := specs, objs := objs }
def tabsT (specs : List (Nat × Pev.CSpec)) : Tabs := { cfgT with asF := 0, asPtr := asPtr, asNum := asNum, shs := shs, eqs := eqs, specs := specs, objs := objs }
def tabsG (specs : List (Nat × Pev.CSpec)) : Tabs := { cfgG with asF := asF, asPtr := asPtr, asNum := asNum, shs := shs, eqs := eqs, specs := specs, objs := objs }
theorem fit (ea : Nat) (specs : List (Nat × Pev.CSpec)) : Fit Tryz.prog (tabs ea specs) := ⟨shs_ok, by kernel_rfl, by kernel_rfl, by kernel_rfl, by show cfg.errno ≠ cfg.fptr; decide⟩
theorem fitT (specs : List (Nat × Pev.CSpec)) : Fit Tryz.prog (tabsT specs) := ⟨shs_ok, by kernel_rfl, by kernel_rfl, by kernel_rfl, by show cfg.errno ≠ cfg.fptr; decide⟩
theorem fitG (specs : List (Nat × Pev.CSpec)) : Fit Tryz.prog (tabsG specs) := ⟨shs_ok, by kernel_rfl, by kernel_rfl, by kernel_rfl, by show cfg.errno ≠ cfg.fptr; decide⟩
theorem mixed : Tryz.prog.follows .mixedOrders = true := by kernel_rfl
/-- A function without loops told, by its evaluation. -/
theorem done {ea : Nat} {specs : List (Nat × Pev.CSpec)} (hs : SpecsOk Tryz.prog (tabs ea specs)) {A : Anns} (hA : A.orc = []) {f : Nat} (hf : fnOk Tryz.prog f = true) {args : List AV} {r : AV} (h : evalF Tryz.prog (tabs ea specs) A f args = some r) : Contract Tryz.prog cfg f args r :=
  evalF_ok (fit ea specs) hs mixed hf (noOrc hA f) h
theorem enter {g : Nat} {fn : Func} (h1 : Tryz.prog.funcs[g]? = some fn) (h2 : (fn.name == "runtime.NumGoroutine") = false) (h3 : fn.body.isNone = false) : EnterOk Tryz.prog g := by
  intro args w
  have h2' : fn.name ≠ "runtime.NumGoroutine" := by simpa using h2
  have h3' : fn.body ≠ none := by intro e; rw [e] at h3; cases h3
  simp [callFunc, h1, h2', h3']
theorem noSpecs : SpecsOk Tryz.prog (tabs 0 []) := ⟨(fun g sp h => by cases h), .inl rfl⟩
theorem oneSpecT {ea : Nat} {specs : List (Nat × Pev.CSpec)} (hs : SpecsOk Tryz.prog (tabs ea specs)) {g : Nat} {sp : Pev.CSpec} (h : EnterOk Tryz.prog g ∧ CSpecOk Tryz.prog cfg g sp) : SpecsOk Tryz.prog (tabs ea ((g, sp) :: specs)) :=
  ⟨(fun g' sp' hg => by
    rw [show Pev.get (tabs ea ((g, sp) :: specs)).specs g' = if g = g' then some sp else Pev.get specs g' from get_cons _ _ _ _] at hg
    split at hg
    · rename_i e; subst e; obtain rfl := Option.some.inj hg; exact h
    · exact hs.specs g' sp' hg), hs.as.imp id fun h => ⟨h.enter, h.calls⟩⟩
theorem oneSpec {ea : Nat} {specs : List (Nat × Pev.CSpec)} (hs : SpecsOk Tryz.prog (tabs ea specs)) {g : Nat} {sp : Pev.Spec} (h : EnterOk Tryz.prog g ∧ SpecOk Tryz.prog cfg g sp) : SpecsOk Tryz.prog (tabs ea ((g, (sp : Pev.CSpec)) :: specs)) :=
  oneSpecT hs ⟨h.1, h.2.tree⟩
theorem noSpecsT : SpecsOk Tryz.prog (tabsT []) := ⟨(fun g sp h => by cases h), .inl rfl⟩
theorem oneSpecTT {specs : List (Nat × Pev.CSpec)} (hs : SpecsOk Tryz.prog (tabsT specs)) {g : Nat} {sp : Pev.CSpec} (h : EnterOk Tryz.prog g ∧ CSpecOk Tryz.prog cfgT g sp) : SpecsOk Tryz.prog (tabsT ((g, sp) :: specs)) := hs.cons h
theorem oneSpecGT {specs : List (Nat × Pev.CSpec)} (hs : SpecsOk Tryz.prog (tabsG specs)) {g : Nat} {sp : Pev.CSpec} (h : EnterOk Tryz.prog g ∧ CSpecOk Tryz.prog cfgG g sp) : SpecsOk Tryz.prog (tabsG ((g, sp) :: specs)) := hs.cons h
theorem oneSpecG {specs : List (Nat × Pev.CSpec)} (hs : SpecsOk Tryz.prog (tabsG specs)) {g : Nat} {sp : Pev.Spec} (h : EnterOk Tryz.prog g ∧ SpecOk Tryz.prog cfgG g sp) : SpecsOk Tryz.prog (tabsG ((g, (sp : Pev.CSpec)) :: specs)) := hs.cons ⟨h.1, h.2.tree⟩
/-- What holds without package variables holds beside them. -/
theorem liftT {g : Nat} {sp : Pev.CSpec} (h : EnterOk Tryz.prog g ∧ CSpecOk Tryz.prog cfg g sp) : EnterOk Tryz.prog g ∧ CSpecOk Tryz.prog cfgT g sp :=
  ⟨h.1, fun args res hs => Contract.glob (C := cfg) (g := globT) (h.2 args res hs) (fun p hp => by cases hp)⟩
theorem liftGT {g : Nat} {sp : Pev.CSpec} (h : EnterOk Tryz.prog g ∧ CSpecOk Tryz.prog cfg g sp) : EnterOk Tryz.prog g ∧ CSpecOk Tryz.prog cfgG g sp :=
  ⟨h.1, fun args res hs => Contract.glob (C := cfg) (g := globG) (h.2 args res hs) (fun p hp => by cases hp)⟩
theorem liftG {g : Nat} {sp : Pev.Spec} (h : EnterOk Tryz.prog g ∧ SpecOk Tryz.prog cfg g sp) : EnterOk Tryz.prog g ∧ SpecOk Tryz.prog cfgG g sp :=
  ⟨h.1, fun args res hs => Contract.glob (C := cfg) (g := globG) (h.2 args res hs) (fun p hp => by cases hp)⟩
theorem liftTG {g : Nat} {sp : Pev.CSpec} (h : EnterOk Tryz.prog g ∧ CSpecOk Tryz.prog cfgT g sp) : EnterOk Tryz.prog g ∧ CSpecOk Tryz.prog cfgG g sp :=
  ⟨h.1, fun args res hs => Contract.glob (C := cfgT) (g := globG) (h.2 args res hs) (fun p hp => List.mem_cons_of_mem _ hp)⟩
theorem tree {C : Cfg} {g : Nat} {sp : Pev.Spec} (h : EnterOk Tryz.prog g ∧ SpecOk Tryz.prog C g sp) : EnterOk Tryz.prog g ∧ CSpecOk Tryz.prog C g (sp : Pev.CSpec) := ⟨h.1, h.2.tree⟩
theorem doneT {specs : List (Nat × Pev.CSpec)} (hs : SpecsOk Tryz.prog (tabsT specs)) {A : Anns} (hA : A.orc = []) {f : Nat} (hf : fnOk Tryz.prog f = true) {args : List AV} {r : AV} (h : evalF Tryz.prog (tabsT specs) A f args = some r) : Contract Tryz.prog cfgT f args r :=
  evalF_ok (fitT specs) hs mixed hf (noOrc hA f) h
theorem doneG {specs : List (Nat × Pev.CSpec)} (hs : SpecsOk Tryz.prog (tabsG specs)) {A : Anns} (hA : A.orc = []) {f : Nat} (hf : fnOk Tryz.prog f = true) {args : List AV} {r : AV} (h : evalF Tryz.prog (tabsG specs) A f args = some r) : Contract Tryz.prog cfgG f args r :=
  evalF_ok (fitG specs) hs mixed hf (noOrc hA f) h
/-- The same, with one loop told. -/
theorem done1 {ea : Nat} {specs : List (Nat × Pev.CSpec)} (hs : SpecsOk Tryz.prog (tabs ea specs)) {A : Anns} {f : Nat} {c : Code} (hl : loopsF Tryz.prog f = [c]) (hO : OrcOk Tryz.prog (tabs ea specs) A c) (hf : fnOk Tryz.prog f = true) {args : List AV} {r : AV} (h : evalF Tryz.prog (tabs ea specs) A f args = some r) : Contract Tryz.prog cfg f args r :=
  evalF_ok (fit ea specs) hs mixed hf (fun c' hc' => by rw [hl] at hc'; obtain rfl := List.mem_singleton.1 hc'; exact hO) h
theorem doneT1 {specs : List (Nat × Pev.CSpec)} (hs : SpecsOk Tryz.prog (tabsT specs)) {A : Anns} {f : Nat} {c : Code} (hl : loopsF Tryz.prog f = [c]) (hO : OrcOk Tryz.prog (tabsT specs) A c) (hf : fnOk Tryz.prog f = true) {args : List AV} {r : AV} (h : evalF Tryz.prog (tabsT specs) A f args = some r) : Contract Tryz.prog cfgT f args r :=
  evalF_ok (fitT specs) hs mixed hf (fun c' hc' => by rw [hl] at hc'; obtain rfl := List.mem_singleton.1 hc'; exact hO) h
theorem doneG1 {specs : List (Nat × Pev.CSpec)} (hs : SpecsOk Tryz.prog (tabsG specs)) {A : Anns} {f : Nat} {c : Code} (hl : loopsF Tryz.prog f = [c]) (hO : OrcOk Tryz.prog (tabsG specs) A c) (hf : fnOk Tryz.prog f = true) {args : List AV} {r : AV} (h : evalF Tryz.prog (tabsG specs) A f args = some r) : Contract Tryz.prog cfgG f args r :=
  evalF_ok (fitG specs) hs mixed hf (fun c' hc' => by rw [hl] at hc'; obtain rfl := List.mem_singleton.1 hc'; exact hO) h
theorem orcIs {A : Anns} {c : Code} {o o' : Orc} (h : orcOf A c = some o) (h' : orcOf A c = some o') : o' = o := by rw [h] at h'; exact (Option.some.inj h').symm
end Go.Proofs.YtdiomgmckidccaaGreatDoor
