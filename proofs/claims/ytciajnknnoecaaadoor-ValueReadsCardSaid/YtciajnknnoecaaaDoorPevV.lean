/- The pure evaluator, part V: what a row's listed variables give. Own text, over any program. -/
import Derived.Test.YtciajnknnoecaaaDoorPevU
import Derived.Lib.LaidTab
import Derived.Stop.LaidErr
import Derived.LaidHandle
namespace Go.Pev
open Go.RowKit Go.ChangeShapes

theorem GV.of_var {P : Program} {W : World} {n : String} {g : Nat} {cs : List Value} (hg : P.globalNamed n = some g) (h : W.var? P n = some cs.toArray) : (GV.is cs).ok W g := by
  unfold World.var? at h
  simp only [hg, Option.bind_some] at h
  split at h
  · rename_i cs' t fr hh
    obtain rfl := Option.some.inj h
    exact ⟨t, fr, hh⟩
  · cases h
theorem GV.to_var {P : Program} {W : World} {n : String} {g : Nat} {cs : List Value} (hg : P.globalNamed n = some g) (h : (GV.is cs).ok W g) : W.var? P n = some cs.toArray := by
  obtain ⟨t, fr, h⟩ := h
  simp [World.var?, hg, h]
theorem GV.face_of_head {P : Program} {n nm : String} {d : DataW Unit} {r : List (String × DataW Unit)} {W : World} {g : Nat} {ti : TypeId} {ms : Array (String × TypeId)}
    (h : laidMet P ((n, .iface nm d) :: r) W) (hg : P.globalNamed n = some g) (ht : (P.globals[g]?).map (·.type) = some ti) (hi : P.underlying ti = some (.interface ms)) : GV.face.ok W g := by
  obtain ⟨ps, ⟨g0, t0, cs0, f0, p0, q0, hg0, ht0, hv0, hd0, _, e0⟩, _, hrows⟩ := h
  obtain rfl := Option.some.inj (hg.symm.trans hg0)
  obtain rfl := Option.some.inj (ht.symm.trans ht0)
  obtain ⟨l0⟩ := cs0
  obtain ⟨_, u, v, rfl, _, _⟩ := iface_of_trod hi hd0
  obtain ⟨t, fr, hh⟩ := GV.of_var (cs := [.iface u v]) hg hv0
  exact ⟨u, v, t, fr, hh⟩
theorem GV.lt {W : World} {g : Nat} : ∀ {x : GV}, x.ok W g → g < W.heap.size
  | .is _, ⟨_, _, h⟩ => by
    rcases Nat.lt_or_ge g W.heap.size with h' | h'
    · exact h'
    · rw [Array.getElem?_eq_none h'] at h; cases h
  | .face, ⟨_, _, _, _, h⟩ => by
    rcases Nat.lt_or_ge g W.heap.size with h' | h'
    · exact h'
    · rw [Array.getElem?_eq_none h'] at h; cases h
theorem Glob.none {C : Cfg} {W : World} (h : C.glob = []) : Glob C (fun _ => False) W := by intro p hp; rw [h] at hp; cases hp
theorem Glob.cons {C : Cfg} {W : World} {g : Nat} {x : GV} {l : List (Nat × GV)} (hx : x.ok W g) (h : Glob { C with glob := l } (fun _ => False) W) : Glob { C with glob := (g, x) :: l } (fun _ => False) W := by
  intro p hp
  rcases List.mem_cons.1 hp with rfl | hp
  · exact ⟨hx, GV.lt hx, fun h => h⟩
  · exact h p hp
/-- A handle's one cell. -/
theorem GV.of_handle {P : Program} {W : World} {n : String} {nm : List UInt8} {d : DataW Unit} {g : Nat} {u ty : TypeId} (hd : d.handleName? = some nm) (hf : d.funcsIn?.isNone = true) (hg : P.globalNamed n = some g) (hrt : (P.cutTypes.find? (·.1 == "internal/reflectlite.rtype")).map (·.2) = some u)
    (hone : ((List.range P.types.size).filter fun t => P.rowNamed t nm) = [ty]) (h : handlesMet P [(n, d)] W) : (GV.is [.iface u (.agg #[typeHandle P ty])]).ok W g := by
  have h2 := h _ (List.mem_singleton.2 rfl)
  dsimp only at h2
  cases hfi : d.funcsIn? with
  | some x => rw [hfi] at hf; cases hf
  | none =>
    rw [hfi] at h2
    obtain ⟨name, u', ty', e1, e2, e3, e4, e5⟩ := h2
    obtain rfl := Option.some.inj (hd.symm.trans e1)
    obtain rfl := Option.some.inj (hrt.symm.trans e2)
    have hm : ty' ∈ (List.range P.types.size).filter fun t => P.rowNamed t nm := List.mem_filter.2 ⟨List.mem_range.2 e3, e4⟩
    rw [hone] at hm
    obtain rfl := List.mem_singleton.1 hm
    exact GV.of_var hg e5
end Go.Pev
