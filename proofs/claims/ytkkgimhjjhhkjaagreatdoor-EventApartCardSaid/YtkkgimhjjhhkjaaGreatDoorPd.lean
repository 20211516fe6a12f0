/- slices.Delete at []Attr, one element: the walk, over runs that are told by equations. -/
import Derived.Test.YtkkgimhjjhhkjaaGreatDoorPewAj
import Derived.Test.YtkkgimhjjhhkjaaGreatDoorPi
set_option maxRecDepth 100000
namespace Go.Proofs.YtkkgimhjjhhkjaaGreatDoor
open Go Go.Pev Go.Lib Go.RowKit Go.Shelf
theorem step_append_runI {P : Program} {ops : Array Oper} {o : Oper} {a : Act} {w : World} {K : Act → World → Prop} {Q : Exit → Act → World → Prop} {E : Prop}
    (hg : o.guard = none) (d x : Operand) (dT sT : TypeId) (hop : o.op = Op.call { callee := Callee.builtin Builtin.append, args := #[d, x], argTypes := #[dT, sT] })
    (v u : Value) (hd : a.eval d = v) (hx : a.eval x = u) {v' : Value} {w' : World} (hr : (Builtin.append_ #[dT, sT] o.type #[v, u]).run P w = .ok v' w') (hK : K (a.put o.dst v') w') :
    if Region.wanted o (yielded ops a.tmps) = true then Oper.wp P o a w K Q else E := by
  have hw : Region.wanted o (yielded ops a.tmps) = true := by simp [Region.wanted, hg]
  rw [if_pos hw]
  unfold Oper.wp
  simp [execOp, hop, resolve, invoke, builtin, hd, hx, hr, Result.andThen]
  exact hK
set_option maxHeartbeats 4000000 in
theorem delete_in (g n c i : Nat) (hi : i + 1 < n) (hnc : n ≤ c) (hc63 : c ≤ 9223372036854775807) {w w1 w2 : World}
    (hap : ∀ ty cc, (Builtin.append_ #[23, 23] ty #[.slice (some ⟨g, 0, none⟩) i c, .slice (some ⟨g, (i + 1) * 5, none⟩) (n - (i + 1)) cc]).run Tryz.prog w.drew = .ok (.slice (some ⟨g, 0, none⟩) (n - 1) c) w1)
    (hcl : ∀ ty cc, (Builtin.clear_ #[23] ty #[.slice (some ⟨g, (n - 1) * 5, none⟩) (n - (n - 1)) cc]).run Tryz.prog w1 = .ok (.tuple #[]) w2) :
    Calls Tryz.prog 58 #[.slice (some ⟨g, 0, none⟩) n c, .int .i64 i, .int .i64 ((i : Int) + 1)] w fun e w' => e = .returned (.slice (some ⟨g, 0, none⟩) (n - 1) c) ∧ w' = w2 := by
  have mixed := mixed
  have hne : ((i : Int) == (i : Int) + 1) = false := beq_eq_false_iff_ne.2 (by omega)
  have hb1 : (0 : Int) ≤ (i : Int) + 1 := by omega
  have hin : i ≤ n := by omega
  have htn : ((i : Int) + 1).toNat = i + 1 := by omega
  have hb2 : ¬ (c = i + 1) := by omega
  have hb3 : (i : Int) + 1 ≤ (n : Int) := by omega
  have hb5 : (i : Int) ≤ (i : Int) + 1 := by omega
  have hb4 : ¬ (c = i) := by omega
  have hb6 : ¬ (c = n - 1) := by omega
  have hb7 : n - 1 ≤ n := by omega
  have hb8 : ((n - 1 : Nat) : Int) ≤ (n : Int) := by omega
  have hb9 : (n : Int) ≤ (c : Int) := by omega
  have hb10 : (i : Int) ≤ (c : Int) := by omega
  have hb11 : (i : Int) + 1 ≤ (c : Int) := by omega
  go_enter Tryz.func58, Tryz.ntmps58
  go_wp2
  go_region_law_o (refine step_append_runI rfl _ _ 23 23 rfl _ _ (by simp [Act.eval, Act.put]) (by simp [Act.eval, Act.put]) (hap _ (c - (i + 1))) ?_)
  go_wp2_with (at_builtin; refine wpList_clear_run _ rfl _ 23 rfl _ rfl (hcl _ _) ?_)
  go_ret
  exact ⟨rfl, rfl⟩
set_option maxHeartbeats 4000000 in
theorem delete_last (g n c i : Nat) (hi : i + 1 = n) (hnc : n ≤ c) (hc63 : c ≤ 9223372036854775807) {w w1 w2 : World}
    (hap : ∀ ty A cc, (Builtin.append_ #[23, 23] ty #[.slice (some ⟨g, 0, none⟩) i c, .slice A 0 cc]).run Tryz.prog w.drew = .ok (.slice (some ⟨g, 0, none⟩) i c) w1)
    (hcl : ∀ ty cc, (Builtin.clear_ #[23] ty #[.slice (some ⟨g, i * 5, none⟩) 1 cc]).run Tryz.prog w1 = .ok (.tuple #[]) w2) :
    Calls Tryz.prog 58 #[.slice (some ⟨g, 0, none⟩) n c, .int .i64 i, .int .i64 ((i : Int) + 1)] w fun e w' => e = .returned (.slice (some ⟨g, 0, none⟩) i c) ∧ w' = w2 := by
  subst hi
  have mixed := mixed
  have hne : ((i : Int) == (i : Int) + 1) = false := beq_eq_false_iff_ne.2 (by omega)
  have hb1 : (0 : Int) ≤ (i : Int) + 1 := by omega
  have hin : i ≤ i + 1 := by omega
  have htn : ((i : Int) + 1).toNat = i + 1 := by omega
  have hb5 : (i : Int) ≤ (i : Int) + 1 := by omega
  have hb4 : ¬ (c = i) := by omega
  have hb9 : (i : Int) + 1 ≤ (c : Int) := by omega
  have hb10 : (i : Int) ≤ (c : Int) := by omega
  have hb11 : i ≤ c := by omega
  by_cases hb2 : c = i + 1
  · subst hb2
    go_enter Tryz.func58, Tryz.ntmps58
    go_wp2
    go_region_law_o (refine step_append_runI rfl _ _ 23 23 rfl _ _ (by simp [Act.eval, Act.put]) (by simp [Act.eval, Act.put]) (hap _ (some ⟨g, 0, none⟩) 0) ?_)
    go_wp2_with (at_builtin; refine wpList_clear_run _ rfl _ 23 rfl _ rfl (hcl _ _) ?_)
    go_ret
    exact ⟨rfl, rfl⟩
  · go_enter Tryz.func58, Tryz.ntmps58
    go_wp2
    go_region_law_o (refine step_append_runI rfl _ _ 23 23 rfl _ _ (by simp [Act.eval, Act.put]) (by simp [Act.eval, Act.put]) (hap _ (some ⟨g, (i + 1) * 5, none⟩) (c - (i + 1))) ?_)
    go_wp2_with (at_builtin; refine wpList_clear_run _ rfl _ 23 rfl _ rfl (hcl _ _) ?_)
    go_ret
    exact ⟨rfl, rfl⟩
theorem delWalk : DelWalk Tryz.prog 58 23 5 :=
  ⟨fun g n c i h1 h2 h3 w w1 w2 h4 h5 => delete_in g n c i h1 h2 h3 h4 (by rw [show n - (n - 1) = 1 by omega]; exact h5), fun g n c i h1 h2 h3 w w1 w2 h4 h5 => delete_last g n c i h1 h2 h3 h4 h5⟩
theorem delete_spec : EnterOk Tryz.prog 58 ∧ CSpecOk Tryz.prog cfgG 58 (del_sp 50 shAttr) := ⟨enter Tryz.func58 (by kernel_rfl) (by kernel_rfl), del_ok delWalk attrElem (hone_of shs_ok (e := 50) (s := shAttr) rfl)⟩
noncomputable def L_insert : List (Nat × CSpec) := (54, ins_sp 56 50 shAttr) :: L_ref03_DocDrop
theorem s_insert : SpecsOk Tryz.prog (tabsG L_insert) := oneSpecGT s_ref03_DocDrop insert_spec
noncomputable def L_delete : List (Nat × CSpec) := (58, del_sp 50 shAttr) :: L_insert
theorem s_delete : SpecsOk Tryz.prog (tabsG L_delete) := oneSpecGT s_insert delete_spec
end Go.Proofs.YtkkgimhjjhhkjaaGreatDoor
