/- slices.Insert at []Attr: the walk, over runs that are told by equations. -/
import Derived.Test.YtkkgimhjjhhkjaaGreatDoorPewAi
import Derived.Test.YtkkgimhjjhhkjaaGreatDoorGa
import Derived.Lib.SliceRun
import Derived.Lib.Walk
import Derived.WalkKit
import Derived.Deep.Draws
import Derived.Shelf.RegionOpenPlain
import Derived.KernelRfl
set_option maxRecDepth 100000
namespace Go.Proofs.YtkkgimhjjhhkjaaGreatDoor
open Go Go.Pev Go.Lib Go.RowKit Go.Shelf
set_option maxHeartbeats 4000000 in
/-- At the end. -/
theorem insert_end (base : Option Addr) (n c : Nat) (ad : Addr) (vc : Nat) {w w1 : World} {v' : Value}
    (hrun : ∀ ty, (Builtin.append_ #[23, 22] ty #[.slice base n c, .slice (some ad) 1 vc]).run Tryz.prog w = .ok v' w1) :
    Calls Tryz.prog 54 #[.slice base n c, .int .i64 n, .slice (some ad) 1 vc] w fun e w' => e = .returned v' ∧ w' = w1 := by
  go_enter Tryz.func54, Tryz.ntmps54
  cases base with
  | none =>
    go_wp2_with (at_builtin; refine Lib.wpList_append_run _ rfl _ _ _ _ rfl _ _ rfl rfl _ _ (hrun _) ?_)
    all_goals (go_ret; exact ⟨rfl, rfl⟩)
  | some a =>
    obtain ⟨ab, ao, asp⟩ := a
    go_wp2_with (at_builtin; refine Lib.wpList_append_run _ rfl _ _ _ _ rfl _ _ rfl rfl _ _ (hrun _) ?_)
    all_goals (go_ret; exact ⟨rfl, rfl⟩)
set_option maxHeartbeats 4000000 in
/-- In the row: there is room. -/
theorem insert_room (g n c i : Nat) (ad : Addr) (vc : Nat) (hi : i < n) (hroom : n + 1 ≤ c) (hc63 : c ≤ 9223372036854775807) {w w1 w2 : World} {x x' : Value}
    (hov : ∀ lb cb, (callFunc 82 #[.slice (some ad) 1 vc, .slice (some ⟨g, (i + 1) * 5, none⟩) lb cb]).run Tryz.prog w = .ok (.value (.bool false)) w)
    (hcp1 : ∀ ty dc sc, (Builtin.copy_ #[23, 23] ty #[.slice (some ⟨g, (i + 1) * 5, none⟩) (n - i) dc, .slice (some ⟨g, i * 5, none⟩) (n + 1 - i) sc]).run Tryz.prog w.drew = .ok x w1)
    (hcp2 : ∀ ty dc, (Builtin.copy_ #[23, 22] ty #[.slice (some ⟨g, i * 5, none⟩) (n + 1 - i) dc, .slice (some ad) 1 vc]).run Tryz.prog w1 = .ok x' w2) :
    Calls Tryz.prog 54 #[.slice (some ⟨g, 0, none⟩) n c, .int .i64 i, .slice (some ad) 1 vc] w fun e w' => e = .returned (.slice (some ⟨g, 0, none⟩) (n + 1) c) ∧ w' = w2 := by
  have mixed := mixed
  have hz2 : ¬ ((i : Int) = (n : Int)) := by omega
  have hw1 : IntKind.i64.wrap ((i : Int) + 1) = (i : Int) + 1 := by rw [IntKind.wrap_i64]; omega
  have hb1 : (0 : Int) ≤ (i : Int) + 1 := by omega
  have hin : i ≤ n := by omega
  have htn : ((i : Int) + 1).toNat = i + 1 := by omega
  have hb2 : ¬ (c = i + 1) := by omega
  have hb3 : (i : Int) ≤ (n : Int) + 1 := by omega
  have hb4 : ¬ (c = i) := by omega
  go_enter Tryz.func54, Tryz.ntmps54
  go_wp2_with (simp only [hov])
  go_region_law_o (refine step_copy_runI rfl _ _ 23 23 rfl _ _ (by simp [Act.eval, Act.put]) (by simp [Act.eval, Act.put]) (hcp1 _ _ _) ?_)
  go_wp2_with (at_builtin; refine wpList_copy_runI _ rfl _ _ 23 22 rfl _ _ rfl rfl (hcp2 _ _) ?_)
  go_ret
  exact ⟨rfl, rfl⟩
set_option maxHeartbeats 4000000 in
/-- In the row: there is no room. -/
theorem insert_grow (g n c i N G : Nat) (ad : Addr) (vc : Nat) (hi : i < n) (hnc : n ≤ c) (hroom : c < n + 1) (hG : n + 1 ≤ G) (hG63 : G ≤ 9223372036854775807) {w W1 W2 W3 : World} {x x' : Value}
    (hrz : ∀ ty, (Builtin.append_ #[23, 3] ty #[.slice (some ⟨g, 0, none⟩) i c, .int .i64 ((n : Int) + 1 - (i : Int))]).run Tryz.prog w = .ok (.slice (some ⟨N, 0, none⟩) (n + 1) G) W1)
    (hcpA : ∀ ty dc, (Builtin.copy_ #[23, 22] ty #[.slice (some ⟨N, i * 5, none⟩) (n + 1 - i) dc, .slice (some ad) 1 vc]).run Tryz.prog W1 = .ok x W2)
    (hcpB : ∀ ty dc sc, (Builtin.copy_ #[23, 23] ty #[.slice (some ⟨N, (i + 1) * 5, none⟩) (n - i) dc, .slice (some ⟨g, i * 5, none⟩) (n - i) sc]).run Tryz.prog W2.drew = .ok x' W3) :
    Calls Tryz.prog 54 #[.slice (some ⟨g, 0, none⟩) n c, .int .i64 i, .slice (some ad) 1 vc] w fun e w' => e = .returned (.slice (some ⟨N, 0, none⟩) (n + 1) G) ∧ w' = W3 := by
  have mixed := mixed
  have hz2 : ¬ ((i : Int) = (n : Int)) := by omega
  have hz3 : (c : Int) < (n : Int) + 1 := by omega
  have hw1 : IntKind.i64.wrap ((i : Int) + 1) = (i : Int) + 1 := by rw [IntKind.wrap_i64]; omega
  have hb1 : (0 : Int) ≤ (i : Int) + 1 := by omega
  have hin : i ≤ n := by omega
  have htn : ((i : Int) + 1).toNat = i + 1 := by omega
  have hb3 : (i : Int) ≤ (n : Int) := by omega
  have hGi : ¬ (G = i) := by omega
  have hGim : ¬ (G = i + 1) := by omega
  have hci : ¬ (c = i) := by omega
  go_enter Tryz.func54, Tryz.ntmps54
  go_wp2_with (first
    | (at_builtin; refine Lib.wpList_append_run _ rfl _ _ _ _ rfl _ _ rfl rfl _ _ (hrz _) ?_)
    | (at_builtin; refine wpList_copy_runI _ rfl _ _ 23 22 rfl _ _ rfl rfl (hcpA _ _) ?_))
  go_region_law_o (refine step_copy_runI rfl _ _ 23 23 rfl _ _ (by simp [Act.eval, Act.put]) (by simp [Act.eval, Act.put]) (hcpB _ _ _) ?_)
  go_wp2
  go_ret
  exact ⟨rfl, rfl⟩
theorem insWalk : InsWalk Tryz.prog 54 82 23 22 3 5 :=
  ⟨fun base n c ad vc w w1 v' h => insert_end base n c ad vc h, fun g n c i ad vc h1 h2 h3 w w1 w2 x x' h4 h5 h6 => insert_room g n c i ad vc h1 h2 h3 h4 h5 h6, fun g n c i N G ad vc h1 h2 h3 h4 h5 w W1 W2 W3 x x' h6 h7 h8 => insert_grow g n c i N G ad vc h1 h2 h3 h4 h5 h6 h7 h8⟩
theorem attrElem : ElemOk Tryz.prog 23 22 3 50 5 56 := by
  obtain ⟨ti, z, hi, hsz, hz, hzc⟩ := (shs_ok.get (t := 50) (s := shAttr) rfl).info
  have hb : bytesOf' Tryz.prog 50 = 56 := by kernel_rfl
  refine ⟨by kernel_rfl, by kernel_rfl, by kernel_rfl, ⟨ti, z, hi, hz, hsz, ?_, ?_⟩, by decide, by decide⟩
  · rw [← hb]; simp [bytesOf', hi]
  · rw [hzc, List.size_toArray, zeroCells_len]; rfl
theorem insert_spec : EnterOk Tryz.prog 54 ∧ CSpecOk Tryz.prog cfgG 54 (ins_sp 56 50 shAttr) := ⟨enter Tryz.func54 (by kernel_rfl) (by kernel_rfl), ins_ok (rt := 4) insWalk attrElem fun args w v w' h => by
  rw [run_callFunc_extern Tryz.func82 (by kernel_rfl) (by kernel_rfl) (by kernel_rfl) (e := Extern.SlicesOverlaps.overlaps #[22, 22] #[4]) (by kernel_rfl), h]
  rfl⟩
end Go.Proofs.YtkkgimhjjhhkjaaGreatDoor
