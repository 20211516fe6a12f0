/- strconv.FormatUint at base 10: the decimal numeral, for every uint64. -/
import Derived.Test.YtkkgimhjjhhkjaaDoorSh
import Derived.Test.YtkkgimhjjhhkjaaDoorBs
import Derived.Lib.AppendIntMem
import Derived.Lib.Walk
import Derived.Lib.ItoaMem
import Derived.WalkKit
import Derived.BigCall
import Derived.BigGuard
namespace Go.Proofs.YtkkgimhjjhhkjaaDoor
open Go Go.Shelf Go.RowKit Go.Sort Go.Lib
set_option maxHeartbeats 6400000 in
set_option maxRecDepth 100000 in
theorem formatUint_10 (u : Nat) (hu64 : u < 18446744073709551616) (w : World)
    (htab : Lib.TabIs Tryd.prog w "internal/strconv.uint64pow10" .u64 Lib.pow10Tab) :
    Calls Tryd.prog 46 #[.int .u64 u, .int .i64 10] w fun e w' => e = .returned (.string ⟨(Lib.decDigits u).toArray⟩) ∧ ∃ k os, w' = grow (w.drewN k) os := by
  have e283 : ∀ args w, (callFunc 49 args).run Tryd.prog w = .ok (.enter 49 args) w := enters_of Tryd.func49 (by kernel_rfl) rfl
  have e284 : ∀ args w, (callFunc 50 args).run Tryd.prog w = .ok (.enter 50 args) w := enters_of Tryd.func50 (by kernel_rfl) rfl
  have e285 : ∀ args w, (callFunc 51 args).run Tryd.prog w = .ok (.enter 51 args) w := enters_of Tryd.func51 (by kernel_rfl) rfl
  by_cases hs : u < 100
  · go_enter Tryd.func46, Tryd.ntmps46
    go_wp2_with (go_at_fn 49; refine (Tryd.internal_strconv_small u hs _).mono ?_; rintro e w' ⟨rfl, rfl⟩)
    go_ret
    exact ⟨rfl, 0, #[], by simp [World.drewN_zero]⟩
  · have hu1 : 1 ≤ u := by omega
    have hnd20 : Lib.nDigits u ≤ 20 := by have := Lib.numDigits_eq u hu1 hu64; split at this <;> omega
    have hb3 : Lib.nDigits u ≤ 24 := by omega
    have hal : Tryd.prog.arrayLen 102 = 24 := by simp [Program.arrayLen, Tryd.underlying102]
    have hsl1 : ∀ W, (Instr.sliceAt 102 (.pointer (some ⟨w.heap.size, 0, none⟩)) none (some (.int .i64 (Lib.nDigits u : Int))) none).run Tryd.prog W = .ok (.slice (some ⟨w.heap.size, 0, none⟩) (Lib.nDigits u) 24) W := fun W => by
      rw [run_sliceAt_array_h W 102 ⟨w.heap.size, 0, none⟩ (by simp [Program.arrayLen, Program.elem, Tryd.underlying102]) .i64 (Lib.nDigits u : Int) (by omega) (by rw [hal]; omega)]
      go_simp
    have hH0 := Lib.holds_zero0 w 102 (Lib.nDigits u) (by omega)
    have hfmt := Tryd.internal_strconv_formatBase10 w.heap.size 0 24 u (Array.replicate (Lib.nDigits u) 0) (w.alloc (.cells Lib.zeros24 102)) hH0 (by rw [Array.size_replicate]; exact Lib.lt_pow_nDigits u) hu64 (by rw [Array.size_replicate]; omega)
    rw [Array.size_replicate] at hfmt
    have HH0 := Lib.hid hH0
    clear hH0 hal
    go_enter Tryd.func46, Tryd.ntmps46
    go_wp2_with (first
      | (go_at_fn 50; refine (Tryd.internal_strconv_numDigits u hu1 hu64 _ (Lib.tabIs_alloc htab _)).mono ?_; rintro e w' ⟨rfl, rfl⟩))
    go_at_fn 51
    refine hfmt.mono ?_
    rintro e w' ⟨rfl, k, v', dk, rfl, hF⟩
    have hcv : (convert 105 9 (.slice (some ⟨w.heap.size, 0, none⟩) (Lib.nDigits u) 24)).run Tryd.prog ((putRow (fun (b : UInt8) => Value.int .u8 (b.toNat : Int)) (w.alloc (.cells Lib.zeros24 102)) w.heap.size 0 dk).drewN k) = .ok (.string ⟨(Lib.decDigits u).toArray⟩) ((putRow (fun (b : UInt8) => Value.int .u8 (b.toNat : Int)) (w.alloc (.cells Lib.zeros24 102)) w.heap.size 0 dk).drewN k) := by
      have h := run_convert_bytes_back (P := Tryd.prog) ((putRow (fun (b : UInt8) => Value.int .u8 (b.toNat : Int)) (w.alloc (.cells Lib.zeros24 102)) w.heap.size 0 dk).drewN k) 105 9 5 ⟨w.heap.size, 0, none⟩ 24 (Lib.decDigits u) Tryd.underlying105 Tryd.underlying5 Tryd.underlying9 (fun j hj => by
        rw [Lib.row_is_numeral hF j hj, Lib.add_plain, World.cell?_drewN]
        exact cell?_putRow (fun (b : UInt8) => Value.int .u8 (b.toNat : Int)) _ w.heap.size 0 _ dk HH0.out (by rw [hF.size, Array.size_replicate]) j (by rw [hF.size]; rw [Lib.decDigits_length] at hj; exact hj))
      rw [Lib.decDigits_length] at h
      exact h
    go_wp2
    go_ret
    obtain ⟨os, eo⟩ := Lib.fin_at w (.cells Lib.zeros24 102) dk k 0
    exact ⟨rfl, k, os, eo⟩
open Go.Pev
theorem keep_grow (w : World) (k : Nat) (os : Array Obj) : KeepS (fun _ => False) w (grow (w.drewN k) os) :=
  ⟨rfl, rfl, rfl, by simp [grow, World.drewN], fun j hj _ => by simp [grow, World.drewN, Array.getElem?_append_left hj]⟩
def spFui : Pev.CSpec := ⟨fun | [.int .u64 n, .int .i64 10] => .br (decide (0 ≤ n ∧ n ≤ 18446744073709551615)) (.ret (.str ⟨(Lib.decDigits n.toNat).toArray⟩)) .fail | _ => .fail⟩
theorem okFui : EnterOk Tryd.prog 46 ∧ CSpecOk Tryd.prog cfgT 46 spFui := ⟨enter Tryd.func46 (by kernel_rfl) (by kernel_rfl), by
  intro args res h
  unfold spFui at h
  simp only at h
  split at h <;> try (cases h; done)
  rename_i n
  cases hd : decide (0 ≤ n ∧ n ≤ 18446744073709551615) with
  | false => rw [hd] at h; cases h
  | true =>
    rw [hd] at h
    obtain rfl := Option.some.inj h
    intro M w vs _ hg ha
    cases ha with
    | cons h1 t1 =>
      cases t1 with
      | cons h2 t2 =>
        cases t2
        simp only [SR, LR] at h1 h2
        subst h1; subst h2
        obtain ⟨b1, b2⟩ := of_decide_eq_true hd
        obtain ⟨u, rfl⟩ := Int.eq_ofNat_of_zero_le b1
        have ht : Lib.TabIs Tryd.prog w "internal/strconv.uint64pow10" .u64 Lib.pow10Tab := GV.to_var (g := 1) (by kernel_rfl) (hg (1, .is pow10) (List.mem_cons_self ..)).1
        exact (formatUint_10 u (by omega) w ht).mono fun e w' ⟨h1, k, os, h2⟩ => ⟨_, h1, rfl, h2 ▸ keep_grow w k os⟩⟩
theorem okFu : EnterOk Tryd.prog 42 ∧ CSpecOk Tryd.prog cfgT 42 spFui := ⟨enter Tryd.func42 (by kernel_rfl) (by kernel_rfl), by
  intro args res h
  unfold spFui at h
  simp only at h
  split at h <;> try (cases h; done)
  rename_i n
  refine doneT (specs := [(46, spFui)]) (oneSpecTT noSpecsT okFui) (A := A0) rfl (by kernel_rfl) ?_
  rw [← h]
  kernel_rfl⟩
def spItoa : Pev.CSpec := ⟨fun | [.int .i64 n] => .br (decide (-9223372036854775808 ≤ n ∧ n ≤ 9223372036854775807)) (.ret (.str ⟨(Lib.itoa n).toArray⟩)) .fail | _ => .fail⟩

theorem okItoa : EnterOk Tryd.prog 38 ∧ CSpecOk Tryd.prog cfgT 38 spItoa := ⟨enter Tryd.func38 (by kernel_rfl) (by kernel_rfl), by
  intro args res h
  unfold spItoa at h
  simp only at h
  split at h <;> try (cases h; done)
  rename_i n
  cases hd : decide (-9223372036854775808 ≤ n ∧ n ≤ 9223372036854775807) with
  | false => rw [hd] at h; cases h
  | true =>
    rw [hd] at h
    obtain rfl := Option.some.inj h
    intro M w vs _ hg ha
    cases ha with
    | cons h1 t1 =>
      cases t1
      simp only [SR, LR] at h1
      subst h1
      obtain ⟨b1, b2⟩ := of_decide_eq_true hd
      have ht : Lib.TabIs Tryd.prog w "internal/strconv.uint64pow10" .u64 Lib.pow10Tab := GV.to_var (g := 1) (by kernel_rfl) (hg (1, .is pow10) (List.mem_cons_self ..)).1
      exact (Tryd.strconv_Itoa n b1 b2 w ht).mono fun e w' ⟨h1, k, os, h2⟩ => ⟨_, h1, rfl, h2 ▸ keep_grow w k os⟩⟩
end Go.Proofs.YtkkgimhjjhhkjaaDoor
