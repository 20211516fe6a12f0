/- Library functions' contracts, in the trees' form. -/
import Derived.Test.YtkkgimhjjhhkjaaDoorFu
import Derived.Test.YtkkgimhjjhhkjaaDoorIs
import Derived.Test.YtkkgimhjjhhkjaaDoorN
import Derived.Test.YtkkgimhjjhhkjaaDoorPevX
namespace Go.Proofs.YtkkgimhjjhhkjaaDoor
open Go Go.Pev
/-- errors.Is at a number for target. -/
def isF (e t : Err) : Option Bool := match e, t with
  | none, some ([], _) => some false
  | some (_, n), some ([], m) => some (n == m)
  | _, _ => none
def errors_Is_sp : Pev.CSpec := genSpec [.err, .err] [.bool] (fun x => isF x.1 x.2)
theorem errors_Is_ok : EnterOk Tryd.prog 11 ∧ CSpecOk Tryd.prog cfgG 11 errors_Is_sp := ⟨(liftGT okIs).1, oldSpec (liftGT okIs).2 (by
  intro ⟨e, t⟩ r h
  match e, t, h with
  | none, some ([], _), h => obtain rfl := Option.some.inj h; rfl
  | some (_, n), some ([], m), h => obtain rfl := Option.some.inj h; rfl)⟩
def fmtU (n b : Int) : Option ByteArray := cond (decide (b = 10 ∧ 0 ≤ n ∧ n ≤ 18446744073709551615)) (some ⟨(Lib.decDigits n.toNat).toArray⟩) none
def strconv_FormatUint_sp : Pev.CSpec := genSpec [.int .u64, .int .i64] [.str] (fun x => fmtU x.1 x.2)
theorem strconv_FormatUint_ok : EnterOk Tryd.prog 42 ∧ CSpecOk Tryd.prog cfgG 42 strconv_FormatUint_sp := ⟨(liftTG okFu).1, oldSpec (liftTG okFu).2 (by
  intro ⟨(n : Int), (b : Int)⟩ r h
  cases hd : decide (b = 10 ∧ 0 ≤ n ∧ n ≤ 18446744073709551615) with
  | false => rw [show fmtU n b = none by unfold fmtU; rw [hd]; rfl] at h; cases h
  | true =>
    rw [show fmtU n b = some ⟨(Lib.decDigits n.toNat).toArray⟩ by unfold fmtU; rw [hd]; rfl] at h
    obtain rfl := Option.some.inj h
    obtain ⟨rfl, h1, h2⟩ := of_decide_eq_true hd
    show cond (decide (0 ≤ n ∧ n ≤ 18446744073709551615)) _ _ = _
    rw [show decide (0 ≤ n ∧ n ≤ 18446744073709551615) = true from decide_eq_true ⟨h1, h2⟩]
    rfl)⟩
def itoaF (n : Int) : Option ByteArray := cond (decide (-9223372036854775808 ≤ n ∧ n ≤ 9223372036854775807)) (some ⟨(Lib.itoa n).toArray⟩) none
def strconv_Itoa_sp : Pev.CSpec := genSpec [.int .i64] [.str] itoaF
theorem strconv_Itoa_ok : EnterOk Tryd.prog 38 ∧ CSpecOk Tryd.prog cfgG 38 strconv_Itoa_sp := ⟨(liftTG okItoa).1, oldSpec (liftTG okItoa).2 (by
  intro (n : Int) r h
  show cond (decide (-9223372036854775808 ≤ n ∧ n ≤ 9223372036854775807)) _ _ = _
  unfold itoaF at h
  cases hd : decide (-9223372036854775808 ≤ n ∧ n ≤ 9223372036854775807) with
  | false => rw [hd] at h; cases h
  | true => rw [hd] at h; obtain rfl := Option.some.inj h; rfl)⟩
noncomputable def splitF (s sep : ByteArray) : Option (List ByteArray) := sealed (cond (decide (s.size < 4294967281 ∧ 1 ≤ sep.size ∧ (Lib.splitB sep 0 (Lib.countB s sep) s).length = Lib.countB s sep + 1)) (some (Lib.splitB sep 0 (Lib.countB s sep) s)) none)
theorem splitF_eq (s sep : ByteArray) : splitF s sep = cond (decide (s.size < 4294967281 ∧ 1 ≤ sep.size ∧ (Lib.splitB sep 0 (Lib.countB s sep) s).length = Lib.countB s sep + 1)) (some (Lib.splitB sep 0 (Lib.countB s sep) s)) none := sealed_eq _
noncomputable def strings_Split_sp : Pev.CSpec := genSpec [.str, .str] [.sl .str] (fun x => splitF x.1 x.2)
theorem strings_Split_ok : EnterOk Tryd.prog 44 ∧ CSpecOk Tryd.prog cfgG 44 strings_Split_sp := ⟨enter Tryd.func44 (by kernel_rfl) (by kernel_rfl), handSpec (by
  intro ⟨(s : ByteArray), (sep : ByteArray)⟩ r h
  cases hd : decide (s.size < 4294967281 ∧ 1 ≤ sep.size ∧ (Lib.splitB sep 0 (Lib.countB s sep) s).length = Lib.countB s sep + 1) with
  | false => rw [show splitF s sep = none by rw [splitF_eq, hd]; rfl] at h; cases h
  | true =>
    rw [show splitF s sep = some (Lib.splitB sep 0 (Lib.countB s sep) s) by rw [splitF_eq, hd]; rfl] at h
    obtain rfl := Option.some.inj h
    obtain ⟨h1, h2, hlen⟩ := of_decide_eq_true hd
    intro M w vs hM hg ha
    cases ha with
    | cons a1 t1 =>
      cases t1 with
      | cons a2 t2 =>
        cases t2
        obtain rfl := a1
        obtain rfl := a2
        obtain ⟨m, hm⟩ : ∃ m, w.cell? ⟨2, 0, none⟩ = some (.int .i64 m) := (hg (2, .num) (List.mem_cons_of_mem _ (List.mem_cons_of_mem _ (List.mem_singleton.2 rfl)))).1
        refine (Tryd.strings_Split s sep m w h1 hm h2).mono fun e w' ⟨q1, q2⟩ => ⟨_, q1, ?_, q2 ▸ KeepS.alloc w _⟩
        have hrow : All2 (RR cfgG M w' .str) (Lib.splitB sep 0 (Lib.countB s sep) s) ((Lib.splitB sep 0 (Lib.countB s sep) s).map fun x => [Value.string x]) := by
          generalize Lib.splitB sep 0 (Lib.countB s sep) s = l
          induction l with
          | nil => exact .nil
          | cons x l ih => exact .cons rfl ih
        refine ⟨_, _, congrArg (fun n => Value.slice (some ⟨w.heap.size, 0, none⟩) n (Lib.countB s sep + 1)) hlen.symm, Nat.le_of_eq hlen, .inr ⟨⟨w.heap.size, 0, none⟩, _, rfl, hrow, ?_⟩⟩
        intro w2 hk j u hj
        subst q2
        have hb : w2.heap[w.heap.size]? = (w.alloc (.cells ((Lib.splitB sep 0 (Lib.countB s sep) s).map Value.string).toArray 9)).heap[w.heap.size]? :=
          hk.block w.heap.size (by rw [show (w.alloc (.cells ((Lib.splitB sep 0 (Lib.countB s sep) s).map Value.string).toArray 9)).heap.size = w.heap.size + 1 from Array.size_push _]; omega) fun hm' => Nat.lt_irrefl _ (hM _ hm')
        have hfl : ((Lib.splitB sep 0 (Lib.countB s sep) s).map fun x => [Value.string x]).flatten = (Lib.splitB sep 0 (Lib.countB s sep) s).map Value.string := by
          generalize Lib.splitB sep 0 (Lib.countB s sep) s = l
          induction l with
          | nil => rfl
          | cons x l ih => simp only [List.map_cons, List.flatten_cons, ih]; rfl
        rw [hfl] at hj
        rw [addr_at]
        have hb2 : w2.heap[w.heap.size]? = some (.cells ((Lib.splitB sep 0 (Lib.countB s sep) s).map Value.string).toArray 9) := by rw [hb]; exact Array.getElem?_push_size
        simp only [World.cell?, hb2]
        simpa using hj)⟩
noncomputable def L0 : List (Nat × Pev.CSpec) := [(11, errors_Is_sp), (42, strconv_FormatUint_sp), (38, strconv_Itoa_sp), (44, strings_Split_sp)]
theorem s0 : SpecsOk Tryd.prog (tabsG L0) := oneSpecGT (oneSpecGT (oneSpecGT (oneSpecGT noSpecsG strings_Split_ok) strconv_Itoa_ok) strconv_FormatUint_ok) errors_Is_ok
end Go.Proofs.YtkkgimhjjhhkjaaDoor
