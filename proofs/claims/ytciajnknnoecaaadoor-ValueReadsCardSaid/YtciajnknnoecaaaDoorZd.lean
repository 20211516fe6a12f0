/- value.number: a number's text is read. -/
import Derived.Test.YtciajnknnoecaaaDoorZc
namespace Go.Proofs.YtciajnknnoecaaaDoor
open Go Go.Pev

def isNeg (s : ByteArray) : Bool := by' s 0 == 45
def fromOf (s : ByteArray) : Nat := cond (isNeg s) 1 0
/-- A number, from its first digit on. -/
def numAt (s : ByteArray) : NRd := numR s (fromOf s) (limOf (isNeg s)) (s.size + 1) (fromOf s) 0
def L27 : List (Nat × Pev.CSpec) := [(26, sp26), (47, sp47)]
theorem s27 : SpecsOk Tryd.prog (tabsT L27) := oneSpecTT (oneSpecTT noSpecsT ok47) (liftT ok26)
def E27 (s : ByteArray) (z : V) (a i : Int) : Env := ⟨[(0, .str s), (2, .ref 2 0), (3, .err none), (4, .int .i64 a), (5, .int .i64 i)], [(2, some (.box 23 (zl z)))]⟩
def o27 : Orc := fun E k => match E with
  | ⟨[(0, .str s), (2, .ref 2 0), (3, .err none), (4, .int .i64 a), (5, .int .i64 i)], [(2, some (.box 23 [.int .i64 z1, .int .i64 z2, .str z3, .bool z4]))]⟩ =>
    cond (decide (a = (fromOf s : Nat) ∧ i = a ∧ s.size ≤ 8000 ∧ fromOf s ≤ s.size)) (cond (numAt s).isOk (k (.exit 0) (X28 s none [.int .i64 z1, .int .i64 z2, .str z3, .bool z4])) (k .ret (X28 s (badE (numAt s).pos) zeroL))) none
  | _ => none
def A27 : Anns := ⟨[(7, [.keep [0, 2, 3, 4, 5] [2]]), (100007, [.keep [0, 2, 3] [2]])], [(7, o27)], 1000⟩
noncomputable def loop27 : Code := loopAt 27 0
noncomputable abbrev L27' (m : Nat) (E : Env) (k : Exit → Env → Pev.R) : Pev.R := loopE (prep (tabsT L27) (annOf A27 loop27)) (evalC Tryd.prog (tabsT L27) A27 loop27) m E (outK (tabsT L27) A27 loop27 k)
theorem step27 (s : ByteArray) (z : V) (a i : Int) (m : Nat) (k : Exit → Env → Pev.R) :
    L27' (m + 1) (E27 s z a i) k =
      let j : Int := IntKind.i64.wrap (i + 1)
      let pre : ByteArray := s.extract (0 : Int).toNat j.toNat
      let parse : Pev.R := cond (decide (0 ≤ j)) (cond (decide (j ≤ (s.size : Int))) (cond (decide (pre.size ≤ 281474976710656)) (cond (piOk pre) (L27' m (E27 s z a j) k) (k .ret (X28 s (badE i) zeroL))) none) none) none
      cond (decide (i < (s.size : Int))) (cond (decide (0 ≤ i)) (cond (decide (i < (s.size : Int))) (cond (decide (by' s i.toNat < 48)) (k .ret (X28 s (badE i) zeroL)) (cond (decide (0 ≤ i)) (cond (decide (i < (s.size : Int)))
        (cond (decide (by' s i.toNat > 57)) (k .ret (X28 s (badE i) zeroL)) (cond (decide (i > a)) (cond (decide (0 ≤ a)) (cond (decide (a < (s.size : Int))) (cond (by' s a.toNat == 48) (k .ret (X28 s (badE i) zeroL)) parse) none) none) parse)) none) none)) none) none) (k (.exit 0) (X28 s none (zl z))) := by kernel_rfl
theorem pre_take (s : ByteArray) (hs : isNeg s = true → s.size ≠ 0) : s.data.toList.take (fromOf s) = preOf (isNeg s) := by
  unfold fromOf preOf
  cases hn : isNeg s with
  | false => rfl
  | true =>
    have h0 : 0 < s.data.toList.length := by rw [size_list]; exact Nat.pos_of_ne_zero (hs hn)
    simp only [cond_true]
    unfold isNeg by' at hn
    have h1 : (s.data.toList.getD 0 0).toNat = 45 := by have := eq_of_beq hn; omega
    cases hl : s.data.toList with
    | nil => rw [hl] at h0; simp at h0
    | cons c l =>
      rw [hl] at h1
      simp only [List.getD_cons_zero] at h1
      rw [show c = 45 from UInt8.toNat_inj.1 h1]
      rfl
theorem all27 (s : ByteArray) (z : V) (hs : s.size ≤ 8000) (k : Exit → Env → Pev.R) : ∀ (f i n : Nat), s.size ≤ i + f → fromOf s ≤ i → i ≤ s.size → (digs s (fromOf s) i).all isDig = true → n = valF 0 (digs s (fromOf s) i) →
    L27' (f + 1) (E27 s z (fromOf s : Nat) i) k = (match numR s (fromOf s) (limOf (isNeg s)) (f + 1) i n with | .ok _ => k (.exit 0) (X28 s none (zl z)) | .bad p => k .ret (X28 s (badE p) zeroL))
  | f, i, n, hf, ha, hi, hd, hn => by
    rw [step27, numR]
    by_cases hlt : i < s.size
    · rw [show decide ((i : Int) < (s.size : Int)) = true from decide_eq_true (by omega), show decide (i < s.size) = true from decide_eq_true hlt, show decide (0 ≤ (i : Int)) = true from decide_eq_true (by omega), show decide (0 ≤ ((fromOf s : Nat) : Int)) = true from decide_eq_true (by omega), show decide (((fromOf s : Nat) : Int) < (s.size : Int)) = true from decide_eq_true (by omega)]
      simp only [cond_true, Int.toNat_natCast]
      rw [i64w ((i : Int) + 1) (by omega) (by omega)]
      have e1 : ((i : Int) + 1) = ((i + 1 : Nat) : Int) := rfl
      simp only [e1, Int.toNat_natCast, Int.toNat_zero]
      rw [show decide (0 ≤ ((i + 1 : Nat) : Int)) = true from decide_eq_true (by omega), show decide (((i + 1 : Nat) : Int) ≤ (s.size : Int)) = true from decide_eq_true (by omega)]
      rw [show decide ((s.extract 0 (i + 1)).size ≤ 281474976710656) = true from decide_eq_true (by rw [ByteArray.size_extract]; omega), show decide ((i : Int) > ((fromOf s : Nat) : Int)) = decide (fromOf s < i) from decide_eq_decide.2 (by omega)]
      simp only [cond_true]
      cases h1 : decide (by' s i < 48) with
      | true => rfl
      | false =>
        cases h2 : decide (by' s i > 57) with
        | true => rfl
        | false =>
          have hg := isDig_by (of_decide_eq_false h1) (of_decide_eq_false h2)
          have hsu := digs_succ s (fromOf s) i ha hlt
          have hds : (digs s (fromOf s) (i + 1)).all isDig = true := by rw [hsu, List.all_append, hd, List.all_cons, hg]; rfl
          have hv : valF 0 (digs s (fromOf s) (i + 1)) = n * 10 + ((s.data.toList.getD i 0).toNat - 48) := by rw [hsu, valF_append, ← hn]; rfl
          have hp : piOk (s.extract 0 (i + 1)) = decide (n * 10 + ((s.data.toList.getD i 0).toNat - 48) ≤ limOf (isNeg s)) := by
            rw [← hv]
            refine piOk_is (neg := isNeg s) (ds := digs s (fromOf s) (i + 1)) ?_ hds (by rw [hsu]; simp)
            rw [← pre_take s (fun _ => by omega), ← digs_take s (fromOf s) (i + 1) (by omega)]
            simp [ByteArray.data_extract]
          rw [hp]
          have next : ∀ (b : Bool), b = decide (n * 10 + ((s.data.toList.getD i 0).toNat - 48) ≤ limOf (isNeg s)) → (cond b (L27' f (E27 s z (fromOf s : Nat) ((i + 1 : Nat) : Int)) k) (k .ret (X28 s (badE i) zeroL))) =
              (match cond b (numR s (fromOf s) (limOf (isNeg s)) f (i + 1) (n * 10 + ((s.data.toList.getD i 0).toNat - 48))) (.bad i) with | .ok _ => k (.exit 0) (X28 s none (zl z)) | .bad p => k .ret (X28 s (badE p) zeroL)) := by
            intro b _
            cases b with
            | false => rfl
            | true =>
              simp only [cond_true]
              match f, hf with
              | 0, hf => omega
              | f + 1, hf => exact all27 s z hs k f (i + 1) _ (by omega) (by omega) (by omega) hds hv.symm
          cases h3 : decide (fromOf s < i) with
          | false =>
            simp only [cond_false, Bool.false_and]
            exact next _ rfl
          | true =>
            simp only [cond_false, cond_true, Bool.true_and]
            cases by' s (fromOf s) == 48 with
            | true => rfl
            | false =>
              simp only [cond_false]
              exact next _ rfl
    · rw [show decide ((i : Int) < (s.size : Int)) = false from decide_eq_false (by omega), show decide (i < s.size) = false from decide_eq_false hlt]
      rfl
theorem orc27 : OrcOk Tryd.prog (tabsT L27) A27 loop27 := by
  intro o ho E k r h
  obtain rfl := orcIs (show orcOf A27 loop27 = some o27 by kernel_rfl) ho
  unfold o27 at h
  split at h
  · rename_i s a i z1 z2 z3 z4
    cases hd : decide (a = (fromOf s : Nat) ∧ i = a ∧ s.size ≤ 8000 ∧ fromOf s ≤ s.size) with
    | false => rw [hd] at h; cases h
    | true =>
      rw [hd] at h
      obtain ⟨rfl, rfl, hs, hf⟩ := of_decide_eq_true hd
      refine ⟨s.size + 1, (all27 s (z1, z2, z3, z4) hs k s.size (fromOf s) 0 (by omega) (Nat.le_refl _) hf (by rw [digs_self]; rfl) (by rw [digs_self]; rfl)).trans ?_⟩
      rw [← h]
      show _ = cond (numAt s).isOk _ _
      unfold numAt
      cases numR s (fromOf s) (limOf (isNeg s)) (s.size + 1) (fromOf s) 0 <;> rfl
  · cases h
/-- Is a minus followed by no number? -/
def badNeg (s : ByteArray) : Bool := isNeg s && (decide (s.size = 1) || decide (by' s 1 < 49) || decide (by' s 1 > 57))
def sp27 : Pev.CSpec := ⟨fun
  | [.str s] => .br (decide (0 < s.size ∧ s.size ≤ 8000)) (.br (badNeg s) (.ret (.tup [zeroV, .err (badE 1)])) (.br (numAt s).isOk (.ret (.tup [.ag [.int .i64 1, .int .i64 (sgn (isNeg s) (numAt s).num), .str ⟨#[]⟩, .bool false], .err none])) (.ret (.tup [zeroV, .err (badE (numAt s).pos)])))) .fail
  | _ => .fail⟩
theorem from_lt {s : ByteArray} (h : 0 < s.size) (hb : badNeg s = false) : fromOf s < s.size := by
  unfold fromOf
  cases hn : isNeg s with
  | false => exact h
  | true =>
    unfold badNeg at hb
    rw [hn] at hb
    simp only [Bool.true_and, Bool.or_eq_false_iff, decide_eq_false_iff_not] at hb
    show 1 < s.size
    omega
theorem piV_num {s : ByteArray} (h : 0 < s.size) (hb : badNeg s = false) (ho : (numAt s).isOk = true) : piV s = sgn (isNeg s) (numAt s).num := by
  have hlt := from_lt h hb
  have hok : ∃ m, numAt s = .ok m := by
    cases hm : numAt s with
    | ok m => exact ⟨m, rfl⟩
    | bad p => rw [hm] at ho; cases ho
  obtain ⟨m, hm⟩ := hok
  rw [hm]
  unfold numAt at hm
  obtain ⟨h1, h2, h3⟩ := numR_ok s (fromOf s) (limOf (isNeg s)) s.size (fromOf s) 0 m (by omega) (Nat.le_refl _) (by omega) (by rw [digs_self]; rfl) (by rw [digs_self]; rfl) (.inl (digs_self s _)) hm
  have hne : digs s (fromOf s) s.size ≠ [] := by
    intro e
    have : (digs s (fromOf s) s.size).length = s.size - fromOf s := by unfold digs; rw [List.length_take, List.length_drop, size_list]; omega
    rw [e] at this
    simp at this
    omega
  have hl : s.data.toList = preOf (isNeg s) ++ digs s (fromOf s) s.size := by
    rw [← pre_take s (fun _ => by omega), ← digs_take s (fromOf s) s.size (by omega), List.take_of_length_le (by rw [size_list]; omega)]
  rw [piV_is hl h1 hne (by rw [← h2]; exact h3.resolve_left hne), ← h2]
  rfl
theorem ok27 : EnterOk Tryd.prog 27 ∧ CSpecOk Tryd.prog cfgT 27 sp27 := ⟨enter Tryd.func27 (by kernel_rfl) (by kernel_rfl), by
  intro args res h
  unfold sp27 at h
  simp only at h
  split at h <;> try (cases h; done)
  rename_i s
  cases hd : decide (0 < s.size ∧ s.size ≤ 8000) with
  | false => rw [hd] at h; cases h
  | true =>
    rw [hd] at h
    obtain ⟨h0, hs⟩ := of_decide_eq_true hd
    refine doneT1 s27 (A := A27) (c := loop27) (by kernel_rfl) orc27 (by kernel_rfl) ?_
    rw [← h]
    let bad1 : Option AV := some (.tup [zeroV, .err (badE 1)])
    let fin (a : Int) : Option AV := cond (decide (a = (fromOf s : Nat) ∧ a = a ∧ s.size ≤ 8000 ∧ fromOf s ≤ s.size)) (cond (numAt s).isOk (cond (decide (s.size ≤ 281474976710656)) (cond (piOk s) (some (.tup [.ag [.int .i64 1, .int .i64 (piV s), .str ⟨#[]⟩, .bool false], .err none])) (some (.tup [.ag [.int .i64 1, .int .i64 (piV s), .str ⟨#[]⟩, .bool false], .err none]))) none) (some (.tup [zeroV, .err (badE (numAt s).pos)]))) none
    rw [show evalF Tryd.prog (tabsT L27) A27 27 [.str s] = cond (decide (0 < (s.size : Int))) (cond (isNeg s) (cond ((s.size : Int) == 1) bad1 (cond (decide (1 < (s.size : Int))) (cond (decide (by' s 1 < 49)) bad1 (cond (decide (1 < (s.size : Int))) (cond (decide (by' s 1 > 57)) bad1 (fin 1)) none)) none)) (fin 0)) none by kernel_rfl]
    have hfin : badNeg s = false → fin (fromOf s : Nat) = (Tree.br (numAt s).isOk (.ret (.tup [.ag [.int .i64 1, .int .i64 (sgn (isNeg s) (numAt s).num), .str ⟨#[]⟩, .bool false], .err none])) (.ret (.tup [zeroV, .err (badE (numAt s).pos)]))).get := by
      intro hb
      have hlt := from_lt h0 hb
      show cond (decide (((fromOf s : Nat) : Int) = (fromOf s : Nat) ∧ ((fromOf s : Nat) : Int) = (fromOf s : Nat) ∧ s.size ≤ 8000 ∧ fromOf s ≤ s.size)) _ none = _
      rw [show decide (((fromOf s : Nat) : Int) = (fromOf s : Nat) ∧ ((fromOf s : Nat) : Int) = (fromOf s : Nat) ∧ s.size ≤ 8000 ∧ fromOf s ≤ s.size) = true from decide_eq_true ⟨rfl, rfl, hs, by omega⟩, show decide (s.size ≤ 281474976710656) = true from decide_eq_true (by omega)]
      cases ho : (numAt s).isOk with
      | false => rfl
      | true => rw [piV_num h0 hb ho]; cases piOk s <;> rfl
    rw [show decide (0 < (s.size : Int)) = true from decide_eq_true (by omega)]
    simp only [cond_true, Tree.get]
    cases hn : isNeg s with
    | false =>
      have hb : badNeg s = false := by unfold badNeg; rw [hn]; rfl
      have hfr : fromOf s = 0 := by unfold fromOf; rw [hn]; rfl
      have hh := hfin hb
      rw [hfr, hn] at hh
      rw [hb]
      exact hh
    | true =>
      have hfr : fromOf s = 1 := by unfold fromOf; rw [hn]; rfl
      simp only [cond_true]
      have hbn : badNeg s = (decide (s.size = 1) || decide (by' s 1 < 49) || decide (by' s 1 > 57)) := by unfold badNeg; rw [hn]; rfl
      by_cases h1 : s.size = 1
      · rw [show ((s.size : Int) == 1) = true by simp [h1], hbn, show decide (s.size = 1) = true from decide_eq_true h1]
        rfl
      · rw [show ((s.size : Int) == 1) = false by simp; omega, show decide (1 < (s.size : Int)) = true from decide_eq_true (by omega)]
        rw [show decide (s.size = 1) = false from decide_eq_false h1, Bool.false_or] at hbn
        simp only [cond_true, cond_false]
        cases h2 : decide (by' s 1 < 49) with
        | true => rw [hbn, h2]; rfl
        | false =>
          cases h3 : decide (by' s 1 > 57) with
          | true => rw [hbn, h2, h3]; rfl
          | false =>
            have hb : badNeg s = false := by rw [hbn, h2, h3]; rfl
            have hh := hfin hb
            rw [hfr, hn] at hh
            rw [hb]
            exact hh⟩
end Go.Proofs.YtciajnknnoecaaaDoor
