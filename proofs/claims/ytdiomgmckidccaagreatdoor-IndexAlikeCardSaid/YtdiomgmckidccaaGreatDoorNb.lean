/- Plain: bounds and filters: what both sides check, and what they mean. -/
import Derived.Test.YtdiomgmckidccaaGreatDoorNa
set_option maxRecDepth 100000
namespace Go.Proofs.YtdiomgmckidccaaGreatDoor
open Go Go.Pev
/-! ### a bound -/
/-- Is a bound of the form, its name aside? -/
def frmB (b : Bd) : Bool := match b with
  | (_, k, lo, hi, ex, s, t, f) => if k = 1 then decide (lo ≤ hi) && !ex && decide (s.size = 0) && !t && !f else
    if k = 2 then decide (lo = 0) && decide (hi = 0) && !t && !f && (decide (s.size < 1000) || (ex && decide (s.size = 1000))) else
    if k = 3 then decide (lo = 0) && decide (hi = 0) && !ex && decide (s.size = 0) && (t || f) else false
def rgtB (b : Bd) (p : ByteArray) : Bool := nameB b.1 && ltN p b.1 && frmB b
theorem nup (n p : ByteArray) : (!(Op.bytesLess n.toList p.toList || n.toList == p.toList)) = ltN p n := by
  have := up_is n p
  unfold notUp at this
  rw [← this]; simp [ltN]
theorem beq_dec (a b : Int) : (a == b) = decide (a = b) := by
  by_cases h : a = b
  · subst h; simp
  · simp [h]
theorem Right_is (b : Bd) (p : ByteArray) : filter_Right b p = some (rgtB b p) := by
  obtain ⟨n, k, lo, hi, ex, s, t, f⟩ := b
  unfold filter_Right filter_Right_t rgtB frmB
  simp only [LT.fin_br, LT.fin_ret, event_Name_is, LT.fin_some, eqB, nup, empty_iff, beq_self_l, Int.ofNat_eq_natCast]
  by_cases h1 : k = 1
  · subst h1
    by_cases hl : lo ≤ hi <;> by_cases hs : s.size = 0 <;> cases ex <;> cases t <;> cases f <;> cases nameB n <;> simp [hl, hs]
  · by_cases h2 : k = 2
    · subst h2
      by_cases hs : s.size < 1000
      · have q : ((s.size : Nat) : Int) < 1000 := by omega
        by_cases hl : lo = 0 <;> by_cases hh : hi = 0 <;> cases t <;> cases f <;> cases nameB n <;> simp [hl, hh, hs, q]
      · have q : ¬ ((s.size : Nat) : Int) < 1000 := by omega
        by_cases he : s.size = 1000
        · have q2 : ((s.size : Nat) : Int) = 1000 := by omega
          by_cases hl : lo = 0 <;> by_cases hh : hi = 0 <;> cases ex <;> cases t <;> cases f <;> cases nameB n <;> simp [hl, hh, he]
        · have q2 : ¬ ((s.size : Nat) : Int) = 1000 := by omega
          cases ex <;> simp [hs, q, he, q2]
    · by_cases h3 : k = 3
      · subst h3
        by_cases hl : lo = 0 <;> by_cases hh : hi = 0 <;> by_cases hs : s.size = 0 <;> cases ex <;> cases t <;> cases f <;> cases nameB n <;> simp [hl, hh, hs]
      · simp [h1, h2, h3]
theorem form_is (b : Bd) : ref05_form b = some (frmB b) := by
  obtain ⟨n, k, lo, hi, ex, s, t, f⟩ := b
  unfold ref05_form ref05_form_t frmB
  simp only [LT.fin_br, LT.fin_ret, empty_iff, Int.ofNat_eq_natCast]
  by_cases h1 : k = 1
  · subst h1
    by_cases hl : lo ≤ hi <;> by_cases hs : s.size = 0 <;> cases ex <;> cases t <;> cases f <;> simp [hl, hs]
  · by_cases h2 : k = 2
    · subst h2
      by_cases hs : s.size < 1000
      · have q : ((s.size : Nat) : Int) < 1000 := by omega
        by_cases hl : lo = 0 <;> by_cases hh : hi = 0 <;> cases t <;> cases f <;> simp [hl, hh, hs, q]
      · have q : ¬ ((s.size : Nat) : Int) < 1000 := by omega
        by_cases he : s.size = 1000
        · have q2 : ((s.size : Nat) : Int) = 1000 := by omega
          by_cases hl : lo = 0 <;> by_cases hh : hi = 0 <;> cases ex <;> cases t <;> cases f <;> simp [hl, hh, he]
        · have q2 : ¬ ((s.size : Nat) : Int) = 1000 := by omega
          cases ex <;> simp [hs, q, he, q2]
    · by_cases h3 : k = 3
      · subst h3
        by_cases hl : lo = 0 <;> by_cases hh : hi = 0 <;> by_cases hs : s.size = 0 <;> cases ex <;> cases t <;> cases f <;> simp [hl, hh, hs]
      · simp [h1, h2, h3]
theorem Bound_is (b : Bd) (p : ByteArray) : ref05_Bound b p = some (rgtB b p) := by
  unfold ref05_Bound ref05_Bound_t rgtB
  simp only [LT.fin_br, LT.fin_ret, ref03_Name_is, LT.fin_some, form_is]
  have : Op.bytesLess p.toList (ByteArray.toList b.1) = ltN p b.1 := rfl
  rw [this]
  cases nameB b.1 <;> cases ltN p b.1 <;> simp
/-! ### a filter -/
def bsOk : ByteArray → List Bd → Bool
  | _, [] => true
  | p, b :: l => rgtB b p && bsOk b.1 l
def ckF (f : Fil) : Err := if f.2.length > 16 then some ([], 2) else if (f.2.isEmpty || (!f.1 && bsOk (ByteArray.mk #[]) f.2)) = true then none else some ([], 3)
def ckStep {Q : Type} (d : Bool) (q : Q) (p : ByteArray) (b : Bd) : ByteArray ⊕ Q := if d = true then .inr q else if rgtB b p = true then .inl b.1 else .inr q
theorem ckStep_all {Q : Type} (d : Bool) (q r : Q) : ∀ (l : List Bd) (p : ByteArray), foldE (ckStep d q) (fun _ => r) p l = if (l.isEmpty || (!d && bsOk p l)) = true then r else q
  | [], p => rfl
  | b :: l, p => by
    cases d with
    | true => rw [foldE_r (show ckStep true q p b = .inr q from rfl)]; simp
    | false =>
      have ih := ckStep_all false q r l b.1
      by_cases h : rgtB b p = true
      · rw [foldE_l (show ckStep false q p b = .inl b.1 from by simp [ckStep, h])]
        refine Eq.trans ih ?_
        rw [show bsOk p (b :: l) = (rgtB b p && bsOk b.1 l) from rfl, h]
        cases l with
        | nil => simp [bsOk]
        | cons c l => simp
      · rw [foldE_r (show ckStep false q p b = .inr q from by simp [ckStep, h])]
        rw [show bsOk p (b :: l) = (rgtB b p && bsOk b.1 l) from rfl]
        simp [h]
theorem filter_Check_is (f : Fil) : filter_Check f = some (ckF f) := by
  unfold filter_Check filter_Check_t ckF
  simp only [LT.fin_br, LT.fin_ret]
  by_cases h : f.2.length > 16
  · rw [if_pos (decide_eq_true (by simp only [Int.ofNat_eq_natCast]; omega)), if_pos h]
  · rw [if_neg (by simp; omega), if_neg h]
    have := foldE_run (bd := filter_Check_b0) f.2 (by omega) (fun i p => (p, f.2, Int.ofNat f.2.length, (i : Int), f.1, f.2, ())) (ckStep f.1 (Sum.inl (some ([], 3), ()))) (fun _ => .inr ())
      (fun i hi p g => by
        refine (rn_in hi).trans ?_
        rw [getI_lt hi]
        unfold ckStep
        cases f.1 with
        | true => exact rn_t rfl
        | false =>
          refine (rn_f rfl).trans ((rn_o (Right_is _ _)).trans ?_)
          cases rgtB f.2[i] p with
          | true => rw [wsucc (by omega)]; exact (rn_f rfl).trans rfl
          | false => exact (rn_t rfl).trans rfl)
      (fun p g => rn_out.trans rfl) (ByteArray.mk #[])
    rw [ckStep_all] at this
    refine (fn_o this).trans ?_
    split <;> rfl
theorem ref05_Check_is (f : Fil) : ref05_Check f = some (toE (ckF f)) := by
  unfold ref05_Check ref05_Check_t ckF
  simp only [LT.fin_br, LT.fin_ret]
  by_cases h : f.2.length > 16
  · rw [if_pos (decide_eq_true (by simp only [Int.ofNat_eq_natCast]; omega)), if_pos h]; rfl
  · rw [if_neg (by simp; omega), if_neg h]
    have := foldE_run (bd := ref05_Check_b0) f.2 (by omega) (fun i p => (p, f.2, Int.ofNat f.2.length, (i : Int), f.1, f.2, false, 0, ())) (ckStep f.1 (Sum.inl (true, [], 3, ()))) (fun _ => .inr (false, 0, ()))
      (fun i hi p g => by
        refine (rn_in hi).trans ?_
        rw [getI_lt hi]
        unfold ckStep
        cases f.1 with
        | true => exact rn_t rfl
        | false =>
          refine (rn_f rfl).trans ((rn_o (Bound_is _ _)).trans ?_)
          cases rgtB f.2[i] p with
          | true => rw [wsucc (by omega)]; exact (rn_f rfl).trans rfl
          | false => exact (rn_t rfl).trans rfl)
      (fun p g => rn_out.trans rfl) (ByteArray.mk #[])
    rw [ckStep_all] at this
    refine (fn_o this).trans ?_
    split <;> rfl
/-! ### does a bound hold? -/
def preB (a p : ByteArray) : Bool := decide (p.size ≤ a.size) && ((a.extract 0 p.size).toList == p.toList)
theorem preB_self (a : ByteArray) : preB a a = true := by
  unfold preB
  have : a.extract 0 a.size = a := bytes_ext (by simp)
  rw [this]; simp
theorem prefix_is (a p : ByteArray) : strings_HasPrefix a p = some (preB a p) := by
  have h : stringslite_HasPrefix a p = some (preB a p) := by
    unfold stringslite_HasPrefix stringslite_HasPrefix_t preB
    by_cases hs : p.size ≤ a.size
    · rw [decide_eq_true hs]
      exact (fn_t (decide_eq_true (by simp only [Int.ofNat_eq_natCast]; omega))).trans ((fn_t (decide_eq_true (by simp only [Int.ofNat_eq_natCast]; omega))).trans rfl)
    · rw [decide_eq_false hs]
      exact (fn_f (decide_eq_false (by simp only [Int.ofNat_eq_natCast]; omega))).trans rfl
  unfold strings_HasPrefix strings_HasPrefix_t
  exact (fn_o h).trans rfl
theorem begins_is (a p : ByteArray) : ref05_begins a p = some (preB a p) := by
  unfold ref05_begins ref05_begins_t preB
  by_cases hs : p.size ≤ a.size
  · rw [decide_eq_true hs]
    exact (fn_t (decide_eq_true (by simp only [Int.ofNat_eq_natCast]; omega))).trans ((fn_t (decide_eq_true (by simp only [Int.ofNat_eq_natCast]; omega))).trans rfl)
  · rw [decide_eq_false hs]
    exact (fn_f (decide_eq_false (by simp only [Int.ofNat_eq_natCast]; omega))).trans rfl
def holdB (b : Bd) (v : V) : Bool := match b with
  | (_, k, lo, hi, ex, s, t, f) => decide (k = v.1) && (if k = 1 then decide (lo ≤ v.2.1) && decide (v.2.1 ≤ hi) else
    if k = 2 then decide (v.2.2.1 = s) || (!ex && preB v.2.2.1 s) else (v.2.2.2 && t) || (!v.2.2.2 && f))
theorem filter_Holds_is (b : Bd) (v : V) : filter_Holds b v = some (holdB b v) := by
  obtain ⟨n, k, lo, hi, ex, s, t, f⟩ := b
  obtain ⟨k', i, u, c⟩ := v
  unfold filter_Holds filter_Holds_t holdB
  simp only [LT.fin_br, LT.fin_ret, prefix_is, LT.fin_some, bytes_beq]
  by_cases hk : k = k'
  · subst hk
    by_cases h1 : k = 1
    · subst h1
      by_cases hl : lo ≤ i <;> simp [hl]
    · by_cases h2 : k = 2
      · subst h2
        by_cases hu : u = s <;> cases ex <;> simp [hu]
      · cases c <;> cases t <;> simp [h1, h2]
  · simp [hk]
theorem ref05_Holds_is (b : Bd) (v : V) : ref05_Holds b v = some (holdB b v) := by
  obtain ⟨n, k, lo, hi, ex, s, t, f⟩ := b
  obtain ⟨k', i, u, c⟩ := v
  unfold ref05_Holds ref05_Holds_t holdB
  simp only [LT.fin_br, LT.fin_ret, begins_is, LT.fin_some, bytes_beq]
  by_cases hk : k = k'
  · subst hk
    by_cases h1 : k = 1
    · subst h1
      by_cases hl : lo ≤ i <;> simp [hl]
    · by_cases h2 : k = 2
      · subst h2
        by_cases hu : u = s
        · subst hu; cases ex <;> simp [preB_self]
        · cases ex <;> simp [hu]
      · cases c <;> cases t <;> simp [h1, h2]
  · simp [hk]
/-! ### the value of a name -/
def getA (e : Ev) (n : ByteArray) : Option V := (e.find? fun a => decide (a.1 = n)).map (·.2)
theorem getA_cons (a : ByteArray × V) (e : Ev) (n : ByteArray) : getA (a :: e) n = if a.1 = n then some a.2 else getA e n := by
  unfold getA
  rw [List.find?_cons]
  by_cases h : a.1 = n <;> simp [h]
theorem getA_pos : ∀ (e : Ev) (n : ByteArray), Rise (nms e) → (inN (nms e) n = true → ∃ a, e[posN (nms e) n]? = some a ∧ a.1 = n ∧ getA e n = some a.2) ∧ (inN (nms e) n = false → getA e n = none)
  | [], n, _ => ⟨fun h => by simp [inN, posN] at h, fun _ => rfl⟩
  | a :: e, n, hr => by
    have hr' := List.pairwise_cons.1 hr
    obtain ⟨ih1, ih2⟩ := getA_pos e n hr'.2
    rw [getA_cons]
    by_cases hlt : ltN a.1 n = true
    · have hp : posN (nms (a :: e)) n = posN (nms e) n + 1 := by
        show (if ltN a.1 n = true then posN (nms e) n + 1 else 0) = _
        rw [if_pos hlt]
      have hi : inN (nms (a :: e)) n = inN (nms e) n := by unfold inN; rw [hp]; rfl
      have hne : a.1 ≠ n := fun c => by rw [c, ltN_irrefl] at hlt; cases hlt
      rw [hi, if_neg hne, hp]
      exact ⟨ih1, ih2⟩
    · have hp : posN (nms (a :: e)) n = 0 := by
        show (if ltN a.1 n = true then posN (nms e) n + 1 else 0) = _
        rw [if_neg hlt]
      have hi : inN (nms (a :: e)) n = decide (a.1 = n) := by unfold inN; rw [hp]; simp
      rw [hi, hp]
      refine ⟨fun h => ?_, fun h => ?_⟩
      · have h := of_decide_eq_true h
        rw [if_pos h]
        exact ⟨a, rfl, h, rfl⟩
      · have h := of_decide_eq_false h
        rw [if_neg h]
        cases hg : getA e n with
        | none => rfl
        | some v =>
          exfalso
          unfold getA at hg
          obtain ⟨x, hx, _⟩ := Option.map_eq_some_iff.1 hg
          have hm := List.mem_of_find?_eq_some hx
          have hn : x.1 = n := by simpa using List.find?_some hx
          have := hr'.1 x.1 (List.mem_map_of_mem hm)
          rw [hn] at this
          exact hlt this
def fndI : Nat → Ev → ByteArray → Int
  | _, [], _ => -1
  | i, a :: e, n => if a.1 = n then (i : Int) else fndI (i + 1) e n
theorem fndI_is : ∀ (e : Ev) (i : Nat) (n : ByteArray), (getA e n = none ∧ fndI i e n = -1) ∨ ∃ j, ∃ h : j < e.length, fndI i e n = ((i + j : Nat) : Int) ∧ getA e n = some e[j].2
  | [], i, n => .inl ⟨rfl, rfl⟩
  | a :: e, i, n => by
    unfold fndI
    rw [getA_cons]
    by_cases h : a.1 = n
    · rw [if_pos h, if_pos h]
      exact .inr ⟨0, by simp, rfl, rfl⟩
    · rw [if_neg h, if_neg h]
      rcases fndI_is e (i + 1) n with h1 | ⟨j, hj, h1, h2⟩
      · exact .inl h1
      · exact .inr ⟨j + 1, by simpa using hj, by rw [h1]; congr 1; omega, by rw [h2]; simp⟩
theorem ref03_Find_is (e : Ev) (n : ByteArray) (hl : e.length ≤ 1000000) : ref03_Find e n = some (fndI 0 e n) := by
  unfold ref03_Find ref03_Find_t
  have := foldE_runI (bd := ref03_Find_b0) e (by omega) (fun i (_ : Nat) => (n, e, Int.ofNat e.length, (i : Int), ())) (fun (j : Nat) a => if a.1 = n then .inr (.inl ((j : Int), ())) else .inl (j + 1)) (fun _ => .inr ()) (fun i j => j = i)
    (fun i hi j g hj => by
      subst hj
      refine (rn_in hi).trans ?_
      rw [getI_lt hi, bytes_beq]
      by_cases h : e[j].1 = n
      · rw [if_pos h]; exact (rn_t (decide_eq_true h)).trans rfl
      · rw [if_neg h, wsucc (by omega)]; exact (rn_f (decide_eq_false h)).trans rfl)
    (fun i hi s t hs h => by
      subst hs
      split at h
      · cases h
      · cases h; rfl)
    (fun s g hs => rn_out.trans rfl) 0 rfl
  refine (fn_o this).trans ?_
  have key : ∀ (e : Ev) (i : Nat), (LT.fin (.alt (foldE (fun (j : Nat) (a : ByteArray × V) => if a.1 = n then (Sum.inr (Sum.inl ((j : Int), ())) : Nat ⊕ ref03_Find_Q0) else .inl (j + 1)) (fun _ => .inr ()) i e) (fun x5 => .ret x5.fst) (fun _ => .ret (Int.negSucc 0)) : FT Int)) = some (fndI i e n) := by
    intro e
    induction e with
    | nil => intro i; rfl
    | cons a e ih =>
      intro i
      unfold foldE fndI
      by_cases h : a.1 = n
      · rw [if_pos h, if_pos h]; rfl
      · rw [if_neg h, if_neg h]; exact ih (i + 1)
  exact key e 0
/-! ### does a filter mean an event? -/
def mnB (f : Fil) (e : Ev) : Bool := !f.1 && f.2.all fun b => match getA e b.1 with
  | some v => holdB b v
  | none => false
def mnStep {Q : Type} (e : Ev) (q : Q) (_ : Unit) (b : Bd) : Unit ⊕ Q := if (match getA e b.1 with | some v => holdB b v | none => false) = true then .inl () else .inr q
theorem mnStep_some {Q : Type} {e : Ev} {q : Q} {b : Bd} {v : V} (h : getA e b.1 = some v) : mnStep e q () b = if holdB b v = true then .inl () else .inr q := by unfold mnStep; rw [h]
theorem mnStep_none {Q : Type} {e : Ev} {q : Q} {b : Bd} (h : getA e b.1 = none) : mnStep e q () b = .inr q := by unfold mnStep; rw [h]; rfl
theorem mnStep_all {Q : Type} (e : Ev) (q r : Q) : ∀ l : List Bd, foldE (mnStep e q) (fun _ => r) () l = if (l.all fun b => match getA e b.1 with | some v => holdB b v | none => false) = true then r else q
  | [] => rfl
  | b :: l => by
    unfold foldE mnStep
    rw [List.all_cons]
    cases h : (match getA e b.1 with | some v => holdB b v | none => false) with
    | true => simp only [if_true, Bool.true_and]; exact mnStep_all e q r l
    | false => simp
theorem filter_Means_is (f : Fil) (e : Ev) (hr : Rise (nms e)) (he : e.length ≤ 1000000) (hf : f.2.length ≤ 1000000) : filter_Means f e = some (mnB f e) := by
  unfold filter_Means filter_Means_t mnB
  cases hd : f.1 with
  | true => exact (fn_t rfl).trans rfl
  | false =>
    refine (fn_f rfl).trans ?_
    have := foldE_run (bd := filter_Means_b0) f.2 (by omega) (fun i _ => (e, f.2, Int.ofNat f.2.length, (i : Int), ())) (mnStep e (Sum.inl (false, ()))) (fun _ => .inr ())
      (fun i hi p g => by
        refine (rn_in hi).trans ?_
        rw [getI_lt hi]
        refine (rn_o (event_Find_is e _ hr (by omega))).trans ?_
        obtain ⟨h1, h2⟩ := getA_pos e f.2[i].1 hr
        cases hin : inN (nms e) f.2[i].1 with
        | false => rw [mnStep_none (h2 hin)]; exact (rn_t rfl).trans rfl
        | true =>
          obtain ⟨a, ha, _, hg⟩ := h1 hin
          obtain ⟨hp, ha⟩ := List.getElem?_eq_some_iff.1 ha
          rw [mnStep_some hg]
          refine (rn_f rfl).trans ((rn_t dge0).trans ((rn_t (dlt hp)).trans ?_))
          show (LT.opt (filter_Holds f.2[i] (getI e ((posN (nms e) f.2[i].1 : Nat) : Int) _).2) _).run some g = _
          rw [getI_lt hp, ha]
          refine (rn_o (filter_Holds_is _ _)).trans ?_
          cases hh : holdB f.2[i] a.2 with
          | true => rw [wsucc (by omega)]; exact (rn_f rfl).trans rfl
          | false => exact (rn_t rfl).trans rfl)
      (fun p g => rn_out.trans rfl) ()
    rw [mnStep_all] at this
    refine (fn_o this).trans ?_
    cases (f.2.all fun b => match getA e b.1 with | some v => holdB b v | none => false) <;> rfl
theorem ref05_Means_is (f : Fil) (e : Ev) (he : e.length ≤ 1000000) (hf : f.2.length ≤ 1000000) : ref05_Means f e = some (mnB f e) := by
  unfold ref05_Means ref05_Means_t mnB
  cases hd : f.1 with
  | true => exact (fn_t rfl).trans rfl
  | false =>
    refine (fn_f rfl).trans ?_
    have := foldE_run (bd := ref05_Means_b0) f.2 (by omega) (fun i _ => (e, f.2, Int.ofNat f.2.length, (i : Int), ())) (mnStep e (Sum.inl (false, ()))) (fun _ => .inr ())
      (fun i hi p g => by
        refine (rn_in hi).trans ?_
        rw [getI_lt hi]
        refine (rn_o (ref03_Find_is e _ (by omega))).trans ?_
        rcases fndI_is e 0 f.2[i].1 with ⟨h1, h2⟩ | ⟨j, hj, h1, h2⟩
        · rw [h2, mnStep_none h1]; exact (rn_t rfl).trans rfl
        · rw [h1, mnStep_some h2, Nat.zero_add]
          refine (rn_f (decide_eq_false (by omega))).trans ((rn_t dge0).trans ((rn_t (dlt hj)).trans ?_))
          rw [getI_lt hj]
          refine (rn_o (ref05_Holds_is _ _)).trans ?_
          cases hh : holdB f.2[i] e[j].2 with
          | true => rw [wsucc (by omega)]; exact (rn_f rfl).trans rfl
          | false => exact (rn_t rfl).trans rfl)
      (fun p g => rn_out.trans rfl) ()
    rw [mnStep_all] at this
    refine (fn_o this).trans ?_
    cases (f.2.all fun b => match getA e b.1 with | some v => holdB b v | none => false) <;> rfl
end Go.Proofs.YtdiomgmckidccaaGreatDoor
