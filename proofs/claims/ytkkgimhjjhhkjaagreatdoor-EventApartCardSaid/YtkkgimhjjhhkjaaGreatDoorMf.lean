/- Chapter 3, plain: Get, Set, Drop of both sides in closed form. -/
import Derived.Test.YtkkgimhjjhhkjaaGreatDoorMe
set_option maxRecDepth 100000
namespace Go.Proofs.YtkkgimhjjhhkjaaGreatDoor
open Go Go.Pev
def fstE (a b : Err) : Err := match a with
  | none => b
  | some x => some x
theorem fault_First_is (a b : Err) : fault_First [a, b] = some (fstE a b) := by
  unfold fault_First fault_First_t
  have := foldE_run (bd := fault_First_b0) [a, b] (by simp) (fun i (_ : Unit) => ([a, b], Int.ofNat [a, b].length, (i : Int), ())) (fun _ x => match x with | none => .inl () | some y => .inr (.inl (some y, ()))) (fun _ => .inr ())
    (fun i hi s g => by
      refine (rn_in hi).trans ?_
      rw [getI_lt hi, wsucc (by simp at hi; omega)]
      cases ([a, b][i]) with
      | none => rfl
      | some y => rfl)
    (fun s g => rn_out.trans rfl) ()
  refine (fn_o this).trans ?_
  cases a with
  | some y => rfl
  | none => cases b with
    | some y => rfl
    | none => rfl
theorem toE_fst (a : Err) : (toE a).1 = a.isSome := by cases a <;> rfl
theorem ref01_First_is (a b : Err) : ref01_First [toE a, toE b] = some (toE (fstE a b)) := by
  unfold ref01_First ref01_First_t
  have := foldE_run (bd := ref01_First_b0) [toE a, toE b] (by simp) (fun i (_ : Unit) => ([toE a, toE b], Int.ofNat [toE a, toE b].length, (i : Int), false, 0, ())) (fun _ x => if x.1 = true then .inr (.inl (x.1, x.2.1, x.2.2, ())) else .inl ()) (fun _ => .inr (false, 0, ()))
    (fun i hi s g => by
      refine (rn_in hi).trans ?_
      rw [getI_lt hi, wsucc (by simp at hi; omega)]
      cases h : ([toE a, toE b][i]).1 with
      | false => exact (rn_f rfl).trans rfl
      | true => exact (rn_t rfl).trans (by simp [h, rn_ret]))
    (fun s g => rn_out.trans rfl) ()
  refine (fn_o this).trans ?_
  cases a with
  | some y => rfl
  | none => cases b with
    | some y => rfl
    | none => rfl
theorem begin_is (l : Ev) (s : ByteArray) (hl : l.length ≤ 1000000) : ref03_begin l s = some (toE (askE l s)) := by
  unfold ref03_begin ref03_begin_t
  refine (fn_o (ref03_Check_is l hl)).trans ?_
  unfold askE
  cases h : ckEv l with
  | some e => exact (fn_f rfl).trans rfl
  | none =>
    refine (fn_t rfl).trans ((fn_o (ref03_Name_is s)).trans ?_)
    cases nameB s <;> rfl
theorem fndI_in {l : Ev} (hr : Rise (nms l)) (s : ByteArray) : decide (fndI 0 l s < 0) = !inN (nms l) s := by
  obtain ⟨h1, h2⟩ := getA_pos l s hr
  rcases fndI_is l 0 s with ⟨k1, k2⟩ | ⟨j, hj, k1, k2⟩
  · rw [k2]
    cases hi : inN (nms l) s with
    | false => rfl
    | true =>
      obtain ⟨a, _, _, h3⟩ := h1 hi
      rw [k1] at h3; cases h3
  · rw [k1]
    cases hi : inN (nms l) s with
    | true => exact decide_eq_false (by omega)
    | false => rw [h2 hi] at k2; cases k2
theorem DocGet_is (l : Ev) (s : ByteArray) (hl : l.length ≤ 1000000) : ref03_DocGet l s = some ((getE l s).1, toE (getE l s).2) := by
  unfold ref03_DocGet ref03_DocGet_t
  refine (fn_o (begin_is l s hl)).trans ?_
  unfold getE
  cases ha : askE l s with
  | some e => exact (fn_t rfl).trans rfl
  | none =>
    obtain ⟨hc, _⟩ := askE_none ha
    obtain ⟨hr, _⟩ := ck_rise hc
    refine (fn_f rfl).trans ((fn_o (ref03_Find_is l s hl)).trans ?_)
    obtain ⟨h1, h2⟩ := getA_pos l s hr
    have hin := fndI_in hr s
    cases hi : inN (nms l) s with
    | false =>
      rw [hi] at hin
      refine (fn_t hin).trans ?_
      unfold inN at hi
      have hi := of_decide_eq_false hi
      cases hp : l[posN (nms l) s]? with
      | none => rfl
      | some a =>
        have : a.1 ≠ s := fun e => hi (by rw [List.getElem?_map, hp]; exact congrArg some e)
        simp only [if_neg this]
        rfl
    | true =>
      rw [hi] at hin
      obtain ⟨a, k1, k2, k3⟩ := h1 hi
      rw [k1]
      simp only [if_pos k2]
      rcases fndI_is l 0 s with ⟨q1, q2⟩ | ⟨j, hj, q1, q2⟩
      · rw [k3] at q1; cases q1
      · rw [k3] at q2
        have q1 : fndI 0 l s = (j : Int) := by rw [q1]; omega
        rw [q1]
        refine (fn_f (by rw [← q1]; exact hin)).trans ((fn_t dge0).trans ((fn_t (dlt hj)).trans ?_))
        rw [getI_lt hj, ← Option.some.inj q2]; rfl
/-- Set's answer. -/
def setR (l : Ev) (n : ByteArray) (v : V) : Ev × Err := match fstE (askE l n) (ckE v) with
  | some e => ([], some e)
  | none => if inN (nms l) n = false ∧ l.length = 16 then ([], some ([], 11)) else (insE n v l, none)
/-- Drop's answer. -/
def dropR (l : Ev) (n : ByteArray) : Ev × Err := match askE l n with
  | some e => ([], some e)
  | none => if inN (nms l) n = true then (delE n l, none) else ([], some ([], 10))
theorem docset_loop (n : ByteArray) (v : V) (l : Ev) (hl : l.length ≤ 1000) (f : Bool × List (Int × Int) × Int) :
    ref03_DocSet_l0 (n, false, l, Int.ofNat l.length, 0, v.fst, v.snd.fst, v.snd.snd.fst, v.snd.snd.snd, false, 0, f.fst, f.snd.fst, f.snd.snd, [], ()) =
      some (n, (l.foldl (putS n v) (false, [])).1, v.1, v.2.1, v.2.2.1, v.2.2.2, false, 0, f.1, f.2.1, f.2.2, (l.foldl (putS n v) (false, [])).2, ()) := by
  have := foldE_runI (bd := ref03_DocSet_b0) l (by omega) (fun i (s : Bool × Ev) => (n, s.1, l, Int.ofNat l.length, (i : Int), v.fst, v.snd.fst, v.snd.snd.fst, v.snd.snd.snd, false, 0, f.fst, f.snd.fst, f.snd.snd, s.2, ())) (fun s a => .inl (putS n v s a))
    (fun s => (n, s.1, v.1, v.2.1, v.2.2.1, v.2.2.2, false, 0, f.1, f.2.1, f.2.2, s.2, ())) (fun i s => s.2.length ≤ 2 * i)
    (fun i hi s g hs => by
      refine (rn_in hi).trans ?_
      rw [getI_lt hi, wsucc (by omega), bytes_beq]
      have hb : Op.bytesLess (l[i].1).toList n.toList = ltN l[i].1 n := rfl
      have ha : appLim 56 s.2.length 1 = true := appLim_ok (by omega)
      have ha2 : ∀ x, appLim 56 (s.2 ++ [x]).length 1 = true := fun x => appLim_ok (by simp; omega)
      rw [hb]
      unfold putS
      obtain ⟨p, acc⟩ := s
      by_cases h2 : l[i].1 = n
      · cases p with
        | true =>
          refine (rn_f rfl).trans ((rn_f (by simp [h2])).trans ?_)
          simp [h2, rn_next]
        | false =>
          refine (rn_t rfl).trans ?_
          rw [h2, ltN_irrefl]
          refine (rn_t rfl).trans ((rn_t ha).trans ((rn_f (by simp)).trans ?_))
          simp [rn_next]
      · cases p with
        | true =>
          refine (rn_f rfl).trans ((rn_t (by simp [h2])).trans ((rn_t ha).trans ?_))
          simp [h2, rn_next]
        | false =>
          refine (rn_t rfl).trans ?_
          cases h3 : ltN l[i].1 n with
          | true =>
            refine (rn_f rfl).trans ((rn_t (by simp [h2])).trans ((rn_t ha).trans ?_))
            simp [h2, rn_next]
          | false =>
            refine (rn_t rfl).trans ((rn_t ha).trans ((rn_t (by simp [h2])).trans ((rn_t (ha2 _)).trans ?_)))
            simp [h2, rn_next])
    (fun i hi s t hs h => by
      obtain rfl := Sum.inl.inj h
      unfold putS
      split <;> (split <;> simp <;> omega))
    (fun s g hs => rn_out.trans rfl) (false, []) (by simp)
  rw [foldE_inl] at this
  exact this
theorem docset_end (n : ByteArray) (v : V) (l : Ev) (hr : Rise (nms l)) (hl : l.length ≤ 1000) (f : Bool × List (Int × Int) × Int) :
    (LT.br (!(l.foldl (putS n v) (false, [])).1) (LT.br (appLim 56 (l.foldl (putS n v) (false, [])).2.length 1) (LT.ret ((l.foldl (putS n v) (false, [])).2 ++ [(n, v.1, v.2.1, v.2.2.1, v.2.2.2)], f.1, f.2.1, f.2.2)) .fail) (LT.ret ((l.foldl (putS n v) (false, [])).2, f.1, f.2.1, f.2.2)) : FT (Ev × Bool × List (Int × Int) × Int)).fin = some (insE n v l, f) := by
  have h := puts_is n v l [] hr
  have hln : (l.foldl (putS n v) (false, [])).2.length ≤ 2000 := by
    have := congrArg List.length h
    have := (insE_len n v l).1
    simp only [List.length_append, List.nil_append] at *
    omega
  simp only [List.nil_append] at h
  cases hp : (l.foldl (putS n v) (false, [])).1 with
  | true =>
    rw [hp, if_pos rfl, List.append_nil] at h
    refine (fn_f rfl).trans ?_
    rw [h]; rfl
  | false =>
    rw [hp, if_neg (by simp)] at h
    refine (fn_t rfl).trans ((fn_t (appLim_ok (by omega))).trans ?_)
    rw [show (n, v.1, v.2.1, v.2.2.1, v.2.2.2) = (n, v) from rfl, h]; rfl
theorem DocSet_is (l : Ev) (n : ByteArray) (v : V) (hl : l.length ≤ 1000) : ref03_DocSet l n v = some ((setR l n v).1, toE (setR l n v).2) := by
  unfold ref03_DocSet ref03_DocSet_t
  refine (fn_o (begin_is l n (by omega))).trans ((fn_o (ref02_Check_is v)).trans ((fn_o (ref01_First_is _ _)).trans ?_))
  unfold setR
  cases hf : fstE (askE l n) (ckE v) with
  | some e => exact (fn_f rfl).trans ((fn_t rfl).trans rfl)
  | none =>
    have ha : askE l n = none := by
      cases h : askE l n with
      | none => rfl
      | some x => rw [h] at hf; cases hf
    obtain ⟨hc, _⟩ := askE_none ha
    obtain ⟨hr, hl16⟩ := ck_rise hc
    have hin := fndI_in hr n
    refine (fn_t rfl).trans ((fn_o (ref03_Find_is l n (by omega))).trans ?_)
    cases hi : inN (nms l) n with
    | true =>
      rw [hi] at hin
      rw [if_neg (fun h => by cases h.1)]
      refine (fn_f hin).trans ((fn_f rfl).trans ((fn_o (docset_loop n v l hl _)).trans ?_))
      exact docset_end n v l hr hl _
    | false =>
      rw [hi] at hin
      refine (fn_t hin).trans ?_
      by_cases h16 : l.length = 16
      · rw [if_pos ⟨rfl, h16⟩]
        exact (fn_t (by simp [h16])).trans rfl
      · rw [if_neg (fun h => h16 h.2)]
        refine (fn_f (by simp only [Int.ofNat_eq_natCast, beq_eq_false_iff_ne, ne_eq]; omega)).trans ((fn_f rfl).trans ((fn_o (docset_loop n v l hl _)).trans ?_))
        exact docset_end n v l hr hl _
theorem docdrop_loop (n : ByteArray) (l : Ev) (hl : l.length ≤ 1000) (f : Bool × List (Int × Int) × Int) :
    ref03_DocDrop_l0 (n, l, Int.ofNat l.length, 0, false, 0, f.fst, f.snd.fst, f.snd.snd, [], ()) = some (false, 0, f.1, f.2.1, f.2.2, delE n l, ()) := by
  have := foldE_runI (bd := ref03_DocDrop_b0) l (by omega) (fun i (s : Ev) => (n, l, Int.ofNat l.length, (i : Int), false, 0, f.fst, f.snd.fst, f.snd.snd, s, ())) (fun s a => .inl (s ++ if a.1 = n then [] else [a]))
    (fun s => (false, 0, f.1, f.2.1, f.2.2, s, ())) (fun i s => s.length ≤ i)
    (fun i hi s g hs => by
      refine (rn_in hi).trans ?_
      rw [getI_lt hi, wsucc (by omega), bytes_beq]
      by_cases h2 : l[i].1 = n
      · refine (rn_f (by simp [h2])).trans ?_
        simp [h2, rn_next]
      · refine (rn_t (by simp [h2])).trans ((rn_t (appLim_ok (by omega))).trans ?_)
        simp [h2, rn_next])
    (fun i hi s t hs h => by
      obtain rfl := Sum.inl.inj h
      split <;> simp <;> omega)
    (fun s g hs => rn_out.trans rfl) [] (by simp)
  rw [foldE_inl] at this
  refine this.trans ?_
  have key : ∀ (l : Ev) (acc : Ev), l.foldl (fun s a => s ++ if a.1 = n then [] else [a]) acc = acc ++ delE n l := by
    intro l
    induction l with
    | nil => intro acc; simp [delE]
    | cons a l ih =>
      intro acc
      rw [List.foldl_cons, ih, delE_cons]
      by_cases h : a.1 = n <;> simp [h]
  rw [key, List.nil_append]
theorem DocDrop_is (l : Ev) (n : ByteArray) (hl : l.length ≤ 1000) : ref03_DocDrop l n = some ((dropR l n).1, toE (dropR l n).2) := by
  unfold ref03_DocDrop ref03_DocDrop_t
  refine (fn_o (begin_is l n (by omega))).trans ?_
  unfold dropR
  cases ha : askE l n with
  | some e => exact (fn_f rfl).trans ((fn_t rfl).trans rfl)
  | none =>
    obtain ⟨hc, _⟩ := askE_none ha
    obtain ⟨hr, hl16⟩ := ck_rise hc
    have hin := fndI_in hr n
    refine (fn_t rfl).trans ((fn_o (ref03_Find_is l n (by omega))).trans ?_)
    cases hi : inN (nms l) n with
    | true =>
      rw [hi] at hin
      rw [if_pos rfl]
      exact (fn_f hin).trans ((fn_f rfl).trans ((fn_o (docdrop_loop n l hl _)).trans rfl))
    | false =>
      rw [hi] at hin
      rw [if_neg (by simp)]
      exact (fn_t hin).trans rfl
theorem relR_one {α ρ : Type} (a : α) (f : α → Option ρ) : relR (anyW [a]) f = f a := by
  cases h : f a with
  | none => exact relR_none (anyW_good _) ⟨by simp, fun b hb => by rw [List.mem_singleton.1 hb]; exact h⟩
  | some r => exact relR_is (anyW_good _) ⟨by simp, fun b hb => by rw [List.mem_singleton.1 hb]; exact h⟩
theorem cloneN_is (l : Ev) (hl : l.length ≤ 1000) (H : List Pev.Node) : cloneN l [] H = some (l, H) := by
  unfold cloneN cloneN_t
  cases l with
  | nil => exact LT.fin_rel _ _ _ ⟨by simp, fun b _ => by cases b <;> rfl⟩
  | cons a l =>
    show relR (anyW [false]) _ = _
    rw [relR_one]
    exact (fn_f rfl).trans ((fn_t (appLim_ok (by simp at hl ⊢; omega))).trans rfl)
theorem inN_lt {l : List ByteArray} {n : ByteArray} (h : inN l n = true) : posN l n < l.length ∧ ∀ hp : posN l n < l.length, l[posN l n] = n := by
  unfold inN at h
  have h := of_decide_eq_true h
  obtain ⟨h1, h2⟩ := List.getElem?_eq_some_iff.1 h
  exact ⟨h1, fun _ => h2⟩
theorem event_Set_is (l : Ev) (n : ByteArray) (v : V) (hl : l.length ≤ 1000) (H : List Pev.Node) : event_Set l n v [] H = some ((setR l n v).1, (setR l n v).2, H) := by
  unfold event_Set event_Set_t
  refine (fn_o (event_asked_is l n (by omega))).trans ((fn_o (value_Check_is v)).trans ((fn_o (fault_First_is _ _)).trans ?_))
  unfold setR
  cases hf : fstE (askE l n) (ckE v) with
  | some e => exact (fn_t rfl).trans rfl
  | none =>
    have ha : askE l n = none := by
      cases h : askE l n with
      | none => rfl
      | some x => rw [h] at hf; cases hf
    obtain ⟨hc, _⟩ := askE_none ha
    obtain ⟨hr, hl16⟩ := ck_rise hc
    refine (fn_f rfl).trans ((fn_o (event_Find_is l n hr (by omega))).trans ((fn_o (cloneN_is l hl H)).trans ?_))
    cases hi : inN (nms l) n with
    | true =>
      obtain ⟨hp, hn⟩ := inN_lt hi
      have hp' : posN (nms l) n < l.length := by simpa using hp
      rw [if_neg (fun h => by cases h.1)]
      refine (fn_t rfl).trans ((fn_t dge0).trans ((fn_t (dlt hp')).trans ((fn_t dge0).trans ((fn_t (dlt hp')).trans ?_))))
      rw [getI_lt hp', Int.toNat_natCast]
      have h1 : l[posN (nms l) n].1 = n := by
        have := hn hp
        rw [List.getElem_map] at this
        exact this
      rw [h1, set_ins n v l hi]; rfl
    | false =>
      refine (fn_f rfl).trans ?_
      by_cases h16 : l.length = 16
      · rw [if_pos ⟨rfl, h16⟩]
        exact (fn_t (by simp [h16])).trans rfl
      · rw [if_neg (fun h => h16 h.2)]
        have hp := posN_le (nms l) n
        have hp' : posN (nms l) n ≤ l.length := by simpa using hp
        have hins : insC 56 l (posN (nms l) n : Int) [(n, v)] = some (insE n v l) := by
          unfold insC
          simp only
          rw [decide_eq_true (by omega), decide_eq_true (by omega), decide_eq_true (by omega), Int.toNat_natCast, put_ins n v l hi]; rfl
        exact (fn_f (by simp only [Int.ofNat_eq_natCast, beq_eq_false_iff_ne, ne_eq]; omega)).trans ((fn_o hins).trans rfl)
theorem event_Drop_is (l : Ev) (n : ByteArray) (hl : l.length ≤ 1000) (H : List Pev.Node) : event_Drop l n [] H = some ((dropR l n).1, (dropR l n).2, H) := by
  unfold event_Drop event_Drop_t
  refine (fn_o (event_asked_is l n (by omega))).trans ?_
  unfold dropR
  cases ha : askE l n with
  | some e => exact (fn_t rfl).trans rfl
  | none =>
    obtain ⟨hc, _⟩ := askE_none ha
    obtain ⟨hr, hl16⟩ := ck_rise hc
    refine (fn_f rfl).trans ((fn_o (event_Find_is l n hr (by omega))).trans ?_)
    cases hi : inN (nms l) n with
    | false => exact (fn_t rfl).trans rfl
    | true =>
      obtain ⟨hp, _⟩ := inN_lt hi
      have hp' : posN (nms l) n < l.length := by simpa using hp
      have hdel : delC l (posN (nms l) n : Int) (IntKind.i64.wrap ((posN (nms l) n : Int) + 1)) = some (delE n l) := by
        unfold delC
        rw [wsucc (by omega), decide_eq_true (by omega), decide_eq_true (by omega), decide_eq_true (by omega), Int.toNat_natCast, cut_del n l hr hi]; rfl
      exact (fn_f rfl).trans ((fn_o (cloneN_is l hl H)).trans ((fn_o hdel).trans rfl))
/-! ### EventSets -/
theorem few_ask {l : Ev} {n : ByteArray} : ∀ y, askE l n = some y → y.1.length ≤ 1 := by
  intro y hy
  unfold askE at hy
  cases hc : ckEv l with
  | some e => rw [hc] at hy; obtain rfl := Option.some.inj hy; exact ck_short hc
  | none =>
    rw [hc] at hy
    have hy : cond (nameB n) none (some ([], 3)) = some y := hy
    cases hn : nameB n with
    | true => rw [hn] at hy; cases hy
    | false => rw [hn] at hy; obtain rfl := Option.some.inj hy; simp
theorem few_get {l : Ev} {n : ByteArray} : ∀ y, (getE l n).2 = some y → y.1.length ≤ 1 := by
  intro y hy
  unfold getE at hy
  cases ha : askE l n with
  | some e => rw [ha] at hy; obtain rfl := Option.some.inj hy; exact few_ask _ ha
  | none =>
    rw [ha] at hy
    simp only at hy
    split at hy
    · split at hy
      · cases hy
      · obtain rfl := Option.some.inj hy; simp
    · obtain rfl := Option.some.inj hy; simp
theorem few_set {l : Ev} {n : ByteArray} {v : V} : ∀ y, (setR l n v).2 = some y → y.1.length ≤ 1 := by
  intro y hy
  unfold setR at hy
  cases hf : fstE (askE l n) (ckE v) with
  | some e =>
    rw [hf] at hy
    obtain rfl := Option.some.inj hy
    cases ha : askE l n with
    | some x => rw [ha] at hf; obtain rfl := Option.some.inj hf; exact few_ask _ ha
    | none =>
      rw [ha] at hf
      rw [ckE_few v _ hf]; simp
  | none =>
    rw [hf] at hy
    simp only at hy
    split at hy
    · obtain rfl := Option.some.inj hy; simp
    · cases hy
theorem few_drop {l : Ev} {n : ByteArray} : ∀ y, (dropR l n).2 = some y → y.1.length ≤ 1 := by
  intro y hy
  unfold dropR at hy
  cases ha : askE l n with
  | some e => rw [ha] at hy; obtain rfl := Option.some.inj hy; exact few_ask _ ha
  | none =>
    rw [ha] at hy
    simp only at hy
    split at hy
    · cases hy
    · obtain rfl := Option.some.inj hy; simp
theorem set_len {l : Ev} {n : ByteArray} {v : V} : (setR l n v).1.length ≤ l.length + 1 := by
  unfold setR
  split
  · simp
  · split
    · simp
    · exact (insE_len n v l).1
theorem drop_len {l : Ev} {n : ByteArray} : (dropR l n).1.length ≤ l.length := by
  unfold dropR
  split
  · simp
  · split
    · exact List.length_filter_le _ _
    · simp
theorem eqB_V_self (v : V) : eqB shVal v v = true := (eqB_iff _ _ _ _ _ _ _ _).2 ⟨rfl, rfl, rfl, rfl⟩
theorem eventSets_true (l : Ev) (n : ByteArray) (v : V) (H : List Pev.Node) : law03_EventSets l n v [] H = some (true, H) := by
  unfold law03_EventSets law03_EventSets_t
  by_cases hl : l.length ≤ 100
  · refine (fn_f (decide_eq_false (by simp only [Int.ofNat_eq_natCast]; omega))).trans ?_
    refine (fn_o (twin_is l (by omega))).trans ((fn_o (event_Get_is l n (by omega))).trans ((fn_o (DocGet_is l n (by omega))).trans ((fn_f (by rw [eqB_V_self]; rfl)).trans ((fn_o (fails_self _ few_get)).trans ((fn_f rfl).trans ?_)))))
    refine (fn_o (twin_is l (by omega))).trans ((fn_o (event_Set_is l n v (by omega) H)).trans ((fn_o (DocSet_is l n v (by omega))).trans ((fn_o (ref03_Same_self _ (show (setR l n v).1.length ≤ _ from by have := set_len (l := l) (n := n) (v := v); omega))).trans ((fn_f rfl).trans ((fn_o (fails_self _ few_set)).trans ((fn_f rfl).trans ?_))))))
    exact (fn_o (twin_is l (by omega))).trans ((fn_o (event_Drop_is l n (by omega) H)).trans ((fn_o (DocDrop_is l n (by omega))).trans ((fn_o (ref03_Same_self _ (show (dropR l n).1.length ≤ _ from by have := drop_len (l := l) (n := n); omega))).trans ((fn_t rfl).trans ((fn_o (fails_self _ few_drop)).trans rfl)))))
  · exact (fn_t (decide_eq_true (by simp only [Int.ofNat_eq_natCast]; omega))).trans rfl
theorem eventSets_law (l : Ev) (n : ByteArray) (v : V) : ∃ H, law03_EventSets l n v [] [] = some (true, H) := ⟨[], eventSets_true l n v []⟩
end Go.Proofs.YtkkgimhjjhhkjaaGreatDoor
