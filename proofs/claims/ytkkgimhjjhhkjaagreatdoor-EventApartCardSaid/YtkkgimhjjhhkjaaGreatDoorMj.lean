/- Chapter 3, plain: an event's text; unlike events have unlike texts. -/
import Derived.Test.YtkkgimhjjhhkjaaGreatDoorMi
set_option maxRecDepth 100000
namespace Go.Proofs.YtkkgimhjjhhkjaaGreatDoor
open Go Go.Pev
def inI (i : Int) : Prop := -9223372036854775808 ≤ i ∧ i ≤ 9223372036854775807
def txt (v : V) : List UInt8 := if v.1 = 1 then Lib.itoa v.2.1 else if v.1 = 2 then quS v.2.2.1 else Lib.formatBool v.2.2.2
/-- The three forms of a value. -/
theorem ck_forms {v : V} (h : ckE v = none) : (v.1 = 1 ∧ v.2.2.1.size = 0 ∧ v.2.2.2 = false) ∨ (v.1 = 2 ∧ v.2.1 = 0 ∧ v.2.2.2 = false ∧ v.2.2.1.size ≤ 1000) ∨ (v.1 = 3 ∧ v.2.1 = 0 ∧ v.2.2.1.size = 0) := by
  unfold ckE at h
  by_cases hv : vN v = 0
  · unfold vN at hv
    by_cases h1 : v.1 = 1
    · rw [if_pos h1] at hv
      by_cases h2 : v.2.2.1.size = 0 ∧ v.2.2.2 = false
      · exact .inl ⟨h1, h2.1, h2.2⟩
      · rw [if_neg h2] at hv; cases hv
    · rw [if_neg h1] at hv
      by_cases h2 : v.1 = 2
      · rw [if_pos h2] at hv
        by_cases h3 : v.2.1 = 0 ∧ v.2.2.2 = false
        · rw [if_pos h3] at hv
          by_cases h4 : v.2.2.1.size > 1000
          · rw [if_pos h4] at hv; cases hv
          · exact .inr (.inl ⟨h2, h3.1, h3.2, by omega⟩)
        · rw [if_neg h3] at hv; cases hv
      · rw [if_neg h2] at hv
        by_cases h3 : v.1 = 3
        · rw [if_pos h3] at hv
          by_cases h4 : v.2.1 = 0 ∧ v.2.2.1.size = 0
          · exact .inr (.inr ⟨h3, h4.1, h4.2⟩)
          · rw [if_neg h4] at hv; cases hv
        · rw [if_neg h3] at hv; cases hv
  · rw [if_neg hv] at h; cases h
theorem size_zero {s : ByteArray} (h : s.size = 0) : s = ByteArray.mk #[] := by
  have : s.data = #[] := Array.eq_empty_of_size_eq_zero h
  cases s; simp_all
theorem value_Text_is (v : V) (hc : ckE v = none) (hi : inI v.2.1) : value_Text v = some (⟨(txt v).toArray⟩, none) := by
  unfold value_Text value_Text_t
  refine (fn_o (value_Check_is v)).trans ?_
  rw [hc]
  refine (fn_f rfl).trans ?_
  unfold txt
  rcases ck_forms hc with ⟨h1, _⟩ | ⟨h1, _, _, h2⟩ | ⟨h1, _⟩
  · rw [if_pos h1]
    exact (fn_t (by rw [h1]; rfl)).trans ((fn_t (decide_eq_true (p := -9223372036854775808 ≤ v.2.1 ∧ v.2.1 ≤ 9223372036854775807) hi)).trans rfl)
  · rw [if_neg (by omega), if_pos h1]
    exact (fn_f (by rw [h1]; rfl)).trans ((fn_t (by rw [h1]; rfl)).trans ((fn_o (value_Quote_is _ (by omega))).trans rfl))
  · rw [if_neg (by omega), if_neg (by omega)]
    exact (fn_f (by rw [h1]; rfl)).trans ((fn_f (by rw [h1]; rfl)).trans rfl)
theorem bool_len (b : Bool) : (Lib.formatBool b).length ≤ 5 := by cases b <;> decide
theorem txt_len {v : V} (hc : ckE v = none) (hi : inI v.2.1) : (txt v).length ≤ 4002 := by
  unfold txt
  rcases ck_forms hc with ⟨h1, _⟩ | ⟨h1, _, _, h2⟩ | ⟨h1, _⟩
  · rw [if_pos h1]; have := itoa_len hi; omega
  · rw [if_neg (by omega), if_pos h1]; have := quS_len v.2.2.1; omega
  · rw [if_neg (by omega), if_neg (by omega)]; have := bool_len v.2.2.2; omega
/-- The end, or a comma. -/
def endC (r : List UInt8) : Prop := r = [] ∨ ∃ t, r = 44 :: t
theorem cut_at {x : UInt8} : ∀ {l l' r r' : List UInt8}, (∀ c ∈ l, c ≠ x) → (∀ c ∈ l', c ≠ x) → (r = [] ∨ ∃ t, r = x :: t) → (r' = [] ∨ ∃ t, r' = x :: t) → l ++ r = l' ++ r' → l = l' ∧ r = r'
  | [], [], _, _, _, _, _, _, h => ⟨rfl, h⟩
  | [], c :: l', r, r', _, h2, h3, _, h => by
    have h : r = c :: (l' ++ r') := h
    rcases h3 with rfl | ⟨t, rfl⟩
    · cases h
    · exact absurd (List.cons.inj h).1.symm (h2 c List.mem_cons_self)
  | c :: l, [], r, r', h1, _, _, h4, h => by
    have h : c :: (l ++ r) = r' := h
    rcases h4 with rfl | ⟨t, rfl⟩
    · cases h
    · exact absurd (List.cons.inj h).1 (h1 c List.mem_cons_self)
  | c :: l, c' :: l', r, r', h1, h2, h3, h4, h => by
    obtain ⟨e1, e2⟩ := List.cons.inj (show c :: (l ++ r) = c' :: (l' ++ r') from h)
    obtain ⟨q1, q2⟩ := cut_at (fun c hc => h1 c (List.mem_cons_of_mem _ hc)) (fun c hc => h2 c (List.mem_cons_of_mem _ hc)) h3 h4 e2
    exact ⟨by rw [e1, q1], q2⟩
theorem bool_char (b : Bool) : ∀ c ∈ Lib.formatBool b, c ≠ 44 := by cases b <;> decide
theorem bool_head (b : Bool) : ∃ c t, Lib.formatBool b = c :: t ∧ 97 ≤ c.toNat := by cases b <;> exact ⟨_, _, rfl, by decide⟩
theorem bool_inj {b b' : Bool} (h : Lib.formatBool b = Lib.formatBool b') : b = b' := by
  cases b <;> cases b' <;> first | rfl | exact absurd h (by decide)
theorem itoa_head (i : Int) : ∃ c t, Lib.itoa i = c :: t ∧ c.toNat ≠ 34 ∧ c.toNat < 97 := by
  cases h : Lib.itoa i with
  | nil => exact absurd h (itoa_ne i)
  | cons c t =>
    have := itoa_char i c (by rw [h]; exact List.mem_cons_self)
    exact ⟨c, t, rfl, by omega, by omega⟩
theorem txt_inj {v v' : V} (hc : ckE v = none) (hc' : ckE v' = none) {r r' : List UInt8} (hr : endC r) (hr' : endC r') (h : txt v ++ r = txt v' ++ r') : v = v' ∧ r = r' := by
  have i44 : ∀ i : Int, ∀ c ∈ Lib.itoa i, c ≠ (44 : UInt8) := fun i c hc e => by
    have := itoa_char i c hc
    rw [e] at this
    have h44 : (44 : UInt8).toNat = 44 := rfl
    omega
  have h34 : (34 : UInt8).toNat = 34 := rfl
  obtain ⟨k, i, s, b⟩ := v
  obtain ⟨k', i', s', b'⟩ := v'
  have f := ck_forms hc
  have f' := ck_forms hc'
  simp only at f f'
  unfold txt at h
  simp only at h
  rcases f with ⟨h1, h2, h3⟩ | ⟨h1, h2, h3, _⟩ | ⟨h1, h2, h3⟩ <;> rcases f' with ⟨g1, g2, g3⟩ | ⟨g1, g2, g3, _⟩ | ⟨g1, g2, g3⟩ <;> subst h1 <;> subst g1
  · rw [if_pos rfl, if_pos rfl] at h
    obtain ⟨q1, q2⟩ := cut_at (i44 i) (i44 i') hr hr' h
    rw [itoa_inj q1, size_zero h2, size_zero g2, h3, g3]
    exact ⟨rfl, q2⟩
  · rw [if_pos rfl, if_neg (by omega), if_pos rfl] at h
    obtain ⟨c, t, e1, e2, _⟩ := itoa_head i
    rw [e1] at h
    have h : c :: (t ++ r) = 34 :: _ := h
    rw [(List.cons.inj h).1] at e2
    exact absurd h34 e2
  · rw [if_pos rfl, if_neg (by omega), if_neg (by omega)] at h
    obtain ⟨c, t, e1, _, e2⟩ := itoa_head i
    obtain ⟨d, u, g1, g2⟩ := bool_head b'
    rw [e1, g1] at h
    have := (List.cons.inj (show c :: (t ++ r) = d :: (u ++ r') from h)).1
    rw [this] at e2
    omega
  · rw [if_neg (by omega), if_pos rfl, if_pos rfl] at h
    obtain ⟨c, t, e1, e2, _⟩ := itoa_head i'
    rw [e1] at h
    have h : 34 :: _ = c :: (t ++ r') := h
    rw [← (List.cons.inj h).1] at e2
    exact absurd h34 e2
  · rw [if_neg (by omega), if_pos rfl, if_neg (by omega), if_pos rfl] at h
    unfold quS at h
    have h : 34 :: ((s.data.toList.flatMap quL ++ [34]) ++ r) = 34 :: ((s'.data.toList.flatMap quL ++ [34]) ++ r') := h
    have h := (List.cons.inj h).2
    rw [List.append_assoc, List.append_assoc] at h
    obtain ⟨q1, q2⟩ := quS_inj _ _ r r' h
    have hs : s = s' := by
      cases s; cases s'
      exact congrArg ByteArray.mk (Array.toList_inj.1 q1)
    rw [hs, h2, g2, h3, g3]
    exact ⟨rfl, q2⟩
  · rw [if_neg (by omega), if_pos rfl, if_neg (by omega), if_neg (by omega)] at h
    obtain ⟨d, u, k1, k2⟩ := bool_head b'
    rw [k1] at h
    have h : 34 :: _ = d :: (u ++ r') := h
    rw [← (List.cons.inj h).1] at k2
    omega
  · rw [if_neg (by omega), if_neg (by omega), if_pos rfl] at h
    obtain ⟨c, t, e1, _, e2⟩ := itoa_head i'
    obtain ⟨d, u, k1, k2⟩ := bool_head b
    rw [e1, k1] at h
    have := (List.cons.inj (show d :: (u ++ r) = c :: (t ++ r') from h)).1
    rw [← this] at e2
    omega
  · rw [if_neg (by omega), if_neg (by omega), if_neg (by omega), if_pos rfl] at h
    obtain ⟨d, u, k1, k2⟩ := bool_head b
    rw [k1] at h
    have h : d :: (u ++ r) = 34 :: _ := h
    rw [(List.cons.inj h).1] at k2
    omega
  · rw [if_neg (by omega), if_neg (by omega), if_neg (by omega), if_neg (by omega)] at h
    obtain ⟨q1, q2⟩ := cut_at (bool_char b) (bool_char b') hr hr' h
    rw [bool_inj q1, h2, g2, size_zero h3, size_zero g3]
    exact ⟨rfl, q2⟩
/-! ### events -/
def piece (a : ByteArray × V) : List UInt8 := a.1.data.toList ++ 61 :: txt a.2
def tl (l : Ev) : List UInt8 := l.flatMap fun a => 44 :: 32 :: piece a
def tx : Ev → List UInt8
  | [] => []
  | a :: l => piece a ++ tl l
theorem tl_end (l : Ev) : endC (tl l) := by
  cases l with
  | nil => exact .inl rfl
  | cons a l => exact .inr ⟨_, rfl⟩
theorem name_61 {n : ByteArray} (h : nameB n = true) : ∀ c ∈ n.data.toList, c ≠ (61 : UInt8) := by
  unfold nameB at h
  rw [Bool.and_eq_true] at h
  intro c hc e
  have := List.all_eq_true.1 h.2 c hc
  rw [e] at this
  exact absurd this (by decide)
theorem piece_inj {a b : ByteArray × V} (ha : okA a) (hb : okA b) {r r' : List UInt8} (hr : endC r) (hr' : endC r') (h : piece a ++ r = piece b ++ r') : a = b ∧ r = r' := by
  unfold piece at h
  rw [List.append_assoc, List.append_assoc] at h
  obtain ⟨q1, q2⟩ := cut_at (x := 61) (name_61 ha.1) (name_61 hb.1) (.inr ⟨_, rfl⟩) (.inr ⟨_, rfl⟩) h
  obtain ⟨q3, q4⟩ := txt_inj ha.2 hb.2 hr hr' (List.cons.inj q2).2
  obtain ⟨n, v⟩ := a
  obtain ⟨m, u⟩ := b
  have hn : n = m := by
    cases n; cases m
    exact congrArg ByteArray.mk (Array.toList_inj.1 q1)
  have q3 : v = u := q3
  exact ⟨by rw [hn, q3], q4⟩
theorem tl_inj : ∀ {l m : Ev}, (∀ a ∈ l, okA a) → (∀ a ∈ m, okA a) → tl l = tl m → l = m
  | [], [], _, _, _ => rfl
  | [], b :: m, _, _, h => by cases h
  | a :: l, [], _, _, h => by cases h
  | a :: l, b :: m, h1, h2, h => by
    have h : 44 :: 32 :: (piece a ++ tl l) = 44 :: 32 :: (piece b ++ tl m) := h
    obtain ⟨q1, q2⟩ := piece_inj (h1 a List.mem_cons_self) (h2 b List.mem_cons_self) (tl_end l) (tl_end m) (List.cons.inj (List.cons.inj h).2).2
    rw [q1, tl_inj (fun a ha => h1 a (List.mem_cons_of_mem _ ha)) (fun a ha => h2 a (List.mem_cons_of_mem _ ha)) q2]
theorem piece_ne (a : ByteArray × V) (r : List UInt8) : piece a ++ r ≠ [] := by
  unfold piece; simp
theorem tx_inj {l m : Ev} (h1 : ∀ a ∈ l, okA a) (h2 : ∀ a ∈ m, okA a) (h : tx l = tx m) : l = m := by
  cases l with
  | nil => cases m with
    | nil => rfl
    | cons b m => exact absurd h.symm (piece_ne b _)
  | cons a l => cases m with
    | nil => exact absurd h (piece_ne a _)
    | cons b m =>
      obtain ⟨q1, q2⟩ := piece_inj (h1 a List.mem_cons_self) (h2 b List.mem_cons_self) (tl_end l) (tl_end m) h
      rw [q1, tl_inj (fun a ha => h1 a (List.mem_cons_of_mem _ ha)) (fun a ha => h2 a (List.mem_cons_of_mem _ ha)) q2]
theorem tx_join (l : Ev) : Lib.join (l.map piece) [44, 32] = tx l := by
  cases l with
  | nil => rfl
  | cons a l =>
    rw [List.map_cons, Lib.join_cons]
    show piece a ++ Lib.joinTail [44, 32] (l.map piece) = piece a ++ tl l
    unfold tl Lib.joinTail
    rw [List.map_map, List.flatMap_def]
    rfl
theorem name_len {n : ByteArray} (h : nameB n = true) : n.size ≤ 16 := by
  unfold nameB at h
  simp only [Bool.and_eq_true, decide_eq_true_eq] at h
  omega
theorem piece_len {a : ByteArray × V} (h : okA a) (hi : inI a.2.2.1) : (piece a).length ≤ 4019 := by
  have h1 := name_len h.1
  have h2 := txt_len h.2 hi
  unfold piece
  rw [List.length_append, List.length_cons, size_list]; omega
theorem tl_len : ∀ (l : Ev), (∀ a ∈ l, okA a ∧ inI a.2.2.1) → (tl l).length ≤ l.length * 4021
  | [], _ => by simp [tl]
  | a :: l, h => by
    have h1 := tl_len l fun a ha => h a (List.mem_cons_of_mem _ ha)
    have h2 := piece_len (h a List.mem_cons_self).1 (h a List.mem_cons_self).2
    have : tl (a :: l) = 44 :: 32 :: piece a ++ tl l := rfl
    rw [this]
    simp only [List.length_append, List.length_cons]; omega
theorem tx_len (l : Ev) (h : ∀ a ∈ l, okA a ∧ inI a.2.2.1) : (tx l).length ≤ l.length * 4021 := by
  cases l with
  | nil => simp [tx]
  | cons a l =>
    have h1 := tl_len l fun a ha => h a (List.mem_cons_of_mem _ ha)
    have h2 := piece_len (h a List.mem_cons_self).1 (h a List.mem_cons_self).2
    unfold tx
    rw [List.length_append, List.length_cons]; omega
def pieceB (a : ByteArray × V) : ByteArray := a.1 ++ ByteArray.mk #[61] ++ ⟨(txt a.2).toArray⟩
theorem pieceB_is (a : ByteArray × V) : (pieceB a).data.toList = piece a := by
  unfold pieceB piece
  simp
theorem event_Text_is (l : Ev) (hc : ckEv l = none) (hi : ∀ a ∈ l, inI a.2.2.1) : event_Text l = some (⟨(tx l).toArray⟩, none) := by
  obtain ⟨hr, hl⟩ := ck_rise hc
  have hok := ck_all hc
  unfold event_Text event_Text_t
  refine (fn_o (event_Check_is l (by omega))).trans ?_
  rw [hc]
  refine (fn_f rfl).trans ?_
  have := foldE_runI (bd := event_Text_b0) l (by omega) (fun i (r : List ByteArray) => (l, Int.ofNat l.length, (i : Int), r, ())) (fun r a => .inl (r ++ [pieceB a])) (fun r => (r, ())) (fun i r => r.length ≤ i)
    (fun i hi' r g hs => by
      refine (rn_in hi').trans ?_
      rw [getI_lt hi', wsucc (by omega)]
      have hm : l[i] ∈ l := List.getElem_mem hi'
      have h1 := name_len (hok _ hm).1
      have h2 := txt_len (hok _ hm).2 (hi _ hm)
      have hs1 : (l[i].1 ++ ByteArray.mk #[61]).size = l[i].1.size + 1 := by rw [ByteArray.size_append]; rfl
      have hs2 : (ByteArray.mk (txt l[i].2).toArray).size = (txt l[i].2).length := rfl
      refine (rn_o (value_Text_is _ (hok _ hm).2 (hi _ hm))).trans ((rn_t (decide_eq_true ?_)).trans ((rn_t (decide_eq_true ?_)).trans ((rn_t (appLim_ok (by omega))).trans rfl)))
      · show l[i].1.size + 1 ≤ _
        omega
      · show (l[i].1 ++ ByteArray.mk #[61]).size + (ByteArray.mk (txt l[i].2).toArray).size ≤ _
        omega)
    (fun i hi' r t hs h => by
      obtain rfl := Sum.inl.inj h
      rw [List.length_append, List.length_cons, List.length_nil]; omega)
    (fun r g _ => rn_out.trans rfl) [] (by simp)
  rw [foldE_inl] at this
  refine (fn_o this).trans ?_
  have key : ∀ (l : Ev) (r : List ByteArray), l.foldl (fun r a => r ++ [pieceB a]) r = r ++ l.map pieceB := by
    intro l
    induction l with
    | nil => intro r; simp
    | cons a l ih => intro r; rw [List.foldl_cons, ih]; simp
  rw [key, List.nil_append]
  have hmap : (l.map pieceB).map (·.data.toList) = l.map piece := by
    rw [List.map_map]
    exact List.map_congr_left fun a _ => pieceB_is a
  have hjoin : joinF (l.map pieceB) (ByteArray.mk #[44, 32]) = some ⟨(tx l).toArray⟩ := by
    rw [joinF_eq, hmap, show (ByteArray.mk #[44, 32]).data.toList = [44, 32] from rfl, tx_join]
    have := tx_len l fun a ha => ⟨hok a ha, hi a ha⟩
    rw [decide_eq_true ⟨by rw [List.length_map]; omega, by omega⟩]; rfl
  exact (fn_o hjoin).trans rfl
theorem event_Text_bad (l : Ev) (hl : l.length ≤ 1000) {e : List (Int × Int) × Int} (hc : ckEv l = some e) : event_Text l = some (ByteArray.mk #[], some e) := by
  unfold event_Text event_Text_t
  refine (fn_o (event_Check_is l (by omega))).trans ?_
  rw [hc]
  exact (fn_t rfl).trans rfl
end Go.Proofs.YtkkgimhjjhhkjaaGreatDoor
