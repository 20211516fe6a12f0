/- Strings' texts, plain law: what is written is read, and what is read was written so. -/
import Derived.Test.YtkkgimhjjhhkjaaGreatDoorZf
import Derived.Test.YtkkgimhjjhhkjaaGreatDoorZ
import Derived.Lib.ItoaMem
namespace Go.Proofs.YtkkgimhjjhhkjaaGreatDoor
open Go Go.Pev

theorem by_drop {u : ByteArray} {a : Nat} {l : List UInt8} (h : u.data.toList.drop a = l) (j : Nat) : by' u (a + j) = ((l.getD j 0).toNat : Int) := by
  subst h
  simp [by', List.getD_eq_getElem?_getD, List.getElem?_drop]
theorem size_drop {u : ByteArray} {a : Nat} {l : List UInt8} (h : u.data.toList.drop a = l) (hl : l ≠ []) : u.size = a + l.length := by
  have h1 : l.length = u.size - a := by rw [← h, List.length_drop, size_list]
  have h2 : 0 < l.length := List.length_pos_iff.2 hl
  omega
/-- What a byte's text is, by kinds. -/
def kindQ (n : Nat) : Bool :=
  let c := UInt8.ofNat n
  cond (decide (n = 34) || decide (n = 92)) (q c == [92, c]) (cond (decide (n < 32) || decide (126 < n))
    ((q c == [92, 120, (q c).getD 2 0, (q c).getD 3 0]) && decide (digZ ((((q c).getD 2 0).toNat : Nat) : Int) = ((n / 16 : Nat) : Int)) && decide (digZ ((((q c).getD 3 0).toNat : Nat) : Int) = ((n % 16 : Nat) : Int))) (q c == [c]))
theorem kindTab : (List.range 256).all kindQ = true := by kernel_rfl
theorem kind_of (c : UInt8) : kindQ c.toNat = true := List.all_eq_true.1 kindTab c.toNat (List.mem_range.2 c.toNat_lt)
/-- One byte's text is read. -/
theorem strR_q (u : ByteArray) (c : UInt8) (f a : Nat) (b : List Int) (rest : List UInt8) (hr : rest ≠ []) (h : u.data.toList.drop a = q c ++ rest) : strR u (f + 1) a b = strR u f (a + (q c).length) (b ++ [(c.toNat : Int)]) := by
  have hk := kind_of c
  unfold kindQ at hk
  simp only [UInt8.ofNat_toNat] at hk
  have hsz := size_drop h (by simp [hr])
  have hrl : 0 < rest.length := List.length_pos_iff.2 hr
  rw [List.length_append] at hsz
  have hb := by_drop h
  rw [strR]
  cases h1 : (decide (c.toNat = 34) || decide (c.toNat = 92)) with
  | true =>
    rw [h1] at hk
    simp only [cond_true, beq_iff_eq] at hk
    rw [hk] at hb hsz ⊢
    simp only [List.length_cons, List.length_nil] at hsz ⊢
    have b0 := hb 0
    have b1 := hb 1
    simp at b0 b1
    rw [show decide (a < u.size) = true from decide_eq_true (by omega), b0]
    simp only [cond_true, show ((92 : Int) == 34) = false from rfl, show decide ((92 : Int) < 32) = false from rfl, show decide ((92 : Int) > 126) = false from rfl, show ((92 : Int) == 92) = true from rfl, cond_false]
    unfold escT
    rw [show decide (a + 1 = u.size) = false from decide_eq_false (by omega), b1]
    simp only [Bool.or_eq_true, decide_eq_true_eq] at h1
    rcases h1 with h1 | h1 <;> rw [h1] <;> rfl
  | false =>
    rw [h1] at hk
    simp only [Bool.or_eq_false_iff, decide_eq_false_iff_not] at h1
    cases h2 : (decide (c.toNat < 32) || decide (126 < c.toNat)) with
    | true =>
      rw [h2] at hk
      simp only [cond_false, cond_true, Bool.and_eq_true, beq_iff_eq, decide_eq_true_eq] at hk
      obtain ⟨⟨k1, k2⟩, k3⟩ := hk
      generalize (q c).getD 2 0 = x at k1 k2
      generalize (q c).getD 3 0 = y at k1 k3
      rw [k1] at hb hsz ⊢
      simp only [List.length_cons, List.length_nil] at hsz ⊢
      have b0 := hb 0
      have b1 := hb 1
      have b2 := hb 2
      have b3 := hb 3
      simp at b0 b1 b2 b3
      rw [show decide (a < u.size) = true from decide_eq_true (by omega), b0]
      simp only [cond_true, show ((92 : Int) == 34) = false from rfl, show decide ((92 : Int) < 32) = false from rfl, show decide ((92 : Int) > 126) = false from rfl, show ((92 : Int) == 92) = true from rfl, cond_false]
      unfold escT
      have d2 : dg u (a + 1 + 1) = ((c.toNat / 16 : Nat) : Int) := by show digZ (by' u (a + 2)) = _; rw [b2]; exact k2
      have d3 : dg u (a + 1 + 2) = ((c.toNat % 16 : Nat) : Int) := by show digZ (by' u (a + 3)) = _; rw [b3]; exact k3
      rw [show decide (a + 1 = u.size) = false from decide_eq_false (by omega), b1, d2, d3]
      simp only [cond_true, show ((120 : Int) == 34) = false from rfl, show ((120 : Int) == 92) = false from rfl, show ((120 : Int) == 120) = true from rfl, cond_false]
      have hc := c.toNat_lt
      have e : ((c.toNat / 16 : Nat) : Int) * 16 + ((c.toNat % 16 : Nat) : Int) = (c.toNat : Int) := by omega
      rw [show decide (u.size ≤ a + 1 + 1) = false from decide_eq_false (by omega), show decide (u.size ≤ a + 1 + 2) = false from decide_eq_false (by omega), show decide (((c.toNat / 16 : Nat) : Int) < 0) = false from decide_eq_false (by omega), show decide (((c.toNat % 16 : Nat) : Int) < 0) = false from decide_eq_false (by omega), e, u8w _ (by omega) (by omega)]
      simp only [cond_false]
      simp only [Bool.or_eq_true, decide_eq_true_eq] at h2
      by_cases h3 : c.toNat < 32
      · rw [show decide ((c.toNat : Int) ≥ 32) = false from decide_eq_false (by omega)]; rfl
      · rw [show decide ((c.toNat : Int) ≥ 32) = true from decide_eq_true (by omega), show decide ((c.toNat : Int) ≤ 126) = false from decide_eq_false (by omega)]; rfl
    | false =>
      rw [h2] at hk
      simp only [cond_false, beq_iff_eq] at hk
      simp only [Bool.or_eq_false_iff, decide_eq_false_iff_not] at h2
      rw [hk] at hb hsz ⊢
      simp only [List.length_cons, List.length_nil] at hsz ⊢
      have b0 := hb 0
      simp at b0
      rw [show decide (a < u.size) = true from decide_eq_true (by omega), b0]
      rw [show ((c.toNat : Int) == 34) = false by simp; omega, show ((c.toNat : Int) == 92) = false by simp; omega, show decide ((c.toNat : Int) < 32) = false from decide_eq_false (by omega), show decide ((c.toNat : Int) > 126) = false from decide_eq_false (by omega)]
      rfl
theorem strR_qs (u : ByteArray) : ∀ (l : List UInt8) (f a : Nat) (b : List Int) (rest : List UInt8), rest ≠ [] → u.data.toList.drop a = l.flatMap q ++ rest → strR u (f + l.length) a b = strR u f (a + (l.flatMap q).length) (b ++ ints l)
  | [], f, a, b, rest, _, _ => by simp [ints]
  | c :: l, f, a, b, rest, hr, h => by
    rw [List.flatMap_cons, List.append_assoc] at h
    rw [List.length_cons, show f + (l.length + 1) = (f + l.length) + 1 by omega, strR_q u c (f + l.length) a b _ (by simp [hr]) h]
    have h' : u.data.toList.drop (a + (q c).length) = l.flatMap q ++ rest := by rw [← List.drop_drop, h, List.drop_left]
    rw [strR_qs u l f _ _ rest hr h', List.flatMap_cons, List.length_append, Nat.add_assoc]
    congr 1
    simp [ints]
/-- A string's text with something behind it. -/
theorem strRes_quote (s : ByteArray) (more : List UInt8) (u : ByteArray) (hu : u.data.toList = quoteL s ++ more) : strRes u = cond more.isEmpty (cond (decide (s.size > 1000)) .long (.val (2, 0, s, false))) (.bad (quoteL s).length) := by
  have hsz : u.size = (quoteL s).length + more.length := by rw [← size_list, hu, List.length_append]
  have hql : (quoteL s).length = (s.data.toList.flatMap q).length + 2 := by simp [quoteL]
  have hd : u.data.toList.drop 1 = s.data.toList.flatMap q ++ (34 :: more) := by rw [hu]; simp [quoteL]
  have hfl : s.data.toList.length ≤ (s.data.toList.flatMap q).length := by
    generalize s.data.toList = l
    induction l with
    | nil => simp
    | cons c l ih =>
      have : 1 ≤ (q c).length := by unfold q; cases (c == 34 || c == 92) <;> cases (decide (c < 32) || decide (126 < c)) <;> simp
      simp only [List.flatMap_cons, List.length_append, List.length_cons]
      omega
  have hl := strR_qs u s.data.toList (u.size + 1 - s.data.toList.length) 1 [] (34 :: more) (by simp) hd
  rw [show u.size + 1 - s.data.toList.length + s.data.toList.length = u.size + 1 by omega] at hl
  have hd2 : u.data.toList.drop (1 + (s.data.toList.flatMap q).length) = 34 :: more := by rw [← List.drop_drop, hd, List.drop_left]
  have b0 : by' u (1 + (s.data.toList.flatMap q).length) = 34 := by_drop hd2 0
  have e : strR u (u.size + 1) 1 [] = cond more.isEmpty (cond (decide (s.size > 1000)) .long (.ok (ints s.data.toList))) (.bad (quoteL s).length) := by
    rw [hl, show u.size + 1 - s.data.toList.length = (u.size - s.data.toList.length) + 1 by omega, strR, show decide (1 + (s.data.toList.flatMap q).length < u.size) = true from decide_eq_true (by omega), b0]
    simp only [cond_true, show ((34 : Int) == 34) = true from rfl, List.nil_append]
    have hi : (ints s.data.toList).length = s.size := by simp [ints]
    simp only [hi]
    cases more with
    | nil =>
      rw [show decide (1 + (s.data.toList.flatMap q).length + 1 < u.size) = false from decide_eq_false (by simp at hsz; omega)]
      rfl
    | cons c m =>
      rw [show decide (1 + (s.data.toList.flatMap q).length + 1 < u.size) = true from decide_eq_true (by simp at hsz; omega)]
      simp only [cond_true, List.isEmpty_cons, cond_false]
      rw [hql, show 1 + (s.data.toList.flatMap q).length + 1 = (s.data.toList.flatMap q).length + 2 by omega]
  unfold strRes
  rw [e]
  cases more with
  | nil =>
    cases hs : decide (s.size > 1000) with
    | true => rfl
    | false =>
      simp only [List.isEmpty_nil, cond_true, cond_false]
      rw [ofU8s_ints]
  | cons c m => rfl
end Go.Proofs.YtkkgimhjjhhkjaaGreatDoor
/- The statement ValueQuotes, by evaluation: true. -/
namespace Go.Proofs.YtkkgimhjjhhkjaaGreatDoor
open Go Go.Pev

def quoteB (s : ByteArray) : ByteArray := ⟨(quoteL s).toArray⟩
/-- value.Text at a string. -/
def sp11s : Pev.CSpec := ⟨fun | [.ag [.int .i64 2, .int .i64 0, .str s, .bool false]] => .br (decide (s.size ≤ 1000)) (.ret (.tup [.str (quoteB s), .err none])) .fail | _ => .fail⟩
theorem ok11s : EnterOk Tryz.prog 30 ∧ CSpecOk Tryz.prog cfgT 30 sp11s := ⟨ok11.1, by
  intro args res h
  unfold sp11s at h
  simp only at h
  split at h <;> try (cases h; done)
  rename_i s
  cases hd : decide (s.size ≤ 1000) with
  | false => rw [hd] at h; cases h
  | true =>
    rw [hd] at h
    refine ok11.2 _ res ?_
    rw [← h]
    show cond (inI 0) (cond (ckB 2 0 s false) _ _) _ = _
    rw [show inI 0 = true from rfl, show ckB 2 0 s false = cond (decide ((s.size : Int) > 1000)) true false from rfl, show decide ((s.size : Int) > 1000) = false from decide_eq_false (by have := of_decide_eq_true hd; omega)]
    rfl⟩
def plainB (t : ByteArray) : Bool := t.data.toList.all fun c => decide (32 ≤ c.toNat) && decide (c.toNat ≤ 126)
def E9 (s m t : ByteArray) (i : Int) : Env := ⟨[(0, .str s), (1, .str m), (4, .bool false), (5, .str t), (7, .int .i64 i)], []⟩
def X9 (s m t : ByteArray) : Env := ⟨[(0, .str s), (1, .str m), (4, .bool false), (5, .str t)], []⟩
def o9 : Orc := fun E k => match E with
  | ⟨[(0, .str s), (1, .str m), (4, .bool false), (5, .str t), (7, .int .i64 0)], []⟩ => cond (decide (t.size ≤ 100000)) (cond (plainB t) (k (.exit 0) (X9 s m t)) (k .ret (X9 s m t))) none
  | _ => none
def A9 : Anns := ⟨[(9, [.keep [0, 1, 4, 5, 7] []]), (100009, [.keep [0, 1, 4, 5] []])], [(9, o9)], 1000⟩
theorem q_plain (c : UInt8) : ((q c).all fun c => decide (32 ≤ c.toNat) && decide (c.toNat ≤ 126)) = true := by
  have h := List.all_eq_true.1 (show (List.range 256).all (fun n => (q (UInt8.ofNat n)).all fun c => decide (32 ≤ c.toNat) && decide (c.toNat ≤ 126)) = true by kernel_rfl) c.toNat (List.mem_range.2 c.toNat_lt)
  rw [UInt8.ofNat_toNat] at h
  exact h
theorem quote_plain (s : ByteArray) : plainB (quoteB s) = true := by
  show (quoteL s).all _ = true
  unfold quoteL
  rw [List.all_cons, List.all_append]
  have : ∀ l : List UInt8, ((l.flatMap q).all fun c => decide (32 ≤ c.toNat) && decide (c.toNat ≤ 126)) = true := by
    intro l
    induction l with
    | nil => rfl
    | cons c l ih => rw [List.flatMap_cons, List.all_append, ih, q_plain]; rfl
  rw [this]
  rfl
theorem q_one (c : UInt8) : 1 ≤ (q c).length := by unfold q; cases (c == 34 || c == 92) <;> cases (decide (c < 32) || decide (126 < c)) <;> simp
theorem flat_ge (l : List UInt8) : l.length ≤ (l.flatMap q).length := by
  induction l with
  | nil => simp
  | cons c l ih => have := q_one c; simp only [List.flatMap_cons, List.length_append, List.length_cons]; omega
theorem quote_size (s : ByteArray) : (quoteB s).size = (s.data.toList.flatMap q).length + 2 := by
  show (quoteL s).toArray.size = _
  simp [quoteL]
theorem quote_first (s : ByteArray) : by' (quoteB s) 0 = 34 := rfl
theorem quote_last (s : ByteArray) : by' (quoteB s) ((quoteB s).size - 1) = 34 := by
  rw [quote_size]
  show (((quoteL s).getD ((s.data.toList.flatMap q).length + 1) 0).toNat : Int) = 34
  unfold quoteL
  rw [List.getD_cons_succ, List.getD_eq_getElem?_getD, List.getElem?_append_right (Nat.le_refl _)]
  simp
theorem read_quote (s m u : ByteArray) (hu : u = quoteB s ++ m) (hm : m.size ≠ 0) (hs : u.size ≤ 8000) : readR u = .bad (quoteB s).size := by
  have hl : u.data.toList = quoteL s ++ m.data.toList := by rw [hu]; simp [quoteB]
  have h0 : by' u 0 = 34 := by show ((u.data.toList.getD 0 0).toNat : Int) = 34; rw [hl]; rfl
  have hn : u.size ≠ 0 := by rw [← size_list, hl]; simp [quoteL]
  have hme : m.data.toList.isEmpty = false := by
    cases he : m.data.toList with
    | nil => rw [← size_list, he] at hm; exact absurd rfl hm
    | cons c l => rfl
  unfold readR
  rw [decide_eq_false (by omega : ¬ u.size > 8000), decide_eq_false hn, h0]
  show cond ((34 : Int) == 45) _ _ = _
  simp only [show ((34 : Int) == 45) = false from rfl, show decide ((34 : Int) ≥ 48) = false from rfl, cond_false]
  unfold otherRes
  rw [h0]
  simp only [show ((34 : Int) == 34) = true from rfl, cond_true]
  rw [strRes_quote s m.data.toList u hl, hme]
  simp only [cond_false]
  congr 1
/-- What is read behind a string's text. -/
def fin9 (t : ByteArray) (r : RRd) : Option AV := cond r.isVal (some (.bool (failsB none true [(1, t.size)] 4))) (cond r.isBad (some (.bool (failsB (badE r.pos) true [(1, t.size)] 4))) (some (.bool (failsB (some ([], 2)) true [(1, t.size)] 4))))
end Go.Proofs.YtkkgimhjjhhkjaaGreatDoor
/- Strings' texts, plain law: what is read was written so. -/
namespace Go.Proofs.YtkkgimhjjhhkjaaGreatDoor
open Go Go.Pev

/-- A digit is the one that its value has. -/
theorem dig_back (c : UInt8) (h : 0 ≤ digZ (c.toNat : Int)) : hexS.data.toList.getD (digZ (c.toNat : Int)).toNat 0 = c := by
  have h1 := List.all_eq_true.1 (show (List.range 256).all (fun n => decide (digZ (n : Int) < 0) || (hexS.data.toList.getD (digZ (n : Int)).toNat 0 == UInt8.ofNat n)) = true by kernel_rfl) c.toNat (List.mem_range.2 c.toNat_lt)
  simp only [UInt8.ofNat_toNat, Bool.or_eq_true, decide_eq_true_eq, beq_iff_eq] at h1
  exact h1.resolve_left (by omega)
theorem strR_ok (u : ByteArray) : ∀ (f a : Nat) (b b' : List Int), strR u f a b = .ok b' → ∃ l : List UInt8, b' = b ++ ints l ∧ u.data.toList.drop a = l.flatMap q ++ [34] ∧ b'.length ≤ 1000
  | 0, a, b, b', h => by cases h
  | f + 1, a, b, b', h => by
    rw [strR] at h
    cases h0 : decide (a < u.size) with
    | false => rw [h0] at h; cases h
    | true =>
      have ha := of_decide_eq_true h0
      rw [h0] at h
      simp only [cond_true] at h
      have hdr := drop_cons u.data.toList a (by rw [size_list]; exact ha)
      have e0 : by' u a = ((u.data.toList.getD a 0).toNat : Int) := rfl
      generalize hx : u.data.toList.getD a 0 = x at hdr e0
      cases h34 : by' u a == 34 with
      | true =>
        rw [h34] at h
        simp only [cond_true] at h
        have hx34 : x = 34 := by
          have h1 : by' u a = 34 := eq_of_beq h34
          rw [e0] at h1
          exact UInt8.toNat_inj.1 (by show x.toNat = 34; omega)
        cases h1 : decide (a + 1 < u.size) with
        | true => rw [h1] at h; cases h
        | false =>
          rw [h1] at h
          cases h2 : decide (b.length > 1000) with
          | true => rw [h2] at h; cases h
          | false =>
            rw [h2] at h
            injection h with h
            subst h
            have hs := of_decide_eq_false h1
            refine ⟨[], by simp [ints], ?_, by have := of_decide_eq_false h2; omega⟩
            rw [hdr, hx34, List.drop_eq_nil_of_le (by rw [size_list]; omega)]
            rfl
      | false =>
        rw [h34] at h
        simp only [cond_false] at h
        cases h32 : decide (by' u a < 32) with
        | true => rw [h32] at h; cases h
        | false =>
          cases h126 : decide (by' u a > 126) with
          | true => rw [h32, h126] at h; cases h
          | false =>
            rw [h32, h126] at h
            simp only [cond_false] at h
            cases h92 : by' u a == 92 with
            | false =>
              rw [h92] at h
              simp only [cond_false] at h
              obtain ⟨l, r1, r2, r3⟩ := strR_ok u f (a + 1) _ b' h
              refine ⟨x :: l, by rw [r1, e0]; simp [ints], ?_, r3⟩
              have hq : q x = [x] := by
                have g1 := of_decide_eq_false h32
                have g2 := of_decide_eq_false h126
                have g3 : by' u a ≠ 34 := beq_eq_false_iff_ne.1 h34
                have g4 : by' u a ≠ 92 := beq_eq_false_iff_ne.1 h92
                rw [e0] at g1 g2 g3 g4
                have hk := kind_of x
                unfold kindQ at hk
                simp only [UInt8.ofNat_toNat] at hk
                rw [show (decide (x.toNat = 34) || decide (x.toNat = 92)) = false by simp; omega, show (decide (x.toNat < 32) || decide (126 < x.toNat)) = false by simp; omega] at hk
                simpa using hk
              rw [hdr, r2, List.flatMap_cons, hq]
              rfl
            | true =>
              rw [h92] at h
              simp only [cond_true] at h
              have hx92 : x = 92 := by
                have h1 : by' u a = 92 := eq_of_beq h92
                rw [e0] at h1
                exact UInt8.toNat_inj.1 (by show x.toNat = 92; omega)
              unfold escT at h
              cases hE : decide (a + 1 = u.size) with
              | true => rw [hE] at h; cases h
              | false =>
                have hE' := of_decide_eq_false hE
                rw [hE] at h
                simp only [cond_false] at h
                have hdr1 := drop_cons u.data.toList (a + 1) (by rw [size_list]; omega)
                have e1 : by' u (a + 1) = ((u.data.toList.getD (a + 1) 0).toNat : Int) := rfl
                generalize hy : u.data.toList.getD (a + 1) 0 = y at hdr1 e1
                have two : ∀ (n : Nat), y.toNat = n → (n = 34 ∨ n = 92) → strR u f (a + 1 + 1) (b ++ [by' u (a + 1)]) = .ok b' → ∃ l : List UInt8, b' = b ++ ints l ∧ u.data.toList.drop a = l.flatMap q ++ [34] ∧ b'.length ≤ 1000 := by
                  intro n hn hor hh
                  obtain ⟨l, r1, r2, r3⟩ := strR_ok u f (a + 1 + 1) _ b' hh
                  refine ⟨y :: l, by rw [r1, e1]; simp [ints], ?_, r3⟩
                  have hq : q y = [92, y] := by
                    have hk := kind_of y
                    unfold kindQ at hk
                    simp only [UInt8.ofNat_toNat] at hk
                    rw [show (decide (y.toNat = 34) || decide (y.toNat = 92)) = true by rw [hn]; rcases hor with rfl | rfl <;> rfl] at hk
                    simpa using hk
                  rw [hdr, hdr1, r2, List.flatMap_cons, hq, hx92]
                  rfl
                cases c34 : by' u (a + 1) == 34 with
                | true =>
                  rw [c34] at h
                  have h1 : by' u (a + 1) = 34 := eq_of_beq c34
                  exact two 34 (by rw [e1] at h1; omega) (.inl rfl) h
                | false =>
                  rw [c34] at h
                  cases c92 : by' u (a + 1) == 92 with
                  | true =>
                    rw [c92] at h
                    have h1 : by' u (a + 1) = 92 := eq_of_beq c92
                    exact two 92 (by rw [e1] at h1; omega) (.inr rfl) h
                  | false =>
                    rw [c92] at h
                    cases c120 : by' u (a + 1) == 120 with
                    | false => rw [c120] at h; cases h
                    | true =>
                      have hy120 : y = 120 := by
                        have h1 : by' u (a + 1) = 120 := eq_of_beq c120
                        rw [e1] at h1
                        exact UInt8.toNat_inj.1 (by show y.toNat = 120; omega)
                      rw [c120] at h
                      simp only [cond_true, cond_false] at h
                      cases s1 : decide (u.size ≤ a + 1 + 1) with
                      | true => rw [s1] at h; cases h
                      | false =>
                        cases g1 : decide (dg u (a + 1 + 1) < 0) with
                        | true => rw [s1, g1] at h; cases h
                        | false =>
                          cases s2 : decide (u.size ≤ a + 1 + 2) with
                          | true => rw [s1, g1, s2] at h; cases h
                          | false =>
                            cases g2 : decide (dg u (a + 1 + 2) < 0) with
                            | true => rw [s1, g1, s2, g2] at h; cases h
                            | false =>
                              rw [s1, g1, s2, g2] at h
                              simp only [cond_false] at h
                              have s1' := of_decide_eq_false s1
                              have s2' := of_decide_eq_false s2
                              have g1' := of_decide_eq_false g1
                              have g2' := of_decide_eq_false g2
                              have hdr2 := drop_cons u.data.toList (a + 1 + 1) (by rw [size_list]; omega)
                              have hdr3 := drop_cons u.data.toList (a + 1 + 2) (by rw [size_list]; omega)
                              have l1 := dig_lt (u.data.toList.getD (a + 1 + 1) 0)
                              have l2 := dig_lt (u.data.toList.getD (a + 1 + 2) 0)
                              have k1 := dig_back (u.data.toList.getD (a + 1 + 1) 0) (by show 0 ≤ dg u (a + 1 + 1); omega)
                              have k2 := dig_back (u.data.toList.getD (a + 1 + 2) 0) (by show 0 ≤ dg u (a + 1 + 2); omega)
                              change -1 ≤ dg u (a + 1 + 1) ∧ dg u (a + 1 + 1) ≤ 15 at l1
                              change -1 ≤ dg u (a + 1 + 2) ∧ dg u (a + 1 + 2) ≤ 15 at l2
                              change hexS.data.toList.getD (dg u (a + 1 + 1)).toNat 0 = _ at k1
                              change hexS.data.toList.getD (dg u (a + 1 + 2)).toNat 0 = _ at k2
                              generalize dg u (a + 1 + 1) = d1 at h g1' l1 k1
                              generalize dg u (a + 1 + 2) = d2 at h g2' l2 k2
                              have hn : d1 * 16 + d2 < 32 ∨ 126 < d1 * 16 + d2 := by
                                by_cases w1 : d1 * 16 + d2 ≥ 32
                                · by_cases w2 : d1 * 16 + d2 ≤ 126
                                  · rw [decide_eq_true w1, decide_eq_true w2] at h; cases h
                                  · omega
                                · omega
                              have hh : strR u f (a + 1 + 3) (b ++ [IntKind.u8.wrap (d1 * 16 + d2)]) = .ok b' := by
                                rcases hn with w | w
                                · rw [decide_eq_false (by omega : ¬ d1 * 16 + d2 ≥ 32)] at h; exact h
                                · rw [decide_eq_true (by omega : d1 * 16 + d2 ≥ 32), decide_eq_false (by omega : ¬ d1 * 16 + d2 ≤ 126)] at h; exact h
                              obtain ⟨l, r1, r2, r3⟩ := strR_ok u f (a + 1 + 3) _ b' hh
                              rw [u8w _ (by omega) (by omega)] at r1
                              have hc : (UInt8.ofNat (d1 * 16 + d2).toNat).toNat = (d1 * 16 + d2).toNat := by simp; omega
                              refine ⟨UInt8.ofNat (d1 * 16 + d2).toNat :: l, ?_, ?_, r3⟩
                              · rw [r1]
                                simp only [ints, List.map_cons, hc, List.append_assoc, List.cons_append, List.nil_append]
                                rw [Int.toNat_of_nonneg (by omega)]
                              · have hq : q (UInt8.ofNat (d1 * 16 + d2).toNat) = [92, 120, u.data.toList.getD (a + 1 + 1) 0, u.data.toList.getD (a + 1 + 2) 0] := by
                                  unfold q
                                  rw [show (UInt8.ofNat (d1 * 16 + d2).toNat == 34 || UInt8.ofNat (d1 * 16 + d2).toNat == 92) = false by
                                    rw [Bool.or_eq_false_iff]
                                    constructor
                                    · refine beq_eq_false_iff_ne.2 fun e => ?_
                                      have := congrArg UInt8.toNat e
                                      rw [hc] at this
                                      have h34 : (34 : UInt8).toNat = 34 := rfl
                                      omega
                                    · refine beq_eq_false_iff_ne.2 fun e => ?_
                                      have := congrArg UInt8.toNat e
                                      rw [hc] at this
                                      have h92 : (92 : UInt8).toNat = 92 := rfl
                                      omega]
                                  rw [show (decide (UInt8.ofNat (d1 * 16 + d2).toNat < 32) || decide (126 < UInt8.ofNat (d1 * 16 + d2).toNat)) = true by
                                    rw [Bool.or_eq_true, decide_eq_true_eq, decide_eq_true_eq, UInt8.lt_iff_toNat_lt, UInt8.lt_iff_toNat_lt, hc]
                                    have h32 : (32 : UInt8).toNat = 32 := rfl
                                    have h126 : (126 : UInt8).toNat = 126 := rfl
                                    omega]
                                  simp only [cond_true, cond_false, hc]
                                  rw [show (d1 * 16 + d2).toNat / 16 = d1.toNat by omega, show (d1 * 16 + d2).toNat % 16 = d2.toNat by omega, k1, k2]
                                rw [hdr, hdr1, hdr2, hdr3, r2, List.flatMap_cons, hq, hx92, hy120]
                                rfl
end Go.Proofs.YtkkgimhjjhhkjaaGreatDoor
/- Numbers' texts, plain law: what is written is read, and what is read was written so. -/
namespace Go.Proofs.YtkkgimhjjhhkjaaGreatDoor
open Go Go.Pev

/-- A numeral without zeros ahead. -/
def Canon (ds : List UInt8) : Prop := ds ≠ [] ∧ ds.all isDig = true ∧ (2 ≤ ds.length → ds.head? ≠ some 48)
theorem isDig_of {c : UInt8} (h : isDig c = true) : 48 ≤ c.toNat ∧ c.toNat ≤ 57 := by unfold isDig at h; simpa using h
theorem valF_pos {c : UInt8} {l : List UInt8} (hc : isDig c = true) (h : c ≠ 48) : 1 ≤ valF 0 (c :: l) := by
  have h1 := isDig_of hc
  have h2 : c.toNat ≠ 48 := fun e => h (UInt8.toNat_inj.1 e)
  exact Nat.le_trans (by omega) (valF_le l (0 * 10 + (c.toNat - 48)))
theorem dec_back : ∀ (k : Nat) (ds : List UInt8), ds.length = k → Canon ds → Lib.decDigits (valF 0 ds) = ds
  | 0, ds, hk, h => absurd (List.length_eq_zero_iff.1 hk) h.1
  | k + 1, ds, hk, h => by
    obtain ⟨hne, hd, hz⟩ := h
    rcases List.eq_nil_or_concat ds with rfl | ⟨init, d, rfl⟩
    · exact absurd rfl hne
    · rw [List.concat_eq_append] at *
      rw [List.all_append, Bool.and_eq_true] at hd
      obtain ⟨hi, hdd⟩ := hd
      have hdg := isDig_of (c := d) (by simpa using hdd)
      have hd48 : UInt8.ofNat (48 + (d.toNat - 48)) = d := by rw [show 48 + (d.toNat - 48) = d.toNat by omega, UInt8.ofNat_toNat]
      rw [valF_append]
      show Lib.decDigits (valF 0 init * 10 + (d.toNat - 48)) = _
      cases init with
      | nil =>
        rw [Lib.decDigits, dif_pos (by show 0 * 10 + (d.toNat - 48) < 10; omega)]
        simp only [List.nil_append]
        show [UInt8.ofNat (48 + (0 * 10 + (d.toNat - 48)))] = [d]
        rw [Nat.zero_mul, Nat.zero_add, hd48]
      | cons c l =>
        have hc48 : c ≠ 48 := by
          have := hz (by simp)
          simpa using this
        rw [List.all_cons, Bool.and_eq_true] at hi
        have hp := valF_pos (l := l) hi.1 hc48
        rw [Lib.decDigits, dif_neg (by omega), show (valF 0 (c :: l) * 10 + (d.toNat - 48)) / 10 = valF 0 (c :: l) by omega, show (valF 0 (c :: l) * 10 + (d.toNat - 48)) % 10 = d.toNat - 48 by omega, hd48]
        rw [dec_back k (c :: l) (by simpa using hk) ⟨by simp, by rw [List.all_cons, hi.1, hi.2]; rfl, fun _ => by simpa using hc48⟩]
theorem dec_canon (n : Nat) : Canon (Lib.decDigits n) ∧ valF 0 (Lib.decDigits n) = n ∧ (1 ≤ n → (Lib.decDigits n).head? ≠ some 48) := by
  induction n using Nat.strongRecOn with
  | _ n ih =>
    have dig (k : Nat) (hk : k < 10) : isDig (UInt8.ofNat (48 + k)) = true ∧ (UInt8.ofNat (48 + k)).toNat = 48 + k := by
      have e : (UInt8.ofNat (48 + k)).toNat = 48 + k := by simp; omega
      exact ⟨by unfold isDig; rw [e]; simp; omega, e⟩
    by_cases h : n < 10
    · obtain ⟨d1, d2⟩ := dig n h
      rw [Lib.decDigits, dif_pos h]
      refine ⟨⟨by simp, by rw [List.all_cons, d1]; rfl, fun h2 => by simp at h2⟩, ?_, fun h1 e => ?_⟩
      · show 0 * 10 + ((UInt8.ofNat (48 + n)).toNat - 48) = n
        rw [d2]; omega
      · have e2 : UInt8.ofNat (48 + n) = 48 := by simpa using e
        have := congrArg UInt8.toNat e2
        rw [d2] at this
        have h48 : (48 : UInt8).toNat = 48 := rfl
        omega
    · obtain ⟨⟨i1, i2, i3⟩, i4, i5⟩ := ih (n / 10) (by omega)
      obtain ⟨d1, d2⟩ := dig (n % 10) (by omega)
      rw [Lib.decDigits, dif_neg h]
      have hh : (Lib.decDigits (n / 10) ++ [UInt8.ofNat (48 + n % 10)]).head? ≠ some 48 := by
        have := i5 (by omega)
        cases hl : Lib.decDigits (n / 10) with
        | nil => exact absurd hl i1
        | cons c l => rw [hl] at this; simpa using this
      refine ⟨⟨by simp, by rw [List.all_append, i2, List.all_cons, d1]; rfl, fun _ => hh⟩, ?_, fun _ => hh⟩
      rw [valF_append, i4]
      show n / 10 * 10 + ((UInt8.ofNat (48 + n % 10)).toNat - 48) = n
      rw [d2]; omega

/-- A text: its sign, and its digits. -/
theorem text_neg {u : ByteArray} {neg : Bool} {ds : List UInt8} (h : u.data.toList = preOf neg ++ ds) (hc : Canon ds) : isNeg u = neg := by
  unfold isNeg
  show (((u.data.toList.getD 0 0).toNat : Int) == 45) = neg
  rw [h]
  cases neg with
  | true => rfl
  | false =>
    obtain ⟨hne, hd, _⟩ := hc
    cases ds with
    | nil => exact absurd rfl hne
    | cons c l =>
      rw [List.all_cons, Bool.and_eq_true] at hd
      have := isDig_of hd.1
      show ((c.toNat : Int) == 45) = false
      exact beq_eq_false_iff_ne.2 (by omega)
theorem text_digs {u : ByteArray} {neg : Bool} {ds : List UInt8} (h : u.data.toList = preOf neg ++ ds) (hn : isNeg u = neg) : digs u (fromOf u) u.size = ds ∧ u.size = fromOf u + ds.length := by
  have hf : fromOf u = (preOf neg).length := by unfold fromOf; rw [hn]; cases neg <;> rfl
  have hs : u.size = fromOf u + ds.length := by rw [← size_list, h, List.length_append, hf]
  refine ⟨?_, hs⟩
  unfold digs
  rw [h, hf, List.drop_left, List.take_of_length_le (by omega)]
theorem numR_go (u : ByteArray) (a lim : Nat) (hz : 2 ≤ u.size - a → by' u a ≠ 48) (hd : (digs u a u.size).all isDig = true) (hl : valF 0 (digs u a u.size) ≤ lim) : ∀ (f i n : Nat), u.size ≤ i + f → a ≤ i → i ≤ u.size → n = valF 0 (digs u a i) →
    numR u a lim (f + 1) i n = .ok (valF 0 (digs u a u.size))
  | f, i, n, hf, ha, hi, hn => by
    rw [numR]
    by_cases hlt : i < u.size
    · have hsu := digs_succ u a i ha hlt
      have hpre : ∃ r, digs u a u.size = digs u a (i + 1) ++ r := ⟨(digs u a u.size).drop (i + 1 - a), by
        unfold digs
        have e := (List.take_append_drop (i + 1 - a) ((u.data.toList.drop a).take (u.size - a))).symm
        rw [List.take_take, Nat.min_eq_left (by omega)] at e
        exact e⟩
      obtain ⟨r, hr⟩ := hpre
      have hg : isDig (u.data.toList.getD i 0) = true := by
        rw [hr, hsu, List.all_append, List.all_append] at hd
        simp only [Bool.and_eq_true, List.all_cons] at hd
        exact hd.1.2.1
      have hg' := isDig_of hg
      have e : by' u i = ((u.data.toList.getD i 0).toNat : Int) := rfl
      have hv : valF 0 (digs u a (i + 1)) = n * 10 + ((u.data.toList.getD i 0).toNat - 48) := by rw [hsu, valF_append, ← hn]; rfl
      have hle : n * 10 + ((u.data.toList.getD i 0).toNat - 48) ≤ lim := by
        rw [← hv]
        refine Nat.le_trans ?_ hl
        rw [hr, valF_append]
        exact valF_le _ _
      rw [decide_eq_true hlt, decide_eq_false (by rw [e]; omega : ¬ by' u i < 48), decide_eq_false (by rw [e]; omega : ¬ by' u i > 57), decide_eq_true hle]
      simp only [cond_true, cond_false]
      have h0 : (decide (a < i) && (by' u a == 48)) = false := by
        by_cases hai : a < i
        · rw [decide_eq_true hai, Bool.true_and]
          exact beq_eq_false_iff_ne.2 (hz (by omega))
        · rw [decide_eq_false hai, Bool.false_and]
      rw [h0, cond_false]
      match f, hf with
      | 0, hf => omega
      | f + 1, hf => exact numR_go u a lim hz hd hl f (i + 1) _ (by omega) (by omega) (by omega) hv.symm
    · rw [decide_eq_false hlt, cond_false]
      have e : i = u.size := by omega
      subst e
      rw [hn]
theorem by_from {u : ByteArray} {ds : List UInt8} (h : digs u (fromOf u) u.size = ds) (hne : ds ≠ []) : ∃ c l, ds = c :: l ∧ by' u (fromOf u) = (c.toNat : Int) := by
  cases ds with
  | nil => exact absurd rfl hne
  | cons c l =>
    refine ⟨c, l, rfl, ?_⟩
    have hlt : fromOf u < u.data.toList.length := by
      rcases Nat.lt_or_ge (fromOf u) u.data.toList.length with h1 | h1
      · exact h1
      · unfold digs at h; rw [List.drop_eq_nil_of_le h1] at h; simp at h
    have := drop_cons u.data.toList (fromOf u) hlt
    unfold digs at h
    rw [this, show u.size - fromOf u = (u.size - fromOf u - 1) + 1 by rw [size_list] at hlt; omega, List.take_succ_cons] at h
    injection h with h1 _
    show ((u.data.toList.getD (fromOf u) 0).toNat : Int) = _
    rw [h1]
/-- A number's text is read. -/
theorem num_read {u : ByteArray} {neg : Bool} {n : Nat} (h : u.data.toList = preOf neg ++ Lib.decDigits n) (hn : neg = true → 1 ≤ n) (hl : n ≤ limOf neg) : numRes u = .val (1, sgn neg n, ⟨#[]⟩, false) := by
  obtain ⟨hc, hv, hh⟩ := dec_canon n
  have hneg := text_neg h hc
  obtain ⟨hdg, hsz⟩ := text_digs h hneg
  obtain ⟨c, l, hcl, hby⟩ := by_from hdg hc.1
  have hd := hc.2.1
  rw [hcl, List.all_cons, Bool.and_eq_true] at hd
  have hcd := isDig_of hd.1
  have hb : badNeg u = false := by
    unfold badNeg
    rw [hneg]
    cases neg with
    | false => rfl
    | true =>
      have hf : fromOf u = 1 := by unfold fromOf; rw [hneg]; rfl
      rw [hf] at hby hsz
      have hne : c ≠ 48 := by
        have := hh (hn rfl)
        rw [hcl] at this
        simpa using this
      have hne' : c.toNat ≠ 48 := fun e => hne (UInt8.toNat_inj.1 e)
      rw [hcl] at hsz
      simp only [List.length_cons] at hsz
      rw [decide_eq_false (by omega : ¬ u.size = 1), hby, decide_eq_false (by omega : ¬ (c.toNat : Int) < 49), decide_eq_false (by omega : ¬ (c.toNat : Int) > 57)]
      rfl
  have hnum : numAt u = .ok n := by
    unfold numAt
    have hz : 2 ≤ u.size - fromOf u → by' u (fromOf u) ≠ 48 := by
      intro h2
      have h3 := hc.2.2 (by omega)
      rw [hcl] at h3
      have h4 : c ≠ 48 := by simpa using h3
      rw [hby]
      intro e
      exact h4 (UInt8.toNat_inj.1 (by show c.toNat = 48; omega))
    have := numR_go u (fromOf u) (limOf (isNeg u)) hz (by rw [hdg]; exact hc.2.1) (by rw [hdg, hv, hneg]; exact hl) u.size (fromOf u) 0 (by omega) (Nat.le_refl _) (by omega) (by rw [digs_self]; rfl)
    rw [this, hdg, hv]
  unfold numRes
  rw [hb, hnum, hneg]
  rfl
/-- What is read as a number was written so. -/
theorem num_back {u : ByteArray} {v : V} (h0 : 0 < u.size) (h : numRes u = .val v) : ∃ (neg : Bool) (n : Nat), v = (1, sgn neg n, ⟨#[]⟩, false) ∧ u.data.toList = preOf neg ++ Lib.decDigits n ∧ (neg = true → 1 ≤ n) ∧ n ≤ limOf neg := by
  unfold numRes at h
  cases hb : badNeg u with
  | true => rw [hb] at h; cases h
  | false =>
    rw [hb] at h
    simp only [cond_false] at h
    cases hm : numAt u with
    | bad p => rw [hm] at h; cases h
    | ok m =>
      rw [hm] at h
      injection h with h
      have hlt := from_lt h0 hb
      have hm' := hm
      unfold numAt at hm'
      obtain ⟨h1, h2, h3⟩ := numR_ok u (fromOf u) (limOf (isNeg u)) u.size (fromOf u) 0 m (by omega) (Nat.le_refl _) (by omega) (by rw [digs_self]; rfl) (by rw [digs_self]; rfl) (.inl (digs_self u _)) hm'
      have hlen : (digs u (fromOf u) u.size).length = u.size - fromOf u := by unfold digs; rw [List.length_take, List.length_drop, size_list]; omega
      have hne : digs u (fromOf u) u.size ≠ [] := by intro e; rw [e] at hlen; simp at hlen; omega
      obtain ⟨c, l, hcl, hby⟩ := by_from rfl hne
      have hzero : 2 ≤ (digs u (fromOf u) u.size).length → by' u (fromOf u) ≠ 48 := by
        intro hge he
        rw [hlen] at hge
        -- the second round would have stopped
        rw [show u.size + 1 = u.size - 1 + 1 + 1 by omega, numR, decide_eq_true hlt] at hm'
        simp only [cond_true] at hm'
        have hd0 := h1
        rw [hcl, List.all_cons, Bool.and_eq_true] at hd0
        have hcd := isDig_of hd0.1
        rw [hby, decide_eq_false (by omega : ¬ (c.toNat : Int) < 48), decide_eq_false (by omega : ¬ (c.toNat : Int) > 57), decide_eq_false (Nat.lt_irrefl _)] at hm'
        simp only [cond_false, Bool.false_and] at hm'
        generalize u.data.toList.getD (fromOf u) 0 = x at hm'
        cases hx : decide (0 * 10 + (x.toNat - 48) ≤ limOf (isNeg u)) with
        | false => rw [hx] at hm'; cases hm'
        | true =>
          rw [hx] at hm'
          simp only [cond_true] at hm'
          rw [numR, decide_eq_true (by omega : fromOf u + 1 < u.size)] at hm'
          simp only [cond_true] at hm'
          cases g1 : decide (by' u (fromOf u + 1) < 48) with
          | true => rw [g1] at hm'; cases hm'
          | false =>
            cases g2 : decide (by' u (fromOf u + 1) > 57) with
            | true => rw [g1, g2] at hm'; cases hm'
            | false => rw [g1, g2, decide_eq_true (by omega : fromOf u < fromOf u + 1), he] at hm'; cases hm'
      have hcan : Canon (digs u (fromOf u) u.size) := ⟨hne, h1, fun hge => by
        have := hzero hge
        rw [hby] at this
        rw [hcl]
        intro e
        have e2 : c = 48 := by simpa using e
        rw [e2] at this
        exact this rfl⟩
      have hdec := dec_back _ _ rfl hcan
      rw [← h2] at hdec
      refine ⟨isNeg u, m, h.symm, ?_, fun hn => ?_, h3.resolve_left hne⟩
      · rw [hdec, ← pre_take u (fun _ => by omega), ← digs_take u (fromOf u) u.size (by omega), List.take_of_length_le (by rw [size_list]; omega)]
      · unfold badNeg at hb
        rw [hn] at hb
        simp only [Bool.true_and, Bool.or_eq_false_iff, decide_eq_false_iff_not] at hb
        have hf : fromOf u = 1 := by unfold fromOf; rw [hn]; rfl
        rw [hf] at hby
        have hd0 := h1
        rw [hcl, List.all_cons, Bool.and_eq_true] at hd0
        rw [h2, hcl]
        exact valF_pos hd0.1 (fun e => by rw [e] at hby; have h48 : ((48 : UInt8).toNat : Int) = 48 := rfl; rw [h48] at hby; omega)
end Go.Proofs.YtkkgimhjjhhkjaaGreatDoor
/- Texts and values, plain law: what is written is read, and what is read was written so. -/
namespace Go.Proofs.YtkkgimhjjhhkjaaGreatDoor
open Go Go.Pev

theorem dec_len : ∀ (k n : Nat), n < 10 ^ (k + 1) → (Lib.decDigits n).length ≤ k + 1
  | 0, n, h => by rw [Lib.decDigits, dif_pos (by simpa using h)]; simp
  | k + 1, n, h => by
    by_cases h1 : n < 10
    · rw [Lib.decDigits, dif_pos h1]; simp
    · rw [Lib.decDigits, dif_neg h1, List.length_append]
      have := dec_len k (n / 10) (by rw [Nat.div_lt_iff_lt_mul (by omega)]; rw [Nat.pow_succ] at h; exact h)
      simp only [List.length_cons, List.length_nil]; omega
theorem lim20 {neg : Bool} {n : Nat} (h : n ≤ limOf neg) : n < 10 ^ (19 + 1) := by
  have h1 := (lim_le neg).2
  have h2 : (10 : Nat) ^ (19 + 1) = 100000000000000000000 := by decide
  omega
/-- How a number is parted. -/
theorem itoa_parts {i : Int} (h : inI i = true) : ∃ (neg : Bool) (n : Nat), i = sgn neg n ∧ Lib.itoa i = preOf neg ++ Lib.decDigits n ∧ (neg = true → 1 ≤ n) ∧ n ≤ limOf neg := by
  obtain ⟨h1, h2⟩ := of_decide_eq_true h
  by_cases h0 : i < 0
  · refine ⟨true, i.natAbs, ?_, ?_, fun _ => by omega, ?_⟩
    · show i = -(i.natAbs : Int); omega
    · unfold Lib.itoa; rw [if_pos h0]; rfl
    · show i.natAbs ≤ 9223372036854775808; omega
  · refine ⟨false, i.toNat, ?_, ?_, fun h => (by cases h), ?_⟩
    · show i = (i.toNat : Int); omega
    · unfold Lib.itoa; rw [if_neg h0]; rfl
    · show i.toNat ≤ 9223372036854775807; omega
theorem itoa_sgn {neg : Bool} {n : Nat} (h : neg = true → 1 ≤ n) : Lib.itoa (sgn neg n) = preOf neg ++ Lib.decDigits n := by
  cases neg with
  | true => exact Lib.itoa_neg n (h rfl)
  | false => exact Lib.itoa_nonneg n
theorem sgn_in {neg : Bool} {n : Nat} (h : n ≤ limOf neg) : inI (sgn neg n) = true := by
  cases neg with
  | true =>
    have h' : n ≤ 9223372036854775808 := h
    exact decide_eq_true (by show -9223372036854775808 ≤ -(n : Int) ∧ -(n : Int) ≤ 9223372036854775807; omega)
  | false =>
    have h' : n ≤ 9223372036854775807 := h
    exact decide_eq_true (by show -9223372036854775808 ≤ (n : Int) ∧ (n : Int) ≤ 9223372036854775807; omega)
theorem by0 {u : ByteArray} {c : UInt8} {l : List UInt8} (h : u.data.toList = c :: l) : by' u 0 = (c.toNat : Int) := by
  show ((u.data.toList.getD 0 0).toNat : Int) = _
  rw [h]; rfl
/-- The first byte says what is read. -/
theorem read_num {u : ByteArray} (h : u.size ≤ 8000) (h0 : u.size ≠ 0) (hc : by' u 0 = 45 ∨ (48 ≤ by' u 0 ∧ by' u 0 ≤ 57)) : readR u = numRes u := by
  unfold readR
  rw [decide_eq_false (by omega : ¬ u.size > 8000), decide_eq_false h0]
  simp only [cond_false]
  rcases hc with hc | ⟨h1, h2⟩
  · rw [hc]; rfl
  · rw [decide_eq_true h1, decide_eq_true h2]
    cases by' u 0 == 45 <;> rfl
theorem read_other {u : ByteArray} (h : u.size ≤ 8000) (h0 : u.size ≠ 0) (hc : ¬ (by' u 0 = 45 ∨ (48 ≤ by' u 0 ∧ by' u 0 ≤ 57))) : readR u = otherRes u := by
  unfold readR
  rw [decide_eq_false (by omega : ¬ u.size > 8000), decide_eq_false h0]
  simp only [cond_false]
  rw [show (by' u 0 == 45) = false from beq_eq_false_iff_ne.2 (by omega), cond_false]
  by_cases h1 : by' u 0 ≥ 48
  · rw [decide_eq_true h1, decide_eq_false (by omega : ¬ by' u 0 ≤ 57)]; rfl
  · rw [decide_eq_false h1]; rfl
theorem first_num {neg : Bool} {n : Nat} : ∃ c l, preOf neg ++ Lib.decDigits n = c :: l ∧ (c.toNat = 45 ∨ (48 ≤ c.toNat ∧ c.toNat ≤ 57)) := by
  cases neg with
  | true => exact ⟨45, Lib.decDigits n, rfl, .inl rfl⟩
  | false =>
    obtain ⟨⟨hne, hd, _⟩, _, _⟩ := dec_canon n
    cases hl : Lib.decDigits n with
    | nil => exact absurd hl hne
    | cons c l =>
      rw [hl, List.all_cons, Bool.and_eq_true] at hd
      exact ⟨c, l, rfl, .inr (isDig_of hd.1)⟩
/-- A value's text is read again. -/
theorem read_text (k i : Int) (s : ByteArray) (b : Bool) (hi : inI i = true) (hc : ckB k i s b = false) : readR (textS k i s b) = .val (k, i, s, b) ∧ (textS k i s b).size ≤ 8000 := by
  unfold textS
  have hc' := hc
  unfold ckB at hc'
  cases h1 : (k == 1) with
  | true =>
    rw [h1] at hc'
    obtain rfl : k = 1 := by simpa using h1
    simp only [cond_true] at hc' ⊢
    cases hs : (s.toList == ([] : List UInt8)) with
    | false => rw [hs] at hc'; cases hc'
    | true =>
      rw [hs] at hc'
      obtain rfl := ba_empty s hs
      cases b with
      | true => cases hc'
      | false =>
        obtain ⟨neg, n, rfl, ht, hn, hl⟩ := itoa_parts hi
        rw [ht]
        have hlen : (Lib.decDigits n).length ≤ 20 := dec_len 19 n (lim20 hl)
        have hsz : (⟨(preOf neg ++ Lib.decDigits n).toArray⟩ : ByteArray).size = (preOf neg ++ Lib.decDigits n).length := List.size_toArray
        have hpl : (preOf neg).length ≤ 1 := by cases neg <;> decide
        rw [List.length_append] at hsz
        have hle : (⟨(preOf neg ++ Lib.decDigits n).toArray⟩ : ByteArray).size ≤ 8000 := by omega
        refine ⟨?_, hle⟩
        obtain ⟨c, l, hcl, hcc⟩ := first_num (neg := neg) (n := n)
        have hb := by0 (u := ⟨(preOf neg ++ Lib.decDigits n).toArray⟩) (c := c) (l := l) (by simpa using hcl)
        rw [read_num hle (by rw [hsz, ← List.length_append, hcl]; simp) (by rw [hb]; omega)]
        exact num_read (by simp) hn hl
  | false =>
    rw [h1] at hc'
    cases h2 : (k == 2) with
    | true =>
      rw [h2] at hc'
      obtain rfl : k = 2 := by simpa using h2
      simp only [cond_true, cond_false] at hc' ⊢
      cases hi0 : (i != 0) with
      | true => rw [hi0] at hc'; cases hc'
      | false =>
        obtain rfl : i = 0 := by simpa [bne] using hi0
        cases b with
        | true => cases hc'
        | false =>
          have hs : s.size ≤ 1000 := by
            cases hd : decide ((s.size : Int) > 1000) with
            | true => rw [hd] at hc'; cases hc'
            | false => have := of_decide_eq_false hd; omega
          have hq := quote_size s
          have hf := flat_len s.data.toList
          rw [size_list] at hf
          change readR (quoteB s) = _ ∧ (quoteB s).size ≤ 8000
          refine ⟨?_, by omega⟩
          rw [read_other (by omega) (by omega) (by rw [quote_first]; omega)]
          unfold otherRes
          rw [quote_first]
          show strRes (quoteB s) = _
          rw [strRes_quote s [] (quoteB s) (by simp [quoteB])]
          rw [decide_eq_false (by omega : ¬ s.size > 1000)]
          rfl
    | false =>
      rw [h2] at hc'
      cases h3 : (k == 3) with
      | false => rw [h3] at hc'; cases hc'
      | true =>
        rw [h3] at hc'
        obtain rfl : k = 3 := by simpa using h3
        simp only [cond_true, cond_false] at hc' ⊢
        cases hs : (s.toList == ([] : List UInt8)) with
        | false => rw [hs] at hc'; cases hc'
        | true =>
          rw [hs] at hc'
          obtain rfl := ba_empty s hs
          cases hi0 : (i != 0) with
          | true => rw [hi0] at hc'; cases hc'
          | false =>
            obtain rfl : i = 0 := by simpa [bne] using hi0
            cases b with
            | true => exact ⟨by kernel_rfl, by show (4 : Nat) ≤ 8000; omega⟩
            | false => exact ⟨by kernel_rfl, by show (5 : Nat) ≤ 8000; omega⟩
theorem wordR_none (s w : ByteArray) : ∀ (f i : Nat), s.size ≤ i + f → wordR s w (f + 1) i = none → ∀ j, i ≤ j → j < s.size → j < w.size ∧ by' s j = by' w j
  | f, i, h, hn, j, hj, hlt => by
    rw [wordR, decide_eq_true (by omega : i < s.size)] at hn
    simp only [cond_true] at hn
    by_cases hw : w.size ≤ i
    · rw [decide_eq_true hw] at hn; cases hn
    · rw [decide_eq_false hw] at hn
      cases he : by' s i == by' w i with
      | false => rw [he] at hn; cases hn
      | true =>
        rw [he] at hn
        simp only [cond_true, cond_false] at hn
        by_cases hij : i = j
        · subst hij; exact ⟨by omega, eq_of_beq he⟩
        · match f, h, hn with
          | 0, h, hn => omega
          | f + 1, h, hn => exact wordR_none s w f (i + 1) (by omega) hn j (by omega) hlt
/-- A word that is read is the word. -/
theorem word_back {s w : ByteArray} (h : wordAt s w = none) (hs : ¬ s.size < w.size) : s = w := by
  have key := wordR_none s w s.size 0 (by omega) h
  have hsz : s.size = w.size := by
    rcases Nat.eq_zero_or_pos s.size with h0 | h0
    · omega
    · have := (key (s.size - 1) (by omega) (by omega)).1; omega
  apply ba_ext
  apply List.ext_getElem (by rw [size_list, size_list, hsz])
  intro j h1 h2
  have h3 := (key j (by omega) (by rw [size_list] at h1; exact h1)).2
  have e1 : by' s j = ((s.data.toList[j]).toNat : Int) := by show ((s.data.toList.getD j 0).toNat : Int) = _; rw [List.getD_eq_getElem?_getD, List.getElem?_eq_getElem h1]; rfl
  have e2 : by' w j = ((w.data.toList[j]).toNat : Int) := by show ((w.data.toList.getD j 0).toNat : Int) = _; rw [List.getD_eq_getElem?_getD, List.getElem?_eq_getElem h2]; rfl
  rw [e1, e2] at h3
  exact UInt8.toNat_inj.1 (by omega)
theorem word_val {s w : ByteArray} {b : Bool} {v : V} (h : wordRes s w b = .val v) : s = w ∧ v = (3, 0, ⟨#[]⟩, b) := by
  unfold wordRes at h
  cases hw : wordAt s w with
  | some p => rw [hw] at h; cases h
  | none =>
    rw [hw] at h
    simp only at h
    cases hd : decide (s.size < w.size) with
    | true => rw [hd] at h; cases h
    | false =>
      rw [hd] at h
      injection h with h
      exact ⟨word_back hw (of_decide_eq_false hd), h.symm⟩
theorem inI_0 : inI 0 = true := rfl
/-- What is read was written so. -/
theorem text_read {u : ByteArray} {v : V} (h : readR u = .val v) : textS v.1 v.2.1 v.2.2.1 v.2.2.2 = u ∧ ckB v.1 v.2.1 v.2.2.1 v.2.2.2 = false ∧ inI v.2.1 = true := by
  by_cases h8 : u.size > 8000
  · unfold readR at h; rw [decide_eq_true h8] at h; cases h
  by_cases h0 : u.size = 0
  · unfold readR at h; rw [decide_eq_false h8, decide_eq_true h0] at h; cases h
  by_cases hc : by' u 0 = 45 ∨ (48 ≤ by' u 0 ∧ by' u 0 ≤ 57)
  · rw [read_num (by omega) h0 hc] at h
    obtain ⟨neg, n, rfl, hl, hn, hle⟩ := num_back (by omega) h
    refine ⟨?_, by kernel_rfl, sgn_in hle⟩
    show (⟨(Lib.itoa (sgn neg n)).toArray⟩ : ByteArray) = u
    rw [itoa_sgn hn]
    exact ba_ext (by simpa using hl.symm)
  · rw [read_other (by omega) h0 hc] at h
    unfold otherRes at h
    cases h34 : by' u 0 == 34 with
    | true =>
      rw [h34] at h
      simp only [cond_true] at h
      unfold strRes at h
      cases hr : strR u (u.size + 1) 1 [] with
      | fin => rw [hr] at h; cases h
      | bad p => rw [hr] at h; cases h
      | long => rw [hr] at h; cases h
      | ok b =>
        rw [hr] at h
        injection h with h
        obtain ⟨l, r1, r2, r3⟩ := strR_ok u _ _ _ _ hr
        rw [List.nil_append] at r1
        subst h
        rw [r1] at r3 ⊢
        rw [ofU8s_ints]
        have hll : (ints l).length = l.length := by simp [ints]
        have hsz : (⟨l.toArray⟩ : ByteArray).size = l.length := List.size_toArray
        refine ⟨?_, ?_, inI_0⟩
        · show quoteB ⟨l.toArray⟩ = u
          apply ba_ext
          have h1 := drop_cons u.data.toList 0 (by rw [size_list]; omega)
          rw [List.drop_zero] at h1
          have h2 : u.data.toList.getD 0 0 = 34 := by
            have := eq_of_beq h34
            exact UInt8.toNat_inj.1 (by have e : by' u 0 = ((u.data.toList.getD 0 0).toNat : Int) := rfl; rw [e] at this; show _ = 34; omega)
          rw [h1, h2, show 0 + 1 = 1 from rfl, r2]
          simp [quoteB, quoteL]
        · show cond (decide (((⟨l.toArray⟩ : ByteArray).size : Int) > 1000)) true false = false
          rw [decide_eq_false (by rw [hsz]; omega)]
          rfl
    | false =>
      rw [h34] at h
      cases h116 : by' u 0 == 116 with
      | true =>
        rw [h116] at h
        obtain ⟨rfl, rfl⟩ := word_val h
        exact ⟨by kernel_rfl, by kernel_rfl, rfl⟩
      | false =>
        rw [h116] at h
        cases h102 : by' u 0 == 102 with
        | true =>
          rw [h102] at h
          obtain ⟨rfl, rfl⟩ := word_val h
          exact ⟨by kernel_rfl, by kernel_rfl, rfl⟩
        | false => rw [h102] at h; cases h
end Go.Proofs.YtkkgimhjjhhkjaaGreatDoor
/- The statements ValueBack and ValueApart, by evaluation: true. -/
namespace Go.Proofs.YtkkgimhjjhhkjaaGreatDoor
open Go Go.Pev

theorem list_eq {s t : ByteArray} (h : (s.toList == t.toList) = true) : s = t := by
  rw [ByteArray.toList_eq, ByteArray.toList_eq] at h
  exact ba_ext (eq_of_beq h)
theorem eqB_V (k i : Int) (s : ByteArray) (b : Bool) (k' i' : Int) (s' : ByteArray) (b' : Bool) : eqB shVal (k, i, s, b) (k', i', s', b') = ((k == k') && ((i == i') && ((s.toList == s'.toList) && (b == b')))) := by kernel_rfl
theorem eqB_iff (k i : Int) (s : ByteArray) (b : Bool) (k' i' : Int) (s' : ByteArray) (b' : Bool) : eqB shVal (k, i, s, b) (k', i', s', b') = true ↔ k = k' ∧ i = i' ∧ s = s' ∧ b = b' := by
  rw [eqB_V]
  constructor
  · intro h
    simp only [Bool.and_eq_true] at h
    exact ⟨eq_of_beq h.1, eq_of_beq h.2.1, list_eq h.2.2.1, eq_of_beq h.2.2.2⟩
  · rintro ⟨rfl, rfl, rfl, rfl⟩
    simp
/-- A text that is read is written again. -/
def again3 (m : ByteArray) (r : RRd) : Option AV := cond r.isVal (cond (inI r.v.2.1) (cond (ckB r.v.1 r.v.2.1 r.v.2.2.1 r.v.2.2.2) (some (.bool false)) (some (.bool ((textS r.v.1 r.v.2.1 r.v.2.2.1 r.v.2.2.2).toList == m.toList)))) none) (cond r.isBad (some (.bool true)) (some (.bool true)))
theorem again3_true (m : ByteArray) : again3 m (readR m) = some (.bool true) := by
  cases h : readR m with
  | bad p => rfl
  | long => rfl
  | val v =>
    obtain ⟨h1, h2, h3⟩ := text_read h
    show cond (inI v.2.1) (cond (ckB v.1 v.2.1 v.2.2.1 v.2.2.2) (some (AV.bool false)) (some (AV.bool ((textS v.1 v.2.1 v.2.2.1 v.2.2.2).toList == m.toList)))) none = _
    rw [h1, h2, h3]
    simp
/-! ### a text cut short -/
theorem cut_list (t : ByteArray) (c : Nat) : (t.extract 0 c).data.toList = t.data.toList.take c := by simp [ByteArray.data_extract]
theorem cut_by0 {t : ByteArray} {c : Nat} (h : 0 < c) (hc : c ≤ t.size) : by' (t.extract 0 c) 0 = by' t 0 := by
  show (((t.extract 0 c).data.toList.getD 0 0).toNat : Int) = ((t.data.toList.getD 0 0).toNat : Int)
  rw [cut_list]
  cases hl : t.data.toList with
  | nil => simp
  | cons x l =>
    match c, h with
    | c + 1, _ => simp
theorem cut_words : ((List.range 4).all fun c => !(readR (trueS.extract 0 c)).isVal) = true ∧ ((List.range 5).all fun c => !(readR (falseS.extract 0 c)).isVal) = true := ⟨by kernel_rfl, by kernel_rfl⟩
theorem val_is {r : RRd} (h : r.isVal = true) : ∃ v, r = .val v := by cases r with | val v => exact ⟨v, rfl⟩ | bad p => cases h | long => cases h
/-- A text cut short is a number's beginning, or none's. -/
theorem cut_text (k i : Int) (s : ByteArray) (b : Bool) (hi : inI i = true) (hc : ckB k i s b = false) (c : Nat) (hlt : c < (textS k i s b).size) (hv : (readR ((textS k i s b).extract 0 c)).isVal = true) : (readR ((textS k i s b).extract 0 c)).v.1 = 1 ∧ k = 1 := by
  obtain ⟨hrd, h8⟩ := read_text k i s b hi hc
  obtain ⟨v, hval⟩ := val_is hv
  have hsz : ((textS k i s b).extract 0 c).size = c := by rw [ByteArray.size_extract]; omega
  have hc0 : c ≠ 0 := by
    intro e
    subst e
    unfold readR at hval
    rw [hsz] at hval
    cases hval
  have hby := cut_by0 (t := textS k i s b) (Nat.pos_of_ne_zero hc0) (by omega)
  rw [hval]
  show v.1 = 1 ∧ k = 1
  have hkinds : k = 1 ∨ k = 2 ∨ k = 3 := by
    have hc' := hc
    unfold ckB at hc'
    cases h1 : (k == 1) with
    | true => exact .inl (eq_of_beq h1)
    | false =>
      cases h2 : (k == 2) with
      | true => exact .inr (.inl (eq_of_beq h2))
      | false =>
        cases h3 : (k == 3) with
        | true => exact .inr (.inr (eq_of_beq h3))
        | false => rw [h1, h2, h3] at hc'; cases hc'
  rcases hkinds with rfl | rfl | rfl
  · refine ⟨?_, rfl⟩
    obtain ⟨neg, n, rfl, ht, hn, hl⟩ := itoa_parts hi
    obtain ⟨x, l, hxl, hxx⟩ := first_num (neg := neg) (n := n)
    have hb0 : by' (textS 1 (sgn neg n) s b) 0 = (x.toNat : Int) := by0 (u := textS 1 (sgn neg n) s b) (l := l) (by show (Lib.itoa (sgn neg n)).toArray.toList = _; rw [ht, hxl])
    rw [hb0] at hby
    rw [read_num (by omega) (by omega) (by rw [hby]; omega)] at hval
    obtain ⟨neg', n', rfl, _⟩ := num_back (by omega) hval
    rfl
  · exfalso
    change (readR ((quoteB s).extract 0 c)).isVal = true at hv
    change readR (quoteB s) = _ at hrd
    change (quoteB s).size ≤ 8000 at h8
    change c < (quoteB s).size at hlt
    change readR ((quoteB s).extract 0 c) = _ at hval
    change ((quoteB s).extract 0 c).size = c at hsz
    change by' ((quoteB s).extract 0 c) 0 = by' (quoteB s) 0 at hby
    rw [quote_first] at hby
    have hh := hval
    rw [read_other (by omega) (by omega) (by rw [hby]; omega)] at hh
    unfold otherRes at hh
    rw [hby] at hh
    simp only [show ((34 : Int) == 34) = true from rfl, cond_true] at hh
    have hv2 : v.1 = 2 := by
      unfold strRes at hh
      cases hr : strR ((quoteB s).extract 0 c) (((quoteB s).extract 0 c).size + 1) 1 [] with
      | fin => rw [hr] at hh; cases hh
      | bad p => rw [hr] at hh; cases hh
      | long => rw [hr] at hh; cases hh
      | ok q => rw [hr] at hh; injection hh with hh; rw [← hh]
    have hq := (text_read hval).1
    rw [hv2] at hq
    change quoteB v.2.2.1 = (quoteB s).extract 0 c at hq
    have hsp : quoteB s = quoteB v.2.2.1 ++ (quoteB s).extract c (quoteB s).size := by
      rw [hq]
      apply ba_ext
      simp
    have hbad := read_quote v.2.2.1 ((quoteB s).extract c (quoteB s).size) (quoteB s) hsp (by rw [ByteArray.size_extract]; omega) h8
    rw [hrd] at hbad
    cases hbad
  · exfalso
    cases b with
    | true =>
      have h1 := List.all_eq_true.1 cut_words.1 c (List.mem_range.2 (show c < 4 from hlt))
      rw [show (readR (trueS.extract 0 c)).isVal = true from hv] at h1
      cases h1
    | false =>
      have h1 := List.all_eq_true.1 cut_words.2 c (List.mem_range.2 (show c < 5 from hlt))
      rw [show (readR (falseS.extract 0 c)).isVal = true from hv] at h1
      cases h1
theorem text_inj (k i : Int) (s : ByteArray) (b : Bool) (k' i' : Int) (s' : ByteArray) (b' : Bool) (hi : inI i = true) (hc : ckB k i s b = false) (hi' : inI i' = true) (hc' : ckB k' i' s' b' = false) :
    ((textS k i s b).toList == (textS k' i' s' b').toList) = eqB shVal (k, i, s, b) (k', i', s', b') := by
  cases h : eqB shVal (k, i, s, b) (k', i', s', b') with
  | true =>
    obtain ⟨rfl, rfl, rfl, rfl⟩ := (eqB_iff _ _ _ _ _ _ _ _).1 h
    simp
  | false =>
    cases ht : ((textS k i s b).toList == (textS k' i' s' b').toList) with
    | false => rfl
    | true =>
      have e := list_eq ht
      have r1 := (read_text k i s b hi hc).1
      have r2 := (read_text k' i' s' b' hi' hc').1
      rw [e, r2] at r1
      injection r1 with r1
      have := (eqB_iff k i s b k' i' s' b').2 (by injection r1 with a1 a2; injection a2 with a2 a3; injection a3 with a3 a4; exact ⟨a1.symm, a2.symm, a3.symm, a4.symm⟩)
      rw [this] at h
      cases h
end Go.Proofs.YtkkgimhjjhhkjaaGreatDoor
