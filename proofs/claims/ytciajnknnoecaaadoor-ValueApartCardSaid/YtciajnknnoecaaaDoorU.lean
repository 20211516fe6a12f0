/- value.Quote and aviaryref02.Quote: a string's text, byte by byte. -/
import Derived.Test.YtciajnknnoecaaaDoorT
import Derived.Test.YtciajnknnoecaaaDoorC
namespace Go.Proofs.YtciajnknnoecaaaDoor
open Go Go.Pev

abbrev hexS : ByteArray := ⟨#[48, 49, 50, 51, 52, 53, 54, 55, 56, 57, 97, 98, 99, 100, 101, 102]⟩
/-- A byte's text within a string's. -/
def q (c : UInt8) : List UInt8 :=
  cond (c == 34 || c == 92) [92, c] (cond (decide (c < 32) || decide (126 < c)) [92, 120, hexS.data.toList.getD (c.toNat / 16) 0, hexS.data.toList.getD (c.toNat % 16) 0] [c])
def ints (l : List UInt8) : List Int := l.map fun b => (b.toNat : Int)
theorem ints_append (l m : List UInt8) : ints (l ++ m) = ints l ++ ints m := List.map_append
theorem q_len (c : UInt8) : (q c).length ≤ 4 := by
  unfold q
  cases (c == 34 || c == 92) <;> cases (decide (c < 32) || decide (126 < c)) <;> simp

/-! ### value.Quote -/
def hz1 (z : Int) : Int := z.fdiv (2 ^ min 4 IntKind.u8.bits)
def hz2 (z : Int) : Int := IntKind.u8.wrap ((BitVec.ofInt IntKind.u8.bits z &&& BitVec.ofInt IntKind.u8.bits 15).toNat : Int)
def hd (z : Int) : Int := ((hexS.data.toList.getD z.toNat 0).toNat : Int)
/-- What a round does with its byte. -/
def roundQ {α : Type} (z : Int) (f : List Int → α) (d : α) : α :=
  let hex : α := cond (decide (0 ≤ hz1 z)) (cond (decide (hz1 z < (hexS.size : Int))) (cond (decide (hz2 z < (hexS.size : Int))) (f [92, 120, hd (hz1 z), hd (hz2 z)]) d) d) d
  cond (z == 34) (f [92, z]) (cond (z == 92) (f [92, z]) (cond (decide (z < 32)) hex (cond (decide (z > 126)) hex (f [z]))))
def chkQ (n : Nat) : Bool :=
  let z : Int := n
  cond (decide (n = 34) || decide (n = 92)) (ints (q (UInt8.ofNat n)) == [92, z]) (cond (decide (n < 32) || decide (126 < n)) (decide (0 ≤ hz1 z) && decide (hz1 z < (hexS.size : Int)) && decide (hz2 z < (hexS.size : Int)) && (ints (q (UInt8.ofNat n)) == [92, 120, hd (hz1 z), hd (hz2 z)])) (ints (q (UInt8.ofNat n)) == [z]))
theorem tabQ : (List.range 256).all chkQ = true := by kernel_rfl
theorem roundQ_is {α : Type} (c : UInt8) (f : List Int → α) (d : α) : roundQ (c.toNat : Int) f d = f (ints (q c)) := by
  have hlt : c.toNat < 256 := c.toNat_lt
  have h := List.all_eq_true.1 tabQ c.toNat (List.mem_range.2 hlt)
  unfold chkQ at h
  rw [UInt8.ofNat_toNat] at h
  unfold roundQ
  simp only
  by_cases h1 : c.toNat = 34
  · rw [h1] at h
    simp only [decide_true, Bool.true_or, cond_true, beq_iff_eq] at h
    rw [h, h1]; rfl
  · by_cases h2 : c.toNat = 92
    · rw [h2] at h
      simp only [decide_true, Bool.or_true, cond_true, beq_iff_eq] at h
      rw [h, h2]; rfl
    · rw [show decide (c.toNat = 34) = false from decide_eq_false h1, show decide (c.toNat = 92) = false from decide_eq_false h2] at h
      rw [show ((c.toNat : Int) == 34) = false by simp; omega, show ((c.toNat : Int) == 92) = false by simp; omega]
      simp only [Bool.or_false, cond_false] at h ⊢
      by_cases h3 : c.toNat < 32
      · rw [show decide (c.toNat < 32) = true from decide_eq_true h3] at h
        simp only [Bool.true_or, cond_true, Bool.and_eq_true, beq_iff_eq] at h
        rw [show decide ((c.toNat : Int) < 32) = true from decide_eq_true (by omega), h.1.1.1, h.1.1.2, h.1.2, h.2]
        rfl
      · by_cases h4 : 126 < c.toNat
        · rw [show decide (126 < c.toNat) = true from decide_eq_true h4] at h
          simp only [Bool.or_true, cond_true, Bool.and_eq_true, beq_iff_eq] at h
          rw [show decide ((c.toNat : Int) < 32) = false from decide_eq_false (by omega), show decide ((c.toNat : Int) > 126) = true from decide_eq_true (by omega), h.1.1.1, h.1.1.2, h.1.2, h.2]
          rfl
        · rw [show decide (c.toNat < 32) = false from decide_eq_false h3, show decide (126 < c.toNat) = false from decide_eq_false h4] at h
          simp only [Bool.or_false, cond_false, beq_iff_eq] at h
          rw [show decide ((c.toNat : Int) < 32) = false from decide_eq_false (by omega), show decide ((c.toNat : Int) > 126) = false from decide_eq_false (by omega), h]
          rfl

def E24 (s : ByteArray) (l : List Int) (n i : Int) : Env := ⟨[(0, .str s), (3, .own 900), (8, .int .i64 n), (9, .int .i64 i)], [(900, some (.row 5 (.int .u8) l))]⟩
def X24 (l : List Int) : Env := ⟨[(3, .own 900)], [(900, some (.row 5 (.int .u8) l))]⟩
def o24 : Orc := fun E k => match E with
  | ⟨[(0, .str s), (3, .own 900), (8, .int .i64 n), (9, .int .i64 0)], [(900, some (.row 5 (.int .u8) l))]⟩ =>
    cond (decide (n = s.size ∧ l.length + 4 * s.size ≤ 140737488355328)) (k (.exit 0) (X24 (l ++ ints (s.data.toList.flatMap q)))) none
  | _ => none
def A24o : Anns := ⟨[(3, [.keep [0, 3, 8, 9] [6, 18, 29, 45, 900], .ownS 3 900 5, .keep [0, 3, 8, 9] [900]]), (100003, [.keep [3] [900]])], [(3, o24)], 1000⟩
noncomputable def loop24 : Code := match loopsF Tryd.prog 24 with | c :: _ => c | [] => .skip
noncomputable abbrev L24 (m : Nat) (E : Env) (k : Exit → Env → Pev.R) : Pev.R := loopE (prep (tabs 0 []) (annOf A24o loop24)) (evalC Tryd.prog (tabs 0 []) A24o loop24) m E (outK (tabs 0 []) A24o loop24 k)
theorem step24 (s : ByteArray) (l : List Int) (n i : Int) (m : Nat) (k : Exit → Env → Pev.R) :
    L24 (m + 1) (E24 s l n i) k = cond (decide (i < n)) (cond (decide (0 ≤ i)) (cond (decide (i < (s.size : Int))) (roundQ ((s.data.toList.getD i.toNat 0).toNat : Int)
      (fun xs => cond (appLim 1 l.length xs.length) (L24 m (E24 s (l ++ xs) n (IntKind.i64.wrap (i + 1))) k) none) none) none) none) (k (.exit 0) (X24 l)) := by kernel_rfl
theorem drop_cons (l : List UInt8) (i : Nat) (h : i < l.length) : l.drop i = l.getD i 0 :: l.drop (i + 1) := by
  rw [List.drop_eq_getElem_cons h]
  simp [List.getD_eq_getElem?_getD, h]
theorem all24 (s : ByteArray) (hs : s.size ≤ 140737488355328) (k : Exit → Env → Pev.R) : ∀ (d i : Nat) (l : List Int), i + d = s.size → l.length + 4 * d ≤ 140737488355328 →
    L24 (d + 1) (E24 s l s.size i) k = k (.exit 0) (X24 (l ++ ints ((s.data.toList.drop i).flatMap q)))
  | 0, i, l, h, _ => by
    rw [step24, show decide ((i : Int) < (s.size : Int)) = false from decide_eq_false (by omega), cond_false, List.drop_eq_nil_of_le (by simp; omega)]
    simp [ints]
  | d + 1, i, l, h, hl => by
    have hlen : s.data.toList.length = s.size := by simp
    rw [step24, show decide ((i : Int) < (s.size : Int)) = true from decide_eq_true (by omega), show decide (0 ≤ (i : Int)) = true from decide_eq_true (by omega)]
    simp only [cond_true]
    rw [roundQ_is, Int.toNat_natCast]
    have h4 := q_len (s.data.toList.getD i 0)
    have e : (ints (q (s.data.toList.getD i 0))).length = (q (s.data.toList.getD i 0)).length := by simp [ints]
    rw [show appLim 1 l.length (ints (q (s.data.toList.getD i 0))).length = true from decide_eq_true (by rw [e]; omega), cond_true, i64w _ (by omega) (by omega)]
    rw [show ((i : Int) + 1) = ((i + 1 : Nat) : Int) by omega, all24 s hs k d (i + 1) _ (by omega) (by rw [List.length_append, e]; omega), drop_cons _ i (by omega)]
    simp only [List.flatMap_cons, ints_append, List.append_assoc]
theorem orc24 : OrcOk Tryd.prog (tabs 0 []) A24o loop24 := by
  intro o ho E k r h
  obtain rfl := orcIs (show orcOf A24o loop24 = some o24 by kernel_rfl) ho
  unfold o24 at h
  split at h
  · rename_i s n l
    cases hd : decide (n = s.size ∧ l.length + 4 * s.size ≤ 140737488355328) with
    | false => rw [hd] at h; cases h
    | true =>
      rw [hd] at h
      obtain ⟨rfl, h1⟩ := of_decide_eq_true hd
      exact ⟨s.size + 1, (all24 s (by omega) k s.size 0 l (by omega) h1).trans h⟩
  · cases h
/-- A string's text. -/
def quoteL (s : ByteArray) : List UInt8 := 34 :: (s.data.toList.flatMap q ++ [34])
def sp24 : Pev.CSpec := ⟨fun | [.str s] => .br (decide (s.size ≤ 1000000)) (.ret (.str ⟨(quoteL s).toArray⟩)) .fail | _ => .fail⟩
theorem ofU8s_ints (l : List UInt8) : ofU8s (ints l) = ⟨l.toArray⟩ := by
  unfold ofU8s ints
  rw [List.map_map, show ((fun n : Int => n.toNat.toUInt8) ∘ fun b : UInt8 => (b.toNat : Int)) = id from funext fun b => by simp, List.map_id]
theorem flat_len (l : List UInt8) : (l.flatMap q).length ≤ 4 * l.length := by
  induction l with
  | nil => simp
  | cons c l ih => have := q_len c; simp only [List.flatMap_cons, List.length_append, List.length_cons]; omega
theorem size_list (s : ByteArray) : s.data.toList.length = s.size := by simp
theorem t24 (s : ByteArray) (h : s.size ≤ 1000000) : evalF Tryd.prog (tabs 0 []) A24o 24 [.str s] = some (.str ⟨(quoteL s).toArray⟩) := by
  rw [show evalF Tryd.prog (tabs 0 []) A24o 24 [.str s] = cond (decide ((s.size : Int) = s.size ∧ [(34 : Int)].length + 4 * s.size ≤ 140737488355328)) (cond (appLim 1 ([34] ++ ints (s.data.toList.flatMap q)).length 1) (some (.str (ofU8s ([34] ++ ints (s.data.toList.flatMap q) ++ [34])))) none) none by kernel_rfl]
  have h1 := flat_len s.data.toList
  rw [size_list] at h1
  rw [show decide ((s.size : Int) = s.size ∧ [(34 : Int)].length + 4 * s.size ≤ 140737488355328) = true from decide_eq_true ⟨rfl, by simp; omega⟩, show appLim 1 (([34] : List Int) ++ ints (s.data.toList.flatMap q)).length 1 = true from decide_eq_true (by simp only [ints, List.length_append, List.length_map, List.length_cons, List.length_nil]; omega)]
  rw [show ([34] ++ ints (s.data.toList.flatMap q) ++ [34] : List Int) = ints (quoteL s) by simp [quoteL, ints], ofU8s_ints]
  rfl
theorem ok24 : EnterOk Tryd.prog 24 ∧ CSpecOk Tryd.prog cfg 24 sp24 := ⟨enter Tryd.func24 (by kernel_rfl) (by kernel_rfl), by
  intro args res h
  unfold sp24 at h
  simp only at h
  split at h <;> try (cases h; done)
  rename_i s
  cases hd : decide (s.size ≤ 1000000) with
  | false => rw [hd] at h; cases h
  | true =>
    rw [hd] at h
    obtain rfl := Option.some.inj h
    exact done1 noSpecs (A := A24o) (c := loop24) (by kernel_rfl) orc24 (by kernel_rfl) (t24 s (of_decide_eq_true hd))⟩

/-! ### aviaryref02.Quote -/
def a1 (z : Int) : Int := IntKind.u8.wrap (z.tdiv ((15 + 1 : Nat) : Int))
def a2 (z : Int) : Int := z.tmod ((15 + 1 : Nat) : Int)
def hx (z : Int) : ByteArray := hexS.extract z.toNat (IntKind.u8.wrap (z + 1)).toNat
def hxs (z : Int) : ByteArray := ⟨#[92, 120]⟩ ++ hx (a1 z) ++ hx (a2 z)
/-- What a round does with its byte, whose own text is 'one'. -/
def roundR {α : Type} (z : Int) (one : (ByteArray → α) → α) (f : ByteArray → α) (d : α) : α :=
  let hex : α := cond (decide (0 ≤ a1 z)) (cond (decide (a1 z ≤ IntKind.u8.wrap (a1 z + 1))) (cond (decide (IntKind.u8.wrap (a1 z + 1) ≤ (hexS.size : Int))) (cond (decide ((⟨#[92, 120]⟩ : ByteArray).size + (hx (a1 z)).size ≤ 9223372036854775807))
    (cond (decide (0 ≤ a2 z)) (cond (decide (a2 z ≤ IntKind.u8.wrap (a2 z + 1))) (cond (decide (IntKind.u8.wrap (a2 z + 1) ≤ (hexS.size : Int))) (cond (decide (((⟨#[92, 120]⟩ : ByteArray) ++ hx (a1 z)).size + (hx (a2 z)).size ≤ 9223372036854775807)) (f (hxs z)) d) d) d) d) d) d) d) d
  let esc : α := one fun t => cond (decide ((⟨#[92]⟩ : ByteArray).size + t.size ≤ 9223372036854775807)) (f (⟨#[92]⟩ ++ t)) d
  cond (z == 34) esc (cond (z == 92) esc (cond (decide (z < 32)) hex (cond (decide (z > 126)) hex (one f))))
def E51 (s t : ByteArray) (i : Int) : Env := ⟨[(0, .str s), (3, .str t), (4, .int .i64 i)], []⟩
def X51 (t : ByteArray) : Env := ⟨[(3, .str t)], []⟩
def o51 : Orc := fun E k => match E with
  | ⟨[(0, .str s), (3, .str t), (4, .int .i64 0)], []⟩ =>
    cond (decide (t.size + 4 * s.size ≤ 140737488355328)) (k (.exit 0) (X51 (t ++ ⟨(s.data.toList.flatMap q).toArray⟩))) none
  | _ => none
def A51 : Anns := ⟨[(3, [.keep [0, 3, 4] []]), (100003, [.keep [3] []])], [(3, o51)], 1000⟩
noncomputable def loop51 : Code := match loopsF Tryd.prog 51 with | c :: _ => c | [] => .skip
noncomputable abbrev L51 (m : Nat) (E : Env) (k : Exit → Env → Pev.R) : Pev.R := loopE (prep (tabs 0 []) (annOf A51 loop51)) (evalC Tryd.prog (tabs 0 []) A51 loop51) m E (outK (tabs 0 []) A51 loop51 k)
theorem step51 (s t : ByteArray) (i : Int) (m : Nat) (k : Exit → Env → Pev.R) :
    L51 (m + 1) (E51 s t i) k = cond (decide (i < (s.size : Int))) (cond (decide (0 ≤ i)) (cond (decide (i < (s.size : Int))) (roundR ((s.data.toList.getD i.toNat 0).toNat : Int)
      (fun f => cond (decide (0 ≤ i)) (cond (decide (i ≤ IntKind.i64.wrap (i + 1))) (cond (decide (IntKind.i64.wrap (i + 1) ≤ (s.size : Int))) (f (s.extract i.toNat (IntKind.i64.wrap (i + 1)).toNat)) none) none) none)
      (fun x => cond (decide (t.size + x.size ≤ 9223372036854775807)) (L51 m (E51 s (t ++ x) (IntKind.i64.wrap (i + 1))) k) none) none) none) none) (k (.exit 0) (X51 t)) := by kernel_rfl
def chkR (n : Nat) : Bool :=
  let z : Int := n
  cond (decide (n = 34) || decide (n = 92)) (((⟨#[92]⟩ : ByteArray) ++ ⟨#[UInt8.ofNat n]⟩).data.toList == q (UInt8.ofNat n)) (cond (decide (n < 32) || decide (126 < n))
    (decide (0 ≤ a1 z) && decide (a1 z ≤ IntKind.u8.wrap (a1 z + 1)) && decide (IntKind.u8.wrap (a1 z + 1) ≤ (hexS.size : Int)) && decide ((⟨#[92, 120]⟩ : ByteArray).size + (hx (a1 z)).size ≤ 9223372036854775807)
      && decide (0 ≤ a2 z) && decide (a2 z ≤ IntKind.u8.wrap (a2 z + 1)) && decide (IntKind.u8.wrap (a2 z + 1) ≤ (hexS.size : Int)) && decide (((⟨#[92, 120]⟩ : ByteArray) ++ hx (a1 z)).size + (hx (a2 z)).size ≤ 9223372036854775807) && ((hxs z).data.toList == q (UInt8.ofNat n)))
    ((⟨#[UInt8.ofNat n]⟩ : ByteArray).data.toList == q (UInt8.ofNat n)))
theorem tabR : (List.range 256).all chkR = true := by kernel_rfl
theorem ba_list {s : ByteArray} {l : List UInt8} (h : (s.data.toList == l) = true) : s = ⟨l.toArray⟩ := same s l h
theorem roundR_is {α : Type} (c : UInt8) (one : (ByteArray → α) → α) (f : ByteArray → α) (d : α) (ho : ∀ g, one g = g ⟨#[c]⟩) : roundR (c.toNat : Int) one f d = f ⟨(q c).toArray⟩ := by
  have hlt : c.toNat < 256 := c.toNat_lt
  have h := List.all_eq_true.1 tabR c.toNat (List.mem_range.2 hlt)
  unfold chkR at h
  rw [UInt8.ofNat_toNat] at h
  unfold roundR
  simp only [ho]
  have hs : (⟨#[92]⟩ : ByteArray).size + (⟨#[c]⟩ : ByteArray).size ≤ 9223372036854775807 := by show 1 + 1 ≤ 9223372036854775807; omega
  by_cases h1 : c.toNat = 34
  · rw [show ((c.toNat : Int) == 34) = true by simp; omega, cond_true, show decide ((⟨#[92]⟩ : ByteArray).size + (⟨#[c]⟩ : ByteArray).size ≤ 9223372036854775807) = true from decide_eq_true hs, cond_true]
    rw [show decide (c.toNat = 34) = true from decide_eq_true h1, Bool.true_or, cond_true] at h
    rw [ba_list h]
  · by_cases h2 : c.toNat = 92
    · rw [show ((c.toNat : Int) == 34) = false by simp; omega, cond_false, show ((c.toNat : Int) == 92) = true by simp; omega, cond_true, show decide ((⟨#[92]⟩ : ByteArray).size + (⟨#[c]⟩ : ByteArray).size ≤ 9223372036854775807) = true from decide_eq_true hs, cond_true]
      rw [show decide (c.toNat = 92) = true from decide_eq_true h2, Bool.or_true, cond_true] at h
      rw [ba_list h]
    · rw [show decide (c.toNat = 34) = false from decide_eq_false h1, show decide (c.toNat = 92) = false from decide_eq_false h2] at h
      rw [show ((c.toNat : Int) == 34) = false by simp; omega, show ((c.toNat : Int) == 92) = false by simp; omega]
      simp only [Bool.or_false, cond_false] at h ⊢
      by_cases h3 : c.toNat < 32
      · rw [show decide (c.toNat < 32) = true from decide_eq_true h3] at h
        simp only [Bool.true_or, cond_true, Bool.and_eq_true] at h
        obtain ⟨⟨⟨⟨⟨⟨⟨⟨g1, g2⟩, g3⟩, g4⟩, g5⟩, g6⟩, g7⟩, g8⟩, g9⟩ := h
        rw [show decide ((c.toNat : Int) < 32) = true from decide_eq_true (by omega), g1, g2, g3, g4, g5, g6, g7, g8, ba_list g9]
        rfl
      · by_cases h4 : 126 < c.toNat
        · rw [show decide (126 < c.toNat) = true from decide_eq_true h4] at h
          simp only [Bool.or_true, cond_true, Bool.and_eq_true] at h
          obtain ⟨⟨⟨⟨⟨⟨⟨⟨g1, g2⟩, g3⟩, g4⟩, g5⟩, g6⟩, g7⟩, g8⟩, g9⟩ := h
          rw [show decide ((c.toNat : Int) < 32) = false from decide_eq_false (by omega), show decide ((c.toNat : Int) > 126) = true from decide_eq_true (by omega), g1, g2, g3, g4, g5, g6, g7, g8, ba_list g9]
          rfl
        · rw [show decide (c.toNat < 32) = false from decide_eq_false h3, show decide (126 < c.toNat) = false from decide_eq_false h4] at h
          simp only [Bool.or_false, cond_false] at h
          rw [show decide ((c.toNat : Int) < 32) = false from decide_eq_false (by omega), show decide ((c.toNat : Int) > 126) = false from decide_eq_false (by omega), show (⟨#[c]⟩ : ByteArray) = ⟨(q c).toArray⟩ from ba_list h]
          rfl
theorem ba_ext {s t : ByteArray} (h : s.data.toList = t.data.toList) : s = t := by
  cases s; cases t; simpa using h
theorem extract_one (s : ByteArray) (i : Nat) (h : i < s.size) : s.extract i (i + 1) = ⟨#[s.data.toList.getD i 0]⟩ := by
  apply ba_ext
  have hl : i < s.data.toList.length := by rw [size_list]; exact h
  rw [show (s.extract i (i + 1)).data.toList = (s.data.toList.drop i).take 1 by simp [ByteArray.data_extract], List.drop_eq_getElem_cons hl]
  simp [List.getD_eq_getElem?_getD, h]
theorem all51 (s : ByteArray) (hs : s.size ≤ 140737488355328) (k : Exit → Env → Pev.R) : ∀ (d i : Nat) (t : ByteArray), i + d = s.size → t.size + 4 * d ≤ 140737488355328 →
    L51 (d + 1) (E51 s t i) k = k (.exit 0) (X51 (t ++ ⟨((s.data.toList.drop i).flatMap q).toArray⟩))
  | 0, i, t, h, _ => by
    rw [step51, show decide ((i : Int) < (s.size : Int)) = false from decide_eq_false (by omega), cond_false, List.drop_eq_nil_of_le (by simp; omega)]
    rw [show t ++ (⟨(([] : List UInt8).flatMap q).toArray⟩ : ByteArray) = t from ba_ext (by simp)]
  | d + 1, i, t, h, hl => by
    rw [step51, show decide ((i : Int) < (s.size : Int)) = true from decide_eq_true (by omega), show decide (0 ≤ (i : Int)) = true from decide_eq_true (by omega)]
    simp only [cond_true]
    rw [i64w _ (by omega) (by omega), show decide ((i : Int) ≤ (i : Int) + 1) = true from decide_eq_true (by omega), show decide ((i : Int) + 1 ≤ (s.size : Int)) = true from decide_eq_true (by omega)]
    simp only [cond_true]
    rw [Int.toNat_natCast, show ((i : Int) + 1).toNat = i + 1 by omega, extract_one s i (by omega), roundR_is _ _ _ _ (fun g => rfl)]
    have h4 := q_len (s.data.toList.getD i 0)
    have e : (⟨(q (s.data.toList.getD i 0)).toArray⟩ : ByteArray).size = (q (s.data.toList.getD i 0)).length := List.size_toArray
    rw [show decide (t.size + (⟨(q (s.data.toList.getD i 0)).toArray⟩ : ByteArray).size ≤ 9223372036854775807) = true from decide_eq_true (by rw [e]; omega), cond_true]
    rw [show ((i : Int) + 1) = ((i + 1 : Nat) : Int) by omega, all51 s hs k d (i + 1) _ (by omega) (by rw [ByteArray.size_append, e]; omega), drop_cons _ i (by rw [size_list]; omega)]
    congr 2
    apply ba_ext
    simp [List.flatMap_cons]
theorem orc51 : OrcOk Tryd.prog (tabs 0 []) A51 loop51 := by
  intro o ho E k r h
  obtain rfl := orcIs (show orcOf A51 loop51 = some o51 by kernel_rfl) ho
  unfold o51 at h
  split at h
  · rename_i s t
    cases hd : decide (t.size + 4 * s.size ≤ 140737488355328) with
    | false => rw [hd] at h; cases h
    | true =>
      rw [hd] at h
      have h1 := of_decide_eq_true hd
      exact ⟨s.size + 1, (all51 s (by omega) k s.size 0 t (by omega) h1).trans h⟩
  · cases h
theorem t51 (s : ByteArray) (h : s.size ≤ 1000000) : evalF Tryd.prog (tabs 0 []) A51 51 [.str s] = some (.str ⟨(quoteL s).toArray⟩) := by
  rw [show evalF Tryd.prog (tabs 0 []) A51 51 [.str s] = cond (decide ((⟨#[34]⟩ : ByteArray).size + 4 * s.size ≤ 140737488355328)) (cond (decide (((⟨#[34]⟩ : ByteArray) ++ ⟨(s.data.toList.flatMap q).toArray⟩).size + (⟨#[34]⟩ : ByteArray).size ≤ 9223372036854775807)) (some (.str ((⟨#[34]⟩ : ByteArray) ++ ⟨(s.data.toList.flatMap q).toArray⟩ ++ ⟨#[34]⟩))) none) none by kernel_rfl]
  have h1 := flat_len s.data.toList
  rw [size_list] at h1
  have e : (⟨(s.data.toList.flatMap q).toArray⟩ : ByteArray).size = (s.data.toList.flatMap q).length := List.size_toArray
  have e1 : (⟨#[34]⟩ : ByteArray).size = 1 := rfl
  rw [show decide ((⟨#[34]⟩ : ByteArray).size + 4 * s.size ≤ 140737488355328) = true from decide_eq_true (by rw [e1]; omega), show decide (((⟨#[34]⟩ : ByteArray) ++ ⟨(s.data.toList.flatMap q).toArray⟩).size + (⟨#[34]⟩ : ByteArray).size ≤ 9223372036854775807) = true from decide_eq_true (by rw [ByteArray.size_append, e, e1]; omega)]
  simp only [cond_true]
  rw [show ((⟨#[34]⟩ : ByteArray) ++ ⟨(s.data.toList.flatMap q).toArray⟩ ++ ⟨#[34]⟩) = ⟨(quoteL s).toArray⟩ from ba_ext (by simp [quoteL])]
theorem ok51 : EnterOk Tryd.prog 51 ∧ CSpecOk Tryd.prog cfg 51 sp24 := ⟨enter Tryd.func51 (by kernel_rfl) (by kernel_rfl), by
  intro args res h
  unfold sp24 at h
  simp only at h
  split at h <;> try (cases h; done)
  rename_i s
  cases hd : decide (s.size ≤ 1000000) with
  | false => rw [hd] at h; cases h
  | true =>
    rw [hd] at h
    obtain rfl := Option.some.inj h
    exact done1 noSpecs (A := A51) (c := loop51) (by kernel_rfl) orc51 (by kernel_rfl) (t51 s (of_decide_eq_true hd))⟩
end Go.Proofs.YtciajnknnoecaaaDoor
