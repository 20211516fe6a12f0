/- Chapter 1: the statements are true of plain data. -/
import Derived.Test.YtkkgimhjjhhkjaaDoorMc
namespace Go.Proofs.YtkkgimhjjhhkjaaDoor
open Go Go.Pev

theorem places_ok {ps : List (Int × Int)} (h : wfS (.sl shPlace) ps) : ∀ p ∈ ps, okI p.1 ∧ okI p.2 := fun p hp => ⟨okI_of (h p hp).1, okI_of (h p hp).2⟩
theorem faultIs_true (ps : List (Int × Int)) (n m : Int) : law01_FaultIs ps n m = some true := by
  unfold law01_FaultIs law01_FaultIs_t
  rw [awake_is, LT.fin_some, LT.fin_br, if_neg (by simp), LT.fin_br]
  by_cases hl : Int.ofNat ps.length > 100
  · rw [if_pos (decide_eq_true hl)]; rfl
  · have h100 : ps.length ≤ 100 := by simp only [Int.ofNat_eq_natCast] at hl; omega
    rw [if_neg (by simpa using hl), build_is ps (by omega), LT.fin_some, LT.fin_br, if_pos (by simp), LT.fin_some, LT.fin_br, if_neg (by simp)]
    rw [show isF (some (ps, n)) (some ([], m)) = some (n == m) from rfl, LT.fin_some, LT.fin_br, if_neg (by simp), LT.fin_br]
    match ps, h100 with
    | [], _ => rfl
    | p :: r, hl =>
      simp only [List.length_cons] at hl
      rw [if_neg (by simp; omega), LT.fin_br, show errHead (some (p :: r, n)) = some (p, some (r, n)) from rfl, if_pos (by simp)]
      rw [LT.fin_some, LT.fin_br, if_pos (by simp), LT.fin_br]
      rw [show getI (p :: r) 0 (0, 0) = p from rfl, eqB_place, if_pos (by simp), LT.fin_br, if_pos (decide_eq_true (by simp only [List.length_cons, Int.ofNat_eq_natCast]; omega)), LT.fin_br, if_pos (decide_eq_true (Int.le_refl _))]
      rw [show List.take (Int.ofNat (p :: r).length - 1).toNat (List.drop (Int.toNat 1) (p :: r)) = r by
        rw [show Int.toNat 1 = 1 from rfl, List.drop_succ_cons, List.drop_zero]
        apply List.take_of_length_le
        simp]
      rw [errorOf_is r (by omega), LT.fin_some, law01_Of_is _ (by intro y hy; obtain rfl := Option.some.inj hy; show r.length < 200; omega), LT.fin_some]
      rw [law01_fails_is _ _ (by intro y hy; obtain rfl := Option.some.inj hy; show r.length < 200; omega), LT.fin_some]
      simp [LT.fin_ret]

theorem place_ok {p : Int × Int} (h : wfS shPlace p) : okI p.1 ∧ okI p.2 := ⟨okI_of h.1, okI_of h.2⟩
theorem extract_app (a b : ByteArray) : (a ++ b).extract 0 a.size = a ∧ (a ++ b).extract a.size (a ++ b).size = b := by
  have e : a.size = a.data.toList.length := rfl
  constructor
  · apply bytes_ext
    simp only [ByteArray.data_extract, Array.toList_extract, List.extract_eq_take_drop, ByteArray.data_append, Array.toList_append]
    rw [List.drop_zero, Nat.sub_zero, e, List.take_left]
  · apply bytes_ext
    simp only [ByteArray.data_extract, Array.toList_extract, List.extract_eq_take_drop, ByteArray.data_append, Array.toList_append]
    rw [e, List.drop_left, ByteArray.size_append, ← e]
    apply List.take_of_length_le
    show b.size ≤ _
    omega
theorem faultPieces_true (ps : List (Int × Int)) (hp : wfS (.sl shPlace) ps) (n : Int) (q : Int × Int) (hq : wfS shPlace q) : law01_FaultPieces ps n q = some true := by
  have hp' : ∀ p ∈ ps, okI p.2 := fun p h => (places_ok hp p h).2
  have hq' := (place_ok hq).2
  unfold law01_FaultPieces law01_FaultPieces_t
  rw [awake_is, LT.fin_some, LT.fin_br, if_neg (by simp), LT.fin_br]
  by_cases hl : Int.ofNat ps.length > 100
  · rw [if_pos (decide_eq_true hl)]; rfl
  · have h100 : ps.length ≤ 100 := by simp only [Int.ofNat_eq_natCast] at hl; omega
    rw [if_neg (by simpa using hl), build_is ps (by omega), LT.fin_some]
    rw [fault_Text_is [q] 19 (by intro p h; simp at h; subst h; exact hq') (by simp), LT.fin_some, fault_Text_is [] 19 (by simp) (by simp), LT.fin_some, fault_At_is, LT.fin_some]
    simp only [Option.map]
    rw [fault_Text_is ((q.1, q.2) :: ps) n (by intro p h; rcases List.mem_cons.1 h with rfl | h; exact hq'; exact hp' p h) (by simp; omega), LT.fin_some]
    rw [fault_Text_is ps n hp' (by omega)]
    have c1 : catB [q] ++ saysB 19 = pieceB q ++ saysB 19 := by rw [catB, catB, append_nil_b]
    have c2 : catB [] ++ saysB 19 = saysB 19 := by rw [catB, nil_append_b]
    have c3 : catB ((q.1, q.2) :: ps) ++ saysB n = pieceB q ++ (catB ps ++ saysB n) := by rw [catB, append_assoc_b]
    rw [c1, c2, c3]
    have s1 := piece_size q hq'
    have s2 := (says_some 19).2.1
    have s3 := (says_some n).2
    have s4 := cat_size ps hp'
    have hd : IntKind.i64.wrap (Int.ofNat (pieceB q ++ saysB 19).size - Int.ofNat (saysB 19).size) = ((pieceB q).size : Int) := by
      rw [ByteArray.size_append]
      simp only [Int.ofNat_eq_natCast]
      rw [i64_wrap _ (by omega) (by omega)]
      omega
    rw [hd]
    simp only [Int.toNat_natCast, Int.ofNat_eq_natCast]
    rw [show Int.toNat 0 = 0 from rfl]
    rw [(extract_app (pieceB q) (saysB 19)).1, (extract_app (pieceB q) (catB ps ++ saysB n)).1, (extract_app (pieceB q) (catB ps ++ saysB n)).2]
    simp only [LT.fin_br, LT.fin_some, LT.fin_ret, fault_At_is, fault_Code_is, Option.map, ByteArray.size_append]
    rw [if_pos (decide_eq_true (by omega)), if_pos (decide_eq_true (by omega)), if_pos (decide_eq_true (by omega)), if_pos (decide_eq_true (by omega)), if_pos (decide_eq_true (by omega)), if_pos (decide_eq_true (by omega)), if_pos (by simp), if_pos (decide_eq_true (by omega)), if_pos (decide_eq_true (by omega)), if_pos (decide_eq_true (Int.le_refl _)), if_pos (by simp)]
    simp

theorem ref01_Shift_is (l : List (Int × Int)) (c : Int) (k by' : Int) (h : l.length ≤ 1000000) : ref01_Shift (true, l, c) k by' = some (match l with | [] => (true, [], c) | p :: r => if p.1 = k then (true, (p.1, IntKind.i64.wrap (p.2 + by')) :: r, c) else (true, p :: r, c)) := by
  unfold ref01_Shift ref01_Shift_t
  simp only [LT.fin_br, LT.fin_ret, LT.fin_fail, List.nil_append]
  match l, h with
  | [], _ => rfl
  | p :: r, h =>
    simp only [List.length_cons] at h
    dsimp only
    rw [if_neg (by simp; omega), if_pos (by simp), show getI (p :: r) 0 (0, 0) = p from rfl]
    by_cases hk : p.1 = k
    · rw [if_neg (by simp [hk]), appLim_ok (by simp only [List.length_cons]; omega), if_pos (by simp), if_pos (by simp), if_pos (by simp), if_pos (by simp), if_pos (by simp), if_pos hk]
      rfl
    · rw [if_pos (by simp [hk]), if_neg hk]
theorem fault_Shift_is (l : List (Int × Int)) (c : Int) (k by' : Int) : fault_Shift (some (l, c)) k by' = some (some (match l with | [] => ([], c) | p :: r => if p.1 = k then ((k, IntKind.i64.wrap (p.2 + by')) :: r, c) else (p :: r, c))) := by
  unfold fault_Shift fault_Shift_t
  rw [fault_first_is, LT.fin_some, LT.fin_br]
  match l with
  | [] => rfl
  | p :: r =>
    rw [show errHead (some (p :: r, c)) = some (p, some (r, c)) from rfl, if_neg (by simp), LT.fin_some, LT.fin_br]
    by_cases hk : p.1 = k
    · rw [if_neg (by simp [hk]), LT.fin_some, LT.fin_some, fault_At_is]
      simp [hk, LT.fin_some, LT.fin_ret]
    · rw [if_pos (by simp [hk])]
      simp [hk, LT.fin_ret]
theorem fault_Shift_nil (k by' : Int) : fault_Shift none k by' = some none := rfl
theorem faultShifts_true (ps : List (Int × Int)) (k b : Int) : law01_FaultShifts ps k b = some true := by
  unfold law01_FaultShifts law01_FaultShifts_t
  rw [awake_is, LT.fin_some, LT.fin_br, if_neg (by simp), LT.fin_br]
  by_cases hl : Int.ofNat ps.length > 100
  · rw [if_pos (decide_eq_true hl)]; rfl
  · have h100 : ps.length ≤ 100 := by simp only [Int.ofNat_eq_natCast] at hl; omega
    rw [if_neg (by simpa using hl), build_is ps (by omega), LT.fin_some, fault_Shift_is, LT.fin_some, ref01_Shift_is _ _ _ _ (by omega), LT.fin_some]
    rw [law01_fails_is, LT.fin_some, LT.fin_br, law01_fails_is]
    · match ps with
      | [] => rfl
      | p :: r =>
        by_cases hk : p.1 = k
        · subst hk; simp [toE, LT.fin_some, LT.fin_br, LT.fin_ret]
        · simp [toE, hk, LT.fin_some, LT.fin_br, LT.fin_ret]
    · intro y hy; obtain rfl := Option.some.inj hy; show ps.length < 200; omega
    · intro y hy
      obtain rfl := Option.some.inj hy
      match ps, h100 with
      | [], _ => simp
      | p :: r, h =>
        simp only [List.length_cons] at h
        dsimp only
        split <;> (simp only [List.length_cons]; omega)

theorem chains_loop (ps : List (Int × Int)) (n : Int) (hl : ps.length ≤ 1000000) : ∀ (k m i : Nat), ps.length - i ≤ k → i ≤ ps.length → k < m →
    LT.loop law01_FaultChains_b0 m (ps, n, ps, (ps.length : Int), (i : Int), ()) = some (.inr (n, ()))
  | 0, m, i, hk, hi, hm => by
    rw [LT.loop_pos _ (by omega)]
    obtain rfl : i = ps.length := by omega
    simp [law01_FaultChains_b0, LT.run_br, LT.run_ret]
  | k + 1, m, i, hk, hi, hm => by
    rw [LT.loop_pos _ (by omega)]
    by_cases he : i = ps.length
    · subst he
      simp [law01_FaultChains_b0, LT.run_br, LT.run_ret]
    · have h1 : i < ps.length := by omega
      have ih := chains_loop ps n hl k (m - 1) (i + 1) (by omega) (by omega) (by omega)
      simp only [law01_FaultChains_b0, LT.run_br, LT.run_ret, LT.run_next]
      rw [if_pos (decide_eq_true (by omega)), if_pos (decide_eq_true (by omega)), if_pos (decide_eq_true (by simpa using h1)), if_pos (decide_eq_true (by omega)), if_pos (decide_eq_true (by simpa using h1)), i64_wrap _ (by omega) (by omega), eqB_place, if_neg (by simp)]
      exact ih
theorem faultChains_true (ps : List (Int × Int)) (hp : wfS (.sl shPlace) ps) (n : Int) : law01_FaultChains ps n = some true := by
  have hp' : ∀ p ∈ ps, okI p.2 := fun p h => (places_ok hp p h).2
  unfold law01_FaultChains law01_FaultChains_t
  rw [awake_is, LT.fin_some, LT.fin_br, if_neg (by simp), LT.fin_br]
  by_cases hl : Int.ofNat ps.length > 100
  · rw [if_pos (decide_eq_true hl)]; rfl
  · have h100 : ps.length ≤ 100 := by simp only [Int.ofNat_eq_natCast] at hl; omega
    rw [if_neg (by simpa using hl), build_is ps (by omega), LT.fin_some, law01_fails_is _ _ (by intro y hy; obtain rfl := Option.some.inj hy; show ps.length < 200; omega), LT.fin_some, LT.fin_br, if_neg (by simp [toE]), fault_Code_is, LT.fin_some, LT.fin_br, if_neg (by simp)]
    rw [fault_Text_is ps n hp' (by omega), LT.fin_some, ref01_Text_is _ ps n hp' (by omega), LT.fin_some, LT.fin_br, if_neg (by simp), fault_Places_is ps n (by omega), LT.fin_some, LT.fin_br, if_neg (by simp)]
    have := chains_loop ps n (by omega) ps.length FUEL 0 (by omega) (by omega) (by rw [fuel_is]; omega)
    rw [show ((0 : Nat) : Int) = 0 from rfl] at this
    unfold law01_FaultChains_l0
    rw [Int.ofNat_eq_natCast, this, LT.fin_some, LT.fin_inr, fault_Text_nil, LT.fin_some, LT.fin_ret, bytes_beq]
    rw [show saysB 0 = ByteArray.mk #[97, 108, 108, 32, 105, 115, 32, 119, 101, 108, 108] by
      unfold saysB ref01_words ref01_words_t
      simp only [LT.fin_br, LT.fin_ret, LT.fin_fail]
      rfl]
    simp
end Go.Proofs.YtkkgimhjjhhkjaaDoor
