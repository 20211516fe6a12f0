/- Chapter 3, plain: a value's text; unlike values have unlike texts. -/
import Derived.Test.YtkkgimhjjhhkjaaGreatDoorMg
set_option maxRecDepth 100000
namespace Go.Proofs.YtkkgimhjjhhkjaaGreatDoor
open Go Go.Pev
/-! ### numbers -/
def digs (l : List UInt8) : Nat := l.foldl (fun a c => a * 10 + (c.toNat - 48)) 0
theorem dig_val {k : Nat} (h : k < 10) : (UInt8.ofNat (48 + k)).toNat = 48 + k := by
  rw [UInt8.toNat_ofNat']
  omega
theorem digs_dec (u : Nat) : digs (Lib.decDigits u) = u := by
  induction u using Nat.strongRecOn with
  | _ u ih =>
    rw [Lib.decDigits]
    split
    · rename_i h
      simp only [digs, List.foldl_cons, List.foldl_nil, dig_val h]; omega
    · rename_i h
      have := ih (u / 10) (by omega)
      unfold digs at this ⊢
      rw [List.foldl_append, this]
      simp only [List.foldl_cons, List.foldl_nil, dig_val (Nat.mod_lt u (by omega : 0 < 10))]; omega
theorem dec_dig (u : Nat) : ∀ c ∈ Lib.decDigits u, 48 ≤ c.toNat ∧ c.toNat ≤ 57 := by
  induction u using Nat.strongRecOn with
  | _ u ih =>
    intro c hc
    rw [Lib.decDigits] at hc
    split at hc
    · rename_i h
      rw [List.mem_singleton.1 hc, dig_val h]; omega
    · rename_i h
      rcases List.mem_append.1 hc with hc | hc
      · exact ih (u / 10) (by omega) c hc
      · rw [List.mem_singleton.1 hc, dig_val (Nat.mod_lt u (by omega : 0 < 10))]; omega
theorem dec_ne (u : Nat) : Lib.decDigits u ≠ [] := by
  rw [Lib.decDigits]
  split <;> simp
theorem dec_len : ∀ (k n : Nat), n < 10 ^ (k + 1) → (Lib.decDigits n).length ≤ k + 1
  | 0, n, h => by rw [Lib.decDigits, dif_pos (by simpa using h)]; simp
  | k + 1, n, h => by
    by_cases h1 : n < 10
    · rw [Lib.decDigits, dif_pos h1]; simp
    · rw [Lib.decDigits, dif_neg h1, List.length_append]
      have := dec_len k (n / 10) (by rw [Nat.div_lt_iff_lt_mul (by omega)]; rw [Nat.pow_succ] at h; exact h)
      simp only [List.length_cons, List.length_nil]; omega
theorem itoa_len {i : Int} (h : -9223372036854775808 ≤ i ∧ i ≤ 9223372036854775807) : (Lib.itoa i).length ≤ 21 := by
  have h2 : (10 : Nat) ^ (19 + 1) = 100000000000000000000 := by decide
  unfold Lib.itoa
  split
  · have := dec_len 19 i.natAbs (by omega)
    simp only [List.length_cons]; omega
  · have := dec_len 19 i.toNat (by omega)
    omega
theorem itoa_char (i : Int) : ∀ c ∈ Lib.itoa i, c.toNat = 45 ∨ (48 ≤ c.toNat ∧ c.toNat ≤ 57) := by
  intro c hc
  unfold Lib.itoa at hc
  split at hc
  · rcases List.mem_cons.1 hc with rfl | hc
    · exact .inl rfl
    · exact .inr (dec_dig _ c hc)
  · exact .inr (dec_dig _ c hc)
theorem itoa_ne (i : Int) : Lib.itoa i ≠ [] := by
  unfold Lib.itoa
  split
  · simp
  · exact dec_ne _
theorem dec_inj {m n : Nat} (h : Lib.decDigits m = Lib.decDigits n) : m = n := by
  rw [← digs_dec m, h, digs_dec]
theorem dec_45 {l : List UInt8} {n : Nat} : (45 :: l) ≠ Lib.decDigits n := fun e => by
  have := dec_dig n 45 (e ▸ List.mem_cons_self)
  have h45 : (45 : UInt8).toNat = 45 := rfl
  omega
theorem itoa_inj {i j : Int} (h : Lib.itoa i = Lib.itoa j) : i = j := by
  unfold Lib.itoa at h
  split at h
  · split at h
    · have := dec_inj (List.cons.inj h).2
      omega
    · exact absurd h dec_45
  · split at h
    · exact absurd h.symm dec_45
    · have := dec_inj h
      omega
/-! ### strings -/
def hexS : ByteArray := ByteArray.mk #[48, 49, 50, 51, 52, 53, 54, 55, 56, 57, 97, 98, 99, 100, 101, 102]
def hx1 (n : Nat) : Int := Int.ofNat (hexS.data.toList.getD ((Int.ofNat n).fdiv (2 ^ min 4 IntKind.u8.bits)).toNat 0).toNat
def hx2 (n : Nat) : Int := Int.ofNat (hexS.data.toList.getD (IntKind.u8.wrap (Int.ofNat (BitVec.ofInt IntKind.u8.bits (Int.ofNat n) &&& BitVec.ofInt IntKind.u8.bits 15).toNat)).toNat 0).toNat
def quN (n : Nat) : List Int := if n = 34 ∨ n = 92 then [92, Int.ofNat n] else if n < 32 ∨ 126 < n then [92, 120, hx1 n, hx2 n] else [Int.ofNat n]
def by8 (l : List Int) : List UInt8 := l.map fun n => n.toNat.toUInt8
def quL (c : UInt8) : List UInt8 := by8 (quN c.toNat)
def hv (c : UInt8) : Nat := if c.toNat ≤ 57 then c.toNat - 48 else c.toNat - 87
theorem qu_fin : ∀ k : Fin 256, (by8 (quN k.val) = [k.val.toUInt8] ∧ k.val ≠ 92 ∧ k.val ≠ 34) ∨ (by8 (quN k.val) = [92, k.val.toUInt8] ∧ k.val ≠ 120) ∨ (by8 (quN k.val) = [92, 120, (hx1 k.val).toNat.toUInt8, (hx2 k.val).toNat.toUInt8] ∧ hv (hx1 k.val).toNat.toUInt8 * 16 + hv (hx2 k.val).toNat.toUInt8 = k.val) := by decide +kernel
theorem qu_conds : ∀ k : Fin 256, decide (0 ≤ (Int.ofNat k.val).fdiv (2 ^ min 4 IntKind.u8.bits)) = true ∧ decide ((Int.ofNat k.val).fdiv (2 ^ min 4 IntKind.u8.bits) < Int.ofNat hexS.size) = true ∧ decide (IntKind.u8.wrap (Int.ofNat (BitVec.ofInt IntKind.u8.bits (Int.ofNat k.val) &&& BitVec.ofInt IntKind.u8.bits 15).toNat) < Int.ofNat hexS.size) = true ∧ (quN k.val).length ≤ 4 := by decide +kernel
def unq : List UInt8 → Option (UInt8 × List UInt8)
  | [] => none
  | a :: r => if a = 92 then (match r with
    | [] => none
    | b :: t => if b = 120 then (match t with
      | x :: y :: u => some ((hv x * 16 + hv y).toUInt8, u)
      | _ => none) else some (b, t)) else some (a, r)
theorem unq_qu (c : UInt8) (r : List UInt8) : unq (quL c ++ r) = some (c, r) ∧ ∀ d t, quL c ++ r = d :: t → d ≠ 34 := by
  have hc : c.toNat.toUInt8 = c := by simp
  have h := qu_fin ⟨c.toNat, c.toNat_lt⟩
  simp only at h
  unfold quL
  rcases h with ⟨h, h1, h2⟩ | ⟨h, h1⟩ | ⟨h, h1⟩
  · rw [h, hc]
    have h3 : c ≠ 92 := fun e => h1 (by rw [e]; rfl)
    have h4 : c ≠ 34 := fun e => h2 (by rw [e]; rfl)
    refine ⟨?_, fun d t e => ?_⟩
    · show unq (c :: r) = _
      simp [unq, h3]
    · have e : c :: r = d :: t := e
      rw [← (List.cons.inj e).1]; exact h4
  · rw [h, hc]
    have h3 : c ≠ 120 := fun e => h1 (by rw [e]; rfl)
    refine ⟨?_, fun d t e => ?_⟩
    · show unq (92 :: c :: r) = _
      simp [unq, h3]
    · have e : (92 : UInt8) :: c :: r = d :: t := e
      rw [← (List.cons.inj e).1]; decide
  · rw [h]
    refine ⟨?_, fun d t e => ?_⟩
    · show unq (92 :: 120 :: _ :: _ :: r) = _
      simp [unq, h1, hc]
    · have e : (92 : UInt8) :: _ = d :: t := e
      rw [← (List.cons.inj e).1]; decide
theorem quS_inj : ∀ (s s' r r' : List UInt8), s.flatMap quL ++ 34 :: r = s'.flatMap quL ++ 34 :: r' → s = s' ∧ r = r'
  | [], [], r, r', h => ⟨rfl, (List.cons.inj h).2⟩
  | [], c :: s', r, r', h => by
    rw [List.flatMap_cons, List.append_assoc] at h
    exact absurd rfl ((unq_qu c _).2 34 r h.symm)
  | c :: s, [], r, r', h => by
    rw [List.flatMap_cons, List.append_assoc] at h
    exact absurd rfl ((unq_qu c _).2 34 r' h)
  | c :: s, c' :: s', r, r', h => by
    rw [List.flatMap_cons, List.flatMap_cons, List.append_assoc, List.append_assoc] at h
    have h1 := congrArg unq h
    rw [(unq_qu c _).1, (unq_qu c' _).1] at h1
    have h2 := Option.some.inj h1
    have h3 : c = c' := congrArg Prod.fst h2
    have h4 := congrArg Prod.snd h2
    obtain ⟨h5, h6⟩ := quS_inj s s' r r' h4
    exact ⟨by rw [h3, h5], h6⟩
def quS (s : ByteArray) : List UInt8 := 34 :: (s.data.toList.flatMap quL ++ [34])
theorem quI_len (n : Nat) (h : n < 256) : (quN n).length ≤ 4 := (qu_conds ⟨n, h⟩).2.2.2
theorem flat_len : ∀ l : List UInt8, (l.flatMap fun c => quN c.toNat).length ≤ 4 * l.length
  | [] => by simp
  | c :: l => by
    have h1 := flat_len l
    have h2 := quI_len c.toNat c.toNat_lt
    rw [List.flatMap_cons, List.length_append, List.length_cons]; omega
theorem quS_len (s : ByteArray) : (quS s).length ≤ 4 * s.size + 2 := by
  have h : (s.data.toList.flatMap quL).length = (s.data.toList.flatMap fun c => quN c.toNat).length := by
    simp only [List.length_flatMap, quL, by8, List.length_map]
  have := flat_len s.data.toList
  rw [size_list] at this
  unfold quS
  simp only [List.length_cons, List.length_append, List.length_nil, h]; omega
theorem value_Quote_is (s : ByteArray) (hs : s.size ≤ 1000000) : value_Quote s = some ⟨(quS s).toArray⟩ := by
  unfold value_Quote value_Quote_t
  have := foldE_runI (bd := value_Quote_b0) s.data.toList (by rw [size_list]; omega) (fun i (r : List Int) => (s, Int.ofNat s.size, (i : Int), r, ())) (fun r c => .inl (r ++ quN c.toNat)) (fun r => (r, ())) (fun i r => r.length ≤ 4 * i + 1)
    (fun i hi r g hr => by
      have hi' : i < s.size := hi
      have hg : s.data.toList.getD i 0 = s.data.toList[i] := by rw [List.getD_eq_getElem?_getD, List.getElem?_eq_getElem hi]; rfl
      refine (rn_in (l := s.data.toList) hi).trans ?_
      rw [wsucc (by omega), Int.toNat_natCast, hg]
      have hlt := (s.data.toList[i]).toNat_lt
      obtain ⟨k1, k2, k3, _⟩ := qu_conds ⟨(s.data.toList[i]).toNat, hlt⟩
      simp only at k1 k2 k3
      have al : ∀ m, m ≤ 4 → appLim 1 r.length m = true := fun m hm => appLim_ok (by omega)
      unfold quN
      by_cases h1 : (s.data.toList[i]).toNat = 34
      · rw [if_pos (.inl h1)]
        exact (rn_t (by rw [h1]; rfl)).trans ((rn_t (al 2 (by omega))).trans rfl)
      · refine (rn_f (by simp only [Int.ofNat_eq_natCast, beq_eq_false_iff_ne, ne_eq]; omega)).trans ?_
        by_cases h2 : (s.data.toList[i]).toNat = 92
        · rw [if_pos (.inr h2)]
          exact (rn_t (by rw [h2]; rfl)).trans ((rn_t (al 2 (by omega))).trans rfl)
        · refine (rn_f (by simp only [Int.ofNat_eq_natCast, beq_eq_false_iff_ne, ne_eq]; omega)).trans ?_
          rw [if_neg (fun h => h.elim h1 h2)]
          by_cases h3 : (s.data.toList[i]).toNat < 32
          · rw [if_pos (.inl h3)]
            exact (rn_t (decide_eq_true (by simp only [Int.ofNat_eq_natCast]; omega))).trans ((rn_t k1).trans ((rn_t k2).trans ((rn_t k3).trans ((rn_t (al 4 (by omega))).trans rfl))))
          · refine (rn_f (decide_eq_false (by simp only [Int.ofNat_eq_natCast]; omega))).trans ?_
            by_cases h4 : 126 < (s.data.toList[i]).toNat
            · rw [if_pos (.inr h4)]
              exact (rn_t (decide_eq_true (by simp only [Int.ofNat_eq_natCast]; omega))).trans ((rn_t k1).trans ((rn_t k2).trans ((rn_t k3).trans ((rn_t (al 4 (by omega))).trans rfl))))
            · rw [if_neg (fun h => h.elim h3 h4)]
              exact (rn_f (decide_eq_false (by simp only [Int.ofNat_eq_natCast]; omega))).trans ((rn_t (al 1 (by omega))).trans rfl))
    (fun i hi r t hr h => by
      obtain rfl := Sum.inl.inj h
      have := quI_len (s.data.toList[i]).toNat (s.data.toList[i]).toNat_lt
      rw [List.length_append]; omega)
    (fun r g _ => (rn_out (l := s.data.toList)).trans rfl) [34] (by simp)
  rw [foldE_inl] at this
  refine (fn_o this).trans ?_
  have key : ∀ (l : List UInt8) (r : List Int), l.foldl (fun r c => r ++ quN c.toNat) r = r ++ l.flatMap fun c => quN c.toNat := by
    intro l
    induction l with
    | nil => intro r; simp
    | cons c l ih => intro r; rw [List.foldl_cons, ih, List.flatMap_cons, List.append_assoc]
  rw [key]
  have hfl := flat_len s.data.toList
  rw [size_list] at hfl
  refine (fn_t (appLim_ok (by simp only [List.length_append, List.length_cons, List.length_nil]; omega))).trans ?_
  refine congrArg some (congrArg (fun l : List UInt8 => ByteArray.mk l.toArray) ?_)
  show List.map (fun n : Int => n.toNat.toUInt8) ([34] ++ (s.data.toList.flatMap fun c => quN c.toNat) ++ [34]) = quS s
  rw [List.map_append, List.map_append, List.map_flatMap]
  rfl
end Go.Proofs.YtkkgimhjjhhkjaaGreatDoor
