/- Chapter 21, plain: LedgerApart's loop. -/
import Derived.Test.YtldkdhfcbopbhaaDoorMo
set_option maxRecDepth 100000
namespace Go.Proofs.YtldkdhfcbopbhaaDoor
open Go Go.Pev
section
variable {S Q ρ : Type} {f : Q → Option ρ} {g : S → Option ρ} {P : ρ → Prop}
theorem ok_t {b : Bool} {x y : LT S Q} (h : b = true) (hx : Ok P (x.run f g)) : Ok P ((LT.br b x y).run f g) := by subst h; exact hx
theorem ok_f {b : Bool} {x y : LT S Q} (h : b = false) (hy : Ok P (y.run f g)) : Ok P ((LT.br b x y).run f g) := by subst h; exact hy
end
theorem Two.nextB {H : List Pev.Node} {n n' : Nat} {A B : PL} {o o' : Nat → Option Rl} {i j : Nat} (h : Two H n n' A B o o' i j) : Two H n n' A B o o' i (j + 1) := ⟨h.l, h.one, h.apart, h.gA, h.gB.next⟩
theorem beq_f {a b : Int} (h : a ≠ b) : (a == b) = false := by simpa using h
theorem beq_t {a b : Int} (h : a = b) : (a == b) = true := by simpa using h
/-- Where both stand. -/
def Stand (nd pb sb : Int) (n n' i : Nat) (H : List Pev.Node) : Prop := ∃ A B w w', Two H n n' A B w w' i i ∧ Twin (nd, pb) sb A B
def LoopR (nd pb sb : Int) (n n' k : Nat) (q : law21_LedgerApart_Q0) : Prop := match q with
  | .inl _ => False
  | .inr (b1, b2, b3, b9, b10, lk, K, _) => b1 = nd ∧ b2 = pb ∧ b3 = sb ∧ b9 = some n ∧ b10 = some n' ∧ lk = [] ∧ Stand nd pb sb n n' k K
set_option maxHeartbeats 4000000 in
theorem apart_loop (ops : List Op21) (hl : ops.length ≤ 100) (nd pb sb : Int) (n n' : Nat) : ∀ (m i : Nat) (H : List Pev.Node), i ≤ ops.length → ops.length - i < m → Stand nd pb sb n n' i H →
    Ok (LoopR nd pb sb n n' ops.length) (LT.loop law21_LedgerApart_b0 m (nd, pb, sb, some n, some n', ops, (ops.length : Int), (i : Int), [], H, ()))
  | 0, _, _, _, h, _ => by omega
  | m + 1, i, H, h1, h2, hst => by
    rw [LT.loop_succ]
    refine ok_br (fun h => ?_) (fun h => ok_ret (ok_some ?_))
    · have hi : i < ops.length := by have := of_decide_eq_true h; omega
      have hw : IntKind.i64.wrap ((i : Int) + 1) = ((i + 1 : Nat) : Int) := by rw [i64_wrap _ (by omega) (by omega)]; omega
      have go : ∀ K, Stand nd pb sb n n' (i + 1) K → Ok (LoopR nd pb sb n n' ops.length) ((LT.next (Q := law21_LedgerApart_Q0) (nd, pb, sb, some n, some n', ops, (ops.length : Int), (IntKind.i64.wrap ((i : Int) + 1)), [], K, ()) : LT law21_LedgerApart_S0 _).run some (LT.loop law21_LedgerApart_b0 m)) := fun K hK => by
        rw [hw]
        exact apart_loop ops hl nd pb sb n n' m (i + 1) K (by omega) (by omega) hK
      refine ok_br (fun _ => ?_) (fun c => absurd (of_decide_eq_false c) (by omega))
      refine ok_br (fun _ => ?_) (fun c => absurd (of_decide_eq_false c) (by simp only [Int.ofNat_eq_natCast]; omega))
      rw [getI_lt hi]
      generalize ops[i] = o
      obtain ⟨kd, s, a, b, ix, x, fl⟩ := o
      obtain ⟨A, B, w, w', t1, t2⟩ := hst
      have hsplit : ∀ {p q : Int}, (p == q) = true ∨ (p == q) = false := fun {p q} => by cases (p == q) with | true => exact .inl rfl | false => exact .inr rfl
      have hcnt := t1.gA.cnt
      rcases (Decidable.em (kd = 0)) with hkd | k0
      · skip
        have hk0 : (kd == 0) = true := by subst hkd; rfl
        have hk1 : (kd == 1) = false := by subst hkd; rfl
        have hk2 : (kd == 2) = false := by subst hkd; rfl
        have hk3 : (kd == 3) = false := by subst hkd; rfl
        rcases (Decidable.em (a = nd)) with ea | na
        · have ha := beq_t ea
          rcases (Decidable.em (b = pb)) with eb | nb
          · have hb := beq_t eb
            subst ea eb
            repeat first | refine ok_t hk0 ?_ | refine ok_f hk0 ?_ | refine ok_t hk1 ?_ | refine ok_f hk1 ?_ | refine ok_t hk2 ?_ | refine ok_f hk2 ?_ | refine ok_t hk3 ?_ | refine ok_f hk3 ?_ | refine ok_t ha ?_ | refine ok_f ha ?_ | refine ok_t hb ?_ | refine ok_f hb ?_ | refine ok_t hs ?_ | refine ok_f hs ?_
            refine ok_opt (two_accept t1 (by omega) a b x) fun r hr => ?_
            obtain ⟨cu, wu, -, fcu, ecu, eu, u1⟩ := hr
            repeat first | refine ok_t hk0 ?_ | refine ok_f hk0 ?_ | refine ok_t hk1 ?_ | refine ok_f hk1 ?_ | refine ok_t hk2 ?_ | refine ok_f hk2 ?_ | refine ok_t hk3 ?_ | refine ok_f hk3 ?_ | refine ok_t ha ?_ | refine ok_f ha ?_ | refine ok_t hb ?_ | refine ok_f hb ?_ | refine ok_t hs ?_ | refine ok_f hs ?_
            refine ok_opt (two_accept u1.flip (by omega) a b x) fun r' hr' => ?_
            obtain ⟨cv, wv, -, fcv, ecv, ev, v1⟩ := hr'
            obtain rfl : cu = cv := Option.some.inj (ecu.symm.trans ecv)
            have tw := Twin.accept t2 x cu (by have := t1.gA.cnt; omega) (by have := t1.gB.cnt; omega)
            repeat first | refine ok_t hk0 ?_ | refine ok_f hk0 ?_ | refine ok_t hk1 ?_ | refine ok_f hk1 ?_ | refine ok_t hk2 ?_ | refine ok_f hk2 ?_ | refine ok_t hk3 ?_ | refine ok_f hk3 ?_ | refine ok_t ha ?_ | refine ok_f ha ?_ | refine ok_t hb ?_ | refine ok_f hb ?_ | refine ok_t hs ?_ | refine ok_f hs ?_
            refine ok_same (by rw [eu, ev]; exact tw.2) (by rw [eu]; exact few_acceptP fcu) ?_
            refine ok_f rfl ?_
            exact go _ ⟨_, _, _, _, v1.flip, tw.1⟩
          · have hb := beq_f nb
            repeat first | refine ok_t hk0 ?_ | refine ok_f hk0 ?_ | refine ok_t hk1 ?_ | refine ok_f hk1 ?_ | refine ok_t hk2 ?_ | refine ok_f hk2 ?_ | refine ok_t hk3 ?_ | refine ok_f hk3 ?_ | refine ok_t ha ?_ | refine ok_f ha ?_ | refine ok_t hb ?_ | refine ok_f hb ?_ | refine ok_t hs ?_ | refine ok_f hs ?_
            refine ok_opt (two_accept t1 (by omega) a b x) fun r hr => ?_
            obtain ⟨cu, wu, -, fcu, ecu, eu, u1⟩ := hr
            repeat first | refine ok_t hk0 ?_ | refine ok_f hk0 ?_ | refine ok_t hk1 ?_ | refine ok_f hk1 ?_ | refine ok_t hk2 ?_ | refine ok_f hk2 ?_ | refine ok_t hk3 ?_ | refine ok_f hk3 ?_ | refine ok_t ha ?_ | refine ok_f ha ?_ | refine ok_t hb ?_ | refine ok_f hb ?_ | refine ok_t hs ?_ | refine ok_f hs ?_
            exact go _ ⟨_, _, _, _, u1.nextB, t2.accept_other a b (fun c => nb (congrArg (·.2) c)) x cu⟩
        · have ha := beq_f na
          rcases (@hsplit b pb) with hb | hb
          · skip
            repeat first | refine ok_t hk0 ?_ | refine ok_f hk0 ?_ | refine ok_t hk1 ?_ | refine ok_f hk1 ?_ | refine ok_t hk2 ?_ | refine ok_f hk2 ?_ | refine ok_t hk3 ?_ | refine ok_f hk3 ?_ | refine ok_t ha ?_ | refine ok_f ha ?_ | refine ok_t hb ?_ | refine ok_f hb ?_ | refine ok_t hs ?_ | refine ok_f hs ?_
            refine ok_opt (two_accept t1 (by omega) a b x) fun r hr => ?_
            obtain ⟨cu, wu, -, fcu, ecu, eu, u1⟩ := hr
            repeat first | refine ok_t hk0 ?_ | refine ok_f hk0 ?_ | refine ok_t hk1 ?_ | refine ok_f hk1 ?_ | refine ok_t hk2 ?_ | refine ok_f hk2 ?_ | refine ok_t hk3 ?_ | refine ok_f hk3 ?_ | refine ok_t ha ?_ | refine ok_f ha ?_ | refine ok_t hb ?_ | refine ok_f hb ?_ | refine ok_t hs ?_ | refine ok_f hs ?_
            exact go _ ⟨_, _, _, _, u1.nextB, t2.accept_other a b (fun c => na (congrArg (·.1) c)) x cu⟩
          · skip
            repeat first | refine ok_t hk0 ?_ | refine ok_f hk0 ?_ | refine ok_t hk1 ?_ | refine ok_f hk1 ?_ | refine ok_t hk2 ?_ | refine ok_f hk2 ?_ | refine ok_t hk3 ?_ | refine ok_f hk3 ?_ | refine ok_t ha ?_ | refine ok_f ha ?_ | refine ok_t hb ?_ | refine ok_f hb ?_ | refine ok_t hs ?_ | refine ok_f hs ?_
            refine ok_opt (two_accept t1 (by omega) a b x) fun r hr => ?_
            obtain ⟨cu, wu, -, fcu, ecu, eu, u1⟩ := hr
            repeat first | refine ok_t hk0 ?_ | refine ok_f hk0 ?_ | refine ok_t hk1 ?_ | refine ok_f hk1 ?_ | refine ok_t hk2 ?_ | refine ok_f hk2 ?_ | refine ok_t hk3 ?_ | refine ok_f hk3 ?_ | refine ok_t ha ?_ | refine ok_f ha ?_ | refine ok_t hb ?_ | refine ok_f hb ?_ | refine ok_t hs ?_ | refine ok_f hs ?_
            exact go _ ⟨_, _, _, _, u1.nextB, t2.accept_other a b (fun c => na (congrArg (·.1) c)) x cu⟩
      rcases (Decidable.em (kd = 1)) with hkd | k1
      · skip
        have hk0 : (kd == 0) = false := by subst hkd; rfl
        have hk1 : (kd == 1) = true := by subst hkd; rfl
        have hk2 : (kd == 2) = false := by subst hkd; rfl
        have hk3 : (kd == 3) = false := by subst hkd; rfl
        rcases (Decidable.em (s = sb)) with es | ns
        · have hs := beq_t es
          rcases (@hsplit a nd) with ha | ha
          · rcases (@hsplit b pb) with hb | hb
            · skip
              subst es
              repeat first | refine ok_t hk0 ?_ | refine ok_f hk0 ?_ | refine ok_t hk1 ?_ | refine ok_f hk1 ?_ | refine ok_t hk2 ?_ | refine ok_f hk2 ?_ | refine ok_t hk3 ?_ | refine ok_f hk3 ?_ | refine ok_t ha ?_ | refine ok_f ha ?_ | refine ok_t hb ?_ | refine ok_f hb ?_ | refine ok_t hs ?_ | refine ok_f hs ?_
              refine ok_opt (two_open t1 (by omega) s fl) fun r hr => ?_
              obtain ⟨cu, wu, -, fcu, ecu, eu, u1⟩ := hr
              repeat first | refine ok_t hk0 ?_ | refine ok_f hk0 ?_ | refine ok_t hk1 ?_ | refine ok_f hk1 ?_ | refine ok_t hk2 ?_ | refine ok_f hk2 ?_ | refine ok_t hk3 ?_ | refine ok_f hk3 ?_ | refine ok_t ha ?_ | refine ok_f ha ?_ | refine ok_t hb ?_ | refine ok_f hb ?_ | refine ok_t hs ?_ | refine ok_f hs ?_
              refine ok_opt (two_open u1.flip (by omega) s fl) fun r' hr' => ?_
              obtain ⟨cv, wv, -, fcv, ecv, ev, v1⟩ := hr'
              obtain rfl : cu = cv := Option.some.inj (ecu.symm.trans ecv)
              have tw := Twin.open_ t2 fl cu (by have := t1.gA.ns; omega) (by have := t1.gB.ns; omega)
              repeat first | refine ok_t hk0 ?_ | refine ok_f hk0 ?_ | refine ok_t hk1 ?_ | refine ok_f hk1 ?_ | refine ok_t hk2 ?_ | refine ok_f hk2 ?_ | refine ok_t hk3 ?_ | refine ok_f hk3 ?_ | refine ok_t ha ?_ | refine ok_f ha ?_ | refine ok_t hb ?_ | refine ok_f hb ?_ | refine ok_t hs ?_ | refine ok_f hs ?_
              refine ok_same (by rw [eu, ev]; exact tw.2) (by rw [eu]; exact few_openP fcu) ?_
              refine ok_f rfl ?_
              exact go _ ⟨_, _, _, _, v1.flip, tw.1⟩
            · skip
              subst es
              repeat first | refine ok_t hk0 ?_ | refine ok_f hk0 ?_ | refine ok_t hk1 ?_ | refine ok_f hk1 ?_ | refine ok_t hk2 ?_ | refine ok_f hk2 ?_ | refine ok_t hk3 ?_ | refine ok_f hk3 ?_ | refine ok_t ha ?_ | refine ok_f ha ?_ | refine ok_t hb ?_ | refine ok_f hb ?_ | refine ok_t hs ?_ | refine ok_f hs ?_
              refine ok_opt (two_open t1 (by omega) s fl) fun r hr => ?_
              obtain ⟨cu, wu, -, fcu, ecu, eu, u1⟩ := hr
              repeat first | refine ok_t hk0 ?_ | refine ok_f hk0 ?_ | refine ok_t hk1 ?_ | refine ok_f hk1 ?_ | refine ok_t hk2 ?_ | refine ok_f hk2 ?_ | refine ok_t hk3 ?_ | refine ok_f hk3 ?_ | refine ok_t ha ?_ | refine ok_f ha ?_ | refine ok_t hb ?_ | refine ok_f hb ?_ | refine ok_t hs ?_ | refine ok_f hs ?_
              refine ok_opt (two_open u1.flip (by omega) s fl) fun r' hr' => ?_
              obtain ⟨cv, wv, -, fcv, ecv, ev, v1⟩ := hr'
              obtain rfl : cu = cv := Option.some.inj (ecu.symm.trans ecv)
              have tw := Twin.open_ t2 fl cu (by have := t1.gA.ns; omega) (by have := t1.gB.ns; omega)
              repeat first | refine ok_t hk0 ?_ | refine ok_f hk0 ?_ | refine ok_t hk1 ?_ | refine ok_f hk1 ?_ | refine ok_t hk2 ?_ | refine ok_f hk2 ?_ | refine ok_t hk3 ?_ | refine ok_f hk3 ?_ | refine ok_t ha ?_ | refine ok_f ha ?_ | refine ok_t hb ?_ | refine ok_f hb ?_ | refine ok_t hs ?_ | refine ok_f hs ?_
              refine ok_same (by rw [eu, ev]; exact tw.2) (by rw [eu]; exact few_openP fcu) ?_
              refine ok_f rfl ?_
              exact go _ ⟨_, _, _, _, v1.flip, tw.1⟩
          · rcases (@hsplit b pb) with hb | hb
            · skip
              subst es
              repeat first | refine ok_t hk0 ?_ | refine ok_f hk0 ?_ | refine ok_t hk1 ?_ | refine ok_f hk1 ?_ | refine ok_t hk2 ?_ | refine ok_f hk2 ?_ | refine ok_t hk3 ?_ | refine ok_f hk3 ?_ | refine ok_t ha ?_ | refine ok_f ha ?_ | refine ok_t hb ?_ | refine ok_f hb ?_ | refine ok_t hs ?_ | refine ok_f hs ?_
              refine ok_opt (two_open t1 (by omega) s fl) fun r hr => ?_
              obtain ⟨cu, wu, -, fcu, ecu, eu, u1⟩ := hr
              repeat first | refine ok_t hk0 ?_ | refine ok_f hk0 ?_ | refine ok_t hk1 ?_ | refine ok_f hk1 ?_ | refine ok_t hk2 ?_ | refine ok_f hk2 ?_ | refine ok_t hk3 ?_ | refine ok_f hk3 ?_ | refine ok_t ha ?_ | refine ok_f ha ?_ | refine ok_t hb ?_ | refine ok_f hb ?_ | refine ok_t hs ?_ | refine ok_f hs ?_
              refine ok_opt (two_open u1.flip (by omega) s fl) fun r' hr' => ?_
              obtain ⟨cv, wv, -, fcv, ecv, ev, v1⟩ := hr'
              obtain rfl : cu = cv := Option.some.inj (ecu.symm.trans ecv)
              have tw := Twin.open_ t2 fl cu (by have := t1.gA.ns; omega) (by have := t1.gB.ns; omega)
              repeat first | refine ok_t hk0 ?_ | refine ok_f hk0 ?_ | refine ok_t hk1 ?_ | refine ok_f hk1 ?_ | refine ok_t hk2 ?_ | refine ok_f hk2 ?_ | refine ok_t hk3 ?_ | refine ok_f hk3 ?_ | refine ok_t ha ?_ | refine ok_f ha ?_ | refine ok_t hb ?_ | refine ok_f hb ?_ | refine ok_t hs ?_ | refine ok_f hs ?_
              refine ok_same (by rw [eu, ev]; exact tw.2) (by rw [eu]; exact few_openP fcu) ?_
              refine ok_f rfl ?_
              exact go _ ⟨_, _, _, _, v1.flip, tw.1⟩
            · skip
              subst es
              repeat first | refine ok_t hk0 ?_ | refine ok_f hk0 ?_ | refine ok_t hk1 ?_ | refine ok_f hk1 ?_ | refine ok_t hk2 ?_ | refine ok_f hk2 ?_ | refine ok_t hk3 ?_ | refine ok_f hk3 ?_ | refine ok_t ha ?_ | refine ok_f ha ?_ | refine ok_t hb ?_ | refine ok_f hb ?_ | refine ok_t hs ?_ | refine ok_f hs ?_
              refine ok_opt (two_open t1 (by omega) s fl) fun r hr => ?_
              obtain ⟨cu, wu, -, fcu, ecu, eu, u1⟩ := hr
              repeat first | refine ok_t hk0 ?_ | refine ok_f hk0 ?_ | refine ok_t hk1 ?_ | refine ok_f hk1 ?_ | refine ok_t hk2 ?_ | refine ok_f hk2 ?_ | refine ok_t hk3 ?_ | refine ok_f hk3 ?_ | refine ok_t ha ?_ | refine ok_f ha ?_ | refine ok_t hb ?_ | refine ok_f hb ?_ | refine ok_t hs ?_ | refine ok_f hs ?_
              refine ok_opt (two_open u1.flip (by omega) s fl) fun r' hr' => ?_
              obtain ⟨cv, wv, -, fcv, ecv, ev, v1⟩ := hr'
              obtain rfl : cu = cv := Option.some.inj (ecu.symm.trans ecv)
              have tw := Twin.open_ t2 fl cu (by have := t1.gA.ns; omega) (by have := t1.gB.ns; omega)
              repeat first | refine ok_t hk0 ?_ | refine ok_f hk0 ?_ | refine ok_t hk1 ?_ | refine ok_f hk1 ?_ | refine ok_t hk2 ?_ | refine ok_f hk2 ?_ | refine ok_t hk3 ?_ | refine ok_f hk3 ?_ | refine ok_t ha ?_ | refine ok_f ha ?_ | refine ok_t hb ?_ | refine ok_f hb ?_ | refine ok_t hs ?_ | refine ok_f hs ?_
              refine ok_same (by rw [eu, ev]; exact tw.2) (by rw [eu]; exact few_openP fcu) ?_
              refine ok_f rfl ?_
              exact go _ ⟨_, _, _, _, v1.flip, tw.1⟩
        · have hs := beq_f ns
          rcases (@hsplit a nd) with ha | ha
          · rcases (@hsplit b pb) with hb | hb
            · skip
              repeat first | refine ok_t hk0 ?_ | refine ok_f hk0 ?_ | refine ok_t hk1 ?_ | refine ok_f hk1 ?_ | refine ok_t hk2 ?_ | refine ok_f hk2 ?_ | refine ok_t hk3 ?_ | refine ok_f hk3 ?_ | refine ok_t ha ?_ | refine ok_f ha ?_ | refine ok_t hb ?_ | refine ok_f hb ?_ | refine ok_t hs ?_ | refine ok_f hs ?_
              refine ok_opt (two_open t1 (by omega) s fl) fun r hr => ?_
              obtain ⟨cu, wu, -, fcu, ecu, eu, u1⟩ := hr
              repeat first | refine ok_t hk0 ?_ | refine ok_f hk0 ?_ | refine ok_t hk1 ?_ | refine ok_f hk1 ?_ | refine ok_t hk2 ?_ | refine ok_f hk2 ?_ | refine ok_t hk3 ?_ | refine ok_f hk3 ?_ | refine ok_t ha ?_ | refine ok_f ha ?_ | refine ok_t hb ?_ | refine ok_f hb ?_ | refine ok_t hs ?_ | refine ok_f hs ?_
              exact go _ ⟨_, _, _, _, u1.nextB, t2.open_other s ns fl cu⟩
            · skip
              repeat first | refine ok_t hk0 ?_ | refine ok_f hk0 ?_ | refine ok_t hk1 ?_ | refine ok_f hk1 ?_ | refine ok_t hk2 ?_ | refine ok_f hk2 ?_ | refine ok_t hk3 ?_ | refine ok_f hk3 ?_ | refine ok_t ha ?_ | refine ok_f ha ?_ | refine ok_t hb ?_ | refine ok_f hb ?_ | refine ok_t hs ?_ | refine ok_f hs ?_
              refine ok_opt (two_open t1 (by omega) s fl) fun r hr => ?_
              obtain ⟨cu, wu, -, fcu, ecu, eu, u1⟩ := hr
              repeat first | refine ok_t hk0 ?_ | refine ok_f hk0 ?_ | refine ok_t hk1 ?_ | refine ok_f hk1 ?_ | refine ok_t hk2 ?_ | refine ok_f hk2 ?_ | refine ok_t hk3 ?_ | refine ok_f hk3 ?_ | refine ok_t ha ?_ | refine ok_f ha ?_ | refine ok_t hb ?_ | refine ok_f hb ?_ | refine ok_t hs ?_ | refine ok_f hs ?_
              exact go _ ⟨_, _, _, _, u1.nextB, t2.open_other s ns fl cu⟩
          · rcases (@hsplit b pb) with hb | hb
            · skip
              repeat first | refine ok_t hk0 ?_ | refine ok_f hk0 ?_ | refine ok_t hk1 ?_ | refine ok_f hk1 ?_ | refine ok_t hk2 ?_ | refine ok_f hk2 ?_ | refine ok_t hk3 ?_ | refine ok_f hk3 ?_ | refine ok_t ha ?_ | refine ok_f ha ?_ | refine ok_t hb ?_ | refine ok_f hb ?_ | refine ok_t hs ?_ | refine ok_f hs ?_
              refine ok_opt (two_open t1 (by omega) s fl) fun r hr => ?_
              obtain ⟨cu, wu, -, fcu, ecu, eu, u1⟩ := hr
              repeat first | refine ok_t hk0 ?_ | refine ok_f hk0 ?_ | refine ok_t hk1 ?_ | refine ok_f hk1 ?_ | refine ok_t hk2 ?_ | refine ok_f hk2 ?_ | refine ok_t hk3 ?_ | refine ok_f hk3 ?_ | refine ok_t ha ?_ | refine ok_f ha ?_ | refine ok_t hb ?_ | refine ok_f hb ?_ | refine ok_t hs ?_ | refine ok_f hs ?_
              exact go _ ⟨_, _, _, _, u1.nextB, t2.open_other s ns fl cu⟩
            · skip
              repeat first | refine ok_t hk0 ?_ | refine ok_f hk0 ?_ | refine ok_t hk1 ?_ | refine ok_f hk1 ?_ | refine ok_t hk2 ?_ | refine ok_f hk2 ?_ | refine ok_t hk3 ?_ | refine ok_f hk3 ?_ | refine ok_t ha ?_ | refine ok_f ha ?_ | refine ok_t hb ?_ | refine ok_f hb ?_ | refine ok_t hs ?_ | refine ok_f hs ?_
              refine ok_opt (two_open t1 (by omega) s fl) fun r hr => ?_
              obtain ⟨cu, wu, -, fcu, ecu, eu, u1⟩ := hr
              repeat first | refine ok_t hk0 ?_ | refine ok_f hk0 ?_ | refine ok_t hk1 ?_ | refine ok_f hk1 ?_ | refine ok_t hk2 ?_ | refine ok_f hk2 ?_ | refine ok_t hk3 ?_ | refine ok_f hk3 ?_ | refine ok_t ha ?_ | refine ok_f ha ?_ | refine ok_t hb ?_ | refine ok_f hb ?_ | refine ok_t hs ?_ | refine ok_f hs ?_
              exact go _ ⟨_, _, _, _, u1.nextB, t2.open_other s ns fl cu⟩
      rcases (Decidable.em (kd = 2)) with hkd | k2
      · skip
        have hk0 : (kd == 0) = false := by subst hkd; rfl
        have hk1 : (kd == 1) = false := by subst hkd; rfl
        have hk2 : (kd == 2) = true := by subst hkd; rfl
        have hk3 : (kd == 3) = false := by subst hkd; rfl
        rcases (Decidable.em (s = sb)) with es | ns
        · have hs := beq_t es
          rcases (@hsplit a nd) with ha | ha
          · rcases (@hsplit b pb) with hb | hb
            · skip
              subst es
              repeat first | refine ok_t hk0 ?_ | refine ok_f hk0 ?_ | refine ok_t hk1 ?_ | refine ok_f hk1 ?_ | refine ok_t hk2 ?_ | refine ok_f hk2 ?_ | refine ok_t hk3 ?_ | refine ok_f hk3 ?_ | refine ok_t ha ?_ | refine ok_f ha ?_ | refine ok_t hb ?_ | refine ok_f hb ?_ | refine ok_t hs ?_ | refine ok_f hs ?_
              refine ok_opt (two_close t1 s) fun r hr => ?_
              obtain ⟨eu, u1⟩ := hr
              repeat first | refine ok_t hk0 ?_ | refine ok_f hk0 ?_ | refine ok_t hk1 ?_ | refine ok_f hk1 ?_ | refine ok_t hk2 ?_ | refine ok_f hk2 ?_ | refine ok_t hk3 ?_ | refine ok_f hk3 ?_ | refine ok_t ha ?_ | refine ok_f ha ?_ | refine ok_t hb ?_ | refine ok_f hb ?_ | refine ok_t hs ?_ | refine ok_f hs ?_
              refine ok_opt (two_close u1.flip s) fun r' hr' => ?_
              obtain ⟨ev, v1⟩ := hr'
              have tw := t2.close
              repeat first | refine ok_t hk0 ?_ | refine ok_f hk0 ?_ | refine ok_t hk1 ?_ | refine ok_f hk1 ?_ | refine ok_t hk2 ?_ | refine ok_f hk2 ?_ | refine ok_t hk3 ?_ | refine ok_f hk3 ?_ | refine ok_t ha ?_ | refine ok_f ha ?_ | refine ok_t hb ?_ | refine ok_f hb ?_ | refine ok_t hs ?_ | refine ok_f hs ?_
              refine ok_same (by rw [eu, ev]; exact tw.2) (by rw [eu]; exact few_closeP) ?_
              refine ok_f rfl ?_
              exact go _ ⟨_, _, _, _, v1.flip, tw.1⟩
            · skip
              subst es
              repeat first | refine ok_t hk0 ?_ | refine ok_f hk0 ?_ | refine ok_t hk1 ?_ | refine ok_f hk1 ?_ | refine ok_t hk2 ?_ | refine ok_f hk2 ?_ | refine ok_t hk3 ?_ | refine ok_f hk3 ?_ | refine ok_t ha ?_ | refine ok_f ha ?_ | refine ok_t hb ?_ | refine ok_f hb ?_ | refine ok_t hs ?_ | refine ok_f hs ?_
              refine ok_opt (two_close t1 s) fun r hr => ?_
              obtain ⟨eu, u1⟩ := hr
              repeat first | refine ok_t hk0 ?_ | refine ok_f hk0 ?_ | refine ok_t hk1 ?_ | refine ok_f hk1 ?_ | refine ok_t hk2 ?_ | refine ok_f hk2 ?_ | refine ok_t hk3 ?_ | refine ok_f hk3 ?_ | refine ok_t ha ?_ | refine ok_f ha ?_ | refine ok_t hb ?_ | refine ok_f hb ?_ | refine ok_t hs ?_ | refine ok_f hs ?_
              refine ok_opt (two_close u1.flip s) fun r' hr' => ?_
              obtain ⟨ev, v1⟩ := hr'
              have tw := t2.close
              repeat first | refine ok_t hk0 ?_ | refine ok_f hk0 ?_ | refine ok_t hk1 ?_ | refine ok_f hk1 ?_ | refine ok_t hk2 ?_ | refine ok_f hk2 ?_ | refine ok_t hk3 ?_ | refine ok_f hk3 ?_ | refine ok_t ha ?_ | refine ok_f ha ?_ | refine ok_t hb ?_ | refine ok_f hb ?_ | refine ok_t hs ?_ | refine ok_f hs ?_
              refine ok_same (by rw [eu, ev]; exact tw.2) (by rw [eu]; exact few_closeP) ?_
              refine ok_f rfl ?_
              exact go _ ⟨_, _, _, _, v1.flip, tw.1⟩
          · rcases (@hsplit b pb) with hb | hb
            · skip
              subst es
              repeat first | refine ok_t hk0 ?_ | refine ok_f hk0 ?_ | refine ok_t hk1 ?_ | refine ok_f hk1 ?_ | refine ok_t hk2 ?_ | refine ok_f hk2 ?_ | refine ok_t hk3 ?_ | refine ok_f hk3 ?_ | refine ok_t ha ?_ | refine ok_f ha ?_ | refine ok_t hb ?_ | refine ok_f hb ?_ | refine ok_t hs ?_ | refine ok_f hs ?_
              refine ok_opt (two_close t1 s) fun r hr => ?_
              obtain ⟨eu, u1⟩ := hr
              repeat first | refine ok_t hk0 ?_ | refine ok_f hk0 ?_ | refine ok_t hk1 ?_ | refine ok_f hk1 ?_ | refine ok_t hk2 ?_ | refine ok_f hk2 ?_ | refine ok_t hk3 ?_ | refine ok_f hk3 ?_ | refine ok_t ha ?_ | refine ok_f ha ?_ | refine ok_t hb ?_ | refine ok_f hb ?_ | refine ok_t hs ?_ | refine ok_f hs ?_
              refine ok_opt (two_close u1.flip s) fun r' hr' => ?_
              obtain ⟨ev, v1⟩ := hr'
              have tw := t2.close
              repeat first | refine ok_t hk0 ?_ | refine ok_f hk0 ?_ | refine ok_t hk1 ?_ | refine ok_f hk1 ?_ | refine ok_t hk2 ?_ | refine ok_f hk2 ?_ | refine ok_t hk3 ?_ | refine ok_f hk3 ?_ | refine ok_t ha ?_ | refine ok_f ha ?_ | refine ok_t hb ?_ | refine ok_f hb ?_ | refine ok_t hs ?_ | refine ok_f hs ?_
              refine ok_same (by rw [eu, ev]; exact tw.2) (by rw [eu]; exact few_closeP) ?_
              refine ok_f rfl ?_
              exact go _ ⟨_, _, _, _, v1.flip, tw.1⟩
            · skip
              subst es
              repeat first | refine ok_t hk0 ?_ | refine ok_f hk0 ?_ | refine ok_t hk1 ?_ | refine ok_f hk1 ?_ | refine ok_t hk2 ?_ | refine ok_f hk2 ?_ | refine ok_t hk3 ?_ | refine ok_f hk3 ?_ | refine ok_t ha ?_ | refine ok_f ha ?_ | refine ok_t hb ?_ | refine ok_f hb ?_ | refine ok_t hs ?_ | refine ok_f hs ?_
              refine ok_opt (two_close t1 s) fun r hr => ?_
              obtain ⟨eu, u1⟩ := hr
              repeat first | refine ok_t hk0 ?_ | refine ok_f hk0 ?_ | refine ok_t hk1 ?_ | refine ok_f hk1 ?_ | refine ok_t hk2 ?_ | refine ok_f hk2 ?_ | refine ok_t hk3 ?_ | refine ok_f hk3 ?_ | refine ok_t ha ?_ | refine ok_f ha ?_ | refine ok_t hb ?_ | refine ok_f hb ?_ | refine ok_t hs ?_ | refine ok_f hs ?_
              refine ok_opt (two_close u1.flip s) fun r' hr' => ?_
              obtain ⟨ev, v1⟩ := hr'
              have tw := t2.close
              repeat first | refine ok_t hk0 ?_ | refine ok_f hk0 ?_ | refine ok_t hk1 ?_ | refine ok_f hk1 ?_ | refine ok_t hk2 ?_ | refine ok_f hk2 ?_ | refine ok_t hk3 ?_ | refine ok_f hk3 ?_ | refine ok_t ha ?_ | refine ok_f ha ?_ | refine ok_t hb ?_ | refine ok_f hb ?_ | refine ok_t hs ?_ | refine ok_f hs ?_
              refine ok_same (by rw [eu, ev]; exact tw.2) (by rw [eu]; exact few_closeP) ?_
              refine ok_f rfl ?_
              exact go _ ⟨_, _, _, _, v1.flip, tw.1⟩
        · have hs := beq_f ns
          rcases (@hsplit a nd) with ha | ha
          · rcases (@hsplit b pb) with hb | hb
            · skip
              repeat first | refine ok_t hk0 ?_ | refine ok_f hk0 ?_ | refine ok_t hk1 ?_ | refine ok_f hk1 ?_ | refine ok_t hk2 ?_ | refine ok_f hk2 ?_ | refine ok_t hk3 ?_ | refine ok_f hk3 ?_ | refine ok_t ha ?_ | refine ok_f ha ?_ | refine ok_t hb ?_ | refine ok_f hb ?_ | refine ok_t hs ?_ | refine ok_f hs ?_
              refine ok_opt (two_close t1 s) fun r hr => ?_
              obtain ⟨eu, u1⟩ := hr
              repeat first | refine ok_t hk0 ?_ | refine ok_f hk0 ?_ | refine ok_t hk1 ?_ | refine ok_f hk1 ?_ | refine ok_t hk2 ?_ | refine ok_f hk2 ?_ | refine ok_t hk3 ?_ | refine ok_f hk3 ?_ | refine ok_t ha ?_ | refine ok_f ha ?_ | refine ok_t hb ?_ | refine ok_f hb ?_ | refine ok_t hs ?_ | refine ok_f hs ?_
              exact go _ ⟨_, _, _, _, u1.nextB, t2.close_other s ns⟩
            · skip
              repeat first | refine ok_t hk0 ?_ | refine ok_f hk0 ?_ | refine ok_t hk1 ?_ | refine ok_f hk1 ?_ | refine ok_t hk2 ?_ | refine ok_f hk2 ?_ | refine ok_t hk3 ?_ | refine ok_f hk3 ?_ | refine ok_t ha ?_ | refine ok_f ha ?_ | refine ok_t hb ?_ | refine ok_f hb ?_ | refine ok_t hs ?_ | refine ok_f hs ?_
              refine ok_opt (two_close t1 s) fun r hr => ?_
              obtain ⟨eu, u1⟩ := hr
              repeat first | refine ok_t hk0 ?_ | refine ok_f hk0 ?_ | refine ok_t hk1 ?_ | refine ok_f hk1 ?_ | refine ok_t hk2 ?_ | refine ok_f hk2 ?_ | refine ok_t hk3 ?_ | refine ok_f hk3 ?_ | refine ok_t ha ?_ | refine ok_f ha ?_ | refine ok_t hb ?_ | refine ok_f hb ?_ | refine ok_t hs ?_ | refine ok_f hs ?_
              exact go _ ⟨_, _, _, _, u1.nextB, t2.close_other s ns⟩
          · rcases (@hsplit b pb) with hb | hb
            · skip
              repeat first | refine ok_t hk0 ?_ | refine ok_f hk0 ?_ | refine ok_t hk1 ?_ | refine ok_f hk1 ?_ | refine ok_t hk2 ?_ | refine ok_f hk2 ?_ | refine ok_t hk3 ?_ | refine ok_f hk3 ?_ | refine ok_t ha ?_ | refine ok_f ha ?_ | refine ok_t hb ?_ | refine ok_f hb ?_ | refine ok_t hs ?_ | refine ok_f hs ?_
              refine ok_opt (two_close t1 s) fun r hr => ?_
              obtain ⟨eu, u1⟩ := hr
              repeat first | refine ok_t hk0 ?_ | refine ok_f hk0 ?_ | refine ok_t hk1 ?_ | refine ok_f hk1 ?_ | refine ok_t hk2 ?_ | refine ok_f hk2 ?_ | refine ok_t hk3 ?_ | refine ok_f hk3 ?_ | refine ok_t ha ?_ | refine ok_f ha ?_ | refine ok_t hb ?_ | refine ok_f hb ?_ | refine ok_t hs ?_ | refine ok_f hs ?_
              exact go _ ⟨_, _, _, _, u1.nextB, t2.close_other s ns⟩
            · skip
              repeat first | refine ok_t hk0 ?_ | refine ok_f hk0 ?_ | refine ok_t hk1 ?_ | refine ok_f hk1 ?_ | refine ok_t hk2 ?_ | refine ok_f hk2 ?_ | refine ok_t hk3 ?_ | refine ok_f hk3 ?_ | refine ok_t ha ?_ | refine ok_f ha ?_ | refine ok_t hb ?_ | refine ok_f hb ?_ | refine ok_t hs ?_ | refine ok_f hs ?_
              refine ok_opt (two_close t1 s) fun r hr => ?_
              obtain ⟨eu, u1⟩ := hr
              repeat first | refine ok_t hk0 ?_ | refine ok_f hk0 ?_ | refine ok_t hk1 ?_ | refine ok_f hk1 ?_ | refine ok_t hk2 ?_ | refine ok_f hk2 ?_ | refine ok_t hk3 ?_ | refine ok_f hk3 ?_ | refine ok_t ha ?_ | refine ok_f ha ?_ | refine ok_t hb ?_ | refine ok_f hb ?_ | refine ok_t hs ?_ | refine ok_f hs ?_
              exact go _ ⟨_, _, _, _, u1.nextB, t2.close_other s ns⟩
      rcases (Decidable.em (kd = 3)) with hkd | k3
      · skip
        have hk0 : (kd == 0) = false := by subst hkd; rfl
        have hk1 : (kd == 1) = false := by subst hkd; rfl
        have hk2 : (kd == 2) = false := by subst hkd; rfl
        have hk3 : (kd == 3) = true := by subst hkd; rfl
        rcases (Decidable.em (a = nd)) with ea | na
        · have ha := beq_t ea
          rcases (Decidable.em (b = pb)) with eb | nb
          · have hb := beq_t eb
            rcases (Decidable.em (s = sb)) with es | ns
            · have hs := beq_t es
              subst ea eb es
              repeat first | refine ok_t hk0 ?_ | refine ok_f hk0 ?_ | refine ok_t hk1 ?_ | refine ok_f hk1 ?_ | refine ok_t hk2 ?_ | refine ok_f hk2 ?_ | refine ok_t hk3 ?_ | refine ok_f hk3 ?_ | refine ok_t ha ?_ | refine ok_f ha ?_ | refine ok_t hb ?_ | refine ok_f hb ?_ | refine ok_t hs ?_ | refine ok_f hs ?_
              refine ok_opt (two_give t1 (by omega) s a b ix) fun r hr => ?_
              obtain ⟨eu, u1⟩ := hr
              repeat first | refine ok_t hk0 ?_ | refine ok_f hk0 ?_ | refine ok_t hk1 ?_ | refine ok_f hk1 ?_ | refine ok_t hk2 ?_ | refine ok_f hk2 ?_ | refine ok_t hk3 ?_ | refine ok_f hk3 ?_ | refine ok_t ha ?_ | refine ok_f ha ?_ | refine ok_t hb ?_ | refine ok_f hb ?_ | refine ok_t hs ?_ | refine ok_f hs ?_
              refine ok_opt (two_give u1.flip (by omega) s a b ix) fun r' hr' => ?_
              obtain ⟨ev, v1⟩ := hr'
              have tw := t2.give ix
              repeat first | refine ok_t hk0 ?_ | refine ok_f hk0 ?_ | refine ok_t hk1 ?_ | refine ok_f hk1 ?_ | refine ok_t hk2 ?_ | refine ok_f hk2 ?_ | refine ok_t hk3 ?_ | refine ok_f hk3 ?_ | refine ok_t ha ?_ | refine ok_f ha ?_ | refine ok_t hb ?_ | refine ok_f hb ?_ | refine ok_t hs ?_ | refine ok_f hs ?_
              refine ok_same (by rw [eu, ev]; exact tw.2) (by rw [eu]; exact few_giveP) ?_
              refine ok_f rfl ?_
              exact go _ ⟨_, _, _, _, v1.flip, tw.1⟩
            · have hs := beq_f ns
              repeat first | refine ok_t hk0 ?_ | refine ok_f hk0 ?_ | refine ok_t hk1 ?_ | refine ok_f hk1 ?_ | refine ok_t hk2 ?_ | refine ok_f hk2 ?_ | refine ok_t hk3 ?_ | refine ok_f hk3 ?_ | refine ok_t ha ?_ | refine ok_f ha ?_ | refine ok_t hb ?_ | refine ok_f hb ?_ | refine ok_t hs ?_ | refine ok_f hs ?_
              refine ok_opt (two_give t1 (by omega) s a b ix) fun r hr => ?_
              obtain ⟨eu, u1⟩ := hr
              repeat first | refine ok_t hk0 ?_ | refine ok_f hk0 ?_ | refine ok_t hk1 ?_ | refine ok_f hk1 ?_ | refine ok_t hk2 ?_ | refine ok_f hk2 ?_ | refine ok_t hk3 ?_ | refine ok_f hk3 ?_ | refine ok_t ha ?_ | refine ok_f ha ?_ | refine ok_t hb ?_ | refine ok_f hb ?_ | refine ok_t hs ?_ | refine ok_f hs ?_
              exact go _ ⟨_, _, _, _, u1.nextB, t2.give_other s a b ix (.inl ns)⟩
          · have hb := beq_f nb
            rcases (@hsplit s sb) with hs | hs
            · skip
              repeat first | refine ok_t hk0 ?_ | refine ok_f hk0 ?_ | refine ok_t hk1 ?_ | refine ok_f hk1 ?_ | refine ok_t hk2 ?_ | refine ok_f hk2 ?_ | refine ok_t hk3 ?_ | refine ok_f hk3 ?_ | refine ok_t ha ?_ | refine ok_f ha ?_ | refine ok_t hb ?_ | refine ok_f hb ?_ | refine ok_t hs ?_ | refine ok_f hs ?_
              refine ok_opt (two_give t1 (by omega) s a b ix) fun r hr => ?_
              obtain ⟨eu, u1⟩ := hr
              repeat first | refine ok_t hk0 ?_ | refine ok_f hk0 ?_ | refine ok_t hk1 ?_ | refine ok_f hk1 ?_ | refine ok_t hk2 ?_ | refine ok_f hk2 ?_ | refine ok_t hk3 ?_ | refine ok_f hk3 ?_ | refine ok_t ha ?_ | refine ok_f ha ?_ | refine ok_t hb ?_ | refine ok_f hb ?_ | refine ok_t hs ?_ | refine ok_f hs ?_
              exact go _ ⟨_, _, _, _, u1.nextB, t2.give_other s a b ix (.inr fun c => nb (congrArg (·.2) c))⟩
            · skip
              repeat first | refine ok_t hk0 ?_ | refine ok_f hk0 ?_ | refine ok_t hk1 ?_ | refine ok_f hk1 ?_ | refine ok_t hk2 ?_ | refine ok_f hk2 ?_ | refine ok_t hk3 ?_ | refine ok_f hk3 ?_ | refine ok_t ha ?_ | refine ok_f ha ?_ | refine ok_t hb ?_ | refine ok_f hb ?_ | refine ok_t hs ?_ | refine ok_f hs ?_
              refine ok_opt (two_give t1 (by omega) s a b ix) fun r hr => ?_
              obtain ⟨eu, u1⟩ := hr
              repeat first | refine ok_t hk0 ?_ | refine ok_f hk0 ?_ | refine ok_t hk1 ?_ | refine ok_f hk1 ?_ | refine ok_t hk2 ?_ | refine ok_f hk2 ?_ | refine ok_t hk3 ?_ | refine ok_f hk3 ?_ | refine ok_t ha ?_ | refine ok_f ha ?_ | refine ok_t hb ?_ | refine ok_f hb ?_ | refine ok_t hs ?_ | refine ok_f hs ?_
              exact go _ ⟨_, _, _, _, u1.nextB, t2.give_other s a b ix (.inr fun c => nb (congrArg (·.2) c))⟩
        · have ha := beq_f na
          rcases (@hsplit b pb) with hb | hb
          · rcases (@hsplit s sb) with hs | hs
            · skip
              repeat first | refine ok_t hk0 ?_ | refine ok_f hk0 ?_ | refine ok_t hk1 ?_ | refine ok_f hk1 ?_ | refine ok_t hk2 ?_ | refine ok_f hk2 ?_ | refine ok_t hk3 ?_ | refine ok_f hk3 ?_ | refine ok_t ha ?_ | refine ok_f ha ?_ | refine ok_t hb ?_ | refine ok_f hb ?_ | refine ok_t hs ?_ | refine ok_f hs ?_
              refine ok_opt (two_give t1 (by omega) s a b ix) fun r hr => ?_
              obtain ⟨eu, u1⟩ := hr
              repeat first | refine ok_t hk0 ?_ | refine ok_f hk0 ?_ | refine ok_t hk1 ?_ | refine ok_f hk1 ?_ | refine ok_t hk2 ?_ | refine ok_f hk2 ?_ | refine ok_t hk3 ?_ | refine ok_f hk3 ?_ | refine ok_t ha ?_ | refine ok_f ha ?_ | refine ok_t hb ?_ | refine ok_f hb ?_ | refine ok_t hs ?_ | refine ok_f hs ?_
              exact go _ ⟨_, _, _, _, u1.nextB, t2.give_other s a b ix (.inr fun c => na (congrArg (·.1) c))⟩
            · skip
              repeat first | refine ok_t hk0 ?_ | refine ok_f hk0 ?_ | refine ok_t hk1 ?_ | refine ok_f hk1 ?_ | refine ok_t hk2 ?_ | refine ok_f hk2 ?_ | refine ok_t hk3 ?_ | refine ok_f hk3 ?_ | refine ok_t ha ?_ | refine ok_f ha ?_ | refine ok_t hb ?_ | refine ok_f hb ?_ | refine ok_t hs ?_ | refine ok_f hs ?_
              refine ok_opt (two_give t1 (by omega) s a b ix) fun r hr => ?_
              obtain ⟨eu, u1⟩ := hr
              repeat first | refine ok_t hk0 ?_ | refine ok_f hk0 ?_ | refine ok_t hk1 ?_ | refine ok_f hk1 ?_ | refine ok_t hk2 ?_ | refine ok_f hk2 ?_ | refine ok_t hk3 ?_ | refine ok_f hk3 ?_ | refine ok_t ha ?_ | refine ok_f ha ?_ | refine ok_t hb ?_ | refine ok_f hb ?_ | refine ok_t hs ?_ | refine ok_f hs ?_
              exact go _ ⟨_, _, _, _, u1.nextB, t2.give_other s a b ix (.inr fun c => na (congrArg (·.1) c))⟩
          · rcases (@hsplit s sb) with hs | hs
            · skip
              repeat first | refine ok_t hk0 ?_ | refine ok_f hk0 ?_ | refine ok_t hk1 ?_ | refine ok_f hk1 ?_ | refine ok_t hk2 ?_ | refine ok_f hk2 ?_ | refine ok_t hk3 ?_ | refine ok_f hk3 ?_ | refine ok_t ha ?_ | refine ok_f ha ?_ | refine ok_t hb ?_ | refine ok_f hb ?_ | refine ok_t hs ?_ | refine ok_f hs ?_
              refine ok_opt (two_give t1 (by omega) s a b ix) fun r hr => ?_
              obtain ⟨eu, u1⟩ := hr
              repeat first | refine ok_t hk0 ?_ | refine ok_f hk0 ?_ | refine ok_t hk1 ?_ | refine ok_f hk1 ?_ | refine ok_t hk2 ?_ | refine ok_f hk2 ?_ | refine ok_t hk3 ?_ | refine ok_f hk3 ?_ | refine ok_t ha ?_ | refine ok_f ha ?_ | refine ok_t hb ?_ | refine ok_f hb ?_ | refine ok_t hs ?_ | refine ok_f hs ?_
              exact go _ ⟨_, _, _, _, u1.nextB, t2.give_other s a b ix (.inr fun c => na (congrArg (·.1) c))⟩
            · skip
              repeat first | refine ok_t hk0 ?_ | refine ok_f hk0 ?_ | refine ok_t hk1 ?_ | refine ok_f hk1 ?_ | refine ok_t hk2 ?_ | refine ok_f hk2 ?_ | refine ok_t hk3 ?_ | refine ok_f hk3 ?_ | refine ok_t ha ?_ | refine ok_f ha ?_ | refine ok_t hb ?_ | refine ok_f hb ?_ | refine ok_t hs ?_ | refine ok_f hs ?_
              refine ok_opt (two_give t1 (by omega) s a b ix) fun r hr => ?_
              obtain ⟨eu, u1⟩ := hr
              repeat first | refine ok_t hk0 ?_ | refine ok_f hk0 ?_ | refine ok_t hk1 ?_ | refine ok_f hk1 ?_ | refine ok_t hk2 ?_ | refine ok_f hk2 ?_ | refine ok_t hk3 ?_ | refine ok_f hk3 ?_ | refine ok_t ha ?_ | refine ok_f ha ?_ | refine ok_t hb ?_ | refine ok_f hb ?_ | refine ok_t hs ?_ | refine ok_f hs ?_
              exact go _ ⟨_, _, _, _, u1.nextB, t2.give_other s a b ix (.inr fun c => na (congrArg (·.1) c))⟩
      have hk0 : (kd == 0) = false := beq_f k0
      have hk1 : (kd == 1) = false := beq_f k1
      have hk2 : (kd == 2) = false := beq_f k2
      have hk3 : (kd == 3) = false := beq_f k3
      rcases (@hsplit a nd) with ha | ha
      · rcases (@hsplit b pb) with hb | hb
        · rcases (@hsplit s sb) with hs | hs
          · skip
            repeat first | refine ok_t hk0 ?_ | refine ok_f hk0 ?_ | refine ok_t hk1 ?_ | refine ok_f hk1 ?_ | refine ok_t hk2 ?_ | refine ok_f hk2 ?_ | refine ok_t hk3 ?_ | refine ok_f hk3 ?_ | refine ok_t ha ?_ | refine ok_f ha ?_ | refine ok_t hb ?_ | refine ok_f hb ?_ | refine ok_t hs ?_ | refine ok_f hs ?_
            exact go _ ⟨_, _, _, _, ⟨t1.l, t1.one, t1.apart, t1.gA.next, t1.gB.next⟩, t2⟩
          · skip
            repeat first | refine ok_t hk0 ?_ | refine ok_f hk0 ?_ | refine ok_t hk1 ?_ | refine ok_f hk1 ?_ | refine ok_t hk2 ?_ | refine ok_f hk2 ?_ | refine ok_t hk3 ?_ | refine ok_f hk3 ?_ | refine ok_t ha ?_ | refine ok_f ha ?_ | refine ok_t hb ?_ | refine ok_f hb ?_ | refine ok_t hs ?_ | refine ok_f hs ?_
            exact go _ ⟨_, _, _, _, ⟨t1.l, t1.one, t1.apart, t1.gA.next, t1.gB.next⟩, t2⟩
        · rcases (@hsplit s sb) with hs | hs
          · skip
            repeat first | refine ok_t hk0 ?_ | refine ok_f hk0 ?_ | refine ok_t hk1 ?_ | refine ok_f hk1 ?_ | refine ok_t hk2 ?_ | refine ok_f hk2 ?_ | refine ok_t hk3 ?_ | refine ok_f hk3 ?_ | refine ok_t ha ?_ | refine ok_f ha ?_ | refine ok_t hb ?_ | refine ok_f hb ?_ | refine ok_t hs ?_ | refine ok_f hs ?_
            exact go _ ⟨_, _, _, _, ⟨t1.l, t1.one, t1.apart, t1.gA.next, t1.gB.next⟩, t2⟩
          · skip
            repeat first | refine ok_t hk0 ?_ | refine ok_f hk0 ?_ | refine ok_t hk1 ?_ | refine ok_f hk1 ?_ | refine ok_t hk2 ?_ | refine ok_f hk2 ?_ | refine ok_t hk3 ?_ | refine ok_f hk3 ?_ | refine ok_t ha ?_ | refine ok_f ha ?_ | refine ok_t hb ?_ | refine ok_f hb ?_ | refine ok_t hs ?_ | refine ok_f hs ?_
            exact go _ ⟨_, _, _, _, ⟨t1.l, t1.one, t1.apart, t1.gA.next, t1.gB.next⟩, t2⟩
      · rcases (@hsplit b pb) with hb | hb
        · rcases (@hsplit s sb) with hs | hs
          · skip
            repeat first | refine ok_t hk0 ?_ | refine ok_f hk0 ?_ | refine ok_t hk1 ?_ | refine ok_f hk1 ?_ | refine ok_t hk2 ?_ | refine ok_f hk2 ?_ | refine ok_t hk3 ?_ | refine ok_f hk3 ?_ | refine ok_t ha ?_ | refine ok_f ha ?_ | refine ok_t hb ?_ | refine ok_f hb ?_ | refine ok_t hs ?_ | refine ok_f hs ?_
            exact go _ ⟨_, _, _, _, ⟨t1.l, t1.one, t1.apart, t1.gA.next, t1.gB.next⟩, t2⟩
          · skip
            repeat first | refine ok_t hk0 ?_ | refine ok_f hk0 ?_ | refine ok_t hk1 ?_ | refine ok_f hk1 ?_ | refine ok_t hk2 ?_ | refine ok_f hk2 ?_ | refine ok_t hk3 ?_ | refine ok_f hk3 ?_ | refine ok_t ha ?_ | refine ok_f ha ?_ | refine ok_t hb ?_ | refine ok_f hb ?_ | refine ok_t hs ?_ | refine ok_f hs ?_
            exact go _ ⟨_, _, _, _, ⟨t1.l, t1.one, t1.apart, t1.gA.next, t1.gB.next⟩, t2⟩
        · rcases (@hsplit s sb) with hs | hs
          · skip
            repeat first | refine ok_t hk0 ?_ | refine ok_f hk0 ?_ | refine ok_t hk1 ?_ | refine ok_f hk1 ?_ | refine ok_t hk2 ?_ | refine ok_f hk2 ?_ | refine ok_t hk3 ?_ | refine ok_f hk3 ?_ | refine ok_t ha ?_ | refine ok_f ha ?_ | refine ok_t hb ?_ | refine ok_f hb ?_ | refine ok_t hs ?_ | refine ok_f hs ?_
            exact go _ ⟨_, _, _, _, ⟨t1.l, t1.one, t1.apart, t1.gA.next, t1.gB.next⟩, t2⟩
          · skip
            repeat first | refine ok_t hk0 ?_ | refine ok_f hk0 ?_ | refine ok_t hk1 ?_ | refine ok_f hk1 ?_ | refine ok_t hk2 ?_ | refine ok_f hk2 ?_ | refine ok_t hk3 ?_ | refine ok_f hk3 ?_ | refine ok_t ha ?_ | refine ok_f ha ?_ | refine ok_t hb ?_ | refine ok_f hb ?_ | refine ok_t hs ?_ | refine ok_f hs ?_
            exact go _ ⟨_, _, _, _, ⟨t1.l, t1.one, t1.apart, t1.gA.next, t1.gB.next⟩, t2⟩
    · have hi : i = ops.length := by have := of_decide_eq_false h; omega
      subst hi
      exact ⟨rfl, rfl, rfl, rfl, rfl, rfl, hst⟩
end Go.Proofs.YtldkdhfcbopbhaaDoor
